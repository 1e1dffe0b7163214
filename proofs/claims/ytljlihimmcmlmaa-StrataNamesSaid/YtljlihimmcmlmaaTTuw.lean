/- The walk of turned: the function. -/
import Derived.Test.YtljlihimmcmlmaaTTur
import Derived.StillTailTactics
namespace Go.Proofs.Ytljlihimmcmlmaa
set_option linter.unusedVariables false
set_option linter.unusedSimpArgs false
open Go.RowKit
theorem seven {α : Type} {l : List α} (h : l.length = 7) : ∃ a b c d e f g, l = [a, b, c, d, e, f, g] := by
  match l, h with
  | [a, b, c, d, e, f, g], _ => exact ⟨a, b, c, d, e, f, g, rfl⟩
theorem At.far7 {w : World} {g b : Nat} {t : TypeId} {cs : Array Value} (h : At w g t cs) (hne : g ≠ b) (o : Nat) (a0 a1 a2 a3 a4 a5 a6 : Value) : At (((((((w.setCell ⟨b, o, none⟩ a0).setCell ⟨b, o + 1, none⟩ a1).setCell ⟨b, o + 2, none⟩ a2).setCell ⟨b, o + 3, none⟩ a3).setCell ⟨b, o + 4, none⟩ a4).setCell ⟨b, o + 5, none⟩ a5).setCell ⟨b, o + 6, none⟩ a6) g t cs :=
  ((((((h.far hne _).far hne _).far hne _).far hne _).far hne _).far hne _).far hne _
theorem below7 {w w' : World} {B b : Nat} (h : Below B w w') (hb : B ≤ b) (o : Nat) (a0 a1 a2 a3 a4 a5 a6 : Value) : Below B w (((((((w'.setCell ⟨b, o, none⟩ a0).setCell ⟨b, o + 1, none⟩ a1).setCell ⟨b, o + 2, none⟩ a2).setCell ⟨b, o + 3, none⟩ a3).setCell ⟨b, o + 4, none⟩ a4).setCell ⟨b, o + 5, none⟩ a5).setCell ⟨b, o + 6, none⟩ a6) :=
  ((((((h.setCell hb _).setCell hb _).setCell hb _).setCell hb _).setCell hb _).setCell hb _).setCell hb _
theorem PB.drew {w : World} {g n : Nat} {f : Nat → List Value} (h : PB w g n f) : PB w.drew g n f := h
theorem own_drew {w : World} {B n size : Nat} {e : TypeId} {v : Value} {xs : List Value} (h : w.ownsRow B e size v n xs) : w.drew.ownsRow B e size v n xs := h
theorem lcells_one (l : List Lit9) : ∀ u ∈ lcells l, u.oneCell' = true := fun u hu => by
  obtain ⟨r, _, h⟩ := List.mem_flatMap.1 hu
  unfold Lit9.fs at h
  simp at h
  rcases h with rfl | rfl | rfl | rfl | rfl | rfl | rfl | rfl | rfl <;> rfl
theorem own_at {w : World} {B c n : Nat} {A : Option Addr} {e : TypeId} {size : Nat} {xs : List Value} (h : w.ownsRow B e size (.slice A n c) n xs) (hn : 0 < n) : ∃ g, A = some ⟨g, 0, none⟩ ∧ g < w.heap.size ∧ (∀ (j : Nat) (u : Value), xs[j]? = some u → w.cell? ⟨g, j, none⟩ = some u) ∧ ∀ i, w.frozen? ⟨g, i, none⟩ = false := by
  rcases h.2 with ⟨h2, h3⟩ | ⟨g, cap, cur, hv, hB, hh, h3, h4, h5, h6⟩
  · omega
  · injection hv with e1 _ e3
    subst e1
    have ha : At w g e cur := hh
    refine ⟨g, rfl, ha.lt, fun j u hu => ?_, fun i => ha.frozen i⟩
    rw [ha.cell]
    rw [← h6, List.getElem?_take] at hu
    split at hu
    · simpa using hu
    · cases hu
theorem rem_rot (n k a : Nat) : Int.tmod ((a : Int) + (k : Int)) (n : Int) = ((rot n k a : Nat) : Int) := by
  unfold rot
  rw [Int.tmod_eq_emod_of_nonneg (by omega), ← Int.natCast_add]
  exact (Int.natCast_emod _ _).symm
theorem set_same {α : Type} {l : List α} {i : Nat} {x : α} (h : l[i]? = some x) : l.set i x = l := by
  obtain ⟨hi, e⟩ := List.getElem?_eq_some_iff.1 h
  rw [← e, List.set_getElem_self]
theorem rotL_in {n k : Nat} {l : Lit9} (h : 0 ≤ l.pred ∧ l.pred < n) : (rotL n k l).pred = ((rot n k l.pred.toNat : Nat) : Int) := by
  unfold rotL rotX
  dsimp only
  rw [if_pos h]
def zeroP : List Value := [.string ⟨#[]⟩, .slice none 0 0, .string ⟨#[]⟩, .int .i64 0, .bool false, .int .i64 0, .int .i64 0]
def fillP (p : Pg) (n k i v : Nat) : List Value := match (List.range i).find? fun j => decide (rot n k j = v) with
  | some j => ((p.prs[j]?).map Pr.fs).getD zeroP
  | none => zeroP
theorem fill_len (p : Pg) (n k i v : Nat) : (fillP p n k i v).length = 7 := by
  unfold fillP
  split
  · rename_i j _
    cases p.prs[j]? <;> rfl
  · rfl
theorem fill_new {p : Pg} {n k i : Nat} {r : Pr} (hk : k < n) (hi : i < n) (hr : p.prs[i]? = some r) : fillP p n k (i + 1) (rot n k i) = r.fs := by
  unfold fillP
  rw [List.range_succ, List.find?_append]
  have h0 : (List.range i).find? (fun j => decide (rot n k j = rot n k i)) = none := List.find?_eq_none.2 fun j hj => by
    have hj := List.mem_range.1 hj
    simp only [decide_eq_true_eq]
    intro e
    have := rot_inj (by omega) hi hk e
    omega
  rw [h0]
  simp [hr]
theorem fill_old {p : Pg} {n k i v : Nat} (h : v ≠ rot n k i) : fillP p n k (i + 1) v = fillP p n k i v := by
  unfold fillP
  rw [List.range_succ, List.find?_append]
  cases hq : (List.range i).find? (fun j => decide (rot n k j = v)) with
  | some j => rfl
  | none =>
    have : decide (rot n k i = v) = false := decide_eq_false (fun e => h e.symm)
    simp [this]
theorem fill_end {p : Pg} {n k j : Nat} {r : Pr} (hk : k < n) (hj : j < n) (hr : p.prs[j]? = some r) : fillP p n k n (rot n k j) = r.fs := by
  unfold fillP
  have h0 : (List.range n).find? (fun i => decide (rot n k i = rot n k j)) = some j := List.find?_range_eq_some.2 ⟨by simp, List.mem_range.2 hj, fun i hi => by
    simp only [Bool.not_eq_true', decide_eq_false_iff_not]
    intro e
    have := rot_inj (by omega) hj hk e
    omega⟩
  rw [h0]
  simp [hr]
/-- The predicates as they stand behind the first loop. -/
theorem turned_prs {p : Pg} {n k : Nat} (hn : p.prs.length = n) (hk : k < n) : ∃ PL : List Pr, PL.length = n ∧ ∀ v < n, ∀ x, PL[v]? = some x → fillP p n k n v = x.fs ∧ ∀ j, j < n → rot n k j = v → p.prs[j]? = some x := by
  have key : ∀ v, v < n → ∃ x : Pr, fillP p n k n v = x.fs ∧ ∀ j, j < n → rot n k j = v → p.prs[j]? = some x := fun v hv => by
    obtain ⟨i, hi, rfl⟩ := rot_sur hv hk
    obtain ⟨r, hr⟩ : ∃ r, p.prs[i]? = some r := ⟨_, List.getElem?_eq_getElem (by omega)⟩
    exact ⟨r, fill_end hk hi hr, fun j hj e => by rw [rot_inj hj hi hk e]; exact hr⟩
  obtain ⟨PL, h1, h2⟩ := list_of (P := fun v (x : Pr) => fillP p n k n v = x.fs ∧ ∀ j, j < n → rot n k j = v → p.prs[j]? = some x) n key
  exact ⟨PL, h1, fun v _ x hx => h2 v x hx⟩
theorem rotX_i64 {n k : Nat} {x : Int} (hn : n ≤ 1000) (h : I64 x) : I64 (rotX n k x) := by
  unfold rotX
  split
  · rename_i hx
    have := rot_lt (n := n) (k := k) (i := x.toNat) (by omega)
    unfold I64
    omega
  · exact h
theorem pb_zero {w : World} {g n : Nat} (p : Pg) (k : Nat) (h : At w g 53 (madeCells (Value.agg zeroP.toArray).cells (n * 7))) : PB w g n (fillP p n k 0) := by
  refine ⟨_, h, by simp [madeCells], fun v hv m u hm => ?_⟩
  have e : fillP p n k 0 v = zeroP := rfl
  rw [e] at hm
  have hm7 : m < 7 := (List.getElem?_eq_some_iff.1 hm).1
  have hlt : v * 7 + m < n * 7 := by omega
  have h1 : (v * 7 + m) % 7 = m := by omega
  simp only [madeCells]
  match m, hm with
  | 0, hm => simp [zeroP] at hm; subst hm; rw [Nat.add_zero] at hlt h1 ⊢; simp [zeroP, Value.cells, hlt, h1]
  | 1, hm => simp [zeroP] at hm; subst hm; simp [zeroP, Value.cells, hlt, h1]
  | 2, hm => simp [zeroP] at hm; subst hm; simp [zeroP, Value.cells, hlt, h1]
  | 3, hm => simp [zeroP] at hm; subst hm; simp [zeroP, Value.cells, hlt, h1]
  | 4, hm => simp [zeroP] at hm; subst hm; simp [zeroP, Value.cells, hlt, h1]
  | 5, hm => simp [zeroP] at hm; subst hm; simp [zeroP, Value.cells, hlt, h1]
  | 6, hm => simp [zeroP] at hm; subst hm; simp [zeroP, Value.cells, hlt, h1]
  | m + 7, hm => simp [zeroP] at hm
theorem run_make_pred {i : TypeInfo} (w : World) (hi : Try.prog.info? 53 = some i) (hz : i.zero = some (.agg zeroP.toArray)) (h1 : i.size = 7) (hb : i.bytes = 88) (n : Nat) (hn : n ≤ 1000000) :
    (Instr.makeSlice 24 (.int .i64 (n : Int)) (.int .i64 (n : Int))).run Try.prog w = .ok (.slice (some ⟨w.heap.size, 0, none⟩) n n) (w.alloc (.cells (madeCells (Value.agg zeroP.toArray).cells (n * 7)) 53)) := by
  rw [run_makeSlice w 24 53 i _ Try.underlying24 hi hz .i64 .i64 n n (by omega) (by omega) (by rw [h1]; simp; omega) (by rw [hb]; omega) (by omega)]
  rw [h1, Int.toNat_natCast]
set_option maxHeartbeats 4000000 in
set_option maxRecDepth 100000 in
theorem turned_any (p : Pg) (n k : Nat) (w : World) (hp : PgOk w p) (hnil : NilOk p) (hn : p.prs.length = n) (hk : k < n) (hn1 : n ≤ 1000) (hrs : p.rus.length ≤ 1000) (hls : ∀ r ∈ p.rus, r.lits.length ≤ 1000) :
    Calls Try.prog 27 #[p.v, .int .i64 (k : Int)] w fun e w' => ∃ q : Pg, e = .returned q.v ∧ PgOk w' q ∧ Turn p q n k ∧ Below w.heap.size w w' := by
  have HRU := Lib.hid (fun W (h : Below w.heap.size w W) (k : Nat) (r : Ru) (hk : p.rus[k]? = some r) => ruAt (hp.below h) hk)
  have HPR := Lib.hid (fun W (h : Below w.heap.size w W) (i : Nat) (r : Pr) (hr : p.prs[i]? = some r) => prs_at (hp.below h) hr)
  have HRO := Lib.hid hp.each
  have HNB := Lib.hid (fun r (hr : r ∈ p.rus) (h : r.ba = none) => (show r.lits.length = 0 ∧ r.bc = 0 from by
    have h1 := hnil.2 r hr h
    have h2 := (hp.each r hr).cap.1
    exact ⟨by omega, h1⟩))
  have HLS := Lib.hid hls
  have HPG := Lib.hid hn
  clear hp hnil hls
  unfold Pg.v
  generalize p.ra = ra at *
  generalize p.pa = pa at *
  rw [hn]
  obtain ⟨ip, hip, hzp0, hzp1, hzp2⟩ := info_of pred_info
  obtain ⟨ir, hir, hzr0, hzr1, hzr2⟩ := info_of rule_info
  obtain ⟨il, hil, hzl0, hzl1, hzl2⟩ := info_of lit_info
  obtain ⟨w1, hw1⟩ : ∃ w1, w1 = (w.alloc (.cells #[.slice p.lat.a p.lat.n p.lat.c, .slice p.fns.a p.fns.n p.fns.c, .slice pa n p.pc, .slice ra p.rus.length p.rc] 27)).alloc (.cells #[.slice none 0 0, .slice none 0 0, .slice none 0 0, .slice none 0 0] 27) := ⟨_, rfl⟩
  have q0 := run_make_pred w1 hip hzp0 hzp1 hzp2 n (by omega)
  have hs1 : w1.heap.size = w.heap.size + 2 := by rw [hw1]; simp
  have hat1 : At w1 w.heap.size 27 #[.slice p.lat.a p.lat.n p.lat.c, .slice p.fns.a p.fns.n p.fns.c, .slice pa n p.pc, .slice ra p.rus.length p.rc] := by rw [hw1]; exact (At.new _ _ _).alloc _
  have hrt1 : At w1 (w.heap.size + 1) 27 #[.slice none 0 0, .slice none 0 0, .slice none 0 0, .slice none 0 0] := by rw [hw1]; exact At.newAt (by simp) _ _
  have hbw1 : Below w.heap.size w w1 := by rw [hw1]; exact (below1 _ _).alloc (by simp) _
  rw [hw1] at q0
  go_enter Try.func27, Try.ntmps27
  go_wp2_with fail
  have hpb : PB (((((w.alloc (.cells #[.slice p.lat.a p.lat.n p.lat.c, .slice p.fns.a p.fns.n p.fns.c, .slice pa n p.pc, .slice ra p.rus.length p.rc] 27)).alloc (.cells #[.slice none 0 0, .slice none 0 0, .slice none 0 0, .slice none 0 0] 27)).alloc (.cells (madeCells zeroP.toArray (n * 7)) 53)).alloc (.cells #[.slice none 0 0, .slice none 0 0, .slice (some ⟨w.heap.size + 1 + 1, 0, none⟩) n n, .slice none 0 0] 27))) (w.heap.size + 1 + 1) n (fillP p n k 0) :=
    pb_zero p k ((At.newAt (by simp) _ _).alloc _)
  have hgo : At (((((w.alloc (.cells #[.slice p.lat.a p.lat.n p.lat.c, .slice p.fns.a p.fns.n p.fns.c, .slice pa n p.pc, .slice ra p.rus.length p.rc] 27)).alloc (.cells #[.slice none 0 0, .slice none 0 0, .slice none 0 0, .slice none 0 0] 27)).alloc (.cells (madeCells zeroP.toArray (n * 7)) 53)).alloc (.cells #[.slice none 0 0, .slice none 0 0, .slice (some ⟨w.heap.size + 1 + 1, 0, none⟩) n n, .slice none 0 0] 27))) (w.heap.size + 1 + 1 + 1) 27 #[.slice none 0 0, .slice none 0 0, .slice (some ⟨w.heap.size + 1 + 1, 0, none⟩) n n, .slice none 0 0] := At.newAt (by simp) _ _
  rw [← hw1] at hpb hgo ⊢
  have hbn : Below w1.heap.size w1 ((w1.alloc (.cells (madeCells zeroP.toArray (n * 7)) 53)).alloc (.cells #[.slice none 0 0, .slice none 0 0, .slice (some ⟨w.heap.size + 1 + 1, 0, none⟩) n n, .slice none 0 0] 27)) := (below1 _ _).alloc (by simp) _
  have hat4 := hat1.next hbn
  have hrt4 := hrt1.next hbn
  have hbw4 := hbw1.trans (hbn.mono hbw1.size)
  have hsz4 : ((w1.alloc (.cells (madeCells zeroP.toArray (n * 7)) 53)).alloc (.cells #[.slice none 0 0, .slice none 0 0, .slice (some ⟨w.heap.size + 1 + 1, 0, none⟩) n n, .slice none 0 0] 27)).heap.size = w.heap.size + 1 + 1 + 1 + 1 := by simp; omega
  clear q0 hs1 hat1 hrt1 hbw1 hw1 hbn
  generalize (w1.alloc (.cells (madeCells zeroP.toArray (n * 7)) 53)).alloc (.cells #[.slice none 0 0, .slice none 0 0, .slice (some ⟨w.heap.size + 1 + 1, 0, none⟩) n n, .slice none 0 0] 27) = w4 at *
  have l1 : w.heap.size < w.heap.size + 1 := by omega
  have l2 : w.heap.size + 1 < w.heap.size + 1 + 1 := by omega
  have l3 : w.heap.size + 1 + 1 < w.heap.size + 1 + 1 + 1 := by omega
  have l4 : w.heap.size + 1 + 1 + 1 < w4.heap.size := by omega
  clear hsz4
  generalize w.heap.size + 1 + 1 + 1 = go at *
  generalize w.heap.size + 1 + 1 = gp at *
  generalize w.heap.size + 1 = br at *
  go_loopw [7] (fun iv wr => ∃ i : Nat, i ≤ n ∧ iv = .int .i64 i ∧ PB wr gp n (fillP p n k i) ∧ At wr go 27 #[.slice none 0 0, .slice none 0 0, .slice (some ⟨gp, 0, none⟩) n n, .slice none 0 0] ∧ At wr br 27 #[.slice none 0 0, .slice none 0 0, .slice none 0 0, .slice none 0 0] ∧ At wr w.heap.size 27 #[.slice p.lat.a p.lat.n p.lat.c, .slice p.fns.a p.fns.n p.fns.c, .slice pa n p.pc, .slice ra p.rus.length p.rc] ∧ Below w.heap.size w wr ∧ w4.heap.size ≤ wr.heap.size) (fun iv _ => n - (intOf iv).toNat)
  case atStart => exact ⟨0, by omega, rfl, hpb, hgo, hrt4, hat4, hbw4, Nat.le_refl _⟩
  case round =>
    clear hpb hgo hrt4 hat4 hbw4
    obtain ⟨i, hi, rfl, hpb, hgo, hrt, hat, hb, hsz⟩ := hrel
    obtain ⟨p0, p1, p2, p3⟩ := pg_cells hat
    by_cases h1 : i < n
    · have d1 : decide ((i : Int) < (n : Int)) = true := by simp; omega
      have d1' : decide (i < n) = true := by simp; omega
      obtain ⟨r, hr⟩ : ∃ r, p.prs[i]? = some r := ⟨_, List.getElem?_eq_getElem (by rw [HPG.out]; exact h1)⟩
      obtain ⟨g, o, rfl, hg, c0, c1, c2, c3, c4, c5, c6⟩ := HPR.out wr hb i r hr
      have hfn := fill_new hk h1 hr
      have hfo := fun v (hv : v ≠ rot n k i) => fill_old (p := p) hv
      have hrl := rot_lt (n := n) (k := k) h1
      have hrq : Int.tmod ((i : Int) + (k : Int)) (n : Int) = ((rot n k i : Nat) : Int) := by
        unfold rot
        rw [Int.tmod_eq_emod_of_nonneg (by omega), ← Int.natCast_add]; exact (Int.natCast_emod _ _).symm
      generalize rot n k i = t at *
      obtain ⟨z0, z1, z2, z3, z4, z5, z6, hz⟩ := seven (fill_len p n k i t)
      have hz' := hz
      have e0 := hpb.cell (m := 0) hrl (by rw [hz]; rfl)
      have e1 := hpb.cell (m := 1) hrl (by rw [hz]; rfl)
      have e2 := hpb.cell (m := 2) hrl (by rw [hz]; rfl)
      have e3 := hpb.cell (m := 3) hrl (by rw [hz]; rfl)
      have e4 := hpb.cell (m := 4) hrl (by rw [hz]; rfl)
      have e5 := hpb.cell (m := 5) hrl (by rw [hz]; rfl)
      have e6 := hpb.cell (m := 6) hrl (by rw [hz]; rfl)
      rw [Nat.add_zero] at e0
      have f0 := hpb.frozen (t * 7)
      have f1 := hpb.frozen (t * 7 + 1)
      have f2 := hpb.frozen (t * 7 + 2)
      have f3 := hpb.frozen (t * 7 + 3)
      have f4 := hpb.frozen (t * 7 + 4)
      have f5 := hpb.frozen (t * 7 + 5)
      have f6 := hpb.frozen (t * 7 + 6)
      have q2 := hgo.cell 2
      have i0 : (0 : Int) ≤ (i : Int) := by omega
      have i1 : (i : Int) < (n : Int) := by omega
      have i2 : (0 : Int) ≤ (t : Int) := by omega
      have i3 : (t : Int) < (n : Int) := by omega
      have i4 : ((n : Int) == 0) = false := by rw [beq_eq_false_iff_ne]; omega
      have i5 : ¬ (n : Int) = 0 := by omega
      have i6 : ¬ n = 0 := by omega
      have jw : IntKind.i64.wrap ((i : Int) + (k : Int)) = (i : Int) + (k : Int) := by rw [IntKind.wrap_i64]; omega
      have jt : IntKind.i64.wrap (t : Int) = (t : Int) := by rw [IntKind.wrap_i64]; omega
      have HPB := Lib.hid hpb
      have HFN := Lib.hid hfn
      have HFO := Lib.hid hfo
      clear hz hz' hr hpb hfn hfo
      go_wp2_with fail
      go_still_tail 13, (by kernel_rfl)
      change wpList _ _ _ _ _ wr.drew
      go_wp2_with fail
      have hpb2 := PB.put (f' := fillP p n k (i + 1)) HPB.out hrl (.string r.name) (.slice r.types.a r.types.n r.types.c) (.string r.lat) (.int .i64 r.of) (.bool r.base) (.int .i64 r.key) (.int .i64 r.pos) HFN.out (fun v hv => HFO.out v hv) (fun v => fill_len p n k i v)
      have hgo2 := At.far7 hgo (b := gp) (by omega) (t * 7) (.string r.name) (.slice r.types.a r.types.n r.types.c) (.string r.lat) (.int .i64 r.of) (.bool r.base) (.int .i64 r.key) (.int .i64 r.pos)
      have hrt2 := At.far7 hrt (b := gp) (by omega) (t * 7) (.string r.name) (.slice r.types.a r.types.n r.types.c) (.string r.lat) (.int .i64 r.of) (.bool r.base) (.int .i64 r.key) (.int .i64 r.pos)
      have hat2 := At.far7 hat (b := gp) (by omega) (t * 7) (.string r.name) (.slice r.types.a r.types.n r.types.c) (.string r.lat) (.int .i64 r.of) (.bool r.base) (.int .i64 r.key) (.int .i64 r.pos)
      have hb2 := below7 hb (b := gp) (by omega) (t * 7) (.string r.name) (.slice r.types.a r.types.n r.types.c) (.string r.lat) (.int .i64 r.of) (.bool r.base) (.int .i64 r.key) (.int .i64 r.pos)
      go_roundw
      case rel => exact ⟨i + 1, by omega, by go_num, hpb2.drew, hgo2.drew, hrt2.drew, hat2.drew, hb2.drew, by simpa using hsz⟩
      case measure => simp [intOf]; omega
    · have d1 : decide ((i : Int) < (n : Int)) = false := by simp; omega
      have d1' : decide (i < n) = false := by simp; omega
      obtain rfl : i = n := by omega
      obtain ⟨w5, hw5⟩ : ∃ w5, w5 = wr := ⟨_, rfl⟩
      subst hw5
      have l5 : go < w5.heap.size := hgo.lt
      clear p0 p1 p2 p3
      go_wp2_with fail
      clear d1 d1' h1
      go_loopw [8, 9, 10] (fun iv _ _ wr => ∃ (j : Nat) (F : List Ru) (v : Value), j ≤ p.rus.length ∧ iv = .int .i64 j ∧ Hid (F.map coreR = ((p.rus.map coreR).map (rotC i k)).take j) ∧ F.length = j ∧ PB wr gp i (fillP p i k i) ∧ At wr go 27 #[.slice none 0 0, .slice none 0 0, .slice (some ⟨gp, 0, none⟩) i i, v] ∧ At wr br 27 #[.slice none 0 0, .slice none 0 0, .slice none 0 0, .slice none 0 0] ∧ At wr w.heap.size 27 #[.slice p.lat.a p.lat.n p.lat.c, .slice p.fns.a p.fns.n p.fns.c, .slice pa i p.pc, .slice ra p.rus.length p.rc] ∧ wr.ownsRow w5.heap.size 51 9 v j (rcells F) ∧ (∀ r ∈ F, RuOwn wr w5.heap.size r) ∧ Below w.heap.size w wr ∧ w5.heap.size ≤ wr.heap.size) (fun iv _ _ _ => p.rus.length - (intOf iv).toNat)
      case atStart => exact ⟨0, [], _, by omega, rfl, Lib.hid rfl, rfl, hpb, hgo, hrt, hat, World.ownsRow_nil _ _ _ _, (fun r hr => by cases hr), hb, Nat.le_refl _⟩
      case round =>
        clear hpb hgo hrt hat hb hsz
        obtain ⟨n, hnn⟩ : ∃ n, n = i := ⟨_, rfl⟩
        subst hnn
        obtain ⟨i, F, v, hi, rfl, HF, hFl, hpb, hgo, hrt, hat, hown, hFo, hb, hsz⟩ := hrel
        obtain ⟨qa, qc, rfl⟩ := own_len hown
        obtain ⟨wr0, hwr0⟩ : ∃ wr0, wr0 = wr := ⟨_, rfl⟩
        subst hwr0
        obtain ⟨p0, p1, p2, p3⟩ := pg_cells hat
        by_cases h1 : i < p.rus.length
        · have d1 : decide ((i : Int) < (p.rus.length : Int)) = true := by simp; omega
          obtain ⟨r, hr⟩ : ∃ r, p.rus[i]? = some r := ⟨_, List.getElem?_eq_getElem h1⟩
          have hmem := List.mem_of_getElem? hr
          have hok := HRO.out r hmem
          have hll := HLS.out r hmem
          have HNW := Lib.hid (fun W (h : Below w.heap.size w W) => str_news (f := Lit9.fs) (by decide : 0 < 9) (fun _ => rfl) (hok.below h).body)
          have hnb := HNB.out r hmem
          have HFK := Lib.hid (show ((p.rus.map coreR).map (rotC n k)).take (i + 1) = ((p.rus.map coreR).map (rotC n k)).take i ++ [rotC n k (coreR r)] by rw [List.take_add_one]; simp [hr])
          obtain ⟨g, o, rfl, hg, r0, r1, r2, r3, r4, r5, r6, r7, r8⟩ := HRU.out _ hb i r hr
          have i0 : (0 : Int) ≤ (i : Int) := by omega
          have i1 : (i : Int) < (p.rus.length : Int) := by omega
          obtain ⟨ba, hba⟩ : ∃ ba, r.ba = ba := ⟨_, rfl⟩
          obtain ⟨rp, hrp⟩ : ∃ rp, r.pred = rp := ⟨_, rfl⟩
          rw [hba] at r7 HNW hnb
          rw [hrp] at r1
          have HRP := Lib.hid hrp
          have HNO := Lib.hid hnb
          have hbox := At.new wr0 51 #[.string r.name, .int .i64 rp, .slice r.args.a r.args.n r.args.c, .int .i64 r.ek, .string r.en, .string r.ev, .int .i64 r.ei, .slice ba r.lits.length r.bc, .int .i64 r.pos]
          have hoe := own_emptyAt (wr0.alloc (.cells #[.string r.name, .int .i64 rp, .slice r.args.a r.args.n r.args.c, .int .i64 r.ek, .string r.en, .string r.ev, .int .i64 r.ei, .slice ba r.lits.length r.bc, .int .i64 r.pos] 51)) (wr0.heap.size + 1) 56 9 (wr0.heap.size + 1) (by simp) (Nat.le_refl _)
          have hb20 := ((Below.refl wr0.heap.size wr0).alloc (Nat.le_refl _) (.cells #[.string r.name, .int .i64 rp, .slice r.args.a r.args.n r.args.c, .int .i64 r.ek, .string r.en, .string r.ev, .int .i64 r.ei, .slice ba r.lits.length r.bc, .int .i64 r.pos] 51)).alloc (by simp) (.cells #[] 56)
          have hlw : w.heap.size < wr0.heap.size := hat.lt
          have hlq : go < wr0.heap.size := hgo.lt
          have HQ := Lib.hid hgo
          have HOWN := Lib.hid hown
          have HFO := Lib.hid hFo
          have HBZ := Lib.hid hb
          have HPB := Lib.hid hpb
          have HRT := Lib.hid hrt
          have HAT := Lib.hid hat
          have hbw0 := hb
          clear hba hr hown hFo hb hok hgo hrt hat hpb hnb hrp hmem
          by_cases h2 : 0 ≤ rp
          · obtain ⟨a, rfl⟩ : ∃ a : Nat, rp = (a : Int) := ⟨rp.toNat, by omega⟩
            have d2 : decide ((0 : Int) ≤ (a : Int)) = true := by simp
            by_cases h3 : a < n
            · have d3 : decide ((a : Int) < (n : Int)) = true := by simp; omega
              have d3' : decide (a < n) = true := by simp; omega
              have hrl := rot_lt (n := n) (k := k) h3
              have hrq : Int.tmod ((a : Int) + (k : Int)) (n : Int) = ((rot n k a : Nat) : Int) := rem_rot n k a
              have HPX := Lib.hid (show ((rot n k a : Nat) : Int) = rotX n k r.pred by rw [HRP.out]; unfold rotX; rw [if_pos ⟨by omega, by omega⟩, Int.toNat_natCast])
              generalize rot n k a = t at *
              have jw : IntKind.i64.wrap ((a : Int) + (k : Int)) = (a : Int) + (k : Int) := by rw [IntKind.wrap_i64]; omega
              have i6 : ¬ n = 0 := by omega
              go_wp2_with (at_builtin; refine wpList_append_from rfl _ _ 49 rfl (wr0.heap.size + 1) 56 il _ 9 112 Try.underlying49 hil hzl0 hzl1 hzl2 rfl (by decide) _ 0 [] rfl hoe ba r.lits.length r.bc (lcells r.lits) rfl ?hl HNO.out ?hnews ?h1 ?hm ?hby ?hbase ?_; rotate_left 6; intro v9 w9 o9 g9; obtain ⟨ua, uc, rfl⟩ := own_len o9; have hbx9 := (hbox.alloc (.cells #[] 56)).grown g9 (own_far hoe (hbox.alloc _) (by decide)); have hb9 := hb20.grown g9 (by simp; omega) (fun q hq => by have := (own_lt hoe hq).1; omega); obtain ⟨b0, b1, b2, b3, b4, b5, b6, b7, b8⟩ := ru_cells' hbx9; have bf7 := hbx9.frozen 7; have bf1 := hbx9.frozen 1)
              case hl => exact flat_count (f := Lit9.fs) (fun _ => rfl) _
              case hnews => exact HNW.out _ (hbw0.trans (hb20.mono hbw0.size))
              case h1 => exact lcells_one _
              case hm => unfold maxLen; omega
              case hby => omega
              try (case hbase => simp)
              rw [Nat.zero_add, List.nil_append] at o9
              have hbx := (hbx9.put 7 (.slice ua r.lits.length uc)).put 1 (.int .i64 (t : Int))
              have hob := own_putne (p := ⟨wr0.heap.size, 1, none⟩) (own_putne (p := ⟨wr0.heap.size, 7, none⟩) o9 (own_far o9 hbx9 (by decide)) (.slice ua r.lits.length uc)) (own_far (own_putne (p := ⟨wr0.heap.size, 7, none⟩) o9 (own_far o9 hbx9 (by decide)) (.slice ua r.lits.length uc)) (hbx9.put 7 (.slice ua r.lits.length uc)) (by decide)) (.int .i64 (t : Int))
              have hbk := (hb9.setCell (p := ⟨wr0.heap.size, 7, none⟩) (Nat.le_refl _) (.slice ua r.lits.length uc)).setCell (p := ⟨wr0.heap.size, 1, none⟩) (Nat.le_refl _) (.int .i64 (t : Int))
              clear hbx9 o9 hb9 g9 hoe hb20 hbox
              generalize (w9.setCell ⟨wr0.heap.size, 7, none⟩ (.slice ua r.lits.length uc)).setCell ⟨wr0.heap.size, 1, none⟩ (.int .i64 (t : Int)) = wk at *
              have HBX := Lib.hid hbx
              have HOB := Lib.hid hob
              have HBK := Lib.hid hbk
              clear hbx hob hbk
              go_loopw [10] (fun jv ws => ∃ j : Nat, j ≤ r.lits.length ∧ jv = .int .i64 j ∧ At ws wr0.heap.size 51 #[.string r.name, .int .i64 (t : Int), .slice r.args.a r.args.n r.args.c, .int .i64 r.ek, .string r.en, .string r.ev, .int .i64 r.ei, .slice ua r.lits.length uc, .int .i64 r.pos] ∧ ws.ownsRow (wr0.heap.size + 1) 56 9 (.slice ua r.lits.length uc) r.lits.length (lcells (rotJ n k r.lits j)) ∧ Below wr0.heap.size wr0 ws) (fun jv _ => r.lits.length - (intOf jv).toNat)
              case atStart => exact ⟨0, by omega, rfl, HBX.out, by rw [show rotJ n k r.lits 0 = r.lits from rfl]; exact HOB.out, HBK.out⟩
              case round =>
                obtain ⟨j, hj, rfl, hbx, hob, hbs⟩ := hrel
                obtain ⟨b0, b1, b2, b3, b4, b5, b6, b7, b8⟩ := ru_cells' hbx
                by_cases h6 : j < r.lits.length
                · have d6 : decide ((j : Int) < (r.lits.length : Int)) = true := by simp; omega
                  obtain ⟨l, hlj⟩ : ∃ l, r.lits[j]? = some l := ⟨_, List.getElem?_eq_getElem h6⟩
                  have hll := rotJ_at (n := n) (k := k) hlj
                  obtain ⟨gu, rfl, hgu, hcu, hfu⟩ := own_at hob (by omega)
                  have y2 : wr.cell? ⟨gu, j * 9 + 2, none⟩ = some (.int .i64 l.pred) := hcu _ _ (flat_at (f := Lit9.fs) (fun _ => rfl) _ j l 2 _ hll rfl)
                  have yf : wr.frozen? ⟨gu, j * 9 + 2, none⟩ = false := hfu _
                  have k0 : (0 : Int) ≤ (j : Int) := by omega
                  have k1 : (j : Int) < (r.lits.length : Int) := by omega
                  have hgR : wr0.heap.size + 1 ≤ gu := (own_lt hob rfl).1
                  have hXL : (lcells (rotJ n k r.lits j)).length = r.lits.length * 9 := hob.1
                  have HST := Lib.hid (rotJ_step (n := n) (k := k) hlj)
                  have HLS2 := Lib.hid (lcells_set (l' := rotL n k l) hll rfl)
                  have HOUT := Lib.hid (fun h => rotL_out (n := n) (k := k) (l := l) h)
                  have HIN := Lib.hid (fun h => rotL_in (n := n) (k := k) (l := l) h)
                  have HLL := Lib.hid hll
                  have hbx0 := hbx
                  obtain ⟨lp, hlp⟩ : ∃ lp, l.pred = lp := ⟨_, rfl⟩
                  rw [hlp] at y2 HOUT HIN
                  clear hlp hll hlj
                  by_cases h7 : 0 ≤ lp
                  · obtain ⟨b, rfl⟩ : ∃ b : Nat, lp = (b : Int) := ⟨lp.toNat, by omega⟩
                    have d7 : decide ((0 : Int) ≤ (b : Int)) = true := by simp
                    by_cases h8 : b < n
                    · have d8 : decide ((b : Int) < (n : Int)) = true := by simp; omega
                      have d8' : decide (b < n) = true := by simp; omega
                      have hrl2 := rot_lt (n := n) (k := k) h8
                      have hrq2 : Int.tmod ((b : Int) + (k : Int)) (n : Int) = ((rot n k b : Nat) : Int) := rem_rot n k b
                      have HPR2 := Lib.hid (HIN.out (by omega))
                      rw [Int.toNat_natCast] at HPR2
                      generalize rot n k b = t2 at *
                      have jw2 : IntKind.i64.wrap ((b : Int) + (k : Int)) = (b : Int) + (k : Int) := by rw [IntKind.wrap_i64]; omega
                      have j6 : ¬ n = 0 := by omega
                      have hset := own_set hob (i := j * 9 + 2) (by rw [hXL]; omega) (.int .i64 (t2 : Int))
                      have hbx2 := hbx0.far (p := ⟨gu, j * 9 + 2, none⟩) (by show wr0.heap.size ≠ gu; omega) (.int .i64 (t2 : Int))
                      have hbs2 := hbs.setCell (p := ⟨gu, j * 9 + 2, none⟩) (by show wr0.heap.size ≤ gu; omega) (.int .i64 (t2 : Int))
                      go_wp2_with fail
                      go_still_tail 15, (by kernel_rfl)
                      change wpList _ _ _ _ _ wr.drew
                      go_wp2_with fail
                      go_roundw
                      case rel => exact ⟨j + 1, by omega, by go_num, hbx2.drew, (by
                        have e := HLS2.out
                        rw [HST.out, HPR2.out] at e
                        rw [e]
                        exact own_drew hset), hbs2.drew⟩
                      case measure => simp [intOf]; omega
                    · have d8 : decide ((b : Int) < (n : Int)) = false := by simp; omega
                      have d8' : decide (b < n) = false := by simp; omega
                      have HS2 := Lib.hid (show rotJ n k r.lits (j + 1) = rotJ n k r.lits j by rw [← HST.out, HOUT.out (by omega)]; exact set_same HLL.out)
                      go_wp2_with fail
                      go_roundw
                      case rel => exact ⟨j + 1, by omega, by go_num, hbx0, by rw [HS2.out]; exact hob, hbs⟩
                      case measure => simp [intOf]; omega
                  · have d7 : decide ((0 : Int) ≤ lp) = false := by simp; omega
                    have HS2 := Lib.hid (show rotJ n k r.lits (j + 1) = rotJ n k r.lits j by rw [← HST.out, HOUT.out (by omega)]; exact set_same HLL.out)
                    go_wp2_with fail
                    go_roundw
                    case rel => exact ⟨j + 1, by omega, by go_num, hbx0, by rw [HS2.out]; exact hob, hbs⟩
                    case measure => simp [intOf]; omega
                · have d6 : decide ((j : Int) < (r.lits.length : Int)) = false := by simp; omega
                  have hjl : j = r.lits.length := by omega
                  have hfull : rotJ n k r.lits j = r.lits.map (rotL n k) := by unfold rotJ; rw [List.take_of_length_le (by omega), List.drop_of_length_le (by omega), List.append_nil]
                  rw [hfull] at hob
                  obtain ⟨nr, hnr⟩ : ∃ nr : Ru, nr = { r with pred := (t : Int), ba := ua, bc := uc, lits := r.lits.map (rotL n k) } := ⟨_, rfl⟩
                  have HNR := Lib.hid (show nr.fs = [.string r.name, .int .i64 (t : Int), .slice r.args.a r.args.n r.args.c, .int .i64 r.ek, .string r.en, .string r.ev, .int .i64 r.ei, .slice ua r.lits.length uc, .int .i64 r.pos] by rw [hnr]; unfold Ru.fs; simp)
                  have HCR := Lib.hid (show coreR nr = rotC n k (coreR r) by rw [hnr]; unfold coreR rotC; rw [HPX.out])
                  have HRO2 := Lib.hid (show RuOwn wr w5.heap.size nr by
                    unfold RuOwn
                    rw [hnr]
                    dsimp only
                    rw [List.length_map]
                    exact own_mono hob (by omega))
                  have hqs := HQ.out.next hbs
                  have hos := own_below HOWN.out hbs
                  have hpb2 := HPB.out.next hbs
                  have hrt2 := HRT.out.next hbs
                  have hat2 := HAT.out.next hbs
                  have hbz := HBZ.out.trans (hbs.mono HBZ.out.size)
                  have HFS := Lib.hid (fun r h => (HFO.out r h).below hbs)
                  have q3 := hqs.cell 3
                  have hlt := hqs.lt
                  have hlt2 := hbx.lt
                  have hz := hbz.size
                  have hzs := hbs.size
                  have HRX := Lib.hid (show (F ++ [nr]).map coreR = ((p.rus.map coreR).map (rotC n k)).take (i + 1) by rw [List.map_append, HF.out, HFK.out]; simp [HCR.out])
                  clear hnr hob hbx hjl hfull
                  go_wp2_with (at_builtin; refine wpList_append_own _ rfl _ _ 25 rfl w5.heap.size 51 ir _ 9 128 Try.underlying25 hir hzr0 hzr1 hzr2 rfl (by decide) _ _ _ rfl (hos.alloc _) ⟨wr.heap.size, 0, none⟩ 1 1 [.string r.name, .int .i64 (t : Int), .slice r.args.a r.args.n r.args.c, .int .i64 r.ek, .string r.en, .string r.ev, .int .i64 r.ei, .slice ua r.lits.length uc, .int .i64 r.pos] rfl rfl (At.news (xs := [.string r.name, .int .i64 (t : Int), .slice r.args.a r.args.n r.args.c, .int .i64 r.ek, .string r.en, .string r.ev, .int .i64 r.ei, .slice ua r.lits.length uc, .int .i64 r.pos]) (At.newAt rfl 51 _)) (fun u hu => by simp at hu; rcases hu with rfl | rfl | rfl | rfl | rfl | rfl | rfl | rfl | rfl <;> rfl) (by unfold maxLen; omega) (by omega) (by simp; omega) ?_; intro v9 w9 o9 g9 _; obtain ⟨va9, vc9, rfl⟩ := own_len o9; have hp9 := (hqs.alloc (.cells #[.string r.name, .int .i64 (t : Int), .slice r.args.a r.args.n r.args.c, .int .i64 r.ek, .string r.en, .string r.ev, .int .i64 r.ei, .slice ua r.lits.length uc, .int .i64 r.pos] 51)).grown g9 (own_far hos hqs (by decide)); have s3 := hp9.cell 3; have sf := hp9.frozen 3; have hlo := fun q hq => (own_lt hos (g := q) hq).1; have hb9 := (hbz.alloc hbz.size (.cells #[.string r.name, .int .i64 (t : Int), .slice r.args.a r.args.n r.args.c, .int .i64 r.ek, .string r.en, .string r.ev, .int .i64 r.ei, .slice ua r.lits.length uc, .int .i64 r.pos] 51)).grown g9 (by simp; omega) (fun q hq => by have := hlo q hq; omega); have hpb9 := (hpb2.next (below1 wr (.cells #[.string r.name, .int .i64 (t : Int), .slice r.args.a r.args.n r.args.c, .int .i64 r.ek, .string r.en, .string r.ev, .int .i64 r.ei, .slice ua r.lits.length uc, .int .i64 r.pos] 51))).grown g9 (by intro h; have := hlo _ h.symm; omega); have hrt9 := (hrt2.next (below1 wr (.cells #[.string r.name, .int .i64 (t : Int), .slice r.args.a r.args.n r.args.c, .int .i64 r.ek, .string r.en, .string r.ev, .int .i64 r.ei, .slice ua r.lits.length uc, .int .i64 r.pos] 51))).grown g9 (own_far hos hrt2 (by decide)); have hat9 := (hat2.next (below1 wr (.cells #[.string r.name, .int .i64 (t : Int), .slice r.args.a r.args.n r.args.c, .int .i64 r.ek, .string r.en, .string r.ev, .int .i64 r.ei, .slice ua r.lits.length uc, .int .i64 r.pos] 51))).grown g9 (own_far hos hat2 (by decide)); have hsz9 := g9.size)
                  go_roundw
                  case rel =>
                    refine ⟨i + 1, F ++ [nr], _, by omega, by go_num, HRX.out, by simp; omega, hpb9.far (by show gp ≠ go; omega) _, hp9.put 3 _, hrt9.far (by show br ≠ go; omega) _, hat9.far (by show w.heap.size ≠ go; omega) _, own_putne (by rw [rcells_snoc, HNR.out]; exact o9) (own_far o9 hp9 (by decide)) _, fun r h => ?_, hb9.setCell (by show w.heap.size ≤ go; omega) _, by simp at hsz9 ⊢; omega⟩
                    rcases List.mem_append.1 h with h | h
                    · exact own_put (own_grown ((HFS.out r h).alloc _) g9 (own_apart (HFS.out r h) hos (by decide))) (by show go < w5.heap.size; omega) _
                    · obtain rfl : r = nr := by simpa using h
                      exact own_put (own_grown (HRO2.out.alloc _) g9 (own_apart HRO2.out hos (by decide))) (by show go < w5.heap.size; omega) _
                  case measure => simp [intOf]; omega
            · have d3 : decide ((a : Int) < (n : Int)) = false := by simp; omega
              have d3' : decide (a < n) = false := by simp; omega
              have HPX := Lib.hid (show (a : Int) = rotX n k r.pred by rw [HRP.out]; unfold rotX; rw [if_neg (by omega)])
              go_wp2_with (at_builtin; refine wpList_append_from rfl _ _ 49 rfl (wr0.heap.size + 1) 56 il _ 9 112 Try.underlying49 hil hzl0 hzl1 hzl2 rfl (by decide) _ 0 [] rfl hoe ba r.lits.length r.bc (lcells r.lits) rfl ?hl HNO.out ?hnews ?h1 ?hm ?hby ?hbase ?_; rotate_left 6; intro v9 w9 o9 g9; obtain ⟨ua, uc, rfl⟩ := own_len o9; have hbx9 := (hbox.alloc (.cells #[] 56)).grown g9 (own_far hoe (hbox.alloc _) (by decide)); have hb9 := hb20.grown g9 (by simp; omega) (fun q hq => by have := (own_lt hoe hq).1; omega); obtain ⟨b0, b1, b2, b3, b4, b5, b6, b7, b8⟩ := ru_cells' hbx9; have bf7 := hbx9.frozen 7; have bf1 := hbx9.frozen 1)
              case hl => exact flat_count (f := Lit9.fs) (fun _ => rfl) _
              case hnews => exact HNW.out _ (hbw0.trans (hb20.mono hbw0.size))
              case h1 => exact lcells_one _
              case hm => unfold maxLen; omega
              case hby => omega
              try (case hbase => simp)
              rw [Nat.zero_add, List.nil_append] at o9
              have hbx := hbx9.put 7 (.slice ua r.lits.length uc)
              have hob := own_putne (p := ⟨wr0.heap.size, 7, none⟩) o9 (own_far o9 hbx9 (by decide)) (.slice ua r.lits.length uc)
              have hbk := hb9.setCell (p := ⟨wr0.heap.size, 7, none⟩) (Nat.le_refl _) (.slice ua r.lits.length uc)
              clear hbx9 o9 hb9 g9 hoe hb20 hbox
              generalize w9.setCell ⟨wr0.heap.size, 7, none⟩ (.slice ua r.lits.length uc) = wk at *
              have HBX := Lib.hid hbx
              have HOB := Lib.hid hob
              have HBK := Lib.hid hbk
              clear hbx hob hbk
              go_loopw [10] (fun jv ws => ∃ j : Nat, j ≤ r.lits.length ∧ jv = .int .i64 j ∧ At ws wr0.heap.size 51 #[.string r.name, .int .i64 (a : Int), .slice r.args.a r.args.n r.args.c, .int .i64 r.ek, .string r.en, .string r.ev, .int .i64 r.ei, .slice ua r.lits.length uc, .int .i64 r.pos] ∧ ws.ownsRow (wr0.heap.size + 1) 56 9 (.slice ua r.lits.length uc) r.lits.length (lcells (rotJ n k r.lits j)) ∧ Below wr0.heap.size wr0 ws) (fun jv _ => r.lits.length - (intOf jv).toNat)
              case atStart => exact ⟨0, by omega, rfl, HBX.out, by rw [show rotJ n k r.lits 0 = r.lits from rfl]; exact HOB.out, HBK.out⟩
              case round =>
                obtain ⟨j, hj, rfl, hbx, hob, hbs⟩ := hrel
                obtain ⟨b0, b1, b2, b3, b4, b5, b6, b7, b8⟩ := ru_cells' hbx
                by_cases h6 : j < r.lits.length
                · have d6 : decide ((j : Int) < (r.lits.length : Int)) = true := by simp; omega
                  obtain ⟨l, hlj⟩ : ∃ l, r.lits[j]? = some l := ⟨_, List.getElem?_eq_getElem h6⟩
                  have hll := rotJ_at (n := n) (k := k) hlj
                  obtain ⟨gu, rfl, hgu, hcu, hfu⟩ := own_at hob (by omega)
                  have y2 : wr.cell? ⟨gu, j * 9 + 2, none⟩ = some (.int .i64 l.pred) := hcu _ _ (flat_at (f := Lit9.fs) (fun _ => rfl) _ j l 2 _ hll rfl)
                  have yf : wr.frozen? ⟨gu, j * 9 + 2, none⟩ = false := hfu _
                  have k0 : (0 : Int) ≤ (j : Int) := by omega
                  have k1 : (j : Int) < (r.lits.length : Int) := by omega
                  have hgR : wr0.heap.size + 1 ≤ gu := (own_lt hob rfl).1
                  have hXL : (lcells (rotJ n k r.lits j)).length = r.lits.length * 9 := hob.1
                  have HST := Lib.hid (rotJ_step (n := n) (k := k) hlj)
                  have HLS2 := Lib.hid (lcells_set (l' := rotL n k l) hll rfl)
                  have HOUT := Lib.hid (fun h => rotL_out (n := n) (k := k) (l := l) h)
                  have HIN := Lib.hid (fun h => rotL_in (n := n) (k := k) (l := l) h)
                  have HLL := Lib.hid hll
                  have hbx0 := hbx
                  obtain ⟨lp, hlp⟩ : ∃ lp, l.pred = lp := ⟨_, rfl⟩
                  rw [hlp] at y2 HOUT HIN
                  clear hlp hll hlj
                  by_cases h7 : 0 ≤ lp
                  · obtain ⟨b, rfl⟩ : ∃ b : Nat, lp = (b : Int) := ⟨lp.toNat, by omega⟩
                    have d7 : decide ((0 : Int) ≤ (b : Int)) = true := by simp
                    by_cases h8 : b < n
                    · have d8 : decide ((b : Int) < (n : Int)) = true := by simp; omega
                      have d8' : decide (b < n) = true := by simp; omega
                      have hrl2 := rot_lt (n := n) (k := k) h8
                      have hrq2 : Int.tmod ((b : Int) + (k : Int)) (n : Int) = ((rot n k b : Nat) : Int) := rem_rot n k b
                      have HPR2 := Lib.hid (HIN.out (by omega))
                      rw [Int.toNat_natCast] at HPR2
                      generalize rot n k b = t2 at *
                      have jw2 : IntKind.i64.wrap ((b : Int) + (k : Int)) = (b : Int) + (k : Int) := by rw [IntKind.wrap_i64]; omega
                      have j6 : ¬ n = 0 := by omega
                      have hset := own_set hob (i := j * 9 + 2) (by rw [hXL]; omega) (.int .i64 (t2 : Int))
                      have hbx2 := hbx0.far (p := ⟨gu, j * 9 + 2, none⟩) (by show wr0.heap.size ≠ gu; omega) (.int .i64 (t2 : Int))
                      have hbs2 := hbs.setCell (p := ⟨gu, j * 9 + 2, none⟩) (by show wr0.heap.size ≤ gu; omega) (.int .i64 (t2 : Int))
                      go_wp2_with fail
                      go_still_tail 15, (by kernel_rfl)
                      change wpList _ _ _ _ _ wr.drew
                      go_wp2_with fail
                      go_roundw
                      case rel => exact ⟨j + 1, by omega, by go_num, hbx2.drew, (by
                        have e := HLS2.out
                        rw [HST.out, HPR2.out] at e
                        rw [e]
                        exact own_drew hset), hbs2.drew⟩
                      case measure => simp [intOf]; omega
                    · have d8 : decide ((b : Int) < (n : Int)) = false := by simp; omega
                      have d8' : decide (b < n) = false := by simp; omega
                      have HS2 := Lib.hid (show rotJ n k r.lits (j + 1) = rotJ n k r.lits j by rw [← HST.out, HOUT.out (by omega)]; exact set_same HLL.out)
                      go_wp2_with fail
                      go_roundw
                      case rel => exact ⟨j + 1, by omega, by go_num, hbx0, by rw [HS2.out]; exact hob, hbs⟩
                      case measure => simp [intOf]; omega
                  · have d7 : decide ((0 : Int) ≤ lp) = false := by simp; omega
                    have HS2 := Lib.hid (show rotJ n k r.lits (j + 1) = rotJ n k r.lits j by rw [← HST.out, HOUT.out (by omega)]; exact set_same HLL.out)
                    go_wp2_with fail
                    go_roundw
                    case rel => exact ⟨j + 1, by omega, by go_num, hbx0, by rw [HS2.out]; exact hob, hbs⟩
                    case measure => simp [intOf]; omega
                · have d6 : decide ((j : Int) < (r.lits.length : Int)) = false := by simp; omega
                  have hjl : j = r.lits.length := by omega
                  have hfull : rotJ n k r.lits j = r.lits.map (rotL n k) := by unfold rotJ; rw [List.take_of_length_le (by omega), List.drop_of_length_le (by omega), List.append_nil]
                  rw [hfull] at hob
                  obtain ⟨nr, hnr⟩ : ∃ nr : Ru, nr = { r with pred := (a : Int), ba := ua, bc := uc, lits := r.lits.map (rotL n k) } := ⟨_, rfl⟩
                  have HNR := Lib.hid (show nr.fs = [.string r.name, .int .i64 (a : Int), .slice r.args.a r.args.n r.args.c, .int .i64 r.ek, .string r.en, .string r.ev, .int .i64 r.ei, .slice ua r.lits.length uc, .int .i64 r.pos] by rw [hnr]; unfold Ru.fs; simp)
                  have HCR := Lib.hid (show coreR nr = rotC n k (coreR r) by rw [hnr]; unfold coreR rotC; rw [HPX.out])
                  have HRO2 := Lib.hid (show RuOwn wr w5.heap.size nr by
                    unfold RuOwn
                    rw [hnr]
                    dsimp only
                    rw [List.length_map]
                    exact own_mono hob (by omega))
                  have hqs := HQ.out.next hbs
                  have hos := own_below HOWN.out hbs
                  have hpb2 := HPB.out.next hbs
                  have hrt2 := HRT.out.next hbs
                  have hat2 := HAT.out.next hbs
                  have hbz := HBZ.out.trans (hbs.mono HBZ.out.size)
                  have HFS := Lib.hid (fun r h => (HFO.out r h).below hbs)
                  have q3 := hqs.cell 3
                  have hlt := hqs.lt
                  have hlt2 := hbx.lt
                  have hz := hbz.size
                  have hzs := hbs.size
                  have HRX := Lib.hid (show (F ++ [nr]).map coreR = ((p.rus.map coreR).map (rotC n k)).take (i + 1) by rw [List.map_append, HF.out, HFK.out]; simp [HCR.out])
                  clear hnr hob hbx hjl hfull
                  go_wp2_with (at_builtin; refine wpList_append_own _ rfl _ _ 25 rfl w5.heap.size 51 ir _ 9 128 Try.underlying25 hir hzr0 hzr1 hzr2 rfl (by decide) _ _ _ rfl (hos.alloc _) ⟨wr.heap.size, 0, none⟩ 1 1 [.string r.name, .int .i64 (a : Int), .slice r.args.a r.args.n r.args.c, .int .i64 r.ek, .string r.en, .string r.ev, .int .i64 r.ei, .slice ua r.lits.length uc, .int .i64 r.pos] rfl rfl (At.news (xs := [.string r.name, .int .i64 (a : Int), .slice r.args.a r.args.n r.args.c, .int .i64 r.ek, .string r.en, .string r.ev, .int .i64 r.ei, .slice ua r.lits.length uc, .int .i64 r.pos]) (At.newAt rfl 51 _)) (fun u hu => by simp at hu; rcases hu with rfl | rfl | rfl | rfl | rfl | rfl | rfl | rfl | rfl <;> rfl) (by unfold maxLen; omega) (by omega) (by simp; omega) ?_; intro v9 w9 o9 g9 _; obtain ⟨va9, vc9, rfl⟩ := own_len o9; have hp9 := (hqs.alloc (.cells #[.string r.name, .int .i64 (a : Int), .slice r.args.a r.args.n r.args.c, .int .i64 r.ek, .string r.en, .string r.ev, .int .i64 r.ei, .slice ua r.lits.length uc, .int .i64 r.pos] 51)).grown g9 (own_far hos hqs (by decide)); have s3 := hp9.cell 3; have sf := hp9.frozen 3; have hlo := fun q hq => (own_lt hos (g := q) hq).1; have hb9 := (hbz.alloc hbz.size (.cells #[.string r.name, .int .i64 (a : Int), .slice r.args.a r.args.n r.args.c, .int .i64 r.ek, .string r.en, .string r.ev, .int .i64 r.ei, .slice ua r.lits.length uc, .int .i64 r.pos] 51)).grown g9 (by simp; omega) (fun q hq => by have := hlo q hq; omega); have hpb9 := (hpb2.next (below1 wr (.cells #[.string r.name, .int .i64 (a : Int), .slice r.args.a r.args.n r.args.c, .int .i64 r.ek, .string r.en, .string r.ev, .int .i64 r.ei, .slice ua r.lits.length uc, .int .i64 r.pos] 51))).grown g9 (by intro h; have := hlo _ h.symm; omega); have hrt9 := (hrt2.next (below1 wr (.cells #[.string r.name, .int .i64 (a : Int), .slice r.args.a r.args.n r.args.c, .int .i64 r.ek, .string r.en, .string r.ev, .int .i64 r.ei, .slice ua r.lits.length uc, .int .i64 r.pos] 51))).grown g9 (own_far hos hrt2 (by decide)); have hat9 := (hat2.next (below1 wr (.cells #[.string r.name, .int .i64 (a : Int), .slice r.args.a r.args.n r.args.c, .int .i64 r.ek, .string r.en, .string r.ev, .int .i64 r.ei, .slice ua r.lits.length uc, .int .i64 r.pos] 51))).grown g9 (own_far hos hat2 (by decide)); have hsz9 := g9.size)
                  go_roundw
                  case rel =>
                    refine ⟨i + 1, F ++ [nr], _, by omega, by go_num, HRX.out, by simp; omega, hpb9.far (by show gp ≠ go; omega) _, hp9.put 3 _, hrt9.far (by show br ≠ go; omega) _, hat9.far (by show w.heap.size ≠ go; omega) _, own_putne (by rw [rcells_snoc, HNR.out]; exact o9) (own_far o9 hp9 (by decide)) _, fun r h => ?_, hb9.setCell (by show w.heap.size ≤ go; omega) _, by simp at hsz9 ⊢; omega⟩
                    rcases List.mem_append.1 h with h | h
                    · exact own_put (own_grown ((HFS.out r h).alloc _) g9 (own_apart (HFS.out r h) hos (by decide))) (by show go < w5.heap.size; omega) _
                    · obtain rfl : r = nr := by simpa using h
                      exact own_put (own_grown (HRO2.out.alloc _) g9 (own_apart HRO2.out hos (by decide))) (by show go < w5.heap.size; omega) _
                  case measure => simp [intOf]; omega
          · have d2 : decide ((0 : Int) ≤ rp) = false := by simp; omega
            have HPX := Lib.hid (show rp = rotX n k r.pred by rw [HRP.out]; unfold rotX; rw [if_neg (by omega)])
            go_wp2_with (at_builtin; refine wpList_append_from rfl _ _ 49 rfl (wr0.heap.size + 1) 56 il _ 9 112 Try.underlying49 hil hzl0 hzl1 hzl2 rfl (by decide) _ 0 [] rfl hoe ba r.lits.length r.bc (lcells r.lits) rfl ?hl HNO.out ?hnews ?h1 ?hm ?hby ?hbase ?_; rotate_left 6; intro v9 w9 o9 g9; obtain ⟨ua, uc, rfl⟩ := own_len o9; have hbx9 := (hbox.alloc (.cells #[] 56)).grown g9 (own_far hoe (hbox.alloc _) (by decide)); have hb9 := hb20.grown g9 (by simp; omega) (fun q hq => by have := (own_lt hoe hq).1; omega); obtain ⟨b0, b1, b2, b3, b4, b5, b6, b7, b8⟩ := ru_cells' hbx9; have bf7 := hbx9.frozen 7; have bf1 := hbx9.frozen 1)
            case hl => exact flat_count (f := Lit9.fs) (fun _ => rfl) _
            case hnews => exact HNW.out _ (hbw0.trans (hb20.mono hbw0.size))
            case h1 => exact lcells_one _
            case hm => unfold maxLen; omega
            case hby => omega
            try (case hbase => simp)
            rw [Nat.zero_add, List.nil_append] at o9
            have hbx := hbx9.put 7 (.slice ua r.lits.length uc)
            have hob := own_putne (p := ⟨wr0.heap.size, 7, none⟩) o9 (own_far o9 hbx9 (by decide)) (.slice ua r.lits.length uc)
            have hbk := hb9.setCell (p := ⟨wr0.heap.size, 7, none⟩) (Nat.le_refl _) (.slice ua r.lits.length uc)
            clear hbx9 o9 hb9 g9 hoe hb20 hbox
            generalize w9.setCell ⟨wr0.heap.size, 7, none⟩ (.slice ua r.lits.length uc) = wk at *
            have HBX := Lib.hid hbx
            have HOB := Lib.hid hob
            have HBK := Lib.hid hbk
            clear hbx hob hbk
            go_loopw [10] (fun jv ws => ∃ j : Nat, j ≤ r.lits.length ∧ jv = .int .i64 j ∧ At ws wr0.heap.size 51 #[.string r.name, .int .i64 rp, .slice r.args.a r.args.n r.args.c, .int .i64 r.ek, .string r.en, .string r.ev, .int .i64 r.ei, .slice ua r.lits.length uc, .int .i64 r.pos] ∧ ws.ownsRow (wr0.heap.size + 1) 56 9 (.slice ua r.lits.length uc) r.lits.length (lcells (rotJ n k r.lits j)) ∧ Below wr0.heap.size wr0 ws) (fun jv _ => r.lits.length - (intOf jv).toNat)
            case atStart => exact ⟨0, by omega, rfl, HBX.out, by rw [show rotJ n k r.lits 0 = r.lits from rfl]; exact HOB.out, HBK.out⟩
            case round =>
              obtain ⟨j, hj, rfl, hbx, hob, hbs⟩ := hrel
              obtain ⟨b0, b1, b2, b3, b4, b5, b6, b7, b8⟩ := ru_cells' hbx
              by_cases h6 : j < r.lits.length
              · have d6 : decide ((j : Int) < (r.lits.length : Int)) = true := by simp; omega
                obtain ⟨l, hlj⟩ : ∃ l, r.lits[j]? = some l := ⟨_, List.getElem?_eq_getElem h6⟩
                have hll := rotJ_at (n := n) (k := k) hlj
                obtain ⟨gu, rfl, hgu, hcu, hfu⟩ := own_at hob (by omega)
                have y2 : wr.cell? ⟨gu, j * 9 + 2, none⟩ = some (.int .i64 l.pred) := hcu _ _ (flat_at (f := Lit9.fs) (fun _ => rfl) _ j l 2 _ hll rfl)
                have yf : wr.frozen? ⟨gu, j * 9 + 2, none⟩ = false := hfu _
                have k0 : (0 : Int) ≤ (j : Int) := by omega
                have k1 : (j : Int) < (r.lits.length : Int) := by omega
                have hgR : wr0.heap.size + 1 ≤ gu := (own_lt hob rfl).1
                have hXL : (lcells (rotJ n k r.lits j)).length = r.lits.length * 9 := hob.1
                have HST := Lib.hid (rotJ_step (n := n) (k := k) hlj)
                have HLS2 := Lib.hid (lcells_set (l' := rotL n k l) hll rfl)
                have HOUT := Lib.hid (fun h => rotL_out (n := n) (k := k) (l := l) h)
                have HIN := Lib.hid (fun h => rotL_in (n := n) (k := k) (l := l) h)
                have HLL := Lib.hid hll
                have hbx0 := hbx
                obtain ⟨lp, hlp⟩ : ∃ lp, l.pred = lp := ⟨_, rfl⟩
                rw [hlp] at y2 HOUT HIN
                clear hlp hll hlj
                by_cases h7 : 0 ≤ lp
                · obtain ⟨b, rfl⟩ : ∃ b : Nat, lp = (b : Int) := ⟨lp.toNat, by omega⟩
                  have d7 : decide ((0 : Int) ≤ (b : Int)) = true := by simp
                  by_cases h8 : b < n
                  · have d8 : decide ((b : Int) < (n : Int)) = true := by simp; omega
                    have d8' : decide (b < n) = true := by simp; omega
                    have hrl2 := rot_lt (n := n) (k := k) h8
                    have hrq2 : Int.tmod ((b : Int) + (k : Int)) (n : Int) = ((rot n k b : Nat) : Int) := rem_rot n k b
                    have HPR2 := Lib.hid (HIN.out (by omega))
                    rw [Int.toNat_natCast] at HPR2
                    generalize rot n k b = t2 at *
                    have jw2 : IntKind.i64.wrap ((b : Int) + (k : Int)) = (b : Int) + (k : Int) := by rw [IntKind.wrap_i64]; omega
                    have j6 : ¬ n = 0 := by omega
                    have hset := own_set hob (i := j * 9 + 2) (by rw [hXL]; omega) (.int .i64 (t2 : Int))
                    have hbx2 := hbx0.far (p := ⟨gu, j * 9 + 2, none⟩) (by show wr0.heap.size ≠ gu; omega) (.int .i64 (t2 : Int))
                    have hbs2 := hbs.setCell (p := ⟨gu, j * 9 + 2, none⟩) (by show wr0.heap.size ≤ gu; omega) (.int .i64 (t2 : Int))
                    go_wp2_with fail
                    go_still_tail 15, (by kernel_rfl)
                    change wpList _ _ _ _ _ wr.drew
                    go_wp2_with fail
                    go_roundw
                    case rel => exact ⟨j + 1, by omega, by go_num, hbx2.drew, (by
                      have e := HLS2.out
                      rw [HST.out, HPR2.out] at e
                      rw [e]
                      exact own_drew hset), hbs2.drew⟩
                    case measure => simp [intOf]; omega
                  · have d8 : decide ((b : Int) < (n : Int)) = false := by simp; omega
                    have d8' : decide (b < n) = false := by simp; omega
                    have HS2 := Lib.hid (show rotJ n k r.lits (j + 1) = rotJ n k r.lits j by rw [← HST.out, HOUT.out (by omega)]; exact set_same HLL.out)
                    go_wp2_with fail
                    go_roundw
                    case rel => exact ⟨j + 1, by omega, by go_num, hbx0, by rw [HS2.out]; exact hob, hbs⟩
                    case measure => simp [intOf]; omega
                · have d7 : decide ((0 : Int) ≤ lp) = false := by simp; omega
                  have HS2 := Lib.hid (show rotJ n k r.lits (j + 1) = rotJ n k r.lits j by rw [← HST.out, HOUT.out (by omega)]; exact set_same HLL.out)
                  go_wp2_with fail
                  go_roundw
                  case rel => exact ⟨j + 1, by omega, by go_num, hbx0, by rw [HS2.out]; exact hob, hbs⟩
                  case measure => simp [intOf]; omega
              · have d6 : decide ((j : Int) < (r.lits.length : Int)) = false := by simp; omega
                have hjl : j = r.lits.length := by omega
                have hfull : rotJ n k r.lits j = r.lits.map (rotL n k) := by unfold rotJ; rw [List.take_of_length_le (by omega), List.drop_of_length_le (by omega), List.append_nil]
                rw [hfull] at hob
                obtain ⟨nr, hnr⟩ : ∃ nr : Ru, nr = { r with pred := rp, ba := ua, bc := uc, lits := r.lits.map (rotL n k) } := ⟨_, rfl⟩
                have HNR := Lib.hid (show nr.fs = [.string r.name, .int .i64 rp, .slice r.args.a r.args.n r.args.c, .int .i64 r.ek, .string r.en, .string r.ev, .int .i64 r.ei, .slice ua r.lits.length uc, .int .i64 r.pos] by rw [hnr]; unfold Ru.fs; simp)
                have HCR := Lib.hid (show coreR nr = rotC n k (coreR r) by rw [hnr]; unfold coreR rotC; rw [HPX.out])
                have HRO2 := Lib.hid (show RuOwn wr w5.heap.size nr by
                  unfold RuOwn
                  rw [hnr]
                  dsimp only
                  rw [List.length_map]
                  exact own_mono hob (by omega))
                have hqs := HQ.out.next hbs
                have hos := own_below HOWN.out hbs
                have hpb2 := HPB.out.next hbs
                have hrt2 := HRT.out.next hbs
                have hat2 := HAT.out.next hbs
                have hbz := HBZ.out.trans (hbs.mono HBZ.out.size)
                have HFS := Lib.hid (fun r h => (HFO.out r h).below hbs)
                have q3 := hqs.cell 3
                have hlt := hqs.lt
                have hlt2 := hbx.lt
                have hz := hbz.size
                have hzs := hbs.size
                have HRX := Lib.hid (show (F ++ [nr]).map coreR = ((p.rus.map coreR).map (rotC n k)).take (i + 1) by rw [List.map_append, HF.out, HFK.out]; simp [HCR.out])
                clear hnr hob hbx hjl hfull
                go_wp2_with (at_builtin; refine wpList_append_own _ rfl _ _ 25 rfl w5.heap.size 51 ir _ 9 128 Try.underlying25 hir hzr0 hzr1 hzr2 rfl (by decide) _ _ _ rfl (hos.alloc _) ⟨wr.heap.size, 0, none⟩ 1 1 [.string r.name, .int .i64 rp, .slice r.args.a r.args.n r.args.c, .int .i64 r.ek, .string r.en, .string r.ev, .int .i64 r.ei, .slice ua r.lits.length uc, .int .i64 r.pos] rfl rfl (At.news (xs := [.string r.name, .int .i64 rp, .slice r.args.a r.args.n r.args.c, .int .i64 r.ek, .string r.en, .string r.ev, .int .i64 r.ei, .slice ua r.lits.length uc, .int .i64 r.pos]) (At.newAt rfl 51 _)) (fun u hu => by simp at hu; rcases hu with rfl | rfl | rfl | rfl | rfl | rfl | rfl | rfl | rfl <;> rfl) (by unfold maxLen; omega) (by omega) (by simp; omega) ?_; intro v9 w9 o9 g9 _; obtain ⟨va9, vc9, rfl⟩ := own_len o9; have hp9 := (hqs.alloc (.cells #[.string r.name, .int .i64 rp, .slice r.args.a r.args.n r.args.c, .int .i64 r.ek, .string r.en, .string r.ev, .int .i64 r.ei, .slice ua r.lits.length uc, .int .i64 r.pos] 51)).grown g9 (own_far hos hqs (by decide)); have s3 := hp9.cell 3; have sf := hp9.frozen 3; have hlo := fun q hq => (own_lt hos (g := q) hq).1; have hb9 := (hbz.alloc hbz.size (.cells #[.string r.name, .int .i64 rp, .slice r.args.a r.args.n r.args.c, .int .i64 r.ek, .string r.en, .string r.ev, .int .i64 r.ei, .slice ua r.lits.length uc, .int .i64 r.pos] 51)).grown g9 (by simp; omega) (fun q hq => by have := hlo q hq; omega); have hpb9 := (hpb2.next (below1 wr (.cells #[.string r.name, .int .i64 rp, .slice r.args.a r.args.n r.args.c, .int .i64 r.ek, .string r.en, .string r.ev, .int .i64 r.ei, .slice ua r.lits.length uc, .int .i64 r.pos] 51))).grown g9 (by intro h; have := hlo _ h.symm; omega); have hrt9 := (hrt2.next (below1 wr (.cells #[.string r.name, .int .i64 rp, .slice r.args.a r.args.n r.args.c, .int .i64 r.ek, .string r.en, .string r.ev, .int .i64 r.ei, .slice ua r.lits.length uc, .int .i64 r.pos] 51))).grown g9 (own_far hos hrt2 (by decide)); have hat9 := (hat2.next (below1 wr (.cells #[.string r.name, .int .i64 rp, .slice r.args.a r.args.n r.args.c, .int .i64 r.ek, .string r.en, .string r.ev, .int .i64 r.ei, .slice ua r.lits.length uc, .int .i64 r.pos] 51))).grown g9 (own_far hos hat2 (by decide)); have hsz9 := g9.size)
                go_roundw
                case rel =>
                  refine ⟨i + 1, F ++ [nr], _, by omega, by go_num, HRX.out, by simp; omega, hpb9.far (by show gp ≠ go; omega) _, hp9.put 3 _, hrt9.far (by show br ≠ go; omega) _, hat9.far (by show w.heap.size ≠ go; omega) _, own_putne (by rw [rcells_snoc, HNR.out]; exact o9) (own_far o9 hp9 (by decide)) _, fun r h => ?_, hb9.setCell (by show w.heap.size ≤ go; omega) _, by simp at hsz9 ⊢; omega⟩
                  rcases List.mem_append.1 h with h | h
                  · exact own_put (own_grown ((HFS.out r h).alloc _) g9 (own_apart (HFS.out r h) hos (by decide))) (by show go < w5.heap.size; omega) _
                  · obtain rfl : r = nr := by simpa using h
                    exact own_put (own_grown (HRO2.out.alloc _) g9 (own_apart HRO2.out hos (by decide))) (by show go < w5.heap.size; omega) _
                case measure => simp [intOf]; omega
        · have d1 : decide ((i : Int) < (p.rus.length : Int)) = false := by simp; omega
          obtain ⟨g0, g1, g2, g3⟩ : wr0.cell? ⟨go, 0, none⟩ = some (.slice none 0 0) ∧ wr0.cell? ⟨go, 1, none⟩ = some (.slice none 0 0) ∧ wr0.cell? ⟨go, 2, none⟩ = some (.slice (some ⟨gp, 0, none⟩) n n) ∧ wr0.cell? ⟨go, 3, none⟩ = some (.slice qa i qc) := ⟨hgo.cell 0, hgo.cell 1, hgo.cell 2, hgo.cell 3⟩
          obtain ⟨r0, r1, r2, r3⟩ : wr0.cell? ⟨br, 0, none⟩ = some (.slice none 0 0) ∧ wr0.cell? ⟨br, 1, none⟩ = some (.slice none 0 0) ∧ wr0.cell? ⟨br, 2, none⟩ = some (.slice none 0 0) ∧ wr0.cell? ⟨br, 3, none⟩ = some (.slice none 0 0) := ⟨hrt.cell 0, hrt.cell 1, hrt.cell 2, hrt.cell 3⟩
          have f0 := hrt.frozen 0
          have f1 := hrt.frozen 1
          have f2 := hrt.frozen 2
          have f3 := hrt.frozen 3
          go_wp2_with fail
          have hrF := (((hrt.put 0 (.slice none 0 0)).put 1 (.slice none 0 0)).put 2 (.slice (some ⟨gp, 0, none⟩) n n)).put 3 (.slice qa i qc)
          have hbF := (((hb.setCell (p := ⟨br, 0, none⟩) (by show w.heap.size ≤ br; omega) (.slice none 0 0)).setCell (p := ⟨br, 1, none⟩) (by show w.heap.size ≤ br; omega) (.slice none 0 0)).setCell (p := ⟨br, 2, none⟩) (by show w.heap.size ≤ br; omega) (.slice (some ⟨gp, 0, none⟩) n n)).setCell (p := ⟨br, 3, none⟩) (by show w.heap.size ≤ br; omega) (.slice qa i qc)
          have hou2 := own_put (own_put (own_put (own_put hown (p := ⟨br, 0, none⟩) (by show br < w5.heap.size; omega) (.slice none 0 0)) (p := ⟨br, 1, none⟩) (by show br < w5.heap.size; omega) (.slice none 0 0)) (p := ⟨br, 2, none⟩) (by show br < w5.heap.size; omega) (.slice (some ⟨gp, 0, none⟩) n n)) (p := ⟨br, 3, none⟩) (by show br < w5.heap.size; omega) (.slice qa i qc)
          have hro2 : ∀ r ∈ F, RuOwn _ _ r := fun r h => own_put (own_put (own_put (own_put (hFo r h) (p := ⟨br, 0, none⟩) (by show br < w5.heap.size; omega) (.slice none 0 0)) (p := ⟨br, 1, none⟩) (by show br < w5.heap.size; omega) (.slice none 0 0)) (p := ⟨br, 2, none⟩) (by show br < w5.heap.size; omega) (.slice (some ⟨gp, 0, none⟩) n n)) (p := ⟨br, 3, none⟩) (by show br < w5.heap.size; omega) (.slice qa i qc)
          have hpb2 := (((hpb.far (p := ⟨br, 0, none⟩) (by show gp ≠ br; omega) (.slice none 0 0)).far (p := ⟨br, 1, none⟩) (by show gp ≠ br; omega) (.slice none 0 0)).far (p := ⟨br, 2, none⟩) (by show gp ≠ br; omega) (.slice (some ⟨gp, 0, none⟩) n n)).far (p := ⟨br, 3, none⟩) (by show gp ≠ br; omega) (.slice qa i qc)
          generalize (((wr0.setCell ⟨br, 0, none⟩ (.slice none 0 0)).setCell ⟨br, 1, none⟩ (.slice none 0 0)).setCell ⟨br, 2, none⟩ (.slice (some ⟨gp, 0, none⟩) n n)).setCell ⟨br, 3, none⟩ (.slice qa i qc) = Wf at *
          obtain ⟨s0, s1, s2, s3⟩ : Wf.cell? ⟨br, 0, none⟩ = some (.slice none 0 0) ∧ Wf.cell? ⟨br, 1, none⟩ = some (.slice none 0 0) ∧ Wf.cell? ⟨br, 2, none⟩ = some (.slice (some ⟨gp, 0, none⟩) n n) ∧ Wf.cell? ⟨br, 3, none⟩ = some (.slice qa i qc) := ⟨hrF.cell 0, hrF.cell 1, hrF.cell 2, hrF.cell 3⟩
          have hFC : F.map coreR = (p.rus.map coreR).map (rotC n k) := by rw [HF.out, List.take_of_length_le (by simp; omega)]
          have HX := Lib.hid hFl
          clear hFl
          (try simp only [Exit.inBlock, Exit.then])
          refine bodyPost_ret (v := .agg #[.slice none 0 0, .slice none 0 0, .slice (some ⟨gp, 0, none⟩) n n, .slice qa i qc]) (by simp [results, Try.func27, go_sem, s0, s1, s2, s3]; try rfl) rfl ?_
          have hFl := HX.out
          obtain ⟨PL, hPL, hPP⟩ := turned_prs (p := p) (k := k) HPG.out hk
          obtain ⟨h8, h9, h10⟩ := str_own (f := Ru.fs) (fun _ => rfl) hou2 hFl
          refine ⟨⟨⟨none, 0, 0⟩, ⟨none, 0, 0⟩, some ⟨gp, 0, none⟩, n, PL, qa, qc, F⟩, ?_, ⟨?_, ⟨by show PL.length ≤ n; omega, by show n ≤ maxLen; unfold maxLen; omega⟩, h8, ⟨by show F.length ≤ qc; omega, h10⟩, fun r h => (hro2 r h).ok ?_⟩, ⟨HPG.out, hPL, hk, ?_, hFC⟩, hbF⟩
          · simp only [hPL, hFl]
          · intro _
            refine ⟨gp, 0, rfl, hpb2.lt, fun v fs hv j u hu => ?_⟩
            rw [List.getElem?_map, Option.map_eq_some_iff] at hv
            obtain ⟨x, hx, rfl⟩ := hv
            have hvn : v < n := by have := (List.getElem?_eq_some_iff.1 (show PL[v]? = some x from hx)).1; rw [hPL] at this; exact this
            rw [Nat.zero_add]
            exact hpb2.cell hvn (by rw [(hPP v hvn x hx).1]; exact hu)
          · have hm : coreR r ∈ (p.rus.map coreR).map (rotC n k) := by rw [← hFC]; exact List.mem_map_of_mem h
            obtain ⟨d, hd, e⟩ := List.mem_map.1 hm
            obtain ⟨s, hs, rfl⟩ := List.mem_map.1 hd
            have hi6 := (HRO.out s hs).i64
            have e1 : rotX n k s.pred = r.pred := congrArg Prod.fst e
            have e2 : s.lits.map (rotL n k) = r.lits := congrArg Prod.snd e
            rw [← e1, ← e2]
            refine ⟨rotX_i64 hn1 hi6.1, fun l hl => ?_⟩
            obtain ⟨m, hm, rfl⟩ := List.mem_map.1 hl
            obtain ⟨h1', h2', h3'⟩ := hi6.2 m hm
            exact ⟨h1', rotX_i64 hn1 h2', h3'⟩
          · intro j hj
            obtain ⟨x, hx⟩ : ∃ x, PL[rot n k j]? = some x := ⟨_, List.getElem?_eq_getElem (by rw [hPL]; exact rot_lt hj)⟩
            obtain ⟨r, hr⟩ : ∃ r, p.prs[j]? = some r := ⟨_, List.getElem?_eq_getElem (by rw [HPG.out]; exact hj)⟩
            have h1' := (hPP _ (rot_lt hj) x hx).2 j hj rfl
            rw [hr] at h1'
            obtain rfl := Option.some.inj h1'
            rw [List.getD_eq_getElem?_getD, List.getElem?_map, hx, List.getD_eq_getElem?_getD, List.getElem?_map, hr]
end Go.Proofs.Ytljlihimmcmlmaa
