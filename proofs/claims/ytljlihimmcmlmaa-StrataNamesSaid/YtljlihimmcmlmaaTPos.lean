/- The walk of Recursive. -/
import Derived.Test.YtljlihimmcmlmaaTCmp
import Derived.Test.YtljlihimmcmlmaaTRpo
namespace Go.Proofs.Ytljlihimmcmlmaa
set_option linter.unusedVariables false
set_option linter.unusedSimpArgs false
open Go.RowKit
theorem contains_ints (row : List Nat) (a : Nat) : (ints row).contains (a : Int) = row.contains a := by
  unfold ints
  induction row with
  | nil => rfl
  | cons x r ih =>
    rw [List.map_cons, List.contains_cons, List.contains_cons, ih]
    congr 1
    by_cases e : a = x
    · subst e; simp
    · rw [beq_eq_false_iff_ne.2 e, beq_eq_false_iff_ne.2 (by omega)]
theorem contains_any (A : Option Addr) (c : Nat) (row : List Nat) (a : Nat) (w : World) (h : NumsN w A row) (hl : row.length ≤ 2000000) : Calls Try.prog 39 #[.slice A row.length c, .int .i64 (a : Int)] w fun e w' => e = .returned (.bool (row.contains a)) ∧ w' = w := by
  cases hr : row with
  | nil => exact Try.slices_Contains_int_empty A c (a : Int) w
  | cons x r =>
    rw [← hr]
    obtain ⟨g, o, rfl, _, hc⟩ := h (by rw [hr]; simp)
    have hz := Try.slices_Contains_int g o row.length c (ints row) (a : Int) w (by rw [ints_len]; omega) (by omega) (fun j hj => by
      rw [ints_len] at hj
      rw [hc j _ (List.getElem?_eq_getElem hj)]
      simp [ints, hj])
    rw [List.take_of_length_le (by rw [ints_len]; omega), contains_ints] at hz
    exact hz
/-- What Recursive says. -/
def srec (es : List Tj.Ed) (n x : Nat) : Bool := decide (1 < ((Tj.whole (Tj.next es) n).out.getD ((Tj.whole (Tj.next es) n).of.getD x 0) []).length) || (Tj.next es x).contains x
set_option maxHeartbeats 1000000 in
set_option maxRecDepth 100000 in
theorem recursive_any (p : Pg) (n : Nat) (x : Int) (w : World) (hp : PgOk w p) (hf : PgFine p n) :
    Calls Try.prog 17 #[p.v, .int .i64 x] w fun e w' => e = .returned (.bool (ins p x && srec (edges p) n x.toNat)) ∧ Below w.heap.size w w' := by
  have HG := Lib.hid (fun W (h : Below w.heap.size w W) => groups_any p n W (hp.below h) hf)
  have HU := Lib.hid (fun W (h : Below w.heap.size w W) => uses_any p n W (hp.below h) hf)
  have HI := Lib.hid (fun W (h : Below w.heap.size w W) => inside_any p x W (hp.below h))
  have hpt := Tj.whole_parts (g := Tj.next (edges p)) (n := n) (next_in hf.es)
  have hinv := (Tj.whole_inv (g := Tj.next (edges p)) (n := n) (next_in hf.es)).1
  have hnl := fun a => Nat.le_trans (next_le (edges p) a) hf.el
  have hii := @ins_iff p x
  rw [hf.hn] at hii
  have hn1 := hf.n1
  have hsr : srec (edges p) n x.toNat = (decide (1 < ((Tj.whole (Tj.next (edges p)) n).out.getD ((Tj.whole (Tj.next (edges p)) n).of.getD x.toNat 0) []).length) || (Tj.next (edges p) x.toNat).contains x.toNat) := rfl
  have hn := hf.hn
  generalize srec (edges p) n x.toNat = R at *
  generalize Tj.next (edges p) = nx at *
  generalize Tj.whole nx n = wh at *
  have hofl : wh.of.length = n := hinv.lof
  have hnc : wh.out.length ≤ n := out_len hinv
  clear hf hp hinv
  generalize ins p x = iv at *
  unfold Pg.v at HG HU HI ⊢
  generalize p.ra = ra at *
  generalize p.pa = pa at *
  rw [hn] at HG HU HI ⊢
  clear hn
  have HAT := Lib.hid (At.new w 27 #[.slice p.lat.a p.lat.n p.lat.c, .slice p.fns.a p.fns.n p.fns.c, .slice pa n p.pc, .slice ra p.rus.length p.rc])
  cases iv
  · clear hii HG HU hsr hpt
    go_enter Try.func17, Try.ntmps17
    go_wp2_with (go_at_call 38; refine (HI.out _ (below1 _ _)).mono ?_; rintro e w2 ⟨rfl, hb2⟩)
    go_ret
    exact ⟨rfl, (below1 _ _).trans (hb2.mono (by simp))⟩
  · obtain ⟨k, hk, rfl⟩ := hii.1 rfl
    clear hii
    rw [Int.toNat_natCast] at hsr
    obtain ⟨b, hb⟩ : ∃ b, wh.of.getD k 0 = b := ⟨_, rfl⟩
    rw [hb] at hsr
    have hgb : wh.of[k]? = some b := by rw [← hb, List.getD_eq_getElem?_getD, List.getElem?_eq_getElem (by omega)]; rfl
    have hbl : b < wh.out.length := by have := hpt.lt hk; rw [hb] at this; exact this
    obtain ⟨row, hrow⟩ : ∃ row, wh.out[b]? = some row := ⟨_, List.getElem?_eq_getElem hbl⟩
    rw [show wh.out.getD b [] = row by rw [List.getD_eq_getElem?_getD, hrow]; rfl] at hsr
    have HSR := Lib.hid hsr
    have HPT := Lib.hid hpt
    have i0 : (0 : Int) ≤ (k : Int) := by omega
    have i1 : (k : Int) < (n : Int) := by omega
    have i2 : (0 : Int) ≤ (b : Int) := by omega
    have i3 : (b : Int) < (wh.out.length : Int) := by omega
    clear hsr hpt hb
    by_cases hm : 1 < row.length
    · have t1 : decide ((1 : Int) < (row.length : Int)) = true := by simp; omega
      have HR := Lib.hid (show R = true by rw [HSR.out, decide_eq_true hm]; rfl)
      go_enter Try.func17, Try.ntmps17
      go_wp2_with (first | (go_at_call 38; refine (HI.out _ (below1 _ _)).mono ?_; rintro e w2 ⟨rfl, hb2⟩; obtain ⟨p0, p1, p2, p3⟩ := pg_cells (HAT.out.next hb2); have hb3 : Below w.heap.size w w2 := (below1 _ _).trans (hb2.mono (by simp))) | (go_at_call 32; refine (HG.out _ hb3).mono ?_; rintro e w3 ⟨A1, c1, A2, c2, rfl, ho, hl, hb4⟩; obtain ⟨g1, o1, rfl, hg1, y1⟩ := ho.at hgb; obtain ⟨g2, o2, B2, d2, rfl, hg2, y2, hn2⟩ := hl.at hrow))
      go_ret
      exact ⟨by rw [HR.out]; rfl, hb3.trans (hb4.mono hb3.size)⟩
    · have t1 : decide ((1 : Int) < (row.length : Int)) = false := by simp; omega
      obtain ⟨cv, hcv⟩ : ∃ cv, (nx k).contains k = cv := ⟨_, rfl⟩
      have HR := Lib.hid (show R = cv by rw [HSR.out, decide_eq_false hm, ← hcv]; rfl)
      have HCV := Lib.hid hcv
      clear hcv
      have HNL := Lib.hid (hnl k)
      go_enter Try.func17, Try.ntmps17
      go_wp2_with (first | (go_at_call 38; refine (HI.out _ (below1 _ _)).mono ?_; rintro e w2 ⟨rfl, hb2⟩; obtain ⟨p0, p1, p2, p3⟩ := pg_cells (HAT.out.next hb2); have hb3 : Below w.heap.size w w2 := (below1 _ _).trans (hb2.mono (by simp))) | (go_at_call 32; refine (HG.out _ hb3).mono ?_; rintro e w3 ⟨A1, c1, A2, c2, rfl, ho, hl, hb4⟩; obtain ⟨g1, o1, rfl, hg1, y1⟩ := ho.at hgb; obtain ⟨g2, o2, B2, d2, rfl, hg2, y2, hn2⟩ := hl.at hrow; obtain ⟨p0, p1, p2, p3⟩ := pg_cells (HAT.out.next (hb2.trans (hb4.mono hb2.size))); have hb5 := hb3.trans (hb4.mono hb3.size)) | (go_at_call 40; refine (HU.out _ hb5).mono ?_; rintro e w4 ⟨ge, hs, rfl, hfan, hb6⟩; obtain ⟨A9, c9, h9⟩ := fan_get hfan k hk; obtain ⟨y9, hn9⟩ := h9 w4 (Below.refl _ _); have hc0 := contains_any A9 c9 (nx k) k w4 hn9 (by have := HNL.out; omega); rw [HCV.out] at hc0; have HC := Lib.hid hc0; clear hc0) | (go_at_call 39; refine HC.out.mono ?_; rintro e w5 ⟨rfl, rfl⟩))
      go_ret
      exact ⟨by rw [HR.out]; rfl, hb5.trans (hb6.mono hb5.size)⟩
end Go.Proofs.Ytljlihimmcmlmaa
namespace Go.Proofs.Ytljlihimmcmlmaa
set_option linter.unusedVariables false
set_option linter.unusedSimpArgs false
open Go.RowKit
/-- The search for what a predicate depends on. -/
structure PInv (g : Tj.G) (n k : Nat) (L : List Nat) (i : Nat) : Prop where
  own : k ∈ L
  ok : ∀ v ∈ L, v < n ∧ Tj.Reach g k v
  nd : L.Nodup
  done : ∀ (m v : Nat), m < i → L[m]? = some v → ∀ b ∈ g v, b ∈ L
theorem PInv.more {g : Tj.G} {n k : Nat} {L : List Nat} {i b v : Nat} (h : PInv g n k L i) (hi : i ≤ L.length) (hb : b ∉ L) (hv : v ∈ L) (hbv : b ∈ g v) (hbn : b < n) : PInv g n k (L ++ [b]) i := by
  refine ⟨by simp [h.own], fun x hx => ?_, ?_, fun m x hm hx c hc => ?_⟩
  · rcases List.mem_append.1 hx with hx | hx
    · exact h.ok x hx
    · simp at hx; subst hx; exact ⟨hbn, (h.ok v hv).2.snoc hbv⟩
  · rw [List.nodup_append]
    exact ⟨h.nd, by simp, fun x hx y hy e => by simp at hy; subst hy; subst e; exact hb hx⟩
  · rw [List.getElem?_append_left (by omega)] at hx
    exact List.mem_append_left _ (h.done m x hm hx c hc)
theorem PInv.step {g : Tj.G} {n k : Nat} {L : List Nat} {i v : Nat} (h : PInv g n k L i) (hv : L[i]? = some v) (hs : ∀ b ∈ g v, b ∈ L) : PInv g n k L (i + 1) :=
  ⟨h.own, h.ok, h.nd, fun m x hm hx c hc => by
    by_cases e : m = i
    · subst e; rw [hv] at hx; obtain rfl := Option.some.inj hx; exact hs c hc
    · exact h.done m x (by omega) hx c hc⟩
theorem PInv.all {g : Tj.G} {n k : Nat} {L : List Nat} (h : PInv g n k L L.length) (v : Nat) : v ∈ L ↔ Tj.Reach g k v := by
  refine ⟨fun hv => (h.ok v hv).2, fun hr => ?_⟩
  have key : ∀ a b, Tj.Reach g a b → a ∈ L → b ∈ L := fun a b hr => by
    induction hr with
    | refl => exact fun h => h
    | @step x y z hy _ ih =>
      intro hx
      obtain ⟨m, hm⟩ := List.getElem?_of_mem hx
      exact ih (h.done m x (List.getElem?_eq_some_iff.1 hm).1 hm y hy)
  exact key k v hr h.own
/-- Which numbers have been seen. -/
def SeenN (L : List Nat) (f : Int → Option Bool) : Prop := ∀ v : Nat, (f (v : Int)).getD false = decide (v ∈ L)
theorem seenN_more {L : List Nat} {f : Int → Option Bool} {k : Nat} (h : SeenN L f) : SeenN (L ++ [k]) (fun y => if y = (k : Int) then some true else f y) := fun v => by
  show (if (v : Int) = (k : Int) then some true else f (v : Int)).getD false = _
  by_cases e : v = k
  · subst e; simp
  · rw [if_neg (by omega), h v]; simp [e]
theorem own_one (w : World) (B : Nat) (hB : B ≤ w.heap.size) (x : Value) (t : TypeId) : (w.alloc (.cells #[x] t)).ownsRow B t 1 (.slice (some ⟨w.heap.size, 0, none⟩) 1 1) 1 [x] :=
  ⟨by simp, Or.inr ⟨w.heap.size, 1, #[x], rfl, hB, heap_alloc_new w _, Nat.le_refl _, by unfold maxLen; omega, by simp, by simp⟩⟩
open Classical in
/-- What Positive says. -/
noncomputable def spos (p : Pg) (k : Nat) : Bool := decide ((∀ v, Tj.Reach (Tj.next (edges p)) k v → (p.prs.map Pr.of).getD v (-1) = -1) ∧ ∀ e ∈ edges p, e.g = true → ¬ Tj.Reach (Tj.next (edges p)) k e.a)
open Classical in
theorem spos_iff (p : Pg) (k : Nat) : spos p k = true ↔ (∀ v, Tj.Reach (Tj.next (edges p)) k v → (p.prs.map Pr.of).getD v (-1) = -1) ∧ ∀ e ∈ edges p, e.g = true → ¬ Tj.Reach (Tj.next (edges p)) k e.a := by
  unfold spos; exact decide_eq_true_iff
set_option maxHeartbeats 2000000 in
set_option maxRecDepth 100000 in
theorem positive_any (p : Pg) (n : Nat) (x : Int) (w : World) (hp : PgOk w p) (hf : PgFine p n) :
    Calls Try.prog 22 #[p.v, .int .i64 x] w fun e w' => e = .returned (.bool (ins p x && spos p x.toNat)) ∧ Below w.heap.size w w' := by
  obtain ⟨in2, hi2, hx0, hx1, hx2⟩ := info_of int_info
  have HU := Lib.hid (fun W (h : Below w.heap.size w W) => uses_any p n W (hp.below h) hf)
  have HI := Lib.hid (fun W (h : Below w.heap.size w W) => inside_any p x W (hp.below h))
  have HG := Lib.hid (fun W (h : Below w.heap.size w W) => edges_any p W (hp.below h) hf.rs hf.ls)
  have HPR := Lib.hid (fun W (h : Below w.heap.size w W) (a : Nat) (ha : a < p.prs.length) => prAt (hp.below h) ha)
  have HNI := Lib.hid (next_in hf.es)
  have HNL := Lib.hid (fun a => Nat.le_trans (next_le (edges p) a) hf.el)
  have HES := Lib.hid hf.es
  have hel := hf.el
  have hii := @ins_iff p x
  rw [hf.hn] at hii
  have hn1 := hf.n1
  have HSP := Lib.hid (spos_iff p)
  generalize spos p = sp at *
  have hn := hf.hn
  generalize edges p = es at *
  generalize Tj.next es = nx at *
  clear hf hp
  generalize ins p x = iv at *
  unfold Pg.v at HU HI HG ⊢
  generalize p.ra = ra at *
  generalize p.pa = pa at *
  rw [hn] at HU HI HG HPR ⊢
  generalize (p.prs.map Pr.of) = ofs at *
  clear hn
  have HAT := Lib.hid (At.new w 27 #[.slice p.lat.a p.lat.n p.lat.c, .slice p.fns.a p.fns.n p.fns.c, .slice pa n p.pc, .slice ra p.rus.length p.rc])
  cases iv
  · clear hii HG HU
    go_enter Try.func22, Try.ntmps22
    go_wp2_with (go_at_call 38; refine (HI.out _ (below1 _ _)).mono ?_; rintro e w2 ⟨rfl, hb2⟩)
    go_ret
    exact ⟨rfl, (below1 _ _).trans (hb2.mono (by simp))⟩
  · obtain ⟨k, hk, rfl⟩ := hii.1 rfl
    clear hii
    rw [Int.toNat_natCast, Bool.true_and]
    obtain ⟨R, hR⟩ : ∃ R, sp k = R := ⟨_, rfl⟩
    have hsp := HSP.out k
    rw [hR] at hsp ⊢
    have HSP := Lib.hid hsp
    clear hsp hR
    have i0 : (0 : Int) ≤ (k : Int) := by omega
    have i1 : (k : Int) < (n : Int) := by omega
    have hmm := @run_makeMap Try.prog
    go_enter Try.func22, Try.ntmps22
    go_wp2_with (first | (go_at_call 38; refine (HI.out _ (below1 _ _)).mono ?_; rintro e w2 ⟨rfl, hb2⟩; obtain ⟨p0, p1, p2, p3⟩ := pg_cells (HAT.out.next hb2); have hb3 : Below w.heap.size w w2 := (below1 _ _).trans (hb2.mono (by simp))) | (go_at_call 40; refine (HU.out _ hb3).mono ?_; rintro e w3 ⟨ge, hs, rfl, hfan, hb4⟩; have f1 := FMap.made w3 Try.prog 3 (plainElem Try.prog 4) ival bdat; obtain ⟨w4, r1, f2, g2⟩ := f1.update int_enc bool_enc Try.underlying77 (by unfold maxLen; omega) (k : Int) (by unfold I64; omega) true; simp only [ival] at r1))
    have hfg := fan_get hfan
    have HFG := Lib.hid hfg
    have hz3 := hb4.size
    have hbm : Below w3.heap.size w3 w4 := ((below1 w3 _).trans (below_of_grown g2 (Nat.le_refl _) (by simp)))
    have hz4 : w3.heap.size + 1 ≤ w4.heap.size := by have := g2.size; simp at this; omega
    have hbw := hb3.trans (hb4.mono hb3.size)
    have hat3 := (HAT.out.next hb2).next hb4
    have hown0 := own_one w4 (w3.heap.size + 1) hz4 (.int .i64 (k : Int)) 3
    have f3 := f2.next (below1 w4 (.cells #[.int .i64 (k : Int)] 3))
    have hb0 : Below w3.heap.size w3 (w4.alloc (.cells #[.int .i64 (k : Int)] 3)) := hbm.alloc hbm.size _
    clear hfg f1 r1 f2 g2 hmm p0 p1 p2 p3 hb2 hb4 hbm HU HI hfan
    go_loopw [7, 8, 10, 42] (fun l i _ _ wr => ∃ (L : List Nat) (i' nn : Nat) (f : Int → Option Bool), i' ≤ L.length ∧ i = .int .i64 i' ∧ wr.ownsRow (w3.heap.size + 1) 3 1 l L.length (ncells L) ∧ IMap wr w3.heap.size nn f ∧ Hid (SeenN L f) ∧ nn ≤ L.length ∧ Hid (PInv nx n k L i') ∧ Below w3.heap.size w3 wr) (fun _ i _ _ _ => n + 1 - (intOf i).toNat)
    case atStart => exact ⟨[k], 0, 1, _, by simp, rfl, hown0, f3, Lib.hid (fun v => by
      show (if (v : Int) = (k : Int) then some true else none).getD false = _
      by_cases e : v = k
      · subst e; simp
      · rw [if_neg (by omega)]; simp [e]), by simp, Lib.hid ⟨by simp, fun v hv => by simp at hv; subst hv; exact ⟨hk, Tj.Reach.refl⟩, by simp, fun m v hm => by omega⟩, hb0⟩
    case round =>
      clear hown0 f3 hb0
      obtain ⟨L, i, nn, f, hi, rfl, ho, hm, HS, hnn, HP, hbr⟩ := hrel
      obtain ⟨la, lc, rfl⟩ := own_len ho
      have hln : L.length ≤ n := nodup_le HP.out.nd (fun v hv => (HP.out.ok v hv).1)
      by_cases h1 : i < L.length
      · have d1 : decide ((i : Int) < (L.length : Int)) = true := by simp; omega
        obtain ⟨v, hv⟩ : ∃ v, L[i]? = some v := ⟨_, List.getElem?_eq_getElem h1⟩
        have hvn := (HP.out.ok v (List.mem_of_getElem? hv)).1
        obtain ⟨A9, c9, ev2, _, _, hcs⟩ := own_cells ho
        rcases hcs with hcs | ⟨gl, rfl, _, hgl, hcs⟩
        · exact absurd hcs (by omega)
        injection ev2 with ev3 _ ev4
        subst ev3
        clear ev4
        have yl := hcs _ _ (ncells_get hv)
        obtain ⟨ra, rc, h9⟩ := HFG.out v hvn
        have yh := (h9 wr hbr).1
        have H9 := Lib.hid h9
        have hrl := HNL.out v
        have j0 : (0 : Int) ≤ (i : Int) := by omega
        have j1 : (i : Int) < (L.length : Int) := by omega
        have j2 : (0 : Int) ≤ (v : Int) := by omega
        have j3 : (v : Int) < (n : Int) := by omega
        have HV := Lib.hid hv
        clear hcs hv h9
        go_wp2_with fail
        go_loopw [7, 10, 42] (fun l _ j wr => ∃ (L' : List Nat) (j' nn : Nat) (f : Int → Option Bool), j' ≤ (nx v).length ∧ j = .int .i64 j' ∧ wr.ownsRow (w3.heap.size + 1) 3 1 l L'.length (ncells L') ∧ IMap wr w3.heap.size nn f ∧ Hid (SeenN L' f) ∧ nn ≤ L'.length ∧ Hid (PInv nx n k L' i) ∧ i < L'.length ∧ Hid (L'[i]? = some v) ∧ Hid (∀ b ∈ (nx v).take j', b ∈ L') ∧ Below w3.heap.size w3 wr) (fun _ _ j _ => (nx v).length - (intOf j).toNat)
        case atStart => exact ⟨L, 0, nn, f, by omega, rfl, ho, hm, HS, hnn, HP, h1, HV, Lib.hid (by simp), hbr⟩
        case round =>
          clear ho hm HS hnn HP h1 HV hbr yl yh d1 hln
          obtain ⟨L, j, nn, f, hj, rfl, ho, hm, HS, hnn, HP, h1, HV, HT, hbr⟩ := hrel
          obtain ⟨la, lc, rfl⟩ := own_len ho
          have hln : L.length ≤ n := nodup_le HP.out.nd (fun v hv => (HP.out.ok v hv).1)
          by_cases h2 : j < (nx v).length
          · have d2 : decide ((j : Int) < ((nx v).length : Int)) = true := by simp; omega
            obtain ⟨b, hb⟩ : ∃ b, (nx v)[j]? = some b := ⟨_, List.getElem?_eq_getElem h2⟩
            have hbv := List.mem_of_getElem? hb
            have hbn := HNI.out v hvn b hbv
            obtain ⟨gx, ox, rfl, hgx, cx⟩ := (H9.out wr hbr).2.at hb
            have q0 := hm.look int_enc bool_enc Try.underlying77 (zero_bool _) (b : Int) (by unfold I64; omega)
            rw [HS.out b] at q0
            simp only [ival] at q0
            have k0 : (0 : Int) ≤ (j : Int) := by omega
            have k1 : (j : Int) < ((nx v).length : Int) := by omega
            have HB := Lib.hid hb
            by_cases hin : b ∈ L
            · rw [decide_eq_true hin] at q0
              have HT2 := Lib.hid (show ∀ c ∈ (nx v).take (j + 1), c ∈ L from fun c hc => by
                rw [take_more HB.out] at hc
                rcases List.mem_append.1 hc with hc | hc
                · exact HT.out c hc
                · simp at hc; subst hc; exact hin)
              clear hin hb
              go_wp2_with fail
              go_roundw
              case rel => exact ⟨L, j + 1, nn, f, by omega, by go_num, ho, hm, HS, hnn, HP, h1, HV, HT2, hbr⟩
              case measure => simp [intOf]; omega
            · rw [decide_eq_false hin] at q0
              have HT2 := Lib.hid (show ∀ c ∈ (nx v).take (j + 1), c ∈ L ++ [b] from fun c hc => by
                rw [take_more HB.out] at hc
                rcases List.mem_append.1 hc with hc | hc
                · exact List.mem_append_left _ (HT.out c hc)
                · simp at hc; subst hc; simp)
              have HP2 := Lib.hid (HP.out.more (by omega) hin (List.mem_of_getElem? HV.out) hbv hbn)
              have HV2 := Lib.hid (show (L ++ [b])[i]? = some v by rw [List.getElem?_append_left h1]; exact HV.out)
              have HS2 := Lib.hid (seenN_more (k := b) HS.out)
              obtain ⟨me, mk, hob⟩ := hm.obj
              have HOB := Lib.hid hob
              clear hin hb hob
              go_wp2_with (first | (at_mapUpdate; refine wpList_fmap_update _ rfl _ _ _ 77 rfl hm int_enc bool_enc Try.underlying77 (by unfold maxLen; omega) rfl (b : Int) rfl (by unfold I64; omega) true rfl ?_; intro w9 hk9 g9; have ho9 := own_grown ho g9 (own_not_map ho HOB.out); have hb9 := hbr.trans (below_of_grown g9 (Nat.le_refl _) hbr.size); have hz9 := g9.size; have hzr := hbr.size) | (at_builtin; refine wpList_append_own _ rfl _ _ 42 rfl (w3.heap.size + 1) 3 in2 (.int .i64 0) 1 8 Try.underlying42 hi2 hx0 hx1 hx2 rfl (by decide) _ _ _ rfl (ho9.alloc _) ⟨w9.heap.size, 0, none⟩ 1 1 [.int .i64 (b : Int)] rfl rfl (At.news (xs := [.int .i64 (b : Int)]) (At.new w9 3 _)) (one1 rfl) (by unfold maxLen; omega) (by omega) (by have := (FMap.lt hk9); simp; omega) ?_; intro v10 w10 o10 g10 _; obtain ⟨vb, vd, rfl⟩ := own_len o10; have hk10 := FMap.kept (FMap.alloc hk9 (.cells #[.int .i64 (b : Int)] 3)) g10 (fun e => by have := (own_lt ho9 e.symm).1; omega); have hb10 := (hb9.alloc hb9.size (.cells #[.int .i64 (b : Int)] 3)).grown g10 (by simp; have := hb9.size; omega) (fun q hq => by have := (own_lt ho9 hq).1; omega)))
              go_roundw
              case rel => exact ⟨L ++ [b], j + 1, nn + 1, _, by omega, by go_num, by rw [List.length_append, ncells_snoc]; exact o10, hk10, HS2, by simp; omega, HP2, by simp; omega, HV2, HT2, hb10⟩
              case measure => simp [intOf]; omega
          · have d2 : decide ((j : Int) < ((nx v).length : Int)) = false := by simp; omega
            have HP2 := Lib.hid (HP.out.step HV.out (fun b hb => HT.out b (by rw [List.take_of_length_le (by omega)]; exact hb)))
            go_wp2_with fail
            go_roundw
            case rel => exact ⟨L, i + 1, nn, f, by omega, by go_num, ho, hm, HS, hnn, HP2, hbr⟩
            case measure => simp [intOf]; omega
      · have d1 : decide ((i : Int) < (L.length : Int)) = false := by simp; omega
        have hie : i = L.length := by omega
        rw [hie] at HP
        have HA := Lib.hid HP.out.all
        have HLN := Lib.hid (fun v hv => (HP.out.ok v hv).1)
        obtain ⟨wB, hwB⟩ : ∃ wB, wB = wr := ⟨_, rfl⟩
        subst hwB
        have hbB : Below w.heap.size w wB := hbw.trans (hbr.mono hbw.size)
        have hatB := hat3.next hbr
        clear HP hie
        go_wp2_with fail
        go_loopw [12, 59] (fun _ j wr => ∃ j' : Nat, j' ≤ L.length ∧ j = .int .i64 j' ∧ Hid (∀ v ∈ L.take j', ofs.getD v (-1) = -1) ∧ Below wB.heap.size wB wr) (fun _ j _ => L.length - (intOf j).toNat)
        case atStart => exact ⟨0, by omega, rfl, Lib.hid (by simp), Below.refl _ _⟩
        case round =>
          clear d1 h1
          obtain ⟨j, hj, rfl, HQ, hb⟩ := hrel
          obtain ⟨p0, p1, p2, p3⟩ := pg_cells (hatB.next hb)
          by_cases h2 : j < L.length
          · have d2 : decide ((j : Int) < (L.length : Int)) = true := by simp; omega
            obtain ⟨v, hv⟩ : ∃ v, L[j]? = some v := ⟨_, List.getElem?_eq_getElem h2⟩
            have hvm := List.mem_of_getElem? hv
            have hvn := HLN.out v hvm
            obtain ⟨A9, c9, ev2, _, _, hcs⟩ := own_cells ho
            rcases hcs with hcs | ⟨gl, rfl, _, hgl, hcs⟩
            · exact absurd hcs (by omega)
            injection ev2 with ev3 _ ev4
            subst ev3
            clear ev4
            have yl := (hb.cell hgl).trans (hcs _ _ (ncells_get hv))
            obtain ⟨g', o', rfl, hg', c0⟩ := HPR.out wr (hbB.trans (hb.mono hbB.size)) v hvn
            obtain ⟨q, hq⟩ : ∃ q, ofs.getD v (-1) = q := ⟨_, rfl⟩
            rw [hq] at c0
            have j0 : (0 : Int) ≤ (j : Int) := by omega
            have j1 : (j : Int) < (L.length : Int) := by omega
            have j2 : (0 : Int) ≤ (v : Int) := by omega
            have j3 : (v : Int) < (n : Int) := by omega
            by_cases hqq : q = -1
            · have t1 : (q == -1) = true := by rw [beq_iff_eq]; exact hqq
              have t2 : (q != -1) = false := by rw [bne, t1]; rfl
              have HQ2 := Lib.hid (show ∀ c ∈ L.take (j + 1), ofs.getD c (-1) = -1 from fun c hc => by
                rw [take_more hv] at hc
                rcases List.mem_append.1 hc with hc | hc
                · exact HQ.out c hc
                · simp at hc; subst hc; rw [hq]; exact hqq)
              clear hcs hv hqq hq
              go_wp2_with fail
              go_roundw
              case rel => exact ⟨j + 1, by omega, by go_num, HQ2, hb⟩
              case measure => simp [intOf]; omega
            · have t1 : (q == -1) = false := by rw [beq_eq_false_iff_ne]; exact hqq
              have t2 : (q != -1) = true := by rw [bne, t1]; rfl
              have HRF := Lib.hid (show R = false by
                rw [Bool.eq_false_iff]
                intro hRt
                exact hqq (hq.symm.trans ((HSP.out.1 hRt).1 v ((HA.out v).1 hvm))))
              clear hcs hv hqq hq
              go_wp2_with fail
              go_ret
              exact ⟨by rw [HRF.out]; rfl, hbB.trans (hb.mono hbB.size)⟩
          · have d2 : decide ((j : Int) < (L.length : Int)) = false := by simp; omega
            rw [List.take_of_length_le (by omega)] at HQ
            have HGE := Lib.hid (HG.out wr (hbB.trans (hb.mono hbB.size)))
            have hm2 := hm.next hb
            go_wp2_with (go_at_call 12; refine HGE.out.mono ?_; rintro e w5 ⟨ev, eu, rfl, ho1, ho2, hb5⟩; obtain ⟨va, vc, rfl⟩ := own_len ho1; obtain ⟨ua, uc, rfl⟩ := own_len ho2)
            have hm5 := hm2.next hb5
            have hb6 : Below w.heap.size w w5 := hbB.trans ((hb.trans (hb5.mono hb.size)).mono hbB.size)
            clear hm2 HGE p0 p1 p2 p3 HG hb5
            go_loopw [15, 16, 78] (fun _ _ j wr => ∃ j' : Nat, j' ≤ es.length ∧ j = .int .i64 j' ∧ Hid (∀ e ∈ es.take j', e.g = true → e.a ∉ L) ∧ Below w5.heap.size w5 wr) (fun _ _ j _ => es.length - (intOf j).toNat)
            case atStart => exact ⟨0, by omega, rfl, Lib.hid (by simp), Below.refl _ _⟩
            case round =>
              clear d2 h2 hb
              obtain ⟨j, hj, rfl, HE, hb⟩ := hrel
              by_cases h3 : j < es.length
              · have d3 : decide ((j : Int) < (es.length : Int)) = true := by simp; omega
                obtain ⟨e, he⟩ : ∃ e, es[j]? = some e := ⟨_, List.getElem?_eq_getElem h3⟩
                have hem := List.mem_of_getElem? he
                obtain ⟨z0, z1⟩ := ecells_get es j e he
                obtain ⟨A9, c9, ev2, _, _, hcs⟩ := own_cells ho1
                rcases hcs with hcs | ⟨ge2, rfl, _, hge, hcs⟩
                · exact absurd hcs (by omega)
                injection ev2 with ev3 _ ev4
                subst ev3
                clear ev4
                obtain ⟨A8, c8, ev2, _, _, hcu⟩ := own_cells ho2
                rcases hcu with hcu | ⟨gu, rfl, _, hgu, hcu⟩
                · exact absurd hcu (by omega)
                injection ev2 with ev3 _ ev4
                subst ev3
                clear ev4
                have y0 := (hb.cell hge).trans (hcs _ _ z0)
                have y1 := (hb.cell hge).trans (hcs _ _ z1)
                have y2 := (hb.cell hgu).trans (hcu _ _ (mcells_get he))
                have hz5 := hb.size
                have hgu2 : gu < wr.heap.size := by omega
                have hmk := (hm5.next hb).next (below1 wr (.cells #[.int .i64 (e.a : Int), .int .i64 (e.b : Int)] 34))
                have hean := (HES.out e hem).1
                have q0 := hmk.look int_enc bool_enc Try.underlying77 (zero_bool _) (e.a : Int) (by unfold I64; omega)
                rw [HS.out e.a] at q0
                simp only [ival] at q0
                have HB2 := Lib.hid (hb.trans ((below1 wr (.cells #[.int .i64 (e.a : Int), .int .i64 (e.b : Int)] 34)).mono hb.size))
                obtain ⟨eg, heg⟩ : ∃ eg, e.g = eg := ⟨_, rfl⟩
                rw [heg] at y2
                have j0 : (0 : Int) ≤ (j : Int) := by omega
                have j1 : (j : Int) < (es.length : Int) := by omega
                have HEE := Lib.hid he
                obtain ⟨sv, hsv⟩ : ∃ sv, decide (e.a ∈ L) = sv := ⟨_, rfl⟩
                rw [hsv] at q0
                have HNX := Lib.hid (show (eg && sv) = false → ∀ c ∈ es.take (j + 1), c.g = true → c.a ∉ L from fun hbad c hc hg => by
                  rw [take_more HEE.out] at hc
                  rcases List.mem_append.1 hc with hc | hc
                  · exact HE.out c hc hg
                  · simp at hc; subst hc
                    rw [heg] at hg
                    subst hg
                    rw [Bool.true_and] at hbad
                    rw [hbad] at hsv
                    simpa using hsv)
                have HBD := Lib.hid (show (eg && sv) = true → R = false from fun hbad => by
                  rw [Bool.and_eq_true] at hbad
                  rw [Bool.eq_false_iff]
                  intro hRt
                  have h7 := (HSP.out.1 hRt).2 e hem (heg.trans hbad.1)
                  rw [hbad.2] at hsv
                  exact h7 ((HA.out e.a).1 (by simpa using hsv)))
                clear hcs hcu z0 z1 he heg hsv hmk
                cases eg
                · go_wp2_with fail
                  go_roundw
                  case rel => exact ⟨j + 1, by omega, by go_num, Lib.hid (HNX.out rfl), HB2.out⟩
                  case measure => simp [intOf]; omega
                · cases sv
                  · go_wp2_with fail
                    go_roundw
                    case rel => exact ⟨j + 1, by omega, by go_num, Lib.hid (HNX.out rfl), HB2.out⟩
                    case measure => simp [intOf]; omega
                  · have HRF := Lib.hid (HBD.out rfl)
                    go_wp2_with fail
                    go_ret
                    exact ⟨by rw [HRF.out]; rfl, hb6.trans (HB2.out.mono hb6.size)⟩
              · have d3 : decide ((j : Int) < (es.length : Int)) = false := by simp; omega
                rw [List.take_of_length_le (by omega)] at HE
                have HRT := Lib.hid (show R = true from HSP.out.2 ⟨fun v hv => HQ.out v ((HA.out v).2 hv), fun e he hg hr => HE.out e he hg ((HA.out e.a).2 hr)⟩)
                go_wp2_with fail
                go_ret
                exact ⟨by rw [HRT.out]; rfl, hb6.trans (hb.mono hb6.size)⟩
end Go.Proofs.Ytljlihimmcmlmaa
