/- The walk of the reference's Recursive; programs of a size that all walks take. -/
import Derived.Test.YtljlihimmcmlmaaTRco
import Derived.Test.YtljlihimmcmlmaaTMxo
import Derived.Test.YtljlihimmcmlmaaTREdges
namespace Go.Proofs.Ytljlihimmcmlmaa
set_option linter.unusedVariables false
set_option linter.unusedSimpArgs false
open Go.RowKit
structure PgFine (p : Pg) (n : Nat) : Prop where
  hn : p.prs.length = n
  n1 : n ≤ 1000
  rs : p.rus.length ≤ 1000
  ls : ∀ r ∈ p.rus, r.lits.length ≤ 1000
  el : (edges p).length ≤ 1000000
  es : ∀ e ∈ edges p, e.a < n ∧ e.b < n
theorem ins_iff {p : Pg} {x : Int} : ins p x = true ↔ ∃ k : Nat, k < p.prs.length ∧ x = (k : Int) := by
  unfold ins
  rw [Bool.and_eq_true, decide_eq_true_eq, decide_eq_true_eq]
  constructor
  · rintro ⟨h1, h2⟩; exact ⟨x.toNat, by omega, by omega⟩
  · rintro ⟨k, h, rfl⟩; omega
theorem lnk_iff {p : Pg} {r : Ru} {l : Lit9} : lnk p r l = true ↔ l.kind ≠ 5 ∧ ins p r.pred = true ∧ ins p l.pred = true := by
  unfold lnk
  rw [Bool.and_eq_true, Bool.and_eq_true, decide_eq_true_eq, and_assoc]
theorem edges_in {p : Pg} : ∀ e ∈ edges p, e.a < p.prs.length ∧ e.b < p.prs.length := fun e he => by
  unfold edges at he
  rw [List.mem_flatMap] at he
  obtain ⟨r, _, he⟩ := he
  unfold ruEdges at he
  rw [List.mem_filterMap] at he
  obtain ⟨l, _, he⟩ := he
  split at he
  · rename_i h
    obtain ⟨_, h1, h2⟩ := lnk_iff.1 h
    obtain ⟨a, ha, e1⟩ := ins_iff.1 h1
    obtain ⟨b, hb, e2⟩ := ins_iff.1 h2
    have := Option.some.inj he
    subst this
    simp only [e1, e2]
    omega
  · cases he
theorem flat_len {α β : Type} (f : α → List β) (k : Nat) : ∀ (l : List α), (∀ x ∈ l, (f x).length ≤ k) → (l.flatMap f).length ≤ l.length * k
  | [], _ => by simp
  | x :: l, h => by
    rw [List.flatMap_cons, List.length_append, List.length_cons, Nat.add_mul]
    have h1 := h x (by simp)
    have h2 := flat_len f k l (fun y hy => h y (by simp [hy]))
    omega
theorem pgFine {p : Pg} (hn : p.prs.length ≤ 1000) (hr : p.rus.length ≤ 1000) (hl : ∀ r ∈ p.rus, r.lits.length ≤ 1000) : PgFine p p.prs.length := by
  refine ⟨rfl, hn, hr, hl, ?_, edges_in⟩
  have := flat_len (fun r => ruEdges p r r.lits) 1000 p.rus (fun r hr' => by
    have h1 : (ruEdges p r r.lits).length ≤ r.lits.length := List.length_filterMap_le _ _
    exact Nat.le_trans h1 (hl r hr'))
  have h2 : p.rus.length * 1000 ≤ 1000 * 1000 := Nat.mul_le_mul_right _ hr
  unfold edges
  omega
theorem fine_depends {p : Pg} {n : Nat} (hf : PgFine p n) (w : World) (hp : PgOk w p) : Calls Try.prog 36 #[p.v] w fun e w' => ∃ A c, e = .returned (.slice A n c) ∧ MxAt w' A (Tj.depends n (edges p)) ∧ Below w.heap.size w w' :=
  depends_any p n w hp hf.hn hf.n1 hf.rs hf.ls hf.el hf.es
theorem fine_sq {p : Pg} {n : Nat} (hf : PgFine p n) : Tj.Sq n (Tj.depends n (edges p)) := (Tj.depends_iff hf.es).1
set_option maxHeartbeats 1000000 in
set_option maxRecDepth 100000 in
theorem rrecursive_any (p : Pg) (n : Nat) (x : Int) (w : World) (hp : PgOk w p) (hf : PgFine p n) :
    Calls Try.prog 18 #[p.v, .int .i64 x] w fun e w' => e = .returned (.bool (ins p x && Tj.mget (Tj.depends n (edges p)) x.toNat x.toNat)) ∧ Below w.heap.size w w' := by
  have HD := Lib.hid (fun W (h : Below w.heap.size w W) => fine_depends hf W (hp.below h))
  have HI := Lib.hid (fun W (h : Below w.heap.size w W) => rin_any p x W (hp.below h))
  have hsq := fine_sq hf
  have hii := @ins_iff p x
  rw [hf.hn] at hii
  generalize Tj.depends n (edges p) = M at *
  have hn := hf.hn
  clear hf hp
  generalize ins p x = iv at *
  unfold Pg.v at HD HI ⊢
  generalize p.ra = ra at *
  generalize p.pa = pa at *
  rw [hn] at HD HI ⊢
  clear hn
  cases iv
  · clear hii HD hsq
    go_enter Try.func18, Try.ntmps18
    go_wp2_with (go_at_call 41; refine (HI.out _ (below1 _ _)).mono ?_; rintro e w2 ⟨rfl, hb2⟩)
    go_ret
    exact ⟨rfl, (below1 _ _).trans (hb2.mono (by simp))⟩
  · obtain ⟨k, hk, rfl⟩ := hii.1 rfl
    clear hii
    have HSQ := Lib.hid hsq
    have i0 : (0 : Int) ≤ (k : Int) := by omega
    have i1 : (k : Int) < (n : Int) := by omega
    have HAT := Lib.hid (At.new w 27 #[.slice p.lat.a p.lat.n p.lat.c, .slice p.fns.a p.fns.n p.fns.c, .slice pa n p.pc, .slice ra p.rus.length p.rc])
    clear hsq
    go_enter Try.func18, Try.ntmps18
    go_wp2_with (first | (go_at_call 41; refine (HI.out _ (below1 _ _)).mono ?_; rintro e w2 ⟨rfl, hb2⟩; obtain ⟨p0, p1, p2, p3⟩ := pg_cells (HAT.out.next hb2); have hb3 : Below w.heap.size w w2 := (below1 _ _).trans (hb2.mono (by simp))) | (go_at_call 36; refine (HD.out _ hb3).mono ?_; rintro e w3 ⟨A, c, rfl, hm, hb4⟩; obtain ⟨g, o, b, cc, rfl, hg, y1, hb, y2⟩ := hm.get HSQ.out hk; have y3 := y2 k hk))
    go_ret
    exact ⟨by rw [Bool.true_and]; rfl, hb3.trans (hb4.mono hb3.size)⟩
end Go.Proofs.Ytljlihimmcmlmaa
namespace Go.Proofs.Ytljlihimmcmlmaa
set_option linter.unusedVariables false
set_option linter.unusedSimpArgs false
open Go.RowKit
theorem diag_info : (Try.prog.info? 62).map (fun i => (i.zero, i.size, i.bytes)) = some (some (.agg #[.int .i64 0, .int .i64 0]), 2, 16) := by kernel_rfl
/-- The first literal of a rule that Check shows. -/
def badLit (p : Pg) (T : Nat → Nat → Bool) (r : Ru) (l : Lit9) : Bool := lnk p r l && neg l && T r.pred.toNat l.pred.toNat
def badRu (p : Pg) (T : Nat → Nat → Bool) (r : Ru) : Option (Int × Int) := (r.lits.find? (badLit p T r)).map fun l => (90, l.pos)
def bads (p : Pg) (T : Nat → Nat → Bool) : List (Int × Int) := (p.rus.filterMap (badRu p T)).take 20
def dcells (D : List (Int × Int)) : List Value := D.flatMap fun d => [.int .i64 d.1, .int .i64 d.2]
theorem dcells_snoc (D : List (Int × Int)) (d : Int × Int) : dcells (D ++ [d]) = dcells D ++ [.int .i64 d.1, .int .i64 d.2] := by simp [dcells]
theorem dcells_get : ∀ (D : List (Int × Int)) (m : Nat) (d : Int × Int), D[m]? = some d → (dcells D)[m * 2]? = some (.int .i64 d.1) ∧ (dcells D)[m * 2 + 1]? = some (.int .i64 d.2)
  | [], m, e, h => by simp at h
  | x :: es, 0, e, h => by simp at h; subst h; simp [dcells]
  | x :: es, m + 1, e, h => by
    have := dcells_get es m e (by simpa using h)
    unfold dcells at this ⊢
    rw [List.flatMap_cons, show (m + 1) * 2 = m * 2 + 1 + 1 by omega]
    simpa using this
theorem dg_own {w : World} {B : Nat} {v : Value} {D : List (Int × Int)} (h : w.ownsRow B 62 2 v D.length (dcells D)) : ∃ A c, v = .slice A D.length c ∧ DgAt w A D := by
  obtain ⟨A, c, rfl, _, _, h2⟩ := own_cells h
  refine ⟨A, c, rfl, fun hn => ?_⟩
  rcases h2 with h2 | ⟨g, rfl, h3, h4, h5⟩
  · exact absurd (List.eq_nil_of_length_eq_zero (by simpa using h2)) (fun e => hn (by rw [e]; rfl))
  · refine ⟨g, 0, rfl, h4, fun i fs hi j v hv => ?_⟩
    rw [List.getElem?_map, Option.map_eq_some_iff] at hi
    obtain ⟨d, hd, rfl⟩ := hi
    obtain ⟨e1, e2⟩ := dcells_get D i d hd
    rw [Nat.zero_add]
    match j with
    | 0 => obtain rfl : _ = v := by simpa using hv
           exact h5 _ _ e1
    | 1 => obtain rfl : _ = v := by simpa using hv
           exact h5 _ _ e2
    | j + 2 => simp at hv
theorem find_hit {α : Type} {q : α → Bool} {l : List α} {m : Nat} {x : α} (h : (l.take m).find? q = none) (hx : l[m]? = some x) (hq : q x = true) : l.find? q = some x := by
  have e : l = l.take (m + 1) ++ l.drop (m + 1) := (List.take_append_drop _ _).symm
  rw [e, take_more hx, List.find?_append, List.find?_append, h, List.find?_cons, hq]; rfl
theorem find_miss {α : Type} {q : α → Bool} {l : List α} {m : Nat} {x : α} (h : (l.take m).find? q = none) (hx : l[m]? = some x) (hq : q x = false) : (l.take (m + 1)).find? q = none := by
  rw [take_more hx, List.find?_append, h, List.find?_cons, hq]; rfl
theorem bads_end {p : Pg} {T : Nat → Nat → Bool} {k : Nat} {D : List (Int × Int)} (h : D = (p.rus.take k).filterMap (badRu p T)) (hk : p.rus.length ≤ k ∨ D.length = 20) (hl : D.length ≤ 20) : bads p T = D := by
  unfold bads
  rcases hk with hk | hk
  · rw [List.take_of_length_le hk] at h
    rw [← h, List.take_of_length_le hl]
  · have e : p.rus.filterMap (badRu p T) = D ++ (p.rus.drop k).filterMap (badRu p T) := by
      rw [h, ← List.filterMap_append, List.take_append_drop]
    rw [e, List.take_append_of_le_length (by omega), ← hk, List.take_length]
theorem ru_cells' {W : World} {g : Nat} {a b c d e f x y z : Value} {t : TypeId} (h : At W g t #[a, b, c, d, e, f, x, y, z]) : W.cell? ⟨g, 0, none⟩ = some a ∧ W.cell? ⟨g, 1, none⟩ = some b ∧ W.cell? ⟨g, 2, none⟩ = some c ∧ W.cell? ⟨g, 3, none⟩ = some d ∧ W.cell? ⟨g, 4, none⟩ = some e ∧ W.cell? ⟨g, 5, none⟩ = some f ∧ W.cell? ⟨g, 6, none⟩ = some x ∧ W.cell? ⟨g, 7, none⟩ = some y ∧ W.cell? ⟨g, 8, none⟩ = some z :=
  ⟨h.cell 0, h.cell 1, h.cell 2, h.cell 3, h.cell 4, h.cell 5, h.cell 6, h.cell 7, h.cell 8⟩
set_option maxHeartbeats 2000000 in
set_option maxRecDepth 100000 in
theorem rcheck_any (p : Pg) (n : Nat) (w : World) (hp : PgOk w p) (hf : PgFine p n) :
    Calls Try.prog 21 #[p.v] w fun e w' => ∃ A c, e = .returned (.slice A (bads p (Tj.tog (Tj.depends n (edges p)))).length c) ∧ DgAt w' A (bads p (Tj.tog (Tj.depends n (edges p)))) ∧ Below w.heap.size w w' := by
  obtain ⟨i0, hi0, hz0, hz1, hz2⟩ := info_of diag_info
  have HD := Lib.hid (fun W (h : Below w.heap.size w W) => fine_depends hf W (hp.below h))
  have HRU := Lib.hid (fun W (h : Below w.heap.size w W) (k : Nat) (r : Ru) (hk : p.rus[k]? = some r) => ruAt (hp.below h) hk)
  have HE := Lib.hid (fun (r : Ru) (l : Lit9) W (h : Below w.heap.size w W) => redge_any p r l W (hp.below h))
  have HRO := Lib.hid hp.each
  have HLS := Lib.hid hf.ls
  have hrs := hf.rs
  have hsq := fine_sq hf
  have HII := Lib.hid (fun r l (h : lnk p r l = true) => (show ∃ a b : Nat, a < n ∧ b < n ∧ r.pred = (a : Int) ∧ l.pred = (b : Int) from by
    obtain ⟨_, h1, h2⟩ := lnk_iff.1 h
    obtain ⟨a, ha, e1⟩ := ins_iff.1 h1
    obtain ⟨b, hb, e2⟩ := ins_iff.1 h2
    rw [hf.hn] at ha hb
    exact ⟨a, b, ha, hb, e1, e2⟩))
  have hn1 := hf.n1
  generalize Tj.depends n (edges p) = M at *
  obtain ⟨R, hR⟩ : ∃ R, bads p (Tj.tog M) = R := ⟨_, rfl⟩
  rw [hR]
  have HR := Lib.hid hR
  have hn := hf.hn
  clear hR hf hp
  unfold Pg.v at HD HE ⊢
  generalize p.ra = ra at *
  generalize p.pa = pa at *
  rw [hn] at HD HE ⊢
  clear hn
  have HSQ := Lib.hid hsq
  have HN := Lib.hid (fun (l : Lit9) W => rneg_any l W)
  unfold Lit9.v at HN
  have HAT := Lib.hid (At.new w 27 #[.slice p.lat.a p.lat.n p.lat.c, .slice p.fns.a p.fns.n p.fns.c, .slice pa n p.pc, .slice ra p.rus.length p.rc])
  clear hsq
  go_enter Try.func21, Try.ntmps21
  go_wp2_with (go_at_call 36; refine (HD.out _ (below1 _ _)).mono ?_; rintro e w2 ⟨A, c, rfl, hm, hb2⟩; have ha2 := HAT.out.next hb2; have hb3 : Below w.heap.size w w2 := (below1 _ _).trans (hb2.mono (by simp)))
  go_loopw [4, 5, 6, 7, 8] (fun v i _ _ _ wr => ∃ (k : Nat) (D : List (Int × Int)), k ≤ p.rus.length ∧ i = .int .i64 k ∧ Hid (D = (p.rus.take k).filterMap (badRu p (Tj.tog M))) ∧ D.length ≤ 20 ∧ wr.ownsRow w2.heap.size 62 2 v D.length (dcells D) ∧ Below w2.heap.size w2 wr) (fun _ i _ _ _ _ => p.rus.length - (intOf i).toNat)
  case atStart => exact ⟨0, [], by omega, rfl, Lib.hid rfl, by simp, own_empty w2 62 2 w2.heap.size (Nat.le_refl _), below1 _ _⟩
  case round =>
    have HR2 := HR
    clear HD HR hb2 HAT
    obtain ⟨wo, hwo⟩ : ∃ wo, wo = wr := ⟨_, rfl⟩
    subst hwo
    obtain ⟨k, D, hk, rfl, HDD, hdl, hown, hbw⟩ := hrel
    obtain ⟨va, vc, rfl⟩ := own_len hown
    obtain ⟨p0, p1, p2, p3⟩ := pg_cells (ha2.next hbw)
    by_cases h1 : k < p.rus.length
    · have d1 : decide ((k : Int) < (p.rus.length : Int)) = true := by simp; omega
      by_cases h2 : D.length < 20
      · have d2 : decide ((D.length : Int) < 20) = true := by simp; omega
        obtain ⟨r, hr⟩ : ∃ r, p.rus[k]? = some r := ⟨_, List.getElem?_eq_getElem h1⟩
        have hok := HRO.out r (List.mem_of_getElem? hr)
        have HLT := Lib.hid (fun W (h : Below w.heap.size w W) (m : Nat) (l : Lit9) (hm : r.lits[m]? = some l) => litAt (hok.below h) hm)
        have HLR := Lib.hid (fun (l : Lit9) W (h : Below w.heap.size w W) => HE.out r l W h)
        unfold Ru.v Lit9.v at HLR
        obtain ⟨g, o, rfl, hg, r0, r1, r2, r3, r4, r5, r6, r7, r8⟩ := HRU.out _ (hb3.trans (hbw.mono hb3.size)) k r hr
        have j0 : (0 : Int) ≤ (k : Int) := by omega
        have j1 : (k : Int) < (p.rus.length : Int) := by omega
        have hrl := HLS.out r (List.mem_of_getElem? hr)
        have HKM := Lib.hid (show (p.rus.take (k + 1)).filterMap (badRu p (Tj.tog M)) = D ++ (badRu p (Tj.tog M) r).toList by
          rw [take_more hr, List.filterMap_append, ← HDD.out, List.filterMap_cons]; cases badRu p (Tj.tog M) r <;> rfl)
        obtain ⟨ba, hba⟩ : ∃ ba, r.ba = ba := ⟨_, rfl⟩
        rw [hba] at HLT HLR r7
        have HBR := Lib.hid (At.new wo 51 #[.string r.name, .int .i64 r.pred, .slice r.args.a r.args.n r.args.c, .int .i64 r.ek, .string r.en, .string r.ev, .int .i64 r.ei, .slice ba r.lits.length r.bc, .int .i64 r.pos])
        have hsz := (ha2.next hbw).lt
        have HB4 := Lib.hid (hbw.trans ((below1 wo (.cells #[.string r.name, .int .i64 r.pred, .slice r.args.a r.args.n r.args.c, .int .i64 r.ek, .string r.en, .string r.ev, .int .i64 r.ei, .slice ba r.lits.length r.bc, .int .i64 r.pos] 51)).mono hbw.size))
        have HOW := Lib.hid (own_below hown (below1 wo (.cells #[.string r.name, .int .i64 r.pred, .slice r.args.a r.args.n r.args.c, .int .i64 r.ek, .string r.en, .string r.ev, .int .i64 r.ei, .slice ba r.lits.length r.bc, .int .i64 r.pos] 51)))
        have s1 : (wo.alloc (.cells #[.string r.name, .int .i64 r.pred, .slice r.args.a r.args.n r.args.c, .int .i64 r.ek, .string r.en, .string r.ev, .int .i64 r.ei, .slice ba r.lits.length r.bc, .int .i64 r.pos] 51)).heap.size = wo.heap.size + 1 := by simp
        clear hba hr hown
        go_wp2_with fail
        generalize wo.alloc (.cells #[.string r.name, .int .i64 r.pred, .slice r.args.a r.args.n r.args.c, .int .i64 r.ek, .string r.en, .string r.ev, .int .i64 r.ei, .slice ba r.lits.length r.bc, .int .i64 r.pos] 51) = wb at *
        go_loopw [4, 7, 8] (fun v i _ wr => ∃ m : Nat, m ≤ r.lits.length ∧ i = .int .i64 m ∧ v = .slice va D.length vc ∧ Hid ((r.lits.take m).find? (badLit p (Tj.tog M) r) = none) ∧ Below wb.heap.size wb wr) (fun _ i _ _ => r.lits.length - (intOf i).toNat)
        case atStart => exact ⟨0, by omega, rfl, rfl, Lib.hid rfl, Below.refl _ _⟩
        case round =>
          clear d1 d2 p0 p1 p2 p3 r0 r1 r2 r3 r4 r5 r6 r7 r8
          obtain ⟨m, hml, rfl, rfl, HF, hb⟩ := hrel
          have hbW := HB4.out.trans (hb.mono HB4.out.size)
          obtain ⟨p0, p1, p2, p3⟩ := pg_cells (ha2.next hbW)
          obtain ⟨r0, r1, r2, r3, r4, r5, r6, r7, r8⟩ := ru_cells' (HBR.out.next hb)
          by_cases h3 : m < r.lits.length
          · have d3 : decide ((m : Int) < (r.lits.length : Int)) = true := by simp; omega
            obtain ⟨l, hlm⟩ : ∃ l, r.lits[m]? = some l := ⟨_, List.getElem?_eq_getElem h3⟩
            obtain ⟨g', o', rfl, hg', c0, c1, c2, c3, c4, c5, c6, c7, c8⟩ := HLT.out wr (hb3.trans (hbW.mono hb3.size)) m l hlm
            have j2 : (0 : Int) ≤ (m : Int) := by omega
            have j3 : (m : Int) < (r.lits.length : Int) := by omega
            have HBL := Lib.hid (At.new wr 56 #[.int .i64 l.kind, .string l.name, .int .i64 l.pred, .slice l.args.a l.args.n l.args.c, .string l.bind, .string l.elem, .int .i64 l.least, .int .i64 l.op, .int .i64 l.pos])
            have hbL := hbW.alloc hbW.size (.cells #[.int .i64 l.kind, .string l.name, .int .i64 l.pred, .slice l.args.a l.args.n l.args.c, .string l.bind, .string l.elem, .int .i64 l.least, .int .i64 l.op, .int .i64 l.pos] 56)
            have q0 : w.heap.size < wr.heap.size := (ha2.next hbW).lt
            have q1 : wo.heap.size < wr.heap.size := by have := hb.size; omega
            have HLM := Lib.hid hlm
            have HTG := Lib.hid (fun W (h : Below w2.heap.size w2 W) (hx : lnk p r l = true) => (show Calls Try.prog 37 #[.slice A n c, .int .i64 r.pred, .int .i64 l.pred] W (fun e w' => e = .returned (.bool (Tj.tog M r.pred.toNat l.pred.toNat)) ∧ W = w') from by
              obtain ⟨a, b, ha, hb, e1, e2⟩ := HII.out r l hx
              rw [e1, e2]
              exact together_any A c n M a b W (hm.below h) HSQ.out ha hb (by omega)))
            have hbd : badLit p (Tj.tog M) r l = (lnk p r l && neg l && Tj.tog M r.pred.toNat l.pred.toNat) := rfl
            obtain ⟨x, hx⟩ : ∃ x, lnk p r l = x := ⟨_, rfl⟩
            obtain ⟨y, hy⟩ : ∃ y, neg l = y := ⟨_, rfl⟩
            obtain ⟨z, hz⟩ : ∃ z, Tj.tog M r.pred.toNat l.pred.toNat = z := ⟨_, rfl⟩
            rw [hx, hy, hz] at hbd
            rw [hx, hz] at HTG
            have HBD := Lib.hid hbd
            have HLR2 := Lib.hid (fun W h => HLR.out l W h)
            have HN2 := Lib.hid (fun W => HN.out l W)
            rw [hx] at HLR2
            rw [hy] at HN2
            clear hbd hlm hz HLR HLT HE hx hy
            cases x
            · go_wp2_with (first | (go_at_call 31; refine (HLR2.out _ (hb3.trans (hbL.mono hb3.size))).mono ?_; rintro e w3 ⟨rfl, hb4⟩; obtain ⟨l0, l1, l2, l3, l4, l5, l6, l7, l8⟩ := ru_cells' (HBL.out.next hb4); obtain ⟨r0, r1, r2, r3, r4, r5, r6, r7, r8⟩ := ru_cells' (HBR.out.next (hb.trans (((below1 _ _).trans (hb4.mono (by simp))).mono hb.size)))) | (go_at_call 26; refine (HN2.out _).mono ?_; rintro e w4 ⟨rfl, hb5⟩; obtain ⟨l0, l1, l2, l3, l4, l5, l6, l7, l8⟩ := ru_cells' (HBL.out.next (hb4.trans (hb5.mono hb4.size))); obtain ⟨r0, r1, r2, r3, r4, r5, r6, r7, r8⟩ := ru_cells' (HBR.out.next (hb.trans (((below1 _ _).trans ((hb4.trans (hb5.mono hb4.size)).mono (by simp))).mono hb.size)))) | (go_at_call 37; refine (HTG2.out _ (hbL.trans ((hb4.trans (hb5.mono hb4.size)).mono hbL.size))).mono ?_; rintro e w5 ⟨rfl, rfl⟩))
              go_roundw
              case rel => exact ⟨m + 1, by omega, by go_num, rfl, Lib.hid (find_miss HF.out HLM.out (by rw [HBD.out]; rfl)), hb.trans (((below1 _ _).trans (hb4.mono (by simp))).mono hb.size)⟩
              case measure => simp [intOf]; omega
            · have HTG2 := Lib.hid (fun W h => HTG.out W h rfl)
              cases y
              · go_wp2_with (first | (go_at_call 31; refine (HLR2.out _ (hb3.trans (hbL.mono hb3.size))).mono ?_; rintro e w3 ⟨rfl, hb4⟩; obtain ⟨l0, l1, l2, l3, l4, l5, l6, l7, l8⟩ := ru_cells' (HBL.out.next hb4); obtain ⟨r0, r1, r2, r3, r4, r5, r6, r7, r8⟩ := ru_cells' (HBR.out.next (hb.trans (((below1 _ _).trans (hb4.mono (by simp))).mono hb.size)))) | (go_at_call 26; refine (HN2.out _).mono ?_; rintro e w4 ⟨rfl, hb5⟩; obtain ⟨l0, l1, l2, l3, l4, l5, l6, l7, l8⟩ := ru_cells' (HBL.out.next (hb4.trans (hb5.mono hb4.size))); obtain ⟨r0, r1, r2, r3, r4, r5, r6, r7, r8⟩ := ru_cells' (HBR.out.next (hb.trans (((below1 _ _).trans ((hb4.trans (hb5.mono hb4.size)).mono (by simp))).mono hb.size)))) | (go_at_call 37; refine (HTG2.out _ (hbL.trans ((hb4.trans (hb5.mono hb4.size)).mono hbL.size))).mono ?_; rintro e w5 ⟨rfl, rfl⟩))
                go_roundw
                case rel => exact ⟨m + 1, by omega, by go_num, rfl, Lib.hid (find_miss HF.out HLM.out (by rw [HBD.out]; rfl)), hb.trans (((below1 _ _).trans ((hb4.trans (hb5.mono hb4.size)).mono (by simp))).mono hb.size)⟩
                case measure => simp [intOf]; omega
              · cases z
                · go_wp2_with (first | (go_at_call 31; refine (HLR2.out _ (hb3.trans (hbL.mono hb3.size))).mono ?_; rintro e w3 ⟨rfl, hb4⟩; obtain ⟨l0, l1, l2, l3, l4, l5, l6, l7, l8⟩ := ru_cells' (HBL.out.next hb4); obtain ⟨r0, r1, r2, r3, r4, r5, r6, r7, r8⟩ := ru_cells' (HBR.out.next (hb.trans (((below1 _ _).trans (hb4.mono (by simp))).mono hb.size)))) | (go_at_call 26; refine (HN2.out _).mono ?_; rintro e w4 ⟨rfl, hb5⟩; obtain ⟨l0, l1, l2, l3, l4, l5, l6, l7, l8⟩ := ru_cells' (HBL.out.next (hb4.trans (hb5.mono hb4.size))); obtain ⟨r0, r1, r2, r3, r4, r5, r6, r7, r8⟩ := ru_cells' (HBR.out.next (hb.trans (((below1 _ _).trans ((hb4.trans (hb5.mono hb4.size)).mono (by simp))).mono hb.size)))) | (go_at_call 37; refine (HTG2.out _ (hbL.trans ((hb4.trans (hb5.mono hb4.size)).mono hbL.size))).mono ?_; rintro e w5 ⟨rfl, rfl⟩))
                  go_roundw
                  case rel => exact ⟨m + 1, by omega, by go_num, rfl, Lib.hid (find_miss HF.out HLM.out (by rw [HBD.out]; rfl)), hb.trans (((below1 _ _).trans ((hb4.trans (hb5.mono hb4.size)).mono (by simp))).mono hb.size)⟩
                  case measure => simp [intOf]; omega
                · have ho2 := own_below HOW.out hb
                  go_wp2_with (first | (first | (go_at_call 31; refine (HLR2.out _ (hb3.trans (hbL.mono hb3.size))).mono ?_; rintro e w3 ⟨rfl, hb4⟩; obtain ⟨l0, l1, l2, l3, l4, l5, l6, l7, l8⟩ := ru_cells' (HBL.out.next hb4); obtain ⟨r0, r1, r2, r3, r4, r5, r6, r7, r8⟩ := ru_cells' (HBR.out.next (hb.trans (((below1 _ _).trans (hb4.mono (by simp))).mono hb.size)))) | (go_at_call 26; refine (HN2.out _).mono ?_; rintro e w4 ⟨rfl, hb5⟩; obtain ⟨l0, l1, l2, l3, l4, l5, l6, l7, l8⟩ := ru_cells' (HBL.out.next (hb4.trans (hb5.mono hb4.size))); obtain ⟨r0, r1, r2, r3, r4, r5, r6, r7, r8⟩ := ru_cells' (HBR.out.next (hb.trans (((below1 _ _).trans ((hb4.trans (hb5.mono hb4.size)).mono (by simp))).mono hb.size)))) | (go_at_call 37; refine (HTG2.out _ (hbL.trans ((hb4.trans (hb5.mono hb4.size)).mono hbL.size))).mono ?_; rintro e w5 ⟨rfl, rfl⟩)) | (at_builtin; refine wpList_append_own _ rfl _ _ 40 rfl w2.heap.size 62 i0 (.agg #[.int .i64 0, .int .i64 0]) 2 16 Try.underlying40 hi0 hz0 hz1 hz2 rfl (by decide) _ _ _ rfl ((own_below (own_below (ho2.alloc _) hb4) hb5).alloc _) ⟨w4.heap.size, 0, none⟩ 1 1 [.int .i64 90, .int .i64 l.pos] rfl rfl ?c1 ?c2 ?c3 ?c4 ?c5 ?_))
                  case c1 => exact At.news (xs := [.int .i64 90, .int .i64 l.pos]) (At.newAt (by simp) _ _)
                  case c2 => intro u hu; simp at hu; rcases hu with rfl | rfl <;> rfl
                  case c3 => simp [maxLen]; omega
                  case c4 => omega
                  case c5 => simp; have := hbL.size; have := hb4.size; have := hb5.size; simp at *; omega
                  intro v5 w5 o5 g5 _
                  have hb45 := hb4.trans (hb5.mono hb4.size)
                  have hbZ := hbL.trans (hb45.mono hbL.size)
                  have hb6 := (hbZ.alloc hbZ.size (.cells #[.int .i64 90, .int .i64 l.pos] 62)).grown g5 (by simp; have := hbZ.size; omega) (fun q hq => (own_lt ho2 hq).1)
                  have HE2 := Lib.hid (show D ++ [((90 : Int), l.pos)] = (p.rus.take (k + 1)).filterMap (badRu p (Tj.tog M)) by
                    rw [HKM.out]; unfold badRu; rw [find_hit HF.out HLM.out (by rw [HBD.out]; rfl)]; rfl)
                  have HO5 := Lib.hid o5
                  clear o5 g5 l0 l1 l2 l3 l4 l5 l6 l7 l8 r0 r1 r2 r3 r4 r5 r6 r7 r8
                  go_wp2_with fail
                  go_roundw
                  case rel => exact ⟨k + 1, D ++ [(90, l.pos)], by omega, by go_num, HE2, by simp; omega, by rw [List.length_append, dcells_snoc]; exact HO5.out, hb6⟩
                  case measure => simp [intOf]; omega
          · have d3 : decide ((m : Int) < (r.lits.length : Int)) = false := by simp; omega
            have HBR2 := Lib.hid (show badRu p (Tj.tog M) r = none by unfold badRu; rw [← List.take_of_length_le (show r.lits.length ≤ m by omega), HF.out]; rfl)
            have HE2 := Lib.hid (show D = (p.rus.take (k + 1)).filterMap (badRu p (Tj.tog M)) by rw [HKM.out, HBR2.out]; exact (List.append_nil _).symm)
            have ho2 := own_below HOW.out hb
            go_wp2_with fail
            go_roundw
            case rel => exact ⟨k + 1, D, by omega, by go_num, HE2, by omega, ho2, hbW⟩
            case measure => simp [intOf]; omega
      · have d2 : decide ((D.length : Int) < 20) = false := by simp; omega
        have HEE := Lib.hid (show R = D by rw [← HR2.out]; exact bads_end HDD.out (Or.inr (by omega)) hdl)
        go_wp2_with fail
        go_ret
        obtain ⟨A', c', e, hl⟩ := dg_own hown
        injection e with e1 e2 e3
        subst e1
        refine ⟨va, vc, ?_, ?_, hb3.trans (hbw.mono hb3.size)⟩
        · rw [HEE.out]; rfl
        · rw [HEE.out]; exact hl
    · have d1 : decide ((k : Int) < (p.rus.length : Int)) = false := by simp; omega
      have HEE := Lib.hid (show R = D by rw [← HR2.out]; exact bads_end HDD.out (Or.inl (by omega)) hdl)
      go_wp2_with fail
      go_ret
      obtain ⟨A', c', e, hl⟩ := dg_own hown
      injection e with e1 e2 e3
      subst e1
      refine ⟨va, vc, ?_, ?_, hb3.trans (hbw.mono hb3.size)⟩
      · rw [HEE.out]; rfl
      · rw [HEE.out]; exact hl
end Go.Proofs.Ytljlihimmcmlmaa
namespace Go.Proofs.Ytljlihimmcmlmaa
set_option linter.unusedVariables false
set_option linter.unusedSimpArgs false
open Go.RowKit
def sees (M : Tj.Mx) (x a : Nat) : Bool := decide (a = x) || Tj.mget M x a
def okA (p : Pg) (R : Nat → Bool) (a : Nat) : Bool := !(R a && decide ((p.prs.map Pr.of).getD a (-1) ≠ -1))
def okE (R : Nat → Bool) (e : Tj.Ed) : Bool := !(e.g && R e.a)
def posA (p : Pg) (R : Nat → Bool) : Bool := (List.range p.prs.length).all (okA p R)
def posE (p : Pg) (R : Nat → Bool) : Bool := (edges p).all (okE R)
theorem all_take {α : Type} {q : α → Bool} {l : List α} {m : Nat} {x : α} (h : (l.take m).all q = true) (hx : l[m]? = some x) (hq : q x = true) : (l.take (m + 1)).all q = true := by
  rw [take_more hx, List.all_append, h]; simp [hq]
theorem all_not {α : Type} {q : α → Bool} {l : List α} {m : Nat} {x : α} (hx : l[m]? = some x) (hq : q x = false) : l.all q = false := by
  rw [Bool.eq_false_iff]
  intro h
  rw [List.all_eq_true] at h
  have := h x (List.mem_of_getElem? hx)
  rw [hq] at this; cases this
theorem range_get {n a : Nat} (h : a < n) : (List.range n)[a]? = some a := by simp [h]
theorem mcells_get {es : List Tj.Ed} {m : Nat} {e : Tj.Ed} (h : es[m]? = some e) : (mcells es)[m]? = some (.bool e.g) := by simp [mcells, h]
theorem prAt {w : World} {p : Pg} (hp : PgOk w p) {a : Nat} (ha : a < p.prs.length) : ∃ g o, p.pa = some ⟨g, o, none⟩ ∧ g < w.heap.size ∧ w.cell? ⟨g, o + a * 7 + 3, none⟩ = some (.int .i64 ((p.prs.map Pr.of).getD a (-1))) := by
  obtain ⟨q, hq⟩ : ∃ q, p.prs[a]? = some q := ⟨_, List.getElem?_eq_getElem ha⟩
  obtain ⟨g, o, e, hg, hc⟩ := hp.preds.at (i := a) (fs := q.fs) (by simp [hq])
  refine ⟨g, o, e, hg, ?_⟩
  rw [List.getD_eq_getElem?_getD, List.getElem?_map, hq]
  exact hc 3 _ rfl
set_option maxHeartbeats 2000000 in
set_option maxRecDepth 100000 in
theorem rpositive_any (p : Pg) (n : Nat) (x : Int) (w : World) (hp : PgOk w p) (hf : PgFine p n) :
    Calls Try.prog 23 #[p.v, .int .i64 x] w fun e w' => e = .returned (.bool (ins p x && posA p (sees (Tj.depends n (edges p)) x.toNat) && posE p (sees (Tj.depends n (edges p)) x.toNat))) ∧ Below w.heap.size w w' := by
  have HD := Lib.hid (fun W (h : Below w.heap.size w W) => fine_depends hf W (hp.below h))
  have HI := Lib.hid (fun W (h : Below w.heap.size w W) => rin_any p x W (hp.below h))
  have HG := Lib.hid (fun W (h : Below w.heap.size w W) => redges_any p W (hp.below h) hf.rs hf.ls)
  have HPR := Lib.hid (fun W (h : Below w.heap.size w W) (a : Nat) (ha : a < p.prs.length) => prAt (hp.below h) ha)
  have HES := Lib.hid hf.es
  have hel := hf.el
  have hsq := fine_sq hf
  have hii := @ins_iff p x
  rw [hf.hn] at hii
  have hn1 := hf.n1
  generalize Tj.depends n (edges p) = M at *
  obtain ⟨R, hR⟩ : ∃ R, (ins p x && posA p (sees M x.toNat) && posE p (sees M x.toNat)) = R := ⟨_, rfl⟩
  rw [hR]
  unfold posA posE at hR
  have hn := hf.hn
  clear hf hp
  obtain ⟨iv, hiv⟩ : ∃ iv, ins p x = iv := ⟨_, rfl⟩
  rw [hiv] at HI hii hR
  clear hiv
  have hoo : ∀ a, okA p (sees M x.toNat) a = !(sees M x.toNat a && decide ((p.prs.map Pr.of).getD a (-1) ≠ -1)) := fun a => rfl
  generalize okA p (sees M x.toNat) = ok at *
  obtain ⟨es, hes⟩ : ∃ es, edges p = es := ⟨_, rfl⟩
  rw [hes] at HES HG hR hel
  clear hes
  unfold Pg.v at HD HI HG ⊢
  generalize p.ra = ra at *
  generalize p.pa = pa at *
  rw [hn] at HD HI HG HPR hR ⊢
  generalize (p.prs.map Pr.of) = ofs at *
  clear hn
  have HAT := Lib.hid (At.new w 27 #[.slice p.lat.a p.lat.n p.lat.c, .slice p.fns.a p.fns.n p.fns.c, .slice pa n p.pc, .slice ra p.rus.length p.rc])
  cases iv
  · have HR := Lib.hid (show R = false by rw [← hR]; rfl)
    clear hii HD hsq hR
    go_enter Try.func23, Try.ntmps23
    go_wp2_with (go_at_call 41; refine (HI.out _ (below1 _ _)).mono ?_; rintro e w2 ⟨rfl, hb2⟩; obtain ⟨p0, p1, p2, p3⟩ := pg_cells (HAT.out.next hb2))
    go_ret
    exact ⟨by rw [HR.out]; rfl, (below1 _ _).trans (hb2.mono (by simp))⟩
  · obtain ⟨k, hk, rfl⟩ := hii.1 rfl
    clear hii
    rw [Int.toNat_natCast, Bool.true_and] at hR
    have HOO := Lib.hid hoo
    rw [Int.toNat_natCast] at HOO
    have HR := Lib.hid hR
    have HSQ := Lib.hid hsq
    have i0 : (0 : Int) ≤ (k : Int) := by omega
    have i1 : (k : Int) < (n : Int) := by omega
    clear hsq hoo hR
    go_enter Try.func23, Try.ntmps23
    go_wp2_with (first | (go_at_call 41; refine (HI.out _ (below1 _ _)).mono ?_; rintro e w2 ⟨rfl, hb2⟩; obtain ⟨p0, p1, p2, p3⟩ := pg_cells (HAT.out.next hb2); have hb3 : Below w.heap.size w w2 := (below1 _ _).trans (hb2.mono (by simp))) | (go_at_call 36; refine (HD.out _ hb3).mono ?_; rintro e w3 ⟨A, c, rfl, hm, hb4⟩; obtain ⟨p0, p1, p2, p3⟩ := pg_cells (HAT.out.next (hb2.trans (hb4.mono hb2.size))); have hb5 := hb3.trans (hb4.mono hb3.size)) | (go_at_call 13; refine (HG.out _ hb5).mono ?_; rintro e w4 ⟨v, u, rfl, ho1, ho2, hb6⟩))
    have hm4 := hm.below hb6
    have hb7 := hb5.trans (hb6.mono hb5.size)
    have hat4 := HAT.out.next (hb2.trans ((hb4.trans (hb6.mono hb4.size)).mono hb2.size))
    obtain ⟨va, vc, rfl⟩ := own_len ho1
    obtain ⟨ua, uc, rfl⟩ := own_len ho2
    obtain ⟨g, o, b, cc, rfl, hg, z1, hb, z2⟩ := hm4.get HSQ.out hk
    have HZ := Lib.hid (fun W (h : Below w4.heap.size w4 W) => (⟨(h.cell hg).trans z1, fun j hj => (h.cell hb).trans (z2 j hj)⟩ : W.cell? ⟨g, o + k, none⟩ = _ ∧ ∀ j, j < n → W.cell? ⟨b, j, none⟩ = some (.bool (Tj.mget M k j))))
    clear HD HI HG HAT hb2 hb3 hb4 hb5 hb6 hm hm4 z1 z2
    go_loopw [8] (fun i wr => ∃ a : Nat, a ≤ n ∧ i = .int .i64 a ∧ Hid (((List.range n).take a).all ok = true) ∧ Below w4.heap.size w4 wr) (fun i _ => n - (intOf i).toNat)
    case atStart => exact ⟨0, by omega, rfl, Lib.hid rfl, Below.refl _ _⟩
    case round =>
      clear p0 p1 p2 p3
      obtain ⟨a, ha, rfl, HA, hbw⟩ := hrel
      obtain ⟨p0, p1, p2, p3⟩ := pg_cells (hat4.next hbw)
      by_cases h1 : a < n
      · have d1 : decide ((a : Int) < (n : Int)) = true := by simp; omega
        obtain ⟨g', o', rfl, hg', c0⟩ := HPR.out wr (hb7.trans (hbw.mono hb7.size)) a h1
        obtain ⟨y0, y1⟩ := HZ.out _ hbw
        have y2 := y1 a h1
        have j0 : (0 : Int) ≤ (a : Int) := by omega
        have j1 : (a : Int) < (n : Int) := by omega
        have hoa := HOO.out a
        generalize ofs.getD a (-1) = q at *
        unfold sees at hoa
        obtain ⟨m, hmm⟩ : ∃ m, Tj.mget M k a = m := ⟨_, rfl⟩
        rw [hmm] at y2 hoa
        clear y1 hmm
        by_cases hak : a = k
        · have t1 : ((a : Int) == (k : Int)) = true := by rw [beq_iff_eq]; omega
          by_cases hq : q = -1
          · have t2 : (q == -1) = true := by rw [beq_iff_eq]; exact hq
            have t3 : (q != -1) = false := by rw [bne, t2]; rfl
            have HOK := Lib.hid (show ok a = true by rw [hoa, hq]; simp)
            clear hak hq hoa
            go_wp2_with fail
            go_roundw
            case rel => exact ⟨a + 1, by omega, by go_num, Lib.hid (all_take HA.out (range_get h1) HOK.out), hbw⟩
            case measure => simp [intOf]; omega
          · have t2 : (q == -1) = false := by rw [beq_eq_false_iff_ne]; exact hq
            have t3 : (q != -1) = true := by rw [bne, t2]; rfl
            have HOK := Lib.hid (show ok a = false by rw [hoa, decide_eq_true hak, decide_eq_true hq]; rfl)
            clear hak hq hoa
            go_wp2_with fail
            go_ret
            exact ⟨by rw [show R = false by rw [← HR.out, all_not (range_get h1) HOK.out]; rfl]; rfl, hb7.trans (hbw.mono hb7.size)⟩
        · have t1 : ((a : Int) == (k : Int)) = false := by rw [beq_eq_false_iff_ne]; omega
          cases m
          · have HOK := Lib.hid (show ok a = true by rw [hoa, decide_eq_false hak]; rfl)
            clear hak hoa
            go_wp2_with fail
            go_roundw
            case rel => exact ⟨a + 1, by omega, by go_num, Lib.hid (all_take HA.out (range_get h1) HOK.out), hbw⟩
            case measure => simp [intOf]; omega
          · by_cases hq : q = -1
            · have t2 : (q == -1) = true := by rw [beq_iff_eq]; exact hq
              have t3 : (q != -1) = false := by rw [bne, t2]; rfl
              have HOK := Lib.hid (show ok a = true by rw [hoa, hq]; simp)
              clear hak hq hoa
              go_wp2_with fail
              go_roundw
              case rel => exact ⟨a + 1, by omega, by go_num, Lib.hid (all_take HA.out (range_get h1) HOK.out), hbw⟩
              case measure => simp [intOf]; omega
            · have t2 : (q == -1) = false := by rw [beq_eq_false_iff_ne]; exact hq
              have t3 : (q != -1) = true := by rw [bne, t2]; rfl
              have HOK := Lib.hid (show ok a = false by rw [hoa, decide_eq_false hak, decide_eq_true hq]; rfl)
              clear hak hq hoa
              go_wp2_with fail
              go_ret
              exact ⟨by rw [show R = false by rw [← HR.out, all_not (range_get h1) HOK.out]; rfl]; rfl, hb7.trans (hbw.mono hb7.size)⟩
      · have d1 : decide ((a : Int) < (n : Int)) = false := by simp; omega
        have HRE := Lib.hid (show es.all (okE (sees M k)) = R by
          rw [← HR.out]
          have := HA.out
          rw [List.take_of_length_le (by simp; omega)] at this
          rw [this]; rfl)
        clear HR
        go_wp2_with fail
        go_loopw [9] (fun i wr => ∃ m : Nat, m ≤ es.length ∧ i = .int .i64 m ∧ Hid ((es.take m).all (okE (sees M k)) = true) ∧ Below w4.heap.size w4 wr) (fun i _ => es.length - (intOf i).toNat)
        case atStart => exact ⟨0, by omega, rfl, Lib.hid rfl, hbw⟩
        case round =>
          clear p0 p1 p2 p3 hbw d1
          obtain ⟨m, hm, rfl, HM, hbw⟩ := hrel
          by_cases h2 : m < es.length
          · have d2 : decide ((m : Int) < (es.length : Int)) = true := by simp; omega
            obtain ⟨e, he⟩ : ∃ e, es[m]? = some e := ⟨_, List.getElem?_eq_getElem h2⟩
            obtain ⟨hea, heb⟩ := HES.out e (List.mem_of_getElem? he)
            obtain ⟨x0, x1⟩ := ecells_get es m e he
            obtain ⟨A2, c2, ev2, _, _, hcs⟩ := own_cells ho1
            rcases hcs with hcs | ⟨ge, rfl, _, hge, hcs⟩
            · exact absurd hcs (by omega)
            injection ev2 with ev3 _ ev4
            subst ev3
            clear ev4
            obtain ⟨A3, c3, ev2, _, _, hcu⟩ := own_cells ho2
            rcases hcu with hcu | ⟨gu, rfl, _, hgu, hcu⟩
            · exact absurd hcu (by omega)
            injection ev2 with ev3 _ ev4
            subst ev3
            clear ev4
            obtain ⟨y0, y1⟩ := HZ.out _ hbw
            have f0 : ∀ z : Held wr.heap.size wr, z.w.cell? ⟨gu, 0 + m, none⟩ = some (.bool e.g) := fun z => z.cell (Nat.lt_of_lt_of_le hgu hbw.size) ((hbw.cell hgu).trans (by rw [Nat.zero_add]; exact hcu _ _ (mcells_get he)))
            have f1 : ∀ z : Held wr.heap.size wr, z.w.cell? ⟨ge, 0 + m * 2, none⟩ = some (.int .i64 (e.a : Int)) := fun z => z.cell (Nat.lt_of_lt_of_le hge hbw.size) ((hbw.cell hge).trans (by rw [Nat.zero_add]; exact hcs _ _ x0))
            have f2 : ∀ z : Held wr.heap.size wr, z.w.cell? ⟨g, o + k, none⟩ = some (.slice (some ⟨b, 0, none⟩) n cc) := fun z => z.cell (Nat.lt_of_lt_of_le hg hbw.size) y0
            have f3 : ∀ z : Held wr.heap.size wr, z.w.cell? ⟨b, 0 + e.a, none⟩ = some (.bool (Tj.mget M k e.a)) := fun z => z.cell (Nat.lt_of_lt_of_le hb hbw.size) (by rw [Nat.zero_add]; exact y1 e.a hea)
            simp only [Nat.zero_add] at f0 f1 f3
            have j0 : (0 : Int) ≤ (m : Int) := by omega
            have j1 : (m : Int) < (es.length : Int) := by omega
            have j2 : (0 : Int) ≤ (e.a : Int) := by omega
            have j3 : (e.a : Int) < (n : Int) := by omega
            have hok : okE (sees M k) e = !(e.g && (decide (e.a = k) || Tj.mget M k e.a)) := rfl
            have HEM := Lib.hid he
            obtain ⟨mg, hmg⟩ : ∃ mg, Tj.mget M k e.a = mg := ⟨_, rfl⟩
            obtain ⟨eg, heg⟩ : ∃ eg, e.g = eg := ⟨_, rfl⟩
            rw [hmg] at f3 hok
            rw [heg] at f0 hok
            clear hcs hcu x0 x1 y0 y1 hmg heg he
            cases eg
            · have HOK := Lib.hid (show okE (sees M k) e = true by rw [hok]; rfl)
              clear hok
              go_wp2_with fail
              refine wp_region_held wr.heap.size wr (Below.refl _ _) (by kernel_rfl) (by kernel_rfl) ?_
              repeat (go_big_quiet_step (fail))
              refine wpQuiet_nil ?_
              rintro wt ⟨⟨_, bt⟩, rfl⟩
              go_wp2_with fail
              go_roundw
              case rel => exact ⟨m + 1, by omega, by go_num, Lib.hid (all_take HM.out HEM.out HOK.out), hbw.trans (bt.mono hbw.size)⟩
              case measure => simp [intOf]; omega
            · by_cases hak : e.a = k
              · have t1 : ((e.a : Int) == (k : Int)) = true := by rw [beq_iff_eq]; omega
                have HOK := Lib.hid (show okE (sees M k) e = false by rw [hok, decide_eq_true hak]; rfl)
                clear hok hak
                go_wp2_with fail
                refine wp_region_held wr.heap.size wr (Below.refl _ _) (by kernel_rfl) (by kernel_rfl) ?_
                repeat (go_big_quiet_step (fail))
                refine wpQuiet_nil ?_
                rintro wt ⟨⟨_, bt⟩, rfl⟩
                go_wp2_with fail
                go_ret
                exact ⟨by rw [show R = false by rw [← HRE.out, all_not HEM.out HOK.out]]; rfl, hb7.trans ((hbw.trans (bt.mono hbw.size)).mono hb7.size)⟩
              · have t1 : ((e.a : Int) == (k : Int)) = false := by rw [beq_eq_false_iff_ne]; omega
                cases mg
                · have HOK := Lib.hid (show okE (sees M k) e = true by rw [hok, decide_eq_false hak]; rfl)
                  clear hok hak
                  go_wp2_with fail
                  refine wp_region_held wr.heap.size wr (Below.refl _ _) (by kernel_rfl) (by kernel_rfl) ?_
                  repeat (go_big_quiet_step (fail))
                  refine wpQuiet_nil ?_
                  rintro wt ⟨⟨_, bt⟩, rfl⟩
                  go_wp2_with fail
                  go_roundw
                  case rel => exact ⟨m + 1, by omega, by go_num, Lib.hid (all_take HM.out HEM.out HOK.out), hbw.trans (bt.mono hbw.size)⟩
                  case measure => simp [intOf]; omega
                · have HOK := Lib.hid (show okE (sees M k) e = false by rw [hok, decide_eq_false hak]; rfl)
                  clear hok hak
                  go_wp2_with fail
                  refine wp_region_held wr.heap.size wr (Below.refl _ _) (by kernel_rfl) (by kernel_rfl) ?_
                  repeat (go_big_quiet_step (fail))
                  refine wpQuiet_nil ?_
                  rintro wt ⟨⟨_, bt⟩, rfl⟩
                  go_wp2_with fail
                  go_ret
                  exact ⟨by rw [show R = false by rw [← HRE.out, all_not HEM.out HOK.out]]; rfl, hb7.trans ((hbw.trans (bt.mono hbw.size)).mono hb7.size)⟩
          · have d2 : decide ((m : Int) < (es.length : Int)) = false := by simp; omega
            have HT := Lib.hid (show R = true by rw [← HRE.out]; have := HM.out; rw [List.take_of_length_le (by omega)] at this; exact this)
            go_wp2_with fail
            go_ret
            exact ⟨by rw [HT.out]; rfl, hb7.trans (hbw.mono hb7.size)⟩
end Go.Proofs.Ytljlihimmcmlmaa
