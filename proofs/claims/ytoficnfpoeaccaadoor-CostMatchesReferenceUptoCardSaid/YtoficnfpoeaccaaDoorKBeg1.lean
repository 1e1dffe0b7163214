/- The beginnings of an order: what CostBeginnings' estimates are. No program in sight. -/
import Derived.Test.YtoficnfpoeaccaaDoorKGate
import Derived.Test.YtoficnfpoeaccaaDoorKStat
namespace Go.Proofs.YtoficnfpoeaccaaDoor
set_option linter.unusedVariables false
set_option linter.unusedSimpArgs false
open Go.RowKit
namespace Ko
def Found (body : List Lt) (o : List Int) : Prop := ∀ i ∈ o, ∃ l, body[i.toNat]? = some l
theorem picked_len {body : List Lt} : ∀ {o : List Int}, Found body o → (picked body o).length = o.length
  | [], _ => rfl
  | i :: o, h => by
    obtain ⟨l, hl⟩ := h i (by simp)
    have e1 : picked body (i :: o) = l :: picked body o := by unfold picked; rw [List.filterMap_cons, hl]
    rw [e1, List.length_cons, List.length_cons, picked_len (fun j hj => h j (by simp [hj]))]
theorem picked_snoc {body : List Lt} {o : List Int} {i : Int} {l : Lt} (h : body[i.toNat]? = some l) : picked body (o ++ [i]) = picked body o ++ [l] := by
  unfold picked
  rw [List.filterMap_append]
  simp [h]
theorem picked_mem {body : List Lt} {o : List Int} {l : Lt} (h : l ∈ picked body o) : l ∈ body := by
  unfold picked at h
  obtain ⟨i, _, hi⟩ := List.mem_filterMap.1 h
  exact List.mem_of_getElem? hi
theorem fits_picked {ss : List Sta} {body : List Lt} {o : List Int} (h : fits ss body = true) : fits ss (picked body o) = true := by
  unfold fits at h ⊢
  rw [List.all_eq_true] at h ⊢
  exact fun l hl => h l (picked_mem hl)
theorem runs_take {body : List Lt} {o2 : List Int} : ∀ (o : List Int) (done : List Nat) {B : Bd}, runs body (o ++ o2) done B = true → runs body o done B = true
  | [], _, _, _ => rfl
  | i :: o, done, B, h => by
    rw [List.cons_append] at h
    unfold runs at h ⊢
    cases hl : body[i.toNat]? with
    | none => rw [hl] at h; cases h
    | some l =>
      rw [hl] at h
      dsimp only at h ⊢
      simp only [Bool.and_eq_true] at h ⊢
      exact ⟨h.1, runs_take o _ h.2⟩
theorem runs_picked {body : List Lt} : ∀ (o : List Int) (done : List Nat) (pre : List Lt) {B : Bd}, runs body o done B = true → runs (pre ++ picked body o) ((List.range o.length).map fun (i : Nat) => ((pre.length + i : Nat) : Int)) (List.range pre.length) B = true
  | [], _, _, _, _ => rfl
  | i :: o, done, pre, B, h => by
    unfold runs at h
    cases hl : body[i.toNat]? with
    | none => rw [hl] at h; cases h
    | some l =>
      rw [hl] at h
      dsimp only at h
      simp only [Bool.and_eq_true] at h
      have e1 : picked body (i :: o) = l :: picked body o := by unfold picked; rw [List.filterMap_cons, hl]
      have e2 : (List.range (i :: o).length).map (fun (i : Nat) => ((pre.length + i : Nat) : Int)) = (pre.length : Int) :: (List.range o.length).map fun (i : Nat) => (((pre ++ [l]).length + i : Nat) : Int) := by
        rw [List.length_cons, List.range_succ_eq_map, List.map_cons, List.map_map, Nat.add_zero]
        congr 1
        apply List.map_congr_left
        intro a _
        simp only [Function.comp, List.length_append, List.length_singleton]
        congr 1
        omega
      rw [e1, e2]
      unfold runs
      have e3 : (pre ++ l :: picked body o)[((pre.length : Nat) : Int).toNat]? = some l := by
        rw [Int.toNat_natCast, List.getElem?_append_right (Nat.le_refl _), Nat.sub_self]
        rfl
      rw [e3]
      dsimp only
      have ih := runs_picked o _ (pre ++ [l]) h.2
      have e4 : pre ++ l :: picked body o = (pre ++ [l]) ++ picked body o := by simp
      have e5 : List.range pre.length ++ [((pre.length : Nat) : Int).toNat] = List.range (pre ++ [l]).length := by
        rw [Int.toNat_natCast, List.length_append, List.length_singleton, List.range_succ]
      rw [e4, e5, ih, h.1.2, decide_eq_true (show (0 : Int) ≤ (pre.length : Int) by omega)]
      simp
theorem found_of {body : List Lt} {bd : List ByteArray} {order : List Int} (h : evaluable body bd order = true) : Found body order := by
  unfold evaluable at h
  rw [Bool.and_eq_true] at h
  exact fun i hi => (runs_at order [] h.2 i hi).2
end Ko
theorem found_take {body : List Lt} {order : List Int} (h : Ko.Found body order) (k : Nat) : Ko.Found body (order.take k) := fun i hi => h i (List.mem_of_mem_take hi)
/-- A rule with another body. -/
def Rl.part (r : Rl) (A : Option Addr) (c : Nat) (o : List Int) : Rl := { r with ba := A, bc := c, body := Ko.picked r.body o }
theorem countUp_len (n : Nat) : (Ko.countUp n).length = n := by simp [Ko.countUp]
theorem countUp_snoc (n : Nat) : Ko.countUp (n + 1) = Ko.countUp n ++ [(n : Int)] := by
  unfold Ko.countUp
  rw [List.range_succ, List.map_append]
  rfl
theorem begin_eval {r : Rl} {bd : List ByteArray} {order : List Int} (he : Ko.evaluable r.body bd order = true) (k : Nat) (A : Option Addr) (c : Nat) : Ko.evaluable (r.part A c (order.take k)).body bd (Ko.countUp (order.take k).length) = true := by
  have hf := Ko.found_of he
  unfold Ko.evaluable at he ⊢
  rw [Bool.and_eq_true] at he ⊢
  refine ⟨decide_eq_true ?_, ?_⟩
  · rw [countUp_len]
    exact (Ko.picked_len (found_take hf k)).symm
  · have h1 := he.2
    rw [← List.take_append_drop k order] at h1
    have h2 := Ko.runs_picked (order.take k) [] [] (Ko.runs_take _ _ h1)
    simp only [List.nil_append, List.length_nil, Nat.zero_add, List.range_zero] at h2
    exact h2
theorem begin_est {ss : List Sta} {r : Rl} {bd : List ByteArray} {order : List Int} (hf : Ko.fits ss r.body = true) (he : Ko.evaluable r.body bd order = true) (k : Nat) (A : Option Addr) (c : Nat) :
    Ko.estimate ss (r.part A c (order.take k)) bd (Ko.countUp (order.take k).length) = (costN ss r bd (order.take k) : Nat) := by
  rw [est_ok (Ko.fits_picked hf) (begin_eval he k A c)]
  unfold costN
  rw [show (r.part A c (order.take k)).body = Ko.picked r.body (order.take k) from rfl, Ko.est_begin (found_take (Ko.found_of he) k)]
theorem begin_mono {ss : List Sta} {r : Rl} {bd : List ByteArray} {order : List Int} (k : Nat) : costN ss r bd (order.take (k - 1)) ≤ costN ss r bd (order.take k) := by
  cases k with
  | zero => exact Nat.le_refl _
  | succ k =>
    rw [Nat.add_sub_cancel]
    by_cases h : k < order.length
    · rw [List.take_add_one, List.getElem?_eq_getElem h]
      exact Ko.est_app _ (Nat.zero_le _)
    · rw [List.take_of_length_le (by omega), List.take_of_length_le (by omega)]
      exact Nat.le_refl _
theorem begin_zero (ss : List Sta) (r : Rl) (bd : List ByteArray) (order : List Int) : costN ss r bd (order.take 0) = 0 := rfl
theorem begin_one {ss : List Sta} {r : Rl} {bd : List ByteArray} {order : List Int} (hf : Ko.Found r.body order) (h1 : 1 ≤ order.length) : 1 ≤ costN ss r bd (order.take 1) := by
  cases order with
  | nil => simp at h1
  | cons i o =>
    obtain ⟨l, hl⟩ := hf i (by simp)
    unfold costN
    rw [show (i :: o).take 1 = [i] from rfl]
    unfold Ko.est
    rw [hl]
    unfold Ko.est Ko.stepE
    dsimp only
    split
    · dsimp only
      unfold Ko.prod Ko.most
      omega
    · split <;> (dsimp only; unfold Ko.most; omega)
end Go.Proofs.YtoficnfpoeaccaaDoor
namespace Go.Proofs.YtoficnfpoeaccaaDoor
set_option linter.unusedVariables false
set_option linter.unusedSimpArgs false
open Go.RowKit
theorem flat_at {α : Type} (f : α → List Value) {size : Nat} (hsz : ∀ x, (f x).length = size) : ∀ (L : List α) (i : Nat) (x : α) (j : Nat) (v : Value), L[i]? = some x → (f x)[j]? = some v → (L.flatMap f)[i * size + j]? = some v
  | [], i, x, j, v, h, _ => by simp at h
  | a :: l, i, x, j, v, h, hj => by
    have h4 := hsz a
    rw [List.flatMap_cons]
    cases i with
    | zero =>
      obtain rfl : a = x := by simpa using h
      have : j < (f a).length := (List.getElem?_eq_some_iff.1 hj).1
      rw [List.getElem?_append_left (by omega), show 0 * size + j = j by omega]
      exact hj
    | succ i =>
      rw [Nat.add_mul, Nat.one_mul, List.getElem?_append_right (by omega), h4, show i * size + size + j - size = i * size + j by omega]
      exact flat_at f hsz l i x j v (by simpa using h) hj
theorem flat_size {α : Type} (f : α → List Value) {size : Nat} (hsz : ∀ x, (f x).length = size) : ∀ (L : List α), (L.flatMap f).length = L.length * size
  | [] => by simp
  | a :: l => by rw [List.flatMap_cons, List.length_append, hsz, flat_size f hsz l, List.length_cons, Nat.add_mul, Nat.one_mul, Nat.add_comm]
theorem str_own {α : Type} {w : World} {B k size c : Nat} {e : TypeId} {A : Option Addr} (f : α → List Value) (hsz : ∀ x, (f x).length = size) {L : List α} (h : w.ownsRow B e size (.slice A k c) k (L.flatMap f)) (hl : L.length = k) : Str w A size (L.map f) := fun hn => by
  obtain ⟨A', c', e, _, _, h0⟩ := own_cells h
  injection e with e1 _ e3
  subst e1
  rcases h0 with h0 | ⟨g, rfl, _, hg, hc⟩
  · have : L = [] := List.eq_nil_of_length_eq_zero (by omega)
    subst this
    exact absurd rfl hn
  · refine ⟨g, 0, rfl, hg, fun i fs hi j v hj => ?_⟩
    rw [List.getElem?_map, Option.map_eq_some_iff] at hi
    obtain ⟨x, hx, rfl⟩ := hi
    rw [Nat.zero_add]
    exact hc _ v (flat_at f hsz L i x j v hx hj)
theorem own_cap {w : World} {B k size c : Nat} {e : TypeId} {A : Option Addr} {xs : List Value} (h : w.ownsRow B e size (.slice A k c) k xs) : k ≤ c ∧ c ≤ maxLen := by
  obtain ⟨A', c', e, h1, h2, _⟩ := own_cells h
  injection e with _ _ e3
  subst e3
  exact ⟨h1, h2⟩
def lcells (l : List Lt) : List Value := l.flatMap Lt.fs
theorem lcells_snoc (l : List Lt) (x : Lt) : lcells (l ++ [x]) = lcells l ++ x.fs := by simp [lcells]
def int1 (x : Int) : List Value := [.int .i64 x]
def icells (l : List Int) : List Value := l.flatMap int1
theorem icells_snoc (l : List Int) (x : Int) : icells (l ++ [x]) = icells l ++ [.int .i64 x] := by simp [icells, int1]
/-- A rule's cells, with this body. -/
def rcells (r : Rl) (A : Option Addr) (n c : Nat) : Array Value := #[.string r.name, .int .i64 r.pred, .slice r.args.a r.args.n r.args.c, .int .i64 r.ek, .string r.en, .string r.ev, .int .i64 r.ei, .slice A n c, .int .i64 r.pos]
theorem rcells_at {w : World} {g : Nat} {r : Rl} {A : Option Addr} {n c : Nat} (h : At w g 38 (rcells r A n c)) : w.cell? ⟨g, 0, none⟩ = some (.string r.name) ∧ w.cell? ⟨g, 1, none⟩ = some (.int .i64 r.pred) ∧ w.cell? ⟨g, 2, none⟩ = some (.slice r.args.a r.args.n r.args.c) ∧ w.cell? ⟨g, 3, none⟩ = some (.int .i64 r.ek) ∧ w.cell? ⟨g, 4, none⟩ = some (.string r.en) ∧ w.cell? ⟨g, 5, none⟩ = some (.string r.ev) ∧ w.cell? ⟨g, 6, none⟩ = some (.int .i64 r.ei) ∧ w.cell? ⟨g, 7, none⟩ = some (.slice A n c) ∧ w.cell? ⟨g, 8, none⟩ = some (.int .i64 r.pos) :=
  ⟨h.cell 0, h.cell 1, h.cell 2, h.cell 3, h.cell 4, h.cell 5, h.cell 6, h.cell 7, h.cell 8⟩
/-- The rule that is built, the given one, the literals and the order. -/
structure BInv (w : World) (pb : Nat) (r : Rl) (body : List Lt) (n : Nat) (o : List Int) (m : Nat) (Ap : Option Addr) (cp : Nat) (Ao : Option Addr) (co : Nat) (W : World) : Prop where
  part : At W pb 38 (rcells r Ap n cp)
  rb : At W w.heap.size 38 (rcells r r.ba r.body.length r.bc)
  pn : w.heap.size < pb
  len : body.length = n
  own : W.ownsRow w.heap.size 60 9 (.slice Ap n cp) n (lcells body)
  leno : o.length = m
  ints : W.ownsRow w.heap.size 3 1 (.slice Ao m co) m (icells o)
  below : Below w.heap.size w W
theorem BInv.next {w W W' : World} {pb n m cp co : Nat} {r : Rl} {body : List Lt} {o : List Int} {Ap Ao : Option Addr} (h : BInv w pb r body n o m Ap cp Ao co W) (hb : Below W.heap.size W W') : BInv w pb r body n o m Ap cp Ao co W' :=
  ⟨h.part.next hb, h.rb.next hb, h.pn, h.len, own_below h.own hb, h.leno, own_below h.ints hb, h.below.trans (hb.mono h.below.size)⟩
/-- One literal more. -/
theorem BInv.lit {w W W5 : World} {pb n m cp co c5 : Nat} {r : Rl} {body : List Lt} {o : List Int} {Ap Ao A5 : Option Addr} (h : BInv w pb r body n o m Ap cp Ao co W) {x : Lt}
    (h5 : W5.ownsRow w.heap.size 60 9 (.slice A5 (n + 1) c5) (n + 1) (lcells body ++ x.fs)) (g5 : W.grownBy W5 (Value.slice Ap n cp).ownBlock) :
    At W5 pb 38 (rcells r Ap n cp) ∧ BInv w pb r (body ++ [x]) (n + 1) o m A5 c5 Ao co (W5.setCell ⟨pb, 7, none⟩ (.slice A5 (n + 1) c5)) := by
  have hp := h.part.grown g5 (own_far h.own h.part (by decide))
  have hr := h.rb.grown g5 (own_far h.own h.rb (by decide))
  have hi := own_kept h.ints g5 (own_blocks h.ints h.own (by decide))
  have hb := h.below.grown g5 h.below.size (fun q hq => (own_lt h.own hq).1)
  have hpn := h.pn
  refine ⟨hp, hp.put 7 _, hr.far (p := ⟨pb, 7, none⟩) (show w.heap.size ≠ pb by omega) _, hpn, by rw [List.length_append, h.len]; rfl, ?_, h.leno, own_putne (p := ⟨pb, 7, none⟩) hi (own_far hi hp (by decide)) _, hb.setCell (p := ⟨pb, 7, none⟩) (show w.heap.size ≤ pb by omega) _⟩
  rw [lcells_snoc]
  exact own_putne (p := ⟨pb, 7, none⟩) h5 (own_far h5 hp (by decide)) _
/-- One number more. -/
theorem BInv.int {w W W5 : World} {pb n m cp co c5 : Nat} {r : Rl} {body : List Lt} {o : List Int} {Ap Ao A5 : Option Addr} (h : BInv w pb r body n o m Ap cp Ao co W) {x : Int}
    (h5 : W5.ownsRow w.heap.size 3 1 (.slice A5 (m + 1) c5) (m + 1) (icells o ++ [.int .i64 x])) (g5 : W.grownBy W5 (Value.slice Ao m co).ownBlock) :
    BInv w pb r body n (o ++ [x]) (m + 1) Ap cp A5 c5 W5 := by
  have hp := h.part.grown g5 (own_far h.ints h.part (by decide))
  have hr := h.rb.grown g5 (own_far h.ints h.rb (by decide))
  have hi := own_kept h.own g5 (own_blocks h.own h.ints (by decide))
  have hb := h.below.grown g5 h.below.size (fun q hq => (own_lt h.ints hq).1)
  exact ⟨hp, hr, h.pn, h.len, hi, by rw [List.length_append, h.leno]; rfl, by rw [icells_snoc]; exact h5, hb⟩
theorem lfs_len (x : Lt) : x.fs.length = 9 := rfl
theorem int1_len (x : Int) : (int1 x).length = 1 := rfl
/-- The built rule as a rule. -/
theorem BInv.rule {w W : World} {pb n m cp co : Nat} {r : Rl} {body : List Lt} {o : List Int} {Ap Ao : Option Addr} (h : BInv w pb r body n o m Ap cp Ao co W) (hl : ∀ l ∈ body, LtOk W l) : RlOk W { r with ba := Ap, bc := cp, body := body } :=
  ⟨str_own Lt.fs lfs_len h.own h.len, by have := own_cap h.own; have := h.len; dsimp only; omega, hl⟩
theorem BInv.order {w W : World} {pb n m cp co : Nat} {r : Rl} {body : List Lt} {o : List Int} {Ap Ao : Option Addr} (h : BInv w pb r body n o m Ap cp Ao co W) : Str W Ao 1 (o.map fun x => [.int .i64 x]) :=
  str_own int1 int1_len h.ints h.leno
theorem lit_info : (Tryd.prog.info? 60).map (fun i => (i.zero, i.size, i.bytes)) = some (some (.agg #[.int .i64 0, .string ⟨#[]⟩, .int .i64 0, .slice none 0 0, .string ⟨#[]⟩, .string ⟨#[]⟩, .int .i64 0, .int .i64 0, .int .i64 0]), 9, 112) := by kernel_rfl
def NewL9 (cs : List Value) : Value → World → Prop := fun x w => ∃ b, x = .slice (some ⟨b, 0, none⟩) 1 1 ∧ At w b 60 cs.toArray
theorem newL9_on {J : World → Prop} (cs : List Value) : Lasting J Onward (NewL9 cs) := fun x w w' _ hb ⟨b, e, h⟩ => ⟨b, e, h.next hb⟩
theorem lfs_one (x : Lt) : ∀ u ∈ x.fs, u.oneCell' = true := by
  intro u hu
  simp [Lt.fs] at hu
  rcases hu with rfl | rfl | rfl | rfl | rfl | rfl | rfl | rfl | rfl <;> rfl
end Go.Proofs.YtoficnfpoeaccaaDoor
