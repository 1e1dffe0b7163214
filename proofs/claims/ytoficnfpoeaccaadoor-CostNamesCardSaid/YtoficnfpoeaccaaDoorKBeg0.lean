/- The beginnings of an order: what CostBeginnings' estimates are. No program in sight. -/
import Derived.Test.YtoficnfpoeaccaaDoorKGate
namespace Go.Proofs.YtoficnfpoeaccaaDoor
set_option linter.unusedVariables false
set_option linter.unusedSimpArgs false
open Go.RowKit
namespace Ko
def Found (body : List Lt) (o : List Int) : Prop := ∀ i ∈ o, ∃ l, body[i.toNat]? = some l
theorem picked_len {body : List Lt} : ∀ {o : List Int}, Found body o → (picked body o).length = o.length
  | [], _ => rfl
  | i :: o, h => by
    obtain ⟨l, hl⟩ := h i (by simp)
    have e1 : picked body (i :: o) = l :: picked body o := by unfold picked; rw [List.filterMap_cons, hl]
    rw [e1, List.length_cons, List.length_cons, picked_len (fun j hj => h j (by simp [hj]))]
theorem picked_snoc {body : List Lt} {o : List Int} {i : Int} {l : Lt} (h : body[i.toNat]? = some l) : picked body (o ++ [i]) = picked body o ++ [l] := by
  unfold picked
  rw [List.filterMap_append]
  simp [h]
theorem picked_mem {body : List Lt} {o : List Int} {l : Lt} (h : l ∈ picked body o) : l ∈ body := by
  unfold picked at h
  obtain ⟨i, _, hi⟩ := List.mem_filterMap.1 h
  exact List.mem_of_getElem? hi
theorem fits_picked {ss : List Sta} {body : List Lt} {o : List Int} (h : fits ss body = true) : fits ss (picked body o) = true := by
  unfold fits at h ⊢
  rw [List.all_eq_true] at h ⊢
  exact fun l hl => h l (picked_mem hl)
theorem runs_take {body : List Lt} {o2 : List Int} : ∀ (o : List Int) (done : List Nat) {B : Bd}, runs body (o ++ o2) done B = true → runs body o done B = true
  | [], _, _, _ => rfl
  | i :: o, done, B, h => by
    rw [List.cons_append] at h
    unfold runs at h ⊢
    cases hl : body[i.toNat]? with
    | none => rw [hl] at h; cases h
    | some l =>
      rw [hl] at h
      dsimp only at h ⊢
      simp only [Bool.and_eq_true] at h ⊢
      exact ⟨h.1, runs_take o _ h.2⟩
theorem runs_picked {body : List Lt} : ∀ (o : List Int) (done : List Nat) (pre : List Lt) {B : Bd}, runs body o done B = true → runs (pre ++ picked body o) ((List.range o.length).map fun (i : Nat) => ((pre.length + i : Nat) : Int)) (List.range pre.length) B = true
  | [], _, _, _, _ => rfl
  | i :: o, done, pre, B, h => by
    unfold runs at h
    cases hl : body[i.toNat]? with
    | none => rw [hl] at h; cases h
    | some l =>
      rw [hl] at h
      dsimp only at h
      simp only [Bool.and_eq_true] at h
      have e1 : picked body (i :: o) = l :: picked body o := by unfold picked; rw [List.filterMap_cons, hl]
      have e2 : (List.range (i :: o).length).map (fun (i : Nat) => ((pre.length + i : Nat) : Int)) = (pre.length : Int) :: (List.range o.length).map fun (i : Nat) => (((pre ++ [l]).length + i : Nat) : Int) := by
        rw [List.length_cons, List.range_succ_eq_map, List.map_cons, List.map_map, Nat.add_zero]
        congr 1
        apply List.map_congr_left
        intro a _
        simp only [Function.comp, List.length_append, List.length_singleton]
        congr 1
        omega
      rw [e1, e2]
      unfold runs
      have e3 : (pre ++ l :: picked body o)[((pre.length : Nat) : Int).toNat]? = some l := by
        rw [Int.toNat_natCast, List.getElem?_append_right (Nat.le_refl _), Nat.sub_self]
        rfl
      rw [e3]
      dsimp only
      have ih := runs_picked o _ (pre ++ [l]) h.2
      have e4 : pre ++ l :: picked body o = (pre ++ [l]) ++ picked body o := by simp
      have e5 : List.range pre.length ++ [((pre.length : Nat) : Int).toNat] = List.range (pre ++ [l]).length := by
        rw [Int.toNat_natCast, List.length_append, List.length_singleton, List.range_succ]
      rw [e4, e5, ih, h.1.2, decide_eq_true (show (0 : Int) ≤ (pre.length : Int) by omega)]
      simp
theorem found_of {body : List Lt} {bd : List ByteArray} {order : List Int} (h : evaluable body bd order = true) : Found body order := by
  unfold evaluable at h
  rw [Bool.and_eq_true] at h
  exact fun i hi => (runs_at order [] h.2 i hi).2
end Ko
theorem found_take {body : List Lt} {order : List Int} (h : Ko.Found body order) (k : Nat) : Ko.Found body (order.take k) := fun i hi => h i (List.mem_of_mem_take hi)
/-- A rule with another body. -/
def Rl.part (r : Rl) (A : Option Addr) (c : Nat) (o : List Int) : Rl := { r with ba := A, bc := c, body := Ko.picked r.body o }
theorem countUp_len (n : Nat) : (Ko.countUp n).length = n := by simp [Ko.countUp]
theorem countUp_snoc (n : Nat) : Ko.countUp (n + 1) = Ko.countUp n ++ [(n : Int)] := by
  unfold Ko.countUp
  rw [List.range_succ, List.map_append]
  rfl
theorem begin_eval {r : Rl} {bd : List ByteArray} {order : List Int} (he : Ko.evaluable r.body bd order = true) (k : Nat) (A : Option Addr) (c : Nat) : Ko.evaluable (r.part A c (order.take k)).body bd (Ko.countUp (order.take k).length) = true := by
  have hf := Ko.found_of he
  unfold Ko.evaluable at he ⊢
  rw [Bool.and_eq_true] at he ⊢
  refine ⟨decide_eq_true ?_, ?_⟩
  · rw [countUp_len]
    exact (Ko.picked_len (found_take hf k)).symm
  · have h1 := he.2
    rw [← List.take_append_drop k order] at h1
    have h2 := Ko.runs_picked (order.take k) [] [] (Ko.runs_take _ _ h1)
    simp only [List.nil_append, List.length_nil, Nat.zero_add, List.range_zero] at h2
    exact h2
theorem begin_est {ss : List Sta} {r : Rl} {bd : List ByteArray} {order : List Int} (hf : Ko.fits ss r.body = true) (he : Ko.evaluable r.body bd order = true) (k : Nat) (A : Option Addr) (c : Nat) :
    Ko.estimate ss (r.part A c (order.take k)) bd (Ko.countUp (order.take k).length) = (costN ss r bd (order.take k) : Nat) := by
  rw [est_ok (Ko.fits_picked hf) (begin_eval he k A c)]
  unfold costN
  rw [show (r.part A c (order.take k)).body = Ko.picked r.body (order.take k) from rfl, Ko.est_begin (found_take (Ko.found_of he) k)]
theorem begin_mono {ss : List Sta} {r : Rl} {bd : List ByteArray} {order : List Int} (k : Nat) : costN ss r bd (order.take (k - 1)) ≤ costN ss r bd (order.take k) := by
  cases k with
  | zero => exact Nat.le_refl _
  | succ k =>
    rw [Nat.add_sub_cancel]
    by_cases h : k < order.length
    · rw [List.take_add_one, List.getElem?_eq_getElem h]
      exact Ko.est_app _ (Nat.zero_le _)
    · rw [List.take_of_length_le (by omega), List.take_of_length_le (by omega)]
      exact Nat.le_refl _
theorem begin_zero (ss : List Sta) (r : Rl) (bd : List ByteArray) (order : List Int) : costN ss r bd (order.take 0) = 0 := rfl
theorem begin_one {ss : List Sta} {r : Rl} {bd : List ByteArray} {order : List Int} (hf : Ko.Found r.body order) (h1 : 1 ≤ order.length) : 1 ≤ costN ss r bd (order.take 1) := by
  cases order with
  | nil => simp at h1
  | cons i o =>
    obtain ⟨l, hl⟩ := hf i (by simp)
    unfold costN
    rw [show (i :: o).take 1 = [i] from rfl]
    unfold Ko.est
    rw [hl]
    unfold Ko.est Ko.stepE
    dsimp only
    split
    · dsimp only
      unfold Ko.prod Ko.most
      omega
    · split <;> (dsimp only; unfold Ko.most; omega)
end Go.Proofs.YtoficnfpoeaccaaDoor
