/- The walk of the reference's add. -/
import Derived.Test.YtoficnfpoeaccaaDoorKRef4
namespace Go.Proofs.YtoficnfpoeaccaaDoor
set_option linter.unusedVariables false
set_option linter.unusedSimpArgs false
open Go.RowKit
/-- A list of names with one more, if it is new. -/
def addN (l : List ByteArray) (s : ByteArray) : List ByteArray := if s.toList = [] ∨ hasN l s = true then l else l ++ [s]
abbrev ncs (l : List ByteArray) : List Value := l.map .string
theorem own_names {w : World} {B : Nat} {l : List ByteArray} {A : Option Addr} {c : Nat} (h : w.ownsRow B 9 1 (.slice A l.length c) l.length (ncs l)) : NmAt w A l := fun hn => by
  obtain ⟨A', c', e, _, _, h0⟩ := own_cells h
  injection e with e1 e2 e3
  subst e1
  rcases h0 with h0 | ⟨g, rfl, _, hg, hc⟩
  · exact absurd (List.eq_nil_of_length_eq_zero h0) hn
  · exact ⟨g, 0, rfl, hg, fun i s hi => by rw [Nat.zero_add]; exact hc i _ (by rw [List.getElem?_map, hi]; rfl)⟩
theorem s_info : (Tryd.prog.info? 9).map (fun i => (i.zero, i.size, i.bytes)) = some (some (.string ⟨#[]⟩), 1, 16) := by kernel_rfl
set_option maxHeartbeats 600000 in
set_option maxRecDepth 100000 in
theorem add_any (A : Option Addr) (c : Nat) (l : List ByteArray) (s : ByteArray) (B : Nat) (w : World) (hB : B ≤ w.heap.size) (ho : w.ownsRow B 9 1 (.slice A l.length c) l.length (ncs l)) (hl : l.length ≤ 1000000) :
    Calls Tryd.prog 61 #[.slice A l.length c, .string s] w fun e w' => (∃ v, e = .returned v ∧ w'.ownsRow B 9 1 v (addN l s).length (ncs (addN l s))) ∧ Below B w w' ∧ w.heap.size ≤ w'.heap.size ∧ ∀ (g : Nat) (t : TypeId) (cs : Array Value), t ≠ 9 → At w g t cs → At w' g t cs := by
  obtain ⟨iI, hi0, hi1, hi2, hi3⟩ : ∃ i, Tryd.prog.info? 9 = some i ∧ i.zero = some (.string ⟨#[]⟩) ∧ i.size = 1 ∧ i.bytes = 16 := by
    have h := s_info
    cases hx : Tryd.prog.info? 9 with
    | none => rw [hx] at h; simp at h
    | some i => rw [hx] at h; simp at h; exact ⟨i, rfl, h⟩
  have HI := Lib.hid (in_any A c l s w (own_names ho) hl)
  by_cases h1 : s.toList = [] ∨ hasN l s = true
  · have HR := Lib.hid (show addN l s = l from if_pos h1)
    obtain ⟨z, hz⟩ : ∃ z, hasN l s = z := ⟨_, rfl⟩
    rw [hz] at HI h1
    clear hz
    by_cases h2 : s.toList = []
    · have t1 : (s.toList == []) = true := by rw [h2]; rfl
      clear h1
      go_enter Tryd.func61, Tryd.ntmps61
      go_wp2_with (go_at_call 70; refine HI.out.mono ?_; rintro e w2 ⟨rfl, rfl⟩)
      go_ret
      exact ⟨⟨_, rfl, by rw [HR.out]; exact ho⟩, Below.refl _ _, Nat.le_refl _, fun _ _ _ _ h => h⟩
    · have t1 : (s.toList == []) = false := by simpa using h2
      obtain rfl : z = true := h1.resolve_left h2
      clear h1
      go_enter Tryd.func61, Tryd.ntmps61
      go_wp2_with (go_at_call 70; refine HI.out.mono ?_; rintro e w2 ⟨rfl, rfl⟩)
      go_ret
      exact ⟨⟨_, rfl, by rw [HR.out]; exact ho⟩, Below.refl _ _, Nat.le_refl _, fun _ _ _ _ h => h⟩
  · have HR := Lib.hid (show addN l s = l ++ [s] from if_neg h1)
    have h2 : ¬ s.toList = [] := fun h => h1 (.inl h)
    have t1 : (s.toList == []) = false := by simpa using h2
    have hz : hasN l s = false := by cases h : hasN l s; rfl; exact absurd (.inr h) h1
    rw [hz] at HI
    clear h1 hz
    go_enter Tryd.func61, Tryd.ntmps61
    go_wp2_with first
      | (go_at_call 70; refine HI.out.mono ?_; rintro e w2 ⟨rfl, rfl⟩)
      | (at_builtin; refine wpList_append_own _ rfl _ _ 39 rfl B 9 iI (.string ⟨#[]⟩) 1 16 Tryd.underlying39 hi0 hi1 hi2 hi3 rfl (by decide) _ _ _ rfl (ho.alloc _) ⟨w.heap.size, 0, none⟩ 1 1 [.string s] rfl rfl ?c1 ?c2 ?c3 ?c4 ?c5 ?_)
    case c1 => exact At.news (xs := [.string s]) (At.newAt (by simp) _ _)
    case c2 => exact one1 rfl
    case c3 => simp [maxLen]; omega
    case c4 => omega
    case c5 => simp; omega
    intro v3 w3 o3 g3 _
    go_wp2_with fail
    go_ret
    refine ⟨⟨v3, rfl, ?_⟩, ?_, by have := g3.size; simp at this; omega, fun g t cs ht h => (h.alloc _).grown g3 (own_far ho h (fun e => ht (by simpa using e)))⟩
    · rw [HR.out, List.length_append]
      show w3.ownsRow B _ 1 v3 _ ((l ++ [s]).map Value.string)
      rw [List.map_append]
      exact o3
    · exact ((Below.refl B w).alloc hB (.cells #[.string s] 9)).grown g3 (by simp; omega) (fun q hq => by have := (own_lt ho hq).1; omega)
end Go.Proofs.YtoficnfpoeaccaaDoor
