/- The walk of the reference's copied. -/
import Derived.Test.YtoficnfpoeaccaaDoorKRefA
namespace Go.Proofs.YtoficnfpoeaccaaDoor
set_option linter.unusedVariables false
set_option linter.unusedSimpArgs false
open Go.RowKit
theorem add_offs (g o j : Nat) : ((⟨g, o, none⟩ : Addr).add j) = ⟨g, o + j, none⟩ := by
  unfold Addr.add; split
  · rename_i h; subst h; rfl
  · simp
set_option maxHeartbeats 600000 in
set_option maxRecDepth 100000 in
theorem copied_any (A : Option Addr) (c : Nat) (l : List ByteArray) (w : World) (hA : NmAt w A l) (hn : A = none → c = 0) (hl : l.length ≤ 900000) :
    Calls Tryd.prog 43 #[.slice A l.length c] w fun e w' => (∃ v, e = .returned v ∧ w'.ownsRow w.heap.size 9 1 v l.length (ncs l)) ∧ Below w.heap.size w w' := by
  obtain ⟨iI, hi0, hi1, hi2, hi3⟩ : ∃ i, Tryd.prog.info? 9 = some i ∧ i.zero = some (.string ⟨#[]⟩) ∧ i.size = 1 ∧ i.bytes = 16 := by
    have h := s_info
    cases hx : Tryd.prog.info? 9 with
    | none => rw [hx] at h; simp at h
    | some i => rw [hx] at h; simp at h; exact ⟨i, rfl, h⟩
  have HA := Lib.hid (hA.below (below1 w (.cells #[] 9)))
  clear hA
  go_enter Tryd.func43, Tryd.ntmps43
  go_wp2_with (at_builtin; refine wpList_append_from rfl _ _ 39 rfl w.heap.size 9 iI (.string ⟨#[]⟩) 1 16 Tryd.underlying39 hi0 hi1 hi2 hi3 rfl (by decide) _ _ _ rfl (own_empty w 9 1 w.heap.size (Nat.le_refl _)) A l.length c (ncs l) rfl (by simp) ?c1 ?c2 ?c3 ?c4 ?c5 ?c6 ?_)
  case c1 =>
    intro hz
    refine ⟨?_, hn hz⟩
    by_cases h : l = []
    · rw [h]; rfl
    · obtain ⟨g, o, e, _⟩ := HA.out h
      rw [hz] at e
      cases e
  case c2 =>
    intro ad had j u hu
    rw [List.getElem?_map] at hu
    cases hx : l[j]? with
    | none => rw [hx] at hu; cases hu
    | some x =>
      rw [hx] at hu
      obtain rfl : Value.string x = u := Option.some.inj hu
      obtain ⟨g, o, e, hg, hc⟩ := HA.out.at hx
      rw [had] at e
      obtain rfl := Option.some.inj e
      rw [add_offs]
      exact hc
  case c3 => intro u hu; obtain ⟨x, _, rfl⟩ := List.mem_map.1 hu; rfl
  case c4 => simp [maxLen]; omega
  case c5 => omega
  case c6 => simp
  intro v3 w3 o3 g3
  go_wp2_with fail
  go_ret
  refine ⟨⟨v3, rfl, ?_⟩, ?_⟩
  · exact o3
  · exact (below1 w (.cells #[] 9)).grown g3 (by simp) (fun q hq => by have := (own_lt (own_empty w 9 1 w.heap.size (Nat.le_refl _)) hq).1; omega)
end Go.Proofs.YtoficnfpoeaccaaDoor
