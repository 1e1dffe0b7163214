/- ParserRecovery, plain: the place of the inserted tokens. No program in sight. -/
import Derived.Test.YtpcmlkpnjimbiaaDoorPAp
import Derived.Test.YtpcmlkpnjimbiaaDoorPBnd
namespace Go.Proofs.YtpcmlkpnjimbiaaDoor
set_option linter.unusedVariables false
set_option linter.unusedSimpArgs false
theorem offI_le {s : List UInt8} (h : (Lx.lex s).2.1 = 0) (k : Nat) : ∃ p : Nat, offI (Lx.lex s).1 s.length k = (p : Int) ∧ p ≤ s.length := by
 by_cases hk : k < (Lx.lex s).1.length
 ·refine ⟨_, offI_in (List.getElem?_eq_getElem hk), ?_⟩
  have := ((Lx.lex_get h).2.2.2.1 k hk).2.1
  omega
 ·exact ⟨_, offI_out (by omega), Nat.le_refl _⟩
/-- Every offset that the law may take. -/
theorem mend_at {s : List UInt8} (hD : parseD s = []) {z : Int} (hz : z ∈ (parseP s).offs ++ [(s.length : Int)]) :
  ∃ p : Nat, z = (p : Int) ∧ p ≤ s.length ∧ ((Lx.lex (s.take p ++ 10 :: eqDot (s.drop p))).2.1 = 0 → parseD (s.take p ++ 10 :: eqDot (s.drop p)) = [(50, (p : Int) + 1)] ∧ (parseP (s.take p ++ 10 :: eqDot (s.drop p))).to (fun _ => 0) = (parseP s).to (fun _ => 0)) := by
 obtain ⟨h0, hDl⟩ := parseD_lex hD
 have hl := lex_lens h0
 have hr := Px.parse_runs hDl (by rw [kts_length]; exact hl)
 rw [kts_length] at hr
 rcases List.mem_append.1 hz with hz | hz
 ·rw [parseP_of h0] at hz
  obtain ⟨x, hx, rfl⟩ := Ap.of_offs hz
  obtain ⟨xs1, xs2, e, h1, h2⟩ := hr.to hx
  obtain ⟨p, hp, hle⟩ := offI_le h0 x.at0
  exact ⟨p, hp, hle, fun hn => (parse_mend h0 h1 h2 hp.symm hn).2⟩
 ·simp at hz
  refine ⟨s.length, hz, Nat.le_refl _, fun hn => ?_⟩
  have ho : ((s.length : Nat) : Int) = offI (Lx.lex s).1 s.length (Lx.lex s).1.length := (offI_out (Nat.le_refl _)).symm
  exact (parse_mend h0 hr (Px.Runs.nil _) ho hn).2
end Go.Proofs.YtpcmlkpnjimbiaaDoor
