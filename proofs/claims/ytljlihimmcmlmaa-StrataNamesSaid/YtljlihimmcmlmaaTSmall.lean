/- The walk of Small. -/
import Derived.Test.YtljlihimmcmlmaaTEdges
namespace Go.Proofs.Ytljlihimmcmlmaa
set_option linter.unusedVariables false
set_option linter.unusedSimpArgs false
open Go.RowKit
def smallP (p : Pg) : Bool := decide (p.prs.length ≤ 40) && decide (p.rus.length ≤ 60) && p.rus.all fun r => decide (r.lits.length ≤ 12)
theorem smallP_iff {p : Pg} : smallP p = true ↔ p.prs.length ≤ 40 ∧ p.rus.length ≤ 60 ∧ ∀ r ∈ p.rus, r.lits.length ≤ 12 := by
  unfold smallP
  simp [and_assoc]
theorem small_any (p : Pg) (w : World) (hp : PgOk w p) : Calls Try.prog 11 #[p.v] w fun e w' => e = .returned (.bool (smallP p)) ∧ Below w.heap.size w w' := by
  have hl1 : p.prs.length ≤ 9223372036854775807 := by have := hp.pcap; unfold maxLen at this; omega
  have hl2 : p.rus.length ≤ 9223372036854775807 := by have := hp.rcap; unfold maxLen at this; omega
  have HRU := Lib.hid (fun W (h : Below w.heap.size w W) (k : Nat) (r : Ru) (hk : p.rus[k]? = some r) => ruAt (hp.below h) hk)
  have HRB := Lib.hid (fun r (hr : r ∈ p.rus) => (show r.lits.length ≤ 9223372036854775807 by have := (hp.each r hr).cap; unfold maxLen at this; omega))
  obtain ⟨R, hR⟩ : ∃ R, smallP p = R := ⟨_, rfl⟩
  rw [hR]
  unfold Pg.v
  clear hp
  by_cases h1 : p.prs.length ≤ 40
  · have d1 : decide ((40 : Int) < (p.prs.length : Int)) = false := by simp; omega
    have d1' : decide (40 < p.prs.length) = false := by simp; omega
    by_cases h2 : p.rus.length ≤ 60
    · have d2 : decide ((60 : Int) < (p.rus.length : Int)) = false := by simp; omega
      have d2' : decide (60 < p.rus.length) = false := by simp; omega
      have HR := Lib.hid (show R = p.rus.all fun r => decide (r.lits.length ≤ 12) by rw [← hR]; unfold smallP; rw [decide_eq_true h1, decide_eq_true h2]; rfl)
      clear hR h1 h2
      generalize p.ra = ra at *
      go_enter Try.func11, Try.ntmps11
      go_wp2_with fail
      go_loopw [3] (fun i wr => ∃ k : Nat, k ≤ p.rus.length ∧ Hid (∀ r ∈ p.rus.take k, r.lits.length ≤ 12) ∧ i = .int .i64 k ∧ Below w.heap.size w wr ∧ At wr w.heap.size 27 #[.slice p.lat.a p.lat.n p.lat.c, .slice p.fns.a p.fns.n p.fns.c, .slice p.pa p.prs.length p.pc, .slice ra p.rus.length p.rc]) (fun i _ => p.rus.length - (intOf i).toNat)
      case atStart => exact ⟨0, by omega, Lib.hid (by simp), rfl, below1 _ _, At.new _ _ _⟩
      case round =>
        obtain ⟨k, hk, HN, rfl, hbw, ha⟩ := hrel
        have q3 : wr.cell? ⟨w.heap.size, 3, none⟩ = some (.slice ra p.rus.length p.rc) := ha.cell 3
        by_cases h3 : k < p.rus.length
        · have d3 : decide ((k : Int) < (p.rus.length : Int)) = true := by simp; omega
          obtain ⟨r, hrk⟩ : ∃ r, p.rus[k]? = some r := ⟨_, List.getElem?_eq_getElem h3⟩
          obtain ⟨g, o, rfl, hg, _, _, _, _, _, _, _, c7, _⟩ := HRU.out wr hbw k r hrk
          have hrl := HRB.out r (List.mem_of_getElem? hrk)
          have j0 : (0 : Int) ≤ (k : Int) := by omega
          have j1 : (k : Int) < (p.rus.length : Int) := by omega
          by_cases h4 : r.lits.length ≤ 12
          · have d4 : decide ((12 : Int) < (r.lits.length : Int)) = false := by simp; omega
            have d4' : decide (12 < r.lits.length) = false := by simp; omega
            have HE := Lib.hid (show ∀ r ∈ p.rus.take (k + 1), r.lits.length ≤ 12 from fun x hx => by
              rw [take_more hrk] at hx
              rcases List.mem_append.1 hx with hx | hx
              · exact HN.out x hx
              · simp at hx; subst hx; exact h4)
            clear hrk h4
            go_wp2_with fail
            go_roundw
            case rel => exact ⟨k + 1, by omega, HE, by go_num, hbw, ha⟩
            case measure => simp [intOf]; omega
          · have d4 : decide ((12 : Int) < (r.lits.length : Int)) = true := by simp; omega
            have d4' : decide (12 < r.lits.length) = true := by simp; omega
            have HE := Lib.hid (show R = false by
              rw [HR.out, List.all_eq_false]
              exact ⟨r, List.mem_of_getElem? hrk, by simpa using h4⟩)
            clear hrk h4
            go_wp2_with fail
            go_ret
            exact ⟨by rw [HE.out]; rfl, hbw⟩
        · have d3 : decide ((k : Int) < (p.rus.length : Int)) = false := by simp; omega
          have HE := Lib.hid (show R = true by
            rw [HR.out, List.all_eq_true]
            intro r hr; exact decide_eq_true (HN.out r (by rw [List.take_of_length_le (by omega)]; exact hr)))
          go_wp2_with fail
          go_ret
          exact ⟨by rw [HE.out]; rfl, hbw⟩
    · have d2 : decide ((60 : Int) < (p.rus.length : Int)) = true := by simp; omega
      have d2' : decide (60 < p.rus.length) = true := by simp; omega
      have HE := Lib.hid (show R = false by rw [← hR]; unfold smallP; rw [decide_eq_false h2]; simp)
      clear hR h1 h2
      go_enter Try.func11, Try.ntmps11
      go_wp2_with fail
      go_ret
      exact ⟨by rw [HE.out]; rfl, below1 _ _⟩
  · have d1 : decide ((40 : Int) < (p.prs.length : Int)) = true := by simp; omega
    have d1' : decide (40 < p.prs.length) = true := by simp; omega
    have HE := Lib.hid (show R = false by rw [← hR]; unfold smallP; rw [decide_eq_false h1]; simp)
    clear hR h1
    go_enter Try.func11, Try.ntmps11
    go_wp2_with fail
    go_ret
    exact ⟨by rw [HE.out]; rfl, below1 _ _⟩
end Go.Proofs.Ytljlihimmcmlmaa
