/- The walk of the reference's Same. -/
import Derived.Test.YtoficnfpoeaccaaDoorKRef3
namespace Go.Proofs.YtoficnfpoeaccaaDoor
set_option linter.unusedVariables false
set_option linter.unusedSimpArgs false
open Go.RowKit
set_option maxRecDepth 100000 in
theorem same_any (s t : Sta) (w : World) (hs : StaOk w s) (ht : StaOk w t) (hl : s.dist.length ≤ 1000000) :
    Calls Tryd.prog 13 #[s.v, t.v] w fun e w' => e = .returned (.bool (decide (s.rows = t.rows ∧ s.dist = t.dist))) ∧ Below w.heap.size w w' := by
  obtain ⟨ra, da, dc, l⟩ := s
  obtain ⟨rb, db, dd, m⟩ := t
  have HI := Lib.hid (fun W (h : Below w.heap.size w W) => ints_any da db dc dd l m W (hs.dist.below h) (ht.dist.below h) hl)
  unfold Sta.v
  dsimp only at *
  clear hs ht
  have hb2 : Below w.heap.size w ((w.alloc (.cells #[.int .i64 ra, .slice da l.length dc] 46)).alloc (.cells #[.int .i64 rb, .slice db m.length dd] 46)) := (below1 w _).alloc (by simp) _
  by_cases h : ra = rb
  · have r0 : (ra == rb) = true := by simpa using h
    have HR := Lib.hid (show decide (ra = rb ∧ l = m) = decide (l = m) by rw [Bool.decide_and, decide_eq_true h]; rfl)
    clear h
    go_enter Tryd.func13, Tryd.ntmps13
    go_wp2_with (go_at_call 25; refine (HI.out _ hb2).mono ?_; rintro e w3 ⟨rfl, hb3⟩)
    go_ret
    exact ⟨by rw [HR.out]; rfl, hb2.trans (hb3.mono hb2.size)⟩
  · have r0 : (ra == rb) = false := by simpa using h
    have HR := Lib.hid (show decide (ra = rb ∧ l = m) = false by rw [Bool.decide_and, decide_eq_false h]; rfl)
    clear h
    go_enter Tryd.func13, Tryd.ntmps13
    go_wp2_with fail
    go_ret
    exact ⟨by rw [HR.out]; rfl, hb2⟩
end Go.Proofs.YtoficnfpoeaccaaDoor
