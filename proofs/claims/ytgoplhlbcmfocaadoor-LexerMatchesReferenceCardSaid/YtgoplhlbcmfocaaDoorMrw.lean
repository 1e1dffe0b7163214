/- The walk of LexerMatchesReference: both Lex give what the plain law says. -/
import Derived.Test.YtgoplhlbcmfocaaDoorHead
namespace Go.Proofs.YtgoplhlbcmfocaaDoor.lexerMatchesReference
open Go.RowKit
theorem lex_len (l : List UInt8) : (Lx.lex l).1.length ≤ 3000 := by
  unfold Lx.lex
  split
  · simp
  · split
    · simp
    · rename_i h
      split
      · split <;> simp
      · simp only; omega
set_option maxHeartbeats 2000000 in
set_option maxRecDepth 100000 in
theorem law_walk (s : ByteArray) (w : World) (hy : Syms w) (hm : s.size ≤ 9223372036854775807) :
    Calls Tryd.prog 3 #[.string s] w fun e w' => e = .returned (.bool true) ∧ Below w.heap.size w w' := by
  have hl := hy.lt
  by_cases h81 : s.size ≤ 8100
  · have d1 : decide ((s.size : Int) ≤ 8100) = true := by simp; omega
    go_enter Tryd.func3, Tryd.ntmps3
    go_wp2_with fail
    refine (head_any _ hy).mono ?_
    rintro e w1 ⟨rfl, b1⟩
    have y1 := hy.below b1 hl
    go_wp2_with fail
    refine (small_any _ true _ hm d1).mono ?_
    rintro e w' ⟨rfl, rfl⟩
    go_wp2_with fail
    refine (lex_any _ _ y1 hm).mono ?_
    rintro e w2 ⟨A2, c2, rfl, o2, b2⟩
    have hlen : (Lx.lex s.data.toList).1.length ≤ 3000 := lex_len _
    have hlx : Lexed s.data.toList w2 = Lexed s.data.toList w2 := rfl
    clear hlx
    have hR := fun w' : World => rlex_any s w' hm
    unfold Lexed at hR
    generalize Lx.lex s.data.toList = L at *
    obtain ⟨ts, er, n⟩ := L
    dsimp only at *
    have HR := Lib.hid hR
    clear hR
    go_wp2_with fail
    refine (HR.out _).mono ?_
    rintro e w3 ⟨A3, c3, rfl, o3, b3⟩
    have q2 := (Reads3.own o2).below b3
    have q3 := Reads3.own o3
    go_wp2_with fail
    refine (same_eq A2 A3 c2 c3 ts w3 (by omega) q2 q3).mono ?_
    rintro e w4 ⟨rfl, b4⟩
    go_wp2
    go_ret
    exact ⟨by simp, ((b1.trans (b2.mono b1.size)).trans (b3.mono (Nat.le_trans b1.size b2.size))).trans (b4.mono (Nat.le_trans b1.size (Nat.le_trans b2.size b3.size)))⟩
  · have d1 : decide ((s.size : Int) ≤ 8100) = false := by simp; omega
    go_enter Tryd.func3, Tryd.ntmps3
    go_wp2_with fail
    refine (head_any _ hy).mono ?_
    rintro e w1 ⟨rfl, b1⟩
    go_wp2_with fail
    refine (small_any _ false _ hm d1).mono ?_
    rintro e w' ⟨rfl, rfl⟩
    go_wp2
    go_ret
    exact ⟨rfl, b1⟩
end Go.Proofs.YtgoplhlbcmfocaaDoor.lexerMatchesReference
