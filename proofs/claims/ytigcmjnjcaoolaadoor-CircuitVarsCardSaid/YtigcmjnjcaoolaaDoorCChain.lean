/- The chain of circuits of the laws; no program in sight. -/
import Derived.Test.YtigcmjnjcaoolaaDoorCArgs
import Derived.Test.YtigcmjnjcaoolaaDoorCMisc
namespace Go.Proofs.YtigcmjnjcaoolaaDoor
set_option linter.unusedVariables false
set_option linter.unusedSimpArgs false
open Cx (N M)
/-- A circuit keeps another one's nodes. -/
structure Keeps (l m : List N) : Prop where
  le : l.length ≤ m.length
  ev : ∀ (k : Nat) (ts : List Int), k < l.length → Cx.eval m (k : Int) ts = Cx.eval l (k : Int) ts
theorem Keeps.of {l m : List N} (h : Cx.Grow l m) : Keeps l m := ⟨h.le, fun k ts hk => h.eval hk ts⟩
theorem Keeps.trans {l m n : List N} (h : Keeps l m) (h' : Keeps m n) : Keeps l n := ⟨Nat.le_trans h.le h'.le, fun k ts hk => (h'.ev k ts (Nat.lt_of_lt_of_le hk h.le)).trans (h.ev k ts hk)⟩
theorem Keeps.refl (l : List N) : Keeps l l := ⟨Nat.le_refl _, fun _ _ _ => rfl⟩
structure Chain (l : List N) (x y z : Nat) (m1 m2 m3 m4 m5 m6 m7 m8 m9 : List N) (k1 k2 k3 k4 k5 k6 k7 k8 k9 : Nat) : Prop where
  e1 : Cx.plus l x y = (m1, (k1 : Int))
  e2 : Cx.plus m1 k1 z = (m2, (k2 : Int))
  e3 : Cx.plus m2 y z = (m3, (k3 : Int))
  e4 : Cx.plus m3 x k3 = (m4, (k4 : Int))
  e5 : Cx.times m4 x k3 = (m5, (k5 : Int))
  e6 : Cx.times m5 x y = (m6, (k6 : Int))
  e7 : Cx.times m6 x z = (m7, (k7 : Int))
  e8 : Cx.plus m7 k6 k7 = (m8, (k8 : Int))
  e9 : Cx.plus m8 x k6 = (m9, (k9 : Int))
  f0 : Fine l 62
  f1 : Fine m1 63
  f2 : Fine m2 64
  f3 : Fine m3 65
  f4 : Fine m4 66
  f5 : Fine m5 67
  f6 : Fine m6 68
  f7 : Fine m7 69
  f8 : Fine m8 70
  f9 : Fine m9 71
  v1 : ∀ ts, Cx.eval m9 (k4 : Int) ts = Cx.eval m9 (k2 : Int) ts
  v2 : ∀ ts, Cx.eval m9 (k8 : Int) ts = Cx.eval m9 (k5 : Int) ts
  v3 : ∀ ts, Cx.eval m9 (x : Int) ts = Cx.eval m9 (k9 : Int) ts
set_option maxHeartbeats 1000000 in
theorem chain_of {l : List N} (h : Fine l 62) {x y z : Nat} (hx : x < l.length) (hy : y < l.length) (hz : z < l.length) :
    ∃ (m1 m2 m3 m4 m5 m6 m7 m8 m9 : List N) (k1 k2 k3 k4 k5 k6 k7 k8 k9 : Nat), Chain l x y z m1 m2 m3 m4 m5 m6 m7 m8 m9 k1 k2 k3 k4 k5 k6 k7 k8 k9 := by
  obtain ⟨m1, k1, e1, t1, f1, _⟩ := plus_is h (by omega) hx hy
  have g1 := Keeps.of t1.grow
  have b1 := t1.lt
  obtain ⟨m2, k2, e2, t2, f2, _⟩ := plus_is f1 (by omega) t1.lt (show z < m1.length by have := g1.le; omega)
  have g2 := Keeps.of t2.grow
  have b2 := t2.lt
  have s2 := g1.trans g2
  obtain ⟨m3, k3, e3, t3, f3, _⟩ := plus_is f2 (by omega) (show y < m2.length by have := s2.le; omega) (show z < m2.length by have := s2.le; omega)
  have g3 := Keeps.of t3.grow
  have b3 := t3.lt
  have s3 := s2.trans g3
  obtain ⟨m4, k4, e4, t4, f4, _⟩ := plus_is f3 (by omega) (show x < m3.length by have := s3.le; omega) t3.lt
  have g4 := Keeps.of t4.grow
  have b4 := t4.lt
  have s4 := s3.trans g4
  obtain ⟨m5, k5, e5, t5, f5, _⟩ := times_is f4 (by omega) (show x < m4.length by have := s4.le; omega) (show k3 < m4.length by have := g4.le; omega)
  have g5 := Keeps.of t5.grow
  have b5 := t5.lt
  have s5 := s4.trans g5
  obtain ⟨m6, k6, e6, t6, f6, _⟩ := times_is f5 (by omega) (show x < m5.length by have := s5.le; omega) (show y < m5.length by have := s5.le; omega)
  have g6 := Keeps.of t6.grow
  have b6 := t6.lt
  have s6 := s5.trans g6
  obtain ⟨m7, k7, e7, t7, f7, _⟩ := times_is f6 (by omega) (show x < m6.length by have := s6.le; omega) (show z < m6.length by have := s6.le; omega)
  have g7 := Keeps.of t7.grow
  have b7 := t7.lt
  have s7 := s6.trans g7
  obtain ⟨m8, k8, e8, t8, f8, _⟩ := plus_is f7 (by omega) (show k6 < m7.length by have := g7.le; omega) t7.lt
  have g8 := Keeps.of t8.grow
  have b8 := t8.lt
  have s8 := s7.trans g8
  obtain ⟨m9, k9, e9, t9, f9, _⟩ := plus_is f8 (by omega) (show x < m8.length by have := s8.le; omega) (show k6 < m8.length by have := g7.le; have := g8.le; omega)
  have g9 := Keeps.of t9.grow
  have b9 := t9.lt
  have s9 := s8.trans g9
  have n8 := g9
  have n7 := g8.trans n8
  have n6 := g7.trans n7
  have n5 := g6.trans n6
  have n4 := g5.trans n5
  have n3 := g4.trans n4
  have n2 := g3.trans n3
  have n1 := g2.trans n2
  refine ⟨m1, m2, m3, m4, m5, m6, m7, m8, m9, k1, k2, k3, k4, k5, k6, k7, k8, k9, ⟨e1, e2, e3, e4, e5, e6, e7, e8, e9, h, f1, f2, f3, f4, f5, f6, f7, f8, f9, fun ts => ?_, fun ts => ?_, fun ts => ?_⟩⟩
  · rw [n4.ev k4 ts b4, t4.val, s3.ev x ts hx, t3.val, s2.ev y ts hy, s2.ev z ts hz, n2.ev k2 ts b2, t2.val, t1.val, g1.ev z ts hz]
    exact (Bool.or_assoc _ _ _).symm
  · rw [n8.ev k8 ts b8, t8.val, g7.ev k6 ts b6, t6.val, t7.val, s5.ev x ts hx, s5.ev y ts hy, s6.ev x ts hx, s6.ev z ts hz, n5.ev k5 ts b5, t5.val, s4.ev x ts hx, g4.ev k3 ts b3, t3.val, s2.ev y ts hy, s2.ev z ts hz]
    exact (Bool.and_or_distrib_left _ _ _).symm
  · rw [s9.ev x ts hx, t9.val, s8.ev x ts hx, (g7.trans g8).ev k6 ts b6, t6.val, s5.ev x ts hx, s5.ev y ts hy]
    cases Cx.eval l (x : Int) ts <;> cases Cx.eval l (y : Int) ts <;> rfl
theorem ints_i64 (xs : List UInt8) : ∀ t ∈ ints xs, I64 t := by
  intro t ht
  unfold ints at ht
  obtain ⟨c, _, rfl⟩ := List.mem_map.1 ht
  have := c.toNat_lt
  unfold I64; omega
end Go.Proofs.YtigcmjnjcaoolaaDoor
