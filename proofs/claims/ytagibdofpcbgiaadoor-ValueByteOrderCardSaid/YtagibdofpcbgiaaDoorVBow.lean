/- The walk of the law ValueByteOrder. -/
import Derived.Test.YtagibdofpcbgiaaDoorVByw
namespace Go.Proofs.YtagibdofpcbgiaaDoor.valueByteOrder
set_option linter.unusedVariables false
set_option linter.unusedSimpArgs false
open Go.RowKit Go.Shelf
/-- What is known when k bytes are read: the order is open, or it is o. -/
def Ord (x y : List UInt8) (N : Int) (k : Nat) (o : Int) : Prop := (o = 0 ∧ N = Vx.cmpB (x.drop k) (y.drop k)) ∨ (o = -1 ∧ N = -1) ∨ (o = 1 ∧ N = 1)
set_option maxHeartbeats 8000000 in
set_option maxRecDepth 100000 in
theorem law_walk (A : Option Addr) (ka : Nat) (a : List Vx.V) (B : Option Addr) (kb : Nat) (b : List Vx.V) (w : World) (hy : Laid w)
    (ha : a.length ≤ 281474976710656) (hA : Tup w A a) (fa : Fits a) (hb : b.length ≤ 281474976710656) (hB : Tup w B b) (fb : Fits b) :
    Calls Tryd.prog 8 #[.slice A a.length ka, .slice B b.length kb] w fun e w' => e = .returned (.bool true) ∧ Below w.heap.size w w' := by
  have LY := Lib.hid (fun W (h : Below w.heap.size w W) => hy.next h)
  have TA := Lib.hid (fun W (h : Below w.heap.size w W) => hA.below h)
  have TB := Lib.hid (fun W (h : Below w.heap.size w W) => hB.below h)
  have FA := Lib.hid fa; have FB := Lib.hid fb
  have SA := Lib.hid (fun b W (h : Below w.heap.size w W) (hb : shortB a = b) => short_val A _ ka a b W rfl ha (TA.out W h) FA.out hb)
  have SB := Lib.hid (fun b' W (h : Below w.heap.size w W) (hb' : shortB b = b') => short_val B _ kb b b' W rfl hb (TB.out W h) FB.out hb')
  have VA := Lib.hid (fun v W (h : Below w.heap.size w W) (hv : a.all Vx.valid = v) => valids_val A _ ka a v W rfl ha (TA.out W h) FA.out (LY.out W h).words hv)
  have VB := Lib.hid (fun v W (h : Below w.heap.size w W) (hv : b.all Vx.valid = v) => valids_val B _ kb b v W rfl hb (TB.out W h) FB.out (LY.out W h).words hv)
  clear hA hB fa fb
  go_enter Tryd.func8, Tryd.ntmps8
  go_wp2_with fail
  refine (head_any _ hy).mono ?_
  rintro e w1 ⟨rfl, bw1⟩
  clear hy
  obtain ⟨p1, q1⟩ : ∃ p, shortB a = p := ⟨_, rfl⟩
  obtain ⟨p2, q2⟩ : ∃ p, shortB b = p := ⟨_, rfl⟩
  obtain ⟨p3, q3⟩ : ∃ p, decide ((60 : Int) < (a.length : Int) + (b.length : Int)) = p := ⟨_, rfl⟩
  have Q1 := Lib.hid q1; have Q2 := Lib.hid q2
  clear q1 q2
  go_wp2_with fail
  refine (SA.out _ _ bw1 Q1.out).mono ?_
  rintro e w' ⟨rfl, rfl⟩
  cases p1
  · go_wp2_with fail
    go_ret
    exact ⟨rfl, bw1⟩
  go_wp2_with fail
  refine (SB.out _ _ bw1 Q2.out).mono ?_
  rintro e w' ⟨rfl, rfl⟩
  cases p2
  · go_wp2_with fail
    go_ret
    exact ⟨rfl, bw1⟩
  cases p3
  case true =>
    go_wp2_with fail
    go_ret
    exact ⟨rfl, bw1⟩
  have hab : a.length + b.length ≤ 60 := by simp at q3; omega
  go_wp2_with fail
  clear Q1 Q2 SA SB
  obtain ⟨va, hva⟩ : ∃ p, a.all Vx.valid = p := ⟨_, rfl⟩
  have HVA := Lib.hid hva
  clear hva
  refine (VA.out _ _ bw1 HVA.out).mono ?_
  rintro e w2 ⟨rfl, b2'⟩
  have bw2 := bw1.trans (b2'.mono bw1.size)
  clear b2'
  cases va
  · go_wp2_with fail
    go_ret
    exact ⟨rfl, bw2⟩
  go_wp2_with fail
  obtain ⟨vb, hvb⟩ : ∃ p, b.all Vx.valid = p := ⟨_, rfl⟩
  have HVB := Lib.hid hvb
  clear hvb
  refine (VB.out _ _ bw2 HVB.out).mono ?_
  rintro e w3 ⟨rfl, b3'⟩
  have bw3 := bw2.trans (b3'.mono bw2.size)
  clear b3'
  cases vb
  · go_wp2_with fail
    go_ret
    exact ⟨rfl, bw3⟩
  go_wp2_with fail
  clear q3 VA VB
  have hord := byte_order HVA.out HVB.out
  have hla := encode_len a; have hlb := encode_len b
  obtain ⟨x, hx⟩ : ∃ x, Vx.encode a = x := ⟨_, rfl⟩
  obtain ⟨y, hy⟩ : ∃ x, Vx.encode b = x := ⟨_, rfl⟩
  obtain ⟨N, hN⟩ : ∃ N, Vx.cmpT a b = N := ⟨_, rfl⟩
  rw [hx, hy, hN] at hord
  rw [hx] at hla; rw [hy] at hlb
  have HX := Lib.hid hx; have HY := Lib.hid hy; have HN := Lib.hid hN; have HO := Lib.hid hord
  clear hx hy hN hord HVA HVB
  refine (encode_val A _ ka a x _ rfl (by omega) (TA.out _ bw3) FA.out (LY.out _ bw3).words HX.out).mono ?_
  rintro e w4 ⟨X, c4, rfl, _, _, T4, b4'⟩
  have bw4 := bw3.trans (b4'.mono bw3.size)
  have T4' := Lib.hid T4
  clear b4' T4
  go_wp2_with fail
  refine (encode_val B _ kb b y _ rfl (by omega) (TB.out _ bw4) FB.out (LY.out _ bw4).words HY.out).mono ?_
  rintro e w5 ⟨Y, c5, rfl, _, _, T5, b5'⟩
  have bw5 := bw4.trans (b5'.mono bw4.size)
  have TX := Lib.hid (fun W (h : Below w5.heap.size w5 W) => (T4'.out.below b5').below h)
  have TY := Lib.hid (fun W (h : Below w5.heap.size w5 W) => T5.below h)
  have BW := Lib.hid (fun W (h : Below w5.heap.size w5 W) => bw5.trans (h.mono bw5.size))
  clear b5' T5 T4' bw1 bw2 bw3 bw4 HX HY
  go_wp2_with fail
  go_loopw [8, 9] (fun o i wr => ∃ (k : Nat) (z : Int), k ≤ x.length ∧ k ≤ y.length ∧ Hid (Ord x y N k z) ∧ o = .int .i64 z ∧ i = .int .i64 k ∧ Below w5.heap.size w5 wr) (fun _ i _ => x.length - (intOf i).toNat)
  case atStart => exact ⟨0, 0, by omega, by omega, Lib.hid (Or.inl ⟨rfl, by simp [HO.out]⟩), rfl, rfl, Below.refl _ _⟩
  case round =>
    obtain ⟨k, z, hk1, hk2, HZ, rfl, rfl, hbw⟩ := hrel
    have bwr := BW.out _ hbw
    have hz : z = 0 ∨ (z = -1 ∧ N = -1) ∨ (z = 1 ∧ N = 1) := by
      rcases HZ.out with ⟨h, _⟩ | h | h
      · exact Or.inl h
      · exact Or.inr (Or.inl h)
      · exact Or.inr (Or.inr h)
    rcases hz with rfl | ⟨rfl, hn⟩ | ⟨rfl, hn⟩
    · have HZ' := Lib.hid (show N = Vx.cmpB (x.drop k) (y.drop k) from by
        rcases HZ.out with ⟨_, h⟩ | ⟨h, _⟩ | ⟨h, _⟩
        · exact h
        · omega
        · omega)
      clear HZ
      by_cases hin : k < x.length ∧ k < y.length
      · obtain ⟨h1, h2⟩ := hin
        have d1 : decide ((k : Int) < (x.length : Int)) = true := by simp; omega
        have d2 : decide ((k : Int) < (y.length : Int)) = true := by simp; omega
        obtain ⟨g, o, rfl, hg, hc⟩ := (TX.out _ hbw) (by intro h; rw [h] at h1; simp at h1)
        have e1 := List.getElem?_eq_getElem h1
        have c1 := hc k _ e1
        obtain ⟨g', o', rfl, hg', hc'⟩ := (TY.out _ hbw) (by intro h; rw [h] at h2; simp at h2)
        have e2 := List.getElem?_eq_getElem h2
        have c2 := hc' k _ e2
        generalize x[k] = p at *
        generalize y[k] = q at *
        clear hc hc'
        have i0 : (0 : Int) ≤ (k : Int) := by omega
        have i1 : (k : Int) < (x.length : Int) := by omega
        have i2 : (k : Int) < (y.length : Int) := by omega
        have hnew : ∃ z', Ord x y N (k + 1) z' ∧ z' = (if (p.toNat : Int) < (q.toNat : Int) then -1 else if (q.toNat : Int) < (p.toNat : Int) then 1 else 0) := by
          by_cases hpq : p = q
          · refine ⟨0, Or.inl ⟨rfl, HZ'.out.trans (cmpL_same e1 e2 (cmpI_zero.2 (by rw [hpq])))⟩, by rw [hpq, if_neg (by omega), if_neg (by omega)]⟩
          · have hne : p.toNat ≠ q.toNat := fun h => hpq (UInt8.toNat_inj.1 h)
            have hd := HZ'.out.trans (cmpL_differ e1 e2 (f := Vx.cmpC) (fun h => by have := cmpI_zero.1 h; omega))
            by_cases hlt : (p.toNat : Int) < (q.toNat : Int)
            · exact ⟨-1, Or.inr (Or.inl ⟨rfl, by rw [hd]; exact cmpI_lt hlt⟩), by rw [if_pos hlt]⟩
            · exact ⟨1, Or.inr (Or.inr ⟨rfl, by rw [hd]; exact cmpI_gt (by omega)⟩), by rw [if_neg hlt, if_pos (by omega)]⟩
        obtain ⟨z', hz', hz''⟩ := hnew
        have HZN := Lib.hid hz'
        have hz3 : z' = (if decide ((p.toNat : Int) < (q.toNat : Int)) = true then -1 else if decide ((q.toNat : Int) < (p.toNat : Int)) = true then 1 else 0) := by rw [hz'']; simp only [decide_eq_true_eq]
        clear hz' hz'' e1 e2
        have s1 : decide (p.toNat < q.toNat) = decide ((p.toNat : Int) < (q.toNat : Int)) := by rw [decide_eq_decide]; omega
        have s2 : decide (q.toNat < p.toNat) = decide ((q.toNat : Int) < (p.toNat : Int)) := by rw [decide_eq_decide]; omega
        cases u1 : decide ((p.toNat : Int) < (q.toNat : Int)) <;> cases u2 : decide ((q.toNat : Int) < (p.toNat : Int))
        all_goals
          first
            | (exfalso; simp at u1 u2; omega)
            | (rw [u1, u2] at hz3
               rw [u1] at s1
               rw [u2] at s2
               simp only [if_true, if_false, Bool.false_eq_true] at hz3
               subst hz3
               go_wp2
               go_quiet (fail)
               go_wp2
               go_quiet (fail)
               go_wp2
               go_roundw
               case rel => exact ⟨k + 1, _, by omega, by omega, HZN, rfl, by go_num, below_drewN hbw _⟩
               case measure => simp [intOf]; omega)
      · have hend := HZ'.out.trans (cmpL_end (by omega) (by omega) (by omega))
        have tests : ∃ p1 p2 : Bool, decide ((k : Int) < (x.length : Int)) = p1 ∧ decide ((k : Int) < (y.length : Int)) = p2 ∧ decide (k < x.length) = p1 ∧ decide (k < y.length) = p2 ∧ (p1 && p2) = false := by
          refine ⟨_, _, rfl, rfl, by rw [decide_eq_decide]; omega, by rw [decide_eq_decide]; omega, ?_⟩
          rw [Bool.eq_false_iff]; intro h
          simp only [Bool.and_eq_true, decide_eq_true_eq] at h
          exact hin ⟨by omega, by omega⟩
        obtain ⟨p1, p2, t1, t2, t3, t4, t12⟩ := tests
        have hlen : (((x.length : Int) != (y.length : Int)) = false ∧ N = 0) ∨ (((x.length : Int) != (y.length : Int)) = true ∧ decide ((x.length : Int) < (y.length : Int)) = true ∧ N = -1) ∨ (((x.length : Int) != (y.length : Int)) = true ∧ decide ((x.length : Int) < (y.length : Int)) = false ∧ N = 1) := by
          rcases Nat.lt_trichotomy x.length y.length with h | h | h
          · right; left; exact ⟨by simp; omega, by simp; omega, by rw [hend]; exact cmpI_lt (by omega)⟩
          · left; exact ⟨by simp; omega, by rw [hend]; exact cmpI_zero.2 (by omega)⟩
          · right; right; exact ⟨by simp; omega, by simp; omega, by rw [hend]; exact cmpI_gt (by omega)⟩
        clear hin hend HZ'
        have l3 : decide (x.length < y.length) = decide ((x.length : Int) < (y.length : Int)) := by rw [decide_eq_decide]; omega
        rcases hlen with ⟨l1, hn⟩ | ⟨l1, l2, hn⟩ | ⟨l1, l2, hn⟩
        rotate_left
        rw [l2] at l3
        rotate_left
        rw [l2] at l3
        rotate_left
        all_goals
          subst hn
          cases p1 <;> cases p2 <;> (try (exact absurd t12 (by decide)))
          all_goals
            clear t12
            go_wp2_with fail
            refine (ctuple_val A B _ _ ka kb a b _ _ rfl rfl ha hb (TA.out _ bwr) (TB.out _ bwr) FA.out FB.out HN.out).mono ?_
            rintro e w7 ⟨rfl, b7'⟩
            have bw7 := bwr.trans (b7'.mono bwr.size)
            clear b7'
            go_wp2_with fail
            go_ret
            exact ⟨by first | rfl | simp, bw7⟩
    all_goals
      subst hn
      clear HZ
      obtain ⟨p1, t1⟩ : ∃ p, decide (k < x.length) = p := ⟨_, rfl⟩
      obtain ⟨p2, t2⟩ : ∃ p, decide (k < y.length) = p := ⟨_, rfl⟩
      have t3 : decide ((k : Int) < (x.length : Int)) = p1 := by rw [← t1, decide_eq_decide]; omega
      have t4 : decide ((k : Int) < (y.length : Int)) = p2 := by rw [← t2, decide_eq_decide]; omega
      cases p1 <;> cases p2
      all_goals
        go_wp2_with fail
        refine (ctuple_val A B _ _ ka kb a b _ _ rfl rfl ha hb (TA.out _ bwr) (TB.out _ bwr) FA.out FB.out HN.out).mono ?_
        rintro e w7 ⟨rfl, b7'⟩
        have bw7 := bwr.trans (b7'.mono bwr.size)
        clear b7'
        go_wp2_with fail
        go_ret
        exact ⟨by first | rfl | simp, bw7⟩
end Go.Proofs.YtagibdofpcbgiaaDoor.valueByteOrder
