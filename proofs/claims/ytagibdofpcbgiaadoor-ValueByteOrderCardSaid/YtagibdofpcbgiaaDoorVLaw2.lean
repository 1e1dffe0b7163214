/- The plain laws of values as bytes. -/
import Derived.Test.YtagibdofpcbgiaaDoorVLaw
namespace Go.Proofs.YtagibdofpcbgiaaDoor
set_option linter.unusedVariables false
set_option linter.unusedSimpArgs false
theorem letter_pos {c : UInt8} (h : Vx.letterB c = true) : c ≠ 0 := by
  rintro rfl; revert h; decide
theorem valid_sym {v : Vx.V} (h : Vx.valid v = true) (ht : ¬ v.t = 1) : v.t = 2 ∧ v.n = 0 ∧ ∀ c ∈ v.s, c ≠ 0 := by
  unfold Vx.valid at h
  rw [if_neg ht] at h
  simp only [Bool.and_eq_true, decide_eq_true_eq] at h
  refine ⟨h.1.1, h.1.2, fun c hc => ?_⟩
  have hs := h.2
  unfold Vx.symbol at hs
  simp only [Bool.and_eq_true] at hs
  exact letter_pos (List.all_eq_true.1 hs.1.2 c hc)
theorem valid_num {v : Vx.V} (h : Vx.valid v = true) (ht : v.t = 1) : v.s = [] := by
  unfold Vx.valid at h; rw [if_pos ht] at h; simp at h; exact h.2
theorem takeWhile_zero (s r : List UInt8) (h : ∀ c ∈ s, c ≠ 0) : (s ++ 0 :: r).takeWhile (fun x => x != 0) = s ∧ (s ++ 0 :: r).dropWhile (fun x => x != 0) = 0 :: r := by
  induction s with
  | nil => exact ⟨rfl, rfl⟩
  | cons c s ih =>
    have hc : (c != 0) = true := by simpa using h c (by simp)
    have := ih (fun x hx => h x (List.mem_cons_of_mem _ hx))
    rw [List.cons_append, List.takeWhile_cons, if_pos hc, List.dropWhile_cons, if_pos hc, this.1, this.2]
    exact ⟨rfl, rfl⟩
theorem take1_enc {v : Vx.V} (h : Vx.valid v = true) (r : List UInt8) : ∃ c q, Vx.encV v ++ r = c :: q ∧ Vx.take1 (c :: q) = (v, r) := by
  obtain ⟨t, n, s⟩ := v
  by_cases ht : t = 1
  · have hn := valid_int h ht
    have hs := valid_num h ht
    simp only at hs
    subst hs; subst ht
    refine ⟨1, UInt8.ofNat (n.toNat / 256) :: UInt8.ofNat (n.toNat % 256) :: r, rfl, ?_⟩
    simp only [Vx.take1]
    rw [if_pos ⟨trivial, by simp⟩]
    simp only [List.getD_cons_zero, List.getD_cons_succ, UInt8.toNat_ofNat', List.drop_succ_cons, List.drop_zero]
    rw [Nat.mod_eq_of_lt (show n.toNat / 256 < 2 ^ 8 by omega), Nat.mod_eq_of_lt (show n.toNat % 256 < 2 ^ 8 by omega), show ((256 * (n.toNat / 256) + n.toNat % 256 : Nat) : Int) = n by omega]
  · obtain ⟨h2, h0, hz⟩ := valid_sym h ht
    simp only at h2 h0 hz
    subst h2; subst h0
    refine ⟨2, s ++ 0 :: r, by simp [Vx.encV], ?_⟩
    obtain ⟨e1, e2⟩ := takeWhile_zero s r hz
    simp only [Vx.take1]
    rw [if_neg (fun h => absurd h.1 (by decide)), if_pos ⟨trivial, by simp⟩, e1, e2]
    rfl
theorem decode_enc {v : Vx.V} (h : Vx.valid v = true) (r : List UInt8) : Vx.decode (Vx.encV v ++ r) = (Vx.decode r).map (fun l => v :: l) := by
  obtain ⟨c, q, e, ht⟩ := take1_enc h r
  rw [e, Vx.decode_cons, ht]
  simp only [h, if_true]
/-- Decode inverts Encode on well-formed tuples. -/
theorem decode_encode {l : List Vx.V} (h : l.all Vx.valid = true) : Vx.decode (Vx.encode l) = some l := by
  unfold Vx.encode
  rw [if_pos h]
  induction l with
  | nil => rfl
  | cons v l ih =>
    simp only [List.all_cons, Bool.and_eq_true] at h
    rw [List.flatMap_cons, decode_enc h.1, ih h.2]; rfl
theorem enc_take1 {c : UInt8} {r : List UInt8} (h : Vx.valid (Vx.take1 (c :: r)).1 = true) : Vx.encV (Vx.take1 (c :: r)).1 ++ (Vx.take1 (c :: r)).2 = c :: r := by
  simp only [Vx.take1] at h ⊢
  split at h
  · rename_i hc
    rw [if_pos hc]
    obtain ⟨rfl, h2⟩ := hc
    match r, h2 with
    | a :: b :: q, _ =>
      simp only [List.getD_cons_zero, List.getD_cons_succ, List.drop_succ_cons, List.drop_zero, Vx.encV, if_true]
      have h1 := a.toNat_lt
      have h2 := b.toNat_lt
      rw [Int.toNat_natCast, show (256 * a.toNat + b.toNat) / 256 = a.toNat by omega, show (256 * a.toNat + b.toNat) % 256 = b.toNat by omega]
      simp
  · rename_i hc
    rw [if_neg hc]
    split at h
    · rename_i hc2
      rw [if_pos hc2]
      obtain ⟨rfl, h2⟩ := hc2
      simp only [Vx.encV]
      rw [if_neg (by decide)]
      obtain ⟨q, hq⟩ : ∃ q, r.dropWhile (fun x => x != 0) = 0 :: q := by
        clear h hc
        induction r with
        | nil => simp at h2
        | cons x r ih =>
          rw [List.dropWhile_cons]
          split
          · rename_i hx
            refine ih ?_
            rcases List.mem_cons.1 h2 with e | e
            · rw [← e] at hx; simp at hx
            · exact e
          · rename_i hx
            have : x = 0 := by simpa using hx
            exact ⟨r, by rw [this]⟩
      have e := List.takeWhile_append_dropWhile (p := fun x : UInt8 => x != 0) (l := r)
      rw [hq] at e ⊢
      simp only [List.drop_succ_cons, List.drop_zero, List.cons_append, List.append_assoc, List.nil_append]
      rw [e]
    · exact absurd (show Vx.valid ⟨0, 0, []⟩ = true from h) (by decide)
theorem encF_dec : ∀ (f : Nat) (b : List UInt8) (l : List Vx.V), b.length ≤ f → Vx.decF f b = some l → l.flatMap Vx.encV = b
  | 0, b, l, hl, h => by
    have : b = [] := List.length_eq_zero_iff.1 (by omega)
    subst this
    simp [Vx.decF] at h; subst h; rfl
  | f + 1, [], l, _, h => by simp [Vx.decF] at h; subst h; rfl
  | f + 1, c :: r, l, hl, h => by
    simp only [Vx.decF] at h
    split at h
    · rename_i hv
      rw [Option.map_eq_some_iff] at h
      obtain ⟨l', h', rfl⟩ := h
      have h1 := Vx.take1_len c r
      simp only [List.length_cons] at hl
      rw [List.flatMap_cons, encF_dec f _ l' (by omega) h']
      exact enc_take1 hv
    · cases h
/-- Bytes that are decoded are those of the result. -/
theorem encode_decode {b : List UInt8} {l : List Vx.V} (h : Vx.decode b = some l) : l.all Vx.valid = true ∧ Vx.encode l = b := by
  have hv := decF_valid _ _ _ h
  refine ⟨hv, ?_⟩
  unfold Vx.encode
  rw [if_pos hv]
  exact encF_dec _ _ _ (Nat.le_refl _) h
theorem encode_app {a b : List Vx.V} (ha : a.all Vx.valid = true) (hb : b.all Vx.valid = true) : Vx.encode (a ++ b) = Vx.encode a ++ Vx.encode b := by
  unfold Vx.encode
  rw [if_pos ha, if_pos hb, if_pos (by rw [List.all_append, ha, hb]; rfl), List.flatMap_append]
/-! ### The order of bytes -/
theorem cmpI_lt {a b : Int} (h : a < b) : Vx.cmpI a b = -1 := by unfold Vx.cmpI; rw [if_pos h]
theorem cmpI_gt {a b : Int} (h : b < a) : Vx.cmpI a b = 1 := by unfold Vx.cmpI; rw [if_neg (by omega), if_pos h]
theorem cmpI_lex (a b X : Int) : (if Vx.cmpI (a / 256) (b / 256) = 0 then (if Vx.cmpI (a % 256) (b % 256) = 0 then X else Vx.cmpI (a % 256) (b % 256)) else Vx.cmpI (a / 256) (b / 256)) = if Vx.cmpI a b = 0 then X else Vx.cmpI a b := by
  rcases Int.lt_trichotomy (a / 256) (b / 256) with h | h | h
  · rw [cmpI_lt h, cmpI_lt (show a < b by omega)]; rfl
  · rw [if_pos (cmpI_zero.2 h)]
    rcases Int.lt_trichotomy (a % 256) (b % 256) with h2 | h2 | h2
    · rw [cmpI_lt h2, cmpI_lt (show a < b by omega)]
    · rw [if_pos (cmpI_zero.2 h2), if_pos (cmpI_zero.2 (show a = b by omega))]
    · rw [cmpI_gt h2, cmpI_gt (show b < a by omega)]
  · rw [cmpI_gt h, cmpI_gt (show b < a by omega)]; rfl
theorem sym_order (s s' r r' : List UInt8) (h : ∀ c ∈ s, c ≠ 0) (h' : ∀ c ∈ s', c ≠ 0) : Vx.cmpB (s ++ 0 :: r) (s' ++ 0 :: r') = if Vx.cmpB s s' = 0 then Vx.cmpB r r' else Vx.cmpB s s' := by
  have pos : ∀ c : UInt8, c ≠ 0 → 0 < c.toNat := fun c hc => by
    rcases Nat.eq_zero_or_pos c.toNat with e | e
    · exact absurd (UInt8.toNat_inj.1 e) hc
    · exact e
  induction s generalizing s' with
  | nil =>
    cases s' with
    | nil => simp [Vx.cmpB, Vx.cmpL, Vx.cmpC, Vx.cmpI]
    | cons y s' =>
      have := pos y (h' y (by simp))
      have e : Vx.cmpC 0 y = -1 := by
        unfold Vx.cmpC Vx.cmpI
        rw [if_pos (by have e0 : (0 : UInt8).toNat = 0 := rfl
                       omega)]
      simp only [Vx.cmpB, List.nil_append, List.cons_append, Vx.cmpL, e]
      simp
  | cons x s ih =>
    cases s' with
    | nil =>
      have := pos x (h x (by simp))
      have e : Vx.cmpC x 0 = 1 := by
        unfold Vx.cmpC Vx.cmpI
        have e0 : (0 : UInt8).toNat = 0 := rfl
        rw [if_neg (by omega), if_pos (by omega)]
      simp only [Vx.cmpB, List.nil_append, List.cons_append, Vx.cmpL, e]
      simp
    | cons y s' =>
      have := ih s' (fun c hc => h c (List.mem_cons_of_mem _ hc)) (fun c hc => h' c (List.mem_cons_of_mem _ hc))
      simp only [Vx.cmpB, List.cons_append, Vx.cmpL] at this ⊢
      by_cases e : Vx.cmpC x y = 0
      · simp only [e, if_true]; exact this
      · simp only [e, if_false]
theorem ofNat_toNat {n : Nat} (h : n < 256) : (UInt8.ofNat n).toNat = n := by rw [UInt8.toNat_ofNat']; omega
theorem enc_order {a b : Vx.V} (ha : Vx.valid a = true) (hb : Vx.valid b = true) (r r' : List UInt8) : Vx.cmpB (Vx.encV a ++ r) (Vx.encV b ++ r') = if Vx.cmpV a b = 0 then Vx.cmpB r r' else Vx.cmpV a b := by
  by_cases ta : a.t = 1
  · have na := valid_int (t := a.t) (n := a.n) (l := a.s) ha ta
    have sa := valid_num ha ta
    by_cases tb : b.t = 1
    · have nb := valid_int (t := b.t) (n := b.n) (l := b.s) hb tb
      have sb := valid_num hb tb
      have e : Vx.cmpV a b = Vx.cmpI a.n b.n := by
        unfold Vx.cmpV
        rw [sa, sb, ta, tb, if_pos (cmpI_zero.2 rfl)]
        split
        · rename_i h; rw [h]; rfl
        · rfl
      rw [e]
      unfold Vx.encV
      rw [if_pos ta, if_pos tb]
      have c0 : Vx.cmpC 1 1 = 0 := rfl
      have c1 : Vx.cmpC (UInt8.ofNat (a.n.toNat / 256)) (UInt8.ofNat (b.n.toNat / 256)) = Vx.cmpI (a.n / 256) (b.n / 256) := by
        unfold Vx.cmpC; rw [ofNat_toNat (by omega), ofNat_toNat (by omega), show ((a.n.toNat / 256 : Nat) : Int) = a.n / 256 by omega, show ((b.n.toNat / 256 : Nat) : Int) = b.n / 256 by omega]
      have c2 : Vx.cmpC (UInt8.ofNat (a.n.toNat % 256)) (UInt8.ofNat (b.n.toNat % 256)) = Vx.cmpI (a.n % 256) (b.n % 256) := by
        unfold Vx.cmpC; rw [ofNat_toNat (by omega), ofNat_toNat (by omega), show ((a.n.toNat % 256 : Nat) : Int) = a.n % 256 by omega, show ((b.n.toNat % 256 : Nat) : Int) = b.n % 256 by omega]
      simp only [Vx.cmpB, List.cons_append, List.nil_append, Vx.cmpL, c0, if_true, c1, c2]
      exact cmpI_lex a.n b.n _
    · obtain ⟨h2, _, _⟩ := valid_sym hb tb
      rw [cmp_int_sym ta h2]
      unfold Vx.encV
      rw [if_pos ta, if_neg tb]
      rfl
  · obtain ⟨h2, h0, hz⟩ := valid_sym ha ta
    by_cases tb : b.t = 1
    · have e : Vx.cmpV a b = 1 := by
        have := cmpV_cmp.anti b a
        rw [cmp_int_sym tb h2] at this; omega
      rw [e]
      unfold Vx.encV
      rw [if_neg ta, if_pos tb]
      rfl
    · obtain ⟨h2', h0', hz'⟩ := valid_sym hb tb
      have e : Vx.cmpV a b = Vx.cmpB a.s b.s := by
        unfold Vx.cmpV
        rw [h2, h2', h0, h0', if_pos (cmpI_zero.2 rfl), if_pos (cmpI_zero.2 rfl)]
      rw [e]
      unfold Vx.encV
      rw [if_neg ta, if_neg tb]
      have := sym_order a.s b.s r r' hz hz'
      simp only [List.cons_append, List.append_assoc, List.nil_append]
      rw [← this]
      have c0 : Vx.cmpC 2 2 = 0 := rfl
      simp only [Vx.cmpB, Vx.cmpL, c0, if_true]
/-- The order of well-formed tuples is that of their bytes. -/
theorem byte_order {a b : List Vx.V} (ha : a.all Vx.valid = true) (hb : b.all Vx.valid = true) : Vx.cmpB (Vx.encode a) (Vx.encode b) = Vx.cmpT a b := by
  have hpos : ∀ v : Vx.V, ∃ c q, Vx.encV v = c :: q := fun v => by
    unfold Vx.encV; split <;> exact ⟨_, _, rfl⟩
  unfold Vx.encode
  rw [if_pos ha, if_pos hb]
  induction a generalizing b with
  | nil =>
    cases b with
    | nil => rfl
    | cons y b =>
      obtain ⟨c, q, e⟩ := hpos y
      rw [List.flatMap_cons, e]; rfl
  | cons x a ih =>
    cases b with
    | nil =>
      obtain ⟨c, q, e⟩ := hpos x
      rw [List.flatMap_cons, e]; rfl
    | cons y b =>
      simp only [List.all_cons, Bool.and_eq_true] at ha hb
      rw [List.flatMap_cons, List.flatMap_cons, enc_order ha.1 hb.1, ih ha.2 hb.2]
      rfl
end Go.Proofs.YtagibdofpcbgiaaDoor
