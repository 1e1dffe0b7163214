/- The walks of the reference's Sym, Int, digits, Text and Parse, and of the law's short. -/
import Derived.Test.YtagibdofpcbgiaaDoorVRef
namespace Go.Proofs.YtagibdofpcbgiaaDoor
set_option linter.unusedVariables false
set_option linter.unusedSimpArgs false
open Go.RowKit Go.Shelf
theorem sym_any (s : ByteArray) (w : World) : Calls Tryd.prog 29 #[.string s] w fun e w' => e = .returned (.agg #[.int .i64 2, .int .i64 0, .string s]) ∧ Below w.heap.size w w' := by
  go_enter Tryd.func29, Tryd.ntmps29
  go_wp2
  exact bodyPost_ret (results_cell_row rfl _ _ w.heap.size 23 _ (0, 0) _ rfl (At.new _ _ _) Tryd.underlying23 rfl (by kernel_rfl)) rfl ⟨rfl, below1 _ _⟩
theorem int_any (n : Int) (w : World) : Calls Tryd.prog 30 #[.int .i64 n] w fun e w' => e = .returned (.agg #[.int .i64 1, .int .i64 n, .string ⟨#[]⟩]) ∧ Below w.heap.size w w' := by
  go_enter Tryd.func30, Tryd.ntmps30
  go_wp2
  exact bodyPost_ret (results_cell_row rfl _ _ w.heap.size 23 _ (0, 0) _ rfl (At.new _ _ _) Tryd.underlying23 rfl (by kernel_rfl)) rfl ⟨rfl, below1 _ _⟩
/-- Whether a tuple and its strings are short. -/
def shortB (l : List Vx.V) : Bool := decide (l.length ≤ 2000) && l.all (fun v => decide (v.s.length ≤ 2000))
set_option maxHeartbeats 1000000 in
theorem short_any (A : Option Addr) (c : Nat) (xs : List Vx.V) (w : World) (hx : xs.length ≤ 281474976710656) (hA : Tup w A xs) (fx : Fits xs) :
    Calls Tryd.prog 10 #[.slice A xs.length c] w fun e w' => e = .returned (.bool (shortB xs)) ∧ w = w' := by
  by_cases h0 : 2000 < xs.length
  · have d0 : decide ((2000 : Int) < (xs.length : Int)) = true := by simp; omega
    have hE := Lib.hid (show shortB xs = false by unfold shortB; rw [show decide (xs.length ≤ 2000) = false by simp; omega]; rfl)
    go_enter Tryd.func10, Tryd.ntmps10
    go_wp2
    go_ret
    exact ⟨by rw [hE.out]; rfl, rfl⟩
  · have d0 : decide ((2000 : Int) < (xs.length : Int)) = false := by simp; omega
    have hE0 : shortB xs = (xs.drop 0).all (fun v => decide (v.s.length ≤ 2000)) := by unfold shortB; rw [show decide (xs.length ≤ 2000) = true by simp; omega]; simp
    obtain ⟨N, hN⟩ : ∃ N, N = shortB xs := ⟨_, rfl⟩
    rw [← hN] at hE0 ⊢
    have HN := Lib.hid hE0
    clear hN hE0
    go_enter Tryd.func10, Tryd.ntmps10
    go_wp2
    go_loop [3] (fun i => ∃ k : Nat, k ≤ xs.length ∧ Hid (N = (xs.drop k).all (fun v => decide (v.s.length ≤ 2000))) ∧ i = .int .i64 k) (fun i => xs.length - (intOf i).toNat)
    case atStart => exact ⟨0, by omega, HN, rfl⟩
    case round =>
      obtain ⟨k, hka, HK, rfl⟩ := hrel
      by_cases h1 : k < xs.length
      · have d1 : decide ((k : Int) < (xs.length : Int)) = true := by simp; omega
        obtain ⟨g, o, rfl, hg, a0, a1, a2⟩ := hA.at h1
        have e1 := List.getElem?_eq_getElem h1
        have F1 := fx _ (List.getElem_mem h1)
        generalize xs[k] = x at *
        have hE := Lib.hid (drop_all HK.out e1)
        have hss : (⟨x.s.toArray⟩ : ByteArray).size = x.s.length := size_mk _
        generalize hs : (⟨x.s.toArray⟩ : ByteArray) = S at *
        have HSS := Lib.hid hss
        clear e1 hs
        by_cases hv : 2000 < S.size
        · have d2 : decide ((2000 : Int) < (S.size : Int)) = true := by simp; omega
          have hX : decide (x.s.length ≤ 2000) = false := by simp; have := HSS.out; omega
          have HX := Lib.hid hX
          clear hX hss
          go_wp2
          go_ret
          exact ⟨by rw [hE.out, HX.out]; rfl, rfl⟩
        · have d2 : decide ((2000 : Int) < (S.size : Int)) = false := by simp; omega
          have hX : decide (x.s.length ≤ 2000) = true := by simp; have := HSS.out; omega
          have HX := Lib.hid hX
          clear hX hss
          go_wp2
          go_round
          case rel => exact ⟨k + 1, by omega, Lib.hid (by rw [hE.out, HX.out]; rfl), by go_num⟩
          case measure => simp [intOf]; omega
      · have d1 : decide ((k : Int) < (xs.length : Int)) = false := by simp; omega
        have hE := Lib.hid (show N = true by rw [HK.out, List.drop_eq_nil_of_le (by omega)]; rfl)
        go_wp2
        go_ret
        exact ⟨by rw [hE.out]; rfl, rfl⟩
/-- One digit. -/
def dig1 (z : Int) : ByteArray := ⟨#[UInt8.ofNat z.toNat]⟩
theorem dig1_size (z : Int) : (dig1 z).size ≤ 1 := Nat.le_refl _
/-- The digits of a number. -/
def decS (n : Int) : ByteArray := ⟨(Lib.decDigits n.toNat).toArray⟩
theorem decS_size (n : Int) (h : n ≤ 9999) : (decS n).size ≤ 4 := by
  unfold decS
  rw [size_mk, dec_shape _ (by omega)]
  split
  · simp
  · split
    · simp
    · split <;> simp
theorem decS_more (n : Int) (h0 : 0 ≤ n) (h : ¬ n < 10) : decS n = decS (n / 10) ++ dig1 (48 + n % 10) := by
  unfold decS dig1
  apply ByteArray.ext
  rw [ByteArray.data_append, Lib.decDigits, dif_neg (by omega), show (48 + n % 10).toNat = 48 + n.toNat % 10 by omega, show (n / 10).toNat = n.toNat / 10 by omega]
  simp
theorem decS_one (n : Int) (h0 : 0 ≤ n) (h : n < 10) : decS n = dig1 (48 + n) := by
  unfold decS dig1
  rw [Lib.decDigits, dif_pos (by omega), show (48 + n).toNat = 48 + n.toNat by omega]
theorem conv1 (w : World) (g c : Nat) (z : Int) (h : At w g 5 #[.int .u8 z]) (hz : 0 ≤ z) (hz2 : z < 256) :
    (convert 25 9 (.slice (some ⟨g, 0, none⟩) 1 c)).run Tryd.prog w = .ok (.string (dig1 z)) w := by
  refine str_of w g 0 c [UInt8.ofNat z.toNat] (fun k x hx => ?_)
  have hk : k = 0 := by
    rcases Nat.eq_zero_or_pos k with h | h
    · exact h
    · rw [List.getElem?_eq_none (by simp; omega)] at hx; cases hx
  subst hk
  simp at hx
  subst hx
  rw [h.cell]
  simp
  omega
set_option maxHeartbeats 1000000 in
set_option maxRecDepth 100000 in
theorem digits_any (f : Nat) : ∀ (n : Int) (w : World), n < 10 ^ (f + 1) → 0 ≤ n → n ≤ 9999 →
    Calls Tryd.prog 41 #[.int .i64 n] w fun e w' => e = .returned (.string (decS n)) ∧ Below w.heap.size w w' := by
  induction f with
  | zero =>
    intro n w h1 h0 _
    have d1 : decide (n < 10) = true := by simp; omega
    have hE := Lib.hid (decS_one n h0 (by omega))
    have hc := conv1 (w.alloc (.cells #[.int .u8 (48 + n)] 5)) w.heap.size 1 (48 + n) (At.new _ _ _) (by omega) (by omega)
    go_enter Tryd.func41, Tryd.ntmps41
    go_wp2
    go_ret
    exact ⟨by rw [hE.out]; rfl, below1 _ _⟩
  | succ f ih =>
    intro n w h1 h0 h2
    by_cases h3 : n < 10
    · have d1 : decide (n < 10) = true := by simp; omega
      have hE := Lib.hid (decS_one n h0 (by omega))
      have hc := conv1 (w.alloc (.cells #[.int .u8 (48 + n)] 5)) w.heap.size 1 (48 + n) (At.new _ _ _) (by omega) (by omega)
      go_enter Tryd.func41, Tryd.ntmps41
      go_wp2
      go_ret
      exact ⟨by rw [hE.out]; rfl, below1 _ _⟩
    · have d1 : decide (n < 10) = false := by simp; omega
      have h5 : n / 10 < 10 ^ (f + 1) := by
        have e : (10 : Int) ^ (f + 1 + 1) = 10 * 10 ^ (f + 1) := by rw [Int.pow_succ]; omega
        rw [e] at h1
        generalize (10 : Int) ^ (f + 1) = m at *
        omega
      have h6 : 0 ≤ n / 10 ∧ n / 10 ≤ 9999 := by clear h5 h1 ih; omega
      have IH := Lib.hid (fun W => ih (n / 10) W h5 h6.1 h6.2)
      clear ih h5 h1
      have hE := Lib.hid (decS_more n h0 h3)
      have z1 := decS_size (n / 10) (by omega)
      have z2 := dig1_size (48 + n % 10)
      have hlo : 0 ≤ 48 + n % 10 ∧ 48 + n % 10 < 256 := by omega
      have q1 : IntKind.i64.wrap (n.tdiv 10) = n / 10 := by rw [Int.tdiv_eq_ediv_of_nonneg h0]; exact IntWalk.i64_in _ (by omega)
      have q2 : n.tmod 10 = n % 10 := Int.tmod_eq_emod_of_nonneg h0
      have q3 : IntKind.i64.wrap (48 + n % 10) = 48 + n % 10 := IntWalk.i64_in _ (by omega)
      have q4 : IntKind.u8.wrap (48 + n % 10) = 48 + n % 10 := by show (48 + n % 10) % 256 = _; omega
      have hc0 := conv1 (w.alloc (.cells #[.int .u8 (48 + n % 10)] 5)).drew w.heap.size 1 (48 + n % 10) (At.drew (At.new _ _ _)) hlo.1 hlo.2
      go_enter Tryd.func41, Tryd.ntmps41
      go_wp2_with fail
      go_region_with (first | (go_at_call 41; refine (IH.out _).mono ?_; rintro e w' ⟨rfl, hb⟩
                               have hc1 := conv1 (w'.alloc (.cells #[.int .u8 (48 + n % 10)] 5)) w'.heap.size 1 (48 + n % 10) (At.new _ _ _) hlo.1 hlo.2
                               first | have hc2 := conv1 w' w.heap.size 1 (48 + n % 10) ((At.drew (At.new w _ _)).below hb (by simp)) hlo.1 hlo.2 | skip))
      all_goals
        go_wp2
        go_ret
        first
          | exact ⟨by rw [hE.out]; rfl, (((Below.refl w.heap.size w).drew).trans hb).alloc hb.size _⟩
          | exact ⟨by rw [hE.out]; rfl, (((Below.refl w.heap.size w).alloc (Nat.le_refl _) _).drew).trans (hb.mono (by simp))⟩
set_option maxHeartbeats 1000000 in
theorem rtext_any (t n : Int) (s : ByteArray) (w : World) (hs : s.size ≤ 281474976710656) :
    Calls Tryd.prog 18 #[.agg #[.int .i64 t, .int .i64 n, .string s]] w fun e w' => e = .returned (.string ⟨(Vx.text ⟨t, n, s.data.toList⟩).toArray⟩) ∧ Below w.heap.size w w' := by
  have cell : ∀ w', Below (w.alloc (.cells #[.int .i64 t, .int .i64 n, .string s] 23)).heap.size (w.alloc (.cells #[.int .i64 t, .int .i64 n, .string s] 23)) w' → At w' w.heap.size 23 #[.int .i64 t, .int .i64 n, .string s] := fun w' hb => (At.new w _ _).below hb (by simp)
  cases h1 : Vx.valid ⟨t, n, s.data.toList⟩
  · have hE := Lib.hid (show Vx.text ⟨t, n, s.data.toList⟩ = [] by unfold Vx.text; rw [h1]; rfl)
    have H1 := Lib.hid h1
    clear h1
    go_enter Tryd.func18, Tryd.ntmps18
    go_wp2_with (go_at_call 12; refine (rvalid_any _ _ _ _ hs).mono ?_; rintro e w' ⟨rfl, hb⟩; rw [H1.out])
    go_ret
    exact ⟨by rw [hE.out]; rfl, (below1 w _).trans (hb.mono (below1 w _).size)⟩
  · by_cases h2 : t = 1
    · have hn := valid_int h1 h2
      have hE := Lib.hid (show (⟨(Vx.text ⟨t, n, s.data.toList⟩).toArray⟩ : ByteArray) = decS n by unfold Vx.text decS; rw [if_pos h1, if_pos h2, itoa_dec _ hn.1])
      have H1 := Lib.hid h1
      have d2 : (t == 1) = true := beq_iff_eq.2 h2
      have h5 : n < 10 ^ (3 + 1) := by omega
      have H5 := Lib.hid h5
      clear h1 h2 h5
      go_enter Tryd.func18, Tryd.ntmps18
      go_wp2_with (first
        | (go_at_call 12; refine (rvalid_any _ _ _ _ hs).mono ?_; rintro e w' ⟨rfl, hb⟩; rw [H1.out]
           have a0 := (cell _ hb).cell 0; have a1 := (cell _ hb).cell 1; have a2 := (cell _ hb).cell 2; simp at a0 a1 a2)
        | (go_at_call 41; refine (digits_any 3 _ _ H5.out hn.1 hn.2).mono ?_; rintro e w' ⟨rfl, hb2⟩))
      go_ret
      exact ⟨by rw [hE.out]; rfl, ((below1 w _).trans (hb.mono (below1 w _).size)).trans (hb2.mono (Nat.le_trans (below1 w _).size hb.size))⟩
    · have hE := Lib.hid (show Vx.text ⟨t, n, s.data.toList⟩ = s.data.toList by unfold Vx.text; rw [if_pos h1, if_neg h2])
      have H1 := Lib.hid h1
      have d2 : (t == 1) = false := beq_eq_false_iff_ne.2 h2
      clear h1 h2
      go_enter Tryd.func18, Tryd.ntmps18
      go_wp2_with (first
        | (go_at_call 12; refine (rvalid_any _ _ _ _ hs).mono ?_; rintro e w' ⟨rfl, hb⟩; rw [H1.out]
           have a0 := (cell _ hb).cell 0; have a1 := (cell _ hb).cell 1; have a2 := (cell _ hb).cell 2; simp at a0 a1 a2))
      go_ret
      exact ⟨by rw [hE.out]; simp [str_mk], (below1 w _).trans (hb.mono (below1 w _).size)⟩
/-- A number of k digits. -/
def Lim (k n : Nat) : Prop := (k = 0 ∧ n = 0) ∨ (k = 1 ∧ n ≤ 9) ∨ (k = 2 ∧ n ≤ 99) ∨ (k = 3 ∧ n ≤ 999) ∨ (k = 4 ∧ n ≤ 9999)
theorem Lim.more {k n d : Nat} (h : Lim k n) (hk : k < 4) (hd : d ≤ 9) : Lim (k + 1) (10 * n + d) := by
  unfold Lim at *; omega
theorem Lim.le {k n : Nat} (h : Lim k n) : n ≤ 9999 := by
  unfold Lim at *; omega
theorem Lim.le3 {k n : Nat} (h : Lim k n) (hk : k < 4) : n ≤ 999 := by
  unfold Lim at *; omega
def numF (n : Nat) (c : UInt8) : Nat := 10 * n + (c.toNat - 48)
theorem digit_split (c : UInt8) : Vx.digitB c = (!decide ((c.toNat : Int) < 48) && !decide ((57 : Int) < (c.toNat : Int))) := by
  unfold Vx.digitB
  rw [Bool.eq_iff_iff]
  simp only [Bool.and_eq_true, Bool.not_eq_true', decide_eq_true_eq, decide_eq_false_iff_not]
  omega
/-- What is left of a number, k bytes of which are read. -/
def NumAt (l : List UInt8) (k n : Nat) : Prop := Vx.num l = if (l.drop k).all Vx.digitB = true then some ((l.drop k).foldl numF n) else none
theorem NumAt.start {l : List UInt8} (h1 : 1 ≤ l.length) (h2 : l.length ≤ 4) (h3 : l.head? ≠ some 48 ∨ l.length = 1) : NumAt l 0 0 := by
  unfold NumAt Vx.num
  rw [List.drop_zero]
  by_cases h : l.all Vx.digitB = true
  · rw [if_pos ⟨h1, h2, h3, h⟩, if_pos h]; rfl
  · rw [if_neg (fun x => h x.2.2.2), if_neg h]
theorem NumAt.stop {l : List UInt8} {k n : Nat} {c : UInt8} (h : NumAt l k n) (hc : l[k]? = some c) (hd : Vx.digitB c = false) : Vx.num l = none := by
  obtain ⟨hk, rfl⟩ := List.getElem?_eq_some_iff.1 hc
  unfold NumAt at h
  rw [h, List.drop_eq_getElem_cons hk, List.all_cons, hd]; rfl
theorem NumAt.more {l : List UInt8} {k n : Nat} {c : UInt8} (h : NumAt l k n) (hc : l[k]? = some c) (hd : Vx.digitB c = true) : NumAt l (k + 1) (numF n c) := by
  obtain ⟨hk, rfl⟩ := List.getElem?_eq_some_iff.1 hc
  unfold NumAt at h ⊢
  rw [h, List.drop_eq_getElem_cons hk, List.all_cons, hd]; rfl
theorem NumAt.done {l : List UInt8} {n : Nat} (h : NumAt l l.length n) : Vx.num l = some n := by
  unfold NumAt at h
  rw [h, List.drop_length]; rfl
theorem num_no {l : List UInt8} (h : l.length < 1 ∨ 4 < l.length ∨ (l.head? = some 48 ∧ 1 < l.length)) : Vx.num l = none := by
  unfold Vx.num
  rw [if_neg]
  rintro ⟨h1, h2, h3, _⟩
  rcases h with h | h | ⟨h, h'⟩
  · omega
  · omega
  · rcases h3 with h3 | h3
    · exact h3 h
    · omega
set_option maxHeartbeats 2000000 in
set_option maxRecDepth 100000 in
theorem rparse_any (s : ByteArray) (w : World) (hs : s.size ≤ 281474976710656) :
    Calls Tryd.prog 20 #[.string s] w fun e w' => e = .returned (.tuple #[.agg #[.int .i64 (Vx.parse s.data.toList).1.t, .int .i64 (Vx.parse s.data.toList).1.n, .string ⟨(Vx.parse s.data.toList).1.s.toArray⟩], .int .i64 (Vx.parse s.data.toList).2]) ∧ Below w.heap.size w w' := by
  cases h1 : Vx.symbol s.data.toList
  · have H1 := Lib.hid h1
    have hno := fun (hn : Vx.num s.data.toList = none) => (show Vx.parse s.data.toList = (⟨0, 0, []⟩, 270) by unfold Vx.parse; rw [h1, hn]; rfl)
    have hyes := fun (n : Nat) (hn : Vx.num s.data.toList = some n) => (show Vx.parse s.data.toList = (⟨1, n, []⟩, 0) by unfold Vx.parse; rw [h1, hn]; rfl)
    have HNO := Lib.hid hno
    have HYES := Lib.hid hyes
    clear hno hyes h1
    by_cases hbad : s.size < 1 ∨ 4 < s.size ∨ (s.data.toList.head? = some 48 ∧ 1 < s.size)
    · have hE := Lib.hid (HNO.out (num_no (by rw [size_len]; exact hbad)))
      have tests : ∃ b1 b2 b3 b4 : Bool, decide ((s.size : Int) < 1) = b1 ∧ decide ((4 : Int) < (s.size : Int)) = b2 ∧ (b1 = false → ∀ h : 0 < s.size, ((s[0].toNat : Int) == 48) = b3) ∧ decide ((1 : Int) < (s.size : Int)) = b4 ∧ (b1 || b2 || (b3 && b4)) = true := by
        by_cases h0 : 0 < s.size
        · refine ⟨_, _, ((s[0].toNat : Int) == 48), _, rfl, rfl, fun _ _ => rfl, rfl, ?_⟩
          simp only [Bool.or_eq_true, Bool.and_eq_true, decide_eq_true_eq, beq_iff_eq]
          rcases hbad with h | h | ⟨h, h'⟩
          · omega
          · omega
          · right
            have := drop_cons s 0 h0
            rw [List.drop_zero] at this
            rw [this] at h
            simp at h
            refine ⟨?_, by omega⟩
            rw [h]; rfl
        · exact ⟨true, _, false, _, (by simp; omega), rfl, (fun h => by cases h), rfl, rfl⟩
      obtain ⟨b1, b2, b3, b4, t1, t2, t3, t4, t5⟩ := tests
      clear hbad
      cases b1
      · have hp : 0 < s.size := by simp at t1; omega
        have t3' := t3 rfl hp
        clear t3
        cases b2 <;> cases b3 <;> cases b4 <;> (try (exact absurd t5 (by decide)))
        all_goals
          clear t5
          go_enter Tryd.func20, Tryd.ntmps20
          go_wp2_with (fail)
          refine (rsymbol_any _ _ hs).mono ?_
          rintro e w1 ⟨rfl, hb⟩
          rw [H1.out]
          have hbelow : Below w.heap.size w w1 := (below1 w _).trans (hb.mono (below1 w _).size)
          have hA : At w1 w.heap.size 23 #[.int .i64 0, .int .i64 0, .string ⟨#[]⟩] := (At.new w _ _).below hb (by simp)
          have c0 := hA.cell 0; have c1 := hA.cell 1; have c2 := hA.cell 2
          have f0 := hA.frozen 0; have f1 := hA.frozen 1; have f2 := hA.frozen 2
          clear hb
          go_wp2_with (fail)
          refine bodyPost_ret (results_cell_row_tmp rfl _ _ w.heap.size 23 _ (0, 0) _ rfl (((hA.put 0 _).put 1 _).put 2 _) Tryd.underlying23 rfl (by kernel_rfl)) rfl ?_
          refine ⟨by rw [hE.out]; rfl, ?_⟩
          exact ((hbelow.setCell (by simp) _).setCell (by simp) _).setCell (by simp) _
      · clear t3 t5
        go_enter Tryd.func20, Tryd.ntmps20
        go_wp2_with (fail)
        refine (rsymbol_any _ _ hs).mono ?_
        rintro e w1 ⟨rfl, hb⟩
        rw [H1.out]
        have hbelow : Below w.heap.size w w1 := (below1 w _).trans (hb.mono (below1 w _).size)
        have hA : At w1 w.heap.size 23 #[.int .i64 0, .int .i64 0, .string ⟨#[]⟩] := (At.new w _ _).below hb (by simp)
        have c0 := hA.cell 0; have c1 := hA.cell 1; have c2 := hA.cell 2
        have f0 := hA.frozen 0; have f1 := hA.frozen 1; have f2 := hA.frozen 2
        clear hb
        go_wp2_with (fail)
        refine bodyPost_ret (results_cell_row_tmp rfl _ _ w.heap.size 23 _ (0, 0) _ rfl (((hA.put 0 _).put 1 _).put 2 _) Tryd.underlying23 rfl (by kernel_rfl)) rfl ?_
        refine ⟨by rw [hE.out]; rfl, ?_⟩
        exact ((hbelow.setCell (by simp) _).setCell (by simp) _).setCell (by simp) _
    · have hp : 0 < s.size := by omega
      have h4 : s.size ≤ 4 := by omega
      have t1 : decide ((s.size : Int) < 1) = false := by simp; omega
      have t2 : decide ((4 : Int) < (s.size : Int)) = false := by simp; omega
      have hh : s.data.toList.head? ≠ some 48 ∨ s.size = 1 := by
        by_cases h : s.data.toList.head? = some 48
        · right
          have : ¬ 1 < s.size := fun h' => hbad (Or.inr (Or.inr ⟨h, h'⟩))
          omega
        · exact Or.inl h
      have HS := Lib.hid (NumAt.start (l := s.data.toList) (by rw [size_len]; omega) (by rw [size_len]; omega) (by rw [size_len]; exact hh))
      have tests : ∃ b3 b4 : Bool, ((s[0].toNat : Int) == 48) = b3 ∧ decide ((1 : Int) < (s.size : Int)) = b4 ∧ (b3 && b4) = false := by
        refine ⟨_, _, rfl, rfl, ?_⟩
        rw [Bool.eq_false_iff]
        intro h
        simp only [Bool.and_eq_true, decide_eq_true_eq, beq_iff_eq] at h
        have := drop_cons s 0 hp
        rw [List.drop_zero] at this
        rw [this] at hh
        rcases hh with hh | hh
        · apply hh
          simp
          exact UInt8.toNat_inj.1 (by have : (48 : UInt8).toNat = 48 := rfl; omega)
        · omega
      obtain ⟨b3, b4, t3, t4, t5⟩ := tests
      clear hbad hh
      cases b3 <;> cases b4 <;> (try (exact absurd t5 (by decide)))
      all_goals
        clear t5
        go_enter Tryd.func20, Tryd.ntmps20
        go_wp2_with (fail)
        refine (rsymbol_any _ _ hs).mono ?_
        rintro e w1 ⟨rfl, hb⟩
        rw [H1.out]
        have hbelow : Below w.heap.size w w1 := (below1 w _).trans (hb.mono (below1 w _).size)
        have hA : At w1 w.heap.size 23 #[.int .i64 0, .int .i64 0, .string ⟨#[]⟩] := (At.new w _ _).below hb (by simp)
        have hlt := hA.lt
        clear hb
        go_wp2_with (fail)
        go_loop [5, 6] (fun n i => ∃ k m : Nat, k ≤ s.size ∧ Hid (NumAt s.data.toList k m) ∧ Hid (Lim k m) ∧ i = .int .i64 k ∧ n = .int .i64 m) (fun _ i => s.size - (intOf i).toNat)
        case atStart => exact ⟨0, 0, by omega, HS, Lib.hid (Or.inl ⟨rfl, rfl⟩), rfl, rfl⟩
        case round =>
          obtain ⟨k, m, hk, HK, HL, rfl, rfl⟩ := hrel
          by_cases hlt : k < s.size
          · have e1 : decide ((k : Int) < (s.size : Int)) = true := by simp; omega
            have hc := byte_get s k hlt
            have hds := digit_split s[k]
            have hm := HL.out.le3 (by omega)
            have hc2 := s[k].toNat_lt
            cases g1 : decide ((s[k].toNat : Int) < 48)
            · cases g2 : decide ((57 : Int) < (s[k].toNat : Int))
              · have hR := Lib.hid (HK.out.more hc (by rw [hds, g1, g2]; rfl))
                have k48 : 48 ≤ s[k].toNat := by simp at g1; omega
                have hR2 := Lib.hid (HL.out.more (d := s[k].toNat - 48) (by omega) (by simp at g2; omega))
                have hnum := Lib.hid (show (10 * (m : Int) + (s[k].toNat : Int) - 48) = ((numF m s[k] : Nat) : Int) by unfold numF; omega)
                clear hds hc
                go_wp2
                go_round
                case rel => exact ⟨k + 1, numF m s[k], by omega, hR, hR2, by go_num, by rw [hnum.out]⟩
                case measure => simp [intOf]; omega
              · have hR := Lib.hid (HNO.out (HK.out.stop hc (by rw [hds, g1, g2]; rfl)))
                have c0 := hA.cell 0; have c1 := hA.cell 1; have c2 := hA.cell 2
                have f0 := hA.frozen 0; have f1 := hA.frozen 1; have f2 := hA.frozen 2
                clear hds hc
                go_wp2
                refine bodyPost_ret (results_cell_row_tmp rfl _ _ w.heap.size 23 _ (0, 0) _ rfl (((hA.put 0 _).put 1 _).put 2 _) Tryd.underlying23 rfl (by kernel_rfl)) rfl ?_
                refine ⟨by rw [hR.out]; rfl, ?_⟩
                exact ((hbelow.setCell (by simp) _).setCell (by simp) _).setCell (by simp) _
            · have hR := Lib.hid (HNO.out (HK.out.stop hc (by rw [hds, g1]; rfl)))
              have c0 := hA.cell 0; have c1 := hA.cell 1; have c2 := hA.cell 2
              have f0 := hA.frozen 0; have f1 := hA.frozen 1; have f2 := hA.frozen 2
              clear hds hc
              go_wp2
              refine bodyPost_ret (results_cell_row_tmp rfl _ _ w.heap.size 23 _ (0, 0) _ rfl (((hA.put 0 _).put 1 _).put 2 _) Tryd.underlying23 rfl (by kernel_rfl)) rfl ?_
              refine ⟨by rw [hR.out]; rfl, ?_⟩
              exact ((hbelow.setCell (by simp) _).setCell (by simp) _).setCell (by simp) _
          · have e1 : decide ((k : Int) < (s.size : Int)) = false := by simp; omega
            obtain rfl : k = s.size := by omega
            have hR := Lib.hid (HYES.out m (by have h := HK.out; rw [← size_len] at h; exact h.done))
            go_wp2_with (fail)
            refine (int_any _ _).mono ?_
            rintro e w2 ⟨rfl, hb2⟩
            have hA2 := hA.below hb2 ‹_›
            have hbelow2 := hbelow.trans (hb2.mono hbelow.size)
            have c0 := hA2.cell 0; have c1 := hA2.cell 1; have c2 := hA2.cell 2
            have f0 := hA2.frozen 0; have f1 := hA2.frozen 1; have f2 := hA2.frozen 2
            clear hb2
            go_wp2_with (fail)
            refine bodyPost_ret (results_cell_row_tmp rfl _ _ w.heap.size 23 _ (0, 0) _ rfl (((hA2.put 0 _).put 1 _).put 2 _) Tryd.underlying23 rfl (by kernel_rfl)) rfl ?_
            refine ⟨by rw [hR.out]; rfl, ?_⟩
            exact ((hbelow2.setCell (by simp) _).setCell (by simp) _).setCell (by simp) _
  · have H1 := Lib.hid h1
    have hE := Lib.hid (show Vx.parse s.data.toList = (⟨2, 0, s.data.toList⟩, 0) by unfold Vx.parse; rw [h1]; rfl)
    clear h1
    go_enter Tryd.func20, Tryd.ntmps20
    go_wp2_with (fail)
    refine (rsymbol_any _ _ hs).mono ?_
    rintro e w1 ⟨rfl, hb⟩
    rw [H1.out]
    have hbelow : Below w.heap.size w w1 := (below1 w _).trans (hb.mono (below1 w _).size)
    have hA : At w1 w.heap.size 23 #[.int .i64 0, .int .i64 0, .string ⟨#[]⟩] := (At.new w _ _).below hb (by simp)
    have hlt := hA.lt
    clear hb
    go_wp2_with (fail)
    refine (sym_any _ _).mono ?_
    rintro e w2 ⟨rfl, hb2⟩
    have hA2 := hA.below hb2 hlt
    have hbelow2 := hbelow.trans (hb2.mono hbelow.size)
    have c0 := hA2.cell 0; have c1 := hA2.cell 1; have c2 := hA2.cell 2
    have f0 := hA2.frozen 0; have f1 := hA2.frozen 1; have f2 := hA2.frozen 2
    clear hb2
    go_wp2_with (fail)
    refine bodyPost_ret (results_cell_row_tmp rfl _ _ w.heap.size 23 _ (0, 0) _ rfl (((hA2.put 0 _).put 1 _).put 2 _) Tryd.underlying23 rfl (by kernel_rfl)) rfl ?_
    refine ⟨by rw [hE.out]; rfl, ?_⟩
    exact ((hbelow2.setCell (by simp) _).setCell (by simp) _).setCell (by simp) _
end Go.Proofs.YtagibdofpcbgiaaDoor
