/- Numerals, and the text that stands for a value: of two such texts none begins the other; no program in sight. -/
import Derived.Test.YtoficnfpoeaccaaDoorKQuo
import Derived.Lib.ItoaNum
import Derived.Laws.BytesArg
namespace Go.Proofs.YtoficnfpoeaccaaDoor
set_option linter.unusedVariables false
set_option linter.unusedSimpArgs false
open Go.Lib (itoa decDigits PrintTabs quoteZ)
namespace Qu
/-! ### Numerals -/
def isDig (c : UInt8) : Bool := decide (48 ≤ c.toNat) && decide (c.toNat ≤ 57)
/-- The number that digits denote. -/
def digVal (l : List UInt8) : Nat := l.foldl (fun n c => 10 * n + (c.toNat - 48)) 0
theorem digVal_snoc (l : List UInt8) (c : UInt8) : digVal (l ++ [c]) = 10 * digVal l + (c.toNat - 48) := by
  unfold digVal; rw [List.foldl_append]; rfl
theorem dec_one {u : Nat} (h : u < 10) : decDigits u = [UInt8.ofNat (48 + u)] := by rw [decDigits, dif_pos h]
theorem dec_more {u : Nat} (h : ¬ u < 10) : decDigits u = decDigits (u / 10) ++ [UInt8.ofNat (48 + u % 10)] := by rw [decDigits, dif_neg h]
theorem toNat_dig {k : Nat} (h : k < 10) : (UInt8.ofNat (48 + k)).toNat = 48 + k := by
  rw [UInt8.toNat_ofNat']; omega
theorem dec_val (u : Nat) : digVal (decDigits u) = u := by
  induction u using Nat.strongRecOn with
  | ind u ih =>
    by_cases h : u < 10
    · rw [dec_one h]
      show 10 * 0 + ((UInt8.ofNat (48 + u)).toNat - 48) = u
      rw [toNat_dig h]; omega
    · rw [dec_more h, digVal_snoc, ih _ (by omega), toNat_dig (by omega)]; omega
theorem dec_digs (u : Nat) : ∀ c ∈ decDigits u, isDig c = true := by
  induction u using Nat.strongRecOn with
  | ind u ih =>
    intro c hc
    have key : ∀ k, k < 10 → isDig (UInt8.ofNat (48 + k)) = true := fun k hk => by
      unfold isDig; rw [toNat_dig hk]; simp; omega
    by_cases h : u < 10
    · rw [dec_one h, List.mem_singleton] at hc; rw [hc]; exact key u h
    · rw [dec_more h, List.mem_append] at hc
      rcases hc with hc | hc
      · exact ih _ (by omega) c hc
      · rw [List.mem_singleton] at hc; rw [hc]; exact key _ (by omega)
theorem dec_ne (u : Nat) : decDigits u ≠ [] := by
  by_cases h : u < 10
  · rw [dec_one h]; simp
  · rw [dec_more h]; simp
theorem itoa_nat {n : Int} (h : 0 ≤ n) : itoa n = decDigits n.toNat := by unfold itoa; rw [if_neg (by omega)]
/-- The text goes on with no digit. -/
def NoDig (r : List UInt8) : Prop := ∀ c r', r = c :: r' → isDig c = false
theorem noDig_nil : NoDig [] := fun c r' h => by cases h
theorem noDig_cons {c : UInt8} (h : isDig c = false) (r : List UInt8) : NoDig (c :: r) := fun c' r' e => by injection e with e1 e2; rw [← e1]; exact h
/-- Digits before no digit are known. -/
theorem digs_split {a b r s : List UInt8} (ha : ∀ c ∈ a, isDig c = true) (hb : ∀ c ∈ b, isDig c = true) (hr : NoDig r) (hs : NoDig s) (h : a ++ r = b ++ s) : a = b ∧ r = s := by
  induction a generalizing b with
  | nil =>
    cases b with
    | nil => exact ⟨rfl, h⟩
    | cons c b =>
      exfalso
      simp only [List.nil_append] at h
      have h1 := hr c (b ++ s) h
      have h2 := hb c (List.mem_cons_self)
      rw [h1] at h2; cases h2
  | cons c a ih =>
    cases b with
    | nil =>
      exfalso
      simp only [List.nil_append] at h
      have h1 := hs c (a ++ r) h.symm
      have h2 := ha c (List.mem_cons_self)
      rw [h1] at h2; cases h2
    | cons d b =>
      simp only [List.cons_append, List.cons.injEq] at h
      obtain ⟨rfl, h⟩ := h
      obtain ⟨rfl, e⟩ := ih (fun x hx => ha x (List.mem_cons_of_mem _ hx)) (fun x hx => hb x (List.mem_cons_of_mem _ hx)) h
      exact ⟨rfl, e⟩
/-- A value, as it is counted. -/
structure Vl3 where
  t : Int
  n : Int
  s : ByteArray
  deriving DecidableEq
/-- The bytes of Quote. -/
def quoteB (T : PrintTabs) (s : ByteArray) : List UInt8 := (quoteZ T s).map fun n => UInt8.ofNat n.toNat
def keyB (T : PrintTabs) (v : Vl3) : List UInt8 := itoa v.t ++ 32 :: (itoa v.n ++ quoteB T v.s)
theorem escRune_bytes (T : PrintTabs) {r : Int} (hv : Lib.validRune r = true) : ∀ x ∈ Lib.escRune T r, 0 ≤ x ∧ x < 256 := by
  have hd : ∀ x : Nat, x < 16 → 0 ≤ Lib.hexDigit x ∧ Lib.hexDigit x < 256 := fun x hx => by unfold Lib.hexDigit; split <;> omega
  have hv2 : (0 ≤ r ∧ r < 55296) ∨ (57343 < r ∧ r ≤ 1114111) := by
    simp only [Lib.validRune, decide_eq_true_eq] at hv
    omega
  intro x hx
  unfold Lib.escRune at hx
  by_cases c0 : r = 34 ∨ r = 92
  · rw [if_pos c0] at hx; simp at hx; omega
  rw [if_neg c0] at hx
  by_cases c1 : Lib.isPrintR T r = true
  · rw [if_pos c1] at hx; exact Lib.encodeRuneZ_byte r x hx
  rw [if_neg c1] at hx
  repeat' split at hx
  all_goals (simp only [Lib.hexDigits, List.mem_cons, List.not_mem_nil, or_false] at hx)
  all_goals first
    | omega
    | (rcases hx with rfl | rfl | rfl | rfl | rfl | rfl | rfl | rfl | rfl | rfl <;> first | omega | exact hd _ (by omega))
    | (rcases hx with rfl | rfl | rfl | rfl | rfl | rfl <;> first | omega | exact hd _ (by omega))
    | (rcases hx with rfl | rfl | rfl | rfl <;> first | omega | exact hd _ (by omega))
theorem step_bytes (T : PrintTabs) (s : ByteArray) : ∀ x ∈ Lib.quoteStep T s, 0 ≤ x ∧ x < 256 := by
  intro x hx
  have hd : ∀ x : Nat, x < 16 → 0 ≤ Lib.hexDigit x ∧ Lib.hexDigit x < 256 := fun x hx => by unfold Lib.hexDigit; split <;> omega
  unfold Lib.quoteStep at hx
  split at hx
  · have := UInt8.toNat_lt (s.get! 0)
    simp only [List.mem_cons, List.not_mem_nil, or_false] at hx
    rcases hx with rfl | rfl | rfl | rfl
    · omega
    · omega
    · exact hd _ (by omega)
    · exact hd _ (by omega)
  · exact escRune_bytes T (Lib.rune_valid s) x hx
theorem from_bytes (T : PrintTabs) : ∀ (f : Nat) (s : ByteArray), ∀ x ∈ Lib.quoteFrom T f s, 0 ≤ x ∧ x < 256
  | 0, s, x, hx => by simp [Lib.quoteFrom] at hx
  | f + 1, s, x, hx => by
    unfold Lib.quoteFrom at hx
    split at hx
    · rcases List.mem_append.1 hx with h | h
      · exact step_bytes T s x h
      · exact from_bytes T f _ x h
    · cases hx
theorem quote_bytes (T : PrintTabs) (s : ByteArray) : ∀ x ∈ quoteZ T s, 0 ≤ x ∧ x < 256 := by
  intro x hx
  unfold Lib.quoteZ at hx
  rcases List.mem_cons.1 hx with rfl | hx
  · omega
  · rcases List.mem_append.1 hx with h | h
    · exact from_bytes T _ _ x h
    · simp at h; omega
theorem ints_quoteB (T : PrintTabs) (s : ByteArray) : ints (quoteB T s) = quoteZ T s := by
  unfold ints quoteB
  rw [List.map_map]
  have h := quote_bytes T s
  generalize quoteZ T s = l at *
  induction l with
  | nil => rfl
  | cons x l ih =>
    rw [List.map_cons, ih fun y hy => h y (List.mem_cons_of_mem _ hy)]
    congr 1
    have := h x (by simp)
    simp only [Function.comp]
    rw [UInt8.toNat_ofNat']
    omega
theorem quoteB_inj (T : PrintTabs) {s s' : ByteArray} {x y : List UInt8} (h : quoteB T s ++ x = quoteB T s' ++ y) : s = s' ∧ x = y := by
  have h2 := congrArg ints h
  have ha : ∀ a b : List UInt8, ints (a ++ b) = ints a ++ ints b := fun a b => by simp [ints]
  rw [ha, ha, ints_quoteB, ints_quoteB] at h2
  obtain ⟨rfl, _⟩ := quote_inj T h2
  exact ⟨rfl, List.append_cancel_left h⟩
theorem quoteB_head (T : PrintTabs) (s : ByteArray) : ∃ r, quoteB T s = 34 :: r := ⟨_, rfl⟩
theorem itoa_split {m n : Int} {r s : List UInt8} (hr : NoDig r) (hs : NoDig s) (h : itoa m ++ r = itoa n ++ s) : m = n ∧ r = s := by
  have neg : ∀ (a : Nat) (b : Nat) (x y : List UInt8), (45 : UInt8) :: decDigits a ++ x = decDigits b ++ y → False := fun a b x y e => by
    obtain ⟨c, l, hc⟩ : ∃ c l, decDigits b = c :: l := by
      cases hq : decDigits b with
      | nil => exact absurd hq (dec_ne b)
      | cons c l => exact ⟨c, l, rfl⟩
    have hd := dec_digs b c (by rw [hc]; simp)
    rw [hc] at e
    simp only [List.cons_append] at e
    injection e with e1 _
    rw [← e1] at hd
    exact absurd hd (by decide)
  unfold itoa at h
  by_cases h1 : m < 0
  · rw [if_pos h1] at h
    by_cases h2 : n < 0
    · rw [if_pos h2] at h
      simp only [List.cons_append] at h
      injection h with _ h
      obtain ⟨e1, e2⟩ := digs_split (dec_digs _) (dec_digs _) hr hs h
      have := congrArg digVal e1
      rw [dec_val, dec_val] at this
      exact ⟨by omega, e2⟩
    · rw [if_neg h2] at h
      exact (neg _ _ _ _ h).elim
  · rw [if_neg h1] at h
    by_cases h2 : n < 0
    · rw [if_pos h2] at h
      exact (neg _ _ _ _ h.symm).elim
    · rw [if_neg h2] at h
      obtain ⟨e1, e2⟩ := digs_split (dec_digs _) (dec_digs _) hr hs h
      have := congrArg digVal e1
      rw [dec_val, dec_val] at this
      exact ⟨by omega, e2⟩
theorem keyB_inj (T : PrintTabs) {v v' : Vl3} {x y : List UInt8} (h : keyB T v ++ x = keyB T v' ++ y) : v = v' ∧ x = y := by
  unfold keyB at h
  rw [List.append_assoc, List.append_assoc] at h
  obtain ⟨e1, h⟩ := itoa_split (noDig_cons (by decide) _) (noDig_cons (by decide) _) h
  injection h with _ h
  replace h : (itoa v.n ++ quoteB T v.s) ++ x = (itoa v'.n ++ quoteB T v'.s) ++ y := h
  rw [List.append_assoc, List.append_assoc] at h
  obtain ⟨e2, h⟩ := itoa_split (by obtain ⟨r, hr⟩ := quoteB_head T v.s; rw [hr]; exact noDig_cons (by decide) _) (by obtain ⟨r, hr⟩ := quoteB_head T v'.s; rw [hr]; exact noDig_cons (by decide) _) h
  obtain ⟨e3, hxy⟩ := quoteB_inj T h
  clear h
  cases v; cases v'
  simp at e1 e2 e3
  exact ⟨by rw [e1, e2, e3], hxy⟩
/-- The keys of a row, joined by commas. -/
def joinB (T : PrintTabs) : List Vl3 → List UInt8
  | [] => []
  | [v] => keyB T v
  | v :: w :: r => keyB T v ++ 44 :: joinB T (w :: r)
theorem keyB_ne (T : PrintTabs) (v : Vl3) : keyB T v ≠ [] := by
  unfold keyB
  simp
theorem joinB_inj (T : PrintTabs) : ∀ (a b : List Vl3), a.length = b.length → joinB T a = joinB T b → a = b
  | [], [], _, _ => rfl
  | [], _ :: _, h, _ => by simp at h
  | _ :: _, [], h, _ => by simp at h
  | [v], [w], _, h => by
    have h2 : keyB T v ++ [] = keyB T w ++ [] := by simpa [joinB] using h
    rw [(keyB_inj T h2).1]
  | [v], _ :: _ :: _, h, _ => by simp at h
  | _ :: _ :: _, [w], h, _ => by simp at h
  | v :: v2 :: r, w :: w2 :: s, hl, h => by
    unfold joinB at h
    obtain ⟨e, h⟩ := keyB_inj T h
    injection h with _ h
    rw [e, joinB_inj T (v2 :: r) (w2 :: s) (by simpa using hl) h]
end Qu
end Go.Proofs.YtoficnfpoeaccaaDoor
