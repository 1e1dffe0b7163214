/- Plain laws of circuits: sizes and texts; no program in sight. -/
import Derived.Lib.ItoaNum
import Derived.Test.YtigcmjnjcaoolaaDoorCGood
namespace Go.Proofs.YtigcmjnjcaoolaaDoor
set_option linter.unusedVariables false
set_option linter.unusedSimpArgs false
open Go.Lib (itoa decDigits)
/-! ### Numerals -/
def isDig (c : UInt8) : Bool := decide (48 ≤ c.toNat) && decide (c.toNat ≤ 57)
/-- The number that digits denote. -/
def digVal (l : List UInt8) : Nat := l.foldl (fun n c => 10 * n + (c.toNat - 48)) 0
theorem digVal_snoc (l : List UInt8) (c : UInt8) : digVal (l ++ [c]) = 10 * digVal l + (c.toNat - 48) := by
  unfold digVal; rw [List.foldl_append]; rfl
theorem dec_one {u : Nat} (h : u < 10) : decDigits u = [UInt8.ofNat (48 + u)] := by rw [decDigits, dif_pos h]
theorem dec_more {u : Nat} (h : ¬ u < 10) : decDigits u = decDigits (u / 10) ++ [UInt8.ofNat (48 + u % 10)] := by rw [decDigits, dif_neg h]
theorem toNat_dig {k : Nat} (h : k < 10) : (UInt8.ofNat (48 + k)).toNat = 48 + k := by
  rw [UInt8.toNat_ofNat']; omega
theorem dec_val (u : Nat) : digVal (decDigits u) = u := by
  induction u using Nat.strongRecOn with
  | ind u ih =>
    by_cases h : u < 10
    · rw [dec_one h]
      show 10 * 0 + ((UInt8.ofNat (48 + u)).toNat - 48) = u
      rw [toNat_dig h]; omega
    · rw [dec_more h, digVal_snoc, ih _ (by omega), toNat_dig (by omega)]; omega
theorem dec_digs (u : Nat) : ∀ c ∈ decDigits u, isDig c = true := by
  induction u using Nat.strongRecOn with
  | ind u ih =>
    intro c hc
    have key : ∀ k, k < 10 → isDig (UInt8.ofNat (48 + k)) = true := fun k hk => by
      unfold isDig; rw [toNat_dig hk]; simp; omega
    by_cases h : u < 10
    · rw [dec_one h, List.mem_singleton] at hc; rw [hc]; exact key u h
    · rw [dec_more h, List.mem_append] at hc
      rcases hc with hc | hc
      · exact ih _ (by omega) c hc
      · rw [List.mem_singleton] at hc; rw [hc]; exact key _ (by omega)
theorem dec_ne (u : Nat) : decDigits u ≠ [] := by
  by_cases h : u < 10
  · rw [dec_one h]; simp
  · rw [dec_more h]; simp
theorem itoa_nat {n : Int} (h : 0 ≤ n) : itoa n = decDigits n.toNat := by unfold itoa; rw [if_neg (by omega)]
/-- The text goes on with no digit. -/
def NoDig (r : List UInt8) : Prop := ∀ c r', r = c :: r' → isDig c = false
theorem noDig_nil : NoDig [] := fun c r' h => by cases h
theorem noDig_cons {c : UInt8} (h : isDig c = false) (r : List UInt8) : NoDig (c :: r) := fun c' r' e => by injection e with e1 e2; rw [← e1]; exact h
/-- Digits before no digit are known. -/
theorem digs_split {a b r s : List UInt8} (ha : ∀ c ∈ a, isDig c = true) (hb : ∀ c ∈ b, isDig c = true) (hr : NoDig r) (hs : NoDig s) (h : a ++ r = b ++ s) : a = b ∧ r = s := by
  induction a generalizing b with
  | nil =>
    cases b with
    | nil => exact ⟨rfl, h⟩
    | cons c b =>
      exfalso
      simp only [List.nil_append] at h
      have h1 := hr c (b ++ s) h
      have h2 := hb c (List.mem_cons_self)
      rw [h1] at h2; cases h2
  | cons c a ih =>
    cases b with
    | nil =>
      exfalso
      simp only [List.nil_append] at h
      have h1 := hs c (a ++ r) h.symm
      have h2 := ha c (List.mem_cons_self)
      rw [h1] at h2; cases h2
    | cons d b =>
      simp only [List.cons_append, List.cons.injEq] at h
      obtain ⟨rfl, h⟩ := h
      obtain ⟨rfl, e⟩ := ih (fun x hx => ha x (List.mem_cons_of_mem _ hx)) (fun x hx => hb x (List.mem_cons_of_mem _ hx)) h
      exact ⟨rfl, e⟩
theorem dec_inj {u v : Nat} (h : decDigits u = decDigits v) : u = v := by rw [← dec_val u, h, dec_val]
namespace Cx
/-! ### Texts -/
def plusB : List UInt8 := [32, 43, 32]
def timesB : List UInt8 := [32, 42, 32]
def opB (o : Int) : List UInt8 := if o = 3 then plusB else timesB
/-- The text of a node, behind the texts of those before it. -/
def textStep (ts : List (List UInt8)) (n : N) : List UInt8 :=
  if n.o = 0 then [48] else if n.o = 1 then [49] else if n.o = 2 then 120 :: itoa n.a
  else 40 :: ts.getD n.a.toNat [] ++ opB n.o ++ ts.getD n.b.toNat [] ++ [41]
def texts (l : List N) : List (List UInt8) := l.foldl (fun ts n => ts ++ [textStep ts n]) []
def textAt (l : List N) (k : Nat) : List UInt8 := (texts l).getD k []
/-- The length of a node's text, up to the limit. -/
def sizeStep (all : List Int) (n : N) : Int :=
  if n.o = 2 then 1 + (itoa n.a).length else if n.o = 3 ∨ n.o = 4 then min (all.getD n.a.toNat 0 + all.getD n.b.toNat 0 + 5) 8001 else 1
def sizes (l : List N) : List Int := l.foldl (fun all n => all ++ [sizeStep all n]) []
def sizeAt (l : List N) (k : Nat) : Int := (sizes l).getD k 0
def text (l : List N) (n lim : Int) : List UInt8 :=
  if isIn l n then (if sizeAt l n.toNat > lim ∨ sizeAt l n.toNat > 8000 then [] else textAt l n.toNat) else []
theorem texts_snoc (l : List N) (n : N) : texts (l ++ [n]) = texts l ++ [textStep (texts l) n] := by
  unfold texts; rw [List.foldl_append]; rfl
theorem sizes_snoc (l : List N) (n : N) : sizes (l ++ [n]) = sizes l ++ [sizeStep (sizes l) n] := by
  unfold sizes; rw [List.foldl_append]; rfl
theorem fold_len {α : Type} (f : List α → N → α) : ∀ (l : List N) (s : List α), (l.foldl (fun s n => s ++ [f s n]) s).length = s.length + l.length
  | [], s => rfl
  | n :: r, s => by rw [List.foldl_cons, fold_len f r]; simp; omega
theorem texts_len (l : List N) : (texts l).length = l.length := by unfold texts; rw [fold_len]; simp
theorem sizes_len (l : List N) : (sizes l).length = l.length := by unfold sizes; rw [fold_len]; simp
/-- What is reckoned for the first nodes stays. -/
theorem fold_take {α : Type} (f : List α → N → α) (l : List N) (k : Nat) : (l.take k).foldl (fun s n => s ++ [f s n]) [] = (l.foldl (fun s n => s ++ [f s n]) []).take k := by
  have key : ∀ (l : List N) (s : List α) (k : Nat), (l.take k).foldl (fun s n => s ++ [f s n]) s = (l.foldl (fun s n => s ++ [f s n]) s).take (s.length + k) := by
    intro l
    induction l with
    | nil => intro s k; rw [List.take_nil, List.foldl_nil, List.take_of_length_le (by omega)]
    | cons n r ih =>
      intro s k
      cases k with
      | zero =>
        rw [List.take_zero, List.foldl_nil, List.foldl_cons, Nat.add_zero]
        have h1 := ih (s ++ [f s n]) 0
        rw [List.take_zero, List.foldl_nil] at h1
        have h2 : ∀ (l : List N) (s : List α), ∃ t, l.foldl (fun s n => s ++ [f s n]) s = s ++ t := by
          intro l
          induction l with
          | nil => intro s; exact ⟨[], by simp⟩
          | cons n r ih => intro s; obtain ⟨t, ht⟩ := ih (s ++ [f s n]); exact ⟨f s n :: t, by rw [List.foldl_cons, ht]; simp⟩
        obtain ⟨t, ht⟩ := h2 r (s ++ [f s n])
        rw [ht, List.append_assoc, List.take_left]
      | succ k =>
        rw [List.take_succ_cons, List.foldl_cons, List.foldl_cons, ih]
        congr 1
        simp; omega
  have := key l [] k
  simpa using this
theorem texts_take (l : List N) (k : Nat) : texts (l.take k) = (texts l).take k := fold_take textStep l k
theorem sizes_take (l : List N) (k : Nat) : sizes (l.take k) = (sizes l).take k := fold_take sizeStep l k
theorem values_take (ts : List Int) (l : List N) (k : Nat) : values ts (l.take k) = (values ts l).take k := fold_take (valStep ts) l k
theorem take_get {α : Type} {l : List α} {k : Nat} {v : α} (h : l[k]? = some v) : l.take (k + 1) = l.take k ++ [v] := by
  obtain ⟨hk, rfl⟩ := List.getElem?_eq_some_iff.1 h
  rw [List.take_succ_eq_append_getElem hk]
theorem getD_take {α : Type} (l : List α) (k j : Nat) (d : α) (h : j < k) : (l.take k).getD j d = l.getD j d := by
  rw [List.getD_eq_getElem?_getD, List.getD_eq_getElem?_getD, List.getElem?_take, if_pos h]
/-- The text of node k, by those of its operands. -/
theorem textAt_eq {l : List N} {k : Nat} {v : N} (hv : l[k]? = some v) : textAt l k = textStep ((texts l).take k) v := by
  have hk := (List.getElem?_eq_some_iff.1 hv).1
  have h1 := texts_take l (k + 1)
  rw [take_get hv, texts_snoc, texts_take] at h1
  unfold textAt
  rw [← getD_take (texts l) (k + 1) k [] (by omega), ← h1, List.getD_eq_getElem?_getD, List.getElem?_append_right (by rw [List.length_take, texts_len]; omega), List.length_take, texts_len]
  rw [show k - min k l.length = 0 by omega]; rfl
theorem sizeAt_eq {l : List N} {k : Nat} {v : N} (hv : l[k]? = some v) : sizeAt l k = sizeStep ((sizes l).take k) v := by
  have hk := (List.getElem?_eq_some_iff.1 hv).1
  have h1 := sizes_take l (k + 1)
  rw [take_get hv, sizes_snoc, sizes_take] at h1
  unfold sizeAt
  rw [← getD_take (sizes l) (k + 1) k 0 (by omega), ← h1, List.getD_eq_getElem?_getD, List.getElem?_append_right (by rw [List.length_take, sizes_len]; omega), List.length_take, sizes_len]
  rw [show k - min k l.length = 0 by omega]; rfl
theorem valAt_eq {ts : List Int} {l : List N} {k : Nat} {v : N} (hv : l[k]? = some v) : (values ts l).getD k false = valStep ts ((values ts l).take k) v := by
  have hk := (List.getElem?_eq_some_iff.1 hv).1
  have h1 := values_take ts l (k + 1)
  rw [take_get hv, values_snoc, values_take] at h1
  rw [← getD_take (values ts l) (k + 1) k false (by omega), ← h1, List.getD_eq_getElem?_getD, List.getElem?_append_right (by rw [List.length_take, values_len]; omega), List.length_take, values_len]
  rw [show k - min k l.length = 0 by omega]; rfl
/-- A node's kinds, in a well-formed circuit. -/
inductive Kind (l : List N) : Nat → Prop
  | zero : l[0]? = some zero → Kind l 0
  | one : l[1]? = some one → Kind l 1
  | var {k : Nat} {v : N} : l[k]? = some v → 2 ≤ k → v.o = 2 → 0 ≤ v.a → v.b = 0 → Kind l k
  | two {k : Nat} {v : N} (a b : Nat) : l[k]? = some v → 2 ≤ k → (v.o = 3 ∨ v.o = 4) → v.a = a → v.b = b → 2 ≤ a → a < b → b < k → Kind l k
theorem Good.kind {l : List N} (h : Good l) {k : Nat} (hk : k < l.length) : Kind l k := by
  by_cases h0 : k = 0
  · subst h0; exact Kind.zero h.z
  · by_cases h1 : k = 1
    · subst h1; exact Kind.one h.o
    · have hv : l[k]? = some l[k] := List.getElem?_eq_getElem hk
      have hok := h.ok k _ (by omega) hv
      rcases ok_kind hok with h2 | h2
      · obtain ⟨h3, h4⟩ := ok_leaf hok h2
        exact Kind.var hv (by omega) h2 h3 h4
      · obtain ⟨h3, h4, h5⟩ := ok_two hok h2
        exact Kind.two l[k].a.toNat l[k].b.toNat hv (by omega) h2 (by omega) (by omega) (by omega) (by omega) (by omega)
theorem text_zero {l : List N} (h : l[0]? = some zero) : textAt l 0 = [48] := by rw [textAt_eq h]; rfl
theorem text_one {l : List N} (h : l[1]? = some one) : textAt l 1 = [49] := by rw [textAt_eq h]; rfl
theorem text_var {l : List N} {k : Nat} {v : N} (h : l[k]? = some v) (h2 : v.o = 2) : textAt l k = 120 :: itoa v.a := by
  rw [textAt_eq h]; unfold textStep; rw [if_neg (by omega), if_neg (by omega), if_pos h2]
theorem text_two {l : List N} {k : Nat} {v : N} {a b : Nat} (h : l[k]? = some v) (h2 : v.o = 3 ∨ v.o = 4) (ha : v.a = a) (hb : v.b = b) (hak : a < k) (hbk : b < k) : textAt l k = 40 :: textAt l a ++ opB v.o ++ textAt l b ++ [41] := by
  rw [textAt_eq h]; unfold textStep
  rw [if_neg (by omega), if_neg (by omega), if_neg (by omega), ha, hb, Int.toNat_natCast, Int.toNat_natCast, getD_take _ _ _ _ hak, getD_take _ _ _ _ hbk]
  rfl
theorem size_one {l : List N} {k : Nat} {v : N} (h : l[k]? = some v) (h2 : ¬ v.o = 2) (h3 : ¬ (v.o = 3 ∨ v.o = 4)) : sizeAt l k = 1 := by
  rw [sizeAt_eq h]; unfold sizeStep; rw [if_neg h2, if_neg h3]
theorem size_var {l : List N} {k : Nat} {v : N} (h : l[k]? = some v) (h2 : v.o = 2) : sizeAt l k = 1 + (itoa v.a).length := by
  rw [sizeAt_eq h]; unfold sizeStep; rw [if_pos h2]
theorem size_two {l : List N} {k : Nat} {v : N} {a b : Nat} (h : l[k]? = some v) (h2 : v.o = 3 ∨ v.o = 4) (ha : v.a = a) (hb : v.b = b) (hak : a < k) (hbk : b < k) : sizeAt l k = min (sizeAt l a + sizeAt l b + 5) 8001 := by
  rw [sizeAt_eq h]; unfold sizeStep
  rw [if_neg (by omega), if_pos h2, ha, hb, Int.toNat_natCast, Int.toNat_natCast, getD_take _ _ _ _ hak, getD_take _ _ _ _ hbk]
  rfl
theorem opB_len (o : Int) : (opB o).length = 3 := by unfold opB; split <;> rfl
theorem dec_len (u : Nat) (h : u < 10000000000000000000) : 1 ≤ (decDigits u).length ∧ (decDigits u).length ≤ 19 := by
  have key : ∀ (j u : Nat), u < 10 ^ (j + 1) → (decDigits u).length ≤ j + 1 := by
    intro j
    induction j with
    | zero => intro u hu; rw [dec_one (by simpa using hu)]; simp
    | succ j ih =>
      intro u hu
      by_cases hs : u < 10
      · rw [dec_one hs]; simp
      · rw [dec_more hs, List.length_append]
        have := ih (u / 10) (by rw [Nat.pow_succ] at hu; omega)
        simp; omega
  refine ⟨?_, key 18 u (by rw [show 10 ^ (18 + 1) = 10000000000000000000 from rfl]; exact h)⟩
  have := dec_ne u
  cases hd : decDigits u with
  | nil => exact absurd hd this
  | cons a b => simp
theorem min_two (x y : Nat) : min (min (x : Int) 8001 + min (y : Int) 8001 + 5) 8001 = min ((x + y + 5 : Nat) : Int) 8001 := by omega
/-- A size is the length of the text, up to the limit. -/
theorem size_text {l : List N} (h : Good l) (hb : ∀ n ∈ l, n.a < 10000000000000000000) : ∀ k, k < l.length → sizeAt l k = min ((textAt l k).length : Int) 8001 ∧ 1 ≤ (textAt l k).length := by
  intro k
  induction k using Nat.strongRecOn with
  | ind k ih =>
    intro hk
    cases h.kind hk with
    | zero hz => rw [text_zero hz, size_one hz (by decide) (by decide)]; decide
    | one ho => rw [text_one ho, size_one ho (by decide) (by decide)]; decide
    | @var _ v hv _ h2 h3 _ =>
      rw [text_var hv h2, size_var hv h2, itoa_nat h3]
      have := hb v (List.mem_of_getElem? hv)
      have := dec_len v.a.toNat (by omega)
      simp only [List.length_cons]
      omega
    | @two _ v a b hv _ h2 ha hb' h4 h5 h6 =>
      obtain ⟨e1, g1⟩ := ih a (by omega) (by omega)
      obtain ⟨e2, g2⟩ := ih b (by omega) (by omega)
      rw [text_two hv h2 ha hb' (by omega) (by omega), size_two hv h2 ha hb' (by omega) (by omega), e1, e2]
      have el : (40 :: textAt l a ++ opB v.o ++ textAt l b ++ [41]).length = (textAt l a).length + (textAt l b).length + 5 := by
        simp only [List.length_append, List.length_cons, List.length_nil, opB_len]; omega
      rw [el]
      exact ⟨min_two _ _, Nat.le_add_left 1 _⟩
/-- Texts are known by their beginning. -/
theorem text_inj {l : List N} (h : Good l) : ∀ (i j : Nat) (r s : List UInt8), i < l.length → j < l.length → NoDig r → NoDig s → textAt l i ++ r = textAt l j ++ s → i = j ∧ r = s := by
  intro i
  induction i using Nat.strongRecOn with
  | ind i ih =>
    intro j r s hi hj hr hs e
    have hbr : isDig 32 = false ∧ isDig 41 = false := by decide
    cases h.kind hi with
    | zero hz =>
      cases h.kind hj with
      | zero _ => rw [text_zero hz] at e; simp at e; exact ⟨rfl, e⟩
      | one ho => rw [text_zero hz, text_one ho] at e; simp at e
      | var hv _ h2 _ _ => rw [text_zero hz, text_var hv h2] at e; simp at e
      | two a b hv _ h2 ha hb _ _ _ => rw [text_zero hz, text_two hv h2 ha hb (by omega) (by omega)] at e; simp at e
    | one ho =>
      cases h.kind hj with
      | zero hz => rw [text_one ho, text_zero hz] at e; simp at e
      | one _ => rw [text_one ho] at e; simp at e; exact ⟨rfl, e⟩
      | var hv _ h2 _ _ => rw [text_one ho, text_var hv h2] at e; simp at e
      | two a b hv _ h2 ha hb _ _ _ => rw [text_one ho, text_two hv h2 ha hb (by omega) (by omega)] at e; simp at e
    | @var _ v hv _ h2 h3 h4 =>
      cases h.kind hj with
      | zero hz => rw [text_var hv h2, text_zero hz] at e; simp at e
      | one ho => rw [text_var hv h2, text_one ho] at e; simp at e
      | @var _ v' hv' _ h2' h3' h4' =>
        rw [text_var hv h2, text_var hv' h2', itoa_nat h3, itoa_nat h3'] at e
        simp only [List.cons_append, List.cons.injEq, true_and] at e
        obtain ⟨e1, e2⟩ := digs_split (dec_digs _) (dec_digs _) hr hs e
        have ea : v.a = v'.a := by have := dec_inj e1; omega
        have ev : v = v' := by
          cases v; cases v'; simp only at *; subst h2; subst h4; subst ea; rw [h2', h4']
        subst ev
        refine ⟨?_, e2⟩
        exact (List.getElem?_inj hi h.nd).1 (hv.trans hv'.symm)
      | two a b hv' _ h2' ha hb _ _ _ => rw [text_var hv h2, text_two hv' h2' ha hb (by omega) (by omega)] at e; simp at e
    | @two _ v a b hv _ h2 ha hb h5 h6 h7 =>
      cases h.kind hj with
      | zero hz => rw [text_two hv h2 ha hb (by omega) (by omega), text_zero hz] at e; simp at e
      | one ho => rw [text_two hv h2 ha hb (by omega) (by omega), text_one ho] at e; simp at e
      | var hv' _ h2' _ _ => rw [text_two hv h2 ha hb (by omega) (by omega), text_var hv' h2'] at e; simp at e
      | @two _ v' a' b' hv' _ h2' ha' hb' h5' h6' h7' =>
        rw [text_two hv h2 ha hb (by omega) (by omega), text_two hv' h2' ha' hb' (by omega) (by omega)] at e
        simp only [List.cons_append, List.append_assoc, List.cons.injEq, true_and] at e
        have hop : ∀ (o : Int) (t : List UInt8), NoDig (opB o ++ t) := fun o t => by
          unfold opB; split
          · exact noDig_cons hbr.1 _
          · exact noDig_cons hbr.1 _
        obtain ⟨e1, e2⟩ := ih a (by omega) a' _ _ (by omega) (by omega) (hop _ _) (hop _ _) e
        have e3 : v.o = v'.o ∧ textAt l b ++ (41 :: r) = textAt l b' ++ (41 :: s) := by
          rcases h2 with h2 | h2 <;> rcases h2' with h2' | h2' <;> rw [h2, h2'] at e2 ⊢ <;> simp [opB, plusB, timesB] at e2 ⊢
          · exact e2
          · exact e2
        obtain ⟨e4, e5⟩ := ih b (by omega) b' _ _ (by omega) (by omega) (noDig_cons hbr.2 _) (noDig_cons hbr.2 _) e3.2
        have ev : v = v' := by
          cases v; cases v'; simp only at *; obtain ⟨e6, _⟩ := e3; subst e6; subst e1; subst e4; rw [ha, ha', hb, hb']
        subst ev
        exact ⟨(List.getElem?_inj hi h.nd).1 (hv.trans hv'.symm), by simpa using e5⟩
end Cx
end Go.Proofs.YtigcmjnjcaoolaaDoor
