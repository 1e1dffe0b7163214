/- The plain model of circuits; no program in sight. -/
import Derived.Lib.ItoaNum
namespace Go.Proofs.YtphmicbpkljmfaaGreat
set_option linter.unusedVariables false
set_option linter.unusedSimpArgs false
namespace Cx
/-- A node: its kind and its operands. -/
structure N where
  o : Int
  a : Int
  b : Int
  deriving DecidableEq
def zero : N := ⟨0, 0, 0⟩
def one : N := ⟨1, 0, 0⟩
def new : List N := [zero, one]
def binary (n : N) : Bool := decide (n.o = 3) || decide (n.o = 4)
/-- The index of the first equal element. -/
def idx (l : List N) (n : N) : Option Nat := l.findIdx? (· == n)
/-- The circuit with a node, and its index. -/
def put (l : List N) (n : N) : List N × Int :=
  match idx l n with
  | some i => (l, i)
  | none => if l.length < 20000 then (l ++ [n], l.length) else (l, -1)
def var (l : List N) (n : Int) : List N × Int := if n < 0 then (l, -1) else put l ⟨2, n, 0⟩
/-- Whether a number is the index of a node. -/
def isIn (l : List N) (n : Int) : Bool := decide (0 ≤ n) && decide (n < l.length)
def two (l : List N) (op a b none all : Int) : List N × Int :=
  if isIn l a = false ∨ isIn l b = false then (l, -1)
  else if a = all ∨ b = all then (l, all)
  else if a = b ∨ b = none then (l, a)
  else if a = none then (l, b)
  else put l ⟨op, min a b, max a b⟩
def plus (l : List N) (a b : Int) : List N × Int := two l 3 a b 0 1
def times (l : List N) (a b : Int) : List N × Int := two l 4 a b 1 0
structure M where
  o : Int
  a : Nat
  b : Nat
def step (l : List N) (m : M) : List N :=
  if m.o = 2 then (var l m.a).1
  else if m.o = 3 then (plus l (m.a % l.length : Nat) (m.b % l.length : Nat)).1
  else if m.o = 4 then (times l (m.a % l.length : Nat) (m.b % l.length : Nat)).1
  else l
def build (ms : List M) : List N := ms.foldl step new
def leafB (n : N) : Bool := decide (n.o = 2) && decide (0 ≤ n.a) && decide (n.b = 0)
def okB (n : N) (i : Int) : Bool := leafB n || (binary n && decide (2 ≤ n.a) && decide (n.a < n.b) && decide (n.b < i))
/-- Whether the nodes from the second on are well-formed and differ, those before being known. -/
def validFrom (seen : List N) : List N → Nat → Bool
  | [], _ => true
  | n :: r, i => okB n i && !seen.contains n && validFrom (seen ++ [n]) r (i + 1)
def valid (l : List N) : Bool := decide (2 ≤ l.length) && decide (l.length ≤ 20000) && decide (l[0]? = some zero) && decide (l[1]? = some one) && validFrom [] (l.drop 2) 2
/-- The values of the first nodes, one after the other. -/
def valStep (ts : List Int) (vs : List Bool) (n : N) : Bool :=
  if n.o = 1 then true
  else if n.o = 2 then ts.contains n.a
  else if n.o = 3 then vs.getD n.a.toNat false || vs.getD n.b.toNat false
  else if n.o = 4 then vs.getD n.a.toNat false && vs.getD n.b.toNat false
  else false
def values (ts : List Int) (l : List N) : List Bool := l.foldl (fun vs n => vs ++ [valStep ts vs n]) []
def eval (l : List N) (n : Int) (ts : List Int) : Bool := isIn l n && (values ts l).getD n.toNat false
end Cx
end Go.Proofs.YtphmicbpkljmfaaGreat
namespace Go.Proofs.YtphmicbpkljmfaaGreat
set_option linter.unusedVariables false
set_option linter.unusedSimpArgs false
namespace Cx
/-- A well-formed circuit. -/
structure Good (l : List N) : Prop where
  more : 2 ≤ l.length
  z : l[0]? = some zero
  o : l[1]? = some one
  ok : ∀ (k : Nat) (v : N), 2 ≤ k → l[k]? = some v → okB v k = true
  nd : l.Nodup
theorem ok_leaf {n : N} {i : Int} (h : okB n i = true) (h2 : n.o = 2) : 0 ≤ n.a ∧ n.b = 0 := by
  unfold okB leafB binary at h
  rw [decide_eq_true h2, decide_eq_false (show ¬ n.o = 3 by omega), decide_eq_false (show ¬ n.o = 4 by omega)] at h
  simpa using h
theorem ok_two {n : N} {i : Int} (h : okB n i = true) (h2 : n.o = 3 ∨ n.o = 4) : 2 ≤ n.a ∧ n.a < n.b ∧ n.b < i := by
  unfold okB leafB binary at h
  rw [decide_eq_false (show ¬ n.o = 2 by omega)] at h
  simp only [Bool.false_and, Bool.false_or, Bool.and_eq_true, decide_eq_true_eq] at h
  exact ⟨h.1.1.2, h.1.2, h.2⟩
theorem ok_kind {n : N} {i : Int} (h : okB n i = true) : n.o = 2 ∨ n.o = 3 ∨ n.o = 4 := by
  unfold okB leafB binary at h
  simp only [Bool.or_eq_true, Bool.and_eq_true, decide_eq_true_eq] at h
  omega
theorem Good.bin {l : List N} (h : Good l) {k : Nat} {v : N} (hv : l[k]? = some v) (h2 : v.o = 3 ∨ v.o = 4) : 2 ≤ v.a ∧ v.a < v.b ∧ v.b < k := by
  rcases Nat.lt_or_ge k 2 with h3 | h3
  · rcases (by omega : k = 0 ∨ k = 1) with rfl | rfl
    · rw [h.z] at hv; obtain rfl := Option.some.inj hv; simp [zero] at h2
    · rw [h.o] at hv; obtain rfl := Option.some.inj hv; simp [one] at h2
  · exact ok_two (h.ok k v h3 hv) h2
theorem good_new : Good new :=
  ⟨by decide, rfl, rfl, (fun k v h1 h2 => by rw [List.getElem?_eq_none (by simp [new]; omega)] at h2; cases h2), by decide⟩
theorem idx_some {l : List N} {n : N} {k : Nat} (h : idx l n = some k) : l[k]? = some n ∧ k < l.length := by
  unfold idx at h
  rw [List.findIdx?_eq_some_iff_getElem] at h
  obtain ⟨h1, h2, _⟩ := h
  exact ⟨by rw [List.getElem?_eq_getElem h1, beq_iff_eq.1 h2], h1⟩
theorem idx_not {l : List N} {n : N} (h : idx l n = none) : n ∉ l := by
  unfold idx at h
  rw [List.findIdx?_eq_none_iff] at h
  intro hm
  have := h n hm
  simp at this
theorem Good.snoc {l : List N} (h : Good l) {n : N} (hn : okB n l.length = true) (hi : n ∉ l) : Good (l ++ [n]) := by
  have := h.more
  refine ⟨by simp; omega, by rw [List.getElem?_append_left (by omega)]; exact h.z, by rw [List.getElem?_append_left (by omega)]; exact h.o, fun k v h1 h2 => ?_, ?_⟩
  · rcases Nat.lt_or_ge k l.length with h3 | h3
    · rw [List.getElem?_append_left h3] at h2; exact h.ok k v h1 h2
    · rw [List.getElem?_append_right h3] at h2
      rcases Nat.lt_or_ge l.length k with h4 | h4
      · rw [List.getElem?_eq_none (by simp; omega)] at h2; cases h2
      · have : k = l.length := by omega
        subst this
        simp at h2; subst h2; exact hn
  · rw [List.nodup_append]
    refine ⟨h.nd, by simp, fun a ha b hb e => ?_⟩
    simp at hb; subst hb; subst e; exact hi ha
theorem Good.put {l : List N} (h : Good l) {n : N} (hn : okB n l.length = true) : Good (put l n).1 := by
  unfold Cx.put
  split
  · exact h
  · split
    · exact h.snoc hn (idx_not (by assumption))
    · exact h
theorem Good.var {l : List N} (h : Good l) (n : Int) : Good (var l n).1 := by
  unfold Cx.var
  split
  · exact h
  · exact h.put (by unfold okB leafB; simp; left; omega)
theorem Good.two {l : List N} (h : Good l) (op a b z o : Int) (hop : op = 3 ∨ op = 4) (hz : z = 0 ∧ o = 1 ∨ z = 1 ∧ o = 0) : Good (Cx.two l op a b z o).1 := by
  unfold Cx.two
  split
  · exact h
  split
  · exact h
  split
  · exact h
  split
  · exact h
  rename_i h1 h2 h3 h4
  unfold isIn at h1
  simp only [not_or, Bool.not_eq_false, Bool.and_eq_true, decide_eq_true_eq] at h1 h2 h3
  refine h.put ?_
  unfold okB binary
  have e1 : decide (op = 3) || decide (op = 4) = true := by simpa using hop
  simp only [Bool.or_eq_true, Bool.and_eq_true, decide_eq_true_eq]
  right
  refine ⟨⟨⟨by simpa using hop, ?_⟩, ?_⟩, ?_⟩ <;> omega
theorem Good.step {l : List N} (h : Good l) (m : M) : Good (step l m) := by
  unfold Cx.step
  split
  · exact h.var _
  split
  · exact h.two _ _ _ _ _ (Or.inl rfl) (Or.inl ⟨rfl, rfl⟩)
  split
  · exact h.two _ _ _ _ _ (Or.inr rfl) (Or.inr ⟨rfl, rfl⟩)
  · exact h
theorem good_build (ms : List M) : Good (build ms) := by
  unfold build
  have key : ∀ (ms : List M) (l : List N), Good l → Good (ms.foldl Cx.step l) := by
    intro ms
    induction ms with
    | nil => intro l h; exact h
    | cons m ms ih => intro l h; exact ih _ (h.step m)
  exact key ms new good_new
theorem values_snoc (ts : List Int) (l : List N) (n : N) : values ts (l ++ [n]) = values ts l ++ [valStep ts (values ts l) n] := by
  unfold values; rw [List.foldl_append]; rfl
theorem values_len (ts : List Int) (l : List N) : (values ts l).length = l.length := by
  unfold values
  have key : ∀ (l : List N) (vs : List Bool), (l.foldl (fun vs n => vs ++ [valStep ts vs n]) vs).length = vs.length + l.length := by
    intro l
    induction l with
    | nil => intro vs; rfl
    | cons a r ih => intro vs; rw [List.foldl_cons, ih]; simp; omega
  simpa using key l []
end Cx
end Go.Proofs.YtphmicbpkljmfaaGreat
namespace Go.Proofs.YtphmicbpkljmfaaGreat
set_option linter.unusedVariables false
set_option linter.unusedSimpArgs false
open Go.Lib (itoa decDigits)
/-! ### Numerals -/
def isDig (c : UInt8) : Bool := decide (48 ≤ c.toNat) && decide (c.toNat ≤ 57)
/-- The number that digits denote. -/
def digVal (l : List UInt8) : Nat := l.foldl (fun n c => 10 * n + (c.toNat - 48)) 0
theorem digVal_snoc (l : List UInt8) (c : UInt8) : digVal (l ++ [c]) = 10 * digVal l + (c.toNat - 48) := by
  unfold digVal; rw [List.foldl_append]; rfl
theorem dec_one {u : Nat} (h : u < 10) : decDigits u = [UInt8.ofNat (48 + u)] := by rw [decDigits, dif_pos h]
theorem dec_more {u : Nat} (h : ¬ u < 10) : decDigits u = decDigits (u / 10) ++ [UInt8.ofNat (48 + u % 10)] := by rw [decDigits, dif_neg h]
theorem toNat_dig {k : Nat} (h : k < 10) : (UInt8.ofNat (48 + k)).toNat = 48 + k := by
  rw [UInt8.toNat_ofNat']; omega
theorem dec_val (u : Nat) : digVal (decDigits u) = u := by
  induction u using Nat.strongRecOn with
  | ind u ih =>
    by_cases h : u < 10
    · rw [dec_one h]
      show 10 * 0 + ((UInt8.ofNat (48 + u)).toNat - 48) = u
      rw [toNat_dig h]; omega
    · rw [dec_more h, digVal_snoc, ih _ (by omega), toNat_dig (by omega)]; omega
theorem dec_digs (u : Nat) : ∀ c ∈ decDigits u, isDig c = true := by
  induction u using Nat.strongRecOn with
  | ind u ih =>
    intro c hc
    have key : ∀ k, k < 10 → isDig (UInt8.ofNat (48 + k)) = true := fun k hk => by
      unfold isDig; rw [toNat_dig hk]; simp; omega
    by_cases h : u < 10
    · rw [dec_one h, List.mem_singleton] at hc; rw [hc]; exact key u h
    · rw [dec_more h, List.mem_append] at hc
      rcases hc with hc | hc
      · exact ih _ (by omega) c hc
      · rw [List.mem_singleton] at hc; rw [hc]; exact key _ (by omega)
theorem dec_ne (u : Nat) : decDigits u ≠ [] := by
  by_cases h : u < 10
  · rw [dec_one h]; simp
  · rw [dec_more h]; simp
theorem itoa_nat {n : Int} (h : 0 ≤ n) : itoa n = decDigits n.toNat := by unfold itoa; rw [if_neg (by omega)]
/-- The text goes on with no digit. -/
def NoDig (r : List UInt8) : Prop := ∀ c r', r = c :: r' → isDig c = false
theorem noDig_nil : NoDig [] := fun c r' h => by cases h
theorem noDig_cons {c : UInt8} (h : isDig c = false) (r : List UInt8) : NoDig (c :: r) := fun c' r' e => by injection e with e1 e2; rw [← e1]; exact h
/-- Digits before no digit are known. -/
theorem digs_split {a b r s : List UInt8} (ha : ∀ c ∈ a, isDig c = true) (hb : ∀ c ∈ b, isDig c = true) (hr : NoDig r) (hs : NoDig s) (h : a ++ r = b ++ s) : a = b ∧ r = s := by
  induction a generalizing b with
  | nil =>
    cases b with
    | nil => exact ⟨rfl, h⟩
    | cons c b =>
      exfalso
      simp only [List.nil_append] at h
      have h1 := hr c (b ++ s) h
      have h2 := hb c (List.mem_cons_self)
      rw [h1] at h2; cases h2
  | cons c a ih =>
    cases b with
    | nil =>
      exfalso
      simp only [List.nil_append] at h
      have h1 := hs c (a ++ r) h.symm
      have h2 := ha c (List.mem_cons_self)
      rw [h1] at h2; cases h2
    | cons d b =>
      simp only [List.cons_append, List.cons.injEq] at h
      obtain ⟨rfl, h⟩ := h
      obtain ⟨rfl, e⟩ := ih (fun x hx => ha x (List.mem_cons_of_mem _ hx)) (fun x hx => hb x (List.mem_cons_of_mem _ hx)) h
      exact ⟨rfl, e⟩
theorem dec_inj {u v : Nat} (h : decDigits u = decDigits v) : u = v := by rw [← dec_val u, h, dec_val]
namespace Cx
/-! ### Texts -/
def plusB : List UInt8 := [32, 43, 32]
def timesB : List UInt8 := [32, 42, 32]
def opB (o : Int) : List UInt8 := if o = 3 then plusB else timesB
/-- The text of a node, behind the texts of those before it. -/
def textStep (ts : List (List UInt8)) (n : N) : List UInt8 :=
  if n.o = 0 then [48] else if n.o = 1 then [49] else if n.o = 2 then 120 :: itoa n.a
  else 40 :: ts.getD n.a.toNat [] ++ opB n.o ++ ts.getD n.b.toNat [] ++ [41]
def texts (l : List N) : List (List UInt8) := l.foldl (fun ts n => ts ++ [textStep ts n]) []
def textAt (l : List N) (k : Nat) : List UInt8 := (texts l).getD k []
/-- The length of a node's text, up to the limit. -/
def sizeStep (all : List Int) (n : N) : Int :=
  if n.o = 2 then 1 + (itoa n.a).length else if n.o = 3 ∨ n.o = 4 then min (all.getD n.a.toNat 0 + all.getD n.b.toNat 0 + 5) 8001 else 1
def sizes (l : List N) : List Int := l.foldl (fun all n => all ++ [sizeStep all n]) []
def sizeAt (l : List N) (k : Nat) : Int := (sizes l).getD k 0
def text (l : List N) (n lim : Int) : List UInt8 :=
  if isIn l n then (if sizeAt l n.toNat > lim ∨ sizeAt l n.toNat > 8000 then [] else textAt l n.toNat) else []
theorem texts_snoc (l : List N) (n : N) : texts (l ++ [n]) = texts l ++ [textStep (texts l) n] := by
  unfold texts; rw [List.foldl_append]; rfl
theorem sizes_snoc (l : List N) (n : N) : sizes (l ++ [n]) = sizes l ++ [sizeStep (sizes l) n] := by
  unfold sizes; rw [List.foldl_append]; rfl
theorem fold_len {α : Type} (f : List α → N → α) : ∀ (l : List N) (s : List α), (l.foldl (fun s n => s ++ [f s n]) s).length = s.length + l.length
  | [], s => rfl
  | n :: r, s => by rw [List.foldl_cons, fold_len f r]; simp; omega
theorem texts_len (l : List N) : (texts l).length = l.length := by unfold texts; rw [fold_len]; simp
theorem sizes_len (l : List N) : (sizes l).length = l.length := by unfold sizes; rw [fold_len]; simp
/-- What is reckoned for the first nodes stays. -/
theorem fold_take {α : Type} (f : List α → N → α) (l : List N) (k : Nat) : (l.take k).foldl (fun s n => s ++ [f s n]) [] = (l.foldl (fun s n => s ++ [f s n]) []).take k := by
  have key : ∀ (l : List N) (s : List α) (k : Nat), (l.take k).foldl (fun s n => s ++ [f s n]) s = (l.foldl (fun s n => s ++ [f s n]) s).take (s.length + k) := by
    intro l
    induction l with
    | nil => intro s k; rw [List.take_nil, List.foldl_nil, List.take_of_length_le (by omega)]
    | cons n r ih =>
      intro s k
      cases k with
      | zero =>
        rw [List.take_zero, List.foldl_nil, List.foldl_cons, Nat.add_zero]
        have h1 := ih (s ++ [f s n]) 0
        rw [List.take_zero, List.foldl_nil] at h1
        have h2 : ∀ (l : List N) (s : List α), ∃ t, l.foldl (fun s n => s ++ [f s n]) s = s ++ t := by
          intro l
          induction l with
          | nil => intro s; exact ⟨[], by simp⟩
          | cons n r ih => intro s; obtain ⟨t, ht⟩ := ih (s ++ [f s n]); exact ⟨f s n :: t, by rw [List.foldl_cons, ht]; simp⟩
        obtain ⟨t, ht⟩ := h2 r (s ++ [f s n])
        rw [ht, List.append_assoc, List.take_left]
      | succ k =>
        rw [List.take_succ_cons, List.foldl_cons, List.foldl_cons, ih]
        congr 1
        simp; omega
  have := key l [] k
  simpa using this
theorem texts_take (l : List N) (k : Nat) : texts (l.take k) = (texts l).take k := fold_take textStep l k
theorem sizes_take (l : List N) (k : Nat) : sizes (l.take k) = (sizes l).take k := fold_take sizeStep l k
theorem values_take (ts : List Int) (l : List N) (k : Nat) : values ts (l.take k) = (values ts l).take k := fold_take (valStep ts) l k
theorem take_get {α : Type} {l : List α} {k : Nat} {v : α} (h : l[k]? = some v) : l.take (k + 1) = l.take k ++ [v] := by
  obtain ⟨hk, rfl⟩ := List.getElem?_eq_some_iff.1 h
  rw [List.take_succ_eq_append_getElem hk]
theorem getD_take {α : Type} (l : List α) (k j : Nat) (d : α) (h : j < k) : (l.take k).getD j d = l.getD j d := by
  rw [List.getD_eq_getElem?_getD, List.getD_eq_getElem?_getD, List.getElem?_take, if_pos h]
/-- The text of node k, by those of its operands. -/
theorem textAt_eq {l : List N} {k : Nat} {v : N} (hv : l[k]? = some v) : textAt l k = textStep ((texts l).take k) v := by
  have hk := (List.getElem?_eq_some_iff.1 hv).1
  have h1 := texts_take l (k + 1)
  rw [take_get hv, texts_snoc, texts_take] at h1
  unfold textAt
  rw [← getD_take (texts l) (k + 1) k [] (by omega), ← h1, List.getD_eq_getElem?_getD, List.getElem?_append_right (by rw [List.length_take, texts_len]; omega), List.length_take, texts_len]
  rw [show k - min k l.length = 0 by omega]; rfl
theorem sizeAt_eq {l : List N} {k : Nat} {v : N} (hv : l[k]? = some v) : sizeAt l k = sizeStep ((sizes l).take k) v := by
  have hk := (List.getElem?_eq_some_iff.1 hv).1
  have h1 := sizes_take l (k + 1)
  rw [take_get hv, sizes_snoc, sizes_take] at h1
  unfold sizeAt
  rw [← getD_take (sizes l) (k + 1) k 0 (by omega), ← h1, List.getD_eq_getElem?_getD, List.getElem?_append_right (by rw [List.length_take, sizes_len]; omega), List.length_take, sizes_len]
  rw [show k - min k l.length = 0 by omega]; rfl
theorem valAt_eq {ts : List Int} {l : List N} {k : Nat} {v : N} (hv : l[k]? = some v) : (values ts l).getD k false = valStep ts ((values ts l).take k) v := by
  have hk := (List.getElem?_eq_some_iff.1 hv).1
  have h1 := values_take ts l (k + 1)
  rw [take_get hv, values_snoc, values_take] at h1
  rw [← getD_take (values ts l) (k + 1) k false (by omega), ← h1, List.getD_eq_getElem?_getD, List.getElem?_append_right (by rw [List.length_take, values_len]; omega), List.length_take, values_len]
  rw [show k - min k l.length = 0 by omega]; rfl
/-- A node's kinds, in a well-formed circuit. -/
inductive Kind (l : List N) : Nat → Prop
  | zero : l[0]? = some zero → Kind l 0
  | one : l[1]? = some one → Kind l 1
  | var {k : Nat} {v : N} : l[k]? = some v → 2 ≤ k → v.o = 2 → 0 ≤ v.a → v.b = 0 → Kind l k
  | two {k : Nat} {v : N} (a b : Nat) : l[k]? = some v → 2 ≤ k → (v.o = 3 ∨ v.o = 4) → v.a = a → v.b = b → 2 ≤ a → a < b → b < k → Kind l k
theorem Good.kind {l : List N} (h : Good l) {k : Nat} (hk : k < l.length) : Kind l k := by
  by_cases h0 : k = 0
  · subst h0; exact Kind.zero h.z
  · by_cases h1 : k = 1
    · subst h1; exact Kind.one h.o
    · have hv : l[k]? = some l[k] := List.getElem?_eq_getElem hk
      have hok := h.ok k _ (by omega) hv
      rcases ok_kind hok with h2 | h2
      · obtain ⟨h3, h4⟩ := ok_leaf hok h2
        exact Kind.var hv (by omega) h2 h3 h4
      · obtain ⟨h3, h4, h5⟩ := ok_two hok h2
        exact Kind.two l[k].a.toNat l[k].b.toNat hv (by omega) h2 (by omega) (by omega) (by omega) (by omega) (by omega)
theorem text_zero {l : List N} (h : l[0]? = some zero) : textAt l 0 = [48] := by rw [textAt_eq h]; rfl
theorem text_one {l : List N} (h : l[1]? = some one) : textAt l 1 = [49] := by rw [textAt_eq h]; rfl
theorem text_var {l : List N} {k : Nat} {v : N} (h : l[k]? = some v) (h2 : v.o = 2) : textAt l k = 120 :: itoa v.a := by
  rw [textAt_eq h]; unfold textStep; rw [if_neg (by omega), if_neg (by omega), if_pos h2]
theorem text_two {l : List N} {k : Nat} {v : N} {a b : Nat} (h : l[k]? = some v) (h2 : v.o = 3 ∨ v.o = 4) (ha : v.a = a) (hb : v.b = b) (hak : a < k) (hbk : b < k) : textAt l k = 40 :: textAt l a ++ opB v.o ++ textAt l b ++ [41] := by
  rw [textAt_eq h]; unfold textStep
  rw [if_neg (by omega), if_neg (by omega), if_neg (by omega), ha, hb, Int.toNat_natCast, Int.toNat_natCast, getD_take _ _ _ _ hak, getD_take _ _ _ _ hbk]
  rfl
theorem size_one {l : List N} {k : Nat} {v : N} (h : l[k]? = some v) (h2 : ¬ v.o = 2) (h3 : ¬ (v.o = 3 ∨ v.o = 4)) : sizeAt l k = 1 := by
  rw [sizeAt_eq h]; unfold sizeStep; rw [if_neg h2, if_neg h3]
theorem size_var {l : List N} {k : Nat} {v : N} (h : l[k]? = some v) (h2 : v.o = 2) : sizeAt l k = 1 + (itoa v.a).length := by
  rw [sizeAt_eq h]; unfold sizeStep; rw [if_pos h2]
theorem size_two {l : List N} {k : Nat} {v : N} {a b : Nat} (h : l[k]? = some v) (h2 : v.o = 3 ∨ v.o = 4) (ha : v.a = a) (hb : v.b = b) (hak : a < k) (hbk : b < k) : sizeAt l k = min (sizeAt l a + sizeAt l b + 5) 8001 := by
  rw [sizeAt_eq h]; unfold sizeStep
  rw [if_neg (by omega), if_pos h2, ha, hb, Int.toNat_natCast, Int.toNat_natCast, getD_take _ _ _ _ hak, getD_take _ _ _ _ hbk]
  rfl
theorem opB_len (o : Int) : (opB o).length = 3 := by unfold opB; split <;> rfl
theorem dec_len (u : Nat) (h : u < 10000000000000000000) : 1 ≤ (decDigits u).length ∧ (decDigits u).length ≤ 19 := by
  have key : ∀ (j u : Nat), u < 10 ^ (j + 1) → (decDigits u).length ≤ j + 1 := by
    intro j
    induction j with
    | zero => intro u hu; rw [dec_one (by simpa using hu)]; simp
    | succ j ih =>
      intro u hu
      by_cases hs : u < 10
      · rw [dec_one hs]; simp
      · rw [dec_more hs, List.length_append]
        have := ih (u / 10) (by rw [Nat.pow_succ] at hu; omega)
        simp; omega
  refine ⟨?_, key 18 u (by rw [show 10 ^ (18 + 1) = 10000000000000000000 from rfl]; exact h)⟩
  have := dec_ne u
  cases hd : decDigits u with
  | nil => exact absurd hd this
  | cons a b => simp
theorem min_two (x y : Nat) : min (min (x : Int) 8001 + min (y : Int) 8001 + 5) 8001 = min ((x + y + 5 : Nat) : Int) 8001 := by omega
/-- A size is the length of the text, up to the limit. -/
theorem size_text {l : List N} (h : Good l) (hb : ∀ n ∈ l, n.a < 10000000000000000000) : ∀ k, k < l.length → sizeAt l k = min ((textAt l k).length : Int) 8001 ∧ 1 ≤ (textAt l k).length := by
  intro k
  induction k using Nat.strongRecOn with
  | ind k ih =>
    intro hk
    cases h.kind hk with
    | zero hz => rw [text_zero hz, size_one hz (by decide) (by decide)]; decide
    | one ho => rw [text_one ho, size_one ho (by decide) (by decide)]; decide
    | @var _ v hv _ h2 h3 _ =>
      rw [text_var hv h2, size_var hv h2, itoa_nat h3]
      have := hb v (List.mem_of_getElem? hv)
      have := dec_len v.a.toNat (by omega)
      simp only [List.length_cons]
      omega
    | @two _ v a b hv _ h2 ha hb' h4 h5 h6 =>
      obtain ⟨e1, g1⟩ := ih a (by omega) (by omega)
      obtain ⟨e2, g2⟩ := ih b (by omega) (by omega)
      rw [text_two hv h2 ha hb' (by omega) (by omega), size_two hv h2 ha hb' (by omega) (by omega), e1, e2]
      have el : (40 :: textAt l a ++ opB v.o ++ textAt l b ++ [41]).length = (textAt l a).length + (textAt l b).length + 5 := by
        simp only [List.length_append, List.length_cons, List.length_nil, opB_len]; omega
      rw [el]
      exact ⟨min_two _ _, Nat.le_add_left 1 _⟩
/-- Texts are known by their beginning. -/
theorem text_inj {l : List N} (h : Good l) : ∀ (i j : Nat) (r s : List UInt8), i < l.length → j < l.length → NoDig r → NoDig s → textAt l i ++ r = textAt l j ++ s → i = j ∧ r = s := by
  intro i
  induction i using Nat.strongRecOn with
  | ind i ih =>
    intro j r s hi hj hr hs e
    have hbr : isDig 32 = false ∧ isDig 41 = false := by decide
    cases h.kind hi with
    | zero hz =>
      cases h.kind hj with
      | zero _ => rw [text_zero hz] at e; simp at e; exact ⟨rfl, e⟩
      | one ho => rw [text_zero hz, text_one ho] at e; simp at e
      | var hv _ h2 _ _ => rw [text_zero hz, text_var hv h2] at e; simp at e
      | two a b hv _ h2 ha hb _ _ _ => rw [text_zero hz, text_two hv h2 ha hb (by omega) (by omega)] at e; simp at e
    | one ho =>
      cases h.kind hj with
      | zero hz => rw [text_one ho, text_zero hz] at e; simp at e
      | one _ => rw [text_one ho] at e; simp at e; exact ⟨rfl, e⟩
      | var hv _ h2 _ _ => rw [text_one ho, text_var hv h2] at e; simp at e
      | two a b hv _ h2 ha hb _ _ _ => rw [text_one ho, text_two hv h2 ha hb (by omega) (by omega)] at e; simp at e
    | @var _ v hv _ h2 h3 h4 =>
      cases h.kind hj with
      | zero hz => rw [text_var hv h2, text_zero hz] at e; simp at e
      | one ho => rw [text_var hv h2, text_one ho] at e; simp at e
      | @var _ v' hv' _ h2' h3' h4' =>
        rw [text_var hv h2, text_var hv' h2', itoa_nat h3, itoa_nat h3'] at e
        simp only [List.cons_append, List.cons.injEq, true_and] at e
        obtain ⟨e1, e2⟩ := digs_split (dec_digs _) (dec_digs _) hr hs e
        have ea : v.a = v'.a := by have := dec_inj e1; omega
        have ev : v = v' := by
          cases v; cases v'; simp only at *; subst h2; subst h4; subst ea; rw [h2', h4']
        subst ev
        refine ⟨?_, e2⟩
        exact (List.getElem?_inj hi h.nd).1 (hv.trans hv'.symm)
      | two a b hv' _ h2' ha hb _ _ _ => rw [text_var hv h2, text_two hv' h2' ha hb (by omega) (by omega)] at e; simp at e
    | @two _ v a b hv _ h2 ha hb h5 h6 h7 =>
      cases h.kind hj with
      | zero hz => rw [text_two hv h2 ha hb (by omega) (by omega), text_zero hz] at e; simp at e
      | one ho => rw [text_two hv h2 ha hb (by omega) (by omega), text_one ho] at e; simp at e
      | var hv' _ h2' _ _ => rw [text_two hv h2 ha hb (by omega) (by omega), text_var hv' h2'] at e; simp at e
      | @two _ v' a' b' hv' _ h2' ha' hb' h5' h6' h7' =>
        rw [text_two hv h2 ha hb (by omega) (by omega), text_two hv' h2' ha' hb' (by omega) (by omega)] at e
        simp only [List.cons_append, List.append_assoc, List.cons.injEq, true_and] at e
        have hop : ∀ (o : Int) (t : List UInt8), NoDig (opB o ++ t) := fun o t => by
          unfold opB; split
          · exact noDig_cons hbr.1 _
          · exact noDig_cons hbr.1 _
        obtain ⟨e1, e2⟩ := ih a (by omega) a' _ _ (by omega) (by omega) (hop _ _) (hop _ _) e
        have e3 : v.o = v'.o ∧ textAt l b ++ (41 :: r) = textAt l b' ++ (41 :: s) := by
          rcases h2 with h2 | h2 <;> rcases h2' with h2' | h2' <;> rw [h2, h2'] at e2 ⊢ <;> simp [opB, plusB, timesB] at e2 ⊢
          · exact e2
          · exact e2
        obtain ⟨e4, e5⟩ := ih b (by omega) b' _ _ (by omega) (by omega) (noDig_cons hbr.2 _) (noDig_cons hbr.2 _) e3.2
        have ev : v = v' := by
          cases v; cases v'; simp only at *; obtain ⟨e6, _⟩ := e3; subst e6; subst e1; subst e4; rw [ha, ha', hb, hb']
        subst ev
        exact ⟨(List.getElem?_inj hi h.nd).1 (hv.trans hv'.symm), by simpa using e5⟩
end Cx
end Go.Proofs.YtphmicbpkljmfaaGreat
namespace Go.Proofs.YtphmicbpkljmfaaGreat
set_option linter.unusedVariables false
set_option linter.unusedSimpArgs false
namespace Cx
/-- What one node adds to the marks. -/
def belowStep (l : List N) (bs : List Bool) (k : Nat) : List Bool :=
  match l[k]? with
  | some v => if bs.getD k false && binary v then (bs.set v.a.toNat true).set v.b.toNat true else bs
  | none => bs
/-- The marks behind the nodes below k, from the last on. -/
def belowFrom (l : List N) : Nat → List Bool → List Bool
  | 0, bs => bs
  | k + 1, bs => belowFrom l k (belowStep l bs k)
def below (l : List N) (n : Int) : List Bool := if isIn l n then belowFrom l l.length ((List.replicate l.length false).set n.toNat true) else List.replicate l.length false
theorem belowStep_len (l : List N) (bs : List Bool) (k : Nat) : (belowStep l bs k).length = bs.length := by
  unfold belowStep
  split
  · split <;> simp
  · rfl
theorem belowFrom_len (l : List N) : ∀ (k : Nat) (bs : List Bool), (belowFrom l k bs).length = bs.length
  | 0, _ => rfl
  | k + 1, bs => by unfold belowFrom; rw [belowFrom_len l k, belowStep_len]
theorem below_len (l : List N) (n : Int) : (below l n).length = l.length := by
  unfold below
  split
  · rw [belowFrom_len]; simp
  · simp
/-- A node is reached. -/
inductive Reach (l : List N) (n : Nat) : Nat → Prop
  | refl : Reach l n n
  | left {k : Nat} {v : N} : Reach l n k → l[k]? = some v → (v.o = 3 ∨ v.o = 4) → Reach l n v.a.toNat
  | right {k : Nat} {v : N} : Reach l n k → l[k]? = some v → (v.o = 3 ∨ v.o = 4) → Reach l n v.b.toNat
theorem binary_iff {v : N} : binary v = true ↔ (v.o = 3 ∨ v.o = 4) := by unfold binary; simp
theorem Good.kids {l : List N} (h : Good l) {k : Nat} {v : N} (hv : l[k]? = some v) (h2 : v.o = 3 ∨ v.o = 4) : v.a = v.a.toNat ∧ v.b = v.b.toNat ∧ 2 ≤ v.a.toNat ∧ v.a.toNat < v.b.toNat ∧ v.b.toNat < k := by
  have := h.bin hv h2
  omega
theorem Reach.lt {l : List N} (h : Good l) {n j : Nat} (hn : n < l.length) (hr : Reach l n j) : j ≤ n := by
  induction hr with
  | refl => omega
  | left hr hv h2 ih => have := h.kids hv h2; omega
  | right hr hv h2 ih => have := h.kids hv h2; omega
theorem set_get (bs : List Bool) (i j : Nat) (hi : i < bs.length) : (bs.set i true)[j]? = some true ↔ (j = i ∨ bs[j]? = some true) := by
  rw [List.getElem?_set]
  by_cases e : i = j
  · subst e; simp [hi]
  · rw [if_neg e]
    constructor
    · intro h; exact Or.inr h
    · rintro (h | h)
      · exact absurd h.symm e
      · exact h
theorem getD_true {bs : List Bool} {k : Nat} : bs.getD k false = true ↔ bs[k]? = some true := by
  rw [List.getD_eq_getElem?_getD]
  cases h : bs[k]? with
  | none => simp
  | some b => simp
theorem belowStep_get {l : List N} (h : Good l) {bs : List Bool} (hb : bs.length = l.length) {k : Nat} (hk : k < l.length) {j : Nat} :
    (belowStep l bs k)[j]? = some true ↔ (bs[j]? = some true ∨ (bs[k]? = some true ∧ ∃ v, l[k]? = some v ∧ (v.o = 3 ∨ v.o = 4) ∧ (j = v.a.toNat ∨ j = v.b.toNat))) := by
  have e : l[k]? = some l[k] := List.getElem?_eq_getElem hk
  unfold belowStep
  rw [e]
  simp only
  by_cases hc : (bs.getD k false && binary l[k]) = true
  · rw [if_pos hc]
    rw [Bool.and_eq_true, getD_true, binary_iff] at hc
    have := h.kids e hc.2
    rw [set_get _ _ _ (by simp; omega), set_get _ _ _ (by omega)]
    constructor
    · rintro (h1 | h1 | h1)
      · exact Or.inr ⟨hc.1, _, rfl, hc.2, Or.inr h1⟩
      · exact Or.inr ⟨hc.1, _, rfl, hc.2, Or.inl h1⟩
      · exact Or.inl h1
    · rintro (h1 | ⟨_, v, hv, _, h1 | h1⟩)
      · exact Or.inr (Or.inr h1)
      · obtain rfl := Option.some.inj hv; exact Or.inr (Or.inl h1)
      · obtain rfl := Option.some.inj hv; exact Or.inl h1
  · rw [if_neg hc]
    rw [Bool.and_eq_true, getD_true, binary_iff] at hc
    constructor
    · exact Or.inl
    · rintro (h1 | ⟨h1, v, hv, h2, _⟩)
      · exact h1
      · obtain rfl := Option.some.inj hv; exact absurd ⟨h1, h2⟩ hc
/-- What holds on the way: marked nodes are reached, the kids of those from k on are marked. -/
structure BelowAt (l : List N) (n k : Nat) (bs : List Bool) : Prop where
  len : bs.length = l.length
  here : bs[n]? = some true
  sound : ∀ j, bs[j]? = some true → Reach l n j
  closed : ∀ j v, k ≤ j → bs[j]? = some true → l[j]? = some v → (v.o = 3 ∨ v.o = 4) → bs[v.a.toNat]? = some true ∧ bs[v.b.toNat]? = some true
theorem BelowAt.start {l : List N} {n : Nat} (hn : n < l.length) : BelowAt l n l.length ((List.replicate l.length false).set n true) := by
  have key : ∀ j, ((List.replicate l.length false).set n true)[j]? = some true ↔ j = n := by
    intro j
    rw [set_get _ _ _ (by simpa using hn)]
    constructor
    · rintro (h | h)
      · exact h
      · rw [List.getElem?_replicate] at h; split at h <;> simp at h
    · exact Or.inl
  refine ⟨by simp, (key n).2 rfl, fun j hj => by rw [(key j).1 hj]; exact Reach.refl, fun j v h1 h2 h3 => ?_⟩
  have := (key j).1 h2
  omega
theorem BelowAt.step {l : List N} (h : Good l) {n k : Nat} {bs : List Bool} (hk : k < l.length) (hB : BelowAt l n (k + 1) bs) : BelowAt l n k (belowStep l bs k) := by
  have key := fun j => belowStep_get h hB.len hk (j := j)
  refine ⟨by rw [belowStep_len]; exact hB.len, (key n).2 (Or.inl hB.here), fun j hj => ?_, fun j v h1 h2 h3 h4 => ?_⟩
  · rcases (key j).1 hj with h1 | ⟨h1, v, hv, h2, rfl | rfl⟩
    · exact hB.sound j h1
    · exact Reach.left (hB.sound k h1) hv h2
    · exact Reach.right (hB.sound k h1) hv h2
  · rcases (key j).1 h2 with h5 | ⟨h5, v', hv', h6, h7⟩
    · rcases Nat.lt_or_ge k j with h8 | h8
      · have := hB.closed j v (by omega) h5 h3 h4
        exact ⟨(key _).2 (Or.inl this.1), (key _).2 (Or.inl this.2)⟩
      · have : j = k := by omega
        subst this
        exact ⟨(key _).2 (Or.inr ⟨h5, v, h3, h4, Or.inl rfl⟩), (key _).2 (Or.inr ⟨h5, v, h3, h4, Or.inr rfl⟩)⟩
    · have := h.kids hv' h6
      have : j < k := by omega
      omega
theorem belowFrom_at {l : List N} (h : Good l) {n : Nat} : ∀ (k : Nat) (bs : List Bool), k ≤ l.length → BelowAt l n k bs → BelowAt l n 0 (belowFrom l k bs)
  | 0, bs, _, hB => hB
  | k + 1, bs, hk, hB => by
    unfold belowFrom
    exact belowFrom_at h k _ (by omega) (hB.step h (by omega))
theorem below_iff {l : List N} (h : Good l) {n : Nat} (hn : n < l.length) (j : Nat) : (below l n)[j]? = some true ↔ Reach l n j := by
  have hi : isIn l n = true := by unfold isIn; simp; omega
  unfold below
  rw [if_pos hi, Int.toNat_natCast]
  have hB := belowFrom_at h l.length _ (Nat.le_refl _) (BelowAt.start hn)
  constructor
  · exact hB.sound j
  · intro hr
    induction hr with
    | refl => exact hB.here
    | left hr hv h2 ih => exact (hB.closed _ _ (by omega) ih hv h2).1
    | right hr hv h2 ih => exact (hB.closed _ _ (by omega) ih hv h2).2
/-- A number put into an ordered list. -/
def ins (x : Int) : List Int → List Int
  | [] => [x]
  | y :: r => if y < x then y :: ins x r else x :: y :: r
/-- Where it is put. -/
def insAt (x : Int) (out : List Int) : Nat := (out.takeWhile (fun y => decide (y < x))).length
theorem ins_eq (x : Int) (out : List Int) : ins x out = out.take (insAt x out) ++ x :: out.drop (insAt x out) := by
  induction out with
  | nil => rfl
  | cons y r ih =>
    unfold ins insAt
    by_cases h : y < x
    · rw [if_pos h, List.takeWhile_cons, if_pos (by simpa using h)]
      simp only [List.length_cons, List.take_succ_cons, List.drop_succ_cons, List.cons_append]
      rw [ih]; rfl
    · rw [if_neg h, List.takeWhile_cons, if_neg (by simpa using h)]; rfl
theorem ins_perm (x : Int) (out : List Int) : (ins x out).Perm (x :: out) := by
  induction out with
  | nil => exact List.Perm.refl _
  | cons y r ih =>
    unfold ins
    split
    · exact (ih.cons y).trans (List.Perm.swap x y r)
    · exact List.Perm.refl _
theorem ins_sorted (x : Int) (out : List Int) (h : out.Pairwise (· ≤ ·)) : (ins x out).Pairwise (· ≤ ·) := by
  induction out with
  | nil => simp [ins]
  | cons y r ih =>
    rw [List.pairwise_cons] at h
    unfold ins
    split
    · rename_i hlt
      rw [List.pairwise_cons]
      refine ⟨fun z hz => ?_, ih h.2⟩
      have := (ins_perm x r).mem_iff.1 hz
      rcases List.mem_cons.1 this with rfl | h'
      · omega
      · exact h.1 z h'
    · rename_i hge
      rw [List.pairwise_cons, List.pairwise_cons]
      refine ⟨fun z hz => ?_, h.1, h.2⟩
      rcases List.mem_cons.1 hz with rfl | h'
      · omega
      · have := h.1 z h'; omega
/-- The variable of a node, if it is one and is marked. -/
def varOf (l : List N) (k : Nat) : Option Int := match l[k]? with | some v => if v.o = 2 then some v.a else none | none => none
def varsStep (l : List N) (bs : List Bool) (out : List Int) (k : Nat) : List Int :=
  if bs.getD k false then (match varOf l k with | some x => ins x out | none => out) else out
def vars (l : List N) (n : Int) : List Int := (List.range l.length).foldl (varsStep l (below l n)) []
def varsTo (l : List N) (bs : List Bool) (k : Nat) : List Int := (List.range k).foldl (varsStep l bs) []
theorem varsTo_succ (l : List N) (bs : List Bool) (k : Nat) : varsTo l bs (k + 1) = varsStep l bs (varsTo l bs k) k := by
  unfold varsTo; rw [List.range_succ, List.foldl_append]; rfl
theorem varsTo_perm (l : List N) (bs : List Bool) (k : Nat) : (varsTo l bs k).Perm (((List.range k).filter fun j => bs.getD j false).filterMap (varOf l)) := by
  induction k with
  | zero => exact List.Perm.refl _
  | succ k ih =>
    rw [varsTo_succ, List.range_succ, List.filter_append, List.filterMap_append]
    unfold varsStep
    have e1 : ∀ b : Bool, bs.getD k false = b → ([k].filter fun j => bs.getD j false) = if b = true then [k] else [] := fun b hb => by
      rw [List.filter_cons, hb]; rfl
    by_cases h : bs.getD k false = true
    · rw [if_pos h, e1 true h, if_pos rfl]
      cases hv : varOf l k with
      | none => rw [List.filterMap_cons, hv]; simpa only [List.filterMap_nil, List.append_nil] using ih
      | some x =>
        rw [List.filterMap_cons, hv]
        exact (ins_perm x _).trans ((ih.cons x).trans (List.perm_append_comm (l₁ := [x])))
    · rw [if_neg h, e1 false (by simpa using h), if_neg (by decide)]
      simpa only [List.filterMap_nil, List.append_nil] using ih
theorem varsTo_sorted (l : List N) (bs : List Bool) (k : Nat) : (varsTo l bs k).Pairwise (· ≤ ·) := by
  induction k with
  | zero => simp [varsTo]
  | succ k ih =>
    rw [varsTo_succ]
    unfold varsStep
    split
    · split
      · exact ins_sorted _ _ ih
      · exact ih
    · exact ih
theorem vars_to (l : List N) (n : Int) : vars l n = varsTo l (below l n) l.length := rfl
theorem sorted_unique : ∀ (a b : List Int), a.Pairwise (· ≤ ·) → b.Pairwise (· ≤ ·) → a.Perm b → a = b := by
  intro a b ha hb hp
  exact hp.eq_of_pairwise (fun x y _ _ h1 h2 => by omega) ha hb
/-- The nodes that a walk through the circuit has seen. -/
structure Seen (l : List N) (n : Nat) (done open_ : List Nat) : Prop where
  nd : (done ++ open_).Nodup
  here : n ∈ done ++ open_
  sound : ∀ j ∈ done ++ open_, Reach l n j
  closed : ∀ j v, j ∈ done → l[j]? = some v → (v.o = 3 ∨ v.o = 4) → v.a.toNat ∈ done ++ open_ ∧ v.b.toNat ∈ done ++ open_
theorem Seen.start (l : List N) (n : Nat) : Seen l n [] [n] := ⟨by simp, by simp, fun j hj => by simp at hj; subst hj; exact Reach.refl, fun j v h => by cases h⟩
theorem Seen.final {l : List N} {n : Nat} {done : List Nat} (h : Seen l n done []) (j : Nat) : j ∈ done ↔ Reach l n j := by
  have e : done ++ [] = done := List.append_nil _
  constructor
  · intro hj; exact h.sound j (by rw [e]; exact hj)
  · intro hr
    induction hr with
    | refl => have := h.here; rw [e] at this; exact this
    | left hr hv h2 ih => have := (h.closed _ _ ih hv h2).1; rw [e] at this; exact this
    | right hr hv h2 ih => have := (h.closed _ _ ih hv h2).2; rw [e] at this; exact this
theorem Seen.vars {l : List N} (hg : Good l) {n : Nat} (hn : n < l.length) {done : List Nat} (h : Seen l n done []) {out : List Int} (hp : out.Perm (done.filterMap (varOf l))) (hs : out.Pairwise (· ≤ ·)) : out = vars l n := by
  refine sorted_unique _ _ hs (by rw [vars_to]; exact varsTo_sorted _ _ _) (hp.trans ?_)
  rw [vars_to]
  refine List.Perm.trans ?_ (varsTo_perm l (below l n) l.length).symm
  refine List.Perm.filterMap _ ?_
  refine (List.perm_ext_iff_of_nodup (by have := h.nd; rw [List.append_nil] at this; exact this) (List.nodup_range.filter _)).2 fun j => ?_
  rw [h.final, List.mem_filter, List.mem_range, ← below_iff hg hn j]
  rw [getD_true]
  constructor
  · intro hj
    refine ⟨?_, hj⟩
    have := (List.getElem?_eq_some_iff.1 hj).1
    rwa [below_len] at this
  · exact fun h => h.2
end Cx
end Go.Proofs.YtphmicbpkljmfaaGreat
namespace Go.Proofs.YtphmicbpkljmfaaGreat
set_option linter.unusedVariables false
set_option linter.unusedSimpArgs false
namespace Cx
/-- A walk whose last node k has had the first j of its operands looked at. -/
structure Part (l : List N) (n : Nat) (done open_ : List Nat) (k : Nat) (ks : List Nat) (j : Nat) : Prop where
  nd : (done ++ open_).Nodup
  here : n ∈ done ++ open_
  sound : ∀ i ∈ done ++ open_, Reach l n i
  closed : ∀ i v, i ∈ done → i ≠ k → l[i]? = some v → (v.o = 3 ∨ v.o = 4) → v.a.toNat ∈ done ++ open_ ∧ v.b.toNat ∈ done ++ open_
  kids : ∀ i x, i < j → ks[i]? = some x → x ∈ done ++ open_
theorem Seen.pop {l : List N} {n k : Nat} {done open_ : List Nat} (h : Seen l n done (open_ ++ [k])) (ks : List Nat) : Part l n (done ++ [k]) open_ k ks 0 := by
  have hp : (done ++ (open_ ++ [k])).Perm (done ++ [k] ++ open_) := by
    rw [List.append_assoc]
    exact List.Perm.append_left _ List.perm_append_comm
  refine ⟨hp.nodup_iff.1 h.nd, hp.mem_iff.1 h.here, fun i hi => h.sound i (hp.mem_iff.2 hi), fun i v hi hne hv h2 => ?_, fun i x hi => absurd hi (by omega)⟩
  have hi' : i ∈ done := by
    rcases List.mem_append.1 hi with h | h
    · exact h
    · simp at h; exact absurd h hne
  have := h.closed i v hi' hv h2
  exact ⟨hp.mem_iff.1 this.1, hp.mem_iff.1 this.2⟩
theorem Part.leaf {l : List N} {n k : Nat} {done open_ ks : List Nat} {j : Nat} {v : N} (h : Part l n done open_ k ks j) (hv : l[k]? = some v) (h2 : ¬ (v.o = 3 ∨ v.o = 4)) : Seen l n done open_ := by
  refine ⟨h.nd, h.here, h.sound, fun i v' hi hv' h2' => ?_⟩
  by_cases e : i = k
  · subst e; rw [hv] at hv'; obtain rfl := Option.some.inj hv'; exact absurd h2' h2
  · exact h.closed i v' hi e hv' h2'
theorem Part.full {l : List N} {n k a b : Nat} {done open_ : List Nat} {v : N} (h : Part l n done open_ k [a, b] 2) (hv : l[k]? = some v) (ha : v.a = a) (hb : v.b = b) : Seen l n done open_ := by
  refine ⟨h.nd, h.here, h.sound, fun i v' hi hv' h2' => ?_⟩
  by_cases e : i = k
  · subst e
    rw [hv] at hv'; obtain rfl := Option.some.inj hv'
    rw [ha, hb, Int.toNat_natCast, Int.toNat_natCast]
    exact ⟨h.kids 0 a (by omega) rfl, h.kids 1 b (by omega) rfl⟩
  · exact h.closed i v' hi e hv' h2'
theorem Part.have_ {l : List N} {n k x : Nat} {done open_ ks : List Nat} {j : Nat} (h : Part l n done open_ k ks j) (hx : ks[j]? = some x) (hm : x ∈ done ++ open_) : Part l n done open_ k ks (j + 1) :=
  ⟨h.nd, h.here, h.sound, h.closed, fun i y hi hy => by
    by_cases e : i = j
    · subst e; rw [hx] at hy; obtain rfl := Option.some.inj hy; exact hm
    · exact h.kids i y (by omega) hy⟩
theorem Part.push {l : List N} {n k x : Nat} {done open_ ks : List Nat} {j : Nat} (h : Part l n done open_ k ks j) (hx : ks[j]? = some x) (hm : x ∉ done ++ open_) (hr : Reach l n x) : Part l n done (open_ ++ [x]) k ks (j + 1) := by
  have e : done ++ (open_ ++ [x]) = done ++ open_ ++ [x] := (List.append_assoc _ _ _).symm
  refine ⟨?_, ?_, fun i hi => ?_, fun i v hi hne hv h2 => ?_, fun i y hi hy => ?_⟩
  · rw [e, List.nodup_append]
    exact ⟨h.nd, by simp, fun a ha b hb heq => by simp at hb; subst hb; subst heq; exact hm ha⟩
  · rw [e]; exact List.mem_append_left _ h.here
  · rw [e] at hi
    rcases List.mem_append.1 hi with hi | hi
    · exact h.sound i hi
    · simp at hi; subst hi; exact hr
  · rw [e]
    have := h.closed i v hi hne hv h2
    exact ⟨List.mem_append_left _ this.1, List.mem_append_left _ this.2⟩
  · rw [e]
    by_cases e' : i = j
    · subst e'; rw [hx] at hy; obtain rfl := Option.some.inj hy; simp
    · exact List.mem_append_left _ (h.kids i y (by omega) hy)
/-- A list of different nodes is not longer than the circuit. -/
theorem nodup_le {L : List Nat} {m : Nat} (h : L.Nodup) (hb : ∀ i ∈ L, i < m) : L.length ≤ m := by
  induction m generalizing L with
  | zero =>
    cases L with
    | nil => simp
    | cons a r => have := hb a (by simp); omega
  | succ m ih =>
    have h1 := ih (h.erase m) (fun i hi => by
      have hm := List.mem_of_mem_erase hi
      have := hb i hm
      have hne : i ≠ m := fun e => by subst e; exact (h.not_mem_erase) hi
      omega)
    have h2 := List.length_erase (a := m) (l := L)
    split at h2 <;> omega
theorem filterMap_snoc {α β : Type} (f : α → Option β) (l : List α) (x : α) : (l ++ [x]).filterMap f = l.filterMap f ++ (f x).toList := by
  rw [List.filterMap_append]
  cases h : f x <;> simp [h]
end Cx
/-- A set of numbers as a function on the machine's numbers. -/
def Marks (S : List Nat) (f : Int → Option Bool) : Prop := ∀ y : Nat, (f y).getD false = S.contains y
theorem Marks.more {S : List Nat} {f : Int → Option Bool} (h : Marks S f) (x : Nat) : Marks (S ++ [x]) (fun y => if y = (x : Int) then some true else f y) := by
  intro y
  show (if (y : Int) = (x : Int) then some true else f y).getD false = _
  by_cases e : y = x
  · subst e; simp
  · rw [if_neg (by omega), h y]; simp [e]
theorem Marks.perm {S T : List Nat} {f : Int → Option Bool} (h : Marks S f) (hp : S.Perm T) : Marks T f := by
  intro y
  rw [h y, Bool.eq_iff_iff]
  simp [hp.mem_iff]
end Go.Proofs.YtphmicbpkljmfaaGreat
namespace Go.Proofs.YtphmicbpkljmfaaGreat
set_option linter.unusedVariables false
set_option linter.unusedSimpArgs false
namespace Cx
theorem validFrom_of : ∀ (r : List N) (i : Nat) (seen : List N), (∀ (k : Nat) (v : N), r[k]? = some v → okB v ((i + k : Nat) : Int) = true) → (seen ++ r).Nodup → validFrom seen r i = true
  | [], _, _, _, _ => rfl
  | n :: r, i, seen, h, hd => by
    unfold validFrom
    rw [show okB n (i : Int) = true from by simpa using h 0 n rfl, validFrom_of r (i + 1) (seen ++ [n]) (fun k v hv => by have := h (k + 1) v hv; rwa [show i + (k + 1) = i + 1 + k by omega] at this) (by simpa using hd)]
    have : n ∉ seen := by
      rw [List.nodup_append] at hd
      intro hn
      exact hd.2.2 n hn n (by simp) rfl
    simpa using this
theorem Good.valid {l : List N} (h : Good l) (hl : l.length ≤ 20000) : valid l = true := by
  unfold Cx.valid
  have h2 := h.more
  rw [validFrom_of (l.drop 2) 2 [] (fun k v hv => h.ok (2 + k) v (by omega) (by rw [List.getElem?_drop] at hv; exact hv)) (by simpa using h.nd.sublist (List.drop_sublist 2 l))]
  simp [h.z, h.o, h2, hl]
theorem eval_in {l : List N} {k : Nat} (h : k < l.length) (ts : List Int) : eval l (k : Int) ts = (values ts l).getD k false := by
  unfold eval isIn
  simp [h]
theorem values_app (ts : List Int) (l t : List N) {k : Nat} (h : k < l.length) : (values ts (l ++ t)).getD k false = (values ts l).getD k false := by
  have h1 := values_take ts (l ++ t) l.length
  rw [List.take_left] at h1
  rw [h1, getD_take _ _ _ _ h]
theorem eval_app (ts : List Int) (l t : List N) {k : Nat} (h : k < l.length) : eval (l ++ t) (k : Int) ts = eval l (k : Int) ts := by
  rw [eval_in h, eval_in (by simp; omega), values_app ts l t h]
theorem val_zero {l : List N} (h : l[0]? = some zero) (ts : List Int) : (values ts l).getD 0 false = false := by rw [valAt_eq h]; rfl
theorem val_one {l : List N} (h : l[1]? = some one) (ts : List Int) : (values ts l).getD 1 false = true := by rw [valAt_eq h]; rfl
theorem val_var {l : List N} {k : Nat} {v : N} (h : l[k]? = some v) (h2 : v.o = 2) (ts : List Int) : (values ts l).getD k false = ts.contains v.a := by
  rw [valAt_eq h]; unfold valStep; rw [if_neg (by omega), if_pos h2]
def opV (o : Int) (x y : Bool) : Bool := if o = 3 then x || y else x && y
theorem step_two {vs : List Bool} {n : N} {ts : List Int} (h2 : n.o = 3 ∨ n.o = 4) : valStep ts vs n = opV n.o (vs.getD n.a.toNat false) (vs.getD n.b.toNat false) := by
  unfold valStep opV
  rcases h2 with h2 | h2 <;> simp [h2]
theorem val_two {l : List N} {k : Nat} {v : N} {a b : Nat} (h : l[k]? = some v) (h2 : v.o = 3 ∨ v.o = 4) (ha : v.a = a) (hb : v.b = b) (hak : a < k) (hbk : b < k) (ts : List Int) : (values ts l).getD k false = opV v.o ((values ts l).getD a false) ((values ts l).getD b false) := by
  rw [valAt_eq h, step_two h2, ha, hb, Int.toNat_natCast, Int.toNat_natCast, getD_take _ _ _ _ hak, getD_take _ _ _ _ hbk]
/-- What a circuit with some nodes more has. -/
structure Grow (l m : List N) : Prop where
  good : Good m
  ext : ∃ t, m = l ++ t
  len : m.length ≤ l.length + 1
theorem Grow.refl {l : List N} (h : Good l) : Grow l l := ⟨h, ⟨[], by simp⟩, by omega⟩
theorem Grow.le {l m : List N} (h : Grow l m) : l.length ≤ m.length := by obtain ⟨t, rfl⟩ := h.ext; simp
theorem Grow.eval {l m : List N} (h : Grow l m) {k : Nat} (hk : k < l.length) (ts : List Int) : eval m (k : Int) ts = Cx.eval l (k : Int) ts := by
  obtain ⟨t, rfl⟩ := h.ext; exact eval_app ts l t hk
/-- A node that is put in: its index, and its value. -/
theorem put_val {l : List N} (h : Good l) (hl : l.length < 20000) {n : N} (hn : okB n l.length = true) : Grow l (put l n).1 ∧ ∃ k : Nat, (put l n).2 = (k : Int) ∧ (put l n).1[k]? = some n ∧ ∀ ts, eval (put l n).1 (k : Int) ts = valStep ts (values ts l) n := by
  have hgood := h.put hn
  unfold Cx.put at hgood ⊢
  cases e : idx l n with
  | some i =>
    obtain ⟨hv, hi⟩ := idx_some e
    refine ⟨Grow.refl h, i, rfl, hv, fun ts => ?_⟩
    rw [eval_in hi, valAt_eq hv]
    rcases ok_kind hn with h2 | h2
    · unfold valStep; simp [h2]
    · have hb := h.bin hv h2
      rw [step_two h2, step_two h2, getD_take _ _ _ _ (by omega), getD_take _ _ _ _ (by omega)]
  | none =>
    simp only [e, hl, if_true] at hgood ⊢
    refine ⟨⟨hgood, ⟨[n], rfl⟩, by simp⟩, l.length, rfl, by simp, fun ts => ?_⟩
    rw [eval_in (by simp), values_snoc, List.getD_eq_getElem?_getD, List.getElem?_append_right (by rw [values_len]; omega), values_len]
    simp
theorem var_val {l : List N} (h : Good l) (hl : l.length < 20000) {x : Int} (hx : 0 ≤ x) : Grow l (var l x).1 ∧ ∃ k : Nat, (var l x).2 = (k : Int) ∧ (var l x).1[k]? = some ⟨2, x, 0⟩ := by
  unfold Cx.var
  rw [if_neg (by omega)]
  obtain ⟨h1, k, h2, h3, _⟩ := put_val h hl (n := ⟨2, x, 0⟩) (by unfold okB leafB; simp; left; omega)
  exact ⟨h1, k, h2, h3⟩
theorem isIn_nat {l : List N} {k : Nat} (h : k < l.length) : isIn l (k : Int) = true := by unfold isIn; simp [h]
theorem isIn_get {l : List N} {a : Int} (h : isIn l a = true) : ∃ k : Nat, a = (k : Int) ∧ k < l.length := by
  unfold isIn at h
  simp only [Bool.and_eq_true, decide_eq_true_eq] at h
  exact ⟨a.toNat, by omega, by omega⟩
theorem two_val {l : List N} (h : Good l) (hl : l.length < 20000) {a b : Nat} (ha : a < l.length) (hb : b < l.length) {op z o : Int} (hop : op = 3 ∧ z = 0 ∧ o = 1 ∨ op = 4 ∧ z = 1 ∧ o = 0) :
    Grow l (two l op a b z o).1 ∧ ∃ k : Nat, (two l op a b z o).2 = (k : Int) ∧ k < (two l op a b z o).1.length ∧ ∀ ts, eval (two l op a b z o).1 (k : Int) ts = opV op (eval l (a : Int) ts) (eval l (b : Int) ts) := by
  have e0 : ∀ ts, eval l ((0 : Nat) : Int) ts = false := fun ts => by rw [eval_in (by have := h.more; omega), val_zero h.z]
  have e1 : ∀ ts, eval l ((1 : Nat) : Int) ts = true := fun ts => by rw [eval_in (by have := h.more; omega), val_one h.o]
  have hm := h.more
  unfold Cx.two
  rw [if_neg (by simp [isIn_nat ha, isIn_nat hb])]
  split
  · refine ⟨Grow.refl h, o.toNat, by omega, (by show o.toNat < l.length; omega), fun ts => ?_⟩
    rename_i hc
    rcases hop with ⟨rfl, rfl, rfl⟩ | ⟨rfl, rfl, rfl⟩
    · rw [show ((1 : Int).toNat) = 1 from rfl, e1]
      rcases hc with hc | hc
      · rw [hc, show (1 : Int) = ((1 : Nat) : Int) from rfl, e1]; rfl
      · rw [hc, show (1 : Int) = ((1 : Nat) : Int) from rfl, e1]; simp [opV]
    · rw [show ((0 : Int).toNat) = 0 from rfl, e0]
      rcases hc with hc | hc
      · rw [hc, show (0 : Int) = ((0 : Nat) : Int) from rfl, e0]; rfl
      · rw [hc, show (0 : Int) = ((0 : Nat) : Int) from rfl, e0]; simp [opV]
  · rename_i hc
    split
    · refine ⟨Grow.refl h, a, rfl, ha, fun ts => ?_⟩
      rename_i hd
      rcases hd with hd | hd
      · rw [← hd]; unfold opV; split <;> simp
      · rcases hop with ⟨rfl, rfl, rfl⟩ | ⟨rfl, rfl, rfl⟩
        · rw [hd, show (0 : Int) = ((0 : Nat) : Int) from rfl, e0]; simp [opV]
        · rw [hd, show (1 : Int) = ((1 : Nat) : Int) from rfl, e1]; simp [opV]
    · rename_i hd
      split
      · refine ⟨Grow.refl h, b, rfl, hb, fun ts => ?_⟩
        rename_i he
        rcases hop with ⟨rfl, rfl, rfl⟩ | ⟨rfl, rfl, rfl⟩
        · rw [he, show (0 : Int) = ((0 : Nat) : Int) from rfl, e0]; simp [opV]
        · rw [he, show (1 : Int) = ((1 : Nat) : Int) from rfl, e1]; simp [opV]
      · rename_i he
        have hn : okB ⟨op, min (a : Int) b, max (a : Int) b⟩ l.length = true := by
          unfold okB leafB binary
          rcases hop with ⟨rfl, rfl, rfl⟩ | ⟨rfl, rfl, rfl⟩ <;> simp <;> omega
        obtain ⟨h1, k, h2, h3, h4⟩ := put_val h hl hn
        refine ⟨h1, k, h2, (List.getElem?_eq_some_iff.1 h3).1, fun ts => ?_⟩
        rw [h4, step_two (by rcases hop with ⟨h, _⟩ | ⟨h, _⟩ <;> simp [h]), eval_in ha, eval_in hb]
        rcases Nat.lt_or_ge a b with hab | hab
        · rw [show min (a : Int) b = a by omega, show max (a : Int) b = b by omega]; rfl
        · rw [show min (a : Int) b = b by omega, show max (a : Int) b = a by omega]
          simp only [Int.toNat_natCast]
          unfold opV
          split
          · exact Bool.or_comm _ _
          · exact Bool.and_comm _ _
theorem plus_val {l : List N} (h : Good l) (hl : l.length < 20000) {a b : Nat} (ha : a < l.length) (hb : b < l.length) :
    Grow l (plus l a b).1 ∧ ∃ k : Nat, (plus l a b).2 = (k : Int) ∧ k < (plus l a b).1.length ∧ ∀ ts, eval (plus l a b).1 (k : Int) ts = (eval l (a : Int) ts || eval l (b : Int) ts) :=
  two_val h hl ha hb (Or.inl ⟨rfl, rfl, rfl⟩)
theorem times_val {l : List N} (h : Good l) (hl : l.length < 20000) {a b : Nat} (ha : a < l.length) (hb : b < l.length) :
    Grow l (times l a b).1 ∧ ∃ k : Nat, (times l a b).2 = (k : Int) ∧ k < (times l a b).1.length ∧ ∀ ts, eval (times l a b).1 (k : Int) ts = (eval l (a : Int) ts && eval l (b : Int) ts) :=
  two_val h hl ha hb (Or.inr ⟨rfl, rfl, rfl⟩)
/-- The same node again: nothing is put in. -/
theorem idx_of {l : List N} (h : l.Nodup) {k : Nat} {n : N} (hv : l[k]? = some n) : idx l n = some k := by
  cases e : idx l n with
  | none => exact absurd (List.mem_of_getElem? hv) (idx_not e)
  | some i =>
    obtain ⟨h1, h2⟩ := idx_some e
    have hk := (List.getElem?_eq_some_iff.1 hv).1
    have hp := List.pairwise_iff_getElem.1 h
    have a1 := (List.getElem?_eq_some_iff.1 h1).2
    have a2 := (List.getElem?_eq_some_iff.1 hv).2
    have : i = k := by
      rcases Nat.lt_trichotomy i k with h3 | h3 | h3
      · exact absurd (a1.trans a2.symm) (hp i k h2 hk h3)
      · exact h3
      · exact absurd (a2.trans a1.symm) (hp k i hk h2 h3)
    rw [this]
theorem put_again {l : List N} (h : l.Nodup) {k : Nat} {n : N} (hv : l[k]? = some n) : put l n = (l, (k : Int)) := by
  unfold Cx.put; rw [idx_of h hv]
theorem var_again {l : List N} (h : Good l) (hl : l.length < 20000) {x : Int} (hx : 0 ≤ x) : var (var l x).1 x = var l x := by
  obtain ⟨h1, k, h2, h3⟩ := var_val h hl hx
  obtain ⟨R, hR⟩ : ∃ R, R = var l x := ⟨_, rfl⟩
  rw [← hR] at h1 h2 h3 ⊢
  unfold Cx.var
  rw [if_neg (by omega), put_again h1.good.nd h3, ← h2]
theorem two_again {l : List N} (h : Good l) (hl : l.length < 20000) {a b : Nat} (ha : a < l.length) (hb : b < l.length) {op z o : Int} (hop : op = 3 ∧ z = 0 ∧ o = 1 ∨ op = 4 ∧ z = 1 ∧ o = 0) :
    two (two l op a b z o).1 op b a z o = two l op a b z o := by
  have hg := (two_val h hl ha hb hop).1
  have hle := hg.le
  obtain ⟨R, hR⟩ : ∃ R, R = two l op a b z o := ⟨_, rfl⟩
  rw [← hR] at hg hle ⊢
  unfold Cx.two at hR
  rw [if_neg (by simp [isIn_nat ha, isIn_nat hb])] at hR
  unfold Cx.two
  rw [if_neg (by simp [isIn_nat (show a < R.1.length by omega), isIn_nat (show b < R.1.length by omega)])]
  by_cases hc : (a : Int) = o ∨ (b : Int) = o
  · rw [if_pos hc] at hR
    rw [if_pos hc.symm, hR]
  · rw [if_neg hc] at hR
    rw [if_neg (fun e => hc e.symm)]
    by_cases hd : (a : Int) = b ∨ (b : Int) = z
    · rw [if_pos hd] at hR
      subst hR
      by_cases h3 : (a : Int) = b
      · rw [if_pos (Or.inl h3.symm), h3]
      · have h4 : (b : Int) = z := by rcases hd with hd | hd; exact absurd hd h3; exact hd
        by_cases h5 : (a : Int) = z
        · exact absurd (h5.trans h4.symm) h3
        · rw [if_neg (by rintro (e | e); exact h3 e.symm; exact h5 e), if_pos h4]
    · rw [if_neg hd] at hR
      by_cases he : (a : Int) = z
      · rw [if_pos he] at hR
        subst hR
        rw [if_pos (Or.inr he)]
      · rw [if_neg he] at hR
        rw [if_neg (by rintro (e | e); exact hd (Or.inl e.symm); exact he e), if_neg (fun e => hd (Or.inr e))]
        have hn : okB ⟨op, min (a : Int) b, max (a : Int) b⟩ l.length = true := by
          unfold okB leafB binary
          rcases hop with ⟨rfl, rfl, rfl⟩ | ⟨rfl, rfl, rfl⟩ <;> simp <;> omega
        obtain ⟨h1, k, h2, h3, h4⟩ := put_val h hl hn
        rw [← hR] at h2 h3
        rw [Int.min_comm, Int.max_comm, put_again hg.good.nd h3, ← h2]
theorem plus_again {l : List N} (h : Good l) (hl : l.length < 20000) {a b : Nat} (ha : a < l.length) (hb : b < l.length) : plus (plus l a b).1 b a = plus l a b := two_again h hl ha hb (Or.inl ⟨rfl, rfl, rfl⟩)
theorem times_again {l : List N} (h : Good l) (hl : l.length < 20000) {a b : Nat} (ha : a < l.length) (hb : b < l.length) : times (times l a b).1 b a = times l a b := two_again h hl ha hb (Or.inr ⟨rfl, rfl, rfl⟩)
/-- The plain rules. -/
theorem plus_self {l : List N} {x : Nat} (hx : x < l.length) : plus l x x = (l, (x : Int)) := by
  unfold plus two
  rw [if_neg (by simp [isIn_nat hx])]
  by_cases h : (x : Int) = 1
  · rw [if_pos (Or.inl h), h]
  · rw [if_neg (by simp; omega), if_pos (Or.inl rfl)]
theorem times_self {l : List N} {x : Nat} (hx : x < l.length) : times l x x = (l, (x : Int)) := by
  unfold times two
  rw [if_neg (by simp [isIn_nat hx])]
  by_cases h : (x : Int) = 0
  · rw [if_pos (Or.inl h), h]
  · rw [if_neg (by simp; omega), if_pos (Or.inl rfl)]
theorem plus_zero {l : List N} (h : Good l) {x : Nat} (hx : x < l.length) : plus l 0 x = (l, (x : Int)) := by
  have hm := h.more
  unfold plus two
  rw [if_neg (by simp [isIn_nat hx, show isIn l 0 = true from isIn_nat (k := 0) (by omega)])]
  by_cases h1 : (x : Int) = 1
  · rw [if_pos (Or.inr h1), h1]
  · rw [if_neg (by simp; omega)]
    by_cases h0 : (x : Int) = 0
    · rw [if_pos (Or.inr h0), h0]
    · rw [if_neg (by omega), if_pos rfl]
theorem times_one {l : List N} (h : Good l) {x : Nat} (hx : x < l.length) : times l x 1 = (l, (x : Int)) := by
  have hm := h.more
  unfold times two
  rw [if_neg (by simp [isIn_nat hx, show isIn l 1 = true from isIn_nat (k := 1) (by omega)])]
  by_cases h1 : (x : Int) = 0
  · rw [if_pos (Or.inl h1), h1]
  · rw [if_neg (by omega), if_pos (Or.inr rfl)]
theorem plus_one {l : List N} (h : Good l) {x : Nat} (hx : x < l.length) : plus l x 1 = (l, 1) := by
  have hm := h.more
  unfold plus two
  rw [if_neg (by simp [isIn_nat hx, show isIn l 1 = true from isIn_nat (k := 1) (by omega)]), if_pos (Or.inr rfl)]
theorem times_zero {l : List N} (h : Good l) {x : Nat} (hx : x < l.length) : times l 0 x = (l, 0) := by
  have hm := h.more
  unfold times two
  rw [if_neg (by simp [isIn_nat hx, show isIn l 0 = true from isIn_nat (k := 0) (by omega)]), if_pos (Or.inl rfl)]
/-- Reaching goes on. -/
theorem Reach.trans {l : List N} {n m j : Nat} (h1 : Reach l n m) (h2 : Reach l m j) : Reach l n j := by
  induction h2 with
  | refl => exact h1
  | left _ hv h ih => exact ih.left hv h
  | right _ hv h ih => exact ih.right hv h
/-- The value depends on the variables below a node alone. -/
theorem val_dep {l : List N} (h : Good l) (ts us : List Int) : ∀ (m n : Nat), n ≤ m → n < l.length → (∀ (j : Nat) (v : N), Reach l n j → l[j]? = some v → v.o = 2 → ts.contains v.a = us.contains v.a) → (values ts l).getD n false = (values us l).getD n false := by
  intro m
  induction m with
  | zero =>
    intro n hn hnl hd
    have : n = 0 := by omega
    subst this
    rw [val_zero h.z, val_zero h.z]
  | succ m ih =>
    intro n hn hnl hd
    cases h.kind hnl with
    | zero => rw [val_zero h.z, val_zero h.z]
    | one => rw [val_one h.o, val_one h.o]
    | var hv _ h2 _ _ => rw [val_var hv h2, val_var hv h2]; exact hd _ _ Reach.refl hv h2
    | two a b hv _ h2 ha hb _ hab hbn =>
      rename_i v
      have ra : Reach l n a := by have := Reach.left Reach.refl hv h2; rwa [ha, Int.toNat_natCast] at this
      have rb : Reach l n b := by have := Reach.right Reach.refl hv h2; rwa [hb, Int.toNat_natCast] at this
      rw [val_two hv h2 ha hb (by omega) hbn, val_two hv h2 ha hb (by omega) hbn, ih a (by omega) (by omega) (fun j v hr => hd j v (ra.trans hr)), ih b (by omega) (by omega) (fun j v hr => hd j v (rb.trans hr))]
theorem val_all {l : List N} (h : Good l) (ts : List Int) : ∀ (m n : Nat), n ≤ m → n < l.length → (∀ (j : Nat) (v : N), Reach l n j → l[j]? = some v → v.o = 2 → ts.contains v.a = true) → (values ts l).getD n false = decide (n ≠ 0) := by
  intro m
  induction m with
  | zero =>
    intro n hn hnl hd
    have : n = 0 := by omega
    subst this
    rw [val_zero h.z]; rfl
  | succ m ih =>
    intro n hn hnl hd
    cases h.kind hnl with
    | zero => rw [val_zero h.z]; rfl
    | one => rw [val_one h.o]; rfl
    | var hv h3 h2 _ _ => rw [val_var hv h2, hd _ _ Reach.refl hv h2]; simp; omega
    | two a b hv _ h2 ha hb _ hab hbn =>
      rename_i v
      have ra : Reach l n a := by have := Reach.left Reach.refl hv h2; rwa [ha, Int.toNat_natCast] at this
      have rb : Reach l n b := by have := Reach.right Reach.refl hv h2; rwa [hb, Int.toNat_natCast] at this
      rw [val_two hv h2 ha hb (by omega) hbn, ih a (by omega) (by omega) (fun j v hr => hd j v (ra.trans hr)), ih b (by omega) (by omega) (fun j v hr => hd j v (rb.trans hr))]
      rw [decide_eq_true (show a ≠ 0 by omega), decide_eq_true (show b ≠ 0 by omega), decide_eq_true (show n ≠ 0 by omega)]
      unfold opV; split <;> rfl
theorem val_none {l : List N} (h : Good l) : ∀ (m n : Nat), n ≤ m → n < l.length → (values [] l).getD n false = decide (n = 1) := by
  intro m
  induction m with
  | zero =>
    intro n hn hnl
    have : n = 0 := by omega
    subst this
    rw [val_zero h.z]; rfl
  | succ m ih =>
    intro n hn hnl
    cases h.kind hnl with
    | zero => rw [val_zero h.z]; rfl
    | one => rw [val_one h.o]; rfl
    | var hv h3 h2 _ _ => rw [val_var hv h2]; simp; omega
    | two a b hv _ h2 ha hb _ hab hbn =>
      rw [val_two hv h2 ha hb (by omega) hbn, ih a (by omega) (by omega), ih b (by omega) (by omega)]
      rw [decide_eq_false (show ¬ a = 1 by omega), decide_eq_false (show ¬ b = 1 by omega), decide_eq_false (show ¬ n = 1 by omega)]
      unfold opV; split <;> rfl
theorem val_mono {l : List N} (h : Good l) (ts us : List Int) (hs : ∀ x ∈ ts, x ∈ us) : ∀ (m n : Nat), n ≤ m → n < l.length → (values ts l).getD n false = true → (values us l).getD n false = true := by
  intro m
  induction m with
  | zero =>
    intro n hn hnl hv
    have : n = 0 := by omega
    subst this
    rw [val_zero h.z] at hv; cases hv
  | succ m ih =>
    intro n hn hnl hv
    cases h.kind hnl with
    | zero => rw [val_zero h.z] at hv; cases hv
    | one => rw [val_one h.o]
    | var hw h3 h2 _ _ =>
      rw [val_var hw h2] at hv ⊢
      simp at hv ⊢
      exact hs _ hv
    | two a b hw _ h2 ha hb _ hab hbn =>
      rw [val_two hw h2 ha hb (by omega) hbn] at hv ⊢
      have ia := ih a (by omega) (by omega)
      have ib := ih b (by omega) (by omega)
      unfold opV at hv ⊢
      split at hv
      · rename_i e3
        rw [if_pos e3]
        rw [Bool.or_eq_true] at hv ⊢
        exact hv.imp ia ib
      · rename_i e3
        rw [if_neg e3]
        rw [Bool.and_eq_true] at hv ⊢
        exact ⟨ia hv.1, ib hv.2⟩
theorem varOf_some {l : List N} {k : Nat} {x : Int} : varOf l k = some x ↔ ∃ v, l[k]? = some v ∧ v.o = 2 ∧ v.a = x := by
  unfold varOf
  constructor
  · intro h
    split at h
    · rename_i v hv
      split at h
      · rename_i h2; exact ⟨v, hv, h2, Option.some.inj h⟩
      · cases h
    · cases h
  · rintro ⟨v, hv, h2, rfl⟩
    rw [hv]; simp [h2]
theorem mem_vars {l : List N} (h : Good l) {n : Nat} (hn : n < l.length) (x : Int) : x ∈ vars l n ↔ ∃ (j : Nat) (v : N), Reach l n j ∧ l[j]? = some v ∧ v.o = 2 ∧ v.a = x := by
  rw [vars_to, (varsTo_perm l (below l n) l.length).mem_iff, List.mem_filterMap]
  constructor
  · rintro ⟨j, hj, hv⟩
    rw [List.mem_filter] at hj
    obtain ⟨v, h1, h2, h3⟩ := varOf_some.1 hv
    exact ⟨j, v, (below_iff h hn j).1 (getD_true.1 hj.2), h1, h2, h3⟩
  · rintro ⟨j, v, hr, h1, h2, h3⟩
    refine ⟨j, ?_, varOf_some.2 ⟨v, h1, h2, h3⟩⟩
    rw [List.mem_filter]
    exact ⟨List.mem_range.2 (List.getElem?_eq_some_iff.1 h1).1, getD_true.2 ((below_iff h hn j).2 hr)⟩
theorem varOf_inj {l : List N} (h : Good l) {i j : Nat} {x : Int} (hi : varOf l i = some x) (hj : varOf l j = some x) : i = j := by
  obtain ⟨v, h1, h2, h3⟩ := varOf_some.1 hi
  obtain ⟨u, g1, g2, g3⟩ := varOf_some.1 hj
  have hb : ∀ (k : Nat) (v : N), l[k]? = some v → v.o = 2 → v.b = 0 := fun k v hv h2 => by
    rcases Nat.lt_or_ge k 2 with h3 | h3
    · rcases (by omega : k = 0 ∨ k = 1) with rfl | rfl
      · rw [h.z] at hv; obtain rfl := Option.some.inj hv; simp [zero] at h2
      · rw [h.o] at hv; obtain rfl := Option.some.inj hv; simp [one] at h2
    · exact (ok_leaf (h.ok k v h3 hv) h2).2
  have e : v = u := by
    have b1 := hb i v h1 h2
    have b2 := hb j u g1 g2
    cases v; cases u
    simp at *
    exact ⟨by omega, by omega, by omega⟩
  subst e
  have a1 := idx_of h.nd h1
  have a2 := idx_of h.nd g1
  rw [a1] at a2
  exact Option.some.inj a2
theorem nodup_filterMap {f : Nat → Option Int} (hf : ∀ i j x, f i = some x → f j = some x → i = j) : ∀ (l : List Nat), l.Nodup → (l.filterMap f).Nodup
  | [], _ => by simp
  | a :: l, h => by
    rw [List.nodup_cons] at h
    rw [List.filterMap_cons]
    have ih := nodup_filterMap hf l h.2
    cases e : f a with
    | none => exact ih
    | some x =>
      simp only [List.nodup_cons]
      refine ⟨fun hx => ?_, ih⟩
      obtain ⟨b, hb, hbx⟩ := List.mem_filterMap.1 hx
      exact h.1 (hf a b x e hbx ▸ hb)
theorem vars_nodup {l : List N} (h : Good l) (n : Nat) : (vars l n).Nodup := by
  rw [vars_to, (varsTo_perm l (below l n) l.length).nodup_iff]
  exact nodup_filterMap (fun i j x => varOf_inj h) _ (List.nodup_range.sublist List.filter_sublist)
theorem vars_less {l : List N} (h : Good l) (n : Nat) : (vars l n).Pairwise (· < ·) := by
  have h1 : (vars l n).Pairwise (· ≤ ·) := by rw [vars_to]; exact varsTo_sorted _ _ _
  have h2 := vars_nodup h n
  exact (h1.and h2).imp (fun h => by have := h.1; have := h.2; omega)
/-- The variables of a node that are also among some. -/
def only (l : List N) (n : Nat) (s : List Int) : List Int := (vars l n).filter fun x => s.contains x
theorem eval_only {l : List N} (h : Good l) {n : Nat} (hn : n < l.length) (s : List Int) : eval l (n : Int) (only l n s) = eval l (n : Int) s := by
  rw [eval_in hn, eval_in hn]
  refine val_dep h _ _ n n (Nat.le_refl _) hn fun j v hr hv h2 => ?_
  have hm := (mem_vars h hn v.a).2 ⟨j, v, hr, hv, h2, rfl⟩
  unfold only
  rw [Bool.eq_iff_iff]
  simp only [List.contains_iff_mem, List.mem_filter]
  exact ⟨fun h => h.2, fun h => ⟨hm, h⟩⟩
theorem eval_vars {l : List N} (h : Good l) {n : Nat} (hn : n < l.length) : eval l (n : Int) (vars l n) = decide ((n : Int) ≠ 0) := by
  rw [eval_in hn, val_all h _ n n (Nat.le_refl _) hn fun j v hr hv h2 => by
    rw [List.contains_iff_mem]; exact (mem_vars h hn v.a).2 ⟨j, v, hr, hv, h2, rfl⟩]
  simp
theorem eval_nil {l : List N} (h : Good l) {n : Nat} (hn : n < l.length) : eval l (n : Int) [] = decide ((n : Int) = 1) := by
  rw [eval_in hn, val_none h n n (Nat.le_refl _) hn]
  rw [decide_eq_decide]; omega
theorem eval_mono {l : List N} (h : Good l) {n : Nat} (hn : n < l.length) {s t : List Int} (hs : ∀ x ∈ s, x ∈ t) (hv : eval l (n : Int) s = true) : eval l (n : Int) t = true := by
  rw [eval_in hn] at hv ⊢
  exact val_mono h s t hs n n (Nat.le_refl _) hn hv
end Cx
end Go.Proofs.YtphmicbpkljmfaaGreat
