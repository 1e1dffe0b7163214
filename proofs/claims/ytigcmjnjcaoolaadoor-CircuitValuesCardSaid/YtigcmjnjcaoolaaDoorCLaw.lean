/- The laws of circuits; no program in sight. -/
import Derived.Test.YtigcmjnjcaoolaaDoorCText
import Derived.Test.YtigcmjnjcaoolaaDoorCPart
namespace Go.Proofs.YtigcmjnjcaoolaaDoor
set_option linter.unusedVariables false
set_option linter.unusedSimpArgs false
namespace Cx
theorem validFrom_of : ∀ (r : List N) (i : Nat) (seen : List N), (∀ (k : Nat) (v : N), r[k]? = some v → okB v ((i + k : Nat) : Int) = true) → (seen ++ r).Nodup → validFrom seen r i = true
  | [], _, _, _, _ => rfl
  | n :: r, i, seen, h, hd => by
    unfold validFrom
    rw [show okB n (i : Int) = true from by simpa using h 0 n rfl, validFrom_of r (i + 1) (seen ++ [n]) (fun k v hv => by have := h (k + 1) v hv; rwa [show i + (k + 1) = i + 1 + k by omega] at this) (by simpa using hd)]
    have : n ∉ seen := by
      rw [List.nodup_append] at hd
      intro hn
      exact hd.2.2 n hn n (by simp) rfl
    simpa using this
theorem Good.valid {l : List N} (h : Good l) (hl : l.length ≤ 20000) : valid l = true := by
  unfold Cx.valid
  have h2 := h.more
  rw [validFrom_of (l.drop 2) 2 [] (fun k v hv => h.ok (2 + k) v (by omega) (by rw [List.getElem?_drop] at hv; exact hv)) (by simpa using h.nd.sublist (List.drop_sublist 2 l))]
  simp [h.z, h.o, h2, hl]
theorem eval_in {l : List N} {k : Nat} (h : k < l.length) (ts : List Int) : eval l (k : Int) ts = (values ts l).getD k false := by
  unfold eval isIn
  simp [h]
theorem values_app (ts : List Int) (l t : List N) {k : Nat} (h : k < l.length) : (values ts (l ++ t)).getD k false = (values ts l).getD k false := by
  have h1 := values_take ts (l ++ t) l.length
  rw [List.take_left] at h1
  rw [h1, getD_take _ _ _ _ h]
theorem eval_app (ts : List Int) (l t : List N) {k : Nat} (h : k < l.length) : eval (l ++ t) (k : Int) ts = eval l (k : Int) ts := by
  rw [eval_in h, eval_in (by simp; omega), values_app ts l t h]
theorem val_zero {l : List N} (h : l[0]? = some zero) (ts : List Int) : (values ts l).getD 0 false = false := by rw [valAt_eq h]; rfl
theorem val_one {l : List N} (h : l[1]? = some one) (ts : List Int) : (values ts l).getD 1 false = true := by rw [valAt_eq h]; rfl
theorem val_var {l : List N} {k : Nat} {v : N} (h : l[k]? = some v) (h2 : v.o = 2) (ts : List Int) : (values ts l).getD k false = ts.contains v.a := by
  rw [valAt_eq h]; unfold valStep; rw [if_neg (by omega), if_pos h2]
def opV (o : Int) (x y : Bool) : Bool := if o = 3 then x || y else x && y
theorem step_two {vs : List Bool} {n : N} {ts : List Int} (h2 : n.o = 3 ∨ n.o = 4) : valStep ts vs n = opV n.o (vs.getD n.a.toNat false) (vs.getD n.b.toNat false) := by
  unfold valStep opV
  rcases h2 with h2 | h2 <;> simp [h2]
theorem val_two {l : List N} {k : Nat} {v : N} {a b : Nat} (h : l[k]? = some v) (h2 : v.o = 3 ∨ v.o = 4) (ha : v.a = a) (hb : v.b = b) (hak : a < k) (hbk : b < k) (ts : List Int) : (values ts l).getD k false = opV v.o ((values ts l).getD a false) ((values ts l).getD b false) := by
  rw [valAt_eq h, step_two h2, ha, hb, Int.toNat_natCast, Int.toNat_natCast, getD_take _ _ _ _ hak, getD_take _ _ _ _ hbk]
/-- What a circuit with some nodes more has. -/
structure Grow (l m : List N) : Prop where
  good : Good m
  ext : ∃ t, m = l ++ t
  len : m.length ≤ l.length + 1
theorem Grow.refl {l : List N} (h : Good l) : Grow l l := ⟨h, ⟨[], by simp⟩, by omega⟩
theorem Grow.le {l m : List N} (h : Grow l m) : l.length ≤ m.length := by obtain ⟨t, rfl⟩ := h.ext; simp
theorem Grow.eval {l m : List N} (h : Grow l m) {k : Nat} (hk : k < l.length) (ts : List Int) : eval m (k : Int) ts = Cx.eval l (k : Int) ts := by
  obtain ⟨t, rfl⟩ := h.ext; exact eval_app ts l t hk
/-- A node that is put in: its index, and its value. -/
theorem put_val {l : List N} (h : Good l) (hl : l.length < 20000) {n : N} (hn : okB n l.length = true) : Grow l (put l n).1 ∧ ∃ k : Nat, (put l n).2 = (k : Int) ∧ (put l n).1[k]? = some n ∧ ∀ ts, eval (put l n).1 (k : Int) ts = valStep ts (values ts l) n := by
  have hgood := h.put hn
  unfold Cx.put at hgood ⊢
  cases e : idx l n with
  | some i =>
    obtain ⟨hv, hi⟩ := idx_some e
    refine ⟨Grow.refl h, i, rfl, hv, fun ts => ?_⟩
    rw [eval_in hi, valAt_eq hv]
    rcases ok_kind hn with h2 | h2
    · unfold valStep; simp [h2]
    · have hb := h.bin hv h2
      rw [step_two h2, step_two h2, getD_take _ _ _ _ (by omega), getD_take _ _ _ _ (by omega)]
  | none =>
    simp only [e, hl, if_true] at hgood ⊢
    refine ⟨⟨hgood, ⟨[n], rfl⟩, by simp⟩, l.length, rfl, by simp, fun ts => ?_⟩
    rw [eval_in (by simp), values_snoc, List.getD_eq_getElem?_getD, List.getElem?_append_right (by rw [values_len]; omega), values_len]
    simp
theorem var_val {l : List N} (h : Good l) (hl : l.length < 20000) {x : Int} (hx : 0 ≤ x) : Grow l (var l x).1 ∧ ∃ k : Nat, (var l x).2 = (k : Int) ∧ (var l x).1[k]? = some ⟨2, x, 0⟩ := by
  unfold Cx.var
  rw [if_neg (by omega)]
  obtain ⟨h1, k, h2, h3, _⟩ := put_val h hl (n := ⟨2, x, 0⟩) (by unfold okB leafB; simp; left; omega)
  exact ⟨h1, k, h2, h3⟩
theorem isIn_nat {l : List N} {k : Nat} (h : k < l.length) : isIn l (k : Int) = true := by unfold isIn; simp [h]
theorem isIn_get {l : List N} {a : Int} (h : isIn l a = true) : ∃ k : Nat, a = (k : Int) ∧ k < l.length := by
  unfold isIn at h
  simp only [Bool.and_eq_true, decide_eq_true_eq] at h
  exact ⟨a.toNat, by omega, by omega⟩
theorem two_val {l : List N} (h : Good l) (hl : l.length < 20000) {a b : Nat} (ha : a < l.length) (hb : b < l.length) {op z o : Int} (hop : op = 3 ∧ z = 0 ∧ o = 1 ∨ op = 4 ∧ z = 1 ∧ o = 0) :
    Grow l (two l op a b z o).1 ∧ ∃ k : Nat, (two l op a b z o).2 = (k : Int) ∧ k < (two l op a b z o).1.length ∧ ∀ ts, eval (two l op a b z o).1 (k : Int) ts = opV op (eval l (a : Int) ts) (eval l (b : Int) ts) := by
  have e0 : ∀ ts, eval l ((0 : Nat) : Int) ts = false := fun ts => by rw [eval_in (by have := h.more; omega), val_zero h.z]
  have e1 : ∀ ts, eval l ((1 : Nat) : Int) ts = true := fun ts => by rw [eval_in (by have := h.more; omega), val_one h.o]
  have hm := h.more
  unfold Cx.two
  rw [if_neg (by simp [isIn_nat ha, isIn_nat hb])]
  split
  · refine ⟨Grow.refl h, o.toNat, by omega, (by show o.toNat < l.length; omega), fun ts => ?_⟩
    rename_i hc
    rcases hop with ⟨rfl, rfl, rfl⟩ | ⟨rfl, rfl, rfl⟩
    · rw [show ((1 : Int).toNat) = 1 from rfl, e1]
      rcases hc with hc | hc
      · rw [hc, show (1 : Int) = ((1 : Nat) : Int) from rfl, e1]; rfl
      · rw [hc, show (1 : Int) = ((1 : Nat) : Int) from rfl, e1]; simp [opV]
    · rw [show ((0 : Int).toNat) = 0 from rfl, e0]
      rcases hc with hc | hc
      · rw [hc, show (0 : Int) = ((0 : Nat) : Int) from rfl, e0]; rfl
      · rw [hc, show (0 : Int) = ((0 : Nat) : Int) from rfl, e0]; simp [opV]
  · rename_i hc
    split
    · refine ⟨Grow.refl h, a, rfl, ha, fun ts => ?_⟩
      rename_i hd
      rcases hd with hd | hd
      · rw [← hd]; unfold opV; split <;> simp
      · rcases hop with ⟨rfl, rfl, rfl⟩ | ⟨rfl, rfl, rfl⟩
        · rw [hd, show (0 : Int) = ((0 : Nat) : Int) from rfl, e0]; simp [opV]
        · rw [hd, show (1 : Int) = ((1 : Nat) : Int) from rfl, e1]; simp [opV]
    · rename_i hd
      split
      · refine ⟨Grow.refl h, b, rfl, hb, fun ts => ?_⟩
        rename_i he
        rcases hop with ⟨rfl, rfl, rfl⟩ | ⟨rfl, rfl, rfl⟩
        · rw [he, show (0 : Int) = ((0 : Nat) : Int) from rfl, e0]; simp [opV]
        · rw [he, show (1 : Int) = ((1 : Nat) : Int) from rfl, e1]; simp [opV]
      · rename_i he
        have hn : okB ⟨op, min (a : Int) b, max (a : Int) b⟩ l.length = true := by
          unfold okB leafB binary
          rcases hop with ⟨rfl, rfl, rfl⟩ | ⟨rfl, rfl, rfl⟩ <;> simp <;> omega
        obtain ⟨h1, k, h2, h3, h4⟩ := put_val h hl hn
        refine ⟨h1, k, h2, (List.getElem?_eq_some_iff.1 h3).1, fun ts => ?_⟩
        rw [h4, step_two (by rcases hop with ⟨h, _⟩ | ⟨h, _⟩ <;> simp [h]), eval_in ha, eval_in hb]
        rcases Nat.lt_or_ge a b with hab | hab
        · rw [show min (a : Int) b = a by omega, show max (a : Int) b = b by omega]; rfl
        · rw [show min (a : Int) b = b by omega, show max (a : Int) b = a by omega]
          simp only [Int.toNat_natCast]
          unfold opV
          split
          · exact Bool.or_comm _ _
          · exact Bool.and_comm _ _
theorem plus_val {l : List N} (h : Good l) (hl : l.length < 20000) {a b : Nat} (ha : a < l.length) (hb : b < l.length) :
    Grow l (plus l a b).1 ∧ ∃ k : Nat, (plus l a b).2 = (k : Int) ∧ k < (plus l a b).1.length ∧ ∀ ts, eval (plus l a b).1 (k : Int) ts = (eval l (a : Int) ts || eval l (b : Int) ts) :=
  two_val h hl ha hb (Or.inl ⟨rfl, rfl, rfl⟩)
theorem times_val {l : List N} (h : Good l) (hl : l.length < 20000) {a b : Nat} (ha : a < l.length) (hb : b < l.length) :
    Grow l (times l a b).1 ∧ ∃ k : Nat, (times l a b).2 = (k : Int) ∧ k < (times l a b).1.length ∧ ∀ ts, eval (times l a b).1 (k : Int) ts = (eval l (a : Int) ts && eval l (b : Int) ts) :=
  two_val h hl ha hb (Or.inr ⟨rfl, rfl, rfl⟩)
/-- The same node again: nothing is put in. -/
theorem idx_of {l : List N} (h : l.Nodup) {k : Nat} {n : N} (hv : l[k]? = some n) : idx l n = some k := by
  cases e : idx l n with
  | none => exact absurd (List.mem_of_getElem? hv) (idx_not e)
  | some i =>
    obtain ⟨h1, h2⟩ := idx_some e
    have hk := (List.getElem?_eq_some_iff.1 hv).1
    have hp := List.pairwise_iff_getElem.1 h
    have a1 := (List.getElem?_eq_some_iff.1 h1).2
    have a2 := (List.getElem?_eq_some_iff.1 hv).2
    have : i = k := by
      rcases Nat.lt_trichotomy i k with h3 | h3 | h3
      · exact absurd (a1.trans a2.symm) (hp i k h2 hk h3)
      · exact h3
      · exact absurd (a2.trans a1.symm) (hp k i hk h2 h3)
    rw [this]
theorem put_again {l : List N} (h : l.Nodup) {k : Nat} {n : N} (hv : l[k]? = some n) : put l n = (l, (k : Int)) := by
  unfold Cx.put; rw [idx_of h hv]
theorem var_again {l : List N} (h : Good l) (hl : l.length < 20000) {x : Int} (hx : 0 ≤ x) : var (var l x).1 x = var l x := by
  obtain ⟨h1, k, h2, h3⟩ := var_val h hl hx
  obtain ⟨R, hR⟩ : ∃ R, R = var l x := ⟨_, rfl⟩
  rw [← hR] at h1 h2 h3 ⊢
  unfold Cx.var
  rw [if_neg (by omega), put_again h1.good.nd h3, ← h2]
theorem two_again {l : List N} (h : Good l) (hl : l.length < 20000) {a b : Nat} (ha : a < l.length) (hb : b < l.length) {op z o : Int} (hop : op = 3 ∧ z = 0 ∧ o = 1 ∨ op = 4 ∧ z = 1 ∧ o = 0) :
    two (two l op a b z o).1 op b a z o = two l op a b z o := by
  have hg := (two_val h hl ha hb hop).1
  have hle := hg.le
  obtain ⟨R, hR⟩ : ∃ R, R = two l op a b z o := ⟨_, rfl⟩
  rw [← hR] at hg hle ⊢
  unfold Cx.two at hR
  rw [if_neg (by simp [isIn_nat ha, isIn_nat hb])] at hR
  unfold Cx.two
  rw [if_neg (by simp [isIn_nat (show a < R.1.length by omega), isIn_nat (show b < R.1.length by omega)])]
  by_cases hc : (a : Int) = o ∨ (b : Int) = o
  · rw [if_pos hc] at hR
    rw [if_pos hc.symm, hR]
  · rw [if_neg hc] at hR
    rw [if_neg (fun e => hc e.symm)]
    by_cases hd : (a : Int) = b ∨ (b : Int) = z
    · rw [if_pos hd] at hR
      subst hR
      by_cases h3 : (a : Int) = b
      · rw [if_pos (Or.inl h3.symm), h3]
      · have h4 : (b : Int) = z := by rcases hd with hd | hd; exact absurd hd h3; exact hd
        by_cases h5 : (a : Int) = z
        · exact absurd (h5.trans h4.symm) h3
        · rw [if_neg (by rintro (e | e); exact h3 e.symm; exact h5 e), if_pos h4]
    · rw [if_neg hd] at hR
      by_cases he : (a : Int) = z
      · rw [if_pos he] at hR
        subst hR
        rw [if_pos (Or.inr he)]
      · rw [if_neg he] at hR
        rw [if_neg (by rintro (e | e); exact hd (Or.inl e.symm); exact he e), if_neg (fun e => hd (Or.inr e))]
        have hn : okB ⟨op, min (a : Int) b, max (a : Int) b⟩ l.length = true := by
          unfold okB leafB binary
          rcases hop with ⟨rfl, rfl, rfl⟩ | ⟨rfl, rfl, rfl⟩ <;> simp <;> omega
        obtain ⟨h1, k, h2, h3, h4⟩ := put_val h hl hn
        rw [← hR] at h2 h3
        rw [Int.min_comm, Int.max_comm, put_again hg.good.nd h3, ← h2]
theorem plus_again {l : List N} (h : Good l) (hl : l.length < 20000) {a b : Nat} (ha : a < l.length) (hb : b < l.length) : plus (plus l a b).1 b a = plus l a b := two_again h hl ha hb (Or.inl ⟨rfl, rfl, rfl⟩)
theorem times_again {l : List N} (h : Good l) (hl : l.length < 20000) {a b : Nat} (ha : a < l.length) (hb : b < l.length) : times (times l a b).1 b a = times l a b := two_again h hl ha hb (Or.inr ⟨rfl, rfl, rfl⟩)
/-- The plain rules. -/
theorem plus_self {l : List N} {x : Nat} (hx : x < l.length) : plus l x x = (l, (x : Int)) := by
  unfold plus two
  rw [if_neg (by simp [isIn_nat hx])]
  by_cases h : (x : Int) = 1
  · rw [if_pos (Or.inl h), h]
  · rw [if_neg (by simp; omega), if_pos (Or.inl rfl)]
theorem times_self {l : List N} {x : Nat} (hx : x < l.length) : times l x x = (l, (x : Int)) := by
  unfold times two
  rw [if_neg (by simp [isIn_nat hx])]
  by_cases h : (x : Int) = 0
  · rw [if_pos (Or.inl h), h]
  · rw [if_neg (by simp; omega), if_pos (Or.inl rfl)]
theorem plus_zero {l : List N} (h : Good l) {x : Nat} (hx : x < l.length) : plus l 0 x = (l, (x : Int)) := by
  have hm := h.more
  unfold plus two
  rw [if_neg (by simp [isIn_nat hx, show isIn l 0 = true from isIn_nat (k := 0) (by omega)])]
  by_cases h1 : (x : Int) = 1
  · rw [if_pos (Or.inr h1), h1]
  · rw [if_neg (by simp; omega)]
    by_cases h0 : (x : Int) = 0
    · rw [if_pos (Or.inr h0), h0]
    · rw [if_neg (by omega), if_pos rfl]
theorem times_one {l : List N} (h : Good l) {x : Nat} (hx : x < l.length) : times l x 1 = (l, (x : Int)) := by
  have hm := h.more
  unfold times two
  rw [if_neg (by simp [isIn_nat hx, show isIn l 1 = true from isIn_nat (k := 1) (by omega)])]
  by_cases h1 : (x : Int) = 0
  · rw [if_pos (Or.inl h1), h1]
  · rw [if_neg (by omega), if_pos (Or.inr rfl)]
theorem plus_one {l : List N} (h : Good l) {x : Nat} (hx : x < l.length) : plus l x 1 = (l, 1) := by
  have hm := h.more
  unfold plus two
  rw [if_neg (by simp [isIn_nat hx, show isIn l 1 = true from isIn_nat (k := 1) (by omega)]), if_pos (Or.inr rfl)]
theorem times_zero {l : List N} (h : Good l) {x : Nat} (hx : x < l.length) : times l 0 x = (l, 0) := by
  have hm := h.more
  unfold times two
  rw [if_neg (by simp [isIn_nat hx, show isIn l 0 = true from isIn_nat (k := 0) (by omega)]), if_pos (Or.inl rfl)]
/-- Reaching goes on. -/
theorem Reach.trans {l : List N} {n m j : Nat} (h1 : Reach l n m) (h2 : Reach l m j) : Reach l n j := by
  induction h2 with
  | refl => exact h1
  | left _ hv h ih => exact ih.left hv h
  | right _ hv h ih => exact ih.right hv h
/-- The value depends on the variables below a node alone. -/
theorem val_dep {l : List N} (h : Good l) (ts us : List Int) : ∀ (m n : Nat), n ≤ m → n < l.length → (∀ (j : Nat) (v : N), Reach l n j → l[j]? = some v → v.o = 2 → ts.contains v.a = us.contains v.a) → (values ts l).getD n false = (values us l).getD n false := by
  intro m
  induction m with
  | zero =>
    intro n hn hnl hd
    have : n = 0 := by omega
    subst this
    rw [val_zero h.z, val_zero h.z]
  | succ m ih =>
    intro n hn hnl hd
    cases h.kind hnl with
    | zero => rw [val_zero h.z, val_zero h.z]
    | one => rw [val_one h.o, val_one h.o]
    | var hv _ h2 _ _ => rw [val_var hv h2, val_var hv h2]; exact hd _ _ Reach.refl hv h2
    | two a b hv _ h2 ha hb _ hab hbn =>
      rename_i v
      have ra : Reach l n a := by have := Reach.left Reach.refl hv h2; rwa [ha, Int.toNat_natCast] at this
      have rb : Reach l n b := by have := Reach.right Reach.refl hv h2; rwa [hb, Int.toNat_natCast] at this
      rw [val_two hv h2 ha hb (by omega) hbn, val_two hv h2 ha hb (by omega) hbn, ih a (by omega) (by omega) (fun j v hr => hd j v (ra.trans hr)), ih b (by omega) (by omega) (fun j v hr => hd j v (rb.trans hr))]
theorem val_all {l : List N} (h : Good l) (ts : List Int) : ∀ (m n : Nat), n ≤ m → n < l.length → (∀ (j : Nat) (v : N), Reach l n j → l[j]? = some v → v.o = 2 → ts.contains v.a = true) → (values ts l).getD n false = decide (n ≠ 0) := by
  intro m
  induction m with
  | zero =>
    intro n hn hnl hd
    have : n = 0 := by omega
    subst this
    rw [val_zero h.z]; rfl
  | succ m ih =>
    intro n hn hnl hd
    cases h.kind hnl with
    | zero => rw [val_zero h.z]; rfl
    | one => rw [val_one h.o]; rfl
    | var hv h3 h2 _ _ => rw [val_var hv h2, hd _ _ Reach.refl hv h2]; simp; omega
    | two a b hv _ h2 ha hb _ hab hbn =>
      rename_i v
      have ra : Reach l n a := by have := Reach.left Reach.refl hv h2; rwa [ha, Int.toNat_natCast] at this
      have rb : Reach l n b := by have := Reach.right Reach.refl hv h2; rwa [hb, Int.toNat_natCast] at this
      rw [val_two hv h2 ha hb (by omega) hbn, ih a (by omega) (by omega) (fun j v hr => hd j v (ra.trans hr)), ih b (by omega) (by omega) (fun j v hr => hd j v (rb.trans hr))]
      rw [decide_eq_true (show a ≠ 0 by omega), decide_eq_true (show b ≠ 0 by omega), decide_eq_true (show n ≠ 0 by omega)]
      unfold opV; split <;> rfl
theorem val_none {l : List N} (h : Good l) : ∀ (m n : Nat), n ≤ m → n < l.length → (values [] l).getD n false = decide (n = 1) := by
  intro m
  induction m with
  | zero =>
    intro n hn hnl
    have : n = 0 := by omega
    subst this
    rw [val_zero h.z]; rfl
  | succ m ih =>
    intro n hn hnl
    cases h.kind hnl with
    | zero => rw [val_zero h.z]; rfl
    | one => rw [val_one h.o]; rfl
    | var hv h3 h2 _ _ => rw [val_var hv h2]; simp; omega
    | two a b hv _ h2 ha hb _ hab hbn =>
      rw [val_two hv h2 ha hb (by omega) hbn, ih a (by omega) (by omega), ih b (by omega) (by omega)]
      rw [decide_eq_false (show ¬ a = 1 by omega), decide_eq_false (show ¬ b = 1 by omega), decide_eq_false (show ¬ n = 1 by omega)]
      unfold opV; split <;> rfl
theorem val_mono {l : List N} (h : Good l) (ts us : List Int) (hs : ∀ x ∈ ts, x ∈ us) : ∀ (m n : Nat), n ≤ m → n < l.length → (values ts l).getD n false = true → (values us l).getD n false = true := by
  intro m
  induction m with
  | zero =>
    intro n hn hnl hv
    have : n = 0 := by omega
    subst this
    rw [val_zero h.z] at hv; cases hv
  | succ m ih =>
    intro n hn hnl hv
    cases h.kind hnl with
    | zero => rw [val_zero h.z] at hv; cases hv
    | one => rw [val_one h.o]
    | var hw h3 h2 _ _ =>
      rw [val_var hw h2] at hv ⊢
      simp at hv ⊢
      exact hs _ hv
    | two a b hw _ h2 ha hb _ hab hbn =>
      rw [val_two hw h2 ha hb (by omega) hbn] at hv ⊢
      have ia := ih a (by omega) (by omega)
      have ib := ih b (by omega) (by omega)
      unfold opV at hv ⊢
      split at hv
      · rename_i e3
        rw [if_pos e3]
        rw [Bool.or_eq_true] at hv ⊢
        exact hv.imp ia ib
      · rename_i e3
        rw [if_neg e3]
        rw [Bool.and_eq_true] at hv ⊢
        exact ⟨ia hv.1, ib hv.2⟩
theorem varOf_some {l : List N} {k : Nat} {x : Int} : varOf l k = some x ↔ ∃ v, l[k]? = some v ∧ v.o = 2 ∧ v.a = x := by
  unfold varOf
  constructor
  · intro h
    split at h
    · rename_i v hv
      split at h
      · rename_i h2; exact ⟨v, hv, h2, Option.some.inj h⟩
      · cases h
    · cases h
  · rintro ⟨v, hv, h2, rfl⟩
    rw [hv]; simp [h2]
theorem mem_vars {l : List N} (h : Good l) {n : Nat} (hn : n < l.length) (x : Int) : x ∈ vars l n ↔ ∃ (j : Nat) (v : N), Reach l n j ∧ l[j]? = some v ∧ v.o = 2 ∧ v.a = x := by
  rw [vars_to, (varsTo_perm l (below l n) l.length).mem_iff, List.mem_filterMap]
  constructor
  · rintro ⟨j, hj, hv⟩
    rw [List.mem_filter] at hj
    obtain ⟨v, h1, h2, h3⟩ := varOf_some.1 hv
    exact ⟨j, v, (below_iff h hn j).1 (getD_true.1 hj.2), h1, h2, h3⟩
  · rintro ⟨j, v, hr, h1, h2, h3⟩
    refine ⟨j, ?_, varOf_some.2 ⟨v, h1, h2, h3⟩⟩
    rw [List.mem_filter]
    exact ⟨List.mem_range.2 (List.getElem?_eq_some_iff.1 h1).1, getD_true.2 ((below_iff h hn j).2 hr)⟩
theorem varOf_inj {l : List N} (h : Good l) {i j : Nat} {x : Int} (hi : varOf l i = some x) (hj : varOf l j = some x) : i = j := by
  obtain ⟨v, h1, h2, h3⟩ := varOf_some.1 hi
  obtain ⟨u, g1, g2, g3⟩ := varOf_some.1 hj
  have hb : ∀ (k : Nat) (v : N), l[k]? = some v → v.o = 2 → v.b = 0 := fun k v hv h2 => by
    rcases Nat.lt_or_ge k 2 with h3 | h3
    · rcases (by omega : k = 0 ∨ k = 1) with rfl | rfl
      · rw [h.z] at hv; obtain rfl := Option.some.inj hv; simp [zero] at h2
      · rw [h.o] at hv; obtain rfl := Option.some.inj hv; simp [one] at h2
    · exact (ok_leaf (h.ok k v h3 hv) h2).2
  have e : v = u := by
    have b1 := hb i v h1 h2
    have b2 := hb j u g1 g2
    cases v; cases u
    simp at *
    exact ⟨by omega, by omega, by omega⟩
  subst e
  have a1 := idx_of h.nd h1
  have a2 := idx_of h.nd g1
  rw [a1] at a2
  exact Option.some.inj a2
theorem nodup_filterMap {f : Nat → Option Int} (hf : ∀ i j x, f i = some x → f j = some x → i = j) : ∀ (l : List Nat), l.Nodup → (l.filterMap f).Nodup
  | [], _ => by simp
  | a :: l, h => by
    rw [List.nodup_cons] at h
    rw [List.filterMap_cons]
    have ih := nodup_filterMap hf l h.2
    cases e : f a with
    | none => exact ih
    | some x =>
      simp only [List.nodup_cons]
      refine ⟨fun hx => ?_, ih⟩
      obtain ⟨b, hb, hbx⟩ := List.mem_filterMap.1 hx
      exact h.1 (hf a b x e hbx ▸ hb)
theorem vars_nodup {l : List N} (h : Good l) (n : Nat) : (vars l n).Nodup := by
  rw [vars_to, (varsTo_perm l (below l n) l.length).nodup_iff]
  exact nodup_filterMap (fun i j x => varOf_inj h) _ (List.nodup_range.sublist List.filter_sublist)
theorem vars_less {l : List N} (h : Good l) (n : Nat) : (vars l n).Pairwise (· < ·) := by
  have h1 : (vars l n).Pairwise (· ≤ ·) := by rw [vars_to]; exact varsTo_sorted _ _ _
  have h2 := vars_nodup h n
  exact (h1.and h2).imp (fun h => by have := h.1; have := h.2; omega)
/-- The variables of a node that are also among some. -/
def only (l : List N) (n : Nat) (s : List Int) : List Int := (vars l n).filter fun x => s.contains x
theorem eval_only {l : List N} (h : Good l) {n : Nat} (hn : n < l.length) (s : List Int) : eval l (n : Int) (only l n s) = eval l (n : Int) s := by
  rw [eval_in hn, eval_in hn]
  refine val_dep h _ _ n n (Nat.le_refl _) hn fun j v hr hv h2 => ?_
  have hm := (mem_vars h hn v.a).2 ⟨j, v, hr, hv, h2, rfl⟩
  unfold only
  rw [Bool.eq_iff_iff]
  simp only [List.contains_iff_mem, List.mem_filter]
  exact ⟨fun h => h.2, fun h => ⟨hm, h⟩⟩
theorem eval_vars {l : List N} (h : Good l) {n : Nat} (hn : n < l.length) : eval l (n : Int) (vars l n) = decide ((n : Int) ≠ 0) := by
  rw [eval_in hn, val_all h _ n n (Nat.le_refl _) hn fun j v hr hv h2 => by
    rw [List.contains_iff_mem]; exact (mem_vars h hn v.a).2 ⟨j, v, hr, hv, h2, rfl⟩]
  simp
theorem eval_nil {l : List N} (h : Good l) {n : Nat} (hn : n < l.length) : eval l (n : Int) [] = decide ((n : Int) = 1) := by
  rw [eval_in hn, val_none h n n (Nat.le_refl _) hn]
  rw [decide_eq_decide]; omega
theorem eval_mono {l : List N} (h : Good l) {n : Nat} (hn : n < l.length) {s t : List Int} (hs : ∀ x ∈ s, x ∈ t) (hv : eval l (n : Int) s = true) : eval l (n : Int) t = true := by
  rw [eval_in hn] at hv ⊢
  exact val_mono h s t hs n n (Nat.le_refl _) hn hv
end Cx
end Go.Proofs.YtigcmjnjcaoolaaDoor
