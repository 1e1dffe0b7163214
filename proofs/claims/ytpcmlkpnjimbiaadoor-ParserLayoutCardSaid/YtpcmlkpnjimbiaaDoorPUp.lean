/- The pure parser moves on: each item reads a token, or fails where no item begins. -/
import Derived.Test.YtpcmlkpnjimbiaaDoorPLits
namespace Go.Proofs.YtpcmlkpnjimbiaaDoor
set_option linter.unusedVariables false
set_option linter.unusedSimpArgs false
namespace Px
variable {α β : Type}
def Fp (p : P α) : Prop := ∀ ts i j, p ts i = .fail j → i ≤ j
theorem bind_fail_inv {p : P α} {f : α → P β} {ts : List Kt} {i j : Nat} (h : bind p f ts i = .fail j) : p ts i = .fail j ∨ ∃ a k, p ts i = .ok a k ∧ f a ts k = .fail j := by
 unfold bind at h
 split at h
 ·exact Or.inr ⟨_, _, by assumption, h⟩
 ·rename_i k hk
  injection h with h
  subst h
  exact Or.inl hk
theorem Fp.bind {p : P α} {f : α → P β} (hp : Fp p) (up : Up p) (hf : ∀ a, Fp (f a)) : Fp (bind p f) := fun ts i j h => by
 rcases bind_fail_inv h with h | ⟨a, k, h1, h2⟩
 ·exact hp ts i j h
 ·exact Nat.le_trans (up ts i a k h1) (hf a ts k j h2)
theorem Fp.ret (a : α) : Fp (ret a) := fun ts i j h => by cases h
theorem Fp.word (k : Nat) : Fp (word k) := fun ts i j h => by
 unfold Px.word at h
 split at h
 ·cases h
 ·injection h with h; omega
theorem Fp.need (t : List UInt8) : Fp (need t) := fun ts i j h => by
 unfold Px.need at h
 split at h
 ·cases h
 ·injection h with h; omega
theorem Fp.take (t : List UInt8) : Fp (take t) := fun ts i j h => by
 unfold Px.take at h
 split at h <;> cases h
theorem Fp.ite {c : Prop} [Decidable c] {p q : P α} (hp : Fp p) (hq : Fp q) : Fp (if c then p else q) := by split <;> assumption
theorem Fp.stop : Fp (stop (α := α)) := fun ts i j h => by
 unfold Px.stop at h
 injection h with h; omega
theorem Fp.number : Fp number := (Fp.word 3).bind (Up.word 3) fun _ => Fp.ret _
theorem Fp.constant : Fp constant := fun ts i j h => by
 unfold Px.constant at h
 split at h
 ·exact Fp.number.bind Up.number (fun _ => Fp.ret _) ts i j h
 ·exact (Fp.word 1).bind (Up.word 1) (fun _ => Fp.ret _) ts i j h
theorem Fp.term : Fp term := fun ts i j h => by
 unfold Px.term at h
 split at h
 ·exact (Fp.word 2).bind (Up.word 2) (fun _ => Fp.ret _) ts i j h
 ·exact Fp.constant ts i j h
theorem Fp.column : Fp column := (Fp.take _).bind (Up.take _) fun _ => Fp.ite (Fp.ret _) ((Fp.need _).bind (Up.need _) fun _ => Fp.ret _)
theorem Fp.many {p : P α} (up : Up p) (hp : Fp p) : ∀ f, Fp (many p f)
 | 0 => Fp.stop
 | f + 1 => fun ts i j h => by
  rw [many_succ] at h
  split at h
  ·rename_i k hk
   injection h with h
   subst h
   exact hp _ _ _ hk
  ·rename_i a k hk
   have h1 := up _ _ _ _ hk
   unfold after rest at h
   split at h
   ·cases h
   ·rename_i k2 hr
    injection h with h
    subst h
    split at hr
    ·have := Fp.many up hp f _ _ _ hr; omega
    ·cases hr
theorem Fp.list {p : P α} (up : Up p) (hp : Fp p) : Fp (list p) := Fp.many up hp fuel
theorem Fp.terms {p : P T} (up : Up p) (hp : Fp p) : Fp (terms p) := fun ts i j h => by
 unfold Px.terms at h
 split at h
 ·cases h
 ·exact Fp.list up hp ts i j h
theorem Fp.operator : Fp operator := fun ts i j h => by
 unfold Px.operator at h
 split at h
 ·injection h with h; omega
 ·cases h
theorem Fp.optBind : Fp optBind := (Fp.take _).bind (Up.take _) fun _ => Fp.ite (Fp.word _) (Fp.ret _)
theorem Fp.compare (p : Nat) : Fp (compare p) := Fp.term.bind Up.term fun _ => Fp.operator.bind Up.operator fun _ => Fp.term.bind Up.term fun _ => Fp.ret _
theorem Fp.atom (n : Bool) (p : Nat) : Fp (atom n p) := (Fp.word _).bind (Up.word _) fun _ => (Fp.need _).bind (Up.need _) fun _ => (Fp.terms Up.term Fp.term).bind (Up.terms Up.term) fun _ => (Fp.ite (Fp.ret _) Fp.optBind).bind (Up.ite (Up.ret _) Up.optBind) fun _ => (Fp.need _).bind (Up.need _) fun _ =>
 (Fp.ite (Fp.take _) (Fp.ret _)).bind (Up.ite (Up.take _) (Up.ret _)) fun _ => (Fp.ite (Fp.word _) (Fp.ret _)).bind (Up.ite (Up.word _) (Up.ret _)) fun _ => Fp.ret _
theorem Up.litPos (p : Nat) : Up (litPos p) := fun ts i b j h => by
 unfold Px.litPos at h
 split at h
 ·split at h
  ·exact Up.atom _ _ _ _ _ _ h
  ·exact Up.compare _ _ _ _ _ h
 ·exact Up.compare _ _ _ _ _ h
theorem Fp.litPos (p : Nat) : Fp (litPos p) := fun ts i j h => by
 unfold Px.litPos at h
 split at h
 ·split at h
  ·exact Fp.atom _ _ _ _ _ h
  ·exact Fp.compare _ _ _ _ h
 ·exact Fp.compare _ _ _ _ h
theorem Fp.literal : Fp literal := fun ts i j h => (Fp.take sNot).bind (Up.take sNot) (fun neg => Fp.ite (Fp.atom true i) (Fp.litPos i)) ts i j h
theorem Up.element : Up element := fun ts i b j h => by
 unfold Px.element at h
 split at h
 ·exact (Up.word 2).bind (fun _ => Up.ret _) ts i b j h
 ·exact (Up.word 1).bind (fun _ => (Up.take _).bind fun _ => Up.ite ((Up.word 2).bind fun _ => (Up.need _).bind fun _ => Up.ret _) (Up.ret _)) ts i b j h
theorem Fp.element : Fp element := fun ts i j h => by
 unfold Px.element at h
 split at h
 ·exact (Fp.word 2).bind (Up.word 2) (fun _ => Fp.ret _) ts i j h
 ·exact (Fp.word 1).bind (Up.word 1) (fun _ => (Fp.take _).bind (Up.take _) fun _ => Fp.ite ((Fp.word 2).bind (Up.word 2) fun _ => (Fp.need _).bind (Up.need _) fun _ => Fp.ret _) (Fp.ret _)) ts i j h
theorem Up.optElem : Up optElem := (Up.take _).bind fun _ => Up.ite Up.element (Up.ret _)
theorem Fp.optElem : Fp optElem := (Fp.take _).bind (Up.take _) fun _ => Fp.ite Fp.element (Fp.ret _)
theorem Up.ruleHead : Up ruleHead := (Up.word 1).bind fun _ => (Up.need _).bind fun _ => (Up.terms Up.term).bind fun _ => Up.optElem.bind fun _ => (Up.need _).bind fun _ => Up.ret _
theorem Fp.ruleHead : Fp ruleHead := (Fp.word 1).bind (Up.word 1) fun _ => (Fp.need _).bind (Up.need _) fun _ => (Fp.terms Up.term Fp.term).bind (Up.terms Up.term) fun _ => Fp.optElem.bind Up.optElem fun _ => (Fp.need _).bind (Up.need _) fun _ => Fp.ret _
theorem Up.optBody : Up optBody := (Up.take _).bind fun _ => Up.ite (Up.list Up.literal) (Up.ret _)
theorem Fp.optBody : Fp optBody := (Fp.take _).bind (Up.take _) fun _ => Fp.ite (Fp.list Up.literal Fp.literal) (Fp.ret _)
def ruleEnd (i : Nat) (h : List UInt8 × List T × E) : P Ru := bind optBody fun body => bind (need [46]) fun _ => ret ⟨h.1, h.2.1, h.2.2, body, i⟩
theorem Up.ruleEnd (i : Nat) (h : List UInt8 × List T × E) : Up (ruleEnd i h) := Up.optBody.bind fun _ => (Up.need _).bind fun _ => Up.ret _
theorem Fp.ruleEnd (i : Nat) (h : List UInt8 × List T × E) : Fp (ruleEnd i h) := Fp.optBody.bind Up.optBody fun _ => (Fp.need _).bind (Up.need _) fun _ => Fp.ret _
theorem rule_eq (ts : List Kt) (i : Nat) : rule ts i = bind (take sDeny) (fun d => bind (if d then ret ([], [], ⟨0, [], []⟩) else ruleHead) (ruleEnd i)) ts i := rfl
theorem Up.latB : ∀ f es cs, Up (latB f es cs)
 | 0, _, _ => fun ts i b j h => by unfold Px.latB Px.stop at h; cases h
 | f + 1, es, cs => fun ts i b j h => by
  unfold Px.latB at h
  split at h
  ·injection h with _ h; omega
  ·exact (Up.word 1).bind (fun a => (Up.take _).bind fun c => Up.ite ((Up.word 1).bind fun b => (Up.need _).bind fun _ => Up.latB f _ _) ((Up.need _).bind fun _ => Up.latB f _ _)) ts i b j h
theorem Fp.latB : ∀ f es cs, Fp (latB f es cs)
 | 0, _, _ => Fp.stop
 | f + 1, es, cs => fun ts i j h => by
  unfold Px.latB at h
  split at h
  ·cases h
  ·exact (Fp.word 1).bind (Up.word 1) (fun a => (Fp.take _).bind (Up.take _) fun c => Fp.ite ((Fp.word 1).bind (Up.word 1) fun b => (Fp.need _).bind (Up.need _) fun _ => Fp.latB f _ _) ((Fp.need _).bind (Up.need _) fun _ => Fp.latB f _ _)) ts i j h
theorem Up.funB : ∀ f xs ys, Up (funB f xs ys)
 | 0, _, _ => fun ts i b j h => by unfold Px.funB Px.stop at h; cases h
 | f + 1, xs, ys => fun ts i b j h => by
  unfold Px.funB at h
  split at h
  ·injection h with _ h; omega
  ·exact (Up.word 1).bind (fun a => (Up.need _).bind fun _ => (Up.word 1).bind fun b => (Up.need _).bind fun _ => Up.funB f _ _) ts i b j h
theorem Fp.funB : ∀ f xs ys, Fp (funB f xs ys)
 | 0, _, _ => Fp.stop
 | f + 1, xs, ys => fun ts i j h => by
  unfold Px.funB at h
  split at h
  ·cases h
  ·exact (Fp.word 1).bind (Up.word 1) (fun a => (Fp.need _).bind (Up.need _) fun _ => (Fp.word 1).bind (Up.word 1) fun b => (Fp.need _).bind (Up.need _) fun _ => Fp.funB f _ _) ts i j h
def latIn (i : Nat) : P La := bind (word 1) fun name => bind (need [123]) fun _ => bind (latB fuel [] []) fun b => ret ⟨name, b.1, b.2, i⟩
def funIn (i : Nat) : P Fu := bind (word 1) fun name => bind (need sOn) fun _ => bind (word 1) fun lat => bind (need [123]) fun _ => bind (funB fuel [] []) fun b => ret ⟨name, lat, b.1, b.2, i⟩
def predIn (base : Bool) (i : Nat) : P Pr := bind (word 1) fun name => bind (need [40]) fun _ => bind types fun tys => bind (need [41]) fun _ => bind (predEnd base tys.length) fun e => bind (need [59]) fun _ => ret ⟨name, tys, e.1, base, e.2, i⟩
theorem lattice_eq (ts : List Kt) (i : Nat) : lattice ts i = latIn i ts (i + 1) := rfl
theorem function_eq (ts : List Kt) (i : Nat) : function ts i = funIn i ts (i + 1) := rfl
theorem pred_eq (ts : List Kt) (i : Nat) : pred ts i = predIn (decide (tx ts i = sBase)) i ts (i + 1) := rfl
theorem Up.latIn (i : Nat) : Up (latIn i) := (Up.word 1).bind fun _ => (Up.need _).bind fun _ => (Up.latB _ _ _).bind fun _ => Up.ret _
theorem Fp.latIn (i : Nat) : Fp (latIn i) := (Fp.word 1).bind (Up.word 1) fun _ => (Fp.need _).bind (Up.need _) fun _ => (Fp.latB _ _ _).bind (Up.latB _ _ _) fun _ => Fp.ret _
theorem Up.funIn (i : Nat) : Up (funIn i) := (Up.word 1).bind fun _ => (Up.need _).bind fun _ => (Up.word 1).bind fun _ => (Up.need _).bind fun _ => (Up.funB _ _ _).bind fun _ => Up.ret _
theorem Fp.funIn (i : Nat) : Fp (funIn i) := (Fp.word 1).bind (Up.word 1) fun _ => (Fp.need _).bind (Up.need _) fun _ => (Fp.word 1).bind (Up.word 1) fun _ => (Fp.need _).bind (Up.need _) fun _ => (Fp.funB _ _ _).bind (Up.funB _ _ _) fun _ => Fp.ret _
theorem Up.types : Up types := fun ts i b j h => by
 unfold Px.types at h
 split at h
 ·injection h with _ h; omega
 ·exact Up.list Up.column _ _ _ _ h
theorem Fp.types : Fp types := fun ts i j h => by
 unfold Px.types at h
 split at h
 ·cases h
 ·exact Fp.list Up.column Fp.column _ _ _ h
theorem Up.predEnd (b : Bool) (n : Int) : Up (predEnd b n) := (Up.take _).bind fun _ => Up.ite ((Up.word 1).bind fun _ => Up.ret _) (Up.ite ((Up.take _).bind fun _ => Up.ite (Up.number.bind fun _ => Up.ret _) (Up.ret _)) (Up.ret _))
theorem Fp.predEnd (b : Bool) (n : Int) : Fp (predEnd b n) := (Fp.take _).bind (Up.take _) fun _ => Fp.ite ((Fp.word 1).bind (Up.word 1) fun _ => Fp.ret _) (Fp.ite ((Fp.take _).bind (Up.take _) fun _ => Fp.ite (Fp.number.bind Up.number fun _ => Fp.ret _) (Fp.ret _)) (Fp.ret _))
theorem Up.predIn (b : Bool) (i : Nat) : Up (predIn b i) := (Up.word 1).bind fun _ => (Up.need _).bind fun _ => Up.types.bind fun _ => (Up.need _).bind fun _ => (Up.predEnd _ _).bind fun _ => (Up.need _).bind fun _ => Up.ret _
theorem Fp.predIn (b : Bool) (i : Nat) : Fp (predIn b i) := (Fp.word 1).bind (Up.word 1) fun _ => (Fp.need _).bind (Up.need _) fun _ => Fp.types.bind Up.types fun _ => (Fp.need _).bind (Up.need _) fun _ => (Fp.predEnd _ _).bind (Up.predEnd _ _) fun _ => (Fp.need _).bind (Up.need _) fun _ => Fp.ret _
theorem word_next' {ts : List Kt} {k i j : Nat} {s : List UInt8} (h : word k ts i = .ok s j) : j = i + 1 := by
 unfold Px.word at h
 split at h
 ·injection h with _ h; omega
 ·cases h
/-- Where a rule is read: behind deny, or the head from its name on. -/
theorem rule_ok {ts : List Kt} {i j : Nat} {x : Ru} (h : rule ts i = .ok x j) : i < j := by
 rw [rule_eq] at h
 unfold bind at h
 unfold Px.take at h
 by_cases hd : tx ts i = sDeny
 ·rw [if_pos hd] at h
  have := ((Up.ret (([], [], ⟨0, [], []⟩) : List UInt8 × List T × E)).bind (Up.ruleEnd i)) ts (i + 1) x j h
  omega
 ·rw [if_neg hd] at h
  dsimp only at h
  split at h
  ·rename_i a k hk
   have h1 : i < k := by
    simp only [Bool.false_eq_true, if_false] at hk
    obtain ⟨nm, q, hq, hr⟩ := bind_inv (p := word 1) hk
    have e1 := word_next' hq
    have := ((Up.need [40]).bind fun _ => (Up.terms Up.term).bind fun args => Up.optElem.bind fun e => (Up.need [41]).bind fun _ => Up.ret (nm, args, e)) ts q a k hr
    omega
   have := Up.ruleEnd i a ts k x j h
   omega
  ·cases h
theorem rule_fail {ts : List Kt} {i j : Nat} (h : rule ts i = .fail j) : i ≤ j ∧ (i < j ∨ tx ts i ≠ sDeny) := by
 by_cases hd : tx ts i = sDeny
 ·rw [rule_eq] at h
  unfold bind at h
  unfold Px.take at h
  rw [if_pos hd] at h
  have := ((Fp.ret (([], [], ⟨0, [], []⟩) : List UInt8 × List T × E)).bind (Up.ret _) (Fp.ruleEnd i)) ts (i + 1) j h
  exact ⟨by omega, Or.inl (by omega)⟩
 ·refine ⟨?_, Or.inr hd⟩
  exact ((Fp.take sDeny).bind (Up.take _) fun d => (Fp.ite (Fp.ret _) Fp.ruleHead).bind (Up.ite (Up.ret _) Up.ruleHead) (Fp.ruleEnd i)) ts i j h
theorem map_ok {p : P α} {g : α → β} {ts : List Kt} {i j : Nat} {b : β} (h : bind p (fun x => ret (g x)) ts i = .ok b j) : ∃ a, p ts i = .ok a j ∧ b = g a := by
 obtain ⟨a, k, h1, h2⟩ := bind_inv h
 unfold ret at h2
 injection h2 with h3 h4
 subst h4
 exact ⟨a, h1, h3.symm⟩
theorem map_fail {p : P α} {g : α → β} {ts : List Kt} {i j : Nat} (h : bind p (fun x => ret (g x)) ts i = .fail j) : p ts i = .fail j := by
 rcases bind_fail_inv h with h | ⟨a, k, _, h2⟩
 ·exact h
 ·cases h2
theorem item_ok {ts : List Kt} {i j : Nat} {x : It} (h : item ts i = .ok x j) : i < j := by
 unfold item itemOf at h
 split at h
 ·obtain ⟨a, h1, _⟩ := map_ok h
  rw [lattice_eq] at h1
  have := Up.latIn i ts (i + 1) a j h1
  omega
 ·split at h
  ·obtain ⟨a, h1, _⟩ := map_ok h
   rw [function_eq] at h1
   have := Up.funIn i ts (i + 1) a j h1
   omega
  ·split at h
   ·obtain ⟨a, h1, _⟩ := map_ok h
    rw [pred_eq] at h1
    have := Up.predIn _ i ts (i + 1) a j h1
    omega
   ·obtain ⟨a, h1, _⟩ := map_ok h
    exact rule_ok h1
theorem item_fail {ts : List Kt} {i j : Nat} (h : item ts i = .fail j) : i ≤ j ∧ (i < j ∨ starts.contains (tx ts i) = false) := by
 unfold item itemOf at h
 split at h
 ·have h1 := map_fail h
  rw [lattice_eq] at h1
  have := Fp.latIn i ts (i + 1) j h1
  exact ⟨by omega, Or.inl (by omega)⟩
 ·rename_i n1
  split at h
  ·have h1 := map_fail h
   rw [function_eq] at h1
   have := Fp.funIn i ts (i + 1) j h1
   exact ⟨by omega, Or.inl (by omega)⟩
  ·rename_i n2
   split at h
   ·have h1 := map_fail h
    rw [pred_eq] at h1
    have := Fp.predIn _ i ts (i + 1) j h1
    exact ⟨by omega, Or.inl (by omega)⟩
   ·rename_i n3
    obtain ⟨h1, h2⟩ := rule_fail (map_fail h)
    refine ⟨h1, h2.imp id fun hd => ?_⟩
    cases hc : starts.contains (tx ts i) with
    | false => rfl
    | true =>
     rw [List.contains_iff_mem] at hc
     simp [starts] at hc
     rcases hc with h | h | h | h | h
     ·exact absurd h n1
     ·exact absurd h n2
     ·exact absurd (Or.inl h) n3
     ·exact absurd (Or.inr h) n3
     ·exact absurd h hd
theorem skip_ge : ∀ (f : Nat) (ts : List Kt) (i : Nat), i ≤ skip f ts i
 | 0, ts, i => by unfold skip; omega
 | f + 1, ts, i => by
  unfold skip
  split
  ·split
   ·omega
   ·have := skip_ge f ts (i + 1); omega
  ·omega
theorem skip_gt {f : Nat} {ts : List Kt} {i : Nat} (hf : 0 < f) (h : i < ts.length) (hs : starts.contains (tx ts i) = false) : i < skip f ts i := by
 obtain ⟨f, rfl⟩ : ∃ g, f = g + 1 := ⟨f - 1, by omega⟩
 unfold skip
 rw [if_pos ⟨h, hs⟩]
 split
 ·omega
 ·have := skip_ge f ts (i + 1); omega
/-- Behind a wrong token the reader has moved on. -/
theorem fail_on {ts : List Kt} {i j : Nat} (hi : i < ts.length) (h : item ts i = .fail j) : i < skip fuel ts j := by
 obtain ⟨h1, h2⟩ := item_fail h
 rcases h2 with h2 | h2
 ·have := skip_ge fuel ts j; omega
 ·rcases Nat.lt_or_ge i j with h3 | h3
  ·have := skip_ge fuel ts j; omega
  ·obtain rfl : j = i := by omega
   exact skip_gt (by decide) hi h2
end Px
end Go.Proofs.YtpcmlkpnjimbiaaDoor
