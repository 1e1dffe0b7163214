/- The pure parser hangs on the tokens that it reads and on the next one; and not on where they stand. -/
import Derived.Test.YtpcmlkpnjimbiaaDoorPWhole
import Derived.Test.YtpcmlkpnjimbiaaDoorPUp
import Derived.Test.YtpcmlkpnjimbiaaDoorPParse
import Derived.Test.YtpcmlkpnjimbiaaDoorPlain6
namespace Go.Proofs.YtpcmlkpnjimbiaaDoor
set_option linter.unusedVariables false
set_option linter.unusedSimpArgs false
namespace Px
variable {α β : Type}
/-- The tokens from i on and before n stand in the other list d places on. -/
def Agr (d : Nat) (ts ts' : List Kt) (i n : Nat) : Prop := ∀ k, i ≤ k → k < n → ts[k]? = ts'[k + d]?
theorem Agr.mono {d : Nat} {ts ts' : List Kt} {i n i' n' : Nat} (h : Agr d ts ts' i n) (hi : i ≤ i') (hn : n' ≤ n) : Agr d ts ts' i' n' := fun k h1 h2 => h k (by omega) (by omega)
theorem Agr.tx {d : Nat} {ts ts' : List Kt} {i n k : Nat} (h : Agr d ts ts' i n) (h1 : i ≤ k) (h2 : k < n) : Px.tx ts' (k + d) = Px.tx ts k := by
 unfold Px.tx; rw [h k h1 h2]
theorem Agr.kd {d : Nat} {ts ts' : List Kt} {i n k : Nat} (h : Agr d ts ts' i n) (h1 : i ≤ k) (h2 : k < n) : Px.kd ts' (k + d) = Px.kd ts k := by
 unfold Px.kd; rw [h k h1 h2]
theorem Agr.isK {d : Nat} {ts ts' : List Kt} {i n k : Nat} (h : Agr d ts ts' i n) (h1 : i ≤ k) (h2 : k < n) (c : Nat) : Px.isK c ts' (k + d) = Px.isK c ts k := by
 unfold Px.isK; rw [h.tx h1 h2, h.kd h1 h2]
theorem Agr.lt {d : Nat} {ts ts' : List Kt} {i n k : Nat} (h : Agr d ts ts' i n) (h1 : i ≤ k) (h2 : k < n) : k + d < ts'.length ↔ k < ts.length := by
 have := h k h1 h2
 constructor
 ·intro hk
  rw [List.getElem?_eq_getElem hk] at this
  exact (List.getElem?_eq_some_iff.1 this).1
 ·intro hk
  rw [List.getElem?_eq_getElem hk] at this
  exact (List.getElem?_eq_some_iff.1 this.symm).1
/-- What one reads here, the other reads d places on. -/
def Sim (d c : Nat) (g : α → β) (p : P α) (p' : P β) : Prop := ∀ ts ts' i,
 (∀ a j, p ts i = .ok a j → Agr d ts ts' i (j + c) → p' ts' (i + d) = .ok (g a) (j + d)) ∧
 (∀ j, p ts i = .fail j → Agr d ts ts' i (j + 1) → p' ts' (i + d) = .fail (j + d))
theorem Sim.weak {d : Nat} {g : α → β} {p : P α} {p' : P β} (h : Sim d 0 g p p') : Sim d 1 g p p' := fun ts ts' i =>
 ⟨fun a j h1 h2 => (h ts ts' i).1 a j h1 (h2.mono (Nat.le_refl _) (by omega)), (h ts ts' i).2⟩
theorem Sim.bind {γ δ : Type} {d c : Nat} {g : α → γ} {h : β → δ} {p : P α} {p' : P γ} {f : α → P β} {f' : γ → P δ} (hp : Sim d c g p p') (hf : ∀ a, Sim d 1 h (f a) (f' (g a))) (hc : c ≤ 1) (up : Up p) (uf : ∀ a, Up (f a)) (ff : ∀ a, Fp (f a)) : Sim d 1 h (Px.bind p f) (Px.bind p' f') := fun ts ts' i => by
 refine ⟨fun b j hb ha => ?_, fun j hb ha => ?_⟩
 ·obtain ⟨a, k, h1, h2⟩ := bind_inv hb
  have hk := up _ _ _ _ h1
  have hj := uf _ _ _ _ _ h2
  unfold Px.bind
  rw [(hp ts ts' i).1 a k h1 (ha.mono (Nat.le_refl _) (by omega))]
  exact (hf a ts ts' k).1 b j h2 (ha.mono hk (Nat.le_refl _))
 ·unfold Px.bind
  rcases bind_fail_inv hb with h1 | ⟨a, k, h1, h2⟩
  ·rw [(hp ts ts' i).2 j h1 ha]
  ·have hk := up _ _ _ _ h1
   have hj := ff _ _ _ _ h2
   rw [(hp ts ts' i).1 a k h1 (ha.mono (Nat.le_refl _) (by omega))]
   exact (hf a ts ts' k).2 j h2 (ha.mono hk (Nat.le_refl _))
/-- The same, where the second one reads a token at its end, and its last token is the last that matters. -/
theorem Sim.bind0 {γ δ : Type} {d c : Nat} {g : α → γ} {h : β → δ} {p : P α} {p' : P γ} {f : α → P β} {f' : γ → P δ} (hp : Sim d c g p p') (hf : ∀ a, Sim d 0 h (f a) (f' (g a))) (hc : c ≤ 1) (up : Up p) (uf : ∀ a ts i b j, f a ts i = .ok b j → i < j) (ff : ∀ a, Fp (f a)) : Sim d 0 h (Px.bind p f) (Px.bind p' f') := fun ts ts' i => by
 refine ⟨fun b j hb ha => ?_, fun j hb ha => ?_⟩
 ·obtain ⟨a, k, h1, h2⟩ := bind_inv hb
  have hk := up _ _ _ _ h1
  have hj := uf _ _ _ _ _ h2
  unfold Px.bind
  rw [(hp ts ts' i).1 a k h1 (ha.mono (Nat.le_refl _) (by omega))]
  exact (hf a ts ts' k).1 b j h2 (ha.mono hk (Nat.le_refl _))
 ·unfold Px.bind
  rcases bind_fail_inv hb with h1 | ⟨a, k, h1, h2⟩
  ·rw [(hp ts ts' i).2 j h1 ha]
  ·have hk := up _ _ _ _ h1
   have hj := ff _ _ _ _ h2
   rw [(hp ts ts' i).1 a k h1 (ha.mono (Nat.le_refl _) (by omega))]
   exact (hf a ts ts' k).2 j h2 (ha.mono hk (Nat.le_refl _))
theorem Sim.ret {d : Nat} (g : α → β) (a : α) : Sim d 0 g (Px.ret a) (Px.ret (g a)) := fun ts ts' i => by
 refine ⟨fun b j hb ha => ?_, fun j hb => by cases hb⟩
 unfold Px.ret at hb ⊢
 injection hb with h1 h2
 subst h1; subst h2; rfl
theorem Sim.ite {d k : Nat} {c : Prop} [Decidable c] {g : α → β} {p q : P α} {p' q' : P β} (hp : Sim d k g p p') (hq : Sim d k g q q') : Sim d k g (if c then p else q) (if c then p' else q') := by split <;> assumption
theorem Sim.stop {d c : Nat} {g : α → β} : Sim d c g (Px.stop (α := α)) (Px.stop (α := β)) := fun ts ts' i => by
 refine ⟨fun b j hb => (by cases hb), fun j hb ha => ?_⟩
 unfold Px.stop at hb ⊢
 injection hb with h; subst h; rfl
theorem Sim.take (d : Nat) (t : List UInt8) : Sim d 1 id (Px.take t) (Px.take t) := fun ts ts' i => by
 refine ⟨fun a j h1 ha => ?_, fun j h1 ha => ?_⟩
 ·have hj : i ≤ j := Up.take t ts i a j h1
  unfold Px.take at h1 ⊢
  rw [ha.tx (Nat.le_refl _) (by omega)]
  split at h1
  ·rename_i hc; rw [if_pos hc]; injection h1 with h2 h3; subst h2; subst h3; simp only [id]; congr 1; omega
  ·rename_i hc; rw [if_neg hc]; injection h1 with h2 h3; subst h2; subst h3; simp only [id]
 ·unfold Px.take at h1; split at h1 <;> cases h1
theorem Sim.need (d : Nat) (t : List UInt8) : Sim d 0 id (Px.need t) (Px.need t) := fun ts ts' i => by
 refine ⟨fun a j h1 ha => ?_, fun j h1 ha => ?_⟩
 ·unfold Px.need at h1 ⊢
  split at h1
  ·rename_i hc
   injection h1 with h2 h3; subst h3
   rw [ha.tx (Nat.le_refl _) (by omega), if_pos hc]
   congr 1; omega
  ·cases h1
 ·have hj : i ≤ j := Fp.need t ts i j h1
  unfold Px.need at h1 ⊢
  rw [ha.tx (Nat.le_refl _) (by omega)]
  split at h1
  ·cases h1
  ·rename_i hc; rw [if_neg hc]; injection h1 with h2; subst h2; rfl
theorem Sim.word (d k : Nat) : Sim d 0 id (Px.word k) (Px.word k) := fun ts ts' i => by
 refine ⟨fun a j h1 ha => ?_, fun j h1 ha => ?_⟩
 ·unfold Px.word at h1 ⊢
  split at h1
  ·rename_i hc
   injection h1 with h2 h3; subst h3
   rw [ha.isK (Nat.le_refl _) (by omega), ha.tx (Nat.le_refl _) (by omega), if_pos hc, h2]
   simp only [id]
   congr 1; omega
  ·cases h1
 ·have hj : i ≤ j := Fp.word k ts i j h1
  unfold Px.word at h1 ⊢
  rw [ha.isK (Nat.le_refl _) (by omega)]
  split at h1
  ·cases h1
  ·rename_i hc; rw [if_neg hc]; injection h1 with h2; subst h2; rfl
theorem Sim.number (d : Nat) : Sim d 1 id Px.number Px.number := (Sim.word d 3).bind (fun w => (Sim.ret id (num w)).weak) (by omega) (Up.word 3) (fun _ => Up.ret _) fun _ => Fp.ret _
theorem Sim.many {d : Nat} {g : α → β} {p : P α} {p' : P β} (hp : Sim d 1 g p p') (up : Up p) (fp : Fp p) : ∀ f, Sim d 1 (List.map g) (Px.many p f) (Px.many p' f)
 | 0 => Sim.stop
 | f + 1 => fun ts ts' i => by
  have ih := Sim.many hp up fp f ts ts'
  refine ⟨fun l j h1 ha => ?_, fun j h1 ha => ?_⟩
  ·unfold Px.many at h1 ⊢
   cases hq : p ts i with
   | fail k => rw [hq] at h1; cases h1
   | ok a k =>
    have hk := up _ _ _ _ hq
    rw [hq] at h1
    dsimp only at h1
    split at h1
    ·rename_i hc
     cases hr : Px.many p f ts (k + 1) with
     | fail m => rw [hr] at h1; cases h1
     | ok l2 m =>
      have hm := Up.many up f _ _ _ _ hr
      rw [hr] at h1
      injection h1 with h2 h3
      subst h2; subst h3
      rw [(hp ts ts' i).1 a k hq (ha.mono (Nat.le_refl _) (by omega))]
      dsimp only
      rw [ha.tx hk (by omega), if_pos hc]
      have e := (ih (k + 1)).1 l2 m hr (ha.mono (by omega) (by omega))
      rw [show k + 1 + d = k + d + 1 by omega] at e
      rw [e]
      rfl
    ·rename_i hc
     injection h1 with h2 h3
     subst h2; subst h3
     rw [(hp ts ts' i).1 a k hq (ha.mono (Nat.le_refl _) (by omega))]
     dsimp only
     rw [ha.tx hk (by omega), if_neg hc]
     rfl
  ·unfold Px.many at h1 ⊢
   cases hq : p ts i with
   | fail k =>
    rw [hq] at h1
    injection h1 with h2
    subst h2
    rw [(hp ts ts' i).2 k hq ha]
   | ok a k =>
    have hk := up _ _ _ _ hq
    rw [hq] at h1
    dsimp only at h1
    split at h1
    ·rename_i hc
     cases hr : Px.many p f ts (k + 1) with
     | ok l2 m => rw [hr] at h1; cases h1
     | fail m =>
      have hm := Fp.many up fp f _ _ _ hr
      rw [hr] at h1
      injection h1 with h2
      subst h2
      rw [(hp ts ts' i).1 a k hq (ha.mono (Nat.le_refl _) (by omega))]
      dsimp only
      rw [ha.tx hk (by omega), if_pos hc]
      have e := (ih (k + 1)).2 m hr (ha.mono (by omega) (by omega))
      rw [show k + 1 + d = k + d + 1 by omega] at e
      rw [e]
    ·cases h1
theorem Sim.list {d : Nat} {g : α → β} {p : P α} {p' : P β} (hp : Sim d 1 g p p') (up : Up p) (fp : Fp p) : Sim d 1 (List.map g) (Px.list p) (Px.list p') := Sim.many hp up fp fuel
/-- A choice by what stands here. -/
theorem Sim.pick {d c : Nat} {g : α → β} {p q : P α} {p' q' : P β} {b : List Kt → Nat → Bool} (hp : Sim d c g p p') (hq : Sim d c g q q') (hb : ∀ ts ts' i n, Agr d ts ts' i n → i < n → b ts' (i + d) = b ts i) (hsp : ∀ ts i a j, b ts i = true → p ts i = .ok a j → i < j + c) (hsq : ∀ ts i a j, b ts i = false → q ts i = .ok a j → i < j + c) (fp : Fp p) (fq : Fp q) : Sim d c g (fun ts i => if b ts i then p ts i else q ts i) (fun ts i => if b ts i then p' ts i else q' ts i) := fun ts ts' i => by
 refine ⟨fun a j h1 ha => ?_, fun j h1 ha => ?_⟩
 ·dsimp only at h1 ⊢
  split at h1
  ·rename_i hc
   rw [hb ts ts' i _ ha (hsp _ _ _ _ hc h1), if_pos hc]
   exact (hp ts ts' i).1 a j h1 ha
  ·rename_i hc
   rw [hb ts ts' i _ ha (hsq _ _ _ _ (by simpa using hc) h1), if_neg hc]
   exact (hq ts ts' i).1 a j h1 ha
 ·dsimp only at h1 ⊢
  split at h1
  ·rename_i hc
   have := fp _ _ _ h1
   rw [hb ts ts' i _ ha (by omega), if_pos hc]
   exact (hp ts ts' i).2 j h1 ha
  ·rename_i hc
   have := fq _ _ _ h1
   rw [hb ts ts' i _ ha (by omega), if_neg hc]
   exact (hq ts ts' i).2 j h1 ha
theorem Sim.pick1 {d : Nat} {g : α → β} {p q : P α} {p' q' : P β} {b : List Kt → Nat → Bool} (hp : Sim d 1 g p p') (hq : Sim d 1 g q q') (hb : ∀ ts ts' i n, Agr d ts ts' i n → i < n → b ts' (i + d) = b ts i) (up : Up p) (uq : Up q) (fp : Fp p) (fq : Fp q) : Sim d 1 g (fun ts i => if b ts i then p ts i else q ts i) (fun ts i => if b ts i then p' ts i else q' ts i) :=
 Sim.pick hp hq hb (fun ts i a j _ h => by have := up _ _ _ _ h; omega) (fun ts i a j _ h => by have := uq _ _ _ _ h; omega) fp fq
theorem agr_isK (d k : Nat) : ∀ ts ts' i n, Agr d ts ts' i n → i < n → isK k ts' (i + d) = isK k ts i := fun ts ts' i n h hi => h.isK (Nat.le_refl _) hi k
theorem Sim.wordTo {d : Nat} {g : β → β} (k : Nat) (f : List UInt8 → β) (f' : List UInt8 → β) (h : ∀ w, f' w = g (f w)) : Sim d 1 g (Px.bind (Px.word k) fun w => Px.ret (f w)) (Px.bind (Px.word k) fun w => Px.ret (f' w)) :=
 (Sim.word d k).bind (fun w => by rw [show f' (id w) = g (f w) from h w]; exact (Sim.ret g (f w)).weak) (by omega) (Up.word k) (fun _ => Up.ret _) fun _ => Fp.ret _
theorem Sim.constant (d : Nat) : Sim d 1 id Px.constant Px.constant :=
 Sim.pick1 (p := Px.bind Px.number fun n => Px.ret (⟨[], 1, n, []⟩ : T)) (q := Px.bind (Px.word 1) fun w => Px.ret (⟨[], 2, 0, w⟩ : T)) ((Sim.number d).bind (fun w => (Sim.ret id (⟨[], 1, w, []⟩ : T)).weak) (by omega) Up.number (fun _ => Up.ret _) fun _ => Fp.ret _) (Sim.wordTo 1 (fun w => (⟨[], 2, 0, w⟩ : T)) (fun w => ⟨[], 2, 0, w⟩) fun _ => rfl) (agr_isK d 3) (Up.number.bind fun _ => Up.ret _) ((Up.word 1).bind fun _ => Up.ret _) (Fp.number.bind Up.number fun _ => Fp.ret _) ((Fp.word 1).bind (Up.word 1) fun _ => Fp.ret _)
theorem Sim.term (d : Nat) : Sim d 1 id Px.term Px.term :=
 Sim.pick1 (p := Px.bind (Px.word 2) fun w => Px.ret (⟨w, 0, 0, []⟩ : T)) (q := Px.constant) (Sim.wordTo 2 (fun w => (⟨w, 0, 0, []⟩ : T)) (fun w => ⟨w, 0, 0, []⟩) fun _ => rfl) (Sim.constant d) (agr_isK d 2) ((Up.word 2).bind fun _ => Up.ret _) Up.constant ((Fp.word 2).bind (Up.word 2) fun _ => Fp.ret _) Fp.constant
theorem Sim.terms {d : Nat} {p p' : P T} (hp : Sim d 1 id p p') (up : Up p) (fp : Fp p) : Sim d 1 id (Px.terms p) (Px.terms p') := fun ts ts' i => by
 have hl := Sim.list hp up fp ts ts' i
 rw [List.map_id_fun] at hl
 refine ⟨fun a j h1 ha => ?_, fun j h1 ha => ?_⟩
 ·have hj := Up.terms up _ _ _ _ h1
  unfold Px.terms at h1 ⊢
  rw [ha.tx (Nat.le_refl _) (by omega)]
  split at h1
  ·rename_i hc; rw [if_pos hc]; injection h1 with h2 h3; subst h2; subst h3; rfl
  ·rename_i hc; rw [if_neg hc]; exact hl.1 a j h1 ha
 ·have hj := Fp.terms up fp _ _ _ h1
  unfold Px.terms at h1 ⊢
  rw [ha.tx (Nat.le_refl _) (by omega)]
  split at h1
  ·cases h1
  ·rename_i hc; rw [if_neg hc]; exact hl.2 j h1 ha
theorem Sim.operator (d : Nat) : Sim d 1 id Px.operator Px.operator := fun ts ts' i => by
 refine ⟨fun a j h1 ha => ?_, fun j h1 ha => ?_⟩
 ·have hj := Up.operator _ _ _ _ h1
  unfold Px.operator at h1 ⊢
  rw [ha.tx (Nat.le_refl _) (by omega)]
  split at h1
  ·cases h1
  ·rename_i hc; rw [if_neg hc]; injection h1 with h2 h3; subst h2; subst h3; simp only [id]; congr 1; omega
 ·have hj := Fp.operator _ _ _ h1
  unfold Px.operator at h1 ⊢
  rw [ha.tx (Nat.le_refl _) (by omega)]
  split at h1
  ·rename_i hc; rw [if_pos hc]; injection h1 with h2; subst h2; rfl
  ·cases h1
def L.mv (d : Nat) (l : L) : L := { l with pos := l.pos + d }
theorem Sim.compare (d p : Nat) : Sim d 1 (L.mv d) (Px.compare p) (Px.compare (p + d)) :=
 (Sim.term d).bind (fun a => (Sim.operator d).bind (fun o => (Sim.term d).bind (fun b => (Sim.ret (L.mv d) _).weak) (by omega) Up.term (fun _ => Up.ret _) fun _ => Fp.ret _) (by omega) Up.operator (fun _ => Up.term.bind fun _ => Up.ret _) fun _ => Fp.term.bind Up.term fun _ => Fp.ret _) (by omega) Up.term (fun _ => Up.operator.bind fun _ => Up.term.bind fun _ => Up.ret _) fun _ => Fp.operator.bind Up.operator fun _ => Fp.term.bind Up.term fun _ => Fp.ret _
theorem Sim.optBind (d : Nat) : Sim d 1 id Px.optBind Px.optBind := (Sim.take d _).bind (fun b => Sim.ite (Sim.word d 2).weak (Sim.ret id _).weak) (by omega) (Up.take _) (fun _ => Up.ite (Up.word _) (Up.ret _)) fun _ => Fp.ite (Fp.word _) (Fp.ret _)
theorem Sim.optName (d : Nat) : Sim d 1 id Px.optName Px.optName := (Sim.take d _).bind (fun b => Sim.ite (Sim.word d 1).weak (Sim.ret id _).weak) (by omega) (Up.take _) (fun _ => Up.ite (Up.word _) (Up.ret _)) fun _ => Fp.ite (Fp.word _) (Fp.ret _)
theorem Sim.atom (d : Nat) (n : Bool) (p : Nat) : Sim d 1 (L.mv d) (Px.atom n p) (Px.atom n (p + d)) := by
 unfold Px.atom
 refine (Sim.word d 1).bind (fun name => ?_) (by omega) (Up.word _) (fun _ => ?_) fun _ => ?_
 ·refine (Sim.need d _).bind (fun _ => ?_) (by omega) (Up.need _) (fun _ => ?_) fun _ => ?_
  ·refine (Sim.terms (Sim.term d) Up.term Fp.term).bind (fun args => ?_) (by omega) (Up.terms Up.term) (fun _ => ?_) fun _ => ?_
   ·refine (Sim.ite (Sim.ret id _).weak (Sim.optBind d)).bind (fun b => ?_) (by omega) (Up.ite (Up.ret _) Up.optBind) (fun _ => ?_) fun _ => ?_
    ·refine (Sim.need d _).bind (fun _ => ?_) (by omega) (Up.need _) (fun _ => ?_) fun _ => ?_
     ·refine (Sim.ite (Sim.take d _) (Sim.ret id _).weak).bind (fun least => ?_) (by omega) (Up.ite (Up.take _) (Up.ret _)) (fun _ => ?_) fun _ => ?_
      ·exact (Sim.ite (Sim.word d _).weak (Sim.ret id _).weak).bind (fun e => (Sim.ret (L.mv d) _).weak) (by omega) (Up.ite (Up.word _) (Up.ret _)) (fun _ => Up.ret _) fun _ => Fp.ret _
      ·exact (Up.ite (Up.word _) (Up.ret _)).bind fun _ => Up.ret _
      ·exact (Fp.ite (Fp.word _) (Fp.ret _)).bind (Up.ite (Up.word _) (Up.ret _)) fun _ => Fp.ret _
     ·exact (Up.ite (Up.take _) (Up.ret _)).bind fun _ => (Up.ite (Up.word _) (Up.ret _)).bind fun _ => Up.ret _
     ·exact (Fp.ite (Fp.take _) (Fp.ret _)).bind (Up.ite (Up.take _) (Up.ret _)) fun _ => (Fp.ite (Fp.word _) (Fp.ret _)).bind (Up.ite (Up.word _) (Up.ret _)) fun _ => Fp.ret _
    ·exact (Up.need _).bind fun _ => (Up.ite (Up.take _) (Up.ret _)).bind fun _ => (Up.ite (Up.word _) (Up.ret _)).bind fun _ => Up.ret _
    ·exact (Fp.need _).bind (Up.need _) fun _ => (Fp.ite (Fp.take _) (Fp.ret _)).bind (Up.ite (Up.take _) (Up.ret _)) fun _ => (Fp.ite (Fp.word _) (Fp.ret _)).bind (Up.ite (Up.word _) (Up.ret _)) fun _ => Fp.ret _
   ·exact (Up.ite (Up.ret _) Up.optBind).bind fun _ => (Up.need _).bind fun _ => (Up.ite (Up.take _) (Up.ret _)).bind fun _ => (Up.ite (Up.word _) (Up.ret _)).bind fun _ => Up.ret _
   ·exact (Fp.ite (Fp.ret _) Fp.optBind).bind (Up.ite (Up.ret _) Up.optBind) fun _ => (Fp.need _).bind (Up.need _) fun _ => (Fp.ite (Fp.take _) (Fp.ret _)).bind (Up.ite (Up.take _) (Up.ret _)) fun _ => (Fp.ite (Fp.word _) (Fp.ret _)).bind (Up.ite (Up.word _) (Up.ret _)) fun _ => Fp.ret _
  ·exact (Up.terms Up.term).bind fun _ => (Up.ite (Up.ret _) Up.optBind).bind fun _ => (Up.need _).bind fun _ => (Up.ite (Up.take _) (Up.ret _)).bind fun _ => (Up.ite (Up.word _) (Up.ret _)).bind fun _ => Up.ret _
  ·exact (Fp.terms Up.term Fp.term).bind (Up.terms Up.term) fun _ => (Fp.ite (Fp.ret _) Fp.optBind).bind (Up.ite (Up.ret _) Up.optBind) fun _ => (Fp.need _).bind (Up.need _) fun _ => (Fp.ite (Fp.take _) (Fp.ret _)).bind (Up.ite (Up.take _) (Up.ret _)) fun _ => (Fp.ite (Fp.word _) (Fp.ret _)).bind (Up.ite (Up.word _) (Up.ret _)) fun _ => Fp.ret _
 ·exact (Up.need _).bind fun _ => (Up.terms Up.term).bind fun _ => (Up.ite (Up.ret _) Up.optBind).bind fun _ => (Up.need _).bind fun _ => (Up.ite (Up.take _) (Up.ret _)).bind fun _ => (Up.ite (Up.word _) (Up.ret _)).bind fun _ => Up.ret _
 ·exact (Fp.need _).bind (Up.need _) fun _ => (Fp.terms Up.term Fp.term).bind (Up.terms Up.term) fun _ => (Fp.ite (Fp.ret _) Fp.optBind).bind (Up.ite (Up.ret _) Up.optBind) fun _ => (Fp.need _).bind (Up.need _) fun _ => (Fp.ite (Fp.take _) (Fp.ret _)).bind (Up.ite (Up.take _) (Up.ret _)) fun _ => (Fp.ite (Fp.word _) (Fp.ret _)).bind (Up.ite (Up.word _) (Up.ret _)) fun _ => Fp.ret _
end Px
end Go.Proofs.YtpcmlkpnjimbiaaDoor
namespace Go.Proofs.YtpcmlkpnjimbiaaDoor
set_option linter.unusedVariables false
set_option linter.unusedSimpArgs false
namespace Px
variable {α β : Type}
theorem isK_word {ts : List Kt} {i k : Nat} (h : isK k ts i = true) : word k ts i = .ok (tx ts i) (i + 1) := by
 unfold word; rw [if_pos h]
theorem two_ne_one {ts : List Kt} {i a b : Nat} (h : isK a ts i = true) (hab : a ≠ b) : isK b ts i = false := by
 unfold isK at h ⊢
 rw [Bool.and_eq_true] at h
 have := of_decide_eq_true h.1
 have e : decide (kd ts i = b) = false := decide_eq_false (by omega)
 rw [e, Bool.false_and]
theorem term_name {ts : List Kt} {i : Nat} (h : isK 1 ts i = true) : term ts i = .ok ⟨[], 2, 0, tx ts i⟩ (i + 1) := by
 unfold term constant
 rw [two_ne_one h (by decide), if_neg (by simp), two_ne_one h (by decide), if_neg (by simp)]
 unfold bind
 rw [isK_word h]
 rfl
theorem compare_name_ok {ts : List Kt} {i p j : Nat} {x : L} (h : isK 1 ts i = true) (hc : compare p ts i = .ok x j) : i + 1 ≤ j := by
 unfold compare at hc
 obtain ⟨a, k, h1, h2⟩ := bind_inv hc
 rw [term_name h] at h1
 injection h1 with _ h1
 have := (Up.operator.bind fun o => Up.term.bind fun b => Up.ret (⟨5, [], [a, b], [], [], o, p⟩ : L)) ts k x j h2
 omega
theorem compare_name_fail {ts : List Kt} {i p j : Nat} (h : isK 1 ts i = true) (hc : compare p ts i = .fail j) : i + 1 ≤ j := by
 unfold compare at hc
 rcases bind_fail_inv hc with h1 | ⟨a, k, h1, h2⟩
 ·rw [term_name h] at h1; cases h1
 ·rw [term_name h] at h1
  injection h1 with _ h1
  have := (Fp.operator.bind Up.operator fun o => Fp.term.bind Up.term fun b => Fp.ret (⟨5, [], [a, b], [], [], o, p⟩ : L)) ts k j h2
  omega
theorem atom_name_ok {ts : List Kt} {i p j : Nat} {n : Bool} {x : L} (hc : atom n p ts i = .ok x j) : i + 1 ≤ j := by
 unfold atom at hc
 obtain ⟨a, k, h1, h2⟩ := bind_inv hc
 have e1 := word_next' h1
 have := ((Up.need [40]).bind fun _ => (Up.terms Up.term).bind fun args => (Up.ite (Up.ret _) Up.optBind).bind fun b => (Up.need [41]).bind fun _ => (Up.ite (Up.take _) (Up.ret _)).bind fun _ => (Up.ite (Up.word _) (Up.ret _)).bind fun _ => Up.ret _) ts k x j h2
 omega
theorem atom_name_fail {ts : List Kt} {i p j : Nat} {n : Bool} (h : isK 1 ts i = true) (hc : atom n p ts i = .fail j) : i + 1 ≤ j := by
 unfold atom at hc
 rcases bind_fail_inv hc with h1 | ⟨a, k, h1, h2⟩
 ·rw [isK_word h] at h1; cases h1
 ·have e1 := word_next' h1
  have := ((Fp.need _).bind (Up.need _) fun _ => (Fp.terms Up.term Fp.term).bind (Up.terms Up.term) fun _ => (Fp.ite (Fp.ret _) Fp.optBind).bind (Up.ite (Up.ret _) Up.optBind) fun _ => (Fp.need _).bind (Up.need _) fun _ => (Fp.ite (Fp.take _) (Fp.ret _)).bind (Up.ite (Up.take _) (Up.ret _)) fun _ => (Fp.ite (Fp.word _) (Fp.ret _)).bind (Up.ite (Up.word _) (Up.ret _)) fun _ => Fp.ret _) ts k j h2
  omega
theorem Sim.litPos (d p : Nat) : Sim d 1 (L.mv d) (Px.litPos p) (Px.litPos (p + d)) := fun ts ts' i => by
 refine ⟨fun x j h ha => ?_, fun j h ha => ?_⟩
 ·have hj := Up.litPos p _ _ _ _ h
  unfold Px.litPos at h ⊢
  rw [ha.isK (Nat.le_refl _) (by omega)]
  split at h
  ·rename_i h1
   rw [if_pos h1]
   have hj1 : i + 1 ≤ j := by
    split at h
    ·exact atom_name_ok h
    ·exact compare_name_ok h1 h
   rw [show i + d + 1 = i + 1 + d by omega, ha.tx (by omega) (by omega)]
   split at h
   ·rename_i h2
    rw [if_pos h2]
    exact (Sim.atom d false p ts ts' i).1 x j h ha
   ·rename_i h2
    rw [if_neg h2]
    exact (Sim.compare d p ts ts' i).1 x j h ha
  ·rename_i h1
   rw [if_neg h1]
   exact (Sim.compare d p ts ts' i).1 x j h ha
 ·have hj := Fp.litPos p _ _ _ h
  unfold Px.litPos at h ⊢
  rw [ha.isK (Nat.le_refl _) (by omega)]
  split at h
  ·rename_i h1
   rw [if_pos h1]
   have hj1 : i + 1 ≤ j := by
    split at h
    ·exact atom_name_fail h1 h
    ·exact compare_name_fail h1 h
   rw [show i + d + 1 = i + 1 + d by omega, ha.tx (by omega) (by omega)]
   split at h
   ·rename_i h2
    rw [if_pos h2]
    exact (Sim.atom d false p ts ts' i).2 j h ha
   ·rename_i h2
    rw [if_neg h2]
    exact (Sim.compare d p ts ts' i).2 j h ha
  ·rename_i h1
   rw [if_neg h1]
   exact (Sim.compare d p ts ts' i).2 j h ha
def litAt (i : Nat) : P L := Px.bind (Px.take sNot) (fun neg => if neg then Px.atom true i else Px.litPos i)
theorem Sim.litAt (d i : Nat) : Sim d 1 (L.mv d) (Px.litAt i) (Px.litAt (i + d)) :=
 (Sim.take d sNot).bind (fun neg => Sim.ite (Sim.atom d true i) (Sim.litPos d i)) (by omega) (Up.take _) (fun _ => Up.ite (Up.atom _ _) (Up.litPos _)) fun _ => Fp.ite (Fp.atom _ _) (Fp.litPos _)
theorem Sim.literal (d : Nat) : Sim d 1 (L.mv d) Px.literal Px.literal := fun ts ts' i => Sim.litAt d i ts ts' i
theorem Sim.element (d : Nat) : Sim d 1 id Px.element Px.element :=
 Sim.pick1 (p := Px.bind (Px.word 2) fun v => Px.ret (⟨2, [], v⟩ : E)) (q := Px.bind (Px.word 1) (fun name => Px.bind (Px.take [40]) fun f => if f then Px.bind (Px.word 2) fun v => Px.bind (Px.need [41]) fun _ => Px.ret (⟨3, name, v⟩ : E) else Px.ret ⟨1, name, []⟩)) (Sim.wordTo 2 (fun v => (⟨2, [], v⟩ : E)) (fun v => ⟨2, [], v⟩) fun _ => rfl)
  ((Sim.word d 1).bind (fun name => (Sim.take d [40]).bind (fun f => Sim.ite ((Sim.word d 2).bind (fun v => (Sim.need d [41]).bind (fun _ => (Sim.ret id (⟨3, name, v⟩ : E)).weak) (by omega) (Up.need _) (fun _ => Up.ret _) fun _ => Fp.ret _) (by omega) (Up.word _) (fun _ => (Up.need _).bind fun _ => Up.ret _) fun _ => (Fp.need _).bind (Up.need _) fun _ => Fp.ret _) (Sim.ret id (⟨1, name, []⟩ : E)).weak) (by omega) (Up.take _)
   (fun _ => Up.ite ((Up.word 2).bind fun _ => (Up.need _).bind fun _ => Up.ret _) (Up.ret _)) fun _ => Fp.ite ((Fp.word 2).bind (Up.word 2) fun _ => (Fp.need _).bind (Up.need _) fun _ => Fp.ret _) (Fp.ret _)) (by omega) (Up.word _)
   (fun _ => (Up.take _).bind fun _ => Up.ite ((Up.word 2).bind fun _ => (Up.need _).bind fun _ => Up.ret _) (Up.ret _)) fun _ => (Fp.take _).bind (Up.take _) fun _ => Fp.ite ((Fp.word 2).bind (Up.word 2) fun _ => (Fp.need _).bind (Up.need _) fun _ => Fp.ret _) (Fp.ret _))
  (agr_isK d 2) ((Up.word 2).bind fun _ => Up.ret _) ((Up.word 1).bind (fun _ => (Up.take _).bind fun _ => Up.ite ((Up.word 2).bind fun _ => (Up.need _).bind fun _ => Up.ret _) (Up.ret _)))
  ((Fp.word 2).bind (Up.word 2) fun _ => Fp.ret _) ((Fp.word 1).bind (Up.word 1) (fun _ => (Fp.take _).bind (Up.take _) fun _ => Fp.ite ((Fp.word 2).bind (Up.word 2) fun _ => (Fp.need _).bind (Up.need _) fun _ => Fp.ret _) (Fp.ret _)))
theorem Sim.optElem (d : Nat) : Sim d 1 id Px.optElem Px.optElem := (Sim.take d _).bind (fun b => Sim.ite (Sim.element d) (Sim.ret id _).weak) (by omega) (Up.take _) (fun _ => Up.ite Up.element (Up.ret _)) fun _ => Fp.ite Fp.element (Fp.ret _)
theorem Sim.ruleHead (d : Nat) : Sim d 1 id Px.ruleHead Px.ruleHead := by
 unfold Px.ruleHead
 refine (Sim.word d 1).bind (fun name => ?_) (by omega) (Up.word _) (fun _ => ?_) fun _ => ?_
 ·refine (Sim.need d _).bind (fun _ => ?_) (by omega) (Up.need _) (fun _ => ?_) fun _ => ?_
  ·refine (Sim.terms (Sim.term d) Up.term Fp.term).bind (fun args => ?_) (by omega) (Up.terms Up.term) (fun _ => ?_) fun _ => ?_
   ·refine (Sim.optElem d).bind (fun b => ?_) (by omega) Up.optElem (fun _ => ?_) fun _ => ?_
    ·exact (Sim.need d _).bind (fun _ => (Sim.ret id (name, args, b)).weak) (by omega) (Up.need _) (fun _ => Up.ret _) fun _ => Fp.ret _
    ·exact (Up.need _).bind fun _ => Up.ret _
    ·exact (Fp.need _).bind (Up.need _) fun _ => Fp.ret _
   ·exact Up.optElem.bind fun _ => (Up.need _).bind fun _ => Up.ret _
   ·exact Fp.optElem.bind Up.optElem fun _ => (Fp.need _).bind (Up.need _) fun _ => Fp.ret _
  ·exact (Up.terms Up.term).bind fun _ => Up.optElem.bind fun _ => (Up.need _).bind fun _ => Up.ret _
  ·exact (Fp.terms Up.term Fp.term).bind (Up.terms Up.term) fun _ => Fp.optElem.bind Up.optElem fun _ => (Fp.need _).bind (Up.need _) fun _ => Fp.ret _
 ·exact (Up.need _).bind fun _ => (Up.terms Up.term).bind fun _ => Up.optElem.bind fun _ => (Up.need _).bind fun _ => Up.ret _
 ·exact (Fp.need _).bind (Up.need _) fun _ => (Fp.terms Up.term Fp.term).bind (Up.terms Up.term) fun _ => Fp.optElem.bind Up.optElem fun _ => (Fp.need _).bind (Up.need _) fun _ => Fp.ret _
theorem Sim.optBody (d : Nat) : Sim d 1 (List.map (L.mv d)) Px.optBody Px.optBody := (Sim.take d _).bind (fun b => Sim.ite (Sim.list (Sim.literal d) Up.literal Fp.literal) (Sim.ret (List.map (L.mv d)) []).weak) (by omega) (Up.take _) (fun _ => Up.ite (Up.list Up.literal) (Up.ret _)) fun _ => Fp.ite (Fp.list Up.literal Fp.literal) (Fp.ret _)
def Ru.mv (d : Nat) (x : Ru) : Ru := { x with body := x.body.map (L.mv d), pos := x.pos + d }
/-- A token at the end. -/
theorem need_ret {ts : List Kt} {t : List UInt8} {a b : α} {i j : Nat} (h : Px.bind (Px.need t) (fun _ => Px.ret a) ts i = .ok b j) : i < j := by
 obtain ⟨_, k, h1, h2⟩ := bind_inv h
 unfold Px.need at h1
 split at h1
 ·injection h1 with _ h1
  unfold Px.ret at h2
  injection h2 with _ h2
  omega
 ·cases h1
theorem Sim.needRet (d : Nat) (t : List UInt8) (g : α → β) (a : α) : Sim d 0 g (Px.bind (Px.need t) fun _ => Px.ret a) (Px.bind (Px.need t) fun _ => Px.ret (g a)) := fun ts ts' i => by
 refine ⟨fun b j h ha => ?_, fun j h ha => ?_⟩
 ·obtain ⟨u, k, h1, h2⟩ := bind_inv h
  unfold Px.ret at h2
  injection h2 with h2 h3
  subst h2; subst h3
  unfold Px.bind
  rw [(Sim.need d t ts ts' i).1 u k h1 ha]
  rfl
 ·rcases bind_fail_inv h with h1 | ⟨u, k, h1, h2⟩
  ·unfold Px.bind
   rw [(Sim.need d t ts ts' i).2 j h1 ha]
  ·cases h2
theorem Sim.ruleEnd (d i : Nat) (h : List UInt8 × List T × E) : Sim d 0 (Ru.mv d) (Px.ruleEnd i h) (Px.ruleEnd (i + d) h) :=
 (Sim.optBody d).bind0 (fun body => Sim.needRet d [46] (Ru.mv d) ⟨h.1, h.2.1, h.2.2, body, i⟩) (by omega) Up.optBody (fun _ _ _ _ _ h => need_ret h) fun _ => (Fp.need _).bind (Up.need _) fun _ => Fp.ret _
theorem ruleEnd_lt {ts : List Kt} {i k j : Nat} {h : List UInt8 × List T × E} {x : Ru} (hh : ruleEnd i h ts k = .ok x j) : k < j := by
 obtain ⟨b, m, h1, h2⟩ := bind_inv hh
 have := Up.optBody _ _ _ _ h1
 have := need_ret h2
 omega
def ruleAt (i : Nat) : P Ru := Px.bind (Px.take sDeny) (fun d => Px.bind (if d then Px.ret ([], [], ⟨0, [], []⟩) else Px.ruleHead) (Px.ruleEnd i))
theorem Sim.ruleAt (d i : Nat) : Sim d 0 (Ru.mv d) (Px.ruleAt i) (Px.ruleAt (i + d)) :=
 (Sim.take d sDeny).bind0 (fun b => (Sim.ite (Sim.ret id _).weak (Sim.ruleHead d)).bind0 (fun h => Sim.ruleEnd d i h) (by omega) (Up.ite (Up.ret _) Up.ruleHead) (fun _ _ _ _ _ h => ruleEnd_lt h) fun _ => Fp.ruleEnd _ _) (by omega) (Up.take _)
  (fun b ts k x j hh => by
   obtain ⟨a, m, h1, h2⟩ := bind_inv hh
   have := (Up.ite (Up.ret _) Up.ruleHead) _ _ _ _ h1
   have := ruleEnd_lt h2
   omega)
  (fun _ => (Fp.ite (Fp.ret _) Fp.ruleHead).bind (Up.ite (Up.ret _) Up.ruleHead) fun _ => Fp.ruleEnd _ _)
theorem Sim.rule (d : Nat) : Sim d 0 (Ru.mv d) Px.rule Px.rule := fun ts ts' i => Sim.ruleAt d i ts ts' i
theorem latB_lt : ∀ {f : Nat} {es : List (List UInt8)} {cs : List (Nat × Nat)} {ts : List Kt} {i j : Nat} {b : List (List UInt8) × List (Nat × Nat)}, latB f es cs ts i = .ok b j → i < j
 | 0, _, _, _, _, _, _, h => by unfold Px.latB Px.stop at h; cases h
 | f + 1, es, cs, ts, i, j, b, h => by
  unfold Px.latB at h
  split at h
  ·injection h with _ h; omega
  ·obtain ⟨a, k, h1, h2⟩ := bind_inv h
   have := word_next' h1
   have := ((Up.take _).bind fun c => Up.ite ((Up.word 1).bind fun b => (Up.need _).bind fun _ => Up.latB f _ _) ((Up.need _).bind fun _ => Up.latB f _ _)) _ _ _ _ h2
   omega
theorem Sim.latB (d : Nat) : ∀ f es cs, Sim d 0 id (Px.latB f es cs) (Px.latB f es cs)
 | 0, _, _ => Sim.stop
 | f + 1, es, cs => fun ts ts' i => by
  have hS : Sim d 0 id (Px.bind (Px.word 1) (fun a => Px.bind (Px.take [60]) fun c => if c then Px.bind (Px.word 1) fun b => Px.bind (Px.need [59]) fun _ => Px.latB f (addE (addE es a).1 b).1 (cs ++ [((addE es a).2, (addE (addE es a).1 b).2)])
   else Px.bind (Px.need [59]) fun _ => Px.latB f (addE es a).1 cs)) (Px.bind (Px.word 1) (fun a => Px.bind (Px.take [60]) fun c => if c then Px.bind (Px.word 1) fun b => Px.bind (Px.need [59]) fun _ => Px.latB f (addE (addE es a).1 b).1 (cs ++ [((addE es a).2, (addE (addE es a).1 b).2)])
   else Px.bind (Px.need [59]) fun _ => Px.latB f (addE es a).1 cs)) := by
   have lt1 : ∀ (es : List (List UInt8)) (cs : List (Nat × Nat)) ts i b j, (Px.bind (Px.need [59]) fun _ => Px.latB f es cs) ts i = .ok b j → i < j := fun es cs ts i b j h => by
    obtain ⟨_, k, h1, h2⟩ := bind_inv h
    have := Up.need _ _ _ _ _ h1
    have := latB_lt h2
    omega
   have s1 : ∀ (es : List (List UInt8)) (cs : List (Nat × Nat)), Sim d 0 id (Px.bind (Px.need [59]) fun _ => Px.latB f es cs) (Px.bind (Px.need [59]) fun _ => Px.latB f es cs) := fun es cs =>
    (Sim.need d [59]).bind0 (fun _ => Sim.latB d f es cs) (by omega) (Up.need _) (fun _ _ _ _ _ h => latB_lt h) fun _ => Fp.latB _ _ _
   have lt2 : ∀ (es : List UInt8 → List (List UInt8)) (cs : List UInt8 → List (Nat × Nat)) ts i b j, (Px.bind (Px.word 1) fun b => Px.bind (Px.need [59]) fun _ => Px.latB f (es b) (cs b)) ts i = .ok b j → i < j := fun es cs ts i b j h => by
    obtain ⟨_, k, h1, h2⟩ := bind_inv h
    have := word_next' h1
    have := lt1 _ _ _ _ _ _ h2
    omega
   have f1 : ∀ (es : List (List UInt8)) (cs : List (Nat × Nat)), Fp (Px.bind (Px.need [59]) fun _ => Px.latB f es cs) := fun es cs => (Fp.need _).bind (Up.need _) fun _ => Fp.latB _ _ _
   have f2 : ∀ (es : List UInt8 → List (List UInt8)) (cs : List UInt8 → List (Nat × Nat)), Fp (Px.bind (Px.word 1) fun b => Px.bind (Px.need [59]) fun _ => Px.latB f (es b) (cs b)) := fun es cs => (Fp.word 1).bind (Up.word 1) fun b => f1 _ _
   have s2 : ∀ (es : List UInt8 → List (List UInt8)) (cs : List UInt8 → List (Nat × Nat)), Sim d 0 id (Px.bind (Px.word 1) fun b => Px.bind (Px.need [59]) fun _ => Px.latB f (es b) (cs b)) (Px.bind (Px.word 1) fun b => Px.bind (Px.need [59]) fun _ => Px.latB f (es b) (cs b)) := fun es cs =>
    (Sim.word d 1).bind0 (fun b => s1 _ _) (by omega) (Up.word _) (fun _ => lt1 _ _) fun _ => f1 _ _
   refine (Sim.word d 1).bind0 (fun a => ?_) (by omega) (Up.word _) (fun a ts i b j h => ?_) fun a => ?_
   ·refine (Sim.take d [60]).bind0 (fun c => Sim.ite (s2 _ _) (s1 _ _)) (by omega) (Up.take _) (fun c ts i b j h => ?_) fun c => Fp.ite (f2 _ _) (f1 _ _)
    split at h
    ·exact lt2 _ _ _ _ _ _ h
    ·exact lt1 _ _ _ _ _ _ h
   ·obtain ⟨c, k, h1, h2⟩ := bind_inv h
    have := Up.take _ _ _ _ _ h1
    split at h2
    ·have := lt2 _ _ _ _ _ _ h2; omega
    ·have := lt1 _ _ _ _ _ _ h2; omega
   ·exact (Fp.take _).bind (Up.take _) fun c => Fp.ite (f2 _ _) (f1 _ _)
  refine ⟨fun a j h ha => ?_, fun j h ha => ?_⟩
  ·have hj := latB_lt h
   unfold Px.latB at h ⊢
   rw [ha.tx (Nat.le_refl _) (by omega)]
   split at h
   ·rename_i hc
    rw [if_pos hc]
    injection h with h1 h2
    subst h1; subst h2
    simp only [id]; congr 1; omega
   ·rename_i hc
    rw [if_neg hc]
    exact (hS ts ts' i).1 a j h ha
  ·have hj := Fp.latB _ _ _ _ _ _ h
   unfold Px.latB at h ⊢
   rw [ha.tx (Nat.le_refl _) (by omega)]
   split at h
   ·cases h
   ·rename_i hc
    rw [if_neg hc]
    exact (hS ts ts' i).2 j h ha
theorem funB_lt : ∀ {f : Nat} {xs ys : List (List UInt8)} {ts : List Kt} {i j : Nat} {b : List (List UInt8) × List (List UInt8)}, funB f xs ys ts i = .ok b j → i < j
 | 0, _, _, _, _, _, _, h => by unfold Px.funB Px.stop at h; cases h
 | f + 1, es, cs, ts, i, j, b, h => by
  unfold Px.funB at h
  split at h
  ·injection h with _ h; omega
  ·obtain ⟨a, k, h1, h2⟩ := bind_inv h
   have := word_next' h1
   have := ((Up.need _).bind fun _ => (Up.word 1).bind fun b => (Up.need _).bind fun _ => Up.funB f _ _) _ _ _ _ h2
   omega
theorem Sim.funB (d : Nat) : ∀ f xs ys, Sim d 0 id (Px.funB f xs ys) (Px.funB f xs ys)
 | 0, _, _ => Sim.stop
 | f + 1, xs, ys => fun ts ts' i => by
  have lt1 : ∀ (es : List (List UInt8)) (cs : List (List UInt8)) ts i b j, (Px.bind (Px.need [59]) fun _ => Px.funB f es cs) ts i = .ok b j → i < j := fun es cs ts i b j h => by
   obtain ⟨_, k, h1, h2⟩ := bind_inv h
   have := Up.need _ _ _ _ _ h1
   have := funB_lt h2
   omega
  have s1 : ∀ (es : List (List UInt8)) (cs : List (List UInt8)), Sim d 0 id (Px.bind (Px.need [59]) fun _ => Px.funB f es cs) (Px.bind (Px.need [59]) fun _ => Px.funB f es cs) := fun es cs =>
   (Sim.need d [59]).bind0 (fun _ => Sim.funB d f es cs) (by omega) (Up.need _) (fun _ _ _ _ _ h => funB_lt h) fun _ => Fp.funB _ _ _
  have f1 : ∀ (es : List (List UInt8)) (cs : List (List UInt8)), Fp (Px.bind (Px.need [59]) fun _ => Px.funB f es cs) := fun es cs => (Fp.need _).bind (Up.need _) fun _ => Fp.funB _ _ _
  have lt2 : ∀ (es : List (List UInt8)) (cs : List UInt8 → List (List UInt8)) ts i b j, (Px.bind (Px.word 1) fun b => Px.bind (Px.need [59]) fun _ => Px.funB f es (cs b)) ts i = .ok b j → i < j := fun es cs ts i b j h => by
   obtain ⟨_, k, h1, h2⟩ := bind_inv h
   have := word_next' h1
   have := lt1 _ _ _ _ _ _ h2
   omega
  have f2 : ∀ (es : List (List UInt8)) (cs : List UInt8 → List (List UInt8)), Fp (Px.bind (Px.word 1) fun b => Px.bind (Px.need [59]) fun _ => Px.funB f es (cs b)) := fun es cs => (Fp.word 1).bind (Up.word 1) fun b => f1 _ _
  have s2 : ∀ (es : List (List UInt8)) (cs : List UInt8 → List (List UInt8)), Sim d 0 id (Px.bind (Px.word 1) fun b => Px.bind (Px.need [59]) fun _ => Px.funB f es (cs b)) (Px.bind (Px.word 1) fun b => Px.bind (Px.need [59]) fun _ => Px.funB f es (cs b)) := fun es cs =>
   (Sim.word d 1).bind0 (fun b => s1 _ _) (by omega) (Up.word _) (fun _ => lt1 _ _) fun _ => f1 _ _
  have hS : Sim d 0 id (Px.bind (Px.word 1) (fun a => Px.bind (Px.need [45, 62]) fun _ => Px.bind (Px.word 1) fun b => Px.bind (Px.need [59]) fun _ => Px.funB f (xs ++ [a]) (ys ++ [b]))) (Px.bind (Px.word 1) (fun a => Px.bind (Px.need [45, 62]) fun _ => Px.bind (Px.word 1) fun b => Px.bind (Px.need [59]) fun _ => Px.funB f (xs ++ [a]) (ys ++ [b]))) := by
   refine (Sim.word d 1).bind0 (fun a => ?_) (by omega) (Up.word _) (fun a ts i b j h => ?_) fun a => ?_
   ·exact (Sim.need d _).bind0 (fun _ => s2 _ _) (by omega) (Up.need _) (fun _ => lt2 _ _) fun _ => f2 _ _
   ·obtain ⟨_, k, h1, h2⟩ := bind_inv h
    have := Up.need _ _ _ _ _ h1
    have := lt2 _ _ _ _ _ _ h2
    omega
   ·exact (Fp.need _).bind (Up.need _) fun _ => f2 _ _
  refine ⟨fun a j h ha => ?_, fun j h ha => ?_⟩
  ·have hj := funB_lt h
   unfold Px.funB at h ⊢
   rw [ha.tx (Nat.le_refl _) (by omega)]
   split at h
   ·rename_i hc
    rw [if_pos hc]
    injection h with h1 h2
    subst h1; subst h2
    simp only [id]; congr 1; omega
   ·rename_i hc
    rw [if_neg hc]
    exact (hS ts ts' i).1 a j h ha
  ·have hj := Fp.funB _ _ _ _ _ _ h
   unfold Px.funB at h ⊢
   rw [ha.tx (Nat.le_refl _) (by omega)]
   split at h
   ·cases h
   ·rename_i hc
    rw [if_neg hc]
    exact (hS ts ts' i).2 j h ha
end Px
end Go.Proofs.YtpcmlkpnjimbiaaDoor
namespace Go.Proofs.YtpcmlkpnjimbiaaDoor
set_option linter.unusedVariables false
set_option linter.unusedSimpArgs false
namespace Px
variable {α β : Type}
theorem Sim.map0 {γ δ : Type} {d : Nat} {g : α → γ} {h : β → δ} {p : P α} {p' : P γ} {f : α → β} {f' : γ → δ} (hp : Sim d 0 g p p') (hf : ∀ a, f' (g a) = h (f a)) : Sim d 0 h (Px.bind p fun a => Px.ret (f a)) (Px.bind p' fun a => Px.ret (f' a)) := fun ts ts' i => by
 refine ⟨fun b j hb ha => ?_, fun j hb ha => ?_⟩
 ·obtain ⟨a, h1, rfl⟩ := map_ok hb
  unfold Px.bind
  rw [(hp ts ts' i).1 a j h1 ha]
  dsimp only
  unfold Px.ret
  rw [hf]
 ·have h1 := map_fail hb
  unfold Px.bind
  rw [(hp ts ts' i).2 j h1 ha]
def La.mv (d : Nat) (x : La) : La := { x with pos := x.pos + d }
def Fu.mv (d : Nat) (x : Fu) : Fu := { x with pos := x.pos + d }
def Pr.mv (d : Nat) (x : Pr) : Pr := { x with pos := x.pos + d }
def It.mv (d : Nat) : It → It
 | .lat x => .lat (x.mv d)
 | .fn x => .fn (x.mv d)
 | .pr x => .pr (x.mv d)
 | .ru x => .ru (x.mv d)
theorem Sim.latIn (d i : Nat) : Sim d 0 (La.mv d) (Px.latIn i) (Px.latIn (i + d)) := by
 unfold Px.latIn
 have u1 : Up (Px.latB fuel [] []) := Up.latB _ _ _
 refine (Sim.word d 1).bind0 (fun name => ?_) (by omega) (Up.word _) (fun a ts i b j h => ?_) fun a => ?_
 ·refine (Sim.need d _).bind0 (fun _ => (Sim.latB d _ _ _).map0 fun _ => rfl) (by omega) (Up.need _) (fun a ts i b j h => ?_) fun a => (Fp.latB _ _ _).bind (Up.latB _ _ _) fun _ => Fp.ret _
  obtain ⟨a, h1, _⟩ := map_ok h
  exact latB_lt h1
 ·obtain ⟨_, k, h1, h2⟩ := bind_inv h
  obtain ⟨a, h3, _⟩ := map_ok h2
  have := Up.need _ _ _ _ _ h1
  have := latB_lt h3
  omega
 ·exact (Fp.need _).bind (Up.need _) fun _ => (Fp.latB _ _ _).bind (Up.latB _ _ _) fun _ => Fp.ret _
theorem Sim.funIn (d i : Nat) : Sim d 0 (Fu.mv d) (Px.funIn i) (Px.funIn (i + d)) := by
 unfold Px.funIn
 have t1 : ∀ (nm lat : List UInt8) (a : Unit) ts k b j, (Px.bind (Px.funB fuel [] []) fun b => Px.ret (⟨nm, lat, b.1, b.2, i⟩ : Fu)) ts k = .ok b j → k < j := fun nm lat a ts k b j h => by
  obtain ⟨a, h1, _⟩ := map_ok h
  exact funB_lt h1
 have g1 : ∀ (nm lat : List UInt8), Fp (Px.bind (Px.funB fuel [] []) fun b => Px.ret (⟨nm, lat, b.1, b.2, i⟩ : Fu)) := fun nm lat => (Fp.funB _ _ _).bind (Up.funB _ _ _) fun _ => Fp.ret _
 have t2 : ∀ (nm lat : List UInt8) ts k b j, (Px.bind (Px.need [123]) fun _ => Px.bind (Px.funB fuel [] []) fun b => Px.ret (⟨nm, lat, b.1, b.2, i⟩ : Fu)) ts k = .ok b j → k < j := fun nm lat ts k b j h => by
  obtain ⟨_, m, h1, h2⟩ := bind_inv h
  have := Up.need _ _ _ _ _ h1
  have := t1 _ _ () _ _ _ _ h2
  omega
 have g2 : ∀ (nm lat : List UInt8), Fp (Px.bind (Px.need [123]) fun _ => Px.bind (Px.funB fuel [] []) fun b => Px.ret (⟨nm, lat, b.1, b.2, i⟩ : Fu)) := fun nm lat => (Fp.need _).bind (Up.need _) fun _ => g1 _ _
 have t3 : ∀ (nm : List UInt8) ts k b j, (Px.bind (Px.word 1) fun lat => Px.bind (Px.need [123]) fun _ => Px.bind (Px.funB fuel [] []) fun b => Px.ret (⟨nm, lat, b.1, b.2, i⟩ : Fu)) ts k = .ok b j → k < j := fun nm ts k b j h => by
  obtain ⟨_, m, h1, h2⟩ := bind_inv h
  have := Up.word _ _ _ _ _ h1
  have := t2 _ _ _ _ _ _ h2
  omega
 have g3 : ∀ (nm : List UInt8), Fp (Px.bind (Px.word 1) fun lat => Px.bind (Px.need [123]) fun _ => Px.bind (Px.funB fuel [] []) fun b => Px.ret (⟨nm, lat, b.1, b.2, i⟩ : Fu)) := fun nm => (Fp.word _).bind (Up.word _) fun _ => g2 _ _
 refine (Sim.word d 1).bind0 (fun name => ?_) (by omega) (Up.word _) (fun a ts k b j h => ?_) fun a => ?_
 ·refine (Sim.need d _).bind0 (fun _ => ?_) (by omega) (Up.need _) (fun _ => t3 _) fun _ => g3 _
  refine (Sim.word d 1).bind0 (fun lat => ?_) (by omega) (Up.word _) (fun _ => t2 _ _) fun _ => g2 _ _
  exact (Sim.need d _).bind0 (fun _ => (Sim.funB d _ _ _).map0 fun _ => rfl) (by omega) (Up.need _) (t1 _ _) fun _ => g1 _ _
 ·obtain ⟨_, m, h1, h2⟩ := bind_inv h
  have := Up.need _ _ _ _ _ h1
  have := t3 _ _ _ _ _ h2
  omega
 ·exact (Fp.need _).bind (Up.need _) fun _ => g3 _
theorem Sim.column (d : Nat) : Sim d 1 id Px.column Px.column := (Sim.take d _).bind (fun b => Sim.ite (Sim.ret id _).weak ((Sim.need d _).bind (fun _ => (Sim.ret id _).weak) (by omega) (Up.need _) (fun _ => Up.ret _) fun _ => Fp.ret _)) (by omega) (Up.take _) (fun _ => Up.ite (Up.ret _) ((Up.need _).bind fun _ => Up.ret _)) fun _ => Fp.ite (Fp.ret _) ((Fp.need _).bind (Up.need _) fun _ => Fp.ret _)
theorem Sim.types (d : Nat) : Sim d 1 id Px.types Px.types := fun ts ts' i => by
 have hl := Sim.list (Sim.column d) Up.column Fp.column ts ts' i
 rw [List.map_id_fun] at hl
 refine ⟨fun a j h1 ha => ?_, fun j h1 ha => ?_⟩
 ·have hj := Up.types _ _ _ _ h1
  unfold Px.types at h1 ⊢
  rw [ha.tx (Nat.le_refl _) (by omega)]
  split at h1
  ·rename_i hc; rw [if_pos hc]; injection h1 with h2 h3; subst h2; subst h3; rfl
  ·rename_i hc; rw [if_neg hc]; exact hl.1 a j h1 ha
 ·have hj := Fp.types _ _ _ h1
  unfold Px.types at h1 ⊢
  rw [ha.tx (Nat.le_refl _) (by omega)]
  split at h1
  ·cases h1
  ·rename_i hc; rw [if_neg hc]; exact hl.2 j h1 ha
theorem Sim.predEnd (d : Nat) (b : Bool) (n : Int) : Sim d 1 id (Px.predEnd b n) (Px.predEnd b n) := by
 unfold Px.predEnd
 refine (Sim.take d _).bind (fun c => Sim.ite ?_ (Sim.ite ?_ (Sim.ret id _).weak)) (by omega) (Up.take _) (fun _ => Up.ite ((Up.word 1).bind fun _ => Up.ret _) (Up.ite ((Up.take _).bind fun _ => Up.ite (Up.number.bind fun _ => Up.ret _) (Up.ret _)) (Up.ret _))) fun _ => Fp.ite ((Fp.word 1).bind (Up.word 1) fun _ => Fp.ret _) (Fp.ite ((Fp.take _).bind (Up.take _) fun _ => Fp.ite (Fp.number.bind Up.number fun _ => Fp.ret _) (Fp.ret _)) (Fp.ret _))
 ·exact (Sim.word d 1).bind (fun lat => (Sim.ret id (lat, n)).weak) (by omega) (Up.word _) (fun _ => Up.ret _) fun _ => Fp.ret _
 ·exact (Sim.take d _).bind (fun k => Sim.ite ((Sim.number d).bind (fun m => (Sim.ret id (([] : List UInt8), m)).weak) (by omega) Up.number (fun _ => Up.ret _) fun _ => Fp.ret _) (Sim.ret id _).weak) (by omega) (Up.take _) (fun _ => Up.ite (Up.number.bind fun _ => Up.ret _) (Up.ret _)) fun _ => Fp.ite (Fp.number.bind Up.number fun _ => Fp.ret _) (Fp.ret _)
theorem Sim.predIn (d : Nat) (base : Bool) (i : Nat) : Sim d 0 (Pr.mv d) (Px.predIn base i) (Px.predIn base (i + d)) := by
 unfold Px.predIn
 have t1 : ∀ (nm : List UInt8) (tys : List Int) (e : List UInt8 × Int) ts k b j, (Px.bind (Px.need [59]) fun _ => Px.ret (⟨nm, tys, e.1, base, e.2, i⟩ : Pr)) ts k = .ok b j → k < j := fun nm tys e ts k b j h => need_ret h
 have g1 : ∀ (nm : List UInt8) (tys : List Int) (e : List UInt8 × Int), Fp (Px.bind (Px.need [59]) fun _ => Px.ret (⟨nm, tys, e.1, base, e.2, i⟩ : Pr)) := fun nm tys e => (Fp.need _).bind (Up.need _) fun _ => Fp.ret _
 have t2 : ∀ (nm : List UInt8) (tys : List Int) ts k b j, (Px.bind (Px.predEnd base tys.length) fun e => Px.bind (Px.need [59]) fun _ => Px.ret (⟨nm, tys, e.1, base, e.2, i⟩ : Pr)) ts k = .ok b j → k < j := fun nm tys ts k b j h => by
  obtain ⟨_, m, h1, h2⟩ := bind_inv h
  have := Up.predEnd _ _ _ _ _ _ h1
  have := t1 _ _ _ _ _ _ _ h2
  omega
 have g2 : ∀ (nm : List UInt8) (tys : List Int), Fp (Px.bind (Px.predEnd base tys.length) fun e => Px.bind (Px.need [59]) fun _ => Px.ret (⟨nm, tys, e.1, base, e.2, i⟩ : Pr)) := fun nm tys => (Fp.predEnd _ _).bind (Up.predEnd _ _) fun _ => g1 _ _ _
 have t3 : ∀ (nm : List UInt8) (tys : List Int) ts k b j, (Px.bind (Px.need [41]) fun _ => Px.bind (Px.predEnd base tys.length) fun e => Px.bind (Px.need [59]) fun _ => Px.ret (⟨nm, tys, e.1, base, e.2, i⟩ : Pr)) ts k = .ok b j → k < j := fun nm tys ts k b j h => by
  obtain ⟨_, m, h1, h2⟩ := bind_inv h
  have := Up.need _ _ _ _ _ h1
  have := t2 _ _ _ _ _ _ h2
  omega
 have g3 : ∀ (nm : List UInt8) (tys : List Int), Fp (Px.bind (Px.need [41]) fun _ => Px.bind (Px.predEnd base tys.length) fun e => Px.bind (Px.need [59]) fun _ => Px.ret (⟨nm, tys, e.1, base, e.2, i⟩ : Pr)) := fun nm tys => (Fp.need _).bind (Up.need _) fun _ => g2 _ _
 have t4 : ∀ (nm : List UInt8) ts k b j, (Px.bind Px.types fun tys => Px.bind (Px.need [41]) fun _ => Px.bind (Px.predEnd base tys.length) fun e => Px.bind (Px.need [59]) fun _ => Px.ret (⟨nm, tys, e.1, base, e.2, i⟩ : Pr)) ts k = .ok b j → k < j := fun nm ts k b j h => by
  obtain ⟨_, m, h1, h2⟩ := bind_inv h
  have := Up.types _ _ _ _ h1
  have := t3 _ _ _ _ _ _ h2
  omega
 have g4 : ∀ (nm : List UInt8), Fp (Px.bind Px.types fun tys => Px.bind (Px.need [41]) fun _ => Px.bind (Px.predEnd base tys.length) fun e => Px.bind (Px.need [59]) fun _ => Px.ret (⟨nm, tys, e.1, base, e.2, i⟩ : Pr)) := fun nm => Fp.types.bind Up.types fun _ => g3 _ _
 refine (Sim.word d 1).bind0 (fun name => ?_) (by omega) (Up.word _) (fun a ts k b j h => ?_) fun a => ?_
 ·refine (Sim.need d _).bind0 (fun _ => ?_) (by omega) (Up.need _) (fun _ => t4 _) fun _ => g4 _
  refine (Sim.types d).bind0 (fun tys => ?_) (by omega) Up.types (fun _ => t3 _ _) fun _ => g3 _ _
  refine (Sim.need d _).bind0 (fun _ => ?_) (by omega) (Up.need _) (fun _ => t2 _ _) fun _ => g2 _ _
  refine (Sim.predEnd d base _).bind0 (fun e => ?_) (by omega) (Up.predEnd _ _) (fun _ => t1 _ _ _) fun _ => g1 _ _ _
  exact Sim.needRet d _ (Pr.mv d) _
 ·obtain ⟨_, m, h1, h2⟩ := bind_inv h
  have := Up.need _ _ _ _ _ h1
  have := t4 _ _ _ _ _ h2
  omega
 ·exact (Fp.need _).bind (Up.need _) fun _ => g4 _
theorem Sim.lattice (d : Nat) : Sim d 0 (La.mv d) Px.lattice Px.lattice := fun ts ts' i => by
 have h := Sim.latIn d i ts ts' (i + 1)
 rw [show i + 1 + d = i + d + 1 by omega] at h
 rw [lattice_eq, lattice_eq]
 exact ⟨fun a j h1 ha => h.1 a j h1 (ha.mono (by omega) (Nat.le_refl _)), fun j h1 ha => h.2 j h1 (ha.mono (by omega) (Nat.le_refl _))⟩
theorem Sim.function (d : Nat) : Sim d 0 (Fu.mv d) Px.function Px.function := fun ts ts' i => by
 have h := Sim.funIn d i ts ts' (i + 1)
 rw [show i + 1 + d = i + d + 1 by omega] at h
 rw [function_eq, function_eq]
 exact ⟨fun a j h1 ha => h.1 a j h1 (ha.mono (by omega) (Nat.le_refl _)), fun j h1 ha => h.2 j h1 (ha.mono (by omega) (Nat.le_refl _))⟩
theorem Sim.pred (d : Nat) : Sim d 0 (Pr.mv d) Px.pred Px.pred := fun ts ts' i => by
 have h := Sim.predIn d (decide (tx ts i = sBase)) i ts ts' (i + 1)
 rw [show i + 1 + d = i + d + 1 by omega] at h
 rw [pred_eq, pred_eq]
 refine ⟨fun a j h1 ha => ?_, fun j h1 ha => ?_⟩
 ·have := Up.predIn _ _ _ _ _ _ h1
  rw [ha.tx (Nat.le_refl _) (by omega)]
  exact h.1 a j h1 (ha.mono (by omega) (Nat.le_refl _))
 ·have := Fp.predIn _ _ _ _ _ h1
  rw [ha.tx (Nat.le_refl _) (by omega)]
  exact h.2 j h1 (ha.mono (by omega) (Nat.le_refl _))
theorem Sim.itemOf (d : Nat) (s : List UInt8) : Sim d 0 (It.mv d) (Px.itemOf s) (Px.itemOf s) := by
 unfold Px.itemOf
 exact Sim.ite ((Sim.lattice d).map0 fun _ => rfl) (Sim.ite ((Sim.function d).map0 fun _ => rfl) (Sim.ite ((Sim.pred d).map0 fun _ => rfl) ((Sim.rule d).map0 fun _ => rfl)))
theorem Sim.item (d : Nat) : Sim d 0 (It.mv d) Px.item Px.item := fun ts ts' i => by
 have h := Sim.itemOf d (tx ts i) ts ts' i
 refine ⟨fun a j h1 ha => ?_, fun j h1 ha => ?_⟩
 ·have := item_ok h1
  unfold Px.item at h1 ⊢
  rw [ha.tx (Nat.le_refl _) (by omega)]
  exact h.1 a j h1 ha
 ·have := item_fail h1
  unfold Px.item at h1 ⊢
  rw [ha.tx (Nat.le_refl _) (by omega)]
  exact h.2 j h1 ha
end Px
end Go.Proofs.YtpcmlkpnjimbiaaDoor
namespace Go.Proofs.YtpcmlkpnjimbiaaDoor
set_option linter.unusedVariables false
set_option linter.unusedSimpArgs false
namespace Lx
theorem pos_mono {s : List UInt8} (h : (lex s).2.1 = 0) : ∀ (d i : Nat) (hi : i + d < (lex s).1.length), endAt 0 (lex s).1 i ≤ endAt 0 (lex s).1 (i + d)
 | 0, i, hi => by simp
 | d + 1, i, hi => by
  have ih := pos_mono h d i (by omega)
  have e := endAt_succ (lex s).1 0 (i + d) (by omega)
  have := ((lex_get h).2.2.2.1 (i + d) (by omega)).1
  rw [show i + (d + 1) = i + d + 1 by omega, e]
  omega
theorem pos_lt {s : List UInt8} (h : (lex s).2.1 = 0) {i j : Nat} (hij : i < j) (hj : j < (lex s).1.length) : (lex s).1[i].pos + (lex s).1[i].text.length ≤ (lex s).1[j].pos ∧ (lex s).1[i].pos < (lex s).1[j].pos := by
 obtain ⟨d, rfl⟩ : ∃ d, j = i + 1 + d := ⟨j - i - 1, by omega⟩
 have h1 := pos_mono h d (i + 1) hj
 have h2 := endAt_succ (lex s).1 0 i (by omega)
 have h3 := ((lex_get h).2.2.2.1 (i + 1 + d) hj).1
 have h4 := ((lex_get h).2.2.2.1 i (by omega)).2.2.2.2.2
 omega
end Lx
end Go.Proofs.YtpcmlkpnjimbiaaDoor
