/- What the rounds of the plain parser give for texts that are put together. No program in sight. -/
import Derived.Test.YtpcmlkpnjimbiaaDoorPFst0
import Derived.Test.YtpcmlkpnjimbiaaDoorPlain6
namespace Go.Proofs.YtpcmlkpnjimbiaaDoor
set_option linter.unusedVariables false
set_option linter.unusedSimpArgs false
namespace Px
variable {α β : Type}
theorem bok {p : P α} {f : α → P β} {ts : List Kt} {i j : Nat} {b : β} (h : bind p f ts i = .ok b j) : ∃ a k, p ts i = .ok a k ∧ f a ts k = .ok b j := by
 unfold bind at h
 split at h
 ·rename_i a k hk
  exact ⟨a, k, hk, h⟩
 ·cases h
theorem tx_lt {ts : List Kt} {k : Nat} {t : List UInt8} (h : tx ts k = t) (ht : t ≠ []) : k < ts.length := by
 by_cases hk : k < ts.length
 ·exact hk
 ·exfalso
  unfold tx at h
  rw [List.getElem?_eq_none (by omega)] at h
  exact ht h.symm
theorem need_ok {t : List UInt8} {ts : List Kt} {i j : Nat} {u : Unit} (h : need t ts i = .ok u j) : tx ts i = t ∧ j = i + 1 := by
 unfold need at h
 split at h
 ·rename_i e
  injection h with _ h
  exact ⟨e, h.symm⟩
 ·cases h
theorem ret_ok {a b : α} {ts : List Kt} {i j : Nat} (h : ret a ts i = .ok b j) : b = a ∧ j = i := by
 unfold ret at h
 injection h with h1 h2
 exact ⟨h1.symm, h2.symm⟩
/-- What is read ends within the tokens. -/
def Ends (p : P α) : Prop := ∀ ts i a j, p ts i = .ok a j → j ≤ ts.length
theorem Ends.bind {p : P α} {f : α → P β} (h : ∀ a, Ends (f a)) : Ends (Px.bind p f) := fun ts i b j hb => by
 obtain ⟨a, k, _, h2⟩ := bok hb
 exact h a ts k b j h2
theorem Ends.to {p : P α} (g : α → β) (h : Ends p) : Ends (Px.bind p fun a => ret (g a)) := fun ts i b j hb => by
 obtain ⟨a, k, h1, h2⟩ := bok hb
 obtain ⟨_, rfl⟩ := ret_ok h2
 exact h ts i a j h1
theorem Ends.need {t : List UInt8} (ht : t ≠ []) : Ends (Px.need t) := fun ts i a j h => by
 obtain ⟨h1, rfl⟩ := need_ok h
 exact tx_lt h1 ht
theorem Ends.stop : Ends (Px.stop (α := α)) := fun ts i a j h => by cases h
theorem Ends.ite {c : Prop} [Decidable c] {p q : P α} (hp : Ends p) (hq : Ends q) : Ends (if c then p else q) := by split <;> assumption
theorem Ends.latB : ∀ f es cs, Ends (Px.latB f es cs)
 | 0, _, _ => Ends.stop
 | f + 1, es, cs => fun ts i a j h => by
  unfold Px.latB at h
  split at h
  ·rename_i e
   injection h with _ h
   have := tx_lt e (by decide)
   omega
  ·exact (Ends.bind fun a => Ends.bind fun c => Ends.ite (Ends.bind fun b => Ends.bind fun _ => Ends.latB f _ _) (Ends.bind fun _ => Ends.latB f _ _)) ts i a j h
theorem Ends.funB : ∀ f xs ys, Ends (Px.funB f xs ys)
 | 0, _, _ => Ends.stop
 | f + 1, xs, ys => fun ts i a j h => by
  unfold Px.funB at h
  split at h
  ·rename_i e
   injection h with _ h
   have := tx_lt e (by decide)
   omega
  ·exact (Ends.bind fun a => Ends.bind fun _ => Ends.bind fun b => Ends.bind fun _ => Ends.funB f _ _) ts i a j h
theorem Ends.latIn (i : Nat) : Ends (Px.latIn i) := Ends.bind fun _ => Ends.bind fun _ => Ends.to _ (Ends.latB _ _ _)
theorem Ends.funIn (i : Nat) : Ends (Px.funIn i) := Ends.bind fun _ => Ends.bind fun _ => Ends.bind fun _ => Ends.bind fun _ => Ends.to _ (Ends.funB _ _ _)
theorem Ends.predIn (b : Bool) (i : Nat) : Ends (Px.predIn b i) := Ends.bind fun _ => Ends.bind fun _ => Ends.bind fun _ => Ends.bind fun _ => Ends.bind fun _ => Ends.to _ (Ends.need (by decide))
theorem Ends.ruleEnd (i : Nat) (h : List UInt8 × List T × E) : Ends (Px.ruleEnd i h) := Ends.bind fun _ => Ends.to _ (Ends.need (by decide))
theorem Ends.rule : Ends Px.rule := fun ts i a j h => by
 rw [rule_eq] at h
 exact (Ends.bind fun d => Ends.bind fun hd => Ends.ruleEnd i hd) ts i a j h
theorem Ends.item : Ends Px.item := fun ts i a j h => by
 unfold Px.item at h
 have e1 : Ends Px.lattice := fun ts i a j h => by
  rw [lattice_eq] at h
  exact Ends.latIn _ _ _ _ _ h
 have e2 : Ends Px.function := fun ts i a j h => by
  rw [function_eq] at h
  exact Ends.funIn _ _ _ _ _ h
 have e3 : Ends Px.pred := fun ts i a j h => by
  rw [pred_eq] at h
  exact Ends.predIn _ _ _ _ _ _ h
 have e : ∀ s, Ends (Px.itemOf s) := fun s => by
  unfold Px.itemOf
  exact Ends.ite (Ends.to _ e1) (Ends.ite (Ends.to _ e2) (Ends.ite (Ends.to _ e3) (Ends.to _ Ends.rule)))
 exact e _ ts i a j h
/-! ### Where things stand -/
def Gives (Q : α → Prop) (p : P α) : Prop := ∀ ts i a j, p ts i = .ok a j → Q a
theorem Gives.bind {Q : β → Prop} {p : P α} {f : α → P β} (h : ∀ a, Gives Q (f a)) : Gives Q (Px.bind p f) := fun ts i b j hb => by
 obtain ⟨a, k, _, h2⟩ := bok hb
 exact h a ts k b j h2
theorem Gives.ret {Q : α → Prop} {a : α} (h : Q a) : Gives Q (Px.ret a) := fun ts i b j hb => by
 obtain ⟨rfl, _⟩ := ret_ok hb
 exact h
theorem Gives.ite {Q : α → Prop} {c : Prop} [Decidable c] {p q : P α} (hp : Gives Q p) (hq : Gives Q q) : Gives Q (if c then p else q) := by split <;> assumption
theorem Gives.compare (p : Nat) : Gives (fun x : L => x.pos = p) (Px.compare p) := Gives.bind fun _ => Gives.bind fun _ => Gives.bind fun _ => Gives.ret rfl
theorem Gives.atom (n : Bool) (p : Nat) : Gives (fun x : L => x.pos = p) (Px.atom n p) := Gives.bind fun _ => Gives.bind fun _ => Gives.bind fun _ => Gives.bind fun _ => Gives.bind fun _ => Gives.bind fun _ => Gives.bind fun _ => Gives.ret rfl
theorem literal_pos {ts : List Kt} {i j : Nat} {x : L} (h : literal ts i = .ok x j) : x.pos = i := by
 have e : ∀ ts i x j, litPos i ts i = .ok x j → x.pos = i := fun ts i x j h => by
  unfold litPos at h
  split at h
  ·split at h
   ·exact Gives.atom _ _ _ _ _ _ h
   ·exact Gives.compare _ _ _ _ _ h
  ·exact Gives.compare _ _ _ _ _ h
 have e2 : ∀ ts p i x j, litPos p ts i = .ok x j → x.pos = p := fun ts p i x j h => by
  unfold litPos at h
  split at h
  ·split at h
   ·exact Gives.atom _ _ _ _ _ _ h
   ·exact Gives.compare _ _ _ _ _ h
  ·exact Gives.compare _ _ _ _ _ h
 unfold literal at h
 obtain ⟨a, k, h1, h2⟩ := bok h
 split at h2
 ·exact Gives.atom _ _ _ _ _ _ h2
 ·exact e2 _ _ _ _ _ h2
theorem many_pos : ∀ (f : Nat) (ts : List Kt) (i j : Nat) (l : List L), many literal f ts i = .ok l j → ∀ x ∈ l, i ≤ x.pos ∧ x.pos ≤ j
 | 0, ts, i, j, l, h => by cases h
 | f + 1, ts, i, j, l, h => by
  unfold many at h
  split at h
  ·cases h
  ·rename_i a k ha
   have hp := literal_pos ha
   have hu := Up.literal ts i a k ha
   split at h
   ·split at h
    ·rename_i l2 k2 hl
     injection h with h1 h2
     subst h1; subst h2
     have ih := many_pos f ts (k + 1) k2 l2 hl
     have hm := Up.many Up.literal f ts (k + 1) l2 k2 hl
     intro x hx
     rcases List.mem_cons.1 hx with rfl | hx
     ·omega
     ·have := ih x hx
      omega
    ·cases h
   ·injection h with h1 h2
    subst h1; subst h2
    intro x hx
    simp at hx
    subst hx
    omega
def It.at0 : It → Nat
 | .lat x => x.pos
 | .fn x => x.pos
 | .pr x => x.pos
 | .ru x => x.pos
def It.inner : It → List Nat
 | .ru x => x.body.map L.pos
 | _ => []
theorem rule_in {ts : List Kt} {i j : Nat} {x : Ru} (h : rule ts i = .ok x j) : x.pos = i ∧ ∀ y ∈ x.body, i ≤ y.pos ∧ y.pos < j := by
 rw [rule_eq] at h
 obtain ⟨d, k1, h1, h2⟩ := bok h
 obtain ⟨hd, k2, h3, h4⟩ := bok h2
 unfold ruleEnd at h4
 obtain ⟨body, k3, h5, h6⟩ := bok h4
 obtain ⟨u, k4, h7, h8⟩ := bok h6
 obtain ⟨rfl, rfl⟩ := ret_ok h8
 obtain ⟨_, rfl⟩ := need_ok h7
 have u1 := Up.take _ _ _ _ _ h1
 have u2 := (Up.ite (Up.ret _) Up.ruleHead) _ _ _ _ h3
 refine ⟨rfl, fun y hy => ?_⟩
 unfold optBody at h5
 obtain ⟨b, k5, h9, h10⟩ := bok h5
 have u3 := Up.take _ _ _ _ _ h9
 split at h10
 ·have := many_pos _ _ _ _ _ h10 y hy
  omega
 ·obtain ⟨rfl, _⟩ := ret_ok h10
  cases hy
theorem item_pos {ts : List Kt} {i j : Nat} {x : It} (h : item ts i = .ok x j) : x.at0 = i ∧ ∀ p ∈ x.inner, i ≤ p ∧ p < j := by
 unfold item itemOf at h
 split at h
 ·obtain ⟨a, k, h1, h2⟩ := bok h
  obtain ⟨rfl, rfl⟩ := ret_ok h2
  rw [lattice_eq] at h1
  exact ⟨(show Gives (fun x : La => x.pos = i) (latIn i) from Gives.bind fun _ => Gives.bind fun _ => Gives.bind fun _ => Gives.ret rfl) _ _ _ _ h1, fun p hp => by cases hp⟩
 ·split at h
  ·obtain ⟨a, k, h1, h2⟩ := bok h
   obtain ⟨rfl, rfl⟩ := ret_ok h2
   rw [function_eq] at h1
   exact ⟨(show Gives (fun x : Fu => x.pos = i) (funIn i) from Gives.bind fun _ => Gives.bind fun _ => Gives.bind fun _ => Gives.bind fun _ => Gives.bind fun _ => Gives.ret rfl) _ _ _ _ h1, fun p hp => by cases hp⟩
  ·split at h
   ·obtain ⟨a, k, h1, h2⟩ := bok h
    obtain ⟨rfl, rfl⟩ := ret_ok h2
    rw [pred_eq] at h1
    exact ⟨(show Gives (fun x : Pr => x.pos = i) (predIn _ i) from Gives.bind fun _ => Gives.bind fun _ => Gives.bind fun _ => Gives.bind fun _ => Gives.bind fun _ => Gives.bind fun _ => Gives.ret rfl) _ _ _ _ h1, fun p hp => by cases hp⟩
   ·obtain ⟨a, k, h1, h2⟩ := bok h
    obtain ⟨rfl, rfl⟩ := ret_ok h2
    have := rule_in h1
    refine ⟨this.1, fun p hp => ?_⟩
    obtain ⟨y, hy, rfl⟩ := List.mem_map.1 hp
    exact this.2 y hy
/-! ### Rounds without a wrong token -/
inductive Runs (ts : List Kt) : Nat → Nat → List It → Prop where
 | nil (i : Nat) : Runs ts i i []
 | cons {i j k : Nat} {x : It} {xs : List It} (hi : i < ts.length) (hx : item ts i = .ok x j) (hr : Runs ts j k xs) : Runs ts i k (x :: xs)
theorem Runs.le {ts : List Kt} {i k : Nat} {xs : List It} (h : Runs ts i k xs) : i + xs.length ≤ k := by
 induction h with
 | nil i => simp
 | cons hi hx hr ih =>
  have := item_ok hx
  simp only [List.length_cons]
  omega
theorem Runs.run {ts : List Kt} {i k : Nat} {xs : List It} (h : Runs ts i k xs) (f nd : Nat) (hnd : nd < 20) : Px.run (xs.length + f) nd ts i = (xs ++ (Px.run f nd ts k).1, (Px.run f nd ts k).2) := by
 induction h with
 | nil i => simp
 | @cons i j k x xs hi hx hr ih =>
  rw [List.length_cons, show xs.length + 1 + f = (xs.length + f) + 1 by omega]
  conv => lhs; unfold Px.run
  rw [if_pos ⟨hi, hnd⟩, hx]
  dsimp only
  rw [ih]
  rfl
theorem Runs.mv {d : Nat} {ts ts' : List Kt} {i k : Nat} {xs : List It} (h : Runs ts i k xs) (ha : Agr d ts ts' i k) : Runs ts' (i + d) (k + d) (xs.map (It.mv d)) := by
 induction h with
 | nil i => exact .nil _
 | @cons i j k x xs hi hx hr ih =>
  have h1 := item_ok hx
  have h2 := hr.le
  exact .cons ((ha.lt (Nat.le_refl _) (by omega)).2 hi) ((Sim.item d ts ts' i).1 x j hx (ha.mono (Nat.le_refl _) (by omega))) (ih (ha.mono (by omega) (Nat.le_refl _)))
theorem Runs.split {ts : List Kt} : ∀ {xs ys : List It} {i k : Nat}, Runs ts i k (xs ++ ys) → ∃ m, Runs ts i m xs ∧ Runs ts m k ys
 | [], ys, i, k, h => ⟨i, .nil _, h⟩
 | x :: xs, ys, i, k, h => by
  cases h with
  | cons hi hx hr =>
   obtain ⟨m, h1, h2⟩ := Runs.split hr
   exact ⟨m, .cons hi hx h1, h2⟩
theorem Runs.app {ts : List Kt} {i j k : Nat} {xs ys : List It} (h : Runs ts i j xs) (h2 : Runs ts j k ys) : Runs ts i k (xs ++ ys) := by
 induction h with
 | nil i => exact h2
 | cons hi hx hr ih => exact .cons hi hx (ih h2)
/-- The rounds up to an item, and from it on. -/
theorem Runs.to {ts : List Kt} {i k : Nat} {xs : List It} (h : Runs ts i k xs) {x : It} (hx : x ∈ xs) : ∃ xs1 xs2, xs = xs1 ++ xs2 ∧ Runs ts i x.at0 xs1 ∧ Runs ts x.at0 k xs2 := by
 obtain ⟨xs1, xs2, rfl⟩ := List.append_of_mem hx
 obtain ⟨m, h1, h2⟩ := Runs.split h
 refine ⟨xs1, x :: xs2, rfl, ?_⟩
 have e : x.at0 = m := by
  cases h2 with
  | cons hi hx hr => exact (item_pos hx).1
 rw [e]
 exact ⟨h1, h2⟩
end Px
end Go.Proofs.YtpcmlkpnjimbiaaDoor
namespace Go.Proofs.YtpcmlkpnjimbiaaDoor
set_option linter.unusedVariables false
set_option linter.unusedSimpArgs false
namespace Ap
def Li.to (f : Int → Int) (x : Li) : Li := { x with pos := f x.pos }
def Ru.to (f : Int → Int) (x : Ru) : Ru := { x with body := x.body.map (Li.to f), pos := f x.pos }
def La.to (f : Int → Int) (x : La) : La := { x with pos := f x.pos }
def Fu.to (f : Int → Int) (x : Fu) : Fu := { x with pos := f x.pos }
def Pr.to (f : Int → Int) (x : Pr) : Pr := { x with pos := f x.pos }
def Pg.to (f : Int → Int) (P : Pg) : Pg := ⟨P.lats.map (La.to f), P.funs.map (Fu.to f), P.preds.map (Pr.to f), P.rules.map (Ru.to f)⟩
def Pg.app (P Q : Pg) : Pg := ⟨P.lats ++ Q.lats, P.funs ++ Q.funs, P.preds ++ Q.preds, P.rules ++ Q.rules⟩
def Pg.offs (P : Pg) : List Int := P.lats.map La.pos ++ (P.funs.map Fu.pos ++ (P.preds.map Pr.pos ++ P.rules.map Ru.pos))
theorem Pg.app_nil (P : Pg) : P.app pg0 = P := by
 unfold Pg.app pg0
 simp
theorem Pg.app_assoc (P Q R : Pg) : (P.app Q).app R = P.app (Q.app R) := by
 unfold Pg.app
 simp
theorem Pg.to_app (f : Int → Int) (P Q : Pg) : (P.app Q).to f = (P.to f).app (Q.to f) := by
 unfold Pg.app Pg.to
 simp
theorem Pg.add_eq (f : Nat → Int) (P : Pg) (x : Px.It) : Pg.add f P x = P.app (Pg.add f pg0 x) := by
 cases x <;> simp [Pg.add, Pg.app, pg0]
theorem Pg.add_to (off : Nat → Int) (f : Int → Int) (x : Px.It) : (Pg.add off pg0 x).to f = Pg.add (fun k => f (off k)) pg0 x := by
 cases x with
 | ru x =>
  simp only [Pg.add, Pg.to, pg0, List.map_nil, List.nil_append, List.map_cons, Ru.to, Px.Ru.ap, List.map_map, Pg.mk.injEq, List.cons.injEq, Ru.mk.injEq, true_and, and_true]
  exact List.map_congr_left fun y _ => rfl
 | _ => rfl
theorem Pg.add_congr {off off' : Nat → Int} {x : Px.It} (h0 : off x.at0 = off' x.at0) (h : ∀ p ∈ x.inner, off p = off' p) : Pg.add off pg0 x = Pg.add off' pg0 x := by
 cases x with
 | ru x =>
  simp only [Pg.add, pg0, List.nil_append, Px.Ru.ap, Pg.mk.injEq, List.cons.injEq, Ru.mk.injEq, true_and, and_true]
  refine ⟨List.map_congr_left fun y hy => ?_, h0⟩
  unfold Px.L.ap
  rw [h y.pos (List.mem_map_of_mem (f := Px.L.pos) hy)]
 | lat x =>
  simp only [Px.It.at0] at h0
  simp only [Pg.add, Px.La.ap, h0]
 | fn x =>
  simp only [Px.It.at0] at h0
  simp only [Pg.add, Px.Fu.ap, h0]
 | pr x =>
  simp only [Px.It.at0] at h0
  simp only [Pg.add, Px.Pr.ap, h0]
/-- The program of items. -/
def of (off : Nat → Int) (xs : List Px.It) : Pg := xs.foldl (Pg.add off) pg0
theorem of_from (off : Nat → Int) : ∀ (xs : List Px.It) (P : Pg), xs.foldl (Pg.add off) P = P.app (of off xs)
 | [], P => (Pg.app_nil P).symm
 | x :: xs, P => by
  unfold of
  rw [List.foldl_cons, List.foldl_cons, of_from off xs, of_from off xs (Pg.add off pg0 x), Pg.add_eq off P x, Pg.app_assoc]
theorem of_cons (off : Nat → Int) (x : Px.It) (xs : List Px.It) : of off (x :: xs) = (Pg.add off pg0 x).app (of off xs) := by
 conv => lhs; unfold of
 rw [List.foldl_cons, of_from]
theorem of_to (off : Nat → Int) (f : Int → Int) : ∀ xs : List Px.It, (of off xs).to f = of (fun k => f (off k)) xs
 | [] => rfl
 | x :: xs => by rw [of_cons, of_cons, Pg.to_app, of_to off f xs, Pg.add_to]
theorem of_congr {off off' : Nat → Int} : ∀ {xs : List Px.It}, (∀ x ∈ xs, off x.at0 = off' x.at0 ∧ ∀ p ∈ x.inner, off p = off' p) → of off xs = of off' xs
 | [], _ => rfl
 | x :: xs, h => by
  rw [of_cons, of_cons, of_congr (xs := xs) (fun y hy => h y (List.mem_cons_of_mem _ hy)), Pg.add_congr (h x (by simp)).1 (h x (by simp)).2]
end Ap
theorem parseP_of {s : List UInt8} (h : (Lx.lex s).2.1 = 0) : parseP s = Ap.of (offI (Lx.lex s).1 s.length) (Px.parse (Px.kts (Lx.lex s).1)).1 := by
 unfold parseP
 rw [if_pos h]
 rfl
theorem parseD_of {s : List UInt8} (h : (Lx.lex s).2.1 = 0) : parseD s = ((Px.parse (Px.kts (Lx.lex s).1)).2).map (dgV (Lx.lex s).1 s.length) := by
 unfold parseD
 rw [if_pos h]
theorem offI_in {ts : List Lx.Tok} {sz k : Nat} {t : Lx.Tok} (h : ts[k]? = some t) : offI ts sz k = (t.pos : Int) := by
 unfold offI
 rw [tokAt_in h]
theorem offI_out {ts : List Lx.Tok} {sz k : Nat} (h : ts.length ≤ k) : offI ts sz k = (sz : Int) := by
 unfold offI
 rw [tokAt_out h]
theorem lex_lens {s : List UInt8} (h : (Lx.lex s).2.1 = 0) : (Lx.lex s).1.length ≤ 3000 := (Lx.lex_ok_of h).2.2.2 ▸ (Lx.lex_ok_of h).2.2.1
theorem kts_length (ts : List Lx.Tok) : (Px.kts ts).length = ts.length := by unfold Px.kts; rw [List.length_map]
/-! ### The tokens = and . between -/
def eqDot (r : List UInt8) : List UInt8 := 61 :: 32 :: 46 :: 32 :: r
end Go.Proofs.YtpcmlkpnjimbiaaDoor
