/- How many parts what is read has: lists are no longer than the parser's rounds. No program in sight. -/
import Derived.Test.YtpcmlkpnjimbiaaDoorPAp
namespace Go.Proofs.YtpcmlkpnjimbiaaDoor
set_option linter.unusedVariables false
set_option linter.unusedSimpArgs false
namespace Px
variable {α β : Type}
theorem Gives.via {Q : α → Prop} {R : β → Prop} {p : P α} {f : α → P β} (hp : Gives Q p) (hf : ∀ a, Q a → Gives R (f a)) : Gives R (Px.bind p f) := fun ts i b j hb => by
 obtain ⟨a, k, h1, h2⟩ := bok hb
 exact hf a (hp _ _ _ _ h1) ts k b j h2
theorem many_all {Q : α → Prop} {p : P α} (hp : Gives Q p) : ∀ (f : Nat) (ts : List Kt) (i j : Nat) (l : List α), many p f ts i = .ok l j → l.length ≤ f ∧ ∀ x ∈ l, Q x
 | 0, ts, i, j, l, h => by cases h
 | f + 1, ts, i, j, l, h => by
  unfold many at h
  split at h
  ·cases h
  ·rename_i a k ha
   have hq := hp _ _ _ _ ha
   split at h
   ·split at h
    ·rename_i l2 k2 hl
     obtain ⟨h1, h2⟩ := many_all hp f ts (k + 1) k2 l2 hl
     injection h with e1 e2
     subst e1
     refine ⟨by simp; omega, fun x hx => ?_⟩
     rcases List.mem_cons.1 hx with rfl | hx
     ·exact hq
     ·exact h2 x hx
    ·cases h
   ·injection h with e1 e2
    subst e1
    refine ⟨by simp, fun x hx => ?_⟩
    simp at hx
    rw [hx]
    exact hq
theorem Gives.list {Q : α → Prop} {p : P α} (hp : Gives Q p) : Gives (fun l => l.length ≤ 4000 ∧ ∀ x ∈ l, Q x) (Px.list p) := fun ts i l j h => many_all hp _ _ _ _ _ h
theorem Gives.any {p : P α} : Gives (fun _ => True) p := fun _ _ _ _ _ => trivial
theorem Gives.terms {p : P T} : Gives (fun l => l.length ≤ 4000) (Px.terms p) := fun ts i l j h => by
 unfold Px.terms at h
 split at h
 ·injection h with e1 e2
  subst e1
  simp
 ·exact (Gives.list Gives.any ts i l j h).1
def LB (x : L) : Prop := x.args.length ≤ 4000
theorem Gives.compareB (p : Nat) : Gives LB (Px.compare p) := Gives.bind fun _ => Gives.bind fun _ => Gives.bind fun _ => Gives.ret (by show (2 : Nat) ≤ 4000; decide)
theorem Gives.atomB (n : Bool) (p : Nat) : Gives LB (Px.atom n p) := Gives.bind fun _ => Gives.bind fun _ => Gives.via Gives.terms fun args ha => Gives.bind fun _ => Gives.bind fun _ => Gives.bind fun _ => Gives.bind fun _ => Gives.ret ha
theorem Gives.literalB : Gives LB Px.literal := fun ts i x j h => by
 unfold Px.literal at h
 obtain ⟨a, k, h1, h2⟩ := bok h
 split at h2
 ·exact Gives.atomB _ _ _ _ _ _ h2
 ·unfold litPos at h2
  split at h2
  ·split at h2
   ·exact Gives.atomB _ _ _ _ _ _ h2
   ·exact Gives.compareB _ _ _ _ _ h2
  ·exact Gives.compareB _ _ _ _ _ h2
def RB (x : Ru) : Prop := x.args.length ≤ 4000 ∧ x.body.length ≤ 4000 ∧ ∀ y ∈ x.body, LB y
theorem Gives.ruleHeadB : Gives (fun h : List UInt8 × List T × E => h.2.1.length ≤ 4000) Px.ruleHead := Gives.bind fun _ => Gives.bind fun _ => Gives.via Gives.terms fun args ha => Gives.bind fun _ => Gives.bind fun _ => Gives.ret ha
theorem Gives.optBodyB : Gives (fun l : List L => l.length ≤ 4000 ∧ ∀ y ∈ l, LB y) Px.optBody := Gives.bind fun _ => Gives.ite (Gives.list Gives.literalB) (Gives.ret ⟨by simp, fun y hy => by cases hy⟩)
theorem Gives.ruleB : Gives RB Px.rule := fun ts i x j h => by
 rw [rule_eq] at h
 refine (Gives.bind (Q := RB) fun d => Gives.via (Q := fun h : List UInt8 × List T × E => h.2.1.length ≤ 4000) (Gives.ite (Gives.ret (by simp)) Gives.ruleHeadB) fun hd hh => ?_) ts i x j h
 unfold ruleEnd
 exact Gives.via Gives.optBodyB fun body hb => Gives.bind fun _ => Gives.ret ⟨hh, hb⟩
theorem addE_len (l : List (List UInt8)) (s : List UInt8) : (addE l s).1.length ≤ l.length + 1 := by
 unfold addE
 split
 ·simp
 ·simp
theorem Gives.latBB : ∀ (f : Nat) (es : List (List UInt8)) (cs : List (Nat × Nat)), Gives (fun b : List (List UInt8) × List (Nat × Nat) => b.1.length ≤ es.length + 2 * f ∧ b.2.length ≤ cs.length + f) (Px.latB f es cs)
 | 0, es, cs => fun ts i a j h => by cases h
 | f + 1, es, cs => fun ts i a j h => by
  unfold Px.latB at h
  split at h
  ·injection h with e1 e2
   subst e1
   simp
  ·obtain ⟨a1, k1, h1, h⟩ := bok h
   obtain ⟨c, k2, h2, h⟩ := bok h
   split at h
   ·obtain ⟨a3, k3, h3, h⟩ := bok h
    obtain ⟨a4, k4, h4, h⟩ := bok h
    have ih := Gives.latBB f _ _ _ _ _ _ h
    have l1 := addE_len es a1
    have l2 := addE_len (addE es a1).1 a3
    simp only [List.length_append, List.length_cons, List.length_nil] at ih
    omega
   ·obtain ⟨a4, k4, h4, h⟩ := bok h
    have ih := Gives.latBB f _ _ _ _ _ _ h
    have l1 := addE_len es a1
    omega
theorem Gives.funBB : ∀ (f : Nat) (xs ys : List (List UInt8)), Gives (fun b : List (List UInt8) × List (List UInt8) => b.1.length ≤ xs.length + f ∧ b.2.length ≤ ys.length + f) (Px.funB f xs ys)
 | 0, xs, ys => fun ts i a j h => by cases h
 | f + 1, xs, ys => fun ts i a j h => by
  unfold Px.funB at h
  split at h
  ·injection h with e1 e2
   subst e1
   simp
  ·obtain ⟨a1, k1, h1, h⟩ := bok h
   obtain ⟨c, k2, h2, h⟩ := bok h
   obtain ⟨a3, k3, h3, h⟩ := bok h
   obtain ⟨a4, k4, h4, h⟩ := bok h
   have ih := Gives.funBB f _ _ _ _ _ _ h
   simp only [List.length_append, List.length_cons, List.length_nil] at ih
   omega
theorem Gives.typesB : Gives (fun l : List Int => l.length ≤ 4000) Px.types := fun ts i l j h => by
 unfold Px.types at h
 split at h
 ·injection h with e1 e2
  subst e1
  simp
 ·exact (Gives.list Gives.any ts i l j h).1
def ItB : It → Prop
 | .lat x => x.elems.length ≤ 8000 ∧ x.covers.length ≤ 4000
 | .fn x => x.froms.length ≤ 4000 ∧ x.tos.length ≤ 4000
 | .pr x => x.types.length ≤ 4000
 | .ru x => RB x
theorem Gives.itemB : Gives ItB Px.item := fun ts i x j h => by
 unfold Px.item Px.itemOf at h
 split at h
 ·obtain ⟨a, k, h1, h2⟩ := bok h
  obtain ⟨rfl, rfl⟩ := ret_ok h2
  rw [lattice_eq] at h1
  exact (show Gives (fun x : La => x.elems.length ≤ 8000 ∧ x.covers.length ≤ 4000) (latIn i) from Gives.bind fun _ => Gives.bind fun _ => Gives.via (Gives.latBB fuel [] []) fun b hb => Gives.ret (by unfold fuel at hb; simp only [List.length_nil] at hb; dsimp only; omega)) _ _ _ _ h1
 ·split at h
  ·obtain ⟨a, k, h1, h2⟩ := bok h
   obtain ⟨rfl, rfl⟩ := ret_ok h2
   rw [function_eq] at h1
   exact (show Gives (fun x : Fu => x.froms.length ≤ 4000 ∧ x.tos.length ≤ 4000) (funIn i) from Gives.bind fun _ => Gives.bind fun _ => Gives.bind fun _ => Gives.bind fun _ => Gives.via (Gives.funBB fuel [] []) fun b hb => Gives.ret (by unfold fuel at hb; simp only [List.length_nil] at hb; dsimp only; omega)) _ _ _ _ h1
  ·split at h
   ·obtain ⟨a, k, h1, h2⟩ := bok h
    obtain ⟨rfl, rfl⟩ := ret_ok h2
    rw [pred_eq] at h1
    exact (show Gives (fun x : Pr => x.types.length ≤ 4000) (predIn _ i) from Gives.bind fun _ => Gives.bind fun _ => Gives.via Gives.typesB fun t ht => Gives.bind fun _ => Gives.bind fun _ => Gives.bind fun _ => Gives.ret ht) _ _ _ _ h1
   ·obtain ⟨a, k, h1, h2⟩ := bok h
    obtain ⟨rfl, rfl⟩ := ret_ok h2
    exact Gives.ruleB _ _ _ _ h1
theorem run_all : ∀ (f nd : Nat) (ts : List Kt) (i : Nat), (run f nd ts i).1.length ≤ f ∧ ∀ x ∈ (run f nd ts i).1, ItB x
 | 0, nd, ts, i => ⟨Nat.le_refl _, fun x hx => by cases hx⟩
 | f + 1, nd, ts, i => by
  unfold run
  split
  ·split
   ·rename_i x j hx
    have ih := run_all f nd ts j
    refine ⟨by simp only [List.length_cons]; omega, fun y hy => ?_⟩
    rcases List.mem_cons.1 hy with rfl | hy
    ·exact Gives.itemB _ _ _ _ hx
    ·exact ih.2 y hy
   ·rename_i j hx
    have ih := run_all f (nd + 1) ts (skip fuel ts j)
    exact ⟨Nat.le_succ_of_le ih.1, ih.2⟩
  ·exact ⟨Nat.zero_le _, fun x hx => by cases hx⟩
end Px
namespace Ap
/-- No list of a program is long. -/
structure Fit (N : Nat) (P : Pg) : Prop where
 lens : P.lats.length ≤ N ∧ P.funs.length ≤ N ∧ P.preds.length ≤ N ∧ P.rules.length ≤ N
 lats : ∀ x ∈ P.lats, x.elems.length ≤ 1000000 ∧ x.covers.length ≤ 1000000
 funs : ∀ x ∈ P.funs, x.froms.length ≤ 1000000 ∧ x.tos.length ≤ 1000000 ∧ x.table.length ≤ 1000000
 preds : ∀ x ∈ P.preds, x.types.length ≤ 1000000
 rules : ∀ x ∈ P.rules, (x.args.length ≤ 1000000 ∧ x.body.length ≤ 900000) ∧ ∀ y ∈ x.body, y.args.length ≤ 1000000
theorem Fit.nil : Fit 0 pg0 := ⟨by simp [pg0], by simp [pg0], by simp [pg0], by simp [pg0], by simp [pg0]⟩
theorem Fit.app {N M : Nat} {P Q : Pg} (h : Fit N P) (k : Fit M Q) : Fit (N + M) (P.app Q) := by
 obtain ⟨h0, h1, h2, h3, h4⟩ := h
 obtain ⟨k0, k1, k2, k3, k4⟩ := k
 refine ⟨by simp only [Pg.app, List.length_append]; omega, fun x hx => ?_, fun x hx => ?_, fun x hx => ?_, fun x hx => ?_⟩
 ·exact (List.mem_append.1 hx).elim (h1 x) (k1 x)
 ·exact (List.mem_append.1 hx).elim (h2 x) (k2 x)
 ·exact (List.mem_append.1 hx).elim (h3 x) (k3 x)
 ·exact (List.mem_append.1 hx).elim (h4 x) (k4 x)
theorem Fit.to {N : Nat} {P : Pg} (f : Int → Int) (h : Fit N P) : Fit N (P.to f) := by
 obtain ⟨h0, h1, h2, h3, h4⟩ := h
 refine ⟨by simp only [Pg.to, List.length_map]; omega, fun x hx => ?_, fun x hx => ?_, fun x hx => ?_, fun x hx => ?_⟩
 ·obtain ⟨y, hy, rfl⟩ := List.mem_map.1 hx; exact h1 y hy
 ·obtain ⟨y, hy, rfl⟩ := List.mem_map.1 hx; exact h2 y hy
 ·obtain ⟨y, hy, rfl⟩ := List.mem_map.1 hx; exact h3 y hy
 ·obtain ⟨y, hy, rfl⟩ := List.mem_map.1 hx
  refine ⟨⟨(h4 y hy).1.1, by simp only [Ru.to, List.length_map]; exact (h4 y hy).1.2⟩, fun z hz => ?_⟩
  obtain ⟨u, hu, rfl⟩ := List.mem_map.1 hz
  exact (h4 y hy).2 u hu
theorem Fit.one (off : Nat → Int) {x : Px.It} (h : Px.ItB x) : Fit 1 (Pg.add off pg0 x) := by
 cases x with
 | lat x =>
  refine ⟨by simp [Pg.add, pg0], fun y hy => ?_, by simp [Pg.add, pg0], by simp [Pg.add, pg0], by simp [Pg.add, pg0]⟩
  simp [Pg.add, pg0] at hy
  subst hy
  have h' : x.elems.length ≤ 8000 ∧ x.covers.length ≤ 4000 := h
  simp only [Px.La.ap, List.length_map]
  omega
 | fn x =>
  refine ⟨by simp [Pg.add, pg0], by simp [Pg.add, pg0], fun y hy => ?_, by simp [Pg.add, pg0], by simp [Pg.add, pg0]⟩
  simp [Pg.add, pg0] at hy
  subst hy
  have h' : x.froms.length ≤ 4000 ∧ x.tos.length ≤ 4000 := h
  simp only [Px.Fu.ap, List.length_nil]
  omega
 | pr x =>
  refine ⟨by simp [Pg.add, pg0], by simp [Pg.add, pg0], by simp [Pg.add, pg0], fun y hy => ?_, by simp [Pg.add, pg0]⟩
  simp [Pg.add, pg0] at hy
  subst hy
  have h' : x.types.length ≤ 4000 := h
  simp only [Px.Pr.ap]
  omega
 | ru x =>
  refine ⟨by simp [Pg.add, pg0], by simp [Pg.add, pg0], by simp [Pg.add, pg0], by simp [Pg.add, pg0], fun y hy => ?_⟩
  simp [Pg.add, pg0] at hy
  subst hy
  obtain ⟨h1, h2, h3⟩ : Px.RB x := h
  simp only [Px.Ru.ap, List.length_map]
  refine ⟨by omega, fun z hz => ?_⟩
  obtain ⟨u, hu, rfl⟩ := List.mem_map.1 hz
  have : u.args.length ≤ 4000 := h3 u hu
  simp only [Px.L.ap]
  omega
theorem Fit.of (off : Nat → Int) : ∀ (xs : List Px.It), (∀ x ∈ xs, Px.ItB x) → Fit xs.length (Ap.of off xs)
 | [], _ => Fit.nil
 | x :: xs, h => by
  rw [of_cons, List.length_cons, Nat.add_comm]
  exact (Fit.one off (h x (by simp))).app (Fit.of off xs fun y hy => h y (List.mem_cons_of_mem _ hy))
theorem Fit.mono {N M : Nat} {P : Pg} (h : Fit N P) (hn : N ≤ M) : Fit M P := ⟨by have := h.lens; omega, h.lats, h.funs, h.preds, h.rules⟩
end Ap
theorem parse_fit (s : List UInt8) : Ap.Fit 4000 (parseP s) := by
 unfold parseP
 split
 ·obtain ⟨h1, h2⟩ := Px.run_all Px.fuel 0 (Px.kts (Lx.lex s).1) 0
  exact (Ap.Fit.of _ _ h2).mono h1
 ·exact Ap.Fit.nil.mono (by omega)
end Go.Proofs.YtpcmlkpnjimbiaaDoor
