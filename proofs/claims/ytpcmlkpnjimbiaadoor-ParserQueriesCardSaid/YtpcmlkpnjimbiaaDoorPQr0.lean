/- ParserQueries, plain: a query as the body of a rule, a fact as the head of one. No program in sight. -/
import Derived.Test.YtpcmlkpnjimbiaaDoorPAp
import Derived.Test.YtpcmlkpnjimbiaaDoorPQuery
import Derived.Test.YtpcmlkpnjimbiaaDoorPFst0
namespace Go.Proofs.YtpcmlkpnjimbiaaDoor
set_option linter.unusedVariables false
set_option linter.unusedSimpArgs false
namespace Px
theorem word_ok {k : Nat} {ts : List Kt} {i j : Nat} {s : List UInt8} (h : word k ts i = .ok s j) : isK k ts i = true ∧ s = tx ts i ∧ j = i + 1 := by
  unfold word at h
  split at h
  · rename_i e
    injection h with h1 h2
    exact ⟨e, h1.symm, h2.symm⟩
  · cases h
theorem take_hit {t : List UInt8} {ts : List Kt} {i : Nat} (h : tx ts i = t) : take t ts i = .ok true (i + 1) := by unfold take; rw [if_pos h]
theorem take_miss {t : List UInt8} {ts : List Kt} {i : Nat} (h : tx ts i ≠ t) : take t ts i = .ok false i := by unfold take; rw [if_neg h]
theorem need_hit {t : List UInt8} {ts : List Kt} {i : Nat} (h : tx ts i = t) : need t ts i = .ok () (i + 1) := by unfold need; rw [if_pos h]
theorem bind_step {α β : Type} {p : P α} {f : α → P β} {ts : List Kt} {i j : Nat} {a : α} (h : p ts i = .ok a j) : bind p f ts i = f a ts j := by unfold bind; rw [h]
theorem atEnd_ok {ts : List Kt} {i j : Nat} {u : Unit} (h : atEnd ts i = .ok u j) : ¬ i < ts.length ∧ j = i := by
  unfold atEnd at h
  split at h
  · cases h
  · rename_i e
    injection h with _ h
    exact ⟨e, h.symm⟩
/-- What a query's reading tells. -/
theorem query_ok {K : List Kt} {x : L} {j : Nat} (h : queryOf 0 K 0 = .ok x j) : ∃ args b j2 j3, isK 1 K 0 = true ∧ tx K 1 = [40] ∧ terms term K 2 = .ok args j2 ∧ optBind K j2 = .ok b j3 ∧ tx K j3 = [41] ∧ j3 + 1 = K.length ∧ x = ⟨1, tx K 0, args, b, [], 0, 0⟩ := by
  unfold queryOf at h
  obtain ⟨name, j1, h1, h⟩ := bok h
  obtain ⟨_, j2, h2, h⟩ := bok h
  obtain ⟨a, j3, h3, h⟩ := bok h
  obtain ⟨_, j4, h4, h⟩ := bok h
  obtain ⟨_, j5, h5, h⟩ := bok h
  obtain ⟨rfl, _⟩ := ret_ok h
  obtain ⟨w1, rfl, rfl⟩ := word_ok h1
  obtain ⟨n1, rfl⟩ := need_ok h2
  obtain ⟨n2, rfl⟩ := need_ok h4
  obtain ⟨e1, _⟩ := atEnd_ok h5
  unfold queryIn at h3
  obtain ⟨args, j6, h6, h3⟩ := bok h3
  obtain ⟨b, j7, h7, h3⟩ := bok h3
  obtain ⟨rfl, rfl⟩ := ret_ok h3
  have := tx_lt n2 (by decide)
  exact ⟨args, b, j6, j3, w1, n1, h6, h7, n2, by omega, rfl⟩
theorem fact_ok {K : List Kt} {x : L} {j : Nat} (h : factOf 0 K 0 = .ok x j) : ∃ args b j2 j3, isK 1 K 0 = true ∧ tx K 1 = [40] ∧ terms constant K 2 = .ok args j2 ∧ optName K j2 = .ok b j3 ∧ tx K j3 = [41] ∧ j3 + 1 = K.length ∧ x = ⟨1, tx K 0, args, [], b, 0, 0⟩ := by
  unfold factOf at h
  obtain ⟨name, j1, h1, h⟩ := bok h
  obtain ⟨_, j2, h2, h⟩ := bok h
  obtain ⟨a, j3, h3, h⟩ := bok h
  obtain ⟨_, j4, h4, h⟩ := bok h
  obtain ⟨_, j5, h5, h⟩ := bok h
  obtain ⟨rfl, _⟩ := ret_ok h
  obtain ⟨w1, rfl, rfl⟩ := word_ok h1
  obtain ⟨n1, rfl⟩ := need_ok h2
  obtain ⟨n2, rfl⟩ := need_ok h4
  obtain ⟨e1, _⟩ := atEnd_ok h5
  unfold factIn at h3
  obtain ⟨args, j6, h6, h3⟩ := bok h3
  obtain ⟨b, j7, h7, h3⟩ := bok h3
  obtain ⟨rfl, rfl⟩ := ret_ok h3
  have := tx_lt n2 (by decide)
  exact ⟨args, b, j6, j3, w1, n1, h6, h7, n2, by omega, rfl⟩
theorem isK_key {ts : List Kt} {i : Nat} (h : isK 1 ts i = true) {s : List UInt8} (hs : keys.contains s = true) : tx ts i ≠ s := by
  rintro rfl
  unfold isK at h
  rw [hs] at h
  simp at h
/-- A constant is a term. -/
theorem constant_term {ts : List Kt} {i j : Nat} {a : T} (h : constant ts i = .ok a j) : term ts i = .ok a j ∧ a.v = [] := by
  have h2 : isK 2 ts i = false := by
    unfold constant at h
    split at h
    · rename_i e
      exact two_ne_one e (by decide)
    · obtain ⟨w, k, h1, h⟩ := bok h
      exact two_ne_one (word_ok h1).1 (by decide)
  refine ⟨?_, ?_⟩
  · unfold term
    rw [h2]
    exact h
  · unfold constant at h
    split at h
    · obtain ⟨n, k, h1, h⟩ := bok h
      obtain ⟨rfl, _⟩ := ret_ok h
      rfl
    · obtain ⟨w, k, h1, h⟩ := bok h
      obtain ⟨rfl, _⟩ := ret_ok h
      rfl
theorem many_constant : ∀ (f : Nat) (ts : List Kt) (i j : Nat) (l : List T), many constant f ts i = .ok l j → many term f ts i = .ok l j ∧ ∀ a ∈ l, a.v = []
  | 0, ts, i, j, l, h => by cases h
  | f + 1, ts, i, j, l, h => by
    unfold many at h ⊢
    split at h
    · cases h
    · rename_i a k ha
      obtain ⟨h1, h2⟩ := constant_term ha
      rw [h1]
      dsimp only
      split at h
      · rename_i hc
        rw [if_pos hc]
        split at h
        · rename_i l2 k2 hl
          obtain ⟨h3, h4⟩ := many_constant f ts (k + 1) k2 l2 hl
          injection h with e1 e2
          subst e1; subst e2
          rw [h3]
          exact ⟨rfl, fun x hx => by
            rcases List.mem_cons.1 hx with rfl | hx
            · exact h2
            · exact h4 x hx⟩
        · cases h
      · rename_i hc
        rw [if_neg hc]
        injection h with e1 e2
        subst e1; subst e2
        exact ⟨rfl, fun x hx => by simp at hx; rw [hx]; exact h2⟩
theorem terms_constant {ts : List Kt} {i j : Nat} {l : List T} (h : terms constant ts i = .ok l j) : terms term ts i = .ok l j ∧ ∀ a ∈ l, a.v = [] := by
  unfold terms list at h ⊢
  split at h
  · rename_i hc
    rw [if_pos hc]
    injection h with e1 e2
    subst e1; subst e2
    exact ⟨rfl, fun a ha => by cases ha⟩
  · rename_i hc
    rw [if_neg hc]
    exact many_constant _ _ _ _ _ h
def hd4 : List Kt := [⟨1, [104]⟩, ⟨4, [40]⟩, ⟨4, [41]⟩, ⟨4, [58, 45]⟩]
/-- A query as the only literal of a rule. -/
theorem query_rule {K : List Kt} {x : L} {j : Nat} (h : queryOf 0 K 0 = .ok x j) (hl : K.length + 5 ≤ 3000) : parse (hd4 ++ (K ++ [⟨4, [46]⟩])) = ([.ru ⟨[104], [], ⟨0, [], []⟩, [{ x with pos := 4 }], 0⟩], []) := by
  obtain ⟨args, b, j2, j3, hw, h1, ht, ho, h3, hj, rfl⟩ := query_ok h
  obtain ⟨S, hS⟩ : ∃ S, hd4 ++ (K ++ [⟨4, [46]⟩]) = S := ⟨_, rfl⟩
  have hSl : S.length = K.length + 5 := by rw [← hS]; simp [hd4]
  have hA : Agr 4 K S 0 K.length := fun k _ hk => by
    rw [← hS, List.getElem?_append_right (by simp [hd4]), show hd4.length = 4 from rfl, Nat.add_sub_cancel, List.getElem?_append_left hk]
  have u2 := Up.terms Up.term _ _ _ _ ht
  have u3 := Up.optBind _ _ _ _ ho
  have d0 : tx S 0 = [104] := by rw [← hS]; rfl
  have d1 : tx S 1 = [40] := by rw [← hS]; rfl
  have d2 : tx S 2 = [41] := by rw [← hS]; rfl
  have d3 : tx S 3 = [58, 45] := by rw [← hS]; rfl
  have dk : isK 1 S 0 = true := by rw [← hS]; rfl
  have dn : tx S (K.length + 4) = [46] := by
    unfold tx
    rw [← hS, List.getElem?_append_right (by simp [hd4]), show hd4.length = 4 from rfl, Nat.add_sub_cancel, List.getElem?_append_right (by omega), Nat.sub_self]
    rfl
  have e0 : isK 1 S 4 = true := by rw [show (4 : Nat) = 0 + 4 from rfl, hA.isK (Nat.le_refl _) (by omega)]; exact hw
  have t4 : tx S 4 = tx K 0 := by rw [show (4 : Nat) = 0 + 4 from rfl, hA.tx (Nat.le_refl _) (by omega)]
  have t5 : tx S 5 = [40] := by rw [show (5 : Nat) = 1 + 4 from rfl, hA.tx (by omega) (by omega)]; exact h1
  have e2 := ((Sim.terms (Sim.term 4) Up.term Fp.term) K S 2).1 args j2 ht (hA.mono (by omega) (by omega))
  have e3 := ((Sim.optBind 4) K S j2).1 b j3 ho (hA.mono (by omega) (by omega))
  have e4 : tx S (j3 + 4) = [41] := by rw [hA.tx (by omega) (by omega)]; exact h3
  have hat : atom false 4 S 4 = .ok ⟨1, tx K 0, args, b, [], 0, 4⟩ (K.length + 4) := by
    unfold atom
    rw [bind_step (isK_word e0), bind_step (need_hit t5), bind_step e2, bind_step (show (if false = true then ret [] else optBind) S (j2 + 4) = .ok b (j3 + 4) from e3), bind_step (need_hit e4)]
    rw [show j3 + 4 + 1 = K.length + 4 by omega]
    rw [bind_step (a := false) (j := K.length + 4) (show (if b = [] then take [62, 61] else ret false) S (K.length + 4) = .ok false (K.length + 4) by
      split
      · exact take_miss (by rw [dn]; decide)
      · rfl)]
    rw [bind_step (a := []) (j := K.length + 4) (show (if false = true then word 1 else ret []) S (K.length + 4) = .ok [] (K.length + 4) from rfl)]
    rw [t4]
    rfl
  have hlit : literal S 4 = .ok ⟨1, tx K 0, args, b, [], 0, 4⟩ (K.length + 4) := by
    unfold literal
    rw [bind_step (take_miss (isK_key e0 (by decide)))]
    show litPos 4 S 4 = _
    unfold litPos
    rw [if_pos e0, if_pos t5]
    exact hat
  have hbody : optBody S 3 = .ok [⟨1, tx K 0, args, b, [], 0, 4⟩] (K.length + 4) := by
    unfold optBody
    rw [bind_step (take_hit d3)]
    show many literal (3999 + 1) S 4 = _
    unfold many
    rw [hlit]
    dsimp only
    rw [dn, if_neg (by decide)]
  have hrule : rule S 0 = .ok ⟨[104], [], ⟨0, [], []⟩, [⟨1, tx K 0, args, b, [], 0, 4⟩], 0⟩ (K.length + 5) := by
    rw [rule_eq, bind_step (take_miss (by rw [d0]; decide))]
    rw [bind_step (a := ([104], [], ⟨0, [], []⟩)) (j := 3) (by
      show ruleHead S 0 = _
      unfold ruleHead
      rw [bind_step (isK_word dk), bind_step (need_hit d1)]
      rw [bind_step (a := []) (j := 2) (by
        unfold terms
        rw [d2]
        rfl)]
      rw [bind_step (a := ⟨0, [], []⟩) (j := 2) (by
        unfold optElem
        rw [bind_step (take_miss (by rw [d2]; decide))]
        rfl)]
      rw [bind_step (need_hit d2), d0]
      rfl)]
    unfold ruleEnd
    rw [bind_step hbody, bind_step (need_hit dn)]
    rfl
  have hitem : item S 0 = .ok (.ru ⟨[104], [], ⟨0, [], []⟩, [⟨1, tx K 0, args, b, [], 0, 4⟩], 0⟩) (K.length + 5) := by
    unfold item itemOf
    rw [d0, if_neg (by decide), if_neg (by decide), if_neg (by decide), bind_step hrule]
    rfl
  rw [hS]
  refine parse_of_runs ?_ (by omega)
  rw [hSl]
  exact .cons (by omega) hitem (.nil _)
/-- A fact as the head of a rule. -/
theorem fact_rule {K : List Kt} {x : L} {j : Nat} (h : factOf 0 K 0 = .ok x j) (hl : K.length + 1 ≤ 3000) : ∃ e : E, e.name = x.elem ∧ parse (K ++ [⟨4, [46]⟩]) = ([.ru ⟨x.name, x.args, e, [], 0⟩], []) ∧ (∀ a ∈ x.args, a.v = []) := by
  obtain ⟨args, b, j2, j3, hw, h1, htc, ho, h3, hj, rfl⟩ := fact_ok h
  obtain ⟨ht, hc⟩ := terms_constant htc
  obtain ⟨S, hS⟩ : ∃ S, K ++ [⟨4, [46]⟩] = S := ⟨_, rfl⟩
  have hSl : S.length = K.length + 1 := by rw [← hS]; simp
  have hA : Agr 0 K S 0 K.length := fun k _ hk => by
    rw [← hS, Nat.add_zero, List.getElem?_append_left hk]
  have u2 := Up.terms Up.term _ _ _ _ ht
  have u3 : j2 ≤ j3 := ((Up.take _).bind fun _ => Up.ite (Up.word _) (Up.ret _)) _ _ _ _ ho
  have dn : tx S K.length = [46] := by
    unfold tx
    rw [← hS, List.getElem?_append_right (by omega), Nat.sub_self]
    rfl
  have e0 : isK 1 S 0 = true := by have := hA.isK (Nat.le_refl _) (show 0 < K.length by omega) 1; rw [Nat.add_zero] at this; rw [this]; exact hw
  have t0 : tx S 0 = tx K 0 := by have := hA.tx (Nat.le_refl _) (show 0 < K.length by omega); rw [Nat.add_zero] at this; exact this
  have t1 : tx S 1 = [40] := by have := hA.tx (k := 1) (by omega) (by omega); rw [Nat.add_zero] at this; rw [this]; exact h1
  have e2 := ((Sim.terms (Sim.term 0) Up.term Fp.term) K S 2).1 args j2 ht (hA.mono (by omega) (by omega))
  rw [Nat.add_zero, Nat.add_zero] at e2
  have e4 : tx S j3 = [41] := by have := hA.tx (k := j3) (by omega) (by omega); rw [Nat.add_zero] at this; rw [this]; exact h3
  obtain ⟨e, he, hoe⟩ : ∃ e : E, e.name = b ∧ optElem S j2 = .ok e j3 := by
    unfold optName at ho
    obtain ⟨c, j5, h5, ho⟩ := bok ho
    have hx := ((Sim.take 0 [59]) K S j2).1 c j5 h5 (hA.mono (by omega) (by
      have : j5 ≤ j3 := (Up.ite (Up.word 1) (Up.ret [])) _ _ _ _ ho
      omega))
    rw [Nat.add_zero, Nat.add_zero] at hx
    unfold optElem
    rw [bind_step hx]
    dsimp only [id]
    split at ho
    · rename_i hct
      obtain ⟨w1, rfl, rfl⟩ := word_ok ho
      have k1 : isK 1 S j5 = true := by have := hA.isK (k := j5) (by omega) (by omega) 1; rw [Nat.add_zero] at this; rw [this]; exact w1
      have x1 : tx S j5 = tx K j5 := by have := hA.tx (k := j5) (by omega) (by omega); rw [Nat.add_zero] at this; exact this
      refine ⟨⟨1, tx K j5, []⟩, rfl, ?_⟩
      rw [if_pos hct]
      unfold element
      rw [two_ne_one k1 (by decide : (1 : Nat) ≠ 2)]
      rw [if_neg (by decide), bind_step (isK_word k1), bind_step (take_miss (by rw [e4]; decide)), x1]
      rfl
    · rename_i hct
      obtain ⟨rfl, rfl⟩ := ret_ok ho
      refine ⟨⟨0, [], []⟩, rfl, ?_⟩
      rw [if_neg hct]
      rfl
  have hrule : rule S 0 = .ok ⟨tx K 0, args, e, [], 0⟩ (K.length + 1) := by
    rw [rule_eq, bind_step (take_miss (isK_key e0 (by decide)))]
    rw [bind_step (a := (tx K 0, args, e)) (j := K.length) (by
      show ruleHead S 0 = _
      unfold ruleHead
      rw [bind_step (isK_word e0), bind_step (need_hit t1), bind_step e2, bind_step hoe, bind_step (need_hit e4), t0, hj]
      rfl)]
    unfold ruleEnd
    rw [bind_step (a := []) (j := K.length) (by
      unfold optBody
      rw [bind_step (take_miss (by rw [dn]; decide))]
      rfl), bind_step (need_hit dn)]
    rfl
  have hitem : item S 0 = .ok (.ru ⟨tx K 0, args, e, [], 0⟩) (K.length + 1) := by
    have hst : ∀ s, keys.contains s = true → tx S 0 ≠ s := fun s hs => isK_key e0 hs
    unfold item itemOf
    rw [if_neg (hst _ (by decide)), if_neg (hst _ (by decide)), if_neg (by rintro (hh | hh); exact hst _ (by decide) hh; exact hst _ (by decide) hh), bind_step hrule]
    rfl
  refine ⟨e, he, ?_, hc⟩
  rw [hS]
  refine parse_of_runs ?_ (by omega)
  rw [hSl]
  exact .cons (by omega) hitem (.nil _)
/-- What is a query and a fact has neither a variable for its element nor one. -/
theorem query_fact {K : List Kt} {x y : L} {j j' : Nat} (h : queryOf 0 K 0 = .ok x j) (h' : factOf 0 K 0 = .ok y j') : x.bnd = [] ∧ y.elem = [] := by
  obtain ⟨args, b, j2, j3, hw, h1, ht, ho, h3, hj, rfl⟩ := query_ok h
  obtain ⟨args', b', j2', j3', hw', h1', htc, ho', h3', hj', rfl⟩ := fact_ok h'
  obtain ⟨ht', _⟩ := terms_constant htc
  rw [ht] at ht'
  injection ht' with ea ej
  subst ea; subst ej
  unfold optBind at ho
  unfold optName at ho'
  obtain ⟨c, j5, h5, ho⟩ := bok ho
  obtain ⟨c', j5', h5', ho'⟩ := bok ho'
  rw [h5] at h5'
  injection h5' with ec ej
  subst ec; subst ej
  split at ho
  · rename_i hc
    rw [if_pos hc] at ho'
    have k2 := (word_ok ho).1
    have k1 := (word_ok ho').1
    rw [two_ne_one k2 (by decide : (2 : Nat) ≠ 1)] at k1
    cases k1
  · rename_i hc
    rw [if_neg hc] at ho'
    exact ⟨(ret_ok ho).1, (ret_ok ho').1⟩
end Px
end Go.Proofs.YtpcmlkpnjimbiaaDoor
