/- ParserConcat, plain: the second text's items and diagnostics, moved. No program in sight. -/
import Derived.Test.YtpcmlkpnjimbiaaDoorPRec0
import Derived.Test.YtpcmlkpnjimbiaaDoorPMv0
namespace Go.Proofs.YtpcmlkpnjimbiaaDoor
set_option linter.unusedVariables false
set_option linter.unusedSimpArgs false
theorem parse_diags {s : List UInt8} (h0 : (Lx.lex s).2.1 = 0) : (parseD s).length ≤ 4000 ∧ ∀ d ∈ parseD s, ∃ p : Nat, d.2 = (p : Int) ∧ p ≤ s.length := by
 rw [parseD_of h0]
 refine ⟨?_, fun d hd => ?_⟩
 ·rw [List.length_map]
  have : ∀ (f nd : Nat) (ts : List Px.Kt) (i : Nat), (Px.run f nd ts i).2.length ≤ f := fun f => by
   induction f with
   | zero => intro nd ts i; exact Nat.le_refl _
   | succ f ih =>
    intro nd ts i
    unfold Px.run
    split
    ·split
     ·exact Nat.le_succ_of_le (ih _ _ _)
     ·simp only [List.length_cons]
      exact Nat.succ_le_succ (ih _ _ _)
    ·exact Nat.zero_le _
  exact this 4000 0 _ 0
 ·obtain ⟨k, hk, rfl⟩ := List.mem_map.1 hd
  exact offI_le h0 k
end Go.Proofs.YtpcmlkpnjimbiaaDoor
namespace Go.Proofs.YtpcmlkpnjimbiaaDoor
set_option linter.unusedVariables false
set_option linter.unusedSimpArgs false
namespace Lx
def gapsP : List (List UInt8) := [[32], [10], [9, 32], [37, 32, 120, 10], [32, 37, 32, 112, 40, 97, 41, 46, 10, 32], [13, 10]]
def Shut (g : List UInt8) : Prop := (∃ c r, g = c :: r ∧ (sepB c = true ∨ c = 13)) ∧ ∀ x, gapG false (g ++ x) = g.length + gapG false x
theorem gapsP_shut (k : Nat) (h : k < 6) : Shut (gapsP.getD k []) := by
 rcases (by omega : k = 0 ∨ k = 1 ∨ k = 2 ∨ k = 3 ∨ k = 4 ∨ k = 5) with rfl | rfl | rfl | rfl | rfl | rfl
 all_goals
  refine ⟨⟨_, _, rfl, by decide⟩, fun x => ?_⟩
  simp [gapsP, gapG, whiteB]
 all_goals omega
theorem gapsP_len (k : Nat) : (gapsP.getD k []).length ≤ 10 := by
 rcases Nat.lt_or_ge k 6 with h | h
 ·rcases (by omega : k = 0 ∨ k = 1 ∨ k = 2 ∨ k = 3 ∨ k = 4 ∨ k = 5) with rfl | rfl | rfl | rfl | rfl | rfl <;> decide
 ·rw [List.getD_eq_getElem?_getD, List.getElem?_eq_none (by simpa [gapsP] using h)]
  decide
theorem next_cr {x : List UInt8} (r : List UInt8) (hx : x ≠ []) : next (x ++ 13 :: r) = next x := by
 refine next_congr (takeWhile_sep _ rfl r x) fun _ => ?_
 match x, hx with
 | [a], _ =>
  have h2 : symbols.contains [a, 13] = false := by simp [symbols]
  have t2 : ([a] ++ 13 :: r).take 2 = [a, 13] := rfl
  have t1 : ([a] ++ 13 :: r).take 1 = [a] := rfl
  rw [symLen_two_eq, symLen_two_eq, t2, t1, h2]
  simp
 | a :: b :: y, _ => exact symLen_congr (by simp) (by simp)
theorem sc_layP (gp : Nat → List UInt8) (hg : ∀ j, Shut (gp j)) : ∀ (ts : List Tok) (j p : Nat), (∀ t ∈ ts, Own t) → Sc (rep gp j p ts) ((layT gp j ts).drop (gapG false (layT gp j ts))) (p + gapG false (layT gp j ts)) none
 | [], j, p, _ => Or.inl ⟨rfl, rfl⟩
 | t :: ts, j, p, h => by
  have ht := h t (List.mem_cons_self ..)
  have hts : t.text ≠ [] := by
   intro e; obtain ⟨h1, h2, _⟩ := ht; rw [e] at h1
   have : next ([] : List UInt8) = (0, 0) := by decide
   rw [this] at h1; simp at h1; omega
  have hgap : gapG false (layT gp j (t :: ts)) = (gp j).length := by
   simp only [layT]; rw [(hg j).2, own_first ht]; rfl
  have hdrop : (layT gp j (t :: ts)).drop (gp j).length = t.text ++ layT gp (j + 1) ts := by simp [layT]
  have hnext : next (t.text ++ layT gp (j + 1) ts) = (t.kind, t.text.length) := by
   cases ts with
   | nil =>
    show next (t.text ++ []) = _
    rw [List.append_nil]; exact ht.1
   | cons u ts =>
    obtain ⟨⟨c, r, hc, hs⟩, _⟩ := hg (j + 1)
    rw [show layT gp (j + 1) (u :: ts) = c :: (r ++ (u.text ++ layT gp (j + 2) ts)) by simp [layT, hc]]
    rcases hs with hs | rfl
    ·rw [next_sep _ hts hs]; exact ht.1
    ·rw [next_cr _ hts]; exact ht.1
  have ih := sc_layP gp hg ts (j + 1) (p + (gp j).length + t.text.length) (fun x hx => h x (List.mem_cons_of_mem _ hx))
  rw [hgap, hdrop]
  refine ⟨by simp [hts], hnext, ht.2.1, by simp, rfl, ?_⟩
  simp only [List.drop_left]
  rw [← List.drop_drop, List.drop_left]
  exact ih
theorem lex_layP {s : List UInt8} (h : (lex s).2.1 = 0) (gp : Nat → List UInt8) (hg : ∀ j, Shut (gp j)) (hl : (layT gp 0 (lex s).1).length ≤ 8000) :
  lex (layT gp 0 (lex s).1) = (rep gp 0 0 (lex s).1, 0, -1) := by
 have hsc := sc_layP gp hg (lex s).1 0 0 (fun t ht => by
  obtain ⟨k, hk, rfl⟩ := List.getElem_of_mem ht
  exact own_of h hk)
 refine lex_of_scan (scan_sc (by simpa using hsc)) hl (by rw [rep_length]; exact (lex_get h).2.1)
end Lx
theorem kts_rep (gp : Nat → List UInt8) : ∀ (ts : List Lx.Tok) (j p : Nat), Px.kts (Lx.rep gp j p ts) = Px.kts ts
 | [], _, _ => rfl
 | t :: ts, j, p => congrArg (Px.Kt.mk t.kind t.text :: ·) (kts_rep gp ts (j + 1) _)
/-- All items that are read stand within the tokens. -/
theorem run_in : ∀ (f nd : Nat) (ts : List Px.Kt) (i : Nat), ∀ x ∈ (Px.run f nd ts i).1, x.at0 < ts.length ∧ ∀ p ∈ x.inner, p < ts.length
 | 0, _, _, _ => fun x hx => by cases hx
 | f + 1, nd, ts, i => by
  unfold Px.run
  split
  ·rename_i hc
   cases hi : Px.item ts i with
   | ok x j =>
    dsimp only
    intro y hy
    rcases List.mem_cons.1 hy with rfl | hy
    ·have h1 := Px.item_pos hi
     have h2 := Px.Ends.item ts i _ j hi
     refine ⟨by omega, fun p hp => ?_⟩
     have := (h1.2 p hp).2
     omega
    ·exact run_in f nd ts j y hy
   | fail j =>
    dsimp only
    exact run_in f _ ts _
  ·intro x hx
   cases hx
theorem mvTo_at : ∀ (l m : List Lx.Tok) (k : Nat) (x y : Lx.Tok), l[k]? = some x → m[k]? = some y → (∀ i z, i < k → l[i]? = some z → z.pos ≠ x.pos) → mvTo l m (x.pos : Int) = (y.pos : Int)
 | [], _, k, x, y, h, _, _ => by simp at h
 | _ :: _, [], k, x, y, _, h, _ => by simp at h
 | a :: l, b :: m, 0, x, y, h, h', _ => by
  simp at h h'
  subst h; subst h'
  unfold mvTo
  rw [if_pos rfl]
 | a :: l, b :: m, k + 1, x, y, h, h', hn => by
  have ha := hn 0 a (by omega) rfl
  unfold mvTo
  rw [if_neg (by omega)]
  exact mvTo_at l m k x y (by simpa using h) (by simpa using h') fun i z hi hz => hn (i + 1) z (by omega) (by simpa using hz)
/-- Two diagnostics at the same token, number n (or at the end). -/
def LayD (l m : List Lx.Tok) (sz' : Nat) (d g : Int × Int) : Prop := d.1 = g.1 ∧ ∃ n : Nat, (∀ k x, l[k]? = some x → ((x.pos : Int) = d.2 ↔ k = n)) ∧ (∀ y, m[n]? = some y → g.2 = (y.pos : Int)) ∧ (m.length ≤ n → g.2 = (sz' : Int))
theorem tok_apart {s : List UInt8} (h : (Lx.lex s).2.1 = 0) {i j : Nat} {x y : Lx.Tok} (hi : (Lx.lex s).1[i]? = some x) (hj : (Lx.lex s).1[j]? = some y) (hn : i ≠ j) : x.pos ≠ y.pos := by
 obtain ⟨hi1, rfl⟩ := List.getElem?_eq_some_iff.1 hi
 obtain ⟨hj1, rfl⟩ := List.getElem?_eq_some_iff.1 hj
 rcases Nat.lt_or_gt_of_ne hn with hh | hh
 ·have := (Lx.pos_lt h hh hj1).2; omega
 ·have := (Lx.pos_lt h hh hi1).2; omega
theorem tok_in {s : List UInt8} (h : (Lx.lex s).2.1 = 0) {i : Nat} {x : Lx.Tok} (hi : (Lx.lex s).1[i]? = some x) : x.pos < s.length := by
 obtain ⟨hi1, rfl⟩ := List.getElem?_eq_some_iff.1 hi
 have h1 := ((Lx.lex_get h).2.2.2.1 i hi1).2
 have h2 := h1.1
 have h3 := h1.2.2.2.2
 omega
/-- The same tokens with other gaps: the same items and diagnostics at the same tokens. -/
theorem parse_lay {s : List UInt8} (h : (Lx.lex s).2.1 = 0) (gp : Nat → List UInt8) (hg : ∀ j, Lx.Shut (gp j)) {S : List UInt8} (hS : S = Lx.layT gp 0 (Lx.lex s).1) (hl : S.length ≤ 8000) :
  Lx.lex S = (Lx.rep gp 0 0 (Lx.lex s).1, 0, -1) ∧ parseP S = (parseP s).to (mvTo (Lx.lex s).1 (Lx.lex S).1) ∧ (parseD s).length = (parseD S).length ∧
   ∀ (i : Nat) (d g : Int × Int), (parseD s)[i]? = some d → (parseD S)[i]? = some g → LayD (Lx.lex s).1 (Lx.lex S).1 S.length d g := by
 have hx := Lx.lex_layP h gp hg (by rw [← hS]; exact hl)
 rw [← hS] at hx
 have h0 : (Lx.lex S).2.1 = 0 := by rw [hx]
 have h1 : (Lx.lex S).1 = Lx.rep gp 0 0 (Lx.lex s).1 := by rw [hx]
 have hk : Px.kts (Lx.lex S).1 = Px.kts (Lx.lex s).1 := by rw [h1, kts_rep]
 have hlen : (Lx.lex S).1.length = (Lx.lex s).1.length := by rw [h1, Lx.rep_length]
 refine ⟨hx, ?_, ?_, ?_⟩
 ·rw [parseP_of h0, parseP_of h, hk, Ap.of_to]
  have key : ∀ k, k < (Lx.lex s).1.length → offI (Lx.lex S).1 S.length k = mvTo (Lx.lex s).1 (Lx.lex S).1 (offI (Lx.lex s).1 s.length k) := fun k hkl => by
   have e1 := List.getElem?_eq_getElem hkl
   have e2 := List.getElem?_eq_getElem (show k < (Lx.lex S).1.length by rw [hlen]; exact hkl)
   rw [offI_in e1, offI_in e2]
   exact (mvTo_at _ _ k _ _ e1 e2 fun i z hi hz => tok_apart h hz e1 (by omega)).symm
  refine Ap.of_congr fun x hx => ?_
  have hr := run_in _ _ _ _ x hx
  rw [kts_length] at hr
  exact ⟨key _ hr.1, fun p hp => key _ (hr.2 p hp)⟩
 ·rw [parseD_of h0, parseD_of h, hk, List.length_map, List.length_map]
 ·intro i d g hd hgg
  rw [parseD_of h, List.getElem?_map] at hd
  rw [parseD_of h0, hk, List.getElem?_map] at hgg
  obtain ⟨n, hn, rfl⟩ := Option.map_eq_some_iff.1 hd
  rw [hn] at hgg
  simp only [Option.map_some, Option.some.injEq] at hgg
  subst hgg
  unfold dgV
  refine ⟨by simp only [hlen], n, fun k x hx => ?_, fun y hy => offI_in hy, fun hn => offI_out hn⟩
  dsimp only
  by_cases hnl : n < (Lx.lex s).1.length
  ·have e1 := List.getElem?_eq_getElem hnl
   rw [offI_in e1]
   constructor
   ·intro he
    rcases Nat.decEq k n with hne | rfl
    ·exact absurd (by omega) (tok_apart h hx e1 hne)
    ·rfl
   ·rintro rfl
    rw [hx] at e1
    injection e1 with e1
    rw [e1]
  ·rw [offI_out (by omega)]
   have h2 := tok_in h hx
   have h3 := (List.getElem?_eq_some_iff.1 hx).1
   constructor
   ·intro he; omega
   ·intro he; omega
end Go.Proofs.YtpcmlkpnjimbiaaDoor
