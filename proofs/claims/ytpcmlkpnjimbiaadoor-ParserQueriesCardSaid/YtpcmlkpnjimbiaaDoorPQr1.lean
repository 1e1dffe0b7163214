/- ParserQueries, plain, over texts. No program in sight. -/
import Derived.Test.YtpcmlkpnjimbiaaDoorPQr0
import Derived.Test.YtpcmlkpnjimbiaaDoorPBnd
namespace Go.Proofs.YtpcmlkpnjimbiaaDoor
set_option linter.unusedVariables false
set_option linter.unusedSimpArgs false
def hdQ : List UInt8 := [104, 40, 41, 32, 58, 45]
def hdT : List Lx.Tok := [⟨1, [104], 0⟩, ⟨4, [40], 1⟩, ⟨4, [41], 2⟩, ⟨4, [58, 45], 4⟩]
theorem scan_hdQ : Lx.scan hdQ = (hdT, none) := by kernel_rfl
theorem scan_dot : Lx.scan [46] = ([⟨4, [46], 0⟩], none) := by kernel_rfl
def fText (t : List UInt8) : List UInt8 := t ++ [10, 46]
def qText (t : List UInt8) : List UInt8 := ([104, 40, 41, 32, 58, 45, 10] ++ t) ++ [10, 46]
theorem fText_eq (t : List UInt8) : fText t = t ++ 10 :: [46] := rfl
theorem qText_eq (t : List UInt8) : qText t = hdQ ++ 10 :: (t ++ 10 :: [46]) := by
  unfold qText hdQ
  simp
theorem scan_f {t : List UInt8} (h : (Lx.lex t).2.1 = 0) : Lx.scan (fText t) = ((Lx.lex t).1 ++ [(⟨4, [46], t.length + 1⟩ : Lx.Tok)], none) := by
  obtain ⟨_, t2, _, t4⟩ := Lx.lex_ok_of h
  have e := Lx.scan_app (a := t) [46] t2
  rw [scan_dot] at e
  rw [fText_eq, e, t4]
  simp [Lx.shift]
theorem scan_q {t : List UInt8} (h : (Lx.lex t).2.1 = 0) : Lx.scan (qText t) = (hdT ++ ((Lx.lex t).1 ++ [(⟨4, [46], t.length + 1⟩ : Lx.Tok)]).map (Lx.shift 7), none) := by
  have e := Lx.scan_app (a := hdQ) (t ++ 10 :: [46]) (by rw [scan_hdQ])
  have e2 := scan_f h
  rw [fText_eq] at e2
  rw [e2, scan_hdQ] at e
  rw [qText_eq, e]
  rfl
theorem lex_of_ok {s : List UInt8} {ts : List Lx.Tok} (h : (Lx.lex s).2.1 = 0) (hs : Lx.scan s = (ts, none)) : (Lx.lex s).1 = ts ∧ ts.length ≤ 3000 := by
  obtain ⟨_, s2, s3, s4⟩ := Lx.lex_ok_of h
  rw [hs] at s3 s4
  rw [s4]
  exact ⟨rfl, s3⟩
theorem query_cases (t : List UInt8) : ((Lx.lex t).2.1 = 0 ∧ ∃ x j, Px.queryOf 0 (Px.kts (Lx.lex t).1) 0 = .ok x j ∧ parseQuery t = (x.ap (offI (Lx.lex t).1 t.length), [])) ∨ ∃ d, parseQuery t = (liZ, [d]) := by
  unfold parseQuery
  by_cases h : (Lx.lex t).2.1 = 0
  · rw [if_pos h]
    cases hx : Px.queryOf 0 (Px.kts (Lx.lex t).1) 0 with
    | ok x j => exact Or.inl ⟨h, x, j, rfl, rfl⟩
    | fail j => exact Or.inr ⟨_, rfl⟩
  · rw [if_neg h]
    exact Or.inr ⟨_, rfl⟩
theorem fact_cases (t : List UInt8) : ((Lx.lex t).2.1 = 0 ∧ ∃ x j, Px.factOf 0 (Px.kts (Lx.lex t).1) 0 = .ok x j ∧ parseFact t = (x.ap (offI (Lx.lex t).1 t.length), [])) ∨ ∃ d, parseFact t = (liZ, [d]) := by
  unfold parseFact
  by_cases h : (Lx.lex t).2.1 = 0
  · rw [if_pos h]
    cases hx : Px.factOf 0 (Px.kts (Lx.lex t).1) 0 with
    | ok x j => exact Or.inl ⟨h, x, j, rfl, rfl⟩
    | fail j => exact Or.inr ⟨_, rfl⟩
  · rw [if_neg h]
    exact Or.inr ⟨_, rfl⟩
/-- A query's literal. -/
theorem query_text {t : List UInt8} {x : Px.L} {j : Nat} (h0 : (Lx.lex t).2.1 = 0) (h : Px.queryOf 0 (Px.kts (Lx.lex t).1) 0 = .ok x j) :
    (x.ap (offI (Lx.lex t).1 t.length)).kind = 1 ∧ (x.ap (offI (Lx.lex t).1 t.length)).elem = [] ∧ (x.ap (offI (Lx.lex t).1 t.length)).args.length ≤ 4000 ∧ ((Lx.lex (qText t)).2.1 = 0 → parseD (qText t) = [] ∧
    parseP (qText t) = ⟨[], [], [], [⟨[104], -1, [], ⟨0, [], [], -1⟩, [{ x.ap (offI (Lx.lex t).1 t.length) with pos := (x.ap (offI (Lx.lex t).1 t.length)).pos + 7 }], 0⟩]⟩) := by
  have hpos := Px.query_pos h
  obtain ⟨args, b, j2, j3, hw, h1, ht, ho, h3, hj, hx⟩ := Px.query_ok h
  refine ⟨by rw [hx]; rfl, by rw [hx]; rfl, ?_, fun hs => ?_⟩
  · rw [hx]
    exact Px.Gives.terms _ _ _ _ ht
  obtain ⟨e, hl⟩ := lex_of_ok hs (scan_q h0)
  have hk : Px.kts (Lx.lex (qText t)).1 = Px.hd4 ++ (Px.kts (Lx.lex t).1 ++ [⟨4, [46]⟩]) := by
    rw [e, kts_append, kts_shift, kts_append]
    rfl
  have hkl : (Px.kts (Lx.lex t).1).length + 5 ≤ 3000 := by
    rw [kts_length]
    simp [hdT] at hl
    omega
  have hp := Px.query_rule h hkl
  have hn : 0 < (Lx.lex t).1.length := by rw [kts_length] at hj; omega
  rw [parseD_of hs, parseP_of hs, hk, hp]
  refine ⟨rfl, ?_⟩
  have o0 : offI (Lx.lex (qText t)).1 (qText t).length 0 = 0 := by
    rw [e]
    rfl
  have o4 : offI (Lx.lex (qText t)).1 (qText t).length 4 = offI (Lx.lex t).1 t.length 0 + 7 := by
    rw [e]
    have g0 : (Lx.lex t).1[0]? = some (Lx.lex t).1[0] := List.getElem?_eq_getElem hn
    have g4 : (hdT ++ ((Lx.lex t).1 ++ [(⟨4, [46], t.length + 1⟩ : Lx.Tok)]).map (Lx.shift 7))[4]? = some (Lx.shift 7 (Lx.lex t).1[0]) := by
      rw [List.getElem?_append_right (by simp [hdT]), show 4 - hdT.length = 0 from rfl, List.getElem?_map, List.getElem?_append_left hn, g0]
      rfl
    rw [offI_in g0, offI_in g4]
    unfold Lx.shift
    dsimp only
    omega
  unfold Ap.of
  simp only [List.foldl_cons, List.foldl_nil, Ap.Pg.add, pg0, List.nil_append, Px.Ru.ap, List.map_cons, List.map_nil, Px.L.ap, Px.E.ap, o0, o4, hpos]
theorem fact_text {t : List UInt8} {x : Px.L} {j : Nat} (h0 : (Lx.lex t).2.1 = 0) (h : Px.factOf 0 (Px.kts (Lx.lex t).1) 0 = .ok x j) :
    (x.ap (offI (Lx.lex t).1 t.length)).kind = 1 ∧ (x.ap (offI (Lx.lex t).1 t.length)).bnd = [] ∧ (x.ap (offI (Lx.lex t).1 t.length)).args.length ≤ 4000 ∧ (∀ a ∈ (x.ap (offI (Lx.lex t).1 t.length)).args, a.v = []) ∧ ((Lx.lex (fText t)).2.1 = 0 → parseD (fText t) = [] ∧
    ∃ (e : Ap.El) (ps : Int), e.name = (x.ap (offI (Lx.lex t).1 t.length)).elem ∧ parseP (fText t) = ⟨[], [], [], [⟨(x.ap (offI (Lx.lex t).1 t.length)).name, -1, (x.ap (offI (Lx.lex t).1 t.length)).args, e, [], ps⟩]⟩) := by
  obtain ⟨args, b, j2, j3, hw, h1, ht, ho, h3, hj, hx⟩ := Px.fact_ok h
  refine ⟨by rw [hx]; rfl, by rw [hx]; rfl, ?_, ?_, fun hs => ?_⟩
  · rw [hx]
    exact Px.Gives.terms _ _ _ _ ht
  · rw [hx]
    exact (Px.terms_constant ht).2
  obtain ⟨e, hl⟩ := lex_of_ok hs (scan_f h0)
  have hk : Px.kts (Lx.lex (fText t)).1 = Px.kts (Lx.lex t).1 ++ [⟨4, [46]⟩] := by
    rw [e, kts_append]
    rfl
  have hkl : (Px.kts (Lx.lex t).1).length + 1 ≤ 3000 := by
    rw [kts_length]
    simp at hl
    omega
  obtain ⟨el, hel, hp, _⟩ := Px.fact_rule h hkl
  rw [parseD_of hs, parseP_of hs, hk, hp]
  refine ⟨rfl, el.ap, offI (Lx.lex (fText t)).1 (fText t).length 0, hel, ?_⟩
  unfold Ap.of
  simp only [List.foldl_cons, List.foldl_nil, Ap.Pg.add, pg0, List.nil_append, Px.Ru.ap, List.map_nil, Px.L.ap]
theorem both_text {t : List UInt8} {x y : Px.L} {j j' : Nat} {off : Nat → Int} (h : Px.queryOf 0 (Px.kts (Lx.lex t).1) 0 = .ok x j) (h' : Px.factOf 0 (Px.kts (Lx.lex t).1) 0 = .ok y j') : (x.ap off).bnd = [] ∧ (y.ap off).elem = [] := Px.query_fact h h'
/-- A text that is a query. -/
def QOk (t nm : List UInt8) (args : List Px.T) (b : List UInt8) (ps : Int) : Prop := parseQuery t = (⟨1, nm, -1, args, b, [], -1, 0, ps⟩, []) ∧ args.length ≤ 4000 ∧ 0 ≤ ps ∧ ps ≤ 8000 ∧ ((Lx.lex (qText t)).2.1 = 0 → parseD (qText t) = [] ∧ parseP (qText t) = ⟨[], [], [], [⟨[104], -1, [], ⟨0, [], [], -1⟩, [⟨1, nm, -1, args, b, [], -1, 0, ps + 7⟩], 0⟩]⟩)
/-- A text that is a fact. -/
def FOk (t nm : List UInt8) (args : List Px.T) (b : List UInt8) (ps : Int) : Prop := parseFact t = (⟨1, nm, -1, args, [], b, -1, 0, ps⟩, []) ∧ args.length ≤ 4000 ∧ (∀ a ∈ args, a.v = []) ∧ ((Lx.lex (fText t)).2.1 = 0 → parseD (fText t) = [] ∧ ∃ (e : Ap.El) (pr : Int), e.name = b ∧ parseP (fText t) = ⟨[], [], [], [⟨nm, -1, args, e, [], pr⟩]⟩)
theorem qOk_of {t : List UInt8} {x : Px.L} {j : Nat} (h0 : (Lx.lex t).2.1 = 0) (h : Px.queryOf 0 (Px.kts (Lx.lex t).1) 0 = .ok x j) (hp : parseQuery t = (x.ap (offI (Lx.lex t).1 t.length), [])) : QOk t x.name x.args x.bnd (offI (Lx.lex t).1 t.length 0) := by
  obtain ⟨h1, h2, h3, h4⟩ := query_text h0 h
  have hpos := Px.query_pos h
  obtain ⟨args, b, j2, j3, hw, k1, ht, ho, k3, hj, hx⟩ := Px.query_ok h
  have hn : 0 < (Lx.lex t).1.length := by rw [kts_length] at hj; omega
  have hg := ((Lx.lex_get h0).2.2.2.1 0 hn).2
  have hl := (Lx.lex_get h0).1
  have e : x.ap (offI (Lx.lex t).1 t.length) = ⟨1, x.name, -1, x.args, x.bnd, [], -1, 0, offI (Lx.lex t).1 t.length 0⟩ := by
    rw [hx]
    rfl
  have o0 : offI (Lx.lex t).1 t.length 0 = (((Lx.lex t).1[0]).pos : Int) := offI_in (List.getElem?_eq_getElem hn)
  have hle := hg.1
  rw [e] at hp h3 h4
  exact ⟨hp, h3, by rw [o0]; omega, by rw [o0]; omega, h4⟩
theorem fOk_of {t : List UInt8} {x : Px.L} {j : Nat} (h0 : (Lx.lex t).2.1 = 0) (h : Px.factOf 0 (Px.kts (Lx.lex t).1) 0 = .ok x j) (hp : parseFact t = (x.ap (offI (Lx.lex t).1 t.length), [])) : FOk t x.name x.args x.elem (offI (Lx.lex t).1 t.length 0) := by
  obtain ⟨h1, h2, h3, h4, h5⟩ := fact_text h0 h
  obtain ⟨args, b, j2, j3, hw, k1, ht, ho, k3, hj, hx⟩ := Px.fact_ok h
  have e : x.ap (offI (Lx.lex t).1 t.length) = ⟨1, x.name, -1, x.args, [], x.elem, -1, 0, offI (Lx.lex t).1 t.length 0⟩ := by
    rw [hx]
    rfl
  rw [e] at hp h3 h4 h5
  exact ⟨hp, h3, h4, h5⟩
theorem qf_cases (t : List UInt8) : (∃ nm args ps nm' args' ps', QOk t nm args [] ps ∧ FOk t nm' args' [] ps') ∨ (∃ nm args b ps d, QOk t nm args b ps ∧ parseFact t = (liZ, [d])) ∨ (∃ d nm' args' b' ps', parseQuery t = (liZ, [d]) ∧ FOk t nm' args' b' ps') ∨ (∃ d d', parseQuery t = (liZ, [d]) ∧ parseFact t = (liZ, [d'])) := by
  rcases query_cases t with ⟨h0, x, j, hx, hp⟩ | ⟨d, hp⟩
  · rcases fact_cases t with ⟨_, y, j', hy, hp'⟩ | ⟨d', hp'⟩
    · obtain ⟨e1, e2⟩ := Px.query_fact hx hy
      have h1 := qOk_of h0 hx hp
      have h2 := fOk_of h0 hy hp'
      rw [e1] at h1
      rw [e2] at h2
      exact Or.inl ⟨_, _, _, _, _, _, h1, h2⟩
    · exact Or.inr (Or.inl ⟨_, _, _, _, _, qOk_of h0 hx hp, hp'⟩)
  · rcases fact_cases t with ⟨h0, y, j', hy, hp'⟩ | ⟨d', hp'⟩
    · exact Or.inr (Or.inr (Or.inl ⟨_, _, _, _, _, hp, fOk_of h0 hy hp'⟩))
    · exact Or.inr (Or.inr (Or.inr ⟨_, _, hp, hp'⟩))
end Go.Proofs.YtpcmlkpnjimbiaaDoor
