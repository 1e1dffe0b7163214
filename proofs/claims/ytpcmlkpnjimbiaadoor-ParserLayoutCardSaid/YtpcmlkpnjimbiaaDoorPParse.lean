/- The walk of Parse. -/
import Derived.Test.YtpcmlkpnjimbiaaDoorPUp
import Derived.Test.YtpcmlkpnjimbiaaDoorPTry
import Derived.Test.YtpcmlkpnjimbiaaDoorPOpen
namespace Go.Proofs.YtpcmlkpnjimbiaaDoor
set_option linter.unusedVariables false
set_option linter.unusedSimpArgs false
open Go.RowKit
theorem results_cell_row_tmp {P : Program} {fn : Func} {p u : Tmp} {ty : TypeId} (h : fn.results = #[.cell p ty, .tmp u]) (tmps : Array Value) (w : World) (g : Nat) (t : TypeId) (cs : Array Value) (fr : Nat × Nat) (d : TypeDesc)
  (hp : tmps.getD p undef = .pointer (some ⟨g, 0, none⟩)) (hg : w.heap[g]? = some (.cells cs t fr))
  (hu : P.underlying ty = some d) (hd : (match d with | .struct _ | .array _ _ => true | _ => false) = true) (hi : (P.info? ty).map (·.size) = some cs.size) :
  (results fn tmps).run P w = .ok (.tuple #[.agg cs, tmps.getD u undef]) w := by
 have hp' : tmps[p]?.getD undef = .pointer (some ⟨g, 0, none⟩) := by simpa using hp
 simp [results, h, hp', asAddr, run_loadVar_row w g t ty cs fr d hg hu hd hi]
namespace Px
def mapR {α β : Type} (g : α → β) : R α → R β
 | .ok a j => .ok (g a) j
 | .fail j => .fail j
theorem bind_map {α β : Type} (p : P α) (g : α → β) (ts : List Kt) (i : Nat) : bind p (fun x => ret (g x)) ts i = mapR g (p ts i) := by
 unfold bind
 cases p ts i <;> rfl
end Px
theorem item_no1 {ts : List Px.Kt} {i : Nat} (h : itemNo (Px.tx ts i) = 1) : Px.item ts i = Px.mapR .lat (Px.lattice ts i) := by
 have e : Px.tx ts i = Px.sLattice := by
  unfold itemNo at h
  split at h
  ·assumption
  ·split at h
   ·cases h
   ·split at h <;> cases h
 unfold Px.item Px.itemOf
 rw [if_pos e, Px.bind_map]
theorem item_no2 {ts : List Px.Kt} {i : Nat} (h : itemNo (Px.tx ts i) = 2) : Px.item ts i = Px.mapR .fn (Px.function ts i) := by
 unfold itemNo at h
 split at h
 ·cases h
 ·split at h
  ·rename_i n1 e
   unfold Px.item Px.itemOf
   rw [if_neg n1, if_pos e, Px.bind_map]
  ·split at h <;> cases h
theorem item_no3 {ts : List Px.Kt} {i : Nat} (h : itemNo (Px.tx ts i) = 3) : Px.item ts i = Px.mapR .pr (Px.pred ts i) := by
 unfold itemNo at h
 split at h
 ·cases h
 ·split at h
  ·cases h
  ·split at h
   ·rename_i n1 n2 e
    unfold Px.item Px.itemOf
    rw [if_neg n1, if_neg n2, if_pos e, Px.bind_map]
   ·cases h
theorem item_no0 {ts : List Px.Kt} {i : Nat} (h : itemNo (Px.tx ts i) = 0) : Px.item ts i = Px.mapR .ru (Px.rule ts i) := by
 unfold itemNo at h
 split at h
 ·cases h
 ·split at h
  ·cases h
  ·split at h
   ·cases h
   ·rename_i n1 n2 n3
    unfold Px.item Px.itemOf
    rw [if_neg n1, if_neg n2, if_neg n3, Px.bind_map]
theorem itemNo_cases (s : List UInt8) : itemNo s = 1 ∨ itemNo s = 2 ∨ itemNo s = 3 ∨ itemNo s = 0 := by
 unfold itemNo
 split
 ·exact Or.inl rfl
 ·split
  ·exact Or.inr (Or.inl rfl)
  ·split
   ·exact Or.inr (Or.inr (Or.inl rfl))
   ·exact Or.inr (Or.inr (Or.inr rfl))
theorem FMap.obj {κ α : Type} {w w' : World} {P : Program} {k : TypeId} {R : Value → Option (DataW Unit × List MemPlace)} {val : κ → Value} {dat : α → DataW Unit} {b n : Nat} {f : κ → Option α} (h : FMap w P k R val dat b n f) (hk : ∀ es c, w.heap[b]? = some (.map es c) → w'.heap[b]? = some (.map es c)) : FMap w' P k R val dat b n f := by
 obtain ⟨D, ⟨es, clock, h1, h2⟩, r⟩ := h
 exact ⟨D, ⟨es, clock, hk _ _ h1, h2⟩, r⟩
theorem own_keptX {w w' : World} {B n size : Nat} {e : TypeId} {v : Value} {xs : List Value} (h : w.ownsRow B e size v n xs) (k : KeptX w w') (he : e ∉ [87, 77, 94, 73, 66]) : w'.ownsRow B e size v n xs :=
 own_keptT h fun g cur fr hh => k g _ hh fun e' he' cur' fr' hq => by
  injection hq with _ h2 _
  exact he (h2 ▸ he')
theorem items_look1 {w : World} {rb mb n : Nat} (h : IMap w rb mb n itemF) {s : List UInt8} (hf : FitS (bs s)) (hk : itemNo s = 1) : (Instr.lookup 84 (.map (some mb)) (.string (bs s)) true).run Tryd.prog w = .ok (.tuple #[.func (.func 51) #[.pointer (some ⟨rb, 0, none⟩)] #[], .bool true]) w := by
 have := h.look_ok str_enc (f_enc rb) Tryd.underlying84 (zero_func rb w) (bs s) hf
 rw [itemF_at, hk] at this
 exact this

theorem items_look2 {w : World} {rb mb n : Nat} (h : IMap w rb mb n itemF) {s : List UInt8} (hf : FitS (bs s)) (hk : itemNo s = 2) : (Instr.lookup 84 (.map (some mb)) (.string (bs s)) true).run Tryd.prog w = .ok (.tuple #[.func (.func 52) #[.pointer (some ⟨rb, 0, none⟩)] #[], .bool true]) w := by
 have := h.look_ok str_enc (f_enc rb) Tryd.underlying84 (zero_func rb w) (bs s) hf
 rw [itemF_at, hk] at this
 exact this

theorem items_look3 {w : World} {rb mb n : Nat} (h : IMap w rb mb n itemF) {s : List UInt8} (hf : FitS (bs s)) (hk : itemNo s = 3) : (Instr.lookup 84 (.map (some mb)) (.string (bs s)) true).run Tryd.prog w = .ok (.tuple #[.func (.func 53) #[.pointer (some ⟨rb, 0, none⟩)] #[], .bool true]) w := by
 have := h.look_ok str_enc (f_enc rb) Tryd.underlying84 (zero_func rb w) (bs s) hf
 rw [itemF_at, hk] at this
 exact this

theorem items_look0 {w : World} {rb mb n : Nat} (h : IMap w rb mb n itemF) {s : List UInt8} (hf : FitS (bs s)) (hk : itemNo s = 0) : (Instr.lookup 84 (.map (some mb)) (.string (bs s)) true).run Tryd.prog w = .ok (.tuple #[.nilFunc, .bool false]) w := by
 have := h.look_ok str_enc (f_enc rb) Tryd.underlying84 (zero_func rb w) (bs s) hf
 rw [itemF_at, hk] at this
 exact this
/-- A diagnostic's cells. -/
def dgFs (d : Int × Int) : List Value := [.int .i64 d.1, .int .i64 d.2]
def dgV (ts : List Lx.Tok) (sz j : Nat) : Int × Int := (if j < ts.length then 50 else 51, offI ts sz j)
def dgCells (ts : List Lx.Tok) (sz : Nat) (Js : List Nat) : List Value := Js.flatMap fun j => dgFs (dgV ts sz j)
theorem dgCells_snoc (ts : List Lx.Tok) (sz : Nat) (Js : List Nat) (k : Nat) : dgCells ts sz (Js ++ [k]) = dgCells ts sz Js ++ [.int .i64 (if k < ts.length then 50 else 51), .int .i64 (tokAt ts sz k).pos] := by
 simp [dgCells, dgFs, dgV, offI]
/-- Diagnostics in memory. -/
def DgR (w : World) (v : Value) (ds : List (Int × Int)) : Prop := TRow w 43 2 v ds.length (ds.flatMap dgFs)
def pg0 : Ap.Pg := ⟨[], [], [], []⟩
/-- What Parse returns. -/
def parseP (s : List UInt8) : Ap.Pg := if (Lx.lex s).2.1 = 0 then ((Px.parse (Px.kts (Lx.lex s).1)).1).foldl (Ap.Pg.add (offI (Lx.lex s).1 s.length)) pg0 else pg0
def parseD (s : List UInt8) : List (Int × Int) := if (Lx.lex s).2.1 = 0 then ((Px.parse (Px.kts (Lx.lex s).1)).2).map (dgV (Lx.lex s).1 s.length) else [(((Lx.lex s).2.1), ((Lx.lex s).2.2))]
def ParsePost (w : World) (s : List UInt8) (e : Ending) (w' : World) : Prop :=
 Below w.heap.size w w' ∧ ∃ (l f p r d : Value), e = .returned (.tuple #[.agg #[l, f, p, r], d]) ∧ PgR w' l f p r (parseP s) ∧ DgR w' d (parseD s)
/-- No list is longer than the tokens that were read. -/
def Sized (P : Ap.Pg) (j : Nat) : Prop := P.lats.length ≤ j ∧ P.funs.length ≤ j ∧ P.preds.length ≤ j ∧ P.rules.length ≤ j
theorem sized_mono {P : Ap.Pg} {i j : Nat} (h : Sized P i) (hij : i ≤ j) : Sized P j := ⟨by have := h.1; omega, by have := h.2.1; omega, by have := h.2.2.1; omega, by have := h.2.2.2; omega⟩
theorem sized_add {P : Ap.Pg} {i j : Nat} {f : Nat → Int} (h : Sized P i) (x : Px.It) (hij : i < j) : Sized (P.add f x) j := by
 obtain ⟨h1, h2, h3, h4⟩ := h
 cases x <;> simp [Sized, Ap.Pg.add] <;> omega
theorem TPost.map {α β : Type} {w w' : World} {rb : Nat} {TA : Option Addr} {tc : Nat} {ts : List Lx.Tok} {sz B : Nat} {P : Ap.Pg} {add : Ap.Pg → α → Ap.Pg} {add' : Ap.Pg → β → Ap.Pg} {r : Px.R α} {e : Ending} (h : TPost w rb TA tc ts sz B P add r e w') (g : α → β) (hg : ∀ P x, add P x = add' P (g x)) : TPost w rb TA tc ts sz B P add' (Px.mapR g r) e w' := by
 cases r with
 | ok x j =>
  obtain ⟨h1, h2, h3, o', h4, h5⟩ := h
  exact ⟨h1, h2, h3, o', h4, by rw [← hg]; exact h5⟩
 | fail j => exact h
section
variable {w : World} {rb : Nat} {TA : Option Addr} {tc : Nat} {ts : List Lx.Tok} {sz i : Nat} {o : Outs}
theorem try_item1 {B : Nat} {P : Ap.Pg} (h : Rd w rb TA tc ts sz i o) (ho : Outw w B o P) (hB : rb < B) (hBs : B ≤ w.heap.size) (hP : P.lats.length ≤ 100000 ∧ P.funs.length ≤ 100000 ∧ P.preds.length ≤ 100000 ∧ P.rules.length ≤ 100000) (hlt : i < ts.length) (hk : itemNo (Px.tx (Px.kts ts) i) = 1) : Calls Tryd.prog 31 #[.pointer (some ⟨rb, 0, none⟩), .func (.func 51) #[.pointer (some ⟨rb, 0, none⟩)] #[]] w (TPost w rb TA tc ts sz B P (Ap.Pg.add (offI ts sz)) (Px.item (Px.kts ts) i)) := by
 rw [item_no1 hk]
 exact (try_lattice h ho hB hBs hP.1 hlt).mono fun e w' h => h.map Px.It.lat (fun P x => rfl)

theorem try_item2 {B : Nat} {P : Ap.Pg} (h : Rd w rb TA tc ts sz i o) (ho : Outw w B o P) (hB : rb < B) (hBs : B ≤ w.heap.size) (hP : P.lats.length ≤ 100000 ∧ P.funs.length ≤ 100000 ∧ P.preds.length ≤ 100000 ∧ P.rules.length ≤ 100000) (hlt : i < ts.length) (hk : itemNo (Px.tx (Px.kts ts) i) = 2) : Calls Tryd.prog 31 #[.pointer (some ⟨rb, 0, none⟩), .func (.func 52) #[.pointer (some ⟨rb, 0, none⟩)] #[]] w (TPost w rb TA tc ts sz B P (Ap.Pg.add (offI ts sz)) (Px.item (Px.kts ts) i)) := by
 rw [item_no2 hk]
 exact (try_function h ho hB hBs hP.2.1 hlt).mono fun e w' h => h.map Px.It.fn (fun P x => rfl)

theorem try_item3 {B : Nat} {P : Ap.Pg} (h : Rd w rb TA tc ts sz i o) (ho : Outw w B o P) (hB : rb < B) (hBs : B ≤ w.heap.size) (hP : P.lats.length ≤ 100000 ∧ P.funs.length ≤ 100000 ∧ P.preds.length ≤ 100000 ∧ P.rules.length ≤ 100000) (hlt : i < ts.length) (hk : itemNo (Px.tx (Px.kts ts) i) = 3) : Calls Tryd.prog 31 #[.pointer (some ⟨rb, 0, none⟩), .func (.func 53) #[.pointer (some ⟨rb, 0, none⟩)] #[]] w (TPost w rb TA tc ts sz B P (Ap.Pg.add (offI ts sz)) (Px.item (Px.kts ts) i)) := by
 rw [item_no3 hk]
 exact (try_pred h ho hB hBs hP.2.2.1 hlt).mono fun e w' h => h.map Px.It.pr (fun P x => rfl)

theorem try_item0 {B : Nat} {P : Ap.Pg} (h : Rd w rb TA tc ts sz i o) (ho : Outw w B o P) (hB : rb < B) (hBs : B ≤ w.heap.size) (hP : P.lats.length ≤ 100000 ∧ P.funs.length ≤ 100000 ∧ P.preds.length ≤ 100000 ∧ P.rules.length ≤ 100000) (hlt : i < ts.length) (hk : itemNo (Px.tx (Px.kts ts) i) = 0) : Calls Tryd.prog 31 #[.pointer (some ⟨rb, 0, none⟩), .func (.func 30) #[.pointer (some ⟨rb, 0, none⟩)] #[]] w (TPost w rb TA tc ts sz B P (Ap.Pg.add (offI ts sz)) (Px.item (Px.kts ts) i)) := by
 rw [item_no0 hk]
 exact (try_rule h ho hB hBs hP.2.2.2).mono fun e w' h => h.map Px.It.ru (fun P x => rfl)
end
theorem parseP_ok {s : List UInt8} {ts : List Lx.Tok} {p : Int} (h : Lx.lex s = (ts, 0, p)) : parseP s = ((Px.run Px.fuel 0 (Px.kts ts) 0).1).foldl (Ap.Pg.add (offI ts s.length)) pg0 := by
 unfold parseP Px.parse
 rw [h]
 rfl
theorem parseD_ok {s : List UInt8} {ts : List Lx.Tok} {p : Int} (h : Lx.lex s = (ts, 0, p)) : parseD s = ((Px.run Px.fuel 0 (Px.kts ts) 0).2).map (dgV ts s.length) := by
 unfold parseD Px.parse
 rw [h]
 rfl
theorem dg_of_cells (w : World) (v : Value) (ts : List Lx.Tok) (sz : Nat) (Js : List Nat) : DgR w v (Js.map (dgV ts sz)) = (TRow w 43 2 v (Js.map (dgV ts sz)).length (dgCells ts sz Js)) := by
 unfold DgR dgCells
 rw [List.flatMap_map]
theorem diag_info : (Tryd.prog.info? 43).map (fun i => (i.zero, i.size, i.bytes)) = some (some (.agg #[.int .i64 0, .int .i64 0]), 2, 16) := by kernel_rfl
theorem open_ok (s : ByteArray) (w : World) (B : Nat) (hy : Syms w) (htb : Tb B w) (hB : B ≤ w.heap.size) (hs : s.size ≤ 1000000) {ts : List Lx.Tok} {p : Int} (h : Lx.lex s.data.toList = (ts, 0, p)) {sz : Nat} (hsz : s.size = sz) : Calls Tryd.prog 27 #[.string s] w fun e w' => Below w.heap.size w w' ∧ ∃ (rb : Nat) (TA : Option Addr) (tc : Nat), e = .returned (.tuple #[.pointer (some ⟨rb, 0, none⟩), .slice none 0 0]) ∧ w.heap.size ≤ rb ∧ Rd w' rb TA tc ts sz 0 o0 := by
 subst hsz
 refine (open_any s w B hy htb hB hs).mono fun e w' h2 => ?_
 unfold OpenPost at h2
 rw [h] at h2
 dsimp only at h2
 rw [if_pos rfl] at h2
 exact h2
theorem open_bad (s : ByteArray) (w : World) (B : Nat) (hy : Syms w) (htb : Tb B w) (hB : B ≤ w.heap.size) (hs : s.size ≤ 1000000) {ts : List Lx.Tok} {er p : Int} (h : Lx.lex s.data.toList = (ts, er, p)) (he : er ≠ 0) : Calls Tryd.prog 27 #[.string s] w fun e w' => Below w.heap.size w w' ∧ ∃ g : Nat, e = .returned (.tuple #[.pointer none, .slice (some ⟨g, 0, none⟩) 1 1]) ∧ w.heap.size ≤ g ∧ At w' g 43 #[.int .i64 er, .int .i64 p] := by
 refine (open_any s w B hy htb hB hs).mono fun e w' h2 => ?_
 unfold OpenPost at h2
 rw [h] at h2
 dsimp only at h2
 rw [if_neg he] at h2
 exact h2
theorem pg0_at (w : World) : PgR w (.slice none 0 0) (.slice none 0 0) (.slice none 0 0) (.slice none 0 0) pg0 := (outw0 w 0).pg
theorem dg_one {w : World} {g : Nat} {a b : Int} (h : At w g 43 #[.int .i64 a, .int .i64 b]) : DgR w (.slice (some ⟨g, 0, none⟩) 1 1) [(a, b)] :=
 ⟨rfl, _, _, rfl, Nat.le_refl _, by unfold maxLen; omega, (fun h => by cases h), Or.inr ⟨g, 0, _, _, rfl, h, fun j u hj => by
  rw [Nat.zero_add]
  simpa [dgFs] using hj⟩⟩
theorem run_stop {f nd : Nat} {ts : List Px.Kt} {i : Nat} (h : ¬(i < ts.length ∧ nd < 20)) : Px.run f nd ts i = ([], []) := by
 cases f with
 | zero => rfl
 | succ f => unfold Px.run; rw [if_neg h]
theorem run_step {f nd : Nat} {ts : List Px.Kt} {i : Nat} (h : i < ts.length ∧ nd < 20) : Px.run (f + 1) nd ts i = match Px.item ts i with
      | .ok x j => (x :: (Px.run f nd ts j).1, (Px.run f nd ts j).2)
      | .fail j => ((Px.run f (nd + 1) ts (Px.skip Px.fuel ts j)).1, j :: (Px.run f (nd + 1) ts (Px.skip Px.fuel ts j)).2) := by
 show (if _ then _ else _) = _
 rw [if_pos h]
 cases Px.item ts i <;> rfl
/-- What is still to come: the program and the wrong tokens at the end. -/
def ToGo (off : Nat → Int) (f : Nat) (Js : List Nat) (ts : List Px.Kt) (j : Nat) (P PF : Ap.Pg) (JF : List Nat) : Prop := ((Px.run f Js.length ts j).1).foldl (Ap.Pg.add off) P = PF ∧ Js ++ (Px.run f Js.length ts j).2 = JF
theorem ToGo.go {off : Nat → Int} {f : Nat} {Js : List Nat} {ts : List Px.Kt} {j : Nat} {P PF : Ap.Pg} {JF : List Nat} (h : ToGo off (f + 1) Js ts j P PF JF) (hj : j < ts.length ∧ Js.length < 20) : match Px.item ts j with
      | .ok x k => ToGo off f Js ts k (P.add off x) PF JF
      | .fail k => ToGo off f (Js ++ [k]) ts (Px.skip Px.fuel ts k) P PF JF := by
 unfold ToGo at h
 rw [run_step hj] at h
 cases hi : Px.item ts j with
 | ok x k => rw [hi] at h; exact h
 | fail k =>
  rw [hi] at h
  refine ⟨by rw [List.length_append]; exact h.1, ?_⟩
  rw [List.length_append, List.append_assoc]
  exact h.2
theorem ToGo.done {off : Nat → Int} {f : Nat} {Js : List Nat} {ts : List Px.Kt} {j : Nat} {P PF : Ap.Pg} {JF : List Nat} (h : ToGo off f Js ts j P PF JF) (hj : ¬(j < ts.length ∧ Js.length < 20)) : P = PF ∧ Js = JF := by
 unfold ToGo at h
 rw [run_stop hj] at h
 simpa using h
set_option maxHeartbeats 8000000 in
set_option maxRecDepth 100000 in
theorem parse_any (s : ByteArray) (w : World) (B : Nat) (hy : Syms w) (htb : Tb B w) (hB : B ≤ w.heap.size) (hs : s.size ≤ 1000000) : Calls Tryd.prog 11 #[.string s] w (ParsePost w s.data.toList) := by
 obtain ⟨⟨ts, er, po⟩, hL⟩ : ∃ L, Lx.lex s.data.toList = L := ⟨_, rfl⟩
 have hb1 := below1 w (.cells #[.slice none 0 0, .slice none 0 0, .slice none 0 0, .slice none 0 0] 34)
 have hrc1 := At.new w 34 #[.slice none 0 0, .slice none 0 0, .slice none 0 0, .slice none 0 0]
 have hy1 := hy.below hb1 hy.lt
 have htb1 := htb.below (hb1.mono hB)
 have hB1 := Nat.le_trans hB hb1.size
 have HLX := Lib.hid hL
 by_cases h0 : er = 0
 ·subst h0
  obtain ⟨sz, hsq⟩ : ∃ sz, s.size = sz := ⟨_, rfl⟩
  have HC := Lib.hid (open_ok s _ B hy1 htb1 hB1 hs hL hsq)
  obtain ⟨iD, hi0, hi1, hi2, hi3⟩ := info_parts diag_info
  have HB1 := Lib.hid hb1
  clear hL hy1 htb1 hB1 hb1 hy htb hB
  obtain ⟨PF, hPF⟩ : ∃ PF, ((Px.run Px.fuel 0 (Px.kts ts) 0).1).foldl (Ap.Pg.add (offI ts sz)) pg0 = PF := ⟨_, rfl⟩
  obtain ⟨JF, hJF⟩ : ∃ JF, (Px.run Px.fuel 0 (Px.kts ts) 0).2 = JF := ⟨_, rfl⟩
  have HT0 := Lib.hid (show ToGo (offI ts sz) Px.fuel [] (Px.kts ts) 0 pg0 PF JF from ⟨hPF, hJF⟩)
  have HF := Lib.hid (show parseP s.data.toList = PF ∧ parseD s.data.toList = JF.map (dgV ts sz) from ⟨by rw [parseP_ok HLX.out, size_len, hsq]; exact hPF, by rw [parseD_ok HLX.out, size_len, hsq, hJF]⟩)
  clear hPF hJF hsq
  go_enter Tryd.func11, Tryd.ntmps11
  go_wp2_with first
   | (go_at_call 28; refine (items_any rb w2).mono ?_; rintro e w3 ⟨⟨mb, rfl, hmb, hmp⟩, hb3⟩)
   | (go_at_call 27; refine (HC.out).mono ?_; rintro e w2 ⟨hb2, rb, TA, tc, rfl, hrb, hr2⟩; clear HC)
  have hrc3 := (hrc1.next hb2).next hb3
  have hr3 := hr2.next hb3
  have hbw3 := (HB1.out.trans (hb2.mono HB1.out.size)).trans (hb3.mono (Nat.le_trans HB1.out.size hb2.size))
  have HRB := Lib.hid (show w.heap.size ≤ rb from Nat.le_trans HB1.out.size hrb)
  have HNE := Lib.hid (show w.heap.size ≠ rb by have := hrc1.lt; omega)
  clear hrb
  go_loopw [5, 7, 8, 9] (fun dg _ _ _ wr => ∃ (f j : Nat) (P : Ap.Pg) (Js : List Nat) (dA : Option Addr) (dC : Nat) (o1 : Outs), dg = .slice dA Js.length dC ∧ wr.ownsRow (rb + 1) 43 2 (.slice dA Js.length dC) Js.length (dgCells ts sz Js) ∧ Js.length ≤ 20 ∧ Hid (ToGo (offI ts sz) f Js (Px.kts ts) j P PF JF) ∧ Sized P j ∧ ts.length + 1 ≤ f + j ∧ Rd wr rb TA tc ts sz j o1 ∧ Outw wr (rb + 1) o1 P ∧ IMap wr rb mb 4 itemF ∧ At wr w.heap.size 34 #[.slice none 0 0, .slice none 0 0, .slice none 0 0, .slice none 0 0] ∧ Below w.heap.size w wr) (fun _ _ _ _ wr => ts.length - rdAt rb wr)
  case atStart => exact ⟨Px.fuel, 0, pg0, [], none, 0, o0, rfl, World.ownsRow_nil _ _ _ _, by simp, HT0, ⟨by simp [pg0], by simp [pg0], by simp [pg0], by simp [pg0]⟩, (by have := hr3.few; unfold Px.fuel; omega), hr3, outw0 _ _, hmp, hrc3, hbw3⟩
  case round =>
   clear hrc3 hr3 hbw3 hmp hb3 hb2 hr2 hrc1 HT0 HB1
   obtain ⟨f, j, P, Js, dA, dC, o1, rfl, hdg, hJs, HTG, hsz, hfj, hr, how, hmp, hrc, hbw⟩ := hrel
   have HSZ := Lib.hid hsz
   have HFJ := Lib.hid hfj
   have hrd := Lib.hid (rdAt_rd hr)
   have hfew := hr.few
   have HPS := Lib.hid (show P.lats.length ≤ 100000 ∧ P.funs.length ≤ 100000 ∧ P.preds.length ≤ 100000 ∧ P.rules.length ≤ 100000 from ⟨by have := hsz.1; omega, by have := hsz.2.1; omega, by have := hsz.2.2.1; omega, by have := hsz.2.2.2; omega⟩)
   have f0 : ∀ z : Held wr.heap.size wr, z.w.cell? ⟨rb, 0, none⟩ = some (.slice TA ts.length tc) := fun z => z.cell hr.box.lt hr.cells.1
   have f1 : ∀ z : Held wr.heap.size wr, z.w.cell? ⟨rb, 1, none⟩ = some (.int .i64 j) := fun z => z.cell hr.box.lt hr.cells.2.1
   clear hsz hfj
   by_cases hgo : j < ts.length ∧ Js.length < 20
   ·have d1 : decide ((j : Int) < (ts.length : Int)) = true := decide_eq_true (by omega)
    have n1 : decide (j < ts.length) = true := decide_eq_true hgo.1
    have d2 : decide ((Js.length : Int) < 20) = true := decide_eq_true (by omega)
    have n2 : decide (Js.length < 20) = true := decide_eq_true hgo.2
    obtain ⟨f, rfl⟩ : ∃ f2, f = f2 + 1 := ⟨f - 1, by have := HFJ.out; omega⟩
    have hrun := HTG.out.go ⟨by rw [kts_len]; exact hgo.1, hgo.2⟩
    have HLT := Lib.hid hgo.1
    have hjs : Js.length < 20 := hgo.2
    have ff := fun W => field_tok1 (tokAt ts sz j).kind 0 (tokAt ts sz j).pos (bs (tokAt ts sz j).text) W
    clear HTG hgo
    rcases itemNo_cases (Px.tx (Px.kts ts) j) with HNO | HNO | HNO | HNO
    ·skip
     have HTY := Lib.hid (fun W (hb : Below wr.heap.size wr W) => try_item1 (hr.next hb) (how.kept (KeptAll.below hb)) (Nat.lt_succ_self rb) (Nat.le_trans (show rb + 1 ≤ wr.heap.size from hr.box.lt) hb.size) HPS.out HLT.out HNO)
     have HLK := Lib.hid (fun W (hb : Below wr.heap.size wr W) => items_look1 (hmp.next hb) (fit_at hr j) (by rw [← tx_at ts sz]; exact HNO))
     clear HNO
     go_wp2_with fail
     refine wp_region_held wr.heap.size wr (Below.refl _ _) (by kernel_rfl) (by kernel_rfl) ?_
     repeat (go_big_quiet_step (fail))
     refine wpQuiet_nil ?_
     rintro wt ⟨⟨_, bt⟩, rfl⟩
     have HPK2 := Lib.hid (peek0_any (hr.next bt))
     clear f0 f1
     cases hit : Px.item (Px.kts ts) j with
     | ok x k =>
      rw [hit] at HTY hrun
      dsimp only at hrun
      have HRUN := Lib.hid hrun
      have HJK := Lib.hid (Px.item_ok hit)
      clear hrun hit
      go_wp2_with first
       | (go_at_call 31; refine (HTY.out _ hb3).mono ?_; rintro e w4 ⟨rfl, hb4, hk4, o4, hr4, ho4⟩; clear HTY HLK)
       | (go_at_call 29; refine (HPK2.out).mono ?_; rintro e w3 ⟨rfl, hb3⟩; have hb3 := bt.trans (hb3.mono bt.size); have fL := HLK.out _ hb3; clear HPK2)
      have hkx := (KeptX.below hb3).trans hk4
      have hbl4 := (hb3.mono (Nat.le_of_lt hr.box.lt)).trans hb4
      go_roundw
      case rel => exact ⟨f, k, P.add (offI ts sz) x, Js, dA, dC, o4, rfl, own_keptX hdg hkx (by decide), hJs, HRUN, sized_add HSZ.out x HJK.out, by have := HFJ.out; have := HJK.out; omega, hr4, ho4, hmp.obj (fun es c hh => hkx mb _ hh (fun _ _ _ _ hq => by cases hq)), hrc.keptX hkx (by decide), hbw.trans (hbl4.mono HRB.out)⟩
      case measure => rw [hrd.out, rdAt_rd hr4]; have := hr4.few.2.2; have := HJK.out; omega
     | fail k =>
      rw [hit] at HTY hrun
      dsimp only at hrun
      have HRUN := Lib.hid hrun
      have HJK := Lib.hid (Px.fail_on (by rw [kts_len]; exact HLT.out) hit)
      obtain ⟨er, her⟩ : ∃ er : Int, (if k < ts.length then (50 : Int) else 51) = er := ⟨_, rfl⟩
      have HER := Lib.hid her
      clear hrun hit her
      go_wp2_with first
       | (at_builtin; refine wpList_append_own _ rfl _ _ 35 rfl (rb + 1) 43 iD (.agg #[.int .i64 0, .int .i64 0]) 2 16 Tryd.underlying35 hi0 hi1 hi2 hi3 rfl (by decide) _ _ _ rfl hdg4 ⟨g4, 0, none⟩ 1 1 [.int .i64 er, .int .i64 (tokAt ts sz k).pos] rfl rfl ?c1 ?c2 ?c3 ?c4 ?c5 ?_)
       | (go_at_call 31; refine (HTY.out _ hb3).mono ?_; rintro e w4 ⟨⟨g4, rfl, hg4⟩, hb4, hk4, o4, hr4, ho4⟩; rw [HER.out] at hg4; have hkx := (KeptX.below hb3).trans hk4; have hdg4 := own_keptX hdg hkx (by decide); clear HTY HLK)
       | (go_at_call 29; refine (HPK2.out).mono ?_; rintro e w3 ⟨rfl, hb3⟩; have hb3 := bt.trans (hb3.mono bt.size); have fL := HLK.out _ hb3; clear HPK2)
      case c1 => exact At.news hg4
      case c2 => intro u hu; simp at hu; rcases hu with rfl | rfl <;> rfl
      case c3 => unfold maxLen; omega
      case c4 => omega
      case c5 => exact hr4.box.lt
      intro v5 w5 o5 g5 _
      obtain ⟨nA, nC, rfl⟩ := own_len o5
      have hbl4 := (hb3.mono (Nat.le_of_lt hr.box.lt)).trans hb4
      have hat5 := hr4.box.grown g5 (own_far hdg4 hr4.box (by decide))
      have hbl5 : Below rb w4 w5 := below_grown hdg4 g5 (Nat.le_of_lt hr4.box.lt) (Nat.le_succ rb)
      have hr5 := hr4.turn hbl5 hat5 hr4.few.2.2
      have ho5 := ho4.kept (w' := w5) (fun e he => Kept.grown hdg4 g5 (by simp at he; rcases he with rfl | rfl | rfl | rfl | rfl | rfl | rfl | rfl | rfl <;> decide))
      have hrc5 := (hrc.keptX hkx (by decide)).grown g5 (own_far hdg4 (hrc.keptX hkx (by decide)) (by decide))
      have hmp5 : IMap w5 rb mb 4 itemF := (hmp.obj (fun es c hh => hkx mb _ hh (fun _ _ _ _ hq => by cases hq))).obj (fun es c hh => keep_grown hdg4 g5 hh (fun _ _ hq => by cases hq))
      have HSK := Lib.hid (skip_any hr5)
      go_wp2_with (go_at_call 32; refine (HSK.out).mono ?_; rintro e w6 ⟨rfl, hm6, hr6⟩; clear HSK)
      go_roundw
      case rel => exact ⟨f, _, P, Js ++ [k], nA, nC, o4, by rw [List.length_append]; rfl, (by rw [List.length_append, dgCells_snoc, HER.out]; exact own_mv (Nat.lt_succ_self rb) o5 hm6), by rw [List.length_append]; simp; omega, HRUN, sized_mono HSZ.out (Nat.le_of_lt HJK.out), by have := HFJ.out; have := HJK.out; omega, hr6, ho5.mv (Nat.lt_succ_self rb) hr5.box hm6, hmp5.obj (fun es c hh => keep_mv hr5.box hm6 hh (fun _ _ hq => by cases hq)), hm6.at hrc5 HNE.out, ((hbw.trans (hbl4.mono HRB.out)).trans (hbl5.mono HRB.out)).trans ((hm6.belowR hr5.box.lt).mono HRB.out)⟩
      case measure => rw [hrd.out, rdAt_rd hr6]; have := hr6.few.2.2; have := HJK.out; omega
    ·skip
     have HTY := Lib.hid (fun W (hb : Below wr.heap.size wr W) => try_item2 (hr.next hb) (how.kept (KeptAll.below hb)) (Nat.lt_succ_self rb) (Nat.le_trans (show rb + 1 ≤ wr.heap.size from hr.box.lt) hb.size) HPS.out HLT.out HNO)
     have HLK := Lib.hid (fun W (hb : Below wr.heap.size wr W) => items_look2 (hmp.next hb) (fit_at hr j) (by rw [← tx_at ts sz]; exact HNO))
     clear HNO
     go_wp2_with fail
     refine wp_region_held wr.heap.size wr (Below.refl _ _) (by kernel_rfl) (by kernel_rfl) ?_
     repeat (go_big_quiet_step (fail))
     refine wpQuiet_nil ?_
     rintro wt ⟨⟨_, bt⟩, rfl⟩
     have HPK2 := Lib.hid (peek0_any (hr.next bt))
     clear f0 f1
     cases hit : Px.item (Px.kts ts) j with
     | ok x k =>
      rw [hit] at HTY hrun
      dsimp only at hrun
      have HRUN := Lib.hid hrun
      have HJK := Lib.hid (Px.item_ok hit)
      clear hrun hit
      go_wp2_with first
       | (go_at_call 31; refine (HTY.out _ hb3).mono ?_; rintro e w4 ⟨rfl, hb4, hk4, o4, hr4, ho4⟩; clear HTY HLK)
       | (go_at_call 29; refine (HPK2.out).mono ?_; rintro e w3 ⟨rfl, hb3⟩; have hb3 := bt.trans (hb3.mono bt.size); have fL := HLK.out _ hb3; clear HPK2)
      have hkx := (KeptX.below hb3).trans hk4
      have hbl4 := (hb3.mono (Nat.le_of_lt hr.box.lt)).trans hb4
      go_roundw
      case rel => exact ⟨f, k, P.add (offI ts sz) x, Js, dA, dC, o4, rfl, own_keptX hdg hkx (by decide), hJs, HRUN, sized_add HSZ.out x HJK.out, by have := HFJ.out; have := HJK.out; omega, hr4, ho4, hmp.obj (fun es c hh => hkx mb _ hh (fun _ _ _ _ hq => by cases hq)), hrc.keptX hkx (by decide), hbw.trans (hbl4.mono HRB.out)⟩
      case measure => rw [hrd.out, rdAt_rd hr4]; have := hr4.few.2.2; have := HJK.out; omega
     | fail k =>
      rw [hit] at HTY hrun
      dsimp only at hrun
      have HRUN := Lib.hid hrun
      have HJK := Lib.hid (Px.fail_on (by rw [kts_len]; exact HLT.out) hit)
      obtain ⟨er, her⟩ : ∃ er : Int, (if k < ts.length then (50 : Int) else 51) = er := ⟨_, rfl⟩
      have HER := Lib.hid her
      clear hrun hit her
      go_wp2_with first
       | (at_builtin; refine wpList_append_own _ rfl _ _ 35 rfl (rb + 1) 43 iD (.agg #[.int .i64 0, .int .i64 0]) 2 16 Tryd.underlying35 hi0 hi1 hi2 hi3 rfl (by decide) _ _ _ rfl hdg4 ⟨g4, 0, none⟩ 1 1 [.int .i64 er, .int .i64 (tokAt ts sz k).pos] rfl rfl ?c1 ?c2 ?c3 ?c4 ?c5 ?_)
       | (go_at_call 31; refine (HTY.out _ hb3).mono ?_; rintro e w4 ⟨⟨g4, rfl, hg4⟩, hb4, hk4, o4, hr4, ho4⟩; rw [HER.out] at hg4; have hkx := (KeptX.below hb3).trans hk4; have hdg4 := own_keptX hdg hkx (by decide); clear HTY HLK)
       | (go_at_call 29; refine (HPK2.out).mono ?_; rintro e w3 ⟨rfl, hb3⟩; have hb3 := bt.trans (hb3.mono bt.size); have fL := HLK.out _ hb3; clear HPK2)
      case c1 => exact At.news hg4
      case c2 => intro u hu; simp at hu; rcases hu with rfl | rfl <;> rfl
      case c3 => unfold maxLen; omega
      case c4 => omega
      case c5 => exact hr4.box.lt
      intro v5 w5 o5 g5 _
      obtain ⟨nA, nC, rfl⟩ := own_len o5
      have hbl4 := (hb3.mono (Nat.le_of_lt hr.box.lt)).trans hb4
      have hat5 := hr4.box.grown g5 (own_far hdg4 hr4.box (by decide))
      have hbl5 : Below rb w4 w5 := below_grown hdg4 g5 (Nat.le_of_lt hr4.box.lt) (Nat.le_succ rb)
      have hr5 := hr4.turn hbl5 hat5 hr4.few.2.2
      have ho5 := ho4.kept (w' := w5) (fun e he => Kept.grown hdg4 g5 (by simp at he; rcases he with rfl | rfl | rfl | rfl | rfl | rfl | rfl | rfl | rfl <;> decide))
      have hrc5 := (hrc.keptX hkx (by decide)).grown g5 (own_far hdg4 (hrc.keptX hkx (by decide)) (by decide))
      have hmp5 : IMap w5 rb mb 4 itemF := (hmp.obj (fun es c hh => hkx mb _ hh (fun _ _ _ _ hq => by cases hq))).obj (fun es c hh => keep_grown hdg4 g5 hh (fun _ _ hq => by cases hq))
      have HSK := Lib.hid (skip_any hr5)
      go_wp2_with (go_at_call 32; refine (HSK.out).mono ?_; rintro e w6 ⟨rfl, hm6, hr6⟩; clear HSK)
      go_roundw
      case rel => exact ⟨f, _, P, Js ++ [k], nA, nC, o4, by rw [List.length_append]; rfl, (by rw [List.length_append, dgCells_snoc, HER.out]; exact own_mv (Nat.lt_succ_self rb) o5 hm6), by rw [List.length_append]; simp; omega, HRUN, sized_mono HSZ.out (Nat.le_of_lt HJK.out), by have := HFJ.out; have := HJK.out; omega, hr6, ho5.mv (Nat.lt_succ_self rb) hr5.box hm6, hmp5.obj (fun es c hh => keep_mv hr5.box hm6 hh (fun _ _ hq => by cases hq)), hm6.at hrc5 HNE.out, ((hbw.trans (hbl4.mono HRB.out)).trans (hbl5.mono HRB.out)).trans ((hm6.belowR hr5.box.lt).mono HRB.out)⟩
      case measure => rw [hrd.out, rdAt_rd hr6]; have := hr6.few.2.2; have := HJK.out; omega
    ·skip
     have HTY := Lib.hid (fun W (hb : Below wr.heap.size wr W) => try_item3 (hr.next hb) (how.kept (KeptAll.below hb)) (Nat.lt_succ_self rb) (Nat.le_trans (show rb + 1 ≤ wr.heap.size from hr.box.lt) hb.size) HPS.out HLT.out HNO)
     have HLK := Lib.hid (fun W (hb : Below wr.heap.size wr W) => items_look3 (hmp.next hb) (fit_at hr j) (by rw [← tx_at ts sz]; exact HNO))
     clear HNO
     go_wp2_with fail
     refine wp_region_held wr.heap.size wr (Below.refl _ _) (by kernel_rfl) (by kernel_rfl) ?_
     repeat (go_big_quiet_step (fail))
     refine wpQuiet_nil ?_
     rintro wt ⟨⟨_, bt⟩, rfl⟩
     have HPK2 := Lib.hid (peek0_any (hr.next bt))
     clear f0 f1
     cases hit : Px.item (Px.kts ts) j with
     | ok x k =>
      rw [hit] at HTY hrun
      dsimp only at hrun
      have HRUN := Lib.hid hrun
      have HJK := Lib.hid (Px.item_ok hit)
      clear hrun hit
      go_wp2_with first
       | (go_at_call 31; refine (HTY.out _ hb3).mono ?_; rintro e w4 ⟨rfl, hb4, hk4, o4, hr4, ho4⟩; clear HTY HLK)
       | (go_at_call 29; refine (HPK2.out).mono ?_; rintro e w3 ⟨rfl, hb3⟩; have hb3 := bt.trans (hb3.mono bt.size); have fL := HLK.out _ hb3; clear HPK2)
      have hkx := (KeptX.below hb3).trans hk4
      have hbl4 := (hb3.mono (Nat.le_of_lt hr.box.lt)).trans hb4
      go_roundw
      case rel => exact ⟨f, k, P.add (offI ts sz) x, Js, dA, dC, o4, rfl, own_keptX hdg hkx (by decide), hJs, HRUN, sized_add HSZ.out x HJK.out, by have := HFJ.out; have := HJK.out; omega, hr4, ho4, hmp.obj (fun es c hh => hkx mb _ hh (fun _ _ _ _ hq => by cases hq)), hrc.keptX hkx (by decide), hbw.trans (hbl4.mono HRB.out)⟩
      case measure => rw [hrd.out, rdAt_rd hr4]; have := hr4.few.2.2; have := HJK.out; omega
     | fail k =>
      rw [hit] at HTY hrun
      dsimp only at hrun
      have HRUN := Lib.hid hrun
      have HJK := Lib.hid (Px.fail_on (by rw [kts_len]; exact HLT.out) hit)
      obtain ⟨er, her⟩ : ∃ er : Int, (if k < ts.length then (50 : Int) else 51) = er := ⟨_, rfl⟩
      have HER := Lib.hid her
      clear hrun hit her
      go_wp2_with first
       | (at_builtin; refine wpList_append_own _ rfl _ _ 35 rfl (rb + 1) 43 iD (.agg #[.int .i64 0, .int .i64 0]) 2 16 Tryd.underlying35 hi0 hi1 hi2 hi3 rfl (by decide) _ _ _ rfl hdg4 ⟨g4, 0, none⟩ 1 1 [.int .i64 er, .int .i64 (tokAt ts sz k).pos] rfl rfl ?c1 ?c2 ?c3 ?c4 ?c5 ?_)
       | (go_at_call 31; refine (HTY.out _ hb3).mono ?_; rintro e w4 ⟨⟨g4, rfl, hg4⟩, hb4, hk4, o4, hr4, ho4⟩; rw [HER.out] at hg4; have hkx := (KeptX.below hb3).trans hk4; have hdg4 := own_keptX hdg hkx (by decide); clear HTY HLK)
       | (go_at_call 29; refine (HPK2.out).mono ?_; rintro e w3 ⟨rfl, hb3⟩; have hb3 := bt.trans (hb3.mono bt.size); have fL := HLK.out _ hb3; clear HPK2)
      case c1 => exact At.news hg4
      case c2 => intro u hu; simp at hu; rcases hu with rfl | rfl <;> rfl
      case c3 => unfold maxLen; omega
      case c4 => omega
      case c5 => exact hr4.box.lt
      intro v5 w5 o5 g5 _
      obtain ⟨nA, nC, rfl⟩ := own_len o5
      have hbl4 := (hb3.mono (Nat.le_of_lt hr.box.lt)).trans hb4
      have hat5 := hr4.box.grown g5 (own_far hdg4 hr4.box (by decide))
      have hbl5 : Below rb w4 w5 := below_grown hdg4 g5 (Nat.le_of_lt hr4.box.lt) (Nat.le_succ rb)
      have hr5 := hr4.turn hbl5 hat5 hr4.few.2.2
      have ho5 := ho4.kept (w' := w5) (fun e he => Kept.grown hdg4 g5 (by simp at he; rcases he with rfl | rfl | rfl | rfl | rfl | rfl | rfl | rfl | rfl <;> decide))
      have hrc5 := (hrc.keptX hkx (by decide)).grown g5 (own_far hdg4 (hrc.keptX hkx (by decide)) (by decide))
      have hmp5 : IMap w5 rb mb 4 itemF := (hmp.obj (fun es c hh => hkx mb _ hh (fun _ _ _ _ hq => by cases hq))).obj (fun es c hh => keep_grown hdg4 g5 hh (fun _ _ hq => by cases hq))
      have HSK := Lib.hid (skip_any hr5)
      go_wp2_with (go_at_call 32; refine (HSK.out).mono ?_; rintro e w6 ⟨rfl, hm6, hr6⟩; clear HSK)
      go_roundw
      case rel => exact ⟨f, _, P, Js ++ [k], nA, nC, o4, by rw [List.length_append]; rfl, (by rw [List.length_append, dgCells_snoc, HER.out]; exact own_mv (Nat.lt_succ_self rb) o5 hm6), by rw [List.length_append]; simp; omega, HRUN, sized_mono HSZ.out (Nat.le_of_lt HJK.out), by have := HFJ.out; have := HJK.out; omega, hr6, ho5.mv (Nat.lt_succ_self rb) hr5.box hm6, hmp5.obj (fun es c hh => keep_mv hr5.box hm6 hh (fun _ _ hq => by cases hq)), hm6.at hrc5 HNE.out, ((hbw.trans (hbl4.mono HRB.out)).trans (hbl5.mono HRB.out)).trans ((hm6.belowR hr5.box.lt).mono HRB.out)⟩
      case measure => rw [hrd.out, rdAt_rd hr6]; have := hr6.few.2.2; have := HJK.out; omega
    ·skip
     have HTY := Lib.hid (fun W (hb : Below wr.heap.size wr W) => try_item0 (hr.next hb) (how.kept (KeptAll.below hb)) (Nat.lt_succ_self rb) (Nat.le_trans (show rb + 1 ≤ wr.heap.size from hr.box.lt) hb.size) HPS.out HLT.out HNO)
     have HLK := Lib.hid (fun W (hb : Below wr.heap.size wr W) => items_look0 (hmp.next hb) (fit_at hr j) (by rw [← tx_at ts sz]; exact HNO))
     clear HNO
     go_wp2_with fail
     refine wp_region_held wr.heap.size wr (Below.refl _ _) (by kernel_rfl) (by kernel_rfl) ?_
     repeat (go_big_quiet_step (fail))
     refine wpQuiet_nil ?_
     rintro wt ⟨⟨_, bt⟩, rfl⟩
     have HPK2 := Lib.hid (peek0_any (hr.next bt))
     clear f0 f1
     cases hit : Px.item (Px.kts ts) j with
     | ok x k =>
      rw [hit] at HTY hrun
      dsimp only at hrun
      have HRUN := Lib.hid hrun
      have HJK := Lib.hid (Px.item_ok hit)
      clear hrun hit
      go_wp2_with first
       | (go_at_call 31; refine (HTY.out _ hb3).mono ?_; rintro e w4 ⟨rfl, hb4, hk4, o4, hr4, ho4⟩; clear HTY HLK)
       | (go_at_call 29; refine (HPK2.out).mono ?_; rintro e w3 ⟨rfl, hb3⟩; have hb3 := bt.trans (hb3.mono bt.size); have fL := HLK.out _ hb3; clear HPK2)
      have hkx := (KeptX.below hb3).trans hk4
      have hbl4 := (hb3.mono (Nat.le_of_lt hr.box.lt)).trans hb4
      go_roundw
      case rel => exact ⟨f, k, P.add (offI ts sz) x, Js, dA, dC, o4, rfl, own_keptX hdg hkx (by decide), hJs, HRUN, sized_add HSZ.out x HJK.out, by have := HFJ.out; have := HJK.out; omega, hr4, ho4, hmp.obj (fun es c hh => hkx mb _ hh (fun _ _ _ _ hq => by cases hq)), hrc.keptX hkx (by decide), hbw.trans (hbl4.mono HRB.out)⟩
      case measure => rw [hrd.out, rdAt_rd hr4]; have := hr4.few.2.2; have := HJK.out; omega
     | fail k =>
      rw [hit] at HTY hrun
      dsimp only at hrun
      have HRUN := Lib.hid hrun
      have HJK := Lib.hid (Px.fail_on (by rw [kts_len]; exact HLT.out) hit)
      obtain ⟨er, her⟩ : ∃ er : Int, (if k < ts.length then (50 : Int) else 51) = er := ⟨_, rfl⟩
      have HER := Lib.hid her
      clear hrun hit her
      go_wp2_with first
       | (at_builtin; refine wpList_append_own _ rfl _ _ 35 rfl (rb + 1) 43 iD (.agg #[.int .i64 0, .int .i64 0]) 2 16 Tryd.underlying35 hi0 hi1 hi2 hi3 rfl (by decide) _ _ _ rfl hdg4 ⟨g4, 0, none⟩ 1 1 [.int .i64 er, .int .i64 (tokAt ts sz k).pos] rfl rfl ?c1 ?c2 ?c3 ?c4 ?c5 ?_)
       | (go_at_call 31; refine (HTY.out _ hb3).mono ?_; rintro e w4 ⟨⟨g4, rfl, hg4⟩, hb4, hk4, o4, hr4, ho4⟩; rw [HER.out] at hg4; have hkx := (KeptX.below hb3).trans hk4; have hdg4 := own_keptX hdg hkx (by decide); clear HTY HLK)
       | (go_at_call 29; refine (HPK2.out).mono ?_; rintro e w3 ⟨rfl, hb3⟩; have hb3 := bt.trans (hb3.mono bt.size); have fL := HLK.out _ hb3; clear HPK2)
      case c1 => exact At.news hg4
      case c2 => intro u hu; simp at hu; rcases hu with rfl | rfl <;> rfl
      case c3 => unfold maxLen; omega
      case c4 => omega
      case c5 => exact hr4.box.lt
      intro v5 w5 o5 g5 _
      obtain ⟨nA, nC, rfl⟩ := own_len o5
      have hbl4 := (hb3.mono (Nat.le_of_lt hr.box.lt)).trans hb4
      have hat5 := hr4.box.grown g5 (own_far hdg4 hr4.box (by decide))
      have hbl5 : Below rb w4 w5 := below_grown hdg4 g5 (Nat.le_of_lt hr4.box.lt) (Nat.le_succ rb)
      have hr5 := hr4.turn hbl5 hat5 hr4.few.2.2
      have ho5 := ho4.kept (w' := w5) (fun e he => Kept.grown hdg4 g5 (by simp at he; rcases he with rfl | rfl | rfl | rfl | rfl | rfl | rfl | rfl | rfl <;> decide))
      have hrc5 := (hrc.keptX hkx (by decide)).grown g5 (own_far hdg4 (hrc.keptX hkx (by decide)) (by decide))
      have hmp5 : IMap w5 rb mb 4 itemF := (hmp.obj (fun es c hh => hkx mb _ hh (fun _ _ _ _ hq => by cases hq))).obj (fun es c hh => keep_grown hdg4 g5 hh (fun _ _ hq => by cases hq))
      have HSK := Lib.hid (skip_any hr5)
      go_wp2_with (go_at_call 32; refine (HSK.out).mono ?_; rintro e w6 ⟨rfl, hm6, hr6⟩; clear HSK)
      go_roundw
      case rel => exact ⟨f, _, P, Js ++ [k], nA, nC, o4, by rw [List.length_append]; rfl, (by rw [List.length_append, dgCells_snoc, HER.out]; exact own_mv (Nat.lt_succ_self rb) o5 hm6), by rw [List.length_append]; simp; omega, HRUN, sized_mono HSZ.out (Nat.le_of_lt HJK.out), by have := HFJ.out; have := HJK.out; omega, hr6, ho5.mv (Nat.lt_succ_self rb) hr5.box hm6, hmp5.obj (fun es c hh => keep_mv hr5.box hm6 hh (fun _ _ hq => by cases hq)), hm6.at hrc5 HNE.out, ((hbw.trans (hbl4.mono HRB.out)).trans (hbl5.mono HRB.out)).trans ((hm6.belowR hr5.box.lt).mono HRB.out)⟩
      case measure => rw [hrd.out, rdAt_rd hr6]; have := hr6.few.2.2; have := HJK.out; omega
   ·have HE := Lib.hid (HTG.out.done (by rw [kts_len]; exact hgo))
    clear HTG
    by_cases hj : j < ts.length
    ·have d1 : decide ((j : Int) < (ts.length : Int)) = true := decide_eq_true (by omega)
     have n1 : decide (j < ts.length) = true := decide_eq_true hj
     have d2 : decide ((Js.length : Int) < 20) = false := decide_eq_false (by omega)
     have n2 : decide (Js.length < 20) = false := decide_eq_false (by omega)
     clear hgo hj
     go_wp2_with fail
     refine wp_region_held wr.heap.size wr (Below.refl _ _) (by kernel_rfl) (by kernel_rfl) ?_
     repeat (go_big_quiet_step (fail))
     refine wpQuiet_nil ?_
     rintro wt ⟨⟨_, bt⟩, rfl⟩
     clear f0 f1
     have hrt := hr.next bt
     have hct := hrc.next bt
     have q3 : wt.cell? ⟨rb, 3, none⟩ = some (.slice o1.l.a o1.l.n o1.l.c) := hrt.box.cell 3
     have q4 : wt.cell? ⟨rb, 4, none⟩ = some (.slice o1.f.a o1.f.n o1.f.c) := hrt.box.cell 4
     have q5 : wt.cell? ⟨rb, 5, none⟩ = some (.slice o1.p.a o1.p.n o1.p.c) := hrt.box.cell 5
     have q6 : wt.cell? ⟨rb, 6, none⟩ = some (.slice o1.r.a o1.r.n o1.r.c) := hrt.box.cell 6
     have y0 := hct.cell 0
     have y1 := hct.cell 1
     have y2 := hct.cell 2
     have y3 := hct.cell 3
     have z0 := hct.frozen 0
     have z1 := hct.frozen 1
     have z2 := hct.frozen 2
     have z3 := hct.frozen 3
     have yl := hct.lt
     simp only [List.getElem?_toArray, List.getElem?_cons_zero, List.getElem?_cons_succ] at y0 y1 y2 y3
     go_wp2_with fail
     clear y0 y1 y2 y3 z0 z1 z2 z3 q3 q4 q5 q6
     have hfin := (((hct.put 0 (.slice o1.l.a o1.l.n o1.l.c)).put 1 (.slice o1.f.a o1.f.n o1.f.c)).put 2 (.slice o1.p.a o1.p.n o1.p.c)).put 3 (.slice o1.r.a o1.r.n o1.r.c)
     have hput := put4 wt w.heap.size (.slice o1.l.a o1.l.n o1.l.c) (.slice o1.f.a o1.f.n o1.f.c) (.slice o1.p.a o1.p.n o1.p.c) (.slice o1.r.a o1.r.n o1.r.c)
     have hkp := fun (e : TypeId) (he : 34 ≠ e) => (Kept.below bt e).trans ((((Kept.put hct 0 (.slice o1.l.a o1.l.n o1.l.c) he).trans (Kept.put (hct.put 0 (.slice o1.l.a o1.l.n o1.l.c)) 1 (.slice o1.f.a o1.f.n o1.f.c) he)).trans (Kept.put ((hct.put 0 (.slice o1.l.a o1.l.n o1.l.c)).put 1 (.slice o1.f.a o1.f.n o1.f.c)) 2 (.slice o1.p.a o1.p.n o1.p.c) he)).trans (Kept.put (((hct.put 0 (.slice o1.l.a o1.l.n o1.l.c)).put 1 (.slice o1.f.a o1.f.n o1.f.c)).put 2 (.slice o1.p.a o1.p.n o1.p.c)) 3 (.slice o1.r.a o1.r.n o1.r.c) he))
     refine bodyPost_ret (results_cell_row_tmp rfl _ _ w.heap.size 34 _ (0, 0) _ rfl hfin Tryd.underlying34 rfl (by kernel_rfl)) rfl ?_
     refine ⟨(hbw.trans (bt.mono hbw.size)).trans hput, _, _, _, _, _, rfl, ?_, ?_⟩
     ·rw [HF.out.1, ← HE.out.1]
      exact how.pg.kept (fun e he => hkp e (by simp at he; rcases he with rfl | rfl | rfl | rfl | rfl | rfl | rfl | rfl | rfl <;> decide))
     ·rw [HF.out.2, ← HE.out.2, dg_of_cells, List.length_map]
      exact TRow.of_own (own_keptT hdg (hkp _ (by decide)))
    ·have d1 : decide ((j : Int) < (ts.length : Int)) = false := decide_eq_false (by omega)
     have n1 : decide (j < ts.length) = false := decide_eq_false hj
     clear hgo hj
     go_wp2_with fail
     refine wp_region_held wr.heap.size wr (Below.refl _ _) (by kernel_rfl) (by kernel_rfl) ?_
     repeat (go_big_quiet_step (fail))
     refine wpQuiet_nil ?_
     rintro wt ⟨⟨_, bt⟩, rfl⟩
     clear f0 f1
     have hrt := hr.next bt
     have hct := hrc.next bt
     have q3 : wt.cell? ⟨rb, 3, none⟩ = some (.slice o1.l.a o1.l.n o1.l.c) := hrt.box.cell 3
     have q4 : wt.cell? ⟨rb, 4, none⟩ = some (.slice o1.f.a o1.f.n o1.f.c) := hrt.box.cell 4
     have q5 : wt.cell? ⟨rb, 5, none⟩ = some (.slice o1.p.a o1.p.n o1.p.c) := hrt.box.cell 5
     have q6 : wt.cell? ⟨rb, 6, none⟩ = some (.slice o1.r.a o1.r.n o1.r.c) := hrt.box.cell 6
     have y0 := hct.cell 0
     have y1 := hct.cell 1
     have y2 := hct.cell 2
     have y3 := hct.cell 3
     have z0 := hct.frozen 0
     have z1 := hct.frozen 1
     have z2 := hct.frozen 2
     have z3 := hct.frozen 3
     have yl := hct.lt
     simp only [List.getElem?_toArray, List.getElem?_cons_zero, List.getElem?_cons_succ] at y0 y1 y2 y3
     go_wp2_with fail
     clear y0 y1 y2 y3 z0 z1 z2 z3 q3 q4 q5 q6
     have hfin := (((hct.put 0 (.slice o1.l.a o1.l.n o1.l.c)).put 1 (.slice o1.f.a o1.f.n o1.f.c)).put 2 (.slice o1.p.a o1.p.n o1.p.c)).put 3 (.slice o1.r.a o1.r.n o1.r.c)
     have hput := put4 wt w.heap.size (.slice o1.l.a o1.l.n o1.l.c) (.slice o1.f.a o1.f.n o1.f.c) (.slice o1.p.a o1.p.n o1.p.c) (.slice o1.r.a o1.r.n o1.r.c)
     have hkp := fun (e : TypeId) (he : 34 ≠ e) => (Kept.below bt e).trans ((((Kept.put hct 0 (.slice o1.l.a o1.l.n o1.l.c) he).trans (Kept.put (hct.put 0 (.slice o1.l.a o1.l.n o1.l.c)) 1 (.slice o1.f.a o1.f.n o1.f.c) he)).trans (Kept.put ((hct.put 0 (.slice o1.l.a o1.l.n o1.l.c)).put 1 (.slice o1.f.a o1.f.n o1.f.c)) 2 (.slice o1.p.a o1.p.n o1.p.c) he)).trans (Kept.put (((hct.put 0 (.slice o1.l.a o1.l.n o1.l.c)).put 1 (.slice o1.f.a o1.f.n o1.f.c)).put 2 (.slice o1.p.a o1.p.n o1.p.c)) 3 (.slice o1.r.a o1.r.n o1.r.c) he))
     refine bodyPost_ret (results_cell_row_tmp rfl _ _ w.heap.size 34 _ (0, 0) _ rfl hfin Tryd.underlying34 rfl (by kernel_rfl)) rfl ?_
     refine ⟨(hbw.trans (bt.mono hbw.size)).trans hput, _, _, _, _, _, rfl, ?_, ?_⟩
     ·rw [HF.out.1, ← HE.out.1]
      exact how.pg.kept (fun e he => hkp e (by simp at he; rcases he with rfl | rfl | rfl | rfl | rfl | rfl | rfl | rfl | rfl <;> decide))
     ·rw [HF.out.2, ← HE.out.2, dg_of_cells, List.length_map]
      exact TRow.of_own (own_keptT hdg (hkp _ (by decide)))
 ·have HC := Lib.hid (open_bad s _ B hy1 htb1 hB1 hs hL h0)
  have HB1 := Lib.hid hb1
  clear hL hy1 htb1 hB1 hb1 hy htb hB
  go_enter Tryd.func11, Tryd.ntmps11
  go_wp2_with (go_at_call 27; refine (HC.out).mono ?_; rintro e w2 ⟨hb2, g, rfl, hg, hat⟩; have hct := hrc1.next hb2; have y0 := hct.cell 0; have y1 := hct.cell 1; have y2 := hct.cell 2; have y3 := hct.cell 3; have z0 := hct.frozen 0; have z1 := hct.frozen 1; have z2 := hct.frozen 2; have z3 := hct.frozen 3; have yl := hct.lt; simp only [List.getElem?_toArray, List.getElem?_cons_zero, List.getElem?_cons_succ] at y0 y1 y2 y3; clear HC)
  clear y0 y1 y2 y3 z0 z1 z2 z3
  have hfin := (((hct.put 0 (.slice none 0 0)).put 1 (.slice none 0 0)).put 2 (.slice none 0 0)).put 3 (.slice none 0 0)
  have hput := put4 w2 w.heap.size (.slice none 0 0) (.slice none 0 0) (.slice none 0 0) (.slice none 0 0)
  have hg2 : g ≠ w.heap.size := by have := HB1.out.size; have := hrc1.lt; omega
  have hat4 := (((hat.far (p := ⟨w.heap.size, 0, none⟩) hg2 (.slice none 0 0)).far (p := ⟨w.heap.size, 1, none⟩) hg2 (.slice none 0 0)).far (p := ⟨w.heap.size, 2, none⟩) hg2 (.slice none 0 0)).far (p := ⟨w.heap.size, 3, none⟩) hg2 (.slice none 0 0)
  refine bodyPost_ret (results_cell_row_tmp rfl _ _ w.heap.size 34 _ (0, 0) _ rfl hfin Tryd.underlying34 rfl (by kernel_rfl)) rfl ?_
  refine ⟨(HB1.out.trans (hb2.mono HB1.out.size)).trans hput, _, _, _, _, _, rfl, ?_, ?_⟩
  ·have : parseP s.data.toList = pg0 := by unfold parseP; rw [HLX.out]; exact if_neg h0
   rw [this]
   exact pg0_at _
  ·have : parseD s.data.toList = [(er, po)] := by unfold parseD; rw [HLX.out]; exact if_neg h0
   rw [this]
   exact dg_one hat4
end Go.Proofs.YtpcmlkpnjimbiaaDoor
