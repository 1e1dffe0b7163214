/- The fixed examples: what strata says of them; no walk. -/
import Derived.Test.YtljlihimmcmlmaaTLnk
import Derived.Test.YtljlihimmcmlmaaTRul
import Derived.Test.YtljlihimmcmlmaaTInfo
import Derived.ChangeKeysEq
import Derived.Test.YtljlihimmcmlmaaTMxo
namespace Go.Proofs.Ytljlihimmcmlmaa
set_option linter.unusedVariables false
set_option linter.unusedSimpArgs false
open Go.RowKit
def insN (n : Nat) (x : Int) : Bool := decide (0 ≤ x) && decide (x < n)
def lnkC (n : Nat) (c : Int) (l : Lit9) : Bool := decide (l.kind ≠ 5) && insN n c && insN n l.pred
def ruE (n : Nat) (c : Int × List Lit9) : List Tj.Ed := c.2.filterMap fun l => if lnkC n c.1 l = true then some ⟨c.1.toNat, l.pred.toNat, neg l⟩ else none
def badC (n : Nat) (T : Nat → Nat → Bool) (c : Int × List Lit9) : Option (Int × Int) := (c.2.find? fun l => lnkC n c.1 l && neg l && T c.1.toNat l.pred.toNat).map fun l => (90, l.pos)
theorem edges_core (p : Pg) : edges p = (p.rus.map coreR).flatMap (ruE p.prs.length) := by
  rw [List.flatMap_map]; rfl
theorem bads_core (p : Pg) (T : Nat → Nat → Bool) : bads p T = ((p.rus.map coreR).filterMap (badC p.prs.length T)).take 20 := by
  rw [List.filterMap_map]; rfl
def PF : List (List Int) := [[0, 1], [1, 0, 2], [3, 0, -3]]
def QF : List (List Int) := [[0, -2], [1, 0]]
def PE : List Tj.Ed := [⟨0, 1, false⟩, ⟨1, 0, false⟩, ⟨1, 2, false⟩, ⟨3, 0, false⟩, ⟨3, 2, true⟩]
def QE : List Tj.Ed := [⟨0, 1, true⟩, ⟨1, 0, false⟩]
structure HeadP (p : Pg) : Prop where
  fine : PgFine p 4
  es : edges p = PE
  comps : Tj.ord (Tj.next (edges p)) 4 4 [] = [[2], [0, 1], [3]]
  rec0 : (ins p 0 && srec (edges p) 4 (0 : Int).toNat) = true
  rec3 : (ins p 3 && srec (edges p) 4 (3 : Int).toNat) = false
  chk : bads p (sameC (Tj.whole (Tj.next (edges p)) 4).of) = []
  pos1 : (ins p 1 && spos p (1 : Int).toNat) = true
  pos3 : (ins p 3 && spos p (3 : Int).toNat) = false
  pos4 : (ins p 4 && spos p (4 : Int).toNat) = false
structure HeadQ (p : Pg) : Prop where
  fine : PgFine p 2
  chk : bads p (sameC (Tj.whole (Tj.next (edges p)) 2).of) = [(90, 1)]
theorem core_fine {p : Pg} {n : Nat} {F : List (List Int)} (hn : n ≤ 1000) (hF : F.length ≤ 1000) (hR : ∀ r ∈ F, r.length ≤ 100) (h1 : p.prs = List.replicate n blankP) (h2 : p.rus.map coreR = rulesOf F) : PgFine p n := by
  have hl : p.prs.length = n := by rw [h1]; simp
  have h3 : p.rus.length = F.length := by rw [← rulesOf_len F, ← h2, List.length_map]
  have := pgFine (p := p) (by omega) (by omega) (fun r hr => by
    have h4 : coreR r ∈ rulesOf F := by rw [← h2]; exact List.mem_map_of_mem hr
    obtain ⟨i, hi⟩ := List.mem_iff_getElem?.1 h4
    unfold rulesOf at hi
    rw [List.getElem?_mapIdx, Option.map_eq_some_iff] at hi
    obtain ⟨row, hrow, e⟩ := hi
    have h5 : r.lits = litsOf i row := (congrArg Prod.snd e).symm
    rw [h5, litsOf_len]
    have := hR row (List.mem_of_getElem? hrow)
    omega)
  rw [hl] at this
  exact this
theorem insN_ins {p : Pg} {n : Nat} (h : p.prs.length = n) (x : Int) : ins p x = insN n x := by unfold ins insN; rw [h]
set_option maxRecDepth 100000 in
theorem headP {p : Pg} (h1 : p.prs = List.replicate 4 blankP) (h2 : p.rus.map coreR = rulesOf PF) : HeadP p := by
  have hf := core_fine (n := 4) (by decide) (by decide) (by decide) h1 h2
  have hl : p.prs.length = 4 := hf.hn
  have he : edges p = PE := by rw [edges_core, h2, hl]; decide
  have hof : p.prs.map Pr.of = [-1, -1, -1, -1] := by rw [h1]; rfl
  have hpe : ∀ k, k < 4 → spos p k = ((List.range 4).all (fun a => !(sees (Tj.depends 4 PE) k a && decide (([-1, -1, -1, -1] : List Int).getD a (-1) ≠ -1))) && PE.all (okE (sees (Tj.depends 4 PE) k))) := fun k hk => by
    rw [spos_eq hf hk]
    unfold posA posE okA
    rw [he, hl, hof]
  refine ⟨hf, he, ?_, ?_, ?_, ?_, ?_, ?_, ?_⟩
  · rw [← comps_eq hf, he]; decide
  · rw [srec_eq hf (by decide), he, insN_ins hl]; decide
  · rw [srec_eq hf (by decide), he, insN_ins hl]; decide
  · rw [bads_eq hf, bads_core, h2, he, hl]; decide
  · rw [hpe _ (by decide), insN_ins hl]; decide
  · rw [hpe _ (by decide), insN_ins hl]; decide
  · rw [insN_ins hl, show insN 4 4 = false by decide, Bool.false_and]
set_option maxRecDepth 100000 in
theorem headQ {p : Pg} (h1 : p.prs = List.replicate 2 blankP) (h2 : p.rus.map coreR = rulesOf QF) : HeadQ p := by
  have hf := core_fine (n := 2) (by decide) (by decide) (by decide) h1 h2
  have hl : p.prs.length = 2 := hf.hn
  have he : edges p = QE := by rw [edges_core, h2, hl]; decide
  exact ⟨hf, by rw [bads_eq hf, bads_core, h2, he, hl]; decide⟩
end Go.Proofs.Ytljlihimmcmlmaa
namespace Go.Proofs.Ytljlihimmcmlmaa
set_option linter.unusedVariables false
set_option linter.unusedSimpArgs false
open Go.RowKit
theorem eq_pair (W : World) (a b c d : Int) : (Op.equalIn 10000 34 (.agg #[.int .i64 a, .int .i64 b]) (.agg #[.int .i64 c, .int .i64 d])).run Try.prog W = .ok ((a == c) && (b == d)) W := by
  obtain ⟨i, hi, _, _, _⟩ := info_of int_info
  have hp : Try.prog.plainKey 3 = true := by kernel_rfl
  have hc : Try.prog.cellsOf 3 = 1 := by kernel_rfl
  rw [run_equalIn_array (P := Try.prog) W 9999 (n := 2) (i := i) _ _ Try.underlying34 hi]
  have p0 : (part 3 #[.int .i64 a, .int .i64 b] 0).run Try.prog W = .ok (.int .i64 a) W := run_part_plain W hp (xs := #[.int .i64 a, .int .i64 b]) (off := 0) rfl
  have p1 : (part 3 #[.int .i64 a, .int .i64 b] 1).run Try.prog W = .ok (.int .i64 b) W := run_part_plain W hp (xs := #[.int .i64 a, .int .i64 b]) (off := 1) rfl
  have q0 : (part 3 #[.int .i64 c, .int .i64 d] 0).run Try.prog W = .ok (.int .i64 c) W := run_part_plain W hp (xs := #[.int .i64 c, .int .i64 d]) (off := 0) rfl
  have q1 : (part 3 #[.int .i64 c, .int .i64 d] 1).run Try.prog W = .ok (.int .i64 d) W := run_part_plain W hp (xs := #[.int .i64 c, .int .i64 d]) (off := 1) rfl
  have e0 : (Op.equalIn 9999 3 (.int .i64 a) (.int .i64 c)).run Try.prog W = .ok (a == c) W := run_equalIn_int (P := Try.prog) W 9998 3 .i64 .i64 a c Try.underlying3
  have e1 : (Op.equalIn 9999 3 (.int .i64 b) (.int .i64 d)).run Try.prog W = .ok (b == d) W := run_equalIn_int (P := Try.prog) W 9998 3 .i64 .i64 b d Try.underlying3
  simp only [show List.range 2 = [0, 1] from rfl, Op.eqItems, hc, Sem.run_bind, Nat.zero_mul, Nat.one_mul, p0, q0, p1, q1, Result.andThen_ok, e0, e1]
  cases h1 : (a == c) <;> cases h2 : (b == d) <;> simp [p1, q1, e1, h2]
end Go.Proofs.Ytljlihimmcmlmaa
namespace Go.Proofs.Ytljlihimmcmlmaa
set_option linter.unusedVariables false
set_option linter.unusedSimpArgs false
open Go.RowKit
theorem LsI.of {w : World} {b : Nat} {T : TypeId} {cs : Array Value} {F : List (List Int)} (h : At w b T cs) (hc : ∀ (a : Nat) (row : List Int), F[a]? = some row → ∃ g T', cs[a]? = some (.slice (some ⟨g, 0, none⟩) row.length row.length) ∧ At w g T' (row.map (Value.int .i64)).toArray) : LsI w (some ⟨b, 0, none⟩) F := fun _ => by
  refine ⟨b, 0, rfl, h.lt, fun a row ha => ?_⟩
  obtain ⟨g, T', h1, h2⟩ := hc a row ha
  refine ⟨_, _, by rw [Nat.zero_add, h.cell]; exact h1, fun _ => ⟨g, 0, rfl, h2.lt, fun j x hx => ?_⟩⟩
  rw [Nat.zero_add, h2.cell]
  simp [hx]
theorem LsAt.of {w : World} {b : Nat} {T : TypeId} {cs : Array Value} {F : List (List Nat)} (h : At w b T cs) (hc : ∀ (a : Nat) (row : List Nat), F[a]? = some row → ∃ g T', cs[a]? = some (.slice (some ⟨g, 0, none⟩) row.length row.length) ∧ At w g T' (row.map (fun x : Nat => Value.int .i64 (x : Int))).toArray) : LsAt w (some ⟨b, 0, none⟩) F := fun _ => by
  refine ⟨b, 0, rfl, h.lt, fun a row ha => ?_⟩
  obtain ⟨g, T', h1, h2⟩ := hc a row ha
  refine ⟨_, _, by rw [Nat.zero_add, h.cell]; exact h1, fun _ => ⟨g, 0, rfl, h2.lt, fun j x hx => ?_⟩⟩
  rw [Nat.zero_add, h2.cell]
  simp [hx]
theorem lsI3 {w : World} {b b0 b1 b2 : Nat} {T T0 T1 T2 : TypeId} {r0 r1 r2 : List Int} (h0 : At w b0 T0 (r0.map (Value.int .i64)).toArray) (h1 : At w b1 T1 (r1.map (Value.int .i64)).toArray) (h2 : At w b2 T2 (r2.map (Value.int .i64)).toArray)
    (h : At w b T #[.slice (some ⟨b0, 0, none⟩) r0.length r0.length, .slice (some ⟨b1, 0, none⟩) r1.length r1.length, .slice (some ⟨b2, 0, none⟩) r2.length r2.length]) : LsI w (some ⟨b, 0, none⟩) [r0, r1, r2] := LsI.of h fun a row ha => by
  match a, ha with
  | 0, ha => obtain rfl : r0 = row := by simpa using ha
             exact ⟨b0, T0, rfl, h0⟩
  | 1, ha => obtain rfl : r1 = row := by simpa using ha
             exact ⟨b1, T1, rfl, h1⟩
  | 2, ha => obtain rfl : r2 = row := by simpa using ha
             exact ⟨b2, T2, rfl, h2⟩
  | n + 3, ha => simp at ha
theorem lsI2 {w : World} {b b0 b1 : Nat} {T T0 T1 : TypeId} {r0 r1 : List Int} (h0 : At w b0 T0 (r0.map (Value.int .i64)).toArray) (h1 : At w b1 T1 (r1.map (Value.int .i64)).toArray)
    (h : At w b T #[.slice (some ⟨b0, 0, none⟩) r0.length r0.length, .slice (some ⟨b1, 0, none⟩) r1.length r1.length]) : LsI w (some ⟨b, 0, none⟩) [r0, r1] := LsI.of h fun a row ha => by
  match a, ha with
  | 0, ha => obtain rfl : r0 = row := by simpa using ha
             exact ⟨b0, T0, rfl, h0⟩
  | 1, ha => obtain rfl : r1 = row := by simpa using ha
             exact ⟨b1, T1, rfl, h1⟩
  | n + 2, ha => simp at ha
theorem lsAt3 {w : World} {b b0 b1 b2 : Nat} {T T0 T1 T2 : TypeId} {r0 r1 r2 : List Nat} (h0 : At w b0 T0 (r0.map (fun x : Nat => Value.int .i64 (x : Int))).toArray) (h1 : At w b1 T1 (r1.map (fun x : Nat => Value.int .i64 (x : Int))).toArray) (h2 : At w b2 T2 (r2.map (fun x : Nat => Value.int .i64 (x : Int))).toArray)
    (h : At w b T #[.slice (some ⟨b0, 0, none⟩) r0.length r0.length, .slice (some ⟨b1, 0, none⟩) r1.length r1.length, .slice (some ⟨b2, 0, none⟩) r2.length r2.length]) : LsAt w (some ⟨b, 0, none⟩) [r0, r1, r2] := LsAt.of h fun a row ha => by
  match a, ha with
  | 0, ha => obtain rfl : r0 = row := by simpa using ha
             exact ⟨b0, T0, rfl, h0⟩
  | 1, ha => obtain rfl : r1 = row := by simpa using ha
             exact ⟨b1, T1, rfl, h1⟩
  | 2, ha => obtain rfl : r2 = row := by simpa using ha
             exact ⟨b2, T2, rfl, h2⟩
  | n + 3, ha => simp at ha
def Pg.vs (p : Pg) : Array Value := #[.slice p.lat.a p.lat.n p.lat.c, .slice p.fns.a p.fns.n p.fns.c, .slice p.pa p.prs.length p.pc, .slice p.ra p.rus.length p.rc]
structure RunP (p : Pg) (w1 : World) : Prop where
  edges : ∀ W, Below w1.heap.size w1 W → Calls Try.prog 12 #[.agg p.vs] W (EdgesOut PE W)
  comps : ∀ W, Below w1.heap.size w1 W → Calls Try.prog 15 #[.agg p.vs] W fun e w' => ∃ A c, e = .returned (.slice A 3 c) ∧ LsAt w' A [[2], [0, 1], [3]] ∧ Below W.heap.size W w'
  rec0 : ∀ W, Below w1.heap.size w1 W → Calls Try.prog 17 #[.agg p.vs, .int .i64 0] W fun e w' => e = .returned (.bool true) ∧ Below W.heap.size W w'
  rec3 : ∀ W, Below w1.heap.size w1 W → Calls Try.prog 17 #[.agg p.vs, .int .i64 3] W fun e w' => e = .returned (.bool false) ∧ Below W.heap.size W w'
  chk : ∀ W, Below w1.heap.size w1 W → Calls Try.prog 20 #[.agg p.vs] W fun e w' => ∃ A c, e = .returned (.slice A 0 c) ∧ Below W.heap.size W w'
  pos1 : ∀ W, Below w1.heap.size w1 W → Calls Try.prog 22 #[.agg p.vs, .int .i64 1] W fun e w' => e = .returned (.bool true) ∧ Below W.heap.size W w'
  pos3 : ∀ W, Below w1.heap.size w1 W → Calls Try.prog 22 #[.agg p.vs, .int .i64 3] W fun e w' => e = .returned (.bool false) ∧ Below W.heap.size W w'
  pos4 : ∀ W, Below w1.heap.size w1 W → Calls Try.prog 22 #[.agg p.vs, .int .i64 4] W fun e w' => e = .returned (.bool false) ∧ Below W.heap.size W w'
theorem runP {p : Pg} {w1 : World} (hp : PgOk w1 p) (h1 : p.prs = List.replicate 4 blankP) (h2 : p.rus.map coreR = rulesOf PF) : RunP p w1 := by
  have H := headP h1 h2
  refine ⟨fun W h => ?_, fun W h => ?_, fun W h => ?_, fun W h => ?_, fun W h => ?_, fun W h => ?_, fun W h => ?_, fun W h => ?_⟩
  · have := edges_any p W (hp.below h) H.fine.rs H.fine.ls
    rw [H.es] at this
    exact this
  · refine (components_any p 4 W (hp.below h) H.fine).mono ?_
    rw [H.comps]
    exact fun e w' h => h
  · refine (recursive_any p 4 0 W (hp.below h) H.fine).mono ?_
    rw [H.rec0]
    exact fun e w' h => h
  · refine (recursive_any p 4 3 W (hp.below h) H.fine).mono ?_
    rw [H.rec3]
    exact fun e w' h => h
  · refine (check_any p 4 W (hp.below h) H.fine).mono ?_
    rw [H.chk]
    rintro e w' ⟨A, c, e1, _, e2⟩
    exact ⟨A, c, e1, e2⟩
  · refine (positive_any p 4 1 W (hp.below h) H.fine).mono ?_
    rw [H.pos1]
    exact fun e w' h => h
  · refine (positive_any p 4 3 W (hp.below h) H.fine).mono ?_
    rw [H.pos3]
    exact fun e w' h => h
  · refine (positive_any p 4 4 W (hp.below h) H.fine).mono ?_
    rw [H.pos4]
    exact fun e w' h => h
theorem runQ {p : Pg} {w1 : World} (hp : PgOk w1 p) (h1 : p.prs = List.replicate 2 blankP) (h2 : p.rus.map coreR = rulesOf QF) : ∀ W, Below w1.heap.size w1 W → Calls Try.prog 20 #[.agg p.vs] W fun e w' => ∃ A c, e = .returned (.slice A 1 c) ∧ DgAt w' A [(90, 1)] ∧ Below W.heap.size W w' := fun W h => by
  have H := headQ h1 h2
  refine (check_any p 2 W (hp.below h) H.fine).mono ?_
  rw [H.chk]
  exact fun e w' h => h
theorem vs_cells {w : World} {g : Nat} {T : TypeId} {p : Pg} (h : At w g T p.vs) : w.cell? ⟨g, 0, none⟩ = some (.slice p.lat.a p.lat.n p.lat.c) ∧ w.cell? ⟨g, 1, none⟩ = some (.slice p.fns.a p.fns.n p.fns.c) ∧ w.cell? ⟨g, 2, none⟩ = some (.slice p.pa p.prs.length p.pc) ∧ w.cell? ⟨g, 3, none⟩ = some (.slice p.ra p.rus.length p.rc) := ⟨h.cell 0, h.cell 1, h.cell 2, h.cell 3⟩
structure HdAt (p q : Pg) (w w1 w3 : World) (gv gu : Nat) (W : World) : Prop where
  hat : At W w1.heap.size 27 p.vs
  hqt : At W w3.heap.size 27 q.vs
  b1 : Below w1.heap.size w1 W
  b3 : Below w3.heap.size w3 W
  bw : Below w.heap.size w W
  lv : gv < W.heap.size
  lu : gu < W.heap.size
  v0 : W.cell? ⟨gv, 8, none⟩ = some (.int .i64 3)
  v1 : W.cell? ⟨gv, 9, none⟩ = some (.int .i64 2)
  u0 : W.cell? ⟨gu, 0, none⟩ = some (.bool false)
  u4 : W.cell? ⟨gu, 4, none⟩ = some (.bool true)
theorem HdAt.next {p q : Pg} {w w1 w3 : World} {gv gu : Nat} {W W' : World} (h : HdAt p q w w1 w3 gv gu W) (hb : Below W.heap.size W W') : HdAt p q w w1 w3 gv gu W' :=
  ⟨h.hat.next hb, h.hqt.next hb, h.b1.trans (hb.mono h.b1.size), h.b3.trans (hb.mono h.b3.size), h.bw.trans (hb.mono h.bw.size), Nat.lt_of_lt_of_le h.lv hb.size, Nat.lt_of_lt_of_le h.lu hb.size, (hb.cell h.lv).trans h.v0, (hb.cell h.lv).trans h.v1, (hb.cell h.lu).trans h.u0, (hb.cell h.lu).trans h.u4⟩
end Go.Proofs.Ytljlihimmcmlmaa
