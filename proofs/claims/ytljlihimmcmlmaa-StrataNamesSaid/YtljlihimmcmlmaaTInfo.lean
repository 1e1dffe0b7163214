/- Programs as they stand in memory, and their edges; no program in sight. -/
import Derived.Test.YtljlihimmcmlmaaMake
import Derived.Test.YtljlihimmcmlmaaTRCm
import Derived.Test.YtljlihimmcmlmaaProg
import Derived.Test.YtljlihimmcmlmaaInv5
namespace Go.Proofs.Ytljlihimmcmlmaa
set_option linter.unusedVariables false
set_option linter.unusedSimpArgs false
open Go.RowKit
structure Sl where
  a : Option Addr
  n : Nat
  c : Nat
def Sl.v (s : Sl) : Value := .slice s.a s.n s.c
structure Lit9 where
  kind : Int
  name : ByteArray
  pred : Int
  args : Sl
  bind : ByteArray
  elem : ByteArray
  least : Int
  op : Int
  pos : Int
def Lit9.fs (l : Lit9) : List Value := [.int .i64 l.kind, .string l.name, .int .i64 l.pred, .slice l.args.a l.args.n l.args.c, .string l.bind, .string l.elem, .int .i64 l.least, .int .i64 l.op, .int .i64 l.pos]
def Lit9.v (l : Lit9) : Value := .agg #[.int .i64 l.kind, .string l.name, .int .i64 l.pred, .slice l.args.a l.args.n l.args.c, .string l.bind, .string l.elem, .int .i64 l.least, .int .i64 l.op, .int .i64 l.pos]
structure Pr where
  name : ByteArray
  types : Sl
  lat : ByteArray
  of : Int
  base : Bool
  key : Int
  pos : Int
def Pr.fs (p : Pr) : List Value := [.string p.name, .slice p.types.a p.types.n p.types.c, .string p.lat, .int .i64 p.of, .bool p.base, .int .i64 p.key, .int .i64 p.pos]
structure Ru where
  name : ByteArray
  pred : Int
  args : Sl
  ek : Int
  en : ByteArray
  ev : ByteArray
  ei : Int
  ba : Option Addr
  bc : Nat
  lits : List Lit9
  pos : Int
def Ru.fs (r : Ru) : List Value := [.string r.name, .int .i64 r.pred, .slice r.args.a r.args.n r.args.c, .int .i64 r.ek, .string r.en, .string r.ev, .int .i64 r.ei, .slice r.ba r.lits.length r.bc, .int .i64 r.pos]
def Ru.v (r : Ru) : Value := .agg #[.string r.name, .int .i64 r.pred, .slice r.args.a r.args.n r.args.c, .int .i64 r.ek, .string r.en, .string r.ev, .int .i64 r.ei, .slice r.ba r.lits.length r.bc, .int .i64 r.pos]
structure Pg where
  lat : Sl
  fns : Sl
  pa : Option Addr
  pc : Nat
  prs : List Pr
  ra : Option Addr
  rc : Nat
  rus : List Ru
def Pg.v (p : Pg) : Value := .agg #[.slice p.lat.a p.lat.n p.lat.c, .slice p.fns.a p.fns.n p.fns.c, .slice p.pa p.prs.length p.pc, .slice p.ra p.rus.length p.rc]
def I64 (x : Int) : Prop := -9223372036854775808 ≤ x ∧ x ≤ 9223372036854775807
/-- A slice's cells hold these structs of k cells. -/
def Str (w : World) (A : Option Addr) (k : Nat) (xs : List (List Value)) : Prop :=
  xs ≠ [] → ∃ g o, A = some ⟨g, o, none⟩ ∧ g < w.heap.size ∧ ∀ (i : Nat) (fs : List Value), xs[i]? = some fs → ∀ (j : Nat) (v : Value), fs[j]? = some v → w.cell? ⟨g, o + i * k + j, none⟩ = some v
theorem Str.below {w w' : World} {A : Option Addr} {k : Nat} {xs : List (List Value)} (h : Str w A k xs) (hb : Below w.heap.size w w') : Str w' A k xs := fun hn => by
  obtain ⟨g, o, e, hg, hc⟩ := h hn
  exact ⟨g, o, e, Nat.lt_of_lt_of_le hg hb.size, fun i fs hi j v hv => (hb.cell hg).trans (hc i fs hi j v hv)⟩
theorem Str.at {w : World} {A : Option Addr} {k : Nat} {xs : List (List Value)} (h : Str w A k xs) {i : Nat} {fs : List Value} (hi : xs[i]? = some fs) : ∃ g o, A = some ⟨g, o, none⟩ ∧ g < w.heap.size ∧ ∀ (j : Nat) (v : Value), fs[j]? = some v → w.cell? ⟨g, o + i * k + j, none⟩ = some v := by
  obtain ⟨g, o, e, hg, hc⟩ := h (by intro h; rw [h] at hi; simp at hi)
  exact ⟨g, o, e, hg, hc i fs hi⟩
/-- A rule in memory. -/
structure RuOk (w : World) (r : Ru) : Prop where
  body : Str w r.ba 9 (r.lits.map Lit9.fs)
  cap : r.lits.length ≤ r.bc ∧ r.bc ≤ maxLen
  i64 : I64 r.pred ∧ ∀ l ∈ r.lits, I64 l.kind ∧ I64 l.pred ∧ I64 l.pos
theorem RuOk.below {w w' : World} {r : Ru} (h : RuOk w r) (hb : Below w.heap.size w w') : RuOk w' r := ⟨h.body.below hb, h.cap, h.i64⟩
/-- A program in memory. -/
structure PgOk (w : World) (p : Pg) : Prop where
  preds : Str w p.pa 7 (p.prs.map Pr.fs)
  pcap : p.prs.length ≤ p.pc ∧ p.pc ≤ maxLen
  rules : Str w p.ra 9 (p.rus.map Ru.fs)
  rcap : p.rus.length ≤ p.rc ∧ p.rc ≤ maxLen
  each : ∀ r ∈ p.rus, RuOk w r
theorem PgOk.below {w w' : World} {p : Pg} (h : PgOk w p) (hb : Below w.heap.size w w') : PgOk w' p := ⟨h.preds.below hb, h.pcap, h.rules.below hb, h.rcap, fun r hr => (h.each r hr).below hb⟩
def ins (p : Pg) (x : Int) : Bool := decide (0 ≤ x) && decide (x < p.prs.length)
def neg (l : Lit9) : Bool := decide (l.kind = 2) || decide (l.kind = 4)
def lnk (p : Pg) (r : Ru) (l : Lit9) : Bool := decide (l.kind ≠ 5) && ins p r.pred && ins p l.pred
def ruEdges (p : Pg) (r : Ru) (ls : List Lit9) : List Tj.Ed := ls.filterMap fun l => if lnk p r l = true then some ⟨r.pred.toNat, l.pred.toNat, neg l⟩ else none
def edges (p : Pg) : List Tj.Ed := p.rus.flatMap fun r => ruEdges p r r.lits
end Go.Proofs.Ytljlihimmcmlmaa
namespace Go.Proofs.Ytljlihimmcmlmaa
set_option linter.unusedVariables false
set_option linter.unusedSimpArgs false
open Go.RowKit
theorem inside_any (p : Pg) (x : Int) (w : World) (hp : PgOk w p) : Calls Try.prog 38 #[p.v, .int .i64 x] w fun e w' => e = .returned (.bool (ins p x)) ∧ Below w.heap.size w w' := by
  have hl : p.prs.length ≤ 9223372036854775807 := by have := hp.pcap; unfold maxLen at this; omega
  unfold ins Pg.v
  by_cases h1 : 0 ≤ x
  · have d1 : decide (0 ≤ x) = true := decide_eq_true h1
    cases d2 : decide (x < (p.prs.length : Int))
    all_goals
      clear h1
      go_enter Try.func38, Try.ntmps38
      go_wp2_with fail
      go_ret
      exact ⟨by rw [d1]; rfl, below1 _ _⟩
  · have d1 : decide (0 ≤ x) = false := decide_eq_false h1
    clear h1
    go_enter Try.func38, Try.ntmps38
    go_wp2_with fail
    go_ret
    exact ⟨by rw [d1]; rfl, below1 _ _⟩
theorem negated_any (l : Lit9) (w : World) : Calls Try.prog 30 #[l.v] w fun e w' => e = .returned (.bool (neg l)) ∧ Below w.heap.size w w' := by
  unfold neg Lit9.v
  by_cases h1 : l.kind = 2
  · have d1 : (l.kind == 2) = true := by simpa using h1
    have e1 : decide (l.kind = 2) = true := decide_eq_true h1
    clear h1
    go_enter Try.func30, Try.ntmps30
    go_wp2_with fail
    go_ret
    exact ⟨by rw [e1]; rfl, below1 _ _⟩
  · have d1 : (l.kind == 2) = false := by simpa using h1
    have e1 : decide (l.kind = 2) = false := decide_eq_false h1
    clear h1
    by_cases h2 : l.kind = 4
    · have d2 : (l.kind == 4) = true := by simpa using h2
      have e2 : decide (l.kind = 4) = true := decide_eq_true h2
      clear h2
      go_enter Try.func30, Try.ntmps30
      go_wp2_with fail
      go_ret
      exact ⟨by rw [e1, e2]; rfl, below1 _ _⟩
    · have d2 : (l.kind == 4) = false := by simpa using h2
      have e2 : decide (l.kind = 4) = false := decide_eq_false h2
      clear h2
      go_enter Try.func30, Try.ntmps30
      go_wp2_with fail
      go_ret
      exact ⟨by rw [e1, e2]; rfl, below1 _ _⟩
theorem linked_any (p : Pg) (r : Ru) (l : Lit9) (w : World) (hp : PgOk w p) : Calls Try.prog 29 #[p.v, r.v, l.v] w fun e w' => e = .returned (.bool (lnk p r l)) ∧ Below w.heap.size w w' := by
  have HI := Lib.hid (fun x W (h : Below w.heap.size w W) => inside_any p x W (hp.below h))
  have b3 : Below w.heap.size w (((w.alloc (.cells #[.slice p.lat.a p.lat.n p.lat.c, .slice p.fns.a p.fns.n p.fns.c, .slice p.pa p.prs.length p.pc, .slice p.ra p.rus.length p.rc] 27)).alloc (.cells r.fs.toArray 51)).alloc (.cells l.fs.toArray 56)) := ((below1 w _).alloc (by simp) _).alloc (by simp; omega) _
  unfold Ru.fs Lit9.fs at b3
  obtain ⟨WA, hWA⟩ : ∃ WA, WA = (((w.alloc (.cells #[.slice p.lat.a p.lat.n p.lat.c, .slice p.fns.a p.fns.n p.fns.c, .slice p.pa p.prs.length p.pc, .slice p.ra p.rus.length p.rc] 27)).alloc (.cells r.fs.toArray 51)).alloc (.cells l.fs.toArray 56)) := ⟨_, rfl⟩
  have a1 : At WA w.heap.size 27 #[.slice p.lat.a p.lat.n p.lat.c, .slice p.fns.a p.fns.n p.fns.c, .slice p.pa p.prs.length p.pc, .slice p.ra p.rus.length p.rc] := by rw [hWA]; exact ((At.new w _ _).alloc _).alloc _
  have a2 : At WA (w.heap.size + 2) 56 l.fs.toArray := by rw [hWA]; exact At.newAt (by simp) _ _
  have hc : ∀ w1, Below WA.heap.size WA w1 → At w1 w.heap.size 27 #[.slice p.lat.a p.lat.n p.lat.c, .slice p.fns.a p.fns.n p.fns.c, .slice p.pa p.prs.length p.pc, .slice p.ra p.rus.length p.rc] ∧ At w1 (w.heap.size + 2) 56 l.fs.toArray := fun w1 h => ⟨a1.next h, a2.next h⟩
  rw [hWA] at hc
  unfold Ru.fs Lit9.fs at hc
  have HC0 := Lib.hid (fun w1 h => (hc w1 h).1.cell 0)
  have HC1 := Lib.hid (fun w1 h => (hc w1 h).1.cell 1)
  have HC2 := Lib.hid (fun w1 h => (hc w1 h).1.cell 2)
  have HC3 := Lib.hid (fun w1 h => (hc w1 h).1.cell 3)
  have HC4 := Lib.hid (fun w1 h => (hc w1 h).2.cell 2)
  clear a1 a2 hc hWA
  unfold lnk
  unfold Pg.v at HI ⊢
  unfold Ru.v Lit9.v
  by_cases h1 : l.kind = 5
  · have d1 : (l.kind == 5) = true := by simpa using h1
    have d1' : (l.kind != 5) = false := by rw [bne, d1]; rfl
    have e1 : decide (l.kind ≠ 5) = false := decide_eq_false (fun h => h h1)
    clear h1
    go_enter Try.func29, Try.ntmps29
    go_wp2_with fail
    go_ret
    exact ⟨by rw [e1]; rfl, b3⟩
  · have d1 : (l.kind == 5) = false := by simpa using h1
    have d1' : (l.kind != 5) = true := by rw [bne, d1]; rfl
    have e1 : decide (l.kind ≠ 5) = true := decide_eq_true h1
    clear h1
    cases hz : ins p r.pred
    · have HZ := Lib.hid hz
      clear hz
      go_enter Try.func29, Try.ntmps29
      go_wp2_with fail
      refine (HI.out r.pred _ b3).mono ?_
      rintro e w1 ⟨rfl, b1⟩
      rw [HZ.out]
      go_wp2_with fail
      go_ret
      exact ⟨by rw [e1]; rfl, b3.trans (b1.mono b3.size)⟩
    · have HZ := Lib.hid hz
      clear hz
      go_enter Try.func29, Try.ntmps29
      go_wp2_with fail
      refine (HI.out r.pred _ b3).mono ?_
      rintro e w1 ⟨rfl, b1⟩
      rw [HZ.out]
      have x1 : w1.cell? ⟨w.heap.size, 0, none⟩ = some (.slice p.lat.a p.lat.n p.lat.c) := HC0.out w1 b1
      have x2 : w1.cell? ⟨w.heap.size, 1, none⟩ = some (.slice p.fns.a p.fns.n p.fns.c) := HC1.out w1 b1
      have x3 : w1.cell? ⟨w.heap.size, 2, none⟩ = some (.slice p.pa p.prs.length p.pc) := HC2.out w1 b1
      have x4 : w1.cell? ⟨w.heap.size, 3, none⟩ = some (.slice p.ra p.rus.length p.rc) := HC3.out w1 b1
      have x5 : w1.cell? ⟨w.heap.size + 2, 2, none⟩ = some (.int .i64 l.pred) := HC4.out w1 b1
      have b13 := b3.trans (b1.mono b3.size)
      clear b1
      go_wp2_with fail
      refine (HI.out l.pred _ b13).mono ?_
      rintro e w2 ⟨rfl, b2⟩
      go_wp2_with fail
      go_ret
      exact ⟨by rw [e1]; simp, b13.trans (b2.mono b13.size)⟩
end Go.Proofs.Ytljlihimmcmlmaa
namespace Go.Proofs.Ytljlihimmcmlmaa
set_option linter.unusedVariables false
set_option linter.unusedSimpArgs false
open Go.RowKit
theorem own_shorter {w : World} {B : Nat} {e : TypeId} {size n m c : Nat} {g : Nat} {xs ys : List Value} (h : w.ownsRow B e size (.slice (some ⟨g, 0, none⟩) (n + m) c) (n + m) (xs ++ ys)) (hx : xs.length = n * size) : w.ownsRow B e size (.slice (some ⟨g, 0, none⟩) n c) n xs := by
  obtain ⟨hl, h⟩ := h
  rcases h with ⟨h, _⟩ | ⟨g', cap, cur, hv, hg, hh, h1, h2, h3, h4⟩
  · cases h
  · injection hv with e1 e2 e3
    injection e1 with e1
    injection e1 with e1
    subst e1; subst e3
    refine ⟨hx, Or.inr ⟨g, c, cur, rfl, hg, hh, by omega, h2, h3, ?_⟩⟩
    have h5 := congrArg (List.take (n * size)) h4
    rw [List.take_take, Nat.min_eq_left (Nat.mul_le_mul_right _ (by omega)), List.take_left' hx] at h5
    exact h5
theorem own_grown {w w' : World} {B : Nat} {e : TypeId} {size n : Nat} {v : Value} {xs : List Value} {row : Option Nat} (h : w.ownsRow B e size v n xs) (hg : w.grownBy w' row) (hne : ∀ b, v.ownBlock = some b → row ≠ some b) : w'.ownsRow B e size v n xs := by
  obtain ⟨h1, h2⟩ := h
  refine ⟨h1, ?_⟩
  rcases h2 with h2 | ⟨g, cap, cur, rfl, hB, hh, r⟩
  · exact Or.inl h2
  · exact Or.inr ⟨g, cap, cur, rfl, hB, (hg.block g (Array.getElem?_eq_some_iff.1 hh).1 (fun e => hne g rfl e.symm)).trans hh, r⟩
/-- Rows of different elements lie in different blocks. -/
theorem own_apart {w : World} {B B' : Nat} {e e' : TypeId} {size size' n n' : Nat} {v v' : Value} {xs xs' : List Value} (h : w.ownsRow B e size v n xs) (h' : w.ownsRow B' e' size' v' n' xs') (hne : e ≠ e') : ∀ b, v.ownBlock = some b → v'.ownBlock ≠ some b := by
  intro b hb hb'
  rcases h.2 with ⟨rfl, _⟩ | ⟨g, cap, cur, rfl, _, hh, _⟩
  · simp [Value.ownBlock] at hb
  · have e1 : g = b := by simpa [Value.ownBlock] using hb
    rcases h'.2 with ⟨rfl, _⟩ | ⟨g', cap', cur', rfl, _, hh', _⟩
    · simp [Value.ownBlock] at hb'
    · have e2 : g' = b := by simpa [Value.ownBlock] using hb'
      subst e1; subst e2
      rw [hh] at hh'
      simp at hh'
      exact hne hh'.2
/-- append to a row of the call's own, or to nil, from a fresh block: the old row stays readable. -/
theorem wp_append_keep {P : Program} {w : World} {o : Oper} {a : Act} {K : Act → World → Prop} {Q : Exit → Act → World → Prop} (s x : Operand) (t : TypeId)
    (ho : o.op = .call { callee := .builtin .append, args := #[s, x], argTypes := #[t, t] })
    (base : Nat) (e : TypeId) (i : TypeInfo) (z : Value) (size bytes : Nat) (ht : P.underlying t = some (.slice e)) (hi : P.info? e = some i) (hz : i.zero = some z)
    (hsize : i.size = size) (hby : i.bytes = bytes) (hzs : z.cells.size = size) (hsz : 0 < size)
    (v : Value) (n : Nat) (xs : List Value) (hs : a.eval s = v) (hown : w.ownsRow base e size v n xs)
    (ad : Addr) (m c : Nat) (news : List Value) (hx : a.eval x = .slice (some ad) m c) (hl : news.length = m * size) (hnews : ∀ j u, news[j]? = some u → w.cell? (ad.add j) = some u) (h1 : ∀ u ∈ news, u.oneCell' = true)
    (h63 : n + m ≤ maxLen) (hbytes : (n + m) * bytes ≤ 140737488355328) (hbase : base ≤ w.heap.size)
    (h : ∀ v' w', w'.ownsRow base e size v' (n + m) (xs ++ news) → w'.ownsRow base e size v n xs → w.grownBy w' v.ownBlock → K (a.put o.dst v') w') : o.wp P a w K Q := by
  rcases hown.2 with ⟨rfl, rfl⟩ | ⟨g, cap, cur, rfl, hB, hh, r⟩
  · have hx0 : xs = [] := List.eq_nil_of_length_eq_zero (by simpa using hown.1)
    subst hx0
    exact wp_append_own w s x t ho base e i z size bytes ht hi hz hsize hby hzs hsz _ 0 [] hs hown ad m c news hx hl hnews h1 h63 hbytes hbase fun v' w' h2 h3 _ => h v' w' h2 (World.ownsRow_nil _ _ _ _) h3
  · refine wp_append_two (P := P) (Q := Q) s x t ho base e i z size bytes ht hi hz hsize hby hzs g n cap xs hs hown ad m c news hx hl hnews h1 h63 hbytes hbase fun g' cap' w' h2 h3 => ?_
    rcases h3 with ⟨rfl, rfl, h3⟩ | ⟨rfl, h3⟩
    · exact h _ w' h2 (own_shorter h2 hown.1) h3
    · refine h _ w' h2 (own_grown hown h3 (fun b _ e => by cases e)) ⟨h3.os, h3.tape, h3.output, h3.size, fun k hk _ => h3.block k hk (by simp)⟩
end Go.Proofs.Ytljlihimmcmlmaa
namespace Go.Proofs.Ytljlihimmcmlmaa
set_option linter.unusedVariables false
set_option linter.unusedSimpArgs false
open Go.RowKit
theorem info_of {P : Program} {t : TypeId} {z : Value} {n b : Nat} (h : (P.info? t).map (fun i => (i.zero, i.size, i.bytes)) = some (some z, n, b)) : ∃ i, P.info? t = some i ∧ i.zero = some z ∧ i.size = n ∧ i.bytes = b := by
  cases hi : P.info? t with
  | none => rw [hi] at h; cases h
  | some i =>
    rw [hi] at h
    have e : (i.zero, i.size, i.bytes) = (some z, n, b) := by simpa using h
    injection e with e1 e2
    injection e2 with e2 e3
    exact ⟨i, rfl, e1, e2, e3⟩
theorem bool_info : (Try.prog.info? 4).map (fun i => (i.zero, i.size, i.bytes)) = some (some (.bool false), 1, 1) := by kernel_rfl
theorem int_info : (Try.prog.info? 3).map (fun i => (i.zero, i.size, i.bytes)) = some (some (.int .i64 0), 1, 8) := by kernel_rfl
theorem ints_info : (Try.prog.info? 42).map (fun i => (i.zero, i.size, i.bytes)) = some (some (.slice none 0 0), 1, 24) := by kernel_rfl
theorem pair_info : (Try.prog.info? 34).map (fun i => (i.zero, i.size, i.bytes)) = some (some (.agg #[.int .i64 0, .int .i64 0]), 2, 16) := by kernel_rfl
/-- The cells of edges, and of their marks. -/
def ecells (es : List Tj.Ed) : List Value := es.flatMap fun e => [.int .i64 (e.a : Int), .int .i64 (e.b : Int)]
def mcells (es : List Tj.Ed) : List Value := es.map fun e => .bool e.g
theorem ecells_snoc (es : List Tj.Ed) (e : Tj.Ed) : ecells (es ++ [e]) = ecells es ++ [.int .i64 (e.a : Int), .int .i64 (e.b : Int)] := by simp [ecells]
theorem mcells_snoc (es : List Tj.Ed) (e : Tj.Ed) : mcells (es ++ [e]) = mcells es ++ [.bool e.g] := by simp [mcells]
/-- A fresh block of these cells. -/
def NewSl (T : TypeId) (n : Nat) (cs : List Value) (bad : Option Nat) : Value → World → Prop := fun x w => ∃ b, x = .slice (some ⟨b, 0, none⟩) n n ∧ At w b T cs.toArray ∧ bad ≠ some b
/-- A row of the call's own. -/
def OwnSl (B : Nat) (T : TypeId) (size n : Nat) (xs : List Value) : Value → World → Prop := fun x w => w.ownsRow B T size x n xs
theorem newSl_on {J : World → Prop} (T : TypeId) (n : Nat) (cs : List Value) (bad : Option Nat) : Lasting J Onward (NewSl T n cs bad) := fun x w w' _ hb ⟨b, e, h, h'⟩ => ⟨b, e, h.next hb, h'⟩
theorem ownSl_on {J : World → Prop} (B : Nat) (T : TypeId) (size n : Nat) (xs : List Value) : Lasting J Onward (OwnSl B T size n xs) := fun x w w' _ hb h => own_below h hb
def Grows (v : Value) (w w' : World) : Prop := w.grownBy w' v.ownBlock
theorem newSl_grows {J : World → Prop} {T T' : TypeId} {n : Nat} {cs : List Value} {bad : Option Nat} {v : Value} {B size m : Nat} {xs : List Value} (hJ : ∀ w, J w → w.ownsRow B T' size v m xs) (hne : T ≠ T') : Lasting J (Grows v) (NewSl T n cs bad) := fun x w w' hj hb ⟨b, e, h, h'⟩ => ⟨b, e, h.grown hb (own_far (hJ w hj) h hne), h'⟩
theorem ownSl_grows {J : World → Prop} {T T' : TypeId} {n k : Nat} {ys : List Value} {v : Value} {B B' size m : Nat} {xs : List Value} (hJ : ∀ w, J w → w.ownsRow B T' size v m xs) (hne : T ≠ T') : Lasting J (Grows v) (OwnSl B' T k n ys) := fun x w w' hj hb h => own_grown h hb (fun b hb' => own_apart h (hJ w hj) hne b hb')
theorem newSl_self {J : World → Prop} {T : TypeId} {n : Nat} {cs : List Value} {v : Value} : Lasting J (Grows v) (NewSl T n cs v.ownBlock) := fun x w w' hj hb ⟨b, e, h, h'⟩ => ⟨b, e, h.grown hb (fun e => h' e.symm), h'⟩
end Go.Proofs.Ytljlihimmcmlmaa
