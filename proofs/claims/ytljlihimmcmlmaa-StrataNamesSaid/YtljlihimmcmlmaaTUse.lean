/- A fixed row of headers of rows of numbers that grow, each in its own block; append that tells where the new row lies. -/
import Derived.Test.YtljlihimmcmlmaaTRco
import Derived.Test.YtljlihimmcmlmaaTREdges
import Derived.Test.YtljlihimmcmlmaaInv5
import Derived.Test.YtljlihimmcmlmaaTRpo
namespace Go.Proofs.Ytljlihimmcmlmaa
set_option linter.unusedVariables false
set_option linter.unusedSimpArgs false
open Go.RowKit
structure Fan (w : World) (B g : Nat) (hs : List Value) (F : List (List Nat)) : Prop where
  cells : At w g 42 hs.toArray
  low : B ≤ g
  len : hs.length = F.length
  rows : ∀ (a : Nat) (u : Value) (row : List Nat), hs[a]? = some u → F[a]? = some row → w.ownsRow B 3 1 u row.length (ncells row)
  apart : ∀ (a b : Nat) (u v : Value) (q : Nat), a ≠ b → hs[a]? = some u → hs[b]? = some v → u.ownBlock = some q → v.ownBlock ≠ some q
theorem Fan.start {w : World} {B g n : Nat} (h : At w g 42 (List.replicate n (Value.slice none 0 0)).toArray) (hB : B ≤ g) : Fan w B g (List.replicate n (.slice none 0 0)) (List.replicate n []) := by
  refine ⟨h, hB, by simp, fun a u row h1 h2 => ?_, fun a b u v q hne h1 h2 h3 => ?_⟩
  · have h1' := List.mem_of_getElem? h1
    have h2' := List.mem_of_getElem? h2
    simp at h1' h2'
    rw [h1'.2, h2'.2]
    exact World.ownsRow_nil _ _ _ _
  · have h1' := List.mem_of_getElem? h1
    simp at h1'
    rw [h1'.2] at h3
    simp [Value.ownBlock] at h3
section
variable {w w' : World} {B g : Nat} {hs : List Value} {F : List (List Nat)}
theorem Fan.below (h : Fan w B g hs F) (hb : Below w.heap.size w w') : Fan w' B g hs F :=
  ⟨h.cells.next hb, h.low, h.len, fun a u row h1 h2 => own_below (h.rows a u row h1 h2) hb, h.apart⟩
theorem Fan.get (h : Fan w B g hs F) {a : Nat} (ha : a < F.length) : ∃ (row : List Nat) (A : Option Addr) (c : Nat), F[a]? = some row ∧ hs[a]? = some (.slice A row.length c) ∧ w.ownsRow B 3 1 (.slice A row.length c) row.length (ncells row) ∧ w.cell? ⟨g, a, none⟩ = some (.slice A row.length c) := by
  have hl := h.len
  have h1 : hs[a]? = some hs[a] := List.getElem?_eq_getElem (by omega)
  have h2 : F[a]? = some F[a] := List.getElem?_eq_getElem ha
  have h3 := h.rows a _ _ h1 h2
  obtain ⟨A, c, e⟩ := own_len h3
  rw [e] at h1 h3
  exact ⟨_, A, c, h2, h1, h3, by rw [h.cells.cell a]; simpa using h1⟩
/-- What grows in one row's block leaves the others. -/
theorem Fan.grew (h : Fan w B g hs F) {a : Nat} {u : Value} {row : List Nat} (ha : hs[a]? = some u) (hF : F[a]? = some row) (hu : w'.ownsRow B 3 1 u row.length (ncells row)) (hg : w.grownBy w' u.ownBlock) : Fan w' B g hs F := by
  have h0 := h.rows a u row ha hF
  refine ⟨h.cells.grown hg (own_far h0 h.cells (by decide)), h.low, h.len, fun c x r h1 h2 => ?_, h.apart⟩
  by_cases e : c = a
  · subst e
    rw [ha] at h1; rw [hF] at h2
    obtain rfl := Option.some.inj h1
    obtain rfl := Option.some.inj h2
    exact hu
  · exact own_grown (h.rows c x r h1 h2) hg (fun q hq => h.apart c a x u q e h1 ha hq)
/-- A new header in place of an old one. -/
theorem Fan.put (h : Fan w B g hs F) {a : Nat} {v : Value} {row : List Nat} (ha : a < F.length) (hv : w.ownsRow B 3 1 v row.length (ncells row)) (hap : ∀ (c : Nat) (u : Value) (q : Nat), c ≠ a → hs[c]? = some u → v.ownBlock = some q → u.ownBlock ≠ some q) :
    Fan (w.setCell ⟨g, a, none⟩ v) B g (hs.set a v) (F.set a row) := by
  have hl := h.len
  refine ⟨?_, h.low, by simp [hl], fun c x r h1 h2 => ?_, fun c d x y q hne h1 h2 hq => ?_⟩
  · rw [← List.setIfInBounds_toArray]; exact h.cells.put a v
  · by_cases e : a = c
    · subst e
      rw [List.getElem?_set_self (by omega)] at h1
      rw [List.getElem?_set_self ha] at h2
      obtain rfl := Option.some.inj h1
      obtain rfl := Option.some.inj h2
      exact own_putne (p := ⟨g, a, none⟩) hv (own_far hv h.cells (by decide)) v
    · rw [List.getElem?_set_ne e] at h1 h2
      have := h.rows c x r h1 h2
      exact own_putne (p := ⟨g, a, none⟩) this (own_far this h.cells (by decide)) v
  · by_cases e : a = c
    · subst e
      rw [List.getElem?_set_self (by omega)] at h1
      rw [List.getElem?_set_ne hne] at h2
      obtain rfl := Option.some.inj h1
      exact hap d y q (fun e => hne e.symm) h2 hq
    · rw [List.getElem?_set_ne e] at h1
      by_cases e2 : a = d
      · subst e2
        rw [List.getElem?_set_self (by omega)] at h2
        obtain rfl := Option.some.inj h2
        intro hq2
        exact hap c x q (fun e => hne e) h1 hq2 hq
      · rw [List.getElem?_set_ne e2] at h2
        exact h.apart c d x y q hne h1 h2 hq
theorem Fan.lt (h : Fan w B g hs F) {a : Nat} {u : Value} (ha : hs[a]? = some u) {q : Nat} (hq : u.ownBlock = some q) : q < w.heap.size := by
  have hl := h.len
  have hal := (List.getElem?_eq_some_iff.1 ha).1
  exact (own_lt (h.rows a u _ ha (List.getElem?_eq_getElem (show a < F.length by omega))) hq).2
end
/-- append to a row of the call's own, or to nil: the old row stays readable, and the new one lies in its block or in a new one. -/
theorem wp_append_where {P : Program} {w : World} {o : Oper} {a : Act} {K : Act → World → Prop} {Q : Exit → Act → World → Prop} (s x : Operand) (t : TypeId)
    (ho : o.op = .call { callee := .builtin .append, args := #[s, x], argTypes := #[t, t] })
    (base : Nat) (e : TypeId) (i : TypeInfo) (z : Value) (size bytes : Nat) (ht : P.underlying t = some (.slice e)) (hi : P.info? e = some i) (hz : i.zero = some z)
    (hsize : i.size = size) (hby : i.bytes = bytes) (hzs : z.cells.size = size) (hsz : 0 < size)
    (v : Value) (n : Nat) (xs : List Value) (hs : a.eval s = v) (hown : w.ownsRow base e size v n xs)
    (ad : Addr) (m c : Nat) (news : List Value) (hx : a.eval x = .slice (some ad) m c) (hl : news.length = m * size) (hnews : ∀ j u, news[j]? = some u → w.cell? (ad.add j) = some u) (h1 : ∀ u ∈ news, u.oneCell' = true)
    (h63 : n + m ≤ maxLen) (hbytes : (n + m) * bytes ≤ 140737488355328) (hbase : base ≤ w.heap.size)
    (h : ∀ v' w', w'.ownsRow base e size v' (n + m) (xs ++ news) → w'.ownsRow base e size v n xs → w.grownBy w' v.ownBlock → (∀ q, v'.ownBlock = some q → v.ownBlock = some q ∨ w.heap.size ≤ q) → K (a.put o.dst v') w') : o.wp P a w K Q := by
  rcases hown.2 with ⟨rfl, rfl⟩ | ⟨g, cap, cur, rfl, hB, hh, r⟩
  · have hx0 : xs = [] := List.eq_nil_of_length_eq_zero (by simpa using hown.1)
    subst hx0
    exact wp_append_own w s x t ho w.heap.size e i z size bytes ht hi hz hsize hby hzs hsz _ 0 [] hs (World.ownsRow_nil _ _ _ _) ad m c news hx hl hnews h1 h63 hbytes (Nat.le_refl _) fun v' w' h2 h3 _ => h v' w' (own_mono h2 hbase) (World.ownsRow_nil _ _ _ _) h3 (fun q hq => Or.inr (own_lt h2 hq).1)
  · refine wp_append_two (P := P) (Q := Q) s x t ho base e i z size bytes ht hi hz hsize hby hzs g n cap xs hs hown ad m c news hx hl hnews h1 h63 hbytes hbase fun g' cap' w' h2 h3 => ?_
    rcases h3 with ⟨rfl, rfl, h3⟩ | ⟨rfl, h3⟩
    · exact h _ w' h2 (own_shorter h2 hown.1) h3 (fun q hq => Or.inl hq)
    · refine h _ w' h2 (own_grown hown h3 (fun b _ e => by cases e)) ⟨h3.os, h3.tape, h3.output, h3.size, fun k hk _ => h3.block k hk (by simp)⟩ (fun q hq => Or.inr (by simp [Value.ownBlock] at hq; omega))
end Go.Proofs.Ytljlihimmcmlmaa
namespace Go.Proofs.Ytljlihimmcmlmaa
set_option linter.unusedVariables false
set_option linter.unusedSimpArgs false
open Go.RowKit
/-- On the way through the statement that appends to a row's own header. -/
structure UJ (w : World) (B g : Nat) (hs : List Value) (F : List (List Nat)) (B' : Nat) (ev : Value) (es : List Tj.Ed) (be x y : Nat) (W : World) : Prop where
  fan : Fan W B g hs F
  box : At W be 34 #[.int .i64 (x : Int), .int .i64 (y : Int)]
  es : W.ownsRow B' 34 2 ev es.length (ecells es)
  below : Below w.heap.size w W
  size : B ≤ W.heap.size
def OwnAp (B n : Nat) (xs : List Value) (hs : List Value) (a : Nat) : Value → World → Prop := fun x W => W.ownsRow B 3 1 x n xs ∧ ∀ (c : Nat) (u : Value) (q : Nat), c ≠ a → hs[c]? = some u → x.ownBlock = some q → u.ownBlock ≠ some q
theorem ownAp_on {J : World → Prop} (B n : Nat) (xs hs : List Value) (a : Nat) : Lasting J Onward (OwnAp B n xs hs a) := fun x w w' _ hb h => ⟨own_below h.1 hb, h.2⟩
theorem box2 {W : World} {b : Nat} {t : TypeId} {x y : Value} (h : At W b t #[x, y]) : W.cell? ⟨b, 0, none⟩ = some x ∧ W.cell? ⟨b, 1, none⟩ = some y := ⟨h.cell 0, h.cell 1⟩
section
variable {w W W' : World} {B g : Nat} {hs : List Value} {F : List (List Nat)} {B' : Nat} {ev : Value} {es : List Tj.Ed} {be x y : Nat}
theorem UJ.next (h : UJ w B g hs F B' ev es be x y W) (hb : Below W.heap.size W W') : UJ w B g hs F B' ev es be x y W' :=
  ⟨h.fan.below hb, h.box.next hb, own_below h.es hb, h.below.trans (hb.mono h.below.size), Nat.le_trans h.size hb.size⟩
theorem UJ.grew (h : UJ w B g hs F B' ev es be x y W) {a : Nat} {u : Value} {row : List Nat} (ha : hs[a]? = some u) (hF : F[a]? = some row) (hB : w.heap.size ≤ B) (hu : W'.ownsRow B 3 1 u row.length (ncells row)) (hg : W.grownBy W' u.ownBlock) : UJ w B g hs F B' ev es be x y W' := by
  have h0 := h.fan.rows a u row ha hF
  exact ⟨h.fan.grew ha hF hu hg, h.box.grown hg (own_far h0 h.box (by decide)), own_grown h.es hg (own_apart h.es h0 (by decide)), h.below.grown hg h.below.size (fun q hq => Nat.le_trans hB (own_lt h0 hq).1), Nat.le_trans h.size hg.size⟩
theorem Fan.newApart (h : Fan W B g hs F) {a : Nat} {u v : Value} (ha : hs[a]? = some u) (hw : ∀ q, v.ownBlock = some q → u.ownBlock = some q ∨ W.heap.size ≤ q) : ∀ (c : Nat) (u : Value) (q : Nat), c ≠ a → hs[c]? = some u → v.ownBlock = some q → u.ownBlock ≠ some q := fun c x q hne hc hq hx => by
  rcases hw q hq with h1 | h1
  · exact h.apart a c u x q (fun e => hne e.symm) ha hc h1 hx
  · have := h.lt hc hx; omega
end
theorem next_more {es : List Tj.Ed} {m : Nat} {e : Tj.Ed} (h : es[m]? = some e) (v : Nat) : Tj.next (es.take (m + 1)) v = if e.a = v then Tj.next (es.take m) v ++ [e.b] else Tj.next (es.take m) v := by
  unfold Tj.next
  rw [take_more h, List.filter_append, List.map_append]
  split
  · rename_i h; simp [h]
  · rename_i h; simp [h]
theorem nexts_more {n : Nat} {es : List Tj.Ed} {m : Nat} {e : Tj.Ed} (h : es[m]? = some e) {row : List Nat} (hr : ((List.range n).map (Tj.next (es.take m)))[e.a]? = some row) : (List.range n).map (Tj.next (es.take (m + 1))) = ((List.range n).map (Tj.next (es.take m))).set e.a (row ++ [e.b]) := by
  apply List.ext_getElem?
  intro v
  by_cases hv : v < n
  · have e1 : ∀ es', ((List.range n).map (Tj.next es'))[v]? = some (Tj.next es' v) := fun es' => by simp [hv]
    rw [e1, next_more h]
    by_cases ha : e.a = v
    · subst ha
      rw [if_pos rfl, List.getElem?_set_self (by simpa using hv)]
      rw [e1] at hr
      rw [Option.some.inj hr]
    · rw [if_neg ha, List.getElem?_set_ne ha, e1]
  · rw [List.getElem?_eq_none (by simp; omega), List.getElem?_eq_none (by simp; omega)]
theorem next_len {es : List Tj.Ed} {m n : Nat} {row : List Nat} {a : Nat} (hr : ((List.range n).map (Tj.next (es.take m)))[a]? = some row) : row.length ≤ m := by
  rw [List.getElem?_map, Option.map_eq_some_iff] at hr
  obtain ⟨v, _, rfl⟩ := hr
  unfold Tj.next
  rw [List.length_map]
  have h1 := List.length_filter_le (fun e : Tj.Ed => decide (e.a = v)) (es.take m)
  rw [List.length_take] at h1
  omega
set_option maxHeartbeats 2000000 in
set_option maxRecDepth 100000 in
theorem uses_any (p : Pg) (n : Nat) (w : World) (hp : PgOk w p) (hf : PgFine p n) :
    Calls Try.prog 40 #[p.v] w fun e w' => ∃ g hs, e = .returned (.slice (some ⟨g, 0, none⟩) n n) ∧ Fan w' w.heap.size g hs ((List.range n).map (Tj.next (edges p))) ∧ Below w.heap.size w w' := by
  obtain ⟨i1, hi1, hy0, hy1, hy2⟩ := info_of ints_info
  obtain ⟨i2, hi2, hx0, hx1, hx2⟩ := info_of int_info
  have HG := Lib.hid (fun W (h : Below w.heap.size w W) => edges_any p W (hp.below h) hf.rs hf.ls)
  have HES := Lib.hid hf.es
  have hel := hf.el
  have hn1 := hf.n1
  have hn := hf.hn
  obtain ⟨es, hes⟩ : ∃ es, edges p = es := ⟨_, rfl⟩
  rw [hes] at HES HG hel ⊢
  clear hes hf hp
  unfold Pg.v at HG ⊢
  generalize p.ra = ra at *
  generalize p.pa = pa at *
  rw [hn] at HG ⊢
  clear hn
  have q0 := run_make_one (w.alloc (.cells #[.slice p.lat.a p.lat.n p.lat.c, .slice p.fns.a p.fns.n p.fns.c, .slice pa n p.pc, .slice ra p.rus.length p.rc] 27)) Try.underlying36 hi1 hy0 hy1 (by rw [hy2]; decide) rfl n (by omega)
  have hbA : Below w.heap.size w ((w.alloc (.cells #[.slice p.lat.a p.lat.n p.lat.c, .slice p.fns.a p.fns.n p.fns.c, .slice pa n p.pc, .slice ra p.rus.length p.rc] 27)).alloc (.cells (Array.replicate n (.slice none 0 0)) 42)) := (below1 _ _).alloc (by simp) _
  have HAT := Lib.hid (At.new w 27 #[.slice p.lat.a p.lat.n p.lat.c, .slice p.fns.a p.fns.n p.fns.c, .slice pa n p.pc, .slice ra p.rus.length p.rc])
  go_enter Try.func40, Try.ntmps40
  have hf0 : Fan ((w.alloc (.cells #[.slice p.lat.a p.lat.n p.lat.c, .slice p.fns.a p.fns.n p.fns.c, .slice pa n p.pc, .slice ra p.rus.length p.rc] 27)).alloc (.cells (Array.replicate n (.slice none 0 0)) 42)) (w.heap.size + 1) (w.heap.size + 1) (List.replicate n (.slice none 0 0)) (List.replicate n []) := by
    refine Fan.start ?_ (Nat.le_refl _)
    have h := At.newAt (w := w.alloc (.cells #[.slice p.lat.a p.lat.n p.lat.c, .slice p.fns.a p.fns.n p.fns.c, .slice pa n p.pc, .slice ra p.rus.length p.rc] 27)) (g := w.heap.size + 1) (by simp) 42 (Array.replicate n (.slice none 0 0))
    simpa using h
  go_wp2_with (go_at_call 12; refine (HG.out _ hbA).mono ?_; rintro e w2 ⟨v, u, rfl, ho1, ho2, hb2⟩; obtain ⟨va, vc, rfl⟩ := own_len ho1)
  have hf2 := hf0.below hb2
  have hbw := hbA.trans (hb2.mono hbA.size)
  have hsB := hb2.size
  simp at hsB
  generalize ((w.alloc (.cells #[.slice p.lat.a p.lat.n p.lat.c, .slice p.fns.a p.fns.n p.fns.c, .slice pa n p.pc, .slice ra p.rus.length p.rc] 27)).alloc (.cells (Array.replicate n (.slice none 0 0)) 42)).heap.size = B' at *
  have HBB := Lib.hid (show w.heap.size ≤ w.heap.size + 1 by omega)
  clear hb2 hbA hf0 HG HAT q0 ho2
  go_wp2_with fail
  go_loopw [7, 19] (fun _ i wr => ∃ (m : Nat) (hs : List Value) (F : List (List Nat)), m ≤ es.length ∧ i = .int .i64 m ∧ Hid (F = (List.range n).map (Tj.next (es.take m))) ∧ Fan wr (w.heap.size + 1) (w.heap.size + 1) hs F ∧ wr.ownsRow B' 34 2 (.slice va es.length vc) es.length (ecells es) ∧ Below w.heap.size w wr) (fun _ i _ => es.length - (intOf i).toNat)
  case atStart => exact ⟨0, _, _, by omega, rfl, Lib.hid (by apply List.ext_getElem?; intro j; by_cases hj : j < n <;> simp [Tj.next, hj]), hf2, ho1, hbw⟩
  case round =>
    clear hf2 ho1 hbw
    obtain ⟨m, hs, F, hm, rfl, HF, hfan, hes, hbw⟩ := hrel
    by_cases h2 : m < es.length
    · have d2 : decide ((m : Int) < (es.length : Int)) = true := by simp; omega
      obtain ⟨e, he⟩ : ∃ e, es[m]? = some e := ⟨_, List.getElem?_eq_getElem h2⟩
      obtain ⟨hea, heb⟩ := HES.out e (List.mem_of_getElem? he)
      obtain ⟨z0, z1⟩ := ecells_get es m e he
      obtain ⟨A2, c2, ev2, _, _, hcs⟩ := own_cells hes
      rcases hcs with hcs | ⟨ge, rfl, _, hge, hcs⟩
      · exact absurd hcs (by omega)
      injection ev2 with ev3 _ ev4
      subst ev3
      clear ev4
      have y0 := hcs _ _ z0
      have y1 := hcs _ _ z1
      have HFL := Lib.hid (show F.length = n by rw [HF.out]; simp)
      obtain ⟨row, ra, rc, hF, hH, hrow, hce⟩ := hfan.get (a := e.a) (by rw [HFL.out]; exact hea)
      have hrl : row.length ≤ m := next_len (by rw [← HF.out]; exact hF)
      have HF2 := Lib.hid (show F.set e.a (row ++ [e.b]) = (List.range n).map (Tj.next (es.take (m + 1))) by rw [nexts_more he (by rw [← HF.out]; exact hF), ← HF.out])
      have HCE := Lib.hid (show hs.toArray[e.a]? = some (.slice ra row.length rc) by simpa using hH)
      have HHA := Lib.hid hH
      have HFA := Lib.hid hF
      have j0 : (0 : Int) ≤ (m : Int) := by omega
      have j1 : (m : Int) < (es.length : Int) := by omega
      have j2 : (0 : Int) ≤ (e.a : Int) := by omega
      have j3 : (e.a : Int) < (n : Int) := by omega
      have s0 := hbw.size
      have hsz : w.heap.size + 1 ≤ wr.heap.size := Nat.le_of_lt hfan.cells.lt
      have huj : UJ w (w.heap.size + 1) (w.heap.size + 1) hs F B' (.slice (some ⟨ge, 0, none⟩) es.length vc) es wr.heap.size e.a e.b (wr.alloc (.cells #[.int .i64 (e.a : Int), .int .i64 (e.b : Int)] 34)) :=
        ⟨hfan.below (below1 _ _), At.new _ _ _, hes.alloc _, hbw.alloc hbw.size _, by simp; omega⟩
      have HUJ := Lib.hid huj
      clear huj hH hF hcs z0 z1 hfan hrow hce he hes
      go_wp2_with fail
      have E10 : ∀ i, i ≠ 10 → Lasting (UJ w (w.heap.size + 1) (w.heap.size + 1) hs F B' (.slice (some ⟨ge, 0, none⟩) es.length vc) es wr.heap.size e.a e.b) ((fun i => if i = 11 then Grows (.slice ra row.length rc) else Onward) i) (NewSl 3 1 [.int .i64 (e.b : Int)] (Value.ownBlock (.slice ra row.length rc))) := fun i _ => by
        show Lasting _ (if i = 11 then _ else _) _
        split
        · exact newSl_self
        · exact newSl_on _ _ _ _
      have E11 : ∀ i, i ≠ 11 → Lasting (UJ w (w.heap.size + 1) (w.heap.size + 1) hs F B' (.slice (some ⟨ge, 0, none⟩) es.length vc) es wr.heap.size e.a e.b) ((fun i => if i = 11 then Grows (.slice ra row.length rc) else Onward) i) (OwnAp (w.heap.size + 1) (row.length + 1) (ncells row ++ [.int .i64 (e.b : Int)]) hs e.a) := fun i hne => by
        show Lasting _ (if i = 11 then _ else _) _
        rw [if_neg hne]
        exact ownAp_on _ _ _ _ _
      refine' wp_region_rely_last 13 _ _ (UJ w (w.heap.size + 1) (w.heap.size + 1) hs F B' (.slice (some ⟨ge, 0, none⟩) es.length vc) es wr.heap.size e.a e.b) (fun i => if i = 11 then Grows (.slice ra row.length rc) else Onward) (Vl :: Vl :: Vl :: Vl :: Vl :: Vl :: Vl :: Vl :: Vl :: Vl :: NewSl 3 1 [.int .i64 (e.b : Int)] (Value.ownBlock (.slice ra row.length rc)) :: OwnAp (w.heap.size + 1) (row.length + 1) (ncells row ++ [.int .i64 (e.b : Int)]) hs e.a :: Vl :: []) ?hF (by kernel_rfl) (by kernel_rfl) (by kernel_rfl) (by rfl) (by rfl) (by rfl) (by kernel_rfl) (HUJ.out.next ((Below.refl _ _).drew)) (⟨fun i _ _ => lasting_vl, ⟨fun i _ _ => lasting_vl, ⟨fun i _ _ => lasting_vl, ⟨fun i _ _ => lasting_vl, ⟨fun i _ _ => lasting_vl, ⟨fun i _ _ => lasting_vl, ⟨fun i _ _ => lasting_vl, ⟨fun i _ _ => lasting_vl, ⟨fun i _ _ => lasting_vl, ⟨fun i _ _ => lasting_vl, ⟨fun i hne _ => E10 i hne, ⟨fun i hne _ => E11 i hne, ⟨fun i _ _ => lasting_vl, trivial⟩⟩⟩⟩⟩⟩⟩⟩⟩⟩⟩⟩⟩) ?hops ?hlast
      case hF => (intro v; simp only [over, Act.put, List.setIfInBounds_toArray, List.set_cons_zero, List.set_cons_succ, Nat.zero_add, Nat.reduceAdd]; exact rfl)
      case hops =>
        refine ⟨?_, ?_⟩
        · intro v w' hj hd hs K hK
          have hk := hK.out
          simp only [Act.put, List.setIfInBounds_toArray, List.set_cons_zero, List.set_cons_succ] at hk
          have HK := Lib.hid hk
          clear hd hs hk hK
          go_simp
          exact HK.out _ _ hj.out (Below.refl _ _) (show _ = _ from rfl)
        refine ⟨?_, ?_⟩
        · intro v w' hj hd hs K hK
          have hk := hK.out
          simp only [Act.put, List.setIfInBounds_toArray, List.set_cons_zero, List.set_cons_succ] at hk
          have HK := Lib.hid hk
          clear hd hs hk hK
          go_simp
          exact HK.out _ _ hj.out (Below.refl _ _) (show _ = _ from rfl)
        refine ⟨?_, ?_⟩
        · intro v w' hj hd hs K hK
          have t1 : v 1 = _ := hd.out 1 (by kernel_rfl)
          obtain ⟨x0, x1⟩ := box2 hj.out.box
          have hk := hK.out
          simp only [t1, Act.put, List.setIfInBounds_toArray, List.set_cons_zero, List.set_cons_succ] at hk
          have HK := Lib.hid hk
          clear hd hs hk hK
          go_simp
          exact HK.out _ _ hj.out (Below.refl _ _) (show _ = _ from rfl)
        refine ⟨?_, ?_⟩
        · intro v w' hj hd hs K hK
          have hk := hK.out
          simp only [Act.put, List.setIfInBounds_toArray, List.set_cons_zero, List.set_cons_succ] at hk
          have HK := Lib.hid hk
          clear hd hs hk hK
          go_simp
          exact HK.out _ _ hj.out (Below.refl _ _) (show _ = _ from rfl)
        refine ⟨?_, ?_⟩
        · intro v w' hj hd hs K hK
          have hk := hK.out
          simp only [Act.put, List.setIfInBounds_toArray, List.set_cons_zero, List.set_cons_succ] at hk
          have HK := Lib.hid hk
          clear hd hs hk hK
          go_simp
          exact HK.out _ _ hj.out (Below.refl _ _) (show _ = _ from rfl)
        refine ⟨?_, ?_⟩
        · intro v w' hj hd hs K hK
          have t4 : v 4 = _ := hd.out 4 (by kernel_rfl)
          obtain ⟨x0, x1⟩ := box2 hj.out.box
          have hk := hK.out
          simp only [t4, Act.put, List.setIfInBounds_toArray, List.set_cons_zero, List.set_cons_succ] at hk
          have HK := Lib.hid hk
          clear hd hs hk hK
          go_simp
          exact HK.out _ _ hj.out (Below.refl _ _) (show _ = _ from rfl)
        refine ⟨?_, ?_⟩
        · intro v w' hj hd hs K hK
          have t3 : v 3 = _ := hd.out 3 (by kernel_rfl)
          have t5 : v 5 = _ := hd.out 5 (by kernel_rfl)
          have hk := hK.out
          simp only [t3, t5, Act.put, List.setIfInBounds_toArray, List.set_cons_zero, List.set_cons_succ] at hk
          have HK := Lib.hid hk
          clear hd hs hk hK
          go_simp
          exact HK.out _ _ hj.out (Below.refl _ _) (show _ = _ from rfl)
        refine ⟨?_, ?_⟩
        · intro v w' hj hd hs K hK
          have t6 : v 6 = _ := hd.out 6 (by kernel_rfl)
          have y0 := (hj.out.fan.cells.cell e.a).trans HCE.out
          have hk := hK.out
          simp only [t6, Act.put, List.setIfInBounds_toArray, List.set_cons_zero, List.set_cons_succ] at hk
          have HK := Lib.hid hk
          clear hd hs hk hK
          go_simp
          exact HK.out _ _ hj.out (Below.refl _ _) (show _ = _ from rfl)
        refine ⟨?_, ?_⟩
        · intro v w' hj hd hs K hK
          have hk := hK.out
          simp only [Act.put, List.setIfInBounds_toArray, List.set_cons_zero, List.set_cons_succ] at hk
          have HK := Lib.hid hk
          clear hd hs hk hK
          go_simp
          exact HK.out _ _ hj.out (Below.refl _ _) (show _ = _ from rfl)
        refine ⟨?_, ?_⟩
        · intro v w' hj hd hs K hK
          have t8 : v 8 = _ := hd.out 8 (by kernel_rfl)
          obtain ⟨x0, x1⟩ := box2 hj.out.box
          have hk := hK.out
          simp only [t8, Act.put, List.setIfInBounds_toArray, List.set_cons_zero, List.set_cons_succ] at hk
          have HK := Lib.hid hk
          clear hd hs hk hK
          go_simp
          exact HK.out _ _ hj.out (Below.refl _ _) (show _ = _ from rfl)
        refine ⟨?_, ?_⟩
        · intro v w' hj hd hs K hK
          have t9 : v 9 = _ := hd.out 9 (by kernel_rfl)
          have hk := hK.out
          simp only [t9, Act.put, List.setIfInBounds_toArray, List.set_cons_zero, List.set_cons_succ] at hk
          have HK := Lib.hid hk
          clear hd hs hk hK
          go_simp
          exact HK.out _ _ (hj.out.next (below1 _ _)) (below1 _ _) ⟨_, rfl, At.new _ _ _, fun h => by have := hj.out.fan.lt HHA.out h; omega⟩
        refine ⟨?_, ?_⟩
        · intro v w' hj hd hs K hK
          have t7 : v 7 = _ := hd.out 7 (by kernel_rfl)
          obtain ⟨g10, t10, a10, n10⟩ : NewSl 3 1 [.int .i64 (e.b : Int)] (Value.ownBlock (.slice ra row.length rc)) (v 10) w' := hd.out 10 (by kernel_rfl)
          have hk := hK.out
          rw [if_pos (show Region.wanted _ _ = true from rfl)]
          simp only [t7, t10] at hk ⊢
          have HK := Lib.hid hk
          clear hd hs hk hK
          refine wp_append_where (.tmp 30) (.tmp 33) 42 rfl (w.heap.size + 1) 3 i2 _ 1 8 Try.underlying42 hi2 hx0 hx1 hx2 rfl (by omega) (.slice ra row.length rc) row.length (ncells row) rfl (hj.out.fan.rows _ _ _ HHA.out HFA.out) ⟨g10, 0, none⟩ 1 1 [.int .i64 (e.b : Int)] rfl rfl (At.news a10) (one1 rfl) (by unfold maxLen; omega) (by omega) hj.out.size fun v2 w2 o1 o2 g2 hwh => ?_
          exact HK.out _ _ (hj.out.grew HHA.out HFA.out HBB.out o2 g2) g2 ⟨o1, hj.out.fan.newApart HHA.out hwh⟩
        refine ⟨?_, ?_⟩
        · intro v w' hj hd hs K hK
          have t0 : v 0 = _ := hd.out 0 (by kernel_rfl)
          have t2 : v 2 = _ := hd.out 2 (by kernel_rfl)
          have hk := hK.out
          simp only [t0, t2, Act.put, List.setIfInBounds_toArray, List.set_cons_zero, List.set_cons_succ] at hk
          have HK := Lib.hid hk
          clear hd hs hk hK
          go_simp
          exact HK.out _ _ hj.out (Below.refl _ _) (show _ = _ from rfl)
        trivial
      case hlast =>
        intro v w' hj hd K hK
        have t11 : OwnAp (w.heap.size + 1) (row.length + 1) (ncells row ++ [.int .i64 (e.b : Int)]) hs e.a (v 11) w' := hd.out 11 (of_decide_eq_true (by kernel_rfl))
        have t12 : v 12 = _ := hd.out 12 (of_decide_eq_true (by kernel_rfl))
        obtain ⟨vb, vd, hvb⟩ := own_len t11.1
        have y0 := (hj.out.fan.cells.cell e.a).trans HCE.out
        have yf := hj.out.fan.cells.frozen e.a
        have hk := hK.out
        simp only [t11, t12, Act.put, List.setIfInBounds_toArray, List.set_cons_zero, List.set_cons_succ] at hk
        simp only [hvb] at hk
        have HK := Lib.hid hk
        clear hd hk hK
        go_simp
        refine HK.out _ ?_
        have e6 := hj.out
        rw [hvb] at t11
        have hf2 := e6.fan.put (by rw [HFL.out]; exact hea) (row := row ++ [e.b]) (by rw [ncells_snoc, List.length_append]; exact t11.1) t11.2
        have he2 := own_putne (p := ⟨w.heap.size + 1, e.a, none⟩) e6.es (own_far e6.es e6.fan.cells (by decide)) (.slice vb (row.length + 1) vd)
        have hb2 := e6.below.setCell (p := ⟨w.heap.size + 1, e.a, none⟩) (Nat.le_trans HBB.out e6.fan.low) (.slice vb (row.length + 1) vd)
        clear t11 t12 hvb hj y0 yf HK e6
        go_wp2_with fail
        exact ⟨⟨m + 1, _, _, by omega, by go_num, HF2, hf2, he2, hb2⟩, by simp [intOf]; omega⟩
    · have d2 : decide ((m : Int) < (es.length : Int)) = false := by simp; omega
      have HFE := Lib.hid (show F = (List.range n).map (Tj.next es) by rw [HF.out, List.take_of_length_le (by omega)])
      go_wp2_with fail
      go_ret
      exact ⟨w.heap.size + 1, hs, rfl, by rw [← HFE.out]; exact ⟨hfan.cells, by omega, hfan.len, fun a u row h1 h2 => own_mono (hfan.rows a u row h1 h2) (by omega), hfan.apart⟩, hbw⟩
end Go.Proofs.Ytljlihimmcmlmaa
