/- The walk of the closure that visits the nodes. -/
import Derived.Test.YtljlihimmcmlmaaTVn
import Derived.Test.YtljlihimmcmlmaaInv5
namespace Go.Proofs.Ytljlihimmcmlmaa
set_option linter.unusedVariables false
set_option linter.unusedSimpArgs false
open Go.RowKit
/-- What a visit leaves. -/
def VisOut (T : Nat) (w0 : World) (k : Nat → Nat) (n ge : Nat) (t : Tj.St) (e : Ending) (w' : World) : Prop := e = .returned (.tuple #[]) ∧ t.cnt + Tj.unv n t ≤ n ∧ ∃ sv ov hs, TS T w0 k n ge t.cnt t.idx t.low t.opn t.of sv t.stk ov hs t.out w'
def kargs (k : Nat → Nat) (a : Nat) : Array Value := #[.int .i64 (a : Int), .pointer (some ⟨k 0, 0, none⟩), .pointer (some ⟨k 1, 0, none⟩), .pointer (some ⟨k 2, 0, none⟩), .pointer (some ⟨k 3, 0, none⟩), .pointer (some ⟨k 4, 0, none⟩), .pointer (some ⟨k 5, 0, none⟩), .pointer (some ⟨k 6, 0, none⟩), .pointer (some ⟨k 7, 0, none⟩), .pointer (some ⟨k 8, 0, none⟩)]
section
variable {T : Nat} {w0 : World} {k : Nat → Nat} {n ge cnt : Nat} {idx low : List Nat} {opn : List Bool} {of : List Nat} {sv : Value} {stk : List Nat} {ov : Value} {hs : List Value} {out : List (List Nat)} {W W' : World}
/-- The captured cells as they are read. -/
theorem TS.heads (h : TS T w0 k n ge cnt idx low opn of sv stk ov hs out W) : W.cell? ⟨k 0, 0, none⟩ = some (.int .i64 (cnt : Int)) ∧ W.cell? ⟨k 1, 0, none⟩ = some (.slice (some ⟨k 9, 0, none⟩) n n) ∧ W.cell? ⟨k 2, 0, none⟩ = some (.slice (some ⟨k 10, 0, none⟩) n n) ∧ W.cell? ⟨k 3, 0, none⟩ = some (.slice (some ⟨k 11, 0, none⟩) n n) ∧ W.cell? ⟨k 4, 0, none⟩ = some sv ∧ W.cell? ⟨k 5, 0, none⟩ = some (.slice (some ⟨ge, 0, none⟩) n n) ∧ W.cell? ⟨k 6, 0, none⟩ = some (visF k) ∧ W.cell? ⟨k 7, 0, none⟩ = some ov ∧ W.cell? ⟨k 8, 0, none⟩ = some (.slice (some ⟨k 12, 0, none⟩) n n) :=
  ⟨h.c0.cell 0, h.c1.cell 0, h.c2.cell 0, h.c3.cell 0, h.c4.cell 0, h.c5.cell 0, h.c6.cell 0, h.c7.cell 0, h.c8.cell 0⟩
theorem TS.froz (h : TS T w0 k n ge cnt idx low opn of sv stk ov hs out W) : W.frozen? ⟨k 0, 0, none⟩ = false ∧ W.frozen? ⟨k 4, 0, none⟩ = false ∧ W.frozen? ⟨k 7, 0, none⟩ = false :=
  ⟨h.c0.frozen 0, h.c4.frozen 0, h.c7.frozen 0⟩
end
theorem wpList_append_where {P : Program} {w : World} {ops : Array Oper} {rest : List Oper} {o : Oper} {a : Act} {Q : Exit → Act → World → Prop} (hgd : o.guard = none) (s x : Operand) (t : TypeId)
    (ho : o.op = .call { callee := .builtin .append, args := #[s, x], argTypes := #[t, t] })
    (base : Nat) (e : TypeId) (i : TypeInfo) (z : Value) (size bytes : Nat) (ht : P.underlying t = some (.slice e)) (hi : P.info? e = some i) (hz : i.zero = some z)
    (hsize : i.size = size) (hby : i.bytes = bytes) (hzs : z.cells.size = size) (hsz : 0 < size)
    (v : Value) (n : Nat) (xs : List Value) (hs : a.eval s = v) (hown : w.ownsRow base e size v n xs)
    (ad : Addr) (m c : Nat) (news : List Value) (hx : a.eval x = .slice (some ad) m c) (hl : news.length = m * size) (hnews : ∀ j u, news[j]? = some u → w.cell? (ad.add j) = some u) (h1 : ∀ u ∈ news, u.oneCell' = true)
    (h63 : n + m ≤ maxLen) (hbytes : (n + m) * bytes ≤ 140737488355328) (hbase : base ≤ w.heap.size)
    (h : ∀ v' w', w'.ownsRow base e size v' (n + m) (xs ++ news) → w'.ownsRow base e size v n xs → w.grownBy w' v.ownBlock → (∀ q, v'.ownBlock = some q → v.ownBlock = some q ∨ w.heap.size ≤ q) → wpList P ops Q rest (a.put o.dst v') w') : wpList P ops Q (o :: rest) a w :=
  wpList_plain hgd fun _ hK => wp_append_where s x t ho base e i z size bytes ht hi hz hsize hby hzs hsz v n xs hs hown ad m c news hx hl hnews h1 h63 hbytes hbase fun v' w' h2 h3 h4 h5 => hK _ _ (h v' w' h2 h3 h4 h5)
/-- The stack grows by one node. -/
theorem TS.push {T : Nat} {w0 : World} {k : Nat → Nat} {n ge cnt : Nat} {idx low : List Nat} {opn : List Bool} {of : List Nat} {sv : Value} {stk : List Nat} {ov : Value} {hs : List Value} {out : List (List Nat)} {W W' : World} (h : TS T w0 k n ge cnt idx low opn of sv stk ov hs out W) (hk : KOk w0.heap.size T k) {v : Value} {x : Nat}
    (ho : W'.ownsRow T 3 1 v (stk.length + 1) (ncells stk ++ [.int .i64 (x : Int)])) (hkeep : W'.ownsRow T 3 1 sv stk.length (ncells stk)) (hg : W.grownBy W' sv.ownBlock) (hw : ∀ q, v.ownBlock = some q → sv.ownBlock = some q ∨ W.heap.size ≤ q) :
    TS T w0 k n ge cnt idx low opn of sv stk ov hs out W' ∧ TS T w0 k n ge cnt idx low opn of v (stk ++ [x]) ov hs out (W'.setCell ⟨k 4, 0, none⟩ v) := by
  have huo : LsOwn W' T ov hs out := h.uo.grown hg (own_apart h.uo.own h.so (by decide)) (fun u hu b hb => h.ap u hu b hb)
  have h1 := h.grew hk hg (fun q hq => (own_lt h.so hq).1) hkeep huo
  refine ⟨h1, h1.setStk hk (by rw [List.length_append, ncells_snoc]; exact ho) fun u hu q hq hv => ?_⟩
  rcases hw q hv with h2 | h2
  · exact h.ap u hu q hq h2
  · obtain ⟨j, hj⟩ := List.getElem?_of_mem hu
    have hl := h.uo.len
    have hlt := (List.getElem?_eq_some_iff.1 hj).1
    have := (own_lt (h.uo.rows j u _ hj (List.getElem?_eq_getElem (show j < out.length by omega))) hq).2
    omega
theorem set_twice {α : Type} (l : List α) (b : Nat) (x : α) {n : Nat} (hl : l.length = n) : ∀ f, (f = l ∨ f = l.set b x) → f.length = n ∧ f.set b x = l.set b x := fun f hf => by
  rcases hf with rfl | rfl
  · exact ⟨hl, rfl⟩
  · exact ⟨by rw [List.length_set]; exact hl, by simp⟩
theorem min_nat (la lb : Nat) : min (la : Int) (lb : Int) = ((min la lb : Nat) : Int) := by omega
theorem min_if (la lb : Nat) : (if lb < la then (lb : Int) else (la : Int)) = ((min la lb : Nat) : Int) := by split <;> omega
def SetAt (b o : Nat) (v : Value) (W W' : World) : Prop := W' = W.setCell ⟨b, o, none⟩ v
/-- On the way through the statement that opens a node. -/
def VJ (T : Nat) (w0 : World) (k : Nat → Nat) (n ge cnt : Nat) (idx idx2 low low2 : List Nat) (opn opn2 : List Bool) (of : List Nat) (sv : Value) (stk : List Nat) (ov : Value) (hs : List Value) (out : List (List Nat)) (W : World) : Prop :=
  ∃ i l o, (i = idx ∨ i = idx2) ∧ (l = low ∨ l = low2) ∧ (o = opn ∨ o = opn2) ∧ TS T w0 k n ge cnt i l o of sv stk ov hs out W
/-- On the way through the statement that closes a node. -/
def VJ2 (T : Nat) (w0 : World) (k : Nat → Nat) (n ge cnt : Nat) (idx low : List Nat) (opn opn2 : List Bool) (of of2 : List Nat) (sv : Value) (stk : List Nat) (ov : Value) (hs : List Value) (out : List (List Nat)) (B : Nat) (gv : Value) (q : List Nat) (W : World) : Prop :=
  ∃ f o, (f = of ∨ f = of2) ∧ (o = opn ∨ o = opn2) ∧ TS T w0 k n ge cnt idx low o f sv stk ov hs out W ∧ W.ownsRow B 3 1 gv q.length (ncells q)
theorem lasting_at_on {J : World → Prop} {b : Nat} {t : TypeId} {cs : Array Value} : Lasting J Onward (fun _ W => At W b t cs) := fun x w w' _ hb h => h.next hb
theorem lasting_at_set {J : World → Prop} {b b' o : Nat} {t : TypeId} {cs : Array Value} {v : Value} (hne : b ≠ b') : Lasting J (SetAt b' o v) (fun _ W => At W b t cs) := fun x w w' _ hb h => by
  unfold SetAt at hb
  subst hb
  exact h.far hne v
theorem nodup_le {l : List Nat} {n : Nat} (h : l.Nodup) (hl : ∀ x ∈ l, x < n) : l.length ≤ n := by
  have h1 := h.length_le_of_subset (fun x hx => List.mem_range.2 (hl x hx)) (l₂ := List.range n)
  simpa using h1
theorem stk_len {g : Tj.G} {n : Nat} {gr : List Nat} {t : Tj.St} (h : Tj.Inv g n gr t) : t.stk.length ≤ n :=
  nodup_le (h.asc.imp (fun {a b} hlt e => by subst e; omega)) (fun x hx => (h.stk x hx).1)
theorem Tj.sortN_len (l : List Nat) : (Tj.sortN l).length = l.length := (Tj.sortN_perm l).length_eq
theorem heads_nodup {α : Type} {l : List (List α)} (hne : ∀ (k : Nat) (c : List α), l[k]? = some c → c ≠ []) : ∃ hd : List α, hd.length = l.length ∧ ∀ (k : Nat) (x : α), hd[k]? = some x → ∃ c, l[k]? = some c ∧ x ∈ c := by
  obtain ⟨hd, h1, h2⟩ := list_of (P := fun k x => ∃ c, l[k]? = some c ∧ x ∈ c) l.length (fun i hi => by
    have h := List.getElem?_eq_getElem hi
    have := hne i _ h
    obtain ⟨x, hx⟩ := List.exists_mem_of_ne_nil _ this
    exact ⟨x, _, h, hx⟩)
  exact ⟨hd, h1, h2⟩
theorem out_len {g : Tj.G} {n : Nat} {gr : List Nat} {t : Tj.St} (h : Tj.Inv g n gr t) : t.out.length ≤ n := by
  obtain ⟨hd, h1, h2⟩ := heads_nodup (l := t.out) (fun k c hc => (h.comp k c hc).1)
  rw [← h1]
  refine nodup_le ?_ (fun x hx => ?_)
  · refine List.pairwise_iff_getElem.2 fun i j hi hj hij e => ?_
    obtain ⟨c, hc, hxc⟩ := h2 j _ (List.getElem?_eq_getElem hj)
    obtain ⟨d, hd2, hxd⟩ := h2 i _ ((List.getElem?_eq_getElem hi).trans (by rw [e]))
    have e1 := ((h.comp j c hc).2.2 _ hxc).2.1
    have e2 := ((h.comp i d hd2).2.2 _ hxd).2.1
    omega
  · obtain ⟨k, hk⟩ := List.getElem?_of_mem hx
    obtain ⟨c, hc, hxc⟩ := h2 k x hk
    exact ((h.comp k c hc).2.2 x hxc).1
set_option maxHeartbeats 2000000 in
set_option maxRecDepth 100000 in
theorem visit_any (T : Nat) (w0 : World) (k : Nat → Nat) (n ge : Nat) (g : Tj.G) (hk : KOk w0.heap.size T k) (hn1 : n ≤ 1000) (hg : ∀ a < n, ∀ b ∈ g a, b < n)
    (hfan : ∀ a, a < n → ∃ A c, ∀ W, Below w0.heap.size w0 W → W.cell? ⟨ge, a, none⟩ = some (.slice A (g a).length c) ∧ NumsN W A (g a)) (hgl : ∀ a < n, (g a).length ≤ 1000000) :
    ∀ (f : Nat) (gr : List Nat) (t : Tj.St) (a : Nat) (sv ov : Value) (hs : List Value) (w : World), TS T w0 k n ge t.cnt t.idx t.low t.opn t.of sv t.stk ov hs t.out w → Tj.Inv g n gr t → a < n → t.I a = 0 → (∀ x ∈ gr, Tj.Reach g x a) → Tj.unv n t ≤ f → t.cnt + Tj.unv n t ≤ n →
      Calls Try.prog 44 (kargs k a) w (VisOut T w0 k n ge (Tj.visit g f t a)) := by
  intro f
  induction f with
  | zero =>
    intro gr t a sv ov hs w hts hinv ha h0 hr hf hc
    have := Tj.unv_lt (t := t) (u := Tj.enter t a) (n := n) (fun v hv => by rw [Tj.I_enter hinv.lidx ha]; split <;> omega) ha h0 (by rw [Tj.I_enter hinv.lidx ha, if_pos rfl]; omega)
    omega
  | succ f ih =>
    intro gr t a sv ov hs w hts hinv ha h0 hr hf hc
    obtain ⟨in2, hi2, hx0, hx1, hx2⟩ := info_of int_info
    obtain ⟨in1, hi1, hy0, hy1, hy2⟩ := info_of ints_info
    have IH := Lib.hid ih
    have HINV := Lib.hid hinv
    have HVD := Lib.hid (show Tj.visit g (f + 1) t a = if ((g a).foldl (Tj.one (Tj.visit g f) a) (Tj.enter t a)).L a ≠ ((g a).foldl (Tj.one (Tj.visit g f) a) (Tj.enter t a)).I a then (g a).foldl (Tj.one (Tj.visit g f) a) (Tj.enter t a) else Tj.close ((g a).foldl (Tj.one (Tj.visit g f) a) (Tj.enter t a)) a from rfl)
    obtain ⟨R, hR⟩ : ∃ R, Tj.visit g (f + 1) t a = R := ⟨_, rfl⟩
    rw [hR] at HVD ⊢
    clear hR ih hinv
    unfold kargs
    obtain ⟨ra, rc, hrow⟩ := hfan a ha
    have HROW := Lib.hid hrow
    have hgla := hgl a ha
    clear hrow
    obtain ⟨y0, y1, y2, y3, y4, y5, y6, y7, y8⟩ := hts.heads
    obtain ⟨f0, f4, f7⟩ := hts.froz
    have hts1 := hts.setCnt hk (t.cnt + 1)
    obtain ⟨w1, hw1⟩ : ∃ w1, w1 = w.setCell ⟨k 0, 0, none⟩ (.int .i64 ((t.cnt : Int) + 1)) := ⟨_, rfl⟩
    rw [show ((t.cnt + 1 : Nat) : Int) = (t.cnt : Int) + 1 from by omega, ← hw1] at hts1
    have HW1 := Lib.hid hw1
    have hcn : t.cnt < 1000 := by have := Tj.unv_lt (t := t) (u := Tj.enter t a) (n := n) (fun v hv => by rw [Tj.I_enter HINV.out.lidx ha]; split <;> omega) ha h0 (by rw [Tj.I_enter HINV.out.lidx ha, if_pos rfl]; omega); omega
    clear hw1
    go_enter Try.func44, Try.ntmps44
    go_wp2_with fail
    rw [← HW1.out]
    have HT1 := Lib.hid hts1
    have HLI := Lib.hid HINV.out.lidx
    have HLL := Lib.hid HINV.out.llow
    have HLO := Lib.hid HINV.out.lopn
    have i0 : (0 : Int) ≤ (a : Int) := by omega
    have i1 : (a : Int) < (n : Int) := by omega
    clear y0 y1 y2 y3 y4 y5 y6 y7 y8 f0 f4 f7 hts hts1
    have E9 : ∀ i, i ≠ 9 → Lasting (VJ T w0 k n ge (t.cnt + 1) t.idx (t.idx.set a (t.cnt + 1)) t.low (t.low.set a (t.cnt + 1)) t.opn (t.opn.set a true) t.of sv t.stk ov hs t.out) ((fun i => if i = 9 then SetAt (k 9) a (.int .i64 ((t.cnt + 1 : Nat) : Int)) else if i = 11 then SetAt (k 10) a (.int .i64 ((t.cnt + 1 : Nat) : Int)) else if i = 13 then SetAt (k 11) a (.bool true) else Onward) i) (fun _ W => At W (k 9) 3 (ncells (t.idx.set a (t.cnt + 1))).toArray) := fun i hne => by
      show Lasting _ (if i = 9 then _ else if i = 11 then _ else if i = 13 then _ else _) _
      rw [if_neg hne]
      split
      · exact lasting_at_set (hk.ne (by decide) (by decide) (by decide))
      · split
        · exact lasting_at_set (hk.ne (by decide) (by decide) (by decide))
        · exact lasting_at_on
    have E11 : ∀ i, i ≠ 11 → Lasting (VJ T w0 k n ge (t.cnt + 1) t.idx (t.idx.set a (t.cnt + 1)) t.low (t.low.set a (t.cnt + 1)) t.opn (t.opn.set a true) t.of sv t.stk ov hs t.out) ((fun i => if i = 9 then SetAt (k 9) a (.int .i64 ((t.cnt + 1 : Nat) : Int)) else if i = 11 then SetAt (k 10) a (.int .i64 ((t.cnt + 1 : Nat) : Int)) else if i = 13 then SetAt (k 11) a (.bool true) else Onward) i) (fun _ W => At W (k 10) 3 (ncells (t.low.set a (t.cnt + 1))).toArray) := fun i hne => by
      show Lasting _ (if i = 9 then _ else if i = 11 then _ else if i = 13 then _ else _) _
      split
      · exact lasting_at_set (hk.ne (by decide) (by decide) (by decide))
      · split
        · exact lasting_at_set (hk.ne (by decide) (by decide) (by decide))
        · exact lasting_at_on
    have E13 : ∀ i, i ≠ 13 → Lasting (VJ T w0 k n ge (t.cnt + 1) t.idx (t.idx.set a (t.cnt + 1)) t.low (t.low.set a (t.cnt + 1)) t.opn (t.opn.set a true) t.of sv t.stk ov hs t.out) ((fun i => if i = 9 then SetAt (k 9) a (.int .i64 ((t.cnt + 1 : Nat) : Int)) else if i = 11 then SetAt (k 10) a (.int .i64 ((t.cnt + 1 : Nat) : Int)) else if i = 13 then SetAt (k 11) a (.bool true) else Onward) i) (fun _ W => At W (k 11) 4 (bcells (t.opn.set a true))) := fun i hne => by
      show Lasting _ (if i = 9 then _ else if i = 11 then _ else if i = 13 then _ else _) _
      split
      · exact lasting_at_set (hk.ne (by decide) (by decide) (by decide))
      · split
        · exact lasting_at_set (hk.ne (by decide) (by decide) (by decide))
        · exact lasting_at_on
    refine' wp_region_rely _ (VJ T w0 k n ge (t.cnt + 1) t.idx (t.idx.set a (t.cnt + 1)) t.low (t.low.set a (t.cnt + 1)) t.opn (t.opn.set a true) t.of sv t.stk ov hs t.out) (fun i => if i = 9 then SetAt (k 9) a (.int .i64 ((t.cnt + 1 : Nat) : Int)) else if i = 11 then SetAt (k 10) a (.int .i64 ((t.cnt + 1 : Nat) : Int)) else if i = 13 then SetAt (k 11) a (.bool true) else Onward) (Vl :: Vl :: Vl :: Vl :: Vl :: Vl :: Vl :: Vl :: Vl :: (fun _ W => At W (k 9) 3 (ncells (t.idx.set a (t.cnt + 1))).toArray) :: Vl :: (fun _ W => At W (k 10) 3 (ncells (t.low.set a (t.cnt + 1))).toArray) :: Vl :: (fun _ W => At W (k 11) 4 (bcells (t.opn.set a true))) :: []) ?hF (by kernel_rfl) (by kernel_rfl) (by kernel_rfl) (⟨_, _, _, Or.inl rfl, Or.inl rfl, Or.inl rfl, HT1.out.next ((Below.refl _ _).drew)⟩) (⟨fun i _ _ => lasting_vl, ⟨fun i _ _ => lasting_vl, ⟨fun i _ _ => lasting_vl, ⟨fun i _ _ => lasting_vl, ⟨fun i _ _ => lasting_vl, ⟨fun i _ _ => lasting_vl, ⟨fun i _ _ => lasting_vl, ⟨fun i _ _ => lasting_vl, ⟨fun i _ _ => lasting_vl, ⟨fun i hne _ => E9 i hne, ⟨fun i _ _ => lasting_vl, ⟨fun i hne _ => E11 i hne, ⟨fun i _ _ => lasting_vl, ⟨fun i hne _ => E13 i hne, trivial⟩⟩⟩⟩⟩⟩⟩⟩⟩⟩⟩⟩⟩⟩) ?hops ?hend
    case hF => (intro v; simp only [over, Act.put, List.setIfInBounds_toArray, List.set_cons_zero, List.set_cons_succ, Nat.zero_add, Nat.reduceAdd]; exact rfl)
    case hops =>
      refine ⟨?_, ?_⟩
      · intro v w' hj hd hs K hK
        obtain ⟨i5, l5, o5, hi5, hl5, ho5, hT5⟩ := hj.out
        obtain ⟨y0, y1, y2, y3, y4, y5, y6, y7, y8⟩ := hT5.heads
        have hk := hK.out
        simp only [Act.put, List.setIfInBounds_toArray, List.set_cons_zero, List.set_cons_succ] at hk
        have HK := Lib.hid hk
        clear hd hs hk hK
        go_simp
        exact HK.out _ _ hj.out (Below.refl _ _) (show _ = _ from rfl)
      refine ⟨?_, ?_⟩
      · intro v w' hj hd hs K hK
        have hk := hK.out
        simp only [Act.put, List.setIfInBounds_toArray, List.set_cons_zero, List.set_cons_succ] at hk
        have HK := Lib.hid hk
        clear hd hs hk hK
        go_simp
        exact HK.out _ _ hj.out (Below.refl _ _) (show _ = _ from rfl)
      refine ⟨?_, ?_⟩
      · intro v w' hj hd hs K hK
        obtain ⟨i5, l5, o5, hi5, hl5, ho5, hT5⟩ := hj.out
        obtain ⟨y0, y1, y2, y3, y4, y5, y6, y7, y8⟩ := hT5.heads
        have hk := hK.out
        simp only [Act.put, List.setIfInBounds_toArray, List.set_cons_zero, List.set_cons_succ] at hk
        have HK := Lib.hid hk
        clear hd hs hk hK
        go_simp
        exact HK.out _ _ hj.out (Below.refl _ _) (show _ = _ from rfl)
      refine ⟨?_, ?_⟩
      · intro v w' hj hd hs K hK
        have hk := hK.out
        simp only [Act.put, List.setIfInBounds_toArray, List.set_cons_zero, List.set_cons_succ] at hk
        have HK := Lib.hid hk
        clear hd hs hk hK
        go_simp
        exact HK.out _ _ hj.out (Below.refl _ _) (show _ = _ from rfl)
      refine ⟨?_, ?_⟩
      · intro v w' hj hd hs K hK
        obtain ⟨i5, l5, o5, hi5, hl5, ho5, hT5⟩ := hj.out
        obtain ⟨y0, y1, y2, y3, y4, y5, y6, y7, y8⟩ := hT5.heads
        have hk := hK.out
        simp only [Act.put, List.setIfInBounds_toArray, List.set_cons_zero, List.set_cons_succ] at hk
        have HK := Lib.hid hk
        clear hd hs hk hK
        go_simp
        exact HK.out _ _ hj.out (Below.refl _ _) (show _ = _ from rfl)
      refine ⟨?_, ?_⟩
      · intro v w' hj hd hs K hK
        have hk := hK.out
        simp only [Act.put, List.setIfInBounds_toArray, List.set_cons_zero, List.set_cons_succ] at hk
        have HK := Lib.hid hk
        clear hd hs hk hK
        go_simp
        exact HK.out _ _ hj.out (Below.refl _ _) (show _ = _ from rfl)
      refine ⟨?_, ?_⟩
      · intro v w' hj hd hs K hK
        obtain ⟨i5, l5, o5, hi5, hl5, ho5, hT5⟩ := hj.out
        obtain ⟨y0, y1, y2, y3, y4, y5, y6, y7, y8⟩ := hT5.heads
        have hk := hK.out
        simp only [Act.put, List.setIfInBounds_toArray, List.set_cons_zero, List.set_cons_succ] at hk
        have HK := Lib.hid hk
        clear hd hs hk hK
        go_simp
        exact HK.out _ _ hj.out (Below.refl _ _) (show _ = _ from rfl)
      refine ⟨?_, ?_⟩
      · intro v w' hj hd hs K hK
        obtain ⟨i5, l5, o5, hi5, hl5, ho5, hT5⟩ := hj.out
        obtain ⟨y0, y1, y2, y3, y4, y5, y6, y7, y8⟩ := hT5.heads
        have hk := hK.out
        simp only [Act.put, List.setIfInBounds_toArray, List.set_cons_zero, List.set_cons_succ] at hk
        have HK := Lib.hid hk
        clear hd hs hk hK
        go_simp
        exact HK.out _ _ hj.out (Below.refl _ _) (show _ = _ from rfl)
      refine ⟨?_, ?_⟩
      · intro v w' hj hd hs K hK
        have t0 : v 0 = _ := hd.out 0 (by kernel_rfl)
        have t1 : v 1 = _ := hd.out 1 (by kernel_rfl)
        have hk := hK.out
        simp only [t0, t1, Act.put, List.setIfInBounds_toArray, List.set_cons_zero, List.set_cons_succ] at hk
        have HK := Lib.hid hk
        clear hd hs hk hK
        go_simp
        exact HK.out _ _ hj.out (Below.refl _ _) (show _ = _ from rfl)
      refine ⟨?_, ?_⟩
      · intro v w' hj hd hs K hK
        have t6 : v 6 = _ := hd.out 6 (by kernel_rfl)
        have t8 : v 8 = _ := hd.out 8 (by kernel_rfl)
        obtain ⟨i5, l5, o5, hi5, hl5, ho5, hT5⟩ := hj.out
        have yc := ncell hT5.c9 (j := a) (by rcases hi5 with rfl | rfl <;> simp [HLI.out] <;> exact ha)
        have yf := hT5.c9.frozen a
        have es : i5.set a (t.cnt + 1) = t.idx.set a (t.cnt + 1) := by rcases hi5 with rfl | rfl <;> simp
        have hs5 := hT5.setIdx hk a (t.cnt + 1)
        rw [es] at hs5
        have HS5 := Lib.hid hs5
        clear es hs5 hi5
        have hk := hK.out
        simp only [t6, t8, Act.put, List.setIfInBounds_toArray, List.set_cons_zero, List.set_cons_succ] at hk
        have HK := Lib.hid hk
        clear hd hs hk hK
        go_simp
        exact HK.out undef _ ⟨_, l5, o5, Or.inr rfl, hl5, ho5, HS5.out⟩ rfl HS5.out.c9
      refine ⟨?_, ?_⟩
      · intro v w' hj hd hs K hK
        have t2 : v 2 = _ := hd.out 2 (by kernel_rfl)
        have t3 : v 3 = _ := hd.out 3 (by kernel_rfl)
        have hk := hK.out
        simp only [t2, t3, Act.put, List.setIfInBounds_toArray, List.set_cons_zero, List.set_cons_succ] at hk
        have HK := Lib.hid hk
        clear hd hs hk hK
        go_simp
        exact HK.out _ _ hj.out (Below.refl _ _) (show _ = _ from rfl)
      refine ⟨?_, ?_⟩
      · intro v w' hj hd hs K hK
        have t7 : v 7 = _ := hd.out 7 (by kernel_rfl)
        have t10 : v 10 = _ := hd.out 10 (by kernel_rfl)
        obtain ⟨i5, l5, o5, hi5, hl5, ho5, hT5⟩ := hj.out
        have yc := ncell hT5.c10 (j := a) (by rcases hl5 with rfl | rfl <;> simp [HLL.out] <;> exact ha)
        have yf := hT5.c10.frozen a
        have es : l5.set a (t.cnt + 1) = t.low.set a (t.cnt + 1) := by rcases hl5 with rfl | rfl <;> simp
        have hs5 := hT5.setLow hk a (t.cnt + 1)
        rw [es] at hs5
        have HS5 := Lib.hid hs5
        clear es hs5 hl5
        have hk := hK.out
        simp only [t7, t10, Act.put, List.setIfInBounds_toArray, List.set_cons_zero, List.set_cons_succ] at hk
        have HK := Lib.hid hk
        clear hd hs hk hK
        go_simp
        exact HK.out undef _ ⟨i5, _, o5, hi5, Or.inr rfl, ho5, HS5.out⟩ rfl HS5.out.c10
      refine ⟨?_, ?_⟩
      · intro v w' hj hd hs K hK
        have t4 : v 4 = _ := hd.out 4 (by kernel_rfl)
        have t5 : v 5 = _ := hd.out 5 (by kernel_rfl)
        have hk := hK.out
        simp only [t4, t5, Act.put, List.setIfInBounds_toArray, List.set_cons_zero, List.set_cons_succ] at hk
        have HK := Lib.hid hk
        clear hd hs hk hK
        go_simp
        exact HK.out _ _ hj.out (Below.refl _ _) (show _ = _ from rfl)
      refine ⟨?_, ?_⟩
      · intro v w' hj hd hs K hK
        have t12 : v 12 = _ := hd.out 12 (by kernel_rfl)
        obtain ⟨i5, l5, o5, hi5, hl5, ho5, hT5⟩ := hj.out
        have yc := bcell hT5.c11 (j := a) (by rcases ho5 with rfl | rfl <;> simp [HLO.out] <;> exact ha)
        have yf := hT5.c11.frozen a
        have es : o5.set a true = t.opn.set a true := by rcases ho5 with rfl | rfl <;> simp
        have hs5 := hT5.setOpn hk a true
        rw [es] at hs5
        have HS5 := Lib.hid hs5
        clear es hs5 ho5
        have hk := hK.out
        simp only [t12, Act.put, List.setIfInBounds_toArray, List.set_cons_zero, List.set_cons_succ] at hk
        have HK := Lib.hid hk
        clear hd hs hk hK
        go_simp
        exact HK.out undef _ ⟨i5, l5, _, hi5, hl5, Or.inr rfl, HS5.out⟩ rfl HS5.out.c11
      trivial
    case hend =>
      intro vv w2 hj hd
      have h9 : At w2 (k 9) 3 (ncells (t.idx.set a (t.cnt + 1))).toArray := hd.out 9 (of_decide_eq_true (by kernel_rfl))
      have h11 : At w2 (k 10) 3 (ncells (t.low.set a (t.cnt + 1))).toArray := hd.out 11 (of_decide_eq_true (by kernel_rfl))
      have h13 : At w2 (k 11) 4 (bcells (t.opn.set a true)) := hd.out 13 (of_decide_eq_true (by kernel_rfl))
      obtain ⟨i5, l5, o5, _, _, _, hT5⟩ := hj.out
      have hT2 : TS T w0 k n ge (t.cnt + 1) (t.idx.set a (t.cnt + 1)) (t.low.set a (t.cnt + 1)) (t.opn.set a true) t.of sv t.stk ov hs t.out w2 := { hT5 with c9 := h9, c10 := h11, c11 := h13 }
      have HT2 := Lib.hid hT2
      obtain ⟨sa, sc, rfl⟩ := own_len hT2.so
      obtain ⟨y0, y1, y2, y3, y4, y5, y6, y7, y8⟩ := hT2.heads
      have HSL := Lib.hid (show t.stk.length ≤ n from stk_len HINV.out)
      have hsl := HSL.out
      have hsz := hT2.size
      have hTA := hT2.next (below1 _ (.cells #[.int .i64 (a : Int)] 3))
      have HTA := Lib.hid hTA
      have z4 := hT2.c4.lt
      clear hj hd h9 h11 h13 hT5 hT2
      go_wp2_with (at_builtin; refine wpList_append_where rfl _ _ 42 rfl T 3 in2 (.int .i64 0) 1 8 Try.underlying42 hi2 hx0 hx1 hx2 rfl (by decide) _ _ _ rfl hTA.so ⟨w2.heap.size, 0, none⟩ 1 1 [.int .i64 (a : Int)] rfl rfl (At.news (xs := [.int .i64 (a : Int)]) (At.new w2 3 _)) (one1 rfl) (by unfold maxLen; omega) (by omega) HTA.out.size ?_; intro v3 w3 o3 k3 g3 wh3; obtain ⟨va3, vc3, rfl⟩ := own_len o3; obtain ⟨hTB, hTC⟩ := HTA.out.push hk o3 k3 g3 (fun q hq => wh3 q hq); clear y0 y1 y2 y3 y4 y5 y6 y7 y8 hTA o3 k3 g3 wh3; obtain ⟨y0, y1, y2, y3, y4, y5, y6, y7, y8⟩ := hTB.heads; obtain ⟨f0, f4, f7⟩ := hTB.froz; obtain ⟨z0, z1, z2, z3, z4, z5, z6, z7, z8⟩ := hTC.heads; have z9 := (HROW.out _ hTC.below).1)
      have HTC := Lib.hid hTC
      have hmid := Tj.mid_enter HINV.out ha h0 hr
      have HEN := Lib.hid (show (Tj.enter t a).cnt + Tj.unv n (Tj.enter t a) ≤ n by
        have := Tj.unv_lt (t := t) (u := Tj.enter t a) (n := n) (fun v hv => by rw [Tj.I_enter HINV.out.lidx ha]; split <;> omega) ha h0 (by rw [Tj.I_enter HINV.out.lidx ha, if_pos rfl]; omega)
        show t.cnt + 1 + _ ≤ n
        omega)
      clear y0 y1 y2 y3 y4 y5 y6 y7 y8 z0 z1 z2 z3 z4 z5 z6 z7 z8 z9 f0 f4 f7 hTB hTC E9 E11 E13
      go_loopw [12, 39, 43, 64] (fun _ i _ _ wr => ∃ (j : Nat) (u : Tj.St) (sv ov : Value) (hs : List Value), j ≤ (g a).length ∧ i = .int .i64 j ∧ Hid (u = ((g a).take j).foldl (Tj.one (Tj.visit g f) a) (Tj.enter t a)) ∧ TS T w0 k n ge u.cnt u.idx u.low u.opn u.of sv u.stk ov hs u.out wr ∧ Hid (Tj.Mid g n gr t a ((g a).take j) u) ∧ u.cnt + Tj.unv n u ≤ n) (fun _ i _ _ _ => (g a).length - (intOf i).toNat)
      case atStart => exact ⟨0, Tj.enter t a, _, _, _, by omega, rfl, Lib.hid rfl, HTC.out, Lib.hid hmid, HEN.out⟩
      case round =>
        clear HTC hmid HEN
        obtain ⟨j, u, sv, ov, hs, hj, rfl, HU, hT, HM, hcu⟩ := hrel
        obtain ⟨y0, y1, y2, y3, y4, y5, y6, y7, y8⟩ := hT.heads
        by_cases h1 : j < (g a).length
        · have d1 : decide ((j : Int) < ((g a).length : Int)) = true := by simp; omega
          obtain ⟨b, hb⟩ : ∃ b, (g a)[j]? = some b := ⟨_, List.getElem?_eq_getElem h1⟩
          have hbn : b < n := hg a ha b (List.mem_of_getElem? hb)
          have hbm : b ∈ g a := List.mem_of_getElem? hb
          obtain ⟨gx, ox, rfl, hgx, cx⟩ := (HROW.out wr hT.below).2.at hb
          have j0 : (0 : Int) ≤ (j : Int) := by omega
          have j1 : (j : Int) < ((g a).length : Int) := by omega
          have j2 : (0 : Int) ≤ (b : Int) := by omega
          have j3 : (b : Int) < (n : Int) := by omega
          have hgr : ∀ x ∈ gr ++ [a], Tj.Reach g x b := fun x hx => by
            rcases List.mem_append.1 hx with h | h
            · exact (hr x h).snoc hbm
            · simp at h; subst h; exact Tj.Reach.one hbm
          have huf : Tj.unv n u ≤ f := by
            have := Tj.unv_lt (n := n) (t := t) (u := u) (fun v hv => by rw [HM.out.keepI v hv]; exact hv) ha h0 (by rw [HM.out.ia]; omega)
            omega
          have HPO := Lib.hid (fun hz => Tj.visit_post hg f (gr ++ [a]) u b HM.out.inv hbn hz hgr huf)
          have HST := Lib.hid (show Tj.Mid g n gr t a ((g a).take (j + 1)) (Tj.one (Tj.visit g f) a u b) by
            rw [take_more hb]; exact HM.out.step HINV.out h0 ha hbm HPO.out)
          have HU2 := Lib.hid (show Tj.one (Tj.visit g f) a u b = ((g a).take (j + 1)).foldl (Tj.one (Tj.visit g f) a) (Tj.enter t a) by
            rw [take_more hb, List.foldl_append, ← HU.out]; rfl)
          have yi := ncell hT.c9 (j := b) (by rw [HM.out.inv.lidx]; exact hbn)
          have yo := bcell hT.c11 (j := b) (by rw [HM.out.inv.lopn]; exact hbn)
          obtain ⟨iv, hiv⟩ : ∃ x, u.idx.getD b 0 = x := ⟨_, rfl⟩
          obtain ⟨bo, hbo⟩ : ∃ x, u.opn.getD b false = x := ⟨_, rfl⟩
          rw [hiv] at yi
          rw [hbo] at yo
          have hone : Tj.one (Tj.visit g f) a u b = if iv = 0 then Tj.lower (Tj.visit g f u b) a ((Tj.visit g f u b).L b) else if bo = true then Tj.lower u a iv else u := by
            rw [← hiv, ← hbo]; rfl
          have HIV := Lib.hid hiv
          clear hiv hbo hb
          by_cases hz : iv = 0
          · have t1 : ((iv : Int) == 0) = true := by rw [beq_iff_eq]; omega
            rw [if_pos hz] at hone
            have HON := Lib.hid hone
            have HIB := Lib.hid (show u.I b = 0 from HIV.out.trans hz)
            clear hone hz
            have HC := Lib.hid (IH.out (gr ++ [a]) u b sv ov hs wr hT HM.out.inv hbn HIB.out hgr huf hcu)
            unfold kargs at HC
            unfold visF at y6
            go_wp2_with fail
            refine HC.out.mono ?_
            rintro e w5 ⟨rfl, hc5, sv5, ov5, hs5, hT5⟩
            have hp5 := HPO.out HIB.out
            generalize Tj.visit g f u b = u2 at *
            have HLL2 := Lib.hid hp5.inv.llow
            obtain ⟨la, hla⟩ : ∃ x, u2.low.getD a 0 = x := ⟨_, rfl⟩
            obtain ⟨lb, hlb⟩ : ∃ x, u2.low.getD b 0 = x := ⟨_, rfl⟩
            have HLA := Lib.hid hla
            have HLB := Lib.hid hlb
            have HON2 := Lib.hid (show Tj.one (Tj.visit g f) a u b = { u2 with low := u2.low.set a (min la lb) } by rw [HON.out]; unfold Tj.lower Tj.St.L; rw [hla, hlb])
            have HT5 := Lib.hid hT5
            clear hla hlb HON hT5 y0 y1 y2 y3 y4 y5 y6 y7 y8 yi yo hT hp5
            go_wp2_with fail
            refine' wp_region_last 12 _ _ (TS T w0 k n ge u2.cnt u2.idx u2.low u2.opn u2.of sv5 u2.stk ov5 hs5 u2.out) (Onward) (Vl :: Vl :: Vl :: Vl :: Vl :: Vl :: Vl :: Vl :: Vl :: Vl :: Vl :: Vl :: []) ?hF (by kernel_rfl) (by kernel_rfl) (by kernel_rfl) (by rfl) (by rfl) (by rfl) (by kernel_rfl) (HT5.out.next ((Below.refl _ _).drew)) (lasting_cons (lasting_vl) (lasting_cons (lasting_vl) (lasting_cons (lasting_vl) (lasting_cons (lasting_vl) (lasting_cons (lasting_vl) (lasting_cons (lasting_vl) (lasting_cons (lasting_vl) (lasting_cons (lasting_vl) (lasting_cons (lasting_vl) (lasting_cons (lasting_vl) (lasting_cons (lasting_vl) (lasting_cons (lasting_vl) (lasting_none))))))))))))) ?hops ?hlast
            case hF => (intro v; simp only [over, Act.put, List.setIfInBounds_toArray, List.set_cons_zero, List.set_cons_succ, Nat.zero_add, Nat.reduceAdd]; exact rfl)
            case hops =>
              refine ⟨?_, ?_⟩
              · intro v w' hj hd hs K hK
                obtain ⟨y0, y1, y2, y3, y4, y5, y6, y7, y8⟩ := hj.out.heads
                have hk := hK.out
                simp only [Act.put, List.setIfInBounds_toArray, List.set_cons_zero, List.set_cons_succ] at hk
                have HK := Lib.hid hk
                clear hd hs hk hK
                go_simp
                exact HK.out _ _ hj.out (Below.refl _ _) (show _ = _ from rfl)
              refine ⟨?_, ?_⟩
              · intro v w' hj hd hs K hK
                have hk := hK.out
                simp only [Act.put, List.setIfInBounds_toArray, List.set_cons_zero, List.set_cons_succ] at hk
                have HK := Lib.hid hk
                clear hd hs hk hK
                go_simp
                exact HK.out _ _ hj.out (Below.refl _ _) (show _ = _ from rfl)
              refine ⟨?_, ?_⟩
              · intro v w' hj hd hs K hK
                obtain ⟨y0, y1, y2, y3, y4, y5, y6, y7, y8⟩ := hj.out.heads
                have hk := hK.out
                simp only [Act.put, List.setIfInBounds_toArray, List.set_cons_zero, List.set_cons_succ] at hk
                have HK := Lib.hid hk
                clear hd hs hk hK
                go_simp
                exact HK.out _ _ hj.out (Below.refl _ _) (show _ = _ from rfl)
              refine ⟨?_, ?_⟩
              · intro v w' hj hd hs K hK
                have hk := hK.out
                simp only [Act.put, List.setIfInBounds_toArray, List.set_cons_zero, List.set_cons_succ] at hk
                have HK := Lib.hid hk
                clear hd hs hk hK
                go_simp
                exact HK.out _ _ hj.out (Below.refl _ _) (show _ = _ from rfl)
              refine ⟨?_, ?_⟩
              · intro v w' hj hd hs K hK
                have t2 : v 2 = _ := hd.out 2 (by kernel_rfl)
                have t3 : v 3 = _ := hd.out 3 (by kernel_rfl)
                have hk := hK.out
                simp only [t2, t3, Act.put, List.setIfInBounds_toArray, List.set_cons_zero, List.set_cons_succ] at hk
                have HK := Lib.hid hk
                clear hd hs hk hK
                go_simp
                exact HK.out _ _ hj.out (Below.refl _ _) (show _ = _ from rfl)
              refine ⟨?_, ?_⟩
              · intro v w' hj hd hs K hK
                have t4 : v 4 = _ := hd.out 4 (by kernel_rfl)
                have yc := ncell hj.out.c10 (j := a) (by rw [HLL2.out]; exact ha)
                rw [HLA.out] at yc
                have hk := hK.out
                simp only [t4, Act.put, List.setIfInBounds_toArray, List.set_cons_zero, List.set_cons_succ] at hk
                have HK := Lib.hid hk
                clear hd hs hk hK
                go_simp
                exact HK.out _ _ hj.out (Below.refl _ _) (show _ = _ from rfl)
              refine ⟨?_, ?_⟩
              · intro v w' hj hd hs K hK
                obtain ⟨y0, y1, y2, y3, y4, y5, y6, y7, y8⟩ := hj.out.heads
                have hk := hK.out
                simp only [Act.put, List.setIfInBounds_toArray, List.set_cons_zero, List.set_cons_succ] at hk
                have HK := Lib.hid hk
                clear hd hs hk hK
                go_simp
                exact HK.out _ _ hj.out (Below.refl _ _) (show _ = _ from rfl)
              refine ⟨?_, ?_⟩
              · intro v w' hj hd hs K hK
                have hk := hK.out
                simp only [Act.put, List.setIfInBounds_toArray, List.set_cons_zero, List.set_cons_succ] at hk
                have HK := Lib.hid hk
                clear hd hs hk hK
                go_simp
                exact HK.out _ _ hj.out (Below.refl _ _) (show _ = _ from rfl)
              refine ⟨?_, ?_⟩
              · intro v w' hj hd hs K hK
                have t6 : v 6 = _ := hd.out 6 (by kernel_rfl)
                have t7 : v 7 = _ := hd.out 7 (by kernel_rfl)
                have hk := hK.out
                simp only [t6, t7, Act.put, List.setIfInBounds_toArray, List.set_cons_zero, List.set_cons_succ] at hk
                have HK := Lib.hid hk
                clear hd hs hk hK
                go_simp
                exact HK.out _ _ hj.out (Below.refl _ _) (show _ = _ from rfl)
              refine ⟨?_, ?_⟩
              · intro v w' hj hd hs K hK
                have t8 : v 8 = _ := hd.out 8 (by kernel_rfl)
                have yc := ncell hj.out.c10 (j := b) (by rw [HLL2.out]; exact hbn)
                rw [HLB.out] at yc
                have hk := hK.out
                simp only [t8, Act.put, List.setIfInBounds_toArray, List.set_cons_zero, List.set_cons_succ] at hk
                have HK := Lib.hid hk
                clear hd hs hk hK
                go_simp
                exact HK.out _ _ hj.out (Below.refl _ _) (show _ = _ from rfl)
              refine ⟨?_, ?_⟩
              · intro v w' hj hd hs K hK
                have t5 : v 5 = _ := hd.out 5 (by kernel_rfl)
                have t9 : v 9 = _ := hd.out 9 (by kernel_rfl)
                have hk := hK.out
                simp only [t5, t9, Act.put, List.setIfInBounds_toArray, List.set_cons_zero, List.set_cons_succ] at hk
                have HK := Lib.hid hk
                clear hd hs hk hK
                go_simp
                exact HK.out _ _ hj.out (Below.refl _ _) (show _ = _ from rfl)
              refine ⟨?_, ?_⟩
              · intro v w' hj hd hs K hK
                have t0 : v 0 = _ := hd.out 0 (by kernel_rfl)
                have t1 : v 1 = _ := hd.out 1 (by kernel_rfl)
                have hk := hK.out
                simp only [t0, t1, Act.put, List.setIfInBounds_toArray, List.set_cons_zero, List.set_cons_succ] at hk
                have HK := Lib.hid hk
                clear hd hs hk hK
                go_simp
                exact HK.out _ _ hj.out (Below.refl _ _) (show _ = _ from rfl)
              trivial
            case hlast =>
              intro v w' hj hd K hK
              have t10 : v 10 = _ := hd.out 10 (of_decide_eq_true (by kernel_rfl))
              have t11 : v 11 = _ := hd.out 11 (of_decide_eq_true (by kernel_rfl))
              have yc := ncell hj.out.c10 (j := a) (by rw [HLL2.out]; exact ha)
              rw [HLA.out] at yc
              have yf := hj.out.c10.frozen a
              have hk := hK.out
              simp only [t10, t11, Act.put, List.setIfInBounds_toArray, List.set_cons_zero, List.set_cons_succ] at hk
              have HK := Lib.hid hk
              clear hd hk hK
              go_simp
              refine HK.out _ ?_
              have hs5 := hj.out.setLow hk a (min la lb)
              first | rw [min_nat] | rw [min_if]
              clear hj yc yf HK t10 t11
              generalize w'.setCell ⟨k 10, a, none⟩ (.int .i64 ((min la lb : Nat) : Int)) = w6 at hs5 ⊢
              have HS5 := Lib.hid hs5
              clear hs5
              go_wp2_with fail
              exact ⟨⟨j + 1, { u2 with low := u2.low.set a (min la lb) }, sv5, ov5, hs5, by omega, by go_num, Lib.hid (by rw [← HON2.out]; exact HU2.out), HS5.out, Lib.hid (by rw [← HON2.out]; exact HST.out), hc5⟩, by simp [intOf]; omega⟩
          · have t1 : ((iv : Int) == 0) = false := by rw [beq_eq_false_iff_ne]; omega
            rw [if_neg hz] at hone
            clear hz
            have HLL2 := Lib.hid HM.out.inv.llow
            have HLI2 := Lib.hid HM.out.inv.lidx
            cases bo
            · rw [if_neg (by decide)] at hone
              have HON := Lib.hid hone
              clear hone
              go_wp2_with fail
              go_roundw
              case rel => exact ⟨j + 1, u, sv, ov, hs, by omega, by go_num, Lib.hid (by rw [← HU2.out]; exact HON.out.symm), hT, Lib.hid (by have := HST.out; rw [HON.out] at this; exact this), hcu⟩
              case measure => simp [intOf]; omega
            · rw [if_pos rfl] at hone
              obtain ⟨la, hla⟩ : ∃ x, u.low.getD a 0 = x := ⟨_, rfl⟩
              have HLA := Lib.hid hla
              obtain ⟨lb, hlb⟩ : ∃ x, iv = x := ⟨_, rfl⟩
              subst hlb
              have HLB := HIV
              have HON2 := Lib.hid (show Tj.one (Tj.visit g f) a u b = { u with low := u.low.set a (min la iv) } by rw [hone]; unfold Tj.lower Tj.St.L; rw [hla])
              have HT5 := Lib.hid hT
              clear hla hone hT
              go_wp2_with fail
              clear y0 y1 y2 y3 y4 y5 y6 y7 y8 yi yo
              refine' wp_region_last 12 _ _ (TS T w0 k n ge u.cnt u.idx u.low u.opn u.of sv u.stk ov hs u.out) (Onward) (Vl :: Vl :: Vl :: Vl :: Vl :: Vl :: Vl :: Vl :: Vl :: Vl :: Vl :: Vl :: []) ?hF (by kernel_rfl) (by kernel_rfl) (by kernel_rfl) (by rfl) (by rfl) (by rfl) (by kernel_rfl) (HT5.out.next ((Below.refl _ _).drew)) (lasting_cons (lasting_vl) (lasting_cons (lasting_vl) (lasting_cons (lasting_vl) (lasting_cons (lasting_vl) (lasting_cons (lasting_vl) (lasting_cons (lasting_vl) (lasting_cons (lasting_vl) (lasting_cons (lasting_vl) (lasting_cons (lasting_vl) (lasting_cons (lasting_vl) (lasting_cons (lasting_vl) (lasting_cons (lasting_vl) (lasting_none))))))))))))) ?hops ?hlast
              case hF => (intro v; simp only [over, Act.put, List.setIfInBounds_toArray, List.set_cons_zero, List.set_cons_succ, Nat.zero_add, Nat.reduceAdd]; exact rfl)
              case hops =>
                refine ⟨?_, ?_⟩
                · intro v w' hj hd hs K hK
                  obtain ⟨y0, y1, y2, y3, y4, y5, y6, y7, y8⟩ := hj.out.heads
                  have hk := hK.out
                  simp only [Act.put, List.setIfInBounds_toArray, List.set_cons_zero, List.set_cons_succ] at hk
                  have HK := Lib.hid hk
                  clear hd hs hk hK
                  go_simp
                  exact HK.out _ _ hj.out (Below.refl _ _) (show _ = _ from rfl)
                refine ⟨?_, ?_⟩
                · intro v w' hj hd hs K hK
                  have hk := hK.out
                  simp only [Act.put, List.setIfInBounds_toArray, List.set_cons_zero, List.set_cons_succ] at hk
                  have HK := Lib.hid hk
                  clear hd hs hk hK
                  go_simp
                  exact HK.out _ _ hj.out (Below.refl _ _) (show _ = _ from rfl)
                refine ⟨?_, ?_⟩
                · intro v w' hj hd hs K hK
                  obtain ⟨y0, y1, y2, y3, y4, y5, y6, y7, y8⟩ := hj.out.heads
                  have hk := hK.out
                  simp only [Act.put, List.setIfInBounds_toArray, List.set_cons_zero, List.set_cons_succ] at hk
                  have HK := Lib.hid hk
                  clear hd hs hk hK
                  go_simp
                  exact HK.out _ _ hj.out (Below.refl _ _) (show _ = _ from rfl)
                refine ⟨?_, ?_⟩
                · intro v w' hj hd hs K hK
                  have hk := hK.out
                  simp only [Act.put, List.setIfInBounds_toArray, List.set_cons_zero, List.set_cons_succ] at hk
                  have HK := Lib.hid hk
                  clear hd hs hk hK
                  go_simp
                  exact HK.out _ _ hj.out (Below.refl _ _) (show _ = _ from rfl)
                refine ⟨?_, ?_⟩
                · intro v w' hj hd hs K hK
                  have t2 : v 2 = _ := hd.out 2 (by kernel_rfl)
                  have t3 : v 3 = _ := hd.out 3 (by kernel_rfl)
                  have hk := hK.out
                  simp only [t2, t3, Act.put, List.setIfInBounds_toArray, List.set_cons_zero, List.set_cons_succ] at hk
                  have HK := Lib.hid hk
                  clear hd hs hk hK
                  go_simp
                  exact HK.out _ _ hj.out (Below.refl _ _) (show _ = _ from rfl)
                refine ⟨?_, ?_⟩
                · intro v w' hj hd hs K hK
                  have t4 : v 4 = _ := hd.out 4 (by kernel_rfl)
                  have yc := ncell hj.out.c10 (j := a) (by rw [HLL2.out]; exact ha)
                  rw [HLA.out] at yc
                  have hk := hK.out
                  simp only [t4, Act.put, List.setIfInBounds_toArray, List.set_cons_zero, List.set_cons_succ] at hk
                  have HK := Lib.hid hk
                  clear hd hs hk hK
                  go_simp
                  exact HK.out _ _ hj.out (Below.refl _ _) (show _ = _ from rfl)
                refine ⟨?_, ?_⟩
                · intro v w' hj hd hs K hK
                  obtain ⟨y0, y1, y2, y3, y4, y5, y6, y7, y8⟩ := hj.out.heads
                  have hk := hK.out
                  simp only [Act.put, List.setIfInBounds_toArray, List.set_cons_zero, List.set_cons_succ] at hk
                  have HK := Lib.hid hk
                  clear hd hs hk hK
                  go_simp
                  exact HK.out _ _ hj.out (Below.refl _ _) (show _ = _ from rfl)
                refine ⟨?_, ?_⟩
                · intro v w' hj hd hs K hK
                  have hk := hK.out
                  simp only [Act.put, List.setIfInBounds_toArray, List.set_cons_zero, List.set_cons_succ] at hk
                  have HK := Lib.hid hk
                  clear hd hs hk hK
                  go_simp
                  exact HK.out _ _ hj.out (Below.refl _ _) (show _ = _ from rfl)
                refine ⟨?_, ?_⟩
                · intro v w' hj hd hs K hK
                  have t6 : v 6 = _ := hd.out 6 (by kernel_rfl)
                  have t7 : v 7 = _ := hd.out 7 (by kernel_rfl)
                  have hk := hK.out
                  simp only [t6, t7, Act.put, List.setIfInBounds_toArray, List.set_cons_zero, List.set_cons_succ] at hk
                  have HK := Lib.hid hk
                  clear hd hs hk hK
                  go_simp
                  exact HK.out _ _ hj.out (Below.refl _ _) (show _ = _ from rfl)
                refine ⟨?_, ?_⟩
                · intro v w' hj hd hs K hK
                  have t8 : v 8 = _ := hd.out 8 (by kernel_rfl)
                  have yc := ncell hj.out.c9 (j := b) (by rw [HLI2.out]; exact hbn)
                  rw [HLB.out] at yc
                  have hk := hK.out
                  simp only [t8, Act.put, List.setIfInBounds_toArray, List.set_cons_zero, List.set_cons_succ] at hk
                  have HK := Lib.hid hk
                  clear hd hs hk hK
                  go_simp
                  exact HK.out _ _ hj.out (Below.refl _ _) (show _ = _ from rfl)
                refine ⟨?_, ?_⟩
                · intro v w' hj hd hs K hK
                  have t5 : v 5 = _ := hd.out 5 (by kernel_rfl)
                  have t9 : v 9 = _ := hd.out 9 (by kernel_rfl)
                  have hk := hK.out
                  simp only [t5, t9, Act.put, List.setIfInBounds_toArray, List.set_cons_zero, List.set_cons_succ] at hk
                  have HK := Lib.hid hk
                  clear hd hs hk hK
                  go_simp
                  exact HK.out _ _ hj.out (Below.refl _ _) (show _ = _ from rfl)
                refine ⟨?_, ?_⟩
                · intro v w' hj hd hs K hK
                  have t0 : v 0 = _ := hd.out 0 (by kernel_rfl)
                  have t1 : v 1 = _ := hd.out 1 (by kernel_rfl)
                  have hk := hK.out
                  simp only [t0, t1, Act.put, List.setIfInBounds_toArray, List.set_cons_zero, List.set_cons_succ] at hk
                  have HK := Lib.hid hk
                  clear hd hs hk hK
                  go_simp
                  exact HK.out _ _ hj.out (Below.refl _ _) (show _ = _ from rfl)
                trivial
              case hlast =>
                intro v w' hj hd K hK
                have t10 : v 10 = _ := hd.out 10 (of_decide_eq_true (by kernel_rfl))
                have t11 : v 11 = _ := hd.out 11 (of_decide_eq_true (by kernel_rfl))
                have yc := ncell hj.out.c10 (j := a) (by rw [HLL2.out]; exact ha)
                rw [HLA.out] at yc
                have yf := hj.out.c10.frozen a
                have hk := hK.out
                simp only [t10, t11, Act.put, List.setIfInBounds_toArray, List.set_cons_zero, List.set_cons_succ] at hk
                have HK := Lib.hid hk
                clear hd hk hK
                go_simp
                refine HK.out _ ?_
                have hs5 := hj.out.setLow hk a (min la iv)
                first | rw [min_nat] | rw [min_if]
                clear hj yc yf HK t10 t11
                generalize w'.setCell ⟨k 10, a, none⟩ (.int .i64 ((min la iv : Nat) : Int)) = w6 at hs5 ⊢
                have HS5 := Lib.hid hs5
                clear hs5
                go_wp2_with fail
                exact ⟨⟨j + 1, { u with low := u.low.set a (min la iv) }, sv, ov, hs, by omega, by go_num, Lib.hid (by rw [← HON2.out]; exact HU2.out), HS5.out, Lib.hid (by rw [← HON2.out]; exact HST.out), hcu⟩, by simp [intOf]; omega⟩
        · have d1 : decide ((j : Int) < ((g a).length : Int)) = false := by simp; omega
          have hm2 := HM.out
          rw [List.take_of_length_le (show (g a).length ≤ j by omega)] at hm2
          have HU2 := Lib.hid (show (g a).foldl (Tj.one (Tj.visit g f) a) (Tj.enter t a) = u by rw [HU.out, List.take_of_length_le (show (g a).length ≤ j by omega)])
          rw [HU2.out] at HVD
          have HM2 := Lib.hid hm2
          have HLL2 := Lib.hid hm2.inv.llow
          have HLI2 := Lib.hid hm2.inv.lidx
          obtain ⟨la, hla⟩ : ∃ x, u.low.getD a 0 = x := ⟨_, rfl⟩
          have HLA := Lib.hid hla
          obtain ⟨ib, hib⟩ : ∃ x, u.idx.getD a 0 = x := ⟨_, rfl⟩
          have HIB := Lib.hid hib
          have HT5 := Lib.hid hT
          have hvd := HVD.out
          rw [show u.L a = la from hla, show u.I a = ib from hib] at hvd
          clear hm2 HM hla hib hT HVD
          go_wp2_with fail
          clear y0 y1 y2 y3 y4 y5 y6 y7 y8
          by_cases hle : la = ib
          · have t1 : ((la : Int) == (ib : Int)) = true := by rw [beq_iff_eq]; omega
            have t2 : ((la : Int) != (ib : Int)) = false := by rw [bne, t1]; rfl
            rw [if_neg (fun h => h hle)] at hvd
            have HVD := Lib.hid hvd
            clear hvd hle
            refine' wp_region_each _ (TS T w0 k n ge u.cnt u.idx u.low u.opn u.of sv u.stk ov hs u.out) (Onward) (Vl :: Vl :: Vl :: Vl :: Vl :: Vl :: Vl :: Vl :: Vl :: []) ?hF (by kernel_rfl) (by kernel_rfl) (by kernel_rfl) (HT5.out.next ((Below.refl _ _).drew)) (lasting_cons (lasting_vl) (lasting_cons (lasting_vl) (lasting_cons (lasting_vl) (lasting_cons (lasting_vl) (lasting_cons (lasting_vl) (lasting_cons (lasting_vl) (lasting_cons (lasting_vl) (lasting_cons (lasting_vl) (lasting_cons (lasting_vl) (lasting_none)))))))))) ?hops ?hend
            case hF => (intro v; simp only [over, Act.put, List.setIfInBounds_toArray, List.set_cons_zero, List.set_cons_succ, Nat.zero_add, Nat.reduceAdd]; exact rfl)
            case hops =>
              refine ⟨?_, ?_⟩
              · intro v w' hj hd hs K hK
                obtain ⟨y0, y1, y2, y3, y4, y5, y6, y7, y8⟩ := hj.out.heads
                have hk := hK.out
                simp only [Act.put, List.setIfInBounds_toArray, List.set_cons_zero, List.set_cons_succ] at hk
                have HK := Lib.hid hk
                clear hd hs hk hK
                go_simp
                exact HK.out _ _ hj.out (Below.refl _ _) (show _ = _ from rfl)
              refine ⟨?_, ?_⟩
              · intro v w' hj hd hs K hK
                have hk := hK.out
                simp only [Act.put, List.setIfInBounds_toArray, List.set_cons_zero, List.set_cons_succ] at hk
                have HK := Lib.hid hk
                clear hd hs hk hK
                go_simp
                exact HK.out _ _ hj.out (Below.refl _ _) (show _ = _ from rfl)
              refine ⟨?_, ?_⟩
              · intro v w' hj hd hs K hK
                have t0 : v 0 = _ := hd.out 0 (by kernel_rfl)
                have t1 : v 1 = _ := hd.out 1 (by kernel_rfl)
                have hk := hK.out
                simp only [t0, t1, Act.put, List.setIfInBounds_toArray, List.set_cons_zero, List.set_cons_succ] at hk
                have HK := Lib.hid hk
                clear hd hs hk hK
                go_simp
                exact HK.out _ _ hj.out (Below.refl _ _) (show _ = _ from rfl)
              refine ⟨?_, ?_⟩
              · intro v w' hj hd hs K hK
                have t2 : v 2 = _ := hd.out 2 (by kernel_rfl)
                have yc := ncell hj.out.c10 (j := a) (by rw [HLL2.out]; exact ha)
                rw [HLA.out] at yc
                have hk := hK.out
                simp only [t2, Act.put, List.setIfInBounds_toArray, List.set_cons_zero, List.set_cons_succ] at hk
                have HK := Lib.hid hk
                clear hd hs hk hK
                go_simp
                exact HK.out _ _ hj.out (Below.refl _ _) (show _ = _ from rfl)
              refine ⟨?_, ?_⟩
              · intro v w' hj hd hs K hK
                obtain ⟨y0, y1, y2, y3, y4, y5, y6, y7, y8⟩ := hj.out.heads
                have hk := hK.out
                simp only [Act.put, List.setIfInBounds_toArray, List.set_cons_zero, List.set_cons_succ] at hk
                have HK := Lib.hid hk
                clear hd hs hk hK
                go_simp
                exact HK.out _ _ hj.out (Below.refl _ _) (show _ = _ from rfl)
              refine ⟨?_, ?_⟩
              · intro v w' hj hd hs K hK
                have hk := hK.out
                simp only [Act.put, List.setIfInBounds_toArray, List.set_cons_zero, List.set_cons_succ] at hk
                have HK := Lib.hid hk
                clear hd hs hk hK
                go_simp
                exact HK.out _ _ hj.out (Below.refl _ _) (show _ = _ from rfl)
              refine ⟨?_, ?_⟩
              · intro v w' hj hd hs K hK
                have t4 : v 4 = _ := hd.out 4 (by kernel_rfl)
                have t5 : v 5 = _ := hd.out 5 (by kernel_rfl)
                have hk := hK.out
                simp only [t4, t5, Act.put, List.setIfInBounds_toArray, List.set_cons_zero, List.set_cons_succ] at hk
                have HK := Lib.hid hk
                clear hd hs hk hK
                go_simp
                exact HK.out _ _ hj.out (Below.refl _ _) (show _ = _ from rfl)
              refine ⟨?_, ?_⟩
              · intro v w' hj hd hs K hK
                have t6 : v 6 = _ := hd.out 6 (by kernel_rfl)
                have yc := ncell hj.out.c9 (j := a) (by rw [HLI2.out]; exact ha)
                rw [HIB.out] at yc
                have hk := hK.out
                simp only [t6, Act.put, List.setIfInBounds_toArray, List.set_cons_zero, List.set_cons_succ] at hk
                have HK := Lib.hid hk
                clear hd hs hk hK
                go_simp
                exact HK.out _ _ hj.out (Below.refl _ _) (show _ = _ from rfl)
              refine ⟨?_, ?_⟩
              · intro v w' hj hd hs K hK
                have t3 : v 3 = _ := hd.out 3 (by kernel_rfl)
                have t7 : v 7 = _ := hd.out 7 (by kernel_rfl)
                have hk := hK.out
                simp only [t3, t7, Act.put, List.setIfInBounds_toArray, List.set_cons_zero, List.set_cons_succ] at hk
                have HK := Lib.hid hk
                clear hd hs hk hK
                go_simp
                exact HK.out _ _ hj.out (Below.refl _ _) (show _ = _ from rfl)
              trivial
            case hend =>
              intro v5 w5 hj5 hd
              have t8 : v5 8 = _ := hd.out 8 (of_decide_eq_true (by kernel_rfl))
              simp only [t8]
              have hT := hj5.out
              have HT6 := Lib.hid hT
              clear hj5 hd t8 HT5
              have hat := HM2.out.amem
              have HIX := Lib.hid (ints_idx hat)
              have hix : u.stk.idxOf a < u.stk.length := List.idxOf_lt_length_iff.2 hat
              obtain ⟨gs, sc, rfl, hgs1, hgs2, hgs⟩ := hT.stack (by intro e; rw [e] at hat; cases hat)
              have hsl2 : u.stk.length ≤ n := stk_len HM2.out.inv
              have HCI := Lib.hid (Try.slices_Index_int gs 0 u.stk.length sc (ints u.stk) (a : Int) w5 (by rw [ints_len]; omega) (by omega) (fun j hj => by
                rw [ints_len] at hj
                rw [Nat.zero_add, hgs j _ (List.getElem?_eq_getElem hj)]
                simp [ints, hj]))
              rw [show (ints u.stk).take u.stk.length = ints u.stk from List.take_of_length_le (by rw [ints_len]; omega), HIX.out] at HCI
              have HGR := Lib.hid (show Tj.grp u a = u.stk.drop (u.stk.idxOf a) from rfl)
              obtain ⟨m, hm⟩ : ∃ m, u.stk.idxOf a = m := ⟨_, rfl⟩
              rw [hm] at HCI hix HGR
              have HCC := Lib.hid (Try.slices_Clone_int gs m (u.stk.length - m) (sc - m) (ints (u.stk.drop m)) w5 (by rw [ints_len, List.length_drop]; omega) (by omega) (fun j hj => by
                rw [ints_len, List.length_drop] at hj
                rw [hgs (m + j) _ (List.getElem?_eq_getElem (show m + j < u.stk.length by omega))]
                simp [ints, hj]))
              have HQL := Lib.hid (show u.stk.length - m = (u.stk.drop m).length by rw [List.length_drop])
              rw [show (ints (u.stk.drop m)).take (u.stk.length - m) = ints (u.stk.drop m) from List.take_of_length_le (by rw [ints_len, List.length_drop]; omega), ← ncells_ints] at HCC
              have HMI := Lib.hid hm
              have i2 : (0 : Int) ≤ (m : Int) := by omega
              have i3 : (m : Int) ≤ (u.stk.length : Int) := by omega
              have i4 : (m : Int) ≤ (sc : Int) := by omega
              obtain ⟨y0, y1, y2, y3, y4, y5, y6, y7, y8⟩ := hT.heads
              clear hm hT hat hgs
              go_wp2_with (first | (go_at_call 45; refine HCI.out.mono ?_; rintro e w6 ⟨rfl, rfl⟩))
              rw [HQL.out] at HCC ⊢
              refine HCC.out.mono ?_
              rintro e w7 ⟨gv, rfl, hgo, _, hb7⟩
              have hT7 := HT6.out.next hb7
              obtain ⟨hgT, hga, hgb⟩ := HT6.out.fresh hgo
              have hgz := HT6.out.size
              obtain ⟨gva, gvc, rfl⟩ := own_len hgo
              obtain ⟨oa, oc, rfl⟩ := own_len hT7.uo.own
              have hT8 := hT7.popStk hk (m := m) (sc := sc) (gs := gs) rfl (by omega)
              obtain ⟨q, hq⟩ : ∃ q, u.stk.drop m = q := ⟨_, rfl⟩
              rw [hq] at hgo hgT hga hgb HGR HQL ⊢
              have HQ := Lib.hid hq
              have hql : q.length ≤ n := by rw [← HQL.out]; omega
              have HQN := Lib.hid (show ∀ x ∈ q, x < n from fun x hx => (HM2.out.inv.stk x (List.mem_of_mem_drop (by rw [hq]; exact hx))).1)
              have hg8 := own_put (p := ⟨k 4, 0, none⟩) hgo (by have := hk.top 4 (by decide); simp; omega) (.slice (some ⟨gs, 0, none⟩) m sc)
              clear y0 y1 y2 y3 y4 y5 y6 y7 y8 hq
              obtain ⟨y0, y1, y2, y3, y4, y5, y6, y7, y8⟩ := hT7.heads
              obtain ⟨f0, f4, f7⟩ := hT7.froz
              have HGA := Lib.hid (show ∀ x, (Value.slice gva q.length gvc).ownBlock = some x → (Value.slice (some ⟨gs, 0, none⟩) m sc).ownBlock ≠ some x from hga)
              have HGB := Lib.hid hgb
              have HT8 := Lib.hid hT8
              have HG8 := Lib.hid hg8
              clear hga hgb hgT hgo hT7 hT8 hg8 HT6
              go_wp2_with fail
              go_loopw [16, 103] (fun _ i wr => ∃ j : Nat, j ≤ q.length ∧ i = .int .i64 j ∧ TS T w0 k n ge u.cnt u.idx u.low (Tj.sets u.opn false (q.take j)) (Tj.sets u.of u.out.length (q.take j)) (.slice (some ⟨gs, 0, none⟩) m sc) (u.stk.take m) (.slice oa u.out.length oc) hs u.out wr ∧ wr.ownsRow w6.heap.size 3 1 (.slice gva q.length gvc) q.length (ncells q)) (fun _ i _ => q.length - (intOf i).toNat)
              case atStart => exact ⟨0, by omega, rfl, HT8.out, HG8.out⟩
              case round =>
                clear HT8 HG8 y0 y1 y2 y3 y4 y5 y6 y7 y8 f0 f4 f7
                obtain ⟨j, hj, rfl, hT, hgo⟩ := hrel
                obtain ⟨y0, y1, y2, y3, y4, y5, y6, y7, y8⟩ := hT.heads
                by_cases h2 : j < q.length
                · have d2 : decide ((j : Int) < (q.length : Int)) = true := by simp; omega
                  obtain ⟨b, hb⟩ : ∃ b, q[j]? = some b := ⟨_, List.getElem?_eq_getElem h2⟩
                  have hbn := HQN.out b (List.mem_of_getElem? hb)
                  obtain ⟨A2, c2, ev2, _, _, hcs⟩ := own_cells hgo
                  rcases hcs with hcs | ⟨gq, rfl, _, hgq, hcs⟩
                  · exact absurd hcs (by omega)
                  injection ev2 with ev3 _ ev4
                  subst ev3
                  clear ev4
                  have x0 := hcs _ _ (ncells_get hb)
                  have j0 : (0 : Int) ≤ (j : Int) := by omega
                  have j1 : (j : Int) < (q.length : Int) := by omega
                  have j2 : (0 : Int) ≤ (b : Int) := by omega
                  have j3 : (b : Int) < (n : Int) := by omega
                  obtain ⟨os, hos⟩ : ∃ x, Tj.sets u.opn false (q.take j) = x := ⟨_, rfl⟩
                  obtain ⟨fs, hfs⟩ : ∃ x, Tj.sets u.of u.out.length (q.take j) = x := ⟨_, rfl⟩
                  have HOS := Lib.hid (show Tj.sets u.opn false (q.take (j + 1)) = os.set b false by rw [take_more hb, Tj.sets_snoc, hos])
                  have HFS := Lib.hid (show Tj.sets u.of u.out.length (q.take (j + 1)) = fs.set b u.out.length by rw [take_more hb, Tj.sets_snoc, hfs])
                  have HOL := Lib.hid (show os.length = n by rw [← hos, Tj.sets_len]; exact HM2.out.inv.lopn)
                  have HFL := Lib.hid (show fs.length = n by rw [← hfs, Tj.sets_len]; exact HM2.out.inv.lof)
                  have HFO := Lib.hid (set_twice fs b u.out.length HFL.out)
                  have HOO := Lib.hid (set_twice os b false HOL.out)
                  rw [hos, hfs] at hT
                  have HT9 := Lib.hid hT
                  have HG9 := Lib.hid hgo
                  clear hos hfs hcs hb hT hgo
                  go_wp2_with fail
                  clear y0 y1 y2 y3 y4 y5 y6 y7 y8 x0
                  have E7 : ∀ i, i ≠ 7 → Lasting (VJ2 T w0 k n ge u.cnt u.idx u.low os (os.set b false) fs (fs.set b u.out.length) (.slice (some ⟨gs, 0, none⟩) m sc) (u.stk.take m) (.slice oa u.out.length oc) hs u.out w6.heap.size (.slice (some ⟨gq, 0, none⟩) q.length gvc) q) ((fun i => if i = 7 then SetAt (k 12) b (.int .i64 ((u.out.length : Nat) : Int)) else if i = 9 then SetAt (k 11) b (.bool false) else Onward) i) (fun _ W => At W (k 12) 3 (ncells (fs.set b u.out.length)).toArray) := fun i hne => by
                    show Lasting _ (if i = 7 then _ else if i = 9 then _ else _) _
                    rw [if_neg hne]
                    split
                    · exact lasting_at_set (hk.ne (by decide) (by decide) (by decide))
                    · exact lasting_at_on
                  have E9 : ∀ i, i ≠ 9 → Lasting (VJ2 T w0 k n ge u.cnt u.idx u.low os (os.set b false) fs (fs.set b u.out.length) (.slice (some ⟨gs, 0, none⟩) m sc) (u.stk.take m) (.slice oa u.out.length oc) hs u.out w6.heap.size (.slice (some ⟨gq, 0, none⟩) q.length gvc) q) ((fun i => if i = 7 then SetAt (k 12) b (.int .i64 ((u.out.length : Nat) : Int)) else if i = 9 then SetAt (k 11) b (.bool false) else Onward) i) (fun _ W => At W (k 11) 4 (bcells (os.set b false))) := fun i hne => by
                    show Lasting _ (if i = 7 then _ else if i = 9 then _ else _) _
                    split
                    · exact lasting_at_set (hk.ne (by decide) (by decide) (by decide))
                    · exact lasting_at_on
                  refine' wp_region_rely _ (VJ2 T w0 k n ge u.cnt u.idx u.low os (os.set b false) fs (fs.set b u.out.length) (.slice (some ⟨gs, 0, none⟩) m sc) (u.stk.take m) (.slice oa u.out.length oc) hs u.out w6.heap.size (.slice (some ⟨gq, 0, none⟩) q.length gvc) q) (fun i => if i = 7 then SetAt (k 12) b (.int .i64 ((u.out.length : Nat) : Int)) else if i = 9 then SetAt (k 11) b (.bool false) else Onward) (Vl :: Vl :: Vl :: Vl :: Vl :: Vl :: Vl :: (fun _ W => At W (k 12) 3 (ncells (fs.set b u.out.length)).toArray) :: Vl :: (fun _ W => At W (k 11) 4 (bcells (os.set b false))) :: []) ?hF (by kernel_rfl) (by kernel_rfl) (by kernel_rfl) (⟨_, _, Or.inl rfl, Or.inl rfl, HT9.out.next ((Below.refl _ _).drew), own_below HG9.out ((Below.refl _ _).drew)⟩) (⟨fun i _ _ => lasting_vl, ⟨fun i _ _ => lasting_vl, ⟨fun i _ _ => lasting_vl, ⟨fun i _ _ => lasting_vl, ⟨fun i _ _ => lasting_vl, ⟨fun i _ _ => lasting_vl, ⟨fun i _ _ => lasting_vl, ⟨fun i hne _ => E7 i hne, ⟨fun i _ _ => lasting_vl, ⟨fun i hne _ => E9 i hne, trivial⟩⟩⟩⟩⟩⟩⟩⟩⟩⟩) ?hops ?hend
                  case hF => (intro v; simp only [over, Act.put, List.setIfInBounds_toArray, List.set_cons_zero, List.set_cons_succ, Nat.zero_add, Nat.reduceAdd]; exact rfl)
                  case hops =>
                    refine ⟨?_, ?_⟩
                    · intro v w' hj hd hs K hK
                      obtain ⟨f5, o5, hf5, ho5, hT5, hG5⟩ := hj.out
                      obtain ⟨y0, y1, y2, y3, y4, y5, y6, y7, y8⟩ := hT5.heads
                      have hk := hK.out
                      simp only [Act.put, List.setIfInBounds_toArray, List.set_cons_zero, List.set_cons_succ] at hk
                      have HK := Lib.hid hk
                      clear hd hs hk hK
                      go_simp
                      exact HK.out _ _ hj.out (Below.refl _ _) (show _ = _ from rfl)
                    refine ⟨?_, ?_⟩
                    · intro v w' hj hd hs K hK
                      have hk := hK.out
                      simp only [Act.put, List.setIfInBounds_toArray, List.set_cons_zero, List.set_cons_succ] at hk
                      have HK := Lib.hid hk
                      clear hd hs hk hK
                      go_simp
                      exact HK.out _ _ hj.out (Below.refl _ _) (show _ = _ from rfl)
                    refine ⟨?_, ?_⟩
                    · intro v w' hj hd hs K hK
                      obtain ⟨f5, o5, hf5, ho5, hT5, hG5⟩ := hj.out
                      obtain ⟨y0, y1, y2, y3, y4, y5, y6, y7, y8⟩ := hT5.heads
                      have hk := hK.out
                      simp only [Act.put, List.setIfInBounds_toArray, List.set_cons_zero, List.set_cons_succ] at hk
                      have HK := Lib.hid hk
                      clear hd hs hk hK
                      go_simp
                      exact HK.out _ _ hj.out (Below.refl _ _) (show _ = _ from rfl)
                    refine ⟨?_, ?_⟩
                    · intro v w' hj hd hs K hK
                      have hk := hK.out
                      simp only [Act.put, List.setIfInBounds_toArray, List.set_cons_zero, List.set_cons_succ] at hk
                      have HK := Lib.hid hk
                      clear hd hs hk hK
                      go_simp
                      exact HK.out _ _ hj.out (Below.refl _ _) (show _ = _ from rfl)
                    refine ⟨?_, ?_⟩
                    · intro v w' hj hd hs K hK
                      obtain ⟨f5, o5, hf5, ho5, hT5, hG5⟩ := hj.out
                      obtain ⟨y0, y1, y2, y3, y4, y5, y6, y7, y8⟩ := hT5.heads
                      have hk := hK.out
                      simp only [Act.put, List.setIfInBounds_toArray, List.set_cons_zero, List.set_cons_succ] at hk
                      have HK := Lib.hid hk
                      clear hd hs hk hK
                      go_simp
                      exact HK.out _ _ hj.out (Below.refl _ _) (show _ = _ from rfl)
                    refine ⟨?_, ?_⟩
                    · intro v w' hj hd hs K hK
                      have t4 : v 4 = _ := hd.out 4 (by kernel_rfl)
                      have hk := hK.out
                      simp only [t4, Act.put, List.setIfInBounds_toArray, List.set_cons_zero, List.set_cons_succ] at hk
                      have HK := Lib.hid hk
                      clear hd hs hk hK
                      go_simp
                      exact HK.out _ _ hj.out (Below.refl _ _) (show _ = _ from rfl)
                    refine ⟨?_, ?_⟩
                    · intro v w' hj hd hs K hK
                      have t0 : v 0 = _ := hd.out 0 (by kernel_rfl)
                      have t1 : v 1 = _ := hd.out 1 (by kernel_rfl)
                      have hk := hK.out
                      simp only [t0, t1, Act.put, List.setIfInBounds_toArray, List.set_cons_zero, List.set_cons_succ] at hk
                      have HK := Lib.hid hk
                      clear hd hs hk hK
                      go_simp
                      exact HK.out _ _ hj.out (Below.refl _ _) (show _ = _ from rfl)
                    refine ⟨?_, ?_⟩
                    · intro v w' hj hd hs K hK
                      have t5 : v 5 = _ := hd.out 5 (by kernel_rfl)
                      have t6 : v 6 = _ := hd.out 6 (by kernel_rfl)
                      obtain ⟨f5, o5, hf5, ho5, hT5, hG5⟩ := hj.out
                      have yc := ncell hT5.c12 (j := b) (by rw [(HFO.out _ hf5).1]; exact hbn)
                      have yf := hT5.c12.frozen b
                      have es := (HFO.out _ hf5).2
                      have hs5 := hT5.setOf hk b u.out.length
                      rw [es] at hs5
                      have HS5 := Lib.hid hs5
                      have HG5 := Lib.hid (own_put (p := ⟨k 12, b, none⟩) hG5 (by have := hk.top 12 (by decide); simp; omega) (.int .i64 ((u.out.length : Nat) : Int)))
                      clear es hs5 hf5
                      have hk := hK.out
                      simp only [t5, t6, Act.put, List.setIfInBounds_toArray, List.set_cons_zero, List.set_cons_succ] at hk
                      have HK := Lib.hid hk
                      clear hd hs hk hK
                      go_simp
                      exact HK.out undef _ ⟨_, o5, Or.inr rfl, ho5, HS5.out, HG5.out⟩ rfl HS5.out.c12
                    refine ⟨?_, ?_⟩
                    · intro v w' hj hd hs K hK
                      have t2 : v 2 = _ := hd.out 2 (by kernel_rfl)
                      have t3 : v 3 = _ := hd.out 3 (by kernel_rfl)
                      have hk := hK.out
                      simp only [t2, t3, Act.put, List.setIfInBounds_toArray, List.set_cons_zero, List.set_cons_succ] at hk
                      have HK := Lib.hid hk
                      clear hd hs hk hK
                      go_simp
                      exact HK.out _ _ hj.out (Below.refl _ _) (show _ = _ from rfl)
                    refine ⟨?_, ?_⟩
                    · intro v w' hj hd hs K hK
                      have t8 : v 8 = _ := hd.out 8 (by kernel_rfl)
                      obtain ⟨f5, o5, hf5, ho5, hT5, hG5⟩ := hj.out
                      have yc := bcell hT5.c11 (j := b) (by rw [(HOO.out _ ho5).1]; exact hbn)
                      have yf := hT5.c11.frozen b
                      have es := (HOO.out _ ho5).2
                      have hs5 := hT5.setOpn hk b false
                      rw [es] at hs5
                      have HS5 := Lib.hid hs5
                      have HG5 := Lib.hid (own_put (p := ⟨k 11, b, none⟩) hG5 (by have := hk.top 11 (by decide); simp; omega) (.bool false))
                      clear es hs5 ho5
                      have hk := hK.out
                      simp only [t8, Act.put, List.setIfInBounds_toArray, List.set_cons_zero, List.set_cons_succ] at hk
                      have HK := Lib.hid hk
                      clear hd hs hk hK
                      go_simp
                      exact HK.out undef _ ⟨f5, _, hf5, Or.inr rfl, HS5.out, HG5.out⟩ rfl HS5.out.c11
                    trivial
                  case hend =>
                    intro v9 w9 hj9 hd
                    have h7 : At w9 (k 12) 3 (ncells (fs.set b u.out.length)).toArray := hd.out 7 (of_decide_eq_true (by kernel_rfl))
                    have h9 : At w9 (k 11) 4 (bcells (os.set b false)) := hd.out 9 (of_decide_eq_true (by kernel_rfl))
                    obtain ⟨f5, o5, _, _, hT5, hG5⟩ := hj9.out
                    have hTA := { hT5 with c12 := h7, c11 := h9 : TS T w0 k n ge u.cnt u.idx u.low (os.set b false) (fs.set b u.out.length) (.slice (some ⟨gs, 0, none⟩) m sc) (u.stk.take m) (.slice oa u.out.length oc) hs u.out w9 }
                    have HTA := Lib.hid hTA
                    clear hj9 hd h7 h9 hT5 hTA
                    go_wp2_with fail
                    go_roundw
                    case rel => exact ⟨j + 1, by omega, by go_num, by rw [HOS.out, HFS.out]; exact HTA.out, hG5⟩
                    case measure => simp [intOf]; omega
                · have d2 : decide ((j : Int) < (q.length : Int)) = false := by simp; omega
                  rw [List.take_of_length_le (show q.length ≤ j by omega)] at hT
                  have hqn : q ≠ [] := fun e => by have := HQL.out; rw [e] at this; simp at this; omega
                  have hws : w6.heap.size ≤ wr.heap.size := Nat.le_of_lt (by
                    obtain ⟨A2, c2, ev2, _, _, hcs⟩ := own_cells hgo
                    rcases hcs with hcs | ⟨gq, rfl, h6, hgq, hcs⟩
                    · exact absurd (List.eq_nil_of_length_eq_zero hcs) hqn
                    · omega)
                  have HSO := Lib.hid (sort_n w6.heap.size (.slice gva q.length gvc) q wr hgo hqn hws (by omega))
                  have hGT := own_mono hgo hgz
                  have HTR := Lib.hid hT
                  have HGT := Lib.hid hGT
                  have hol : u.out.length ≤ n := by
                    have := out_len HM2.out.inv
                    exact this
                  clear hT hgo hGT
                  go_wp2_with fail
                  refine HSO.out.mono ?_
                  rintro e w8 ⟨rfl, ho8, hb8, hg8⟩
                  have hT8 := HTR.out.grewFar hk HGT.out hg8 HGA.out HGB.out
                  have hv8 := own_mono ho8 hgz
                  clear y0 y1 y2 y3 y4 y5 y6 y7 y8
                  obtain ⟨y0, y1, y2, y3, y4, y5, y6, y7, y8⟩ := hT8.heads
                  have HTA := Lib.hid (hT8.next (below1 w8 (.cells #[.slice gva q.length gvc] 42)))
                  have hvA := hv8.alloc (.cells #[.slice gva q.length gvc] 42)
                  rw [← Tj.sortN_len q] at hvA
                  have HVA := Lib.hid hvA
                  have huA := HTA.out.uo.own
                  rw [Tj.sortN_len q] at HVA
                  have z7 := hT8.c7.lt
                  clear hvA hv8 ho8 hT8
                  go_wp2_with ((at_builtin; refine wpList_append_where rfl _ _ 36 rfl T 42 in1 (.slice none 0 0) 1 24 Try.underlying36 hi1 hy0 hy1 hy2 rfl (by decide) _ _ _ rfl huA ⟨w8.heap.size, 0, none⟩ 1 1 [.slice gva q.length gvc] rfl rfl (At.news (xs := [.slice gva q.length gvc]) (At.new w8 42 _)) (one1 rfl) (by unfold maxLen; omega) (by omega) HTA.out.size ?_; intro v9 w9 o9 k9 g9 wh9; obtain ⟨va9, vc9, rfl⟩ := own_len o9; obtain ⟨hTB, hTC⟩ := HTA.out.pushOut hk (row := Tj.sortN q) (by rw [Tj.sortN_len]; exact HVA.out) HGA.out o9 k9 g9; clear y0 y1 y2 y3 y4 y5 y6 y7 y8 o9 k9 g9 wh9; obtain ⟨y0, y1, y2, y3, y4, y5, y6, y7, y8⟩ := hTB.heads; obtain ⟨f0, f4, f7⟩ := hTB.froz))
                  go_end0
                  refine ⟨rfl, ?_⟩
                  rw [HVD.out]
                  refine ⟨hcu, .slice (some ⟨gs, 0, none⟩) m sc, .slice va9 (u.out.length + 1) vc9, hs ++ [.slice gva q.length gvc], ?_⟩
                  unfold Tj.close
                  rw [HGR.out, HMI.out]
                  exact hTC
          · have t1 : ((la : Int) == (ib : Int)) = false := by rw [beq_eq_false_iff_ne]; omega
            have t2 : ((la : Int) != (ib : Int)) = true := by rw [bne, t1]; rfl
            rw [if_pos hle] at hvd
            have HVD := Lib.hid hvd
            clear hvd hle
            refine' wp_region_each _ (TS T w0 k n ge u.cnt u.idx u.low u.opn u.of sv u.stk ov hs u.out) (Onward) (Vl :: Vl :: Vl :: Vl :: Vl :: Vl :: Vl :: Vl :: Vl :: []) ?hF (by kernel_rfl) (by kernel_rfl) (by kernel_rfl) (HT5.out.next ((Below.refl _ _).drew)) (lasting_cons (lasting_vl) (lasting_cons (lasting_vl) (lasting_cons (lasting_vl) (lasting_cons (lasting_vl) (lasting_cons (lasting_vl) (lasting_cons (lasting_vl) (lasting_cons (lasting_vl) (lasting_cons (lasting_vl) (lasting_cons (lasting_vl) (lasting_none)))))))))) ?hops ?hend
            case hF => (intro v; simp only [over, Act.put, List.setIfInBounds_toArray, List.set_cons_zero, List.set_cons_succ, Nat.zero_add, Nat.reduceAdd]; exact rfl)
            case hops =>
              refine ⟨?_, ?_⟩
              · intro v w' hj hd hs K hK
                obtain ⟨y0, y1, y2, y3, y4, y5, y6, y7, y8⟩ := hj.out.heads
                have hk := hK.out
                simp only [Act.put, List.setIfInBounds_toArray, List.set_cons_zero, List.set_cons_succ] at hk
                have HK := Lib.hid hk
                clear hd hs hk hK
                go_simp
                exact HK.out _ _ hj.out (Below.refl _ _) (show _ = _ from rfl)
              refine ⟨?_, ?_⟩
              · intro v w' hj hd hs K hK
                have hk := hK.out
                simp only [Act.put, List.setIfInBounds_toArray, List.set_cons_zero, List.set_cons_succ] at hk
                have HK := Lib.hid hk
                clear hd hs hk hK
                go_simp
                exact HK.out _ _ hj.out (Below.refl _ _) (show _ = _ from rfl)
              refine ⟨?_, ?_⟩
              · intro v w' hj hd hs K hK
                have t0 : v 0 = _ := hd.out 0 (by kernel_rfl)
                have t1 : v 1 = _ := hd.out 1 (by kernel_rfl)
                have hk := hK.out
                simp only [t0, t1, Act.put, List.setIfInBounds_toArray, List.set_cons_zero, List.set_cons_succ] at hk
                have HK := Lib.hid hk
                clear hd hs hk hK
                go_simp
                exact HK.out _ _ hj.out (Below.refl _ _) (show _ = _ from rfl)
              refine ⟨?_, ?_⟩
              · intro v w' hj hd hs K hK
                have t2 : v 2 = _ := hd.out 2 (by kernel_rfl)
                have yc := ncell hj.out.c10 (j := a) (by rw [HLL2.out]; exact ha)
                rw [HLA.out] at yc
                have hk := hK.out
                simp only [t2, Act.put, List.setIfInBounds_toArray, List.set_cons_zero, List.set_cons_succ] at hk
                have HK := Lib.hid hk
                clear hd hs hk hK
                go_simp
                exact HK.out _ _ hj.out (Below.refl _ _) (show _ = _ from rfl)
              refine ⟨?_, ?_⟩
              · intro v w' hj hd hs K hK
                obtain ⟨y0, y1, y2, y3, y4, y5, y6, y7, y8⟩ := hj.out.heads
                have hk := hK.out
                simp only [Act.put, List.setIfInBounds_toArray, List.set_cons_zero, List.set_cons_succ] at hk
                have HK := Lib.hid hk
                clear hd hs hk hK
                go_simp
                exact HK.out _ _ hj.out (Below.refl _ _) (show _ = _ from rfl)
              refine ⟨?_, ?_⟩
              · intro v w' hj hd hs K hK
                have hk := hK.out
                simp only [Act.put, List.setIfInBounds_toArray, List.set_cons_zero, List.set_cons_succ] at hk
                have HK := Lib.hid hk
                clear hd hs hk hK
                go_simp
                exact HK.out _ _ hj.out (Below.refl _ _) (show _ = _ from rfl)
              refine ⟨?_, ?_⟩
              · intro v w' hj hd hs K hK
                have t4 : v 4 = _ := hd.out 4 (by kernel_rfl)
                have t5 : v 5 = _ := hd.out 5 (by kernel_rfl)
                have hk := hK.out
                simp only [t4, t5, Act.put, List.setIfInBounds_toArray, List.set_cons_zero, List.set_cons_succ] at hk
                have HK := Lib.hid hk
                clear hd hs hk hK
                go_simp
                exact HK.out _ _ hj.out (Below.refl _ _) (show _ = _ from rfl)
              refine ⟨?_, ?_⟩
              · intro v w' hj hd hs K hK
                have t6 : v 6 = _ := hd.out 6 (by kernel_rfl)
                have yc := ncell hj.out.c9 (j := a) (by rw [HLI2.out]; exact ha)
                rw [HIB.out] at yc
                have hk := hK.out
                simp only [t6, Act.put, List.setIfInBounds_toArray, List.set_cons_zero, List.set_cons_succ] at hk
                have HK := Lib.hid hk
                clear hd hs hk hK
                go_simp
                exact HK.out _ _ hj.out (Below.refl _ _) (show _ = _ from rfl)
              refine ⟨?_, ?_⟩
              · intro v w' hj hd hs K hK
                have t3 : v 3 = _ := hd.out 3 (by kernel_rfl)
                have t7 : v 7 = _ := hd.out 7 (by kernel_rfl)
                have hk := hK.out
                simp only [t3, t7, Act.put, List.setIfInBounds_toArray, List.set_cons_zero, List.set_cons_succ] at hk
                have HK := Lib.hid hk
                clear hd hs hk hK
                go_simp
                exact HK.out _ _ hj.out (Below.refl _ _) (show _ = _ from rfl)
              trivial
            case hend =>
              intro v5 w5 hj5 hd
              have t8 : v5 8 = _ := hd.out 8 (of_decide_eq_true (by kernel_rfl))
              simp only [t8]
              have hT := hj5.out
              clear hj5 hd t8 HT5
              go_wp2_with fail
              go_end0
              rw [HVD.out]
              exact ⟨rfl, hcu, sv, ov, hs, hT⟩
end Go.Proofs.Ytljlihimmcmlmaa
