/- The walk of the law's function changed. -/
import Derived.Test.YtoficnfpoeaccaaDoorKChg
import Derived.Test.YtoficnfpoeaccaaDoorKStat
import Derived.Test.YtoficnfpoeaccaaDoorTwo
namespace Go.Proofs.YtoficnfpoeaccaaDoor
set_option linter.unusedVariables false
set_option linter.unusedSimpArgs false
open Go.RowKit
/-- append to an empty row without room: a new row, or the same again. -/
theorem wp_append_zero {P : Program} {w : World} {o : Oper} {a : Act} {K : Act → World → Prop} {Q : Exit → Act → World → Prop} (s x : Operand) (t : TypeId)
    (ho : o.op = .call { callee := .builtin .append, args := #[s, x], argTypes := #[t, t] })
    (base : Nat) (e : TypeId) (i : TypeInfo) (z : Value) (bytes : Nat) (ht : P.underlying t = some (.slice e)) (hi : P.info? e = some i) (hz : i.zero = some z)
    (hsize : i.size = 1) (hby : i.bytes = bytes) (hzs : z.cells.size = 1)
    (g : Nat) (hs : a.eval s = .slice (some ⟨g, 0, none⟩) 0 0) (hown : w.ownsRow base e 1 (.slice (some ⟨g, 0, none⟩) 0 0) 0 [])
    (A : Option Addr) (m c : Nat) (news : List Value) (hx : a.eval x = .slice A m c) (hl : news.length = m) (hnone : A = none → m = 0 ∧ c = 0) (hnews : ∀ ad, A = some ad → ∀ j u, news[j]? = some u → w.cell? (ad.add j) = some u) (h1 : ∀ u ∈ news, u.oneCell' = true)
    (h63 : m ≤ maxLen) (hbytes : m * bytes ≤ 140737488355328) (hbase : base ≤ w.heap.size)
    (h : ∀ g' c' w', w'.ownsRow base e 1 (.slice (some ⟨g', 0, none⟩) m c') m news → Below w.heap.size w w' → K (a.put o.dst (.slice (some ⟨g', 0, none⟩) m c')) w') : o.wp P a w K Q := by
  cases A with
  | none =>
    obtain ⟨rfl, rfl⟩ := hnone rfl
    have hn : news = [] := List.eq_nil_of_length_eq_zero hl
    subst hn
    have hrun := run_append_owned_none (P := P) (w := w) base t o.type e i 1 ht hi _ 0 [] hown
    unfold Oper.wp
    simp [execOp, ho, resolve, invoke, builtin, hs, hx, hrun, Result.andThen]
    exact h _ _ w hown (Below.refl _ _)
  | some ad =>
    refine wp_append_two s x t ho base e i z 1 bytes ht hi hz hsize hby hzs g 0 0 [] hs hown ad m c news hx (by omega) (hnews ad rfl) h1 (by omega) (by rw [Nat.zero_add]; exact hbytes) hbase fun g' c' w' h2 h3 => ?_
    simp only [Nat.zero_add, List.nil_append] at h2
    rw [show (0 + m) = m by omega]
    refine h g' c' w' h2 ?_
    rcases h3 with ⟨rfl, rfl, h3⟩ | ⟨_, h3⟩
    · refine ⟨h3.os, h3.tape, h3.output, h3.size, fun k hk => ?_⟩
      by_cases hkg : k = g'
      · subst hkg
        rcases hown.2 with ⟨q, _⟩ | ⟨g1, c1, cur1, q1, _, hh1, _, _, hc1, _⟩
        · cases q
        rcases h2.2 with ⟨q, _⟩ | ⟨g2, c2, cur2, q2, _, hh2, _, _, hc2, _⟩
        · cases q
        injection q1 with a1 a2 a3
        injection a1 with a1
        injection a1 with a1
        injection q2 with b1 b2 b3
        injection b1 with b1
        injection b1 with b1
        subst a1; subst b1; subst a3; subst b3
        have x1 : cur1 = #[] := Array.eq_empty_of_size_eq_zero (by simpa using hc1)
        have x2 : cur2 = #[] := Array.eq_empty_of_size_eq_zero (by simpa using hc2)
        rw [hh1, hh2, x1, x2]
      · exact h3.block k hk (by simpa using hkg)
    · exact ⟨h3.os, h3.tape, h3.output, h3.size, fun k hk => h3.block k hk (by simp)⟩
/-- A row of integers that the call made. -/
structure DRow (W : World) (g c : Nat) (l : List Int) : Prop where
  at' : ∃ cur : Array Value, At W g 3 cur ∧ l.length ≤ c ∧ c ≤ maxLen ∧ ∀ (k : Nat) (d : Int), l[k]? = some d → cur[k]? = some (.int .i64 d)
theorem DRow.next {W W' : World} {g c : Nat} {l : List Int} (h : DRow W g c l) (hb : Below W.heap.size W W') : DRow W' g c l := by
  obtain ⟨cur, h1, h2, h3, h4⟩ := h.at'
  exact ⟨cur, h1.next hb, h2, h3, h4⟩
theorem DRow.grown {W W' : World} {g c : Nat} {l : List Int} {row : Option Nat} (h : DRow W g c l) (hg : W.grownBy W' row) (h0 : ∀ cur, At W g 3 cur → some g ≠ row) : DRow W' g c l := by
  obtain ⟨cur, h1, h2, h3, h4⟩ := h.at'
  exact ⟨cur, h1.grown hg (h0 cur h1), h2, h3, h4⟩
theorem DRow.cell {W : World} {g c : Nat} {l : List Int} (h : DRow W g c l) {k : Nat} {d : Int} (hk : l[k]? = some d) : W.cell? ⟨g, k, none⟩ = some (.int .i64 d) := by
  obtain ⟨cur, h1, _, _, h4⟩ := h.at'
  exact (h1.cell k).trans (h4 k d hk)
theorem DRow.frozen {W : World} {g c : Nat} {l : List Int} (h : DRow W g c l) (k : Nat) : W.frozen? ⟨g, k, none⟩ = false := by
  obtain ⟨cur, h1, _, _, h4⟩ := h.at'
  exact h1.frozen k
theorem DRow.lt {W : World} {g c : Nat} {l : List Int} (h : DRow W g c l) : g < W.heap.size := by
  obtain ⟨cur, h1, _, _, h4⟩ := h.at'
  exact h1.lt
theorem DRow.put {W : World} {g c : Nat} {l : List Int} (h : DRow W g c l) (k : Nat) (d : Int) : DRow (W.setCell ⟨g, k, none⟩ (.int .i64 d)) g c (l.set k d) := by
  obtain ⟨cur, h1, h2, h3, h4⟩ := h.at'
  refine ⟨_, h1.put k _, by simpa using h2, h3, fun j e he => ?_⟩
  by_cases hjk : k = j
  · subst hjk
    rw [List.getElem?_set] at he
    split at he
    · split at he
      · rename_i hl
        obtain rfl := Option.some.inj he
        have := h4 k _ (List.getElem?_eq_getElem hl)
        obtain ⟨h5, _⟩ := Array.getElem?_eq_some_iff.1 this
        simp [h5]
      · cases he
    · exact absurd rfl ‹_›
  · rw [List.getElem?_set_ne hjk] at he
    have := h4 j e he
    rw [Array.getElem?_setIfInBounds_ne hjk]
    exact this
theorem DRow.far {W : World} {g c b k : Nat} {l : List Int} (h : DRow W g c l) (hne : b ≠ g) (u : Value) : DRow (W.setCell ⟨b, k, none⟩ u) g c l := by
  obtain ⟨cur, h1, h2, h3, h4⟩ := h.at'
  exact ⟨cur, h1.far (p := ⟨b, k, none⟩) (Ne.symm hne) u, h2, h3, h4⟩
def NewE (B : Nat) : Value → World → Prop := fun x W => ∃ g, x = .slice (some ⟨g, 0, none⟩) 0 0 ∧ W.ownsRow B 3 1 (.slice (some ⟨g, 0, none⟩) 0 0) 0 []
theorem newE_on {J : World → Prop} (B : Nat) : Lasting J Onward (NewE B) := fun x w w' _ hb ⟨g, e, h⟩ => ⟨g, e, own_below h hb⟩
def OwnD (B : Nat) (l : List Int) : Value → World → Prop := fun x W => ∃ g c, x = .slice (some ⟨g, 0, none⟩) l.length c ∧ W.ownsRow B 3 1 (.slice (some ⟨g, 0, none⟩) l.length c) l.length (l.map (Value.int .i64))
theorem ownD_on {J : World → Prop} (B : Nat) (l : List Int) : Lasting J Onward (OwnD B l) := fun x w w' _ hb ⟨g, c, e, h⟩ => ⟨g, c, e, own_below h hb⟩
def AggD (B : Nat) (R : Int) (l : List Int) : Value → World → Prop := fun x W => ∃ g c, x = .agg #[.int .i64 R, .slice (some ⟨g, 0, none⟩) l.length c] ∧ W.ownsRow B 3 1 (.slice (some ⟨g, 0, none⟩) l.length c) l.length (l.map (Value.int .i64))
theorem aggD_on {J : World → Prop} (B : Nat) (R : Int) (l : List Int) : Lasting J Onward (AggD B R l) := fun x w w' _ hb ⟨g, c, e, h⟩ => ⟨g, c, e, own_below h hb⟩
def NewS (B : Nat) : Value → World → Prop := fun x W => ∃ b, x = .pointer (some ⟨b, 0, none⟩) ∧ B ≤ b ∧ At W b 46 #[.int .i64 0, .slice none 0 0]
theorem newS_on {J : World → Prop} (B : Nat) : Lasting J Onward (NewS B) := fun x w w' _ hb ⟨b, e, h, h'⟩ => ⟨b, e, h, h'.next hb⟩
theorem own_drow {W : World} {B g c : Nat} {l : List Int} (h : W.ownsRow B 3 1 (.slice (some ⟨g, 0, none⟩) l.length c) l.length (l.map (Value.int .i64))) : DRow W g c l ∧ B ≤ g := by
  rcases h.2 with ⟨q, _⟩ | ⟨g1, c1, cur, q, hB, hh, h1, h2, h3, h4⟩
  · cases q
  injection q with a1 a2 a3
  injection a1 with a1
  injection a1 with a1
  subst a1; subst a3
  refine ⟨⟨cur, hh, h1, h2, fun k d hk => ?_⟩, hB⟩
  have hk2 : (l.map (Value.int .i64))[k]? = some (.int .i64 d) := by rw [List.getElem?_map, hk]; rfl
  rw [← h4, List.getElem?_take] at hk2
  split at hk2
  · simpa using hk2
  · cases hk2
/-- The box of one predicate's statistics, and its row, while they are changed. -/
structure ChSt (wr : World) (b g c : Nat) (R : Int) (D : List Int) (W : World) : Prop where
  box : At W b 46 #[.int .i64 R, .slice (some ⟨g, 0, none⟩) D.length c]
  row : DRow W g c D
  hib : wr.heap.size ≤ b
  hig : wr.heap.size ≤ g
  below : Below wr.heap.size wr W
theorem At.apart {W : World} {b g : Nat} {t t' : TypeId} {x y : Array Value} (h : At W b t x) (h' : At W g t' y) (hne : t ≠ t') : b ≠ g := At.ne h h' hne
theorem ChSt.make {wr w' : World} {b g c : Nat} {R : Int} {D : List Int} (ho : w'.ownsRow wr.heap.size 3 1 (.slice (some ⟨g, 0, none⟩) D.length c) D.length (D.map (Value.int .i64))) (ha : At w' b 46 #[.int .i64 0, .slice none 0 0]) (hl : wr.heap.size ≤ b) (hb : Below wr.heap.size wr w') :
    ChSt wr b g c R D ((w'.setCell ⟨b, 0, none⟩ (.int .i64 R)).setCell ⟨b, 1, none⟩ (.slice (some ⟨g, 0, none⟩) D.length c)) := by
  obtain ⟨hd, hg⟩ := own_drow ho
  obtain ⟨cur, h1, _⟩ := hd.at'
  have hne : b ≠ g := At.apart ha h1 (by decide)
  exact ⟨(ha.put 0 _).put 1 _, (hd.far hne _).far hne _, hl, hg, (hb.setCell (p := ⟨b, 0, none⟩) hl _).setCell (p := ⟨b, 1, none⟩) hl _⟩
theorem ChSt.setR {wr W : World} {b g c : Nat} {R : Int} {D : List Int} (h : ChSt wr b g c R D W) (R' : Int) : ChSt wr b g c R' D (W.setCell ⟨b, 0, none⟩ (.int .i64 R')) := by
  obtain ⟨cur, h1, _⟩ := h.row.at'
  exact ⟨h.box.put 0 _, h.row.far (At.apart h.box h1 (by decide)) _, h.hib, h.hig, h.below.setCell (p := ⟨b, 0, none⟩) h.hib _⟩
theorem ChSt.setD {wr W : World} {b g c : Nat} {R : Int} {D : List Int} (h : ChSt wr b g c R D W) (k : Nat) (d : Int) : ChSt wr b g c R (D.set k d) (W.setCell ⟨g, k, none⟩ (.int .i64 d)) := by
  obtain ⟨cur, h1, _⟩ := h.row.at'
  exact ⟨by rw [List.length_set]; exact h.box.far (p := ⟨g, k, none⟩) (At.apart h.box h1 (by decide)) _, h.row.put k d, h.hib, h.hig, h.below.setCell (p := ⟨g, k, none⟩) h.hig _⟩
theorem ChSt.next {wr W W' : World} {b g c : Nat} {R : Int} {D : List Int} (h : ChSt wr b g c R D W) (hb : Below W.heap.size W W') : ChSt wr b g c R D W' :=
  ⟨h.box.next hb, h.row.next hb, h.hib, h.hig, h.below.trans (hb.mono h.below.size)⟩
theorem ints_one (l : List Int) : ∀ u ∈ l.map (Value.int .i64), u.oneCell' = true := by
  intro u hu; obtain ⟨x, _, rfl⟩ := List.mem_map.1 hu; rfl
/-- Statistics that the call made. -/
structure DSta (W : World) (B : Nat) (s : Sta) : Prop where
  own : ∃ g, s.da = some ⟨g, 0, none⟩ ∧ B ≤ g ∧ DRow W g s.dc s.dist
  i64 : I64 s.rows ∧ ∀ x ∈ s.dist, I64 x
theorem DSta.next {W W' : World} {B : Nat} {s : Sta} (h : DSta W B s) (hb : Below W.heap.size W W') : DSta W' B s := by
  obtain ⟨⟨g, e, hB, hd⟩, hi⟩ := h
  exact ⟨⟨g, e, hB, hd.next hb⟩, hi⟩
theorem DSta.ok {W : World} {B : Nat} {s : Sta} (h : DSta W B s) : StaOk W s := by
  obtain ⟨⟨g, e, hB, hd⟩, hi⟩ := h
  obtain ⟨cur, h1, h2, h3, h4⟩ := hd.at'
  refine ⟨fun _ => ⟨g, 0, e, h1.lt, fun i fs hi2 j v hj => ?_⟩, ⟨h2, h3⟩, hi⟩
  rw [List.getElem?_map, Option.map_eq_some_iff] at hi2
  obtain ⟨x, hx, rfl⟩ := hi2
  cases j with
  | succ j => simp at hj
  | zero =>
    obtain rfl : Value.int .i64 x = v := by simpa using hj
    have := hd.cell hx
    simpa using this
def scells (L : List Sta) : List Value := L.flatMap Sta.fs
theorem scells_snoc (L : List Sta) (s : Sta) : scells (L ++ [s]) = scells L ++ s.fs := by simp [scells]
theorem sta_info : (Tryd.prog.info? 46).map (fun i => (i.zero, i.size, i.bytes)) = some (some (.agg #[.int .i64 0, .slice none 0 0]), 2, 32) := by kernel_rfl
theorem i64_wrap (x : Int) : I64 (wrap64 x) := by unfold I64 wrap64; omega
theorem DSta.grown {W W' : World} {B B' n size : Nat} {s : Sta} {v : Value} {xs : List Value} (h : DSta W B s) (ho : W.ownsRow B' 46 size v n xs) (hg : W.grownBy W' v.ownBlock) : DSta W' B s := by
  obtain ⟨⟨g, e, hB, hd⟩, hi⟩ := h
  exact ⟨⟨g, e, hB, hd.grown hg fun cur hc => own_far ho hc (by decide)⟩, hi⟩
/-- The statistics that are made so far. -/
structure GInv (w : World) (ss : List Sta) (rows : Bool) (k : Nat) (A : Option Addr) (c : Nat) (L : List Sta) (wr : World) : Prop where
  len : L.length = k
  own : wr.ownsRow w.heap.size 46 2 (.slice A k c) k (scells L)
  each : ∀ s ∈ L, DSta wr w.heap.size s
  chg : ∀ (i : Nat) (s s' : Sta), ss[i]? = some s → L[i]? = some s' → Chgd rows s s'
  below : Below w.heap.size w wr
theorem grow_round {w wr W W' w13 : World} {ss L : List Sta} {rows : Bool} {k c b g cc c13 : Nat} {A A13 : Option Addr} {s : Sta} {R : Int} {D : List Int}
    (hG : GInv w ss rows k A c L wr) (hS : ChSt wr b g cc R D W) (hs : ss[k]? = some s) (hc : Chgd rows s ⟨R, some ⟨g, 0, none⟩, cc, D⟩) (hi : I64 R ∧ ∀ x ∈ D, I64 x) (hb : Below W.heap.size W W')
    (h13 : w13.ownsRow w.heap.size 46 2 (.slice A13 (k + 1) c13) (k + 1) (scells L ++ [.int .i64 R, .slice (some ⟨g, 0, none⟩) D.length cc])) (g13 : W'.grownBy w13 (Value.slice A k c).ownBlock) :
    GInv w ss rows (k + 1) A13 c13 (L ++ [⟨R, some ⟨g, 0, none⟩, cc, D⟩]) w13 := by
  have hbW' : Below wr.heap.size wr W' := hS.below.trans (hb.mono hS.below.size)
  have hoW := own_below hG.own hbW'
  have hsz := hG.below.size
  refine ⟨by simp [hG.len], by rw [scells_snoc]; exact h13, fun z hz => ?_, fun i x x' hx hx' => ?_, ?_⟩
  · rcases List.mem_append.1 hz with hz | hz
    · exact ((hG.each z hz).next hbW').grown hoW g13
    · obtain rfl := List.mem_singleton.1 hz
      exact DSta.grown ⟨⟨g, rfl, by have := hS.hig; omega, hS.row.next hb⟩, hi⟩ hoW g13
  · rw [List.getElem?_append] at hx'
    split at hx'
    · exact hG.chg i x x' hx hx'
    · rename_i hlt
      have : i = k := by
        have := (List.getElem?_eq_some_iff.1 hx').1
        have := hG.len
        simp at *
        omega
      subst this
      rw [hG.len, Nat.sub_self] at hx'
      obtain rfl : (⟨R, some ⟨g, 0, none⟩, cc, D⟩ : Sta) = x' := by simpa using hx'
      obtain rfl := Option.some.inj (hs.symm.trans hx)
      exact hc
  · exact (hG.below.trans (hbW'.mono hsz)).grown g13 (by have := hbW'.size; omega) fun q hq => (own_lt hoW hq).1
/-- The different values, while they are changed: the first m are done. -/
def DGrow (m : Nat) (D0 D : List Int) : Prop := D.length = D0.length ∧ ∀ (i : Nat) (d : Int), D0[i]? = some d → ∃ d', D[i]? = some d' ∧ (d' = d ∨ Grew d d') ∧ (m ≤ i → d' = d)
theorem DGrow.start (D : List Int) : DGrow 0 D D := ⟨rfl, fun i d h => ⟨d, h, Or.inl rfl, fun _ => rfl⟩⟩
theorem DGrow.more {m : Nat} {D0 D : List Int} (h : DGrow m D0 D) {d z : Int} (hd : D0[m]? = some d) (h0 : 0 ≤ z) (h1 : z ≤ 255) : DGrow (m + 1) D0 (D.set m (wrap64 (d + z))) := by
  refine ⟨by rw [List.length_set]; exact h.1, fun i e he => ?_⟩
  obtain ⟨e', he', h2, h3⟩ := h.2 i e he
  by_cases him : m = i
  · subst him
    obtain rfl := Option.some.inj (hd.symm.trans he)
    exact ⟨_, by rw [List.getElem?_set_self (by exact (List.getElem?_eq_some_iff.1 he').1)], Or.inr ⟨z, h0, h1, rfl⟩, fun h => by omega⟩
  · exact ⟨e', by rw [List.getElem?_set_ne him]; exact he', h2, fun h => h3 (by omega)⟩
theorem DGrow.i64 {m : Nat} {D0 D : List Int} (h : DGrow m D0 D) (h0 : ∀ x ∈ D0, I64 x) : ∀ x ∈ D, I64 x := fun x hx => by
  obtain ⟨i, hi⟩ := List.getElem?_of_mem hx
  obtain ⟨d, hd⟩ : ∃ d, D0[i]? = some d := ⟨_, List.getElem?_eq_getElem (by rw [← h.1]; exact (List.getElem?_eq_some_iff.1 hi).1)⟩
  obtain ⟨d', hd', h2, _⟩ := h.2 i d hd
  obtain rfl := Option.some.inj (hd'.symm.trans hi)
  rcases h2 with rfl | ⟨z, _, _, rfl⟩
  · exact h0 _ (List.mem_of_getElem? hd)
  · exact i64_wrap _
theorem div_in {a : Int} (h0 : 0 ≤ a) (h1 : a ≤ 255) (n : Nat) : 0 ≤ a / 2 ^ n ∧ a / 2 ^ n ≤ 255 :=
  ⟨Int.ediv_nonneg h0 (Int.le_of_lt (Int.pow_pos (by decide))), Int.le_trans (Int.ediv_le_self _ h0) h1⟩
theorem scells_get : ∀ (L : List Sta) (i : Nat) (x : Sta) (j : Nat) (v : Value), L[i]? = some x → x.fs[j]? = some v → (scells L)[i * 2 + j]? = some v
  | [], i, x, j, v, h, _ => by simp at h
  | a :: l, i, x, j, v, h, hj => by
    have h4 : a.fs.length = 2 := rfl
    show (a.fs ++ scells l)[i * 2 + j]? = _
    cases i with
    | zero =>
      obtain rfl : a = x := by simpa using h
      have : j < 2 := by have := (List.getElem?_eq_some_iff.1 hj).1; omega
      rw [List.getElem?_append_left (by omega), show 0 * 2 + j = j by omega]
      exact hj
    | succ i =>
      rw [List.getElem?_append_right (by omega), h4, show (i + 1) * 2 + j - 2 = i * 2 + j by omega]
      exact scells_get l i x j v (by simpa using h) hj
theorem str_sta {w : World} {B k : Nat} {A : Option Addr} {c : Nat} {L : List Sta} (h : w.ownsRow B 46 2 (.slice A k c) k (scells L)) (hl : L.length = k) : Str w A 2 (L.map Sta.fs) := fun hn => by
  obtain ⟨A', c', e, _, _, h0⟩ := own_cells h
  injection e with e1 _ e3
  subst e1
  rcases h0 with h0 | ⟨g, rfl, _, hg, hc⟩
  · have : L = [] := List.eq_nil_of_length_eq_zero (by omega)
    subst this
    exact absurd rfl hn
  · refine ⟨g, 0, rfl, hg, fun i fs hi j v hj => ?_⟩
    rw [List.getElem?_map, Option.map_eq_some_iff] at hi
    obtain ⟨x, hx, rfl⟩ := hi
    rw [Nat.zero_add]
    exact hc _ v (scells_get L i x j v hx hj)
set_option maxHeartbeats 2000000 in
set_option maxRecDepth 100000 in
theorem changed_any (SA : Option Addr) (sc : Nat) (ss : List Sta) (M : Option Addr) (mc : Nat) (more : List Int) (rows : Bool) (w : World) (hE : Env w SA ss) (hZ : ∀ s ∈ ss, s.da = none → s.dc = 0)
    (hM : Str w M 1 (more.map fun x => [.int .u8 x])) (hb : ∀ x ∈ more, 0 ≤ x ∧ x ≤ 255) (hl : ss.length ≤ 30) (h8 : ∀ s ∈ ss, s.dist.length ≤ 8) (hm : more.length ≤ 30) :
    Calls Tryd.prog 20 #[.slice SA ss.length sc, .slice M more.length mc, .bool rows] w fun e w' => (∃ (A : Option Addr) (c : Nat) (ss' : List Sta), e = .returned (.slice A ss'.length c) ∧ Env w' A ss' ∧ ChgAll rows ss ss') ∧ Below w.heap.size w w' := by
  have HE := Lib.hid (fun W (h : Below w.heap.size w W) => hE.below h)
  have HM := Lib.hid (fun W (h : Below w.heap.size w W) => hM.below h)
  have HZ := Lib.hid hZ
  have HB := Lib.hid hb
  have H8 := Lib.hid h8
  obtain ⟨iS, hs0, hs1, hs2, hs3⟩ := info_parts sta_info
  obtain ⟨iN, hn0, hn1, hn2, hn3⟩ := info_parts int_info
  clear hE hM hZ hb h8
  go_enter Tryd.func20, Tryd.ntmps20
  go_wp2_with fail
  go_loopw [7, 8, 9, 10] (fun out i _ _ wr => ∃ (k : Nat) (A : Option Addr) (c : Nat) (L : List Sta), k ≤ ss.length ∧ i = .int .i64 k ∧ out = .slice A k c ∧ GInv w ss rows k A c L wr) (fun _ i _ _ _ => ss.length - (intOf i).toNat)
  case atStart => exact ⟨0, none, 0, [], by omega, rfl, rfl, ⟨rfl, ⟨by simp [scells], Or.inl ⟨rfl, by simp [scells]⟩⟩, (fun s hs => by cases hs), (fun i s s' _ h => by simp at h), Below.refl _ _⟩⟩
  case round =>
    obtain ⟨k, A, c, L, hk, rfl, rfl, hG⟩ := hrel
    obtain ⟨wo, hwo⟩ : ∃ wo, wo = wr := ⟨_, rfl⟩
    subst hwo
    by_cases h1 : k < ss.length
    · have d1 : decide ((k : Int) < (ss.length : Int)) = true := by simp; omega
      obtain ⟨s, hs⟩ : ∃ s, ss[k]? = some s := ⟨_, List.getElem?_eq_getElem h1⟩
      have i0 : (0 : Int) ≤ (k : Int) := by omega
      have i1 : (k : Int) < (ss.length : Int) := by omega
      have HSK := Lib.hid hs
      have HG := Lib.hid hG
      have hw := hG.below
      have hsz := hw.size
      have h8s := H8.out s (List.mem_of_getElem? hs)
      have HSO := Lib.hid ((HE.out wo hw).o s (List.mem_of_getElem? hs))
      have HI := Lib.hid HSO.out.i64
      have HZ1 := Lib.hid (fun (h : s.da = none) => show s.dist.length = 0 ∧ s.dc = 0 by
        refine ⟨?_, HZ.out s (List.mem_of_getElem? hs) h⟩
        by_cases he : s.dist = []
        · rw [he]; rfl
        · obtain ⟨g, o, e, _⟩ := HSO.out.dist (fun e => he (List.map_eq_nil_iff.1 e))
          rw [h] at e
          cases e)
      have HZ2 := Lib.hid (fun W (hb : Below wo.heap.size wo W) (ad : Addr) (e : s.da = some ad) (j : Nat) (u : Value) (hu : (s.dist.map (Value.int .i64))[j]? = some u) => show W.cell? (ad.add j) = some u by
        rw [List.getElem?_map, Option.map_eq_some_iff] at hu
        obtain ⟨x, hx, rfl⟩ := hu
        obtain ⟨g, o, e2, _, hc⟩ := (HSO.out.dist.below hb).at (i := j) (fs := [.int .i64 x]) (by rw [List.getElem?_map, hx]; rfl)
        obtain rfl := Option.some.inj (e.symm.trans e2)
        have := hc 0 _ rfl
        rw [add_at]
        simpa using this)
      obtain ⟨gs, os, rfl, hgs, yy⟩ := (HE.out wo hw).s.at (i := k) (fs := s.fs) (by rw [List.getElem?_map, hs]; rfl)
      have y0 : wo.cell? ⟨gs, os + k * 2, none⟩ = some (.int .i64 s.rows) := yy 0 _ rfl
      have y1 : wo.cell? ⟨gs, os + k * 2 + 1, none⟩ = some (.slice s.da s.dist.length s.dc) := yy 1 _ rfl
      clear yy hs hG
      go_wp2_with fail
      refine' wp_region_last 14 _ _ (Below wo.heap.size wo) (Onward) (Vl :: Vl :: Vl :: Vl :: Vl :: NewE wo.heap.size :: Vl :: Vl :: Vl :: Vl :: Vl :: OwnD wo.heap.size s.dist :: AggD wo.heap.size s.rows s.dist :: NewS wo.heap.size :: []) ?hF (by kernel_rfl) (by kernel_rfl) (by kernel_rfl) (by rfl) (by rfl) (by rfl) (by kernel_rfl) ((Below.refl _ _).drew) (lasting_cons (lasting_vl) (lasting_cons (lasting_vl) (lasting_cons (lasting_vl) (lasting_cons (lasting_vl) (lasting_cons (lasting_vl) (lasting_cons (newE_on _) (lasting_cons (lasting_vl) (lasting_cons (lasting_vl) (lasting_cons (lasting_vl) (lasting_cons (lasting_vl) (lasting_cons (lasting_vl) (lasting_cons (ownD_on _ _) (lasting_cons (aggD_on _ _ _) (lasting_cons (newS_on _) (lasting_none))))))))))))))) ?hops ?hlast
      case hF => (intro v; simp only [over, Act.put, List.setIfInBounds_toArray, List.set_cons_zero, List.set_cons_succ, Nat.zero_add, Nat.reduceAdd]; exact rfl)
      case hops =>
        refine ⟨?_, ?_⟩
        · intro v w' hj hd hs K hK
          have hk := hK.out
          simp only [Act.put, List.setIfInBounds_toArray, List.set_cons_zero, List.set_cons_succ] at hk
          have HK := Lib.hid hk
          clear hd hs hk hK
          go_simp
          exact HK.out _ _ hj.out (Below.refl _ _) (show _ = _ from rfl)
        refine ⟨?_, ?_⟩
        · intro v w' hj hd hs K hK
          have hk := hK.out
          simp only [Act.put, List.setIfInBounds_toArray, List.set_cons_zero, List.set_cons_succ] at hk
          have HK := Lib.hid hk
          clear hd hs hk hK
          go_simp
          exact HK.out _ _ hj.out (Below.refl _ _) (show _ = _ from rfl)
        refine ⟨?_, ?_⟩
        · intro v w' hj hd hs K hK
          have t0 : v 0 = _ := hd.out 0 (by kernel_rfl)
          have t1 : v 1 = _ := hd.out 1 (by kernel_rfl)
          have hk := hK.out
          simp only [t0, t1, Act.put, List.setIfInBounds_toArray, List.set_cons_zero, List.set_cons_succ] at hk
          have HK := Lib.hid hk
          clear hd hs hk hK
          go_simp
          exact HK.out _ _ hj.out (Below.refl _ _) (show _ = _ from rfl)
        refine ⟨?_, ?_⟩
        · intro v w' hj hd hs K hK
          have t2 : v 2 = _ := hd.out 2 (by kernel_rfl)
          have hk := hK.out
          simp only [t2, Act.put, List.setIfInBounds_toArray, List.set_cons_zero, List.set_cons_succ] at hk
          have HK := Lib.hid hk
          clear hd hs hk hK
          go_simp
          exact HK.out _ _ hj.out (Below.refl _ _) (show _ = _ from rfl)
        refine ⟨?_, ?_⟩
        · intro v w' hj hd hs K hK
          have t3 : v 3 = _ := hd.out 3 (by kernel_rfl)
          have y0x := next_cell y0 hj.out
          have hk := hK.out
          simp only [t3, Act.put, List.setIfInBounds_toArray, List.set_cons_zero, List.set_cons_succ] at hk
          have HK := Lib.hid hk
          clear hd hs hk hK
          go_simp
          exact HK.out _ _ hj.out (Below.refl _ _) (show _ = _ from rfl)
        refine ⟨?_, ?_⟩
        · intro v w' hj hd hs K hK
          have hk := hK.out
          simp only [Act.put, List.setIfInBounds_toArray, List.set_cons_zero, List.set_cons_succ] at hk
          have HK := Lib.hid hk
          clear hd hs hk hK
          go_simp
          exact HK.out _ _ (hj.out.alloc hj.out.size _) (below1 _ _) ⟨_, rfl, own_empty _ _ _ _ hj.out.size⟩
        refine ⟨?_, ?_⟩
        · intro v w' hj hd hs K hK
          have hk := hK.out
          simp only [Act.put, List.setIfInBounds_toArray, List.set_cons_zero, List.set_cons_succ] at hk
          have HK := Lib.hid hk
          clear hd hs hk hK
          go_simp
          exact HK.out _ _ hj.out (Below.refl _ _) (show _ = _ from rfl)
        refine ⟨?_, ?_⟩
        · intro v w' hj hd hs K hK
          have hk := hK.out
          simp only [Act.put, List.setIfInBounds_toArray, List.set_cons_zero, List.set_cons_succ] at hk
          have HK := Lib.hid hk
          clear hd hs hk hK
          go_simp
          exact HK.out _ _ hj.out (Below.refl _ _) (show _ = _ from rfl)
        refine ⟨?_, ?_⟩
        · intro v w' hj hd hs K hK
          have t6 : v 6 = _ := hd.out 6 (by kernel_rfl)
          have t7 : v 7 = _ := hd.out 7 (by kernel_rfl)
          have hk := hK.out
          simp only [t6, t7, Act.put, List.setIfInBounds_toArray, List.set_cons_zero, List.set_cons_succ] at hk
          have HK := Lib.hid hk
          clear hd hs hk hK
          go_simp
          exact HK.out _ _ hj.out (Below.refl _ _) (show _ = _ from rfl)
        refine ⟨?_, ?_⟩
        · intro v w' hj hd hs K hK
          have t8 : v 8 = _ := hd.out 8 (by kernel_rfl)
          have hk := hK.out
          simp only [t8, Act.put, List.setIfInBounds_toArray, List.set_cons_zero, List.set_cons_succ] at hk
          have HK := Lib.hid hk
          clear hd hs hk hK
          go_simp
          exact HK.out _ _ hj.out (Below.refl _ _) (show _ = _ from rfl)
        refine ⟨?_, ?_⟩
        · intro v w' hj hd hs K hK
          have t9 : v 9 = _ := hd.out 9 (by kernel_rfl)
          have y1x := next_cell y1 hj.out
          have hk := hK.out
          simp only [t9, Act.put, List.setIfInBounds_toArray, List.set_cons_zero, List.set_cons_succ] at hk
          have HK := Lib.hid hk
          clear hd hs hk hK
          go_simp
          exact HK.out _ _ hj.out (Below.refl _ _) (show _ = _ from rfl)
        refine ⟨?_, ?_⟩
        · intro v w' hj hd hs K hK
          obtain ⟨g5, t5, o5⟩ : NewE wo.heap.size (v 5) w' := hd.out 5 (by kernel_rfl)
          have t10 : v 10 = _ := hd.out 10 (by kernel_rfl)
          have hk := hK.out
          rw [if_pos (show Region.wanted _ _ = true from rfl)]
          simp only [t5, t10] at hk ⊢
          have HK := Lib.hid hk
          clear hd hs hk hK
          refine wp_append_zero (.tmp 22) (.tmp 27) 40 rfl wo.heap.size 3 iN (.int .i64 0) 8 Tryd.underlying40 hn0 hn1 hn2 hn3 rfl g5 rfl o5 s.da s.dist.length s.dc (s.dist.map (Value.int .i64)) rfl (by simp) HZ1.out (HZ2.out w' hj.out) (ints_one _) (by unfold maxLen; omega) (by omega) hj.out.size fun g6 c6 w6 o6 b6 => ?_
          exact HK.out _ _ (hj.out.trans (b6.mono hj.out.size)) b6 ⟨_, _, rfl, o6⟩
        refine ⟨?_, ?_⟩
        · intro v w' hj hd hs K hK
          have t4 : v 4 = _ := hd.out 4 (by kernel_rfl)
          obtain ⟨g11, c11, t11, o11⟩ : OwnD wo.heap.size s.dist (v 11) w' := hd.out 11 (by kernel_rfl)
          have hk := hK.out
          simp only [t4, t11, Act.put, List.setIfInBounds_toArray, List.set_cons_zero, List.set_cons_succ] at hk
          have HK := Lib.hid hk
          clear hd hs hk hK
          go_simp
          exact HK.out _ _ hj.out (Below.refl _ _) ⟨_, _, rfl, o11⟩
        refine ⟨?_, ?_⟩
        · intro v w' hj hd hs K hK
          have hk := hK.out
          simp only [Act.put, List.setIfInBounds_toArray, List.set_cons_zero, List.set_cons_succ] at hk
          have HK := Lib.hid hk
          clear hd hs hk hK
          go_simp
          exact HK.out _ _ (hj.out.alloc hj.out.size _) (below1 _ _) ⟨_, rfl, hj.out.size, At.new _ _ _⟩
        trivial
      case hlast =>
        intro v w' hj hd K hK
        obtain ⟨g12, c12, t12, o12⟩ : AggD wo.heap.size s.rows s.dist (v 12) w' := hd.out 12 (of_decide_eq_true (by kernel_rfl))
        obtain ⟨b13, t13, l13, a13⟩ : NewS wo.heap.size (v 13) w' := hd.out 13 (of_decide_eq_true (by kernel_rfl))
        have yf0 := a13.frozen 0
        have yf1 := a13.frozen 1
        have yc0 := a13.cell 0
        have yc1 := a13.cell 1
        have yl := a13.lt
        simp only [List.getElem?_toArray, List.getElem?_cons_zero, List.getElem?_cons_succ] at yc0 yc1
        have hk := hK.out
        simp only [t12, t13, Act.put, List.setIfInBounds_toArray, List.set_cons_zero, List.set_cons_succ] at hk
        have HK := Lib.hid hk
        clear hd hk hK
        go_simp
        refine HK.out _ ?_
        have hS := ChSt.make (R := s.rows) o12 a13 l13 hj.out
        generalize hw5 : (w'.setCell ⟨b13, 0, none⟩ (.int .i64 s.rows)).setCell ⟨b13, 1, none⟩ (.slice (some ⟨g12, 0, none⟩) s.dist.length c12) = w5 at hS ⊢
        clear hw5 yf0 yf1 yc0 yc1 yl t12 t13 o12 l13 a13 hj HK y0 y1
        clear HZ1 HZ2
        by_cases hkm : k < more.length
        · have d2 : decide ((k : Int) < (more.length : Int)) = true := by simp; omega
          obtain ⟨x, hx⟩ : ∃ x, more[k]? = some x := ⟨_, List.getElem?_eq_getElem hkm⟩
          have i2 : (k : Int) < (more.length : Int) := by omega
          obtain ⟨hx0, hx1⟩ := HB.out x (List.mem_of_getElem? hx)
          obtain ⟨hx2, hx3⟩ : 0 ≤ IntKind.i64.wrap x ∧ IntKind.i64.wrap x ≤ 255 := by rw [IntWalk.i64_in x (by omega)]; exact ⟨hx0, hx1⟩
          obtain ⟨gm, om, rfl, hgm, ym⟩ := (HM.out _ (hw.trans (hS.below.mono hw.size))).at (i := k) (fs := [.int .u8 x]) (by rw [List.getElem?_map, hx]; rfl)
          have ymw : w5.cell? ⟨gm, om + k, none⟩ = some (.int .u8 x) := by have := ym 0 _ rfl; rwa [Nat.mul_one, Nat.add_zero] at this
          have ymr : wo.cell? ⟨gm, om + k, none⟩ = some (.int .u8 x) := by
            obtain ⟨gm2, om2, e2, _, ym2⟩ := (HM.out _ hw).at (i := k) (fs := [.int .u8 x]) (by rw [List.getElem?_map, hx]; rfl)
            injection e2 with e2
            injection e2 with e2 e3 _
            subst e2; subst e3
            have := ym2 0 _ rfl
            rwa [Nat.mul_one, Nat.add_zero] at this
          clear hx ym
          cases rows
          · go_wp2_with fail
            go_loopw [10] (fun q wr => ∃ (m : Nat) (D : List Int), m ≤ s.dist.length ∧ q = .int .i64 m ∧ DGrow m s.dist D ∧ ChSt wo b13 g12 c12 s.rows D wr) (fun q _ => s.dist.length - (intOf q).toNat)
            case atStart => exact ⟨0, s.dist, Nat.zero_le _, rfl, DGrow.start _, hS⟩
            case round =>
              have HB5 := Lib.hid hS.below
              have HYM := Lib.hid (fun W (h : Below wo.heap.size wo W) => show W.cell? ⟨gm, om + k, none⟩ = some (.int .u8 x) from next_cell ymr h)
              clear hS ymw ymr
              obtain ⟨m, D, hm2, rfl, hDG, hS⟩ := hrel
              have HDG := Lib.hid hDG
              have hdl := hDG.1
              have ymw := HYM.out wr hS.below
              have e1 := hS.box.cell 1
              simp only [List.getElem?_toArray, List.getElem?_cons_zero, List.getElem?_cons_succ] at e1
              by_cases h3 : m < D.length
              · have d3 : decide ((m : Int) < (D.length : Int)) = true := by simp; omega
                obtain ⟨d0, hd0⟩ : ∃ d0, s.dist[m]? = some d0 := ⟨_, List.getElem?_eq_getElem (by omega)⟩
                obtain ⟨d, hd, _, hdd⟩ := hDG.2 m d0 hd0
                obtain rfl := hdd (Nat.le_refl _)
                have HDX := Lib.hid hd
                have HD0 := Lib.hid hd0
                have yd := hS.row.cell hd
                have i3 : (0 : Int) ≤ (m : Int) := by omega
                have i4 : (m : Int) < (D.length : Int) := by omega
                have HDL := Lib.hid hdl
                clear hd hd0 hdd hDG hdl
                go_wp2_with fail
                refine' wp_region_last 18 _ _ (Below wr.heap.size wr) (Onward) (Vl :: Vl :: Vl :: Vl :: Vl :: Vl :: Vl :: Vl :: Vl :: Vl :: Vl :: Vl :: Vl :: Vl :: Vl :: Vl :: Vl :: Vl :: []) ?hF (by kernel_rfl) (by kernel_rfl) (by kernel_rfl) (by rfl) (by rfl) (by rfl) (by kernel_rfl) ((Below.refl _ _).drew) (lasting_cons (lasting_vl) (lasting_cons (lasting_vl) (lasting_cons (lasting_vl) (lasting_cons (lasting_vl) (lasting_cons (lasting_vl) (lasting_cons (lasting_vl) (lasting_cons (lasting_vl) (lasting_cons (lasting_vl) (lasting_cons (lasting_vl) (lasting_cons (lasting_vl) (lasting_cons (lasting_vl) (lasting_cons (lasting_vl) (lasting_cons (lasting_vl) (lasting_cons (lasting_vl) (lasting_cons (lasting_vl) (lasting_cons (lasting_vl) (lasting_cons (lasting_vl) (lasting_cons (lasting_vl) (lasting_none))))))))))))))))))) ?hops ?hlast
                case hF => (intro v; simp only [over, Act.put, List.setIfInBounds_toArray, List.set_cons_zero, List.set_cons_succ, Nat.zero_add, Nat.reduceAdd]; exact rfl)
                case hops =>
                  refine ⟨?_, ?_⟩
                  · intro v w' hj hd hs K hK
                    have hk := hK.out
                    simp only [Act.put, List.setIfInBounds_toArray, List.set_cons_zero, List.set_cons_succ] at hk
                    have HK := Lib.hid hk
                    clear hd hs hk hK
                    go_simp
                    exact HK.out _ _ hj.out (Below.refl _ _) (show _ = _ from rfl)
                  refine ⟨?_, ?_⟩
                  · intro v w' hj hd hs K hK
                    have t0 : v 0 = _ := hd.out 0 (by kernel_rfl)
                    have e0 := (hS.box.next hj.out).cell 0
                    have e1 := (hS.box.next hj.out).cell 1
                    simp only [List.getElem?_toArray, List.getElem?_cons_zero, List.getElem?_cons_succ] at e0 e1
                    have hk := hK.out
                    simp only [t0, Act.put, List.setIfInBounds_toArray, List.set_cons_zero, List.set_cons_succ] at hk
                    have HK := Lib.hid hk
                    clear hd hs hk hK
                    go_simp
                    exact HK.out _ _ hj.out (Below.refl _ _) (show _ = _ from rfl)
                  refine ⟨?_, ?_⟩
                  · intro v w' hj hd hs K hK
                    have hk := hK.out
                    simp only [Act.put, List.setIfInBounds_toArray, List.set_cons_zero, List.set_cons_succ] at hk
                    have HK := Lib.hid hk
                    clear hd hs hk hK
                    go_simp
                    exact HK.out _ _ hj.out (Below.refl _ _) (show _ = _ from rfl)
                  refine ⟨?_, ?_⟩
                  · intro v w' hj hd hs K hK
                    have hk := hK.out
                    simp only [Act.put, List.setIfInBounds_toArray, List.set_cons_zero, List.set_cons_succ] at hk
                    have HK := Lib.hid hk
                    clear hd hs hk hK
                    go_simp
                    exact HK.out _ _ hj.out (Below.refl _ _) (show _ = _ from rfl)
                  refine ⟨?_, ?_⟩
                  · intro v w' hj hd hs K hK
                    have t3 : v 3 = _ := hd.out 3 (by kernel_rfl)
                    have e0 := (hS.box.next hj.out).cell 0
                    have e1 := (hS.box.next hj.out).cell 1
                    simp only [List.getElem?_toArray, List.getElem?_cons_zero, List.getElem?_cons_succ] at e0 e1
                    have hk := hK.out
                    simp only [t3, Act.put, List.setIfInBounds_toArray, List.set_cons_zero, List.set_cons_succ] at hk
                    have HK := Lib.hid hk
                    clear hd hs hk hK
                    go_simp
                    exact HK.out _ _ hj.out (Below.refl _ _) (show _ = _ from rfl)
                  refine ⟨?_, ?_⟩
                  · intro v w' hj hd hs K hK
                    have hk := hK.out
                    simp only [Act.put, List.setIfInBounds_toArray, List.set_cons_zero, List.set_cons_succ] at hk
                    have HK := Lib.hid hk
                    clear hd hs hk hK
                    go_simp
                    exact HK.out _ _ hj.out (Below.refl _ _) (show _ = _ from rfl)
                  refine ⟨?_, ?_⟩
                  · intro v w' hj hd hs K hK
                    have t4 : v 4 = _ := hd.out 4 (by kernel_rfl)
                    have t5 : v 5 = _ := hd.out 5 (by kernel_rfl)
                    have hk := hK.out
                    simp only [t4, t5, Act.put, List.setIfInBounds_toArray, List.set_cons_zero, List.set_cons_succ] at hk
                    have HK := Lib.hid hk
                    clear hd hs hk hK
                    go_simp
                    exact HK.out _ _ hj.out (Below.refl _ _) (show _ = _ from rfl)
                  refine ⟨?_, ?_⟩
                  · intro v w' hj hd hs K hK
                    have t6 : v 6 = _ := hd.out 6 (by kernel_rfl)
                    have ydx := next_cell yd hj.out
                    have hk := hK.out
                    simp only [t6, Act.put, List.setIfInBounds_toArray, List.set_cons_zero, List.set_cons_succ] at hk
                    have HK := Lib.hid hk
                    clear hd hs hk hK
                    go_simp
                    exact HK.out _ _ hj.out (Below.refl _ _) (show _ = _ from rfl)
                  refine ⟨?_, ?_⟩
                  · intro v w' hj hd hs K hK
                    have hk := hK.out
                    simp only [Act.put, List.setIfInBounds_toArray, List.set_cons_zero, List.set_cons_succ] at hk
                    have HK := Lib.hid hk
                    clear hd hs hk hK
                    go_simp
                    exact HK.out _ _ hj.out (Below.refl _ _) (show _ = _ from rfl)
                  refine ⟨?_, ?_⟩
                  · intro v w' hj hd hs K hK
                    have hk := hK.out
                    simp only [Act.put, List.setIfInBounds_toArray, List.set_cons_zero, List.set_cons_succ] at hk
                    have HK := Lib.hid hk
                    clear hd hs hk hK
                    go_simp
                    exact HK.out _ _ hj.out (Below.refl _ _) (show _ = _ from rfl)
                  refine ⟨?_, ?_⟩
                  · intro v w' hj hd hs K hK
                    have t8 : v 8 = _ := hd.out 8 (by kernel_rfl)
                    have t9 : v 9 = _ := hd.out 9 (by kernel_rfl)
                    have hk := hK.out
                    simp only [t8, t9, Act.put, List.setIfInBounds_toArray, List.set_cons_zero, List.set_cons_succ] at hk
                    have HK := Lib.hid hk
                    clear hd hs hk hK
                    go_simp
                    exact HK.out _ _ hj.out (Below.refl _ _) (show _ = _ from rfl)
                  refine ⟨?_, ?_⟩
                  · intro v w' hj hd hs K hK
                    have t10 : v 10 = _ := hd.out 10 (by kernel_rfl)
                    have ymx := next_cell ymw hj.out
                    have hk := hK.out
                    simp only [t10, Act.put, List.setIfInBounds_toArray, List.set_cons_zero, List.set_cons_succ] at hk
                    have HK := Lib.hid hk
                    clear hd hs hk hK
                    go_simp
                    exact HK.out _ _ hj.out (Below.refl _ _) (show _ = _ from rfl)
                  refine ⟨?_, ?_⟩
                  · intro v w' hj hd hs K hK
                    have t11 : v 11 = _ := hd.out 11 (by kernel_rfl)
                    have hk := hK.out
                    simp only [t11, Act.put, List.setIfInBounds_toArray, List.set_cons_zero, List.set_cons_succ] at hk
                    have HK := Lib.hid hk
                    clear hd hs hk hK
                    go_simp
                    exact HK.out _ _ hj.out (Below.refl _ _) (show _ = _ from rfl)
                  refine ⟨?_, ?_⟩
                  · intro v w' hj hd hs K hK
                    have hk := hK.out
                    simp only [Act.put, List.setIfInBounds_toArray, List.set_cons_zero, List.set_cons_succ] at hk
                    have HK := Lib.hid hk
                    clear hd hs hk hK
                    go_simp
                    exact HK.out _ _ hj.out (Below.refl _ _) (show _ = _ from rfl)
                  refine ⟨?_, ?_⟩
                  · intro v w' hj hd hs K hK
                    have t13 : v 13 = _ := hd.out 13 (by kernel_rfl)
                    have hk := hK.out
                    simp only [t13, Act.put, List.setIfInBounds_toArray, List.set_cons_zero, List.set_cons_succ] at hk
                    have HK := Lib.hid hk
                    clear hd hs hk hK
                    go_simp
                    exact HK.out _ _ hj.out (Below.refl _ _) (show _ = _ from rfl)
                  refine ⟨?_, ?_⟩
                  · intro v w' hj hd hs K hK
                    have t12 : v 12 = _ := hd.out 12 (by kernel_rfl)
                    have t14 : v 14 = _ := hd.out 14 (by kernel_rfl)
                    have hk := hK.out
                    simp only [t12, t14, Act.put, List.setIfInBounds_toArray, List.set_cons_zero, List.set_cons_succ] at hk
                    have HK := Lib.hid hk
                    clear hd hs hk hK
                    go_simp
                    exact HK.out _ _ hj.out (Below.refl _ _) (show _ = _ from rfl)
                  refine ⟨?_, ?_⟩
                  · intro v w' hj hd hs K hK
                    have t7 : v 7 = _ := hd.out 7 (by kernel_rfl)
                    have t15 : v 15 = _ := hd.out 15 (by kernel_rfl)
                    have hk := hK.out
                    simp only [t7, t15, Act.put, List.setIfInBounds_toArray, List.set_cons_zero, List.set_cons_succ] at hk
                    have HK := Lib.hid hk
                    clear hd hs hk hK
                    go_simp
                    exact HK.out _ _ hj.out (Below.refl _ _) (show _ = _ from rfl)
                  refine ⟨?_, ?_⟩
                  · intro v w' hj hd hs K hK
                    have t1 : v 1 = _ := hd.out 1 (by kernel_rfl)
                    have t2 : v 2 = _ := hd.out 2 (by kernel_rfl)
                    have hk := hK.out
                    simp only [t1, t2, Act.put, List.setIfInBounds_toArray, List.set_cons_zero, List.set_cons_succ] at hk
                    have HK := Lib.hid hk
                    clear hd hs hk hK
                    go_simp
                    exact HK.out _ _ hj.out (Below.refl _ _) (show _ = _ from rfl)
                  trivial
                case hlast =>
                  intro v w' hj hd K hK
                  have t16 : v 16 = _ := hd.out 16 (of_decide_eq_true (by kernel_rfl))
                  have t17 : v 17 = _ := hd.out 17 (of_decide_eq_true (by kernel_rfl))
                  have hr5 := hS.row.next hj.out
                  have yf := hr5.frozen m
                  have yl := hr5.lt
                  have yc := hr5.cell HDX.out
                  have hk := hK.out
                  simp only [t16, t17, Act.put, List.setIfInBounds_toArray, List.set_cons_zero, List.set_cons_succ] at hk
                  have HK := Lib.hid hk
                  clear hd hk hK
                  go_simp
                  refine HK.out _ ?_
                  have hz0 := div_in hx2 hx3 (min (IntKind.u64.wrap (m : Int)).toNat 64)
                  have hS := (hS.next hj.out).setD m (IntKind.i64.wrap (d + IntKind.i64.wrap x / 2 ^ min (IntKind.u64.wrap (m : Int)).toNat 64))
                  have HDM := Lib.hid (show DGrow (m + 1) s.dist (D.set m (IntKind.i64.wrap (d + IntKind.i64.wrap x / 2 ^ min (IntKind.u64.wrap (m : Int)).toNat 64))) by rw [IntWalk.i64_left]; exact HDG.out.more HD0.out hz0.1 hz0.2)
                  generalize hw8 : w'.setCell ⟨g12, m, none⟩ (.int .i64 (IntKind.i64.wrap (d + IntKind.i64.wrap x / 2 ^ min (IntKind.u64.wrap (m : Int)).toNat 64))) = w8 at hS ⊢
                  have hdm : m + 1 ≤ s.dist.length := by have := HDL.out; omega
                  clear hw8 hz0 hj HK yf yl yc hr5 yd
                  go_wp2_with fail
                  go_roundw
                  case rel => exact ⟨m + 1, _, hdm, by go_num, HDM.out, hS⟩
                  case measure => simp [intOf]; omega
              · have d3 : decide ((m : Int) < (D.length : Int)) = false := by simp; omega
                clear hDG hdl
                have HS := Lib.hid hS
                have e0 := hS.box.cell 0
                have e1 := hS.box.cell 1
                simp only [List.getElem?_toArray, List.getElem?_cons_zero, List.getElem?_cons_succ] at e0 e1
                have hbx := hS.below
                have ho12 := own_below HG.out.own hbx
                have hsz12 := (HG.out.below.trans (hbx.mono HG.out.below.size)).size
                clear hS
                have ho13 := ho12.alloc (.cells #[.int .i64 (s.rows), .slice (some ⟨g12, 0, none⟩) (D).length c12] 46)
                go_wp2_with (at_builtin; refine wpList_append_own _ rfl _ _ 32 rfl w.heap.size 46 iS (.agg #[.int .i64 0, .slice none 0 0]) 2 32 Tryd.underlying32 hs0 hs1 hs2 hs3 rfl (by decide) _ _ _ rfl ho13 ⟨wr.heap.size, 0, none⟩ 1 1 [.int .i64 (s.rows), .slice (some ⟨g12, 0, none⟩) (D).length c12] rfl rfl ?c1 ?c2 ?c3 ?c4 ?c5 ?_)
                case c1 => exact At.news (xs := [.int .i64 (s.rows), .slice (some ⟨g12, 0, none⟩) (D).length c12]) (At.new _ _ _)
                case c2 => intro u hu; simp at hu; rcases hu with rfl | rfl <;> rfl
                case c3 => simp [maxLen]; omega
                case c4 => omega
                case c5 => simp; omega
                intro v5 w13 o13 g13 _
                obtain ⟨A13, c13, rfl⟩ := own_len o13
                go_wp2_with fail
                go_roundw
                case rel => exact ⟨k + 1, A13, c13, _, by omega, by go_num, rfl, grow_round HG.out HS.out HSK.out (show ChgD _ _ from ⟨rfl, HDG.out.1, fun i d hd => by obtain ⟨d2, a1, a2, _⟩ := HDG.out.2 i d hd; exact ⟨d2, a1, a2⟩⟩) ⟨HI.out.1, HDG.out.i64 HI.out.2⟩ (below1 _ _) o13 g13⟩
                case measure => simp [intOf]; omega
          · go_wp2_with fail
            refine' wp_region_last 9 _ _ (Below w5.heap.size w5) (Onward) (Vl :: Vl :: Vl :: Vl :: Vl :: Vl :: Vl :: Vl :: Vl :: []) ?hF (by kernel_rfl) (by kernel_rfl) (by kernel_rfl) (by rfl) (by rfl) (by rfl) (by kernel_rfl) ((Below.refl _ _).drew) (lasting_cons (lasting_vl) (lasting_cons (lasting_vl) (lasting_cons (lasting_vl) (lasting_cons (lasting_vl) (lasting_cons (lasting_vl) (lasting_cons (lasting_vl) (lasting_cons (lasting_vl) (lasting_cons (lasting_vl) (lasting_cons (lasting_vl) (lasting_none)))))))))) ?hops ?hlast
            case hF => (intro v; simp only [over, Act.put, List.setIfInBounds_toArray, List.set_cons_zero, List.set_cons_succ, Nat.zero_add, Nat.reduceAdd]; exact rfl)
            case hops =>
              refine ⟨?_, ?_⟩
              · intro v w' hj hd hs K hK
                have hk := hK.out
                simp only [Act.put, List.setIfInBounds_toArray, List.set_cons_zero, List.set_cons_succ] at hk
                have HK := Lib.hid hk
                clear hd hs hk hK
                go_simp
                exact HK.out _ _ hj.out (Below.refl _ _) (show _ = _ from rfl)
              refine ⟨?_, ?_⟩
              · intro v w' hj hd hs K hK
                have t0 : v 0 = _ := hd.out 0 (by kernel_rfl)
                have e0 := (hS.box.next hj.out).cell 0
                have e1 := (hS.box.next hj.out).cell 1
                simp only [List.getElem?_toArray, List.getElem?_cons_zero, List.getElem?_cons_succ] at e0 e1
                have hk := hK.out
                simp only [t0, Act.put, List.setIfInBounds_toArray, List.set_cons_zero, List.set_cons_succ] at hk
                have HK := Lib.hid hk
                clear hd hs hk hK
                go_simp
                exact HK.out _ _ hj.out (Below.refl _ _) (show _ = _ from rfl)
              refine ⟨?_, ?_⟩
              · intro v w' hj hd hs K hK
                have hk := hK.out
                simp only [Act.put, List.setIfInBounds_toArray, List.set_cons_zero, List.set_cons_succ] at hk
                have HK := Lib.hid hk
                clear hd hs hk hK
                go_simp
                exact HK.out _ _ hj.out (Below.refl _ _) (show _ = _ from rfl)
              refine ⟨?_, ?_⟩
              · intro v w' hj hd hs K hK
                have hk := hK.out
                simp only [Act.put, List.setIfInBounds_toArray, List.set_cons_zero, List.set_cons_succ] at hk
                have HK := Lib.hid hk
                clear hd hs hk hK
                go_simp
                exact HK.out _ _ hj.out (Below.refl _ _) (show _ = _ from rfl)
              refine ⟨?_, ?_⟩
              · intro v w' hj hd hs K hK
                have t2 : v 2 = _ := hd.out 2 (by kernel_rfl)
                have t3 : v 3 = _ := hd.out 3 (by kernel_rfl)
                have hk := hK.out
                simp only [t2, t3, Act.put, List.setIfInBounds_toArray, List.set_cons_zero, List.set_cons_succ] at hk
                have HK := Lib.hid hk
                clear hd hs hk hK
                go_simp
                exact HK.out _ _ hj.out (Below.refl _ _) (show _ = _ from rfl)
              refine ⟨?_, ?_⟩
              · intro v w' hj hd hs K hK
                have t4 : v 4 = _ := hd.out 4 (by kernel_rfl)
                have ymx := next_cell ymw hj.out
                have hk := hK.out
                simp only [t4, Act.put, List.setIfInBounds_toArray, List.set_cons_zero, List.set_cons_succ] at hk
                have HK := Lib.hid hk
                clear hd hs hk hK
                go_simp
                exact HK.out _ _ hj.out (Below.refl _ _) (show _ = _ from rfl)
              refine ⟨?_, ?_⟩
              · intro v w' hj hd hs K hK
                have t5 : v 5 = _ := hd.out 5 (by kernel_rfl)
                have hk := hK.out
                simp only [t5, Act.put, List.setIfInBounds_toArray, List.set_cons_zero, List.set_cons_succ] at hk
                have HK := Lib.hid hk
                clear hd hs hk hK
                go_simp
                exact HK.out _ _ hj.out (Below.refl _ _) (show _ = _ from rfl)
              refine ⟨?_, ?_⟩
              · intro v w' hj hd hs K hK
                have t1 : v 1 = _ := hd.out 1 (by kernel_rfl)
                have t6 : v 6 = _ := hd.out 6 (by kernel_rfl)
                have hk := hK.out
                simp only [t1, t6, Act.put, List.setIfInBounds_toArray, List.set_cons_zero, List.set_cons_succ] at hk
                have HK := Lib.hid hk
                clear hd hs hk hK
                go_simp
                exact HK.out _ _ hj.out (Below.refl _ _) (show _ = _ from rfl)
              refine ⟨?_, ?_⟩
              · intro v w' hj hd hs K hK
                have hk := hK.out
                simp only [Act.put, List.setIfInBounds_toArray, List.set_cons_zero, List.set_cons_succ] at hk
                have HK := Lib.hid hk
                clear hd hs hk hK
                go_simp
                exact HK.out _ _ hj.out (Below.refl _ _) (show _ = _ from rfl)
              trivial
            case hlast =>
              intro v w' hj hd K hK
              have t7 : v 7 = _ := hd.out 7 (of_decide_eq_true (by kernel_rfl))
              have t8 : v 8 = _ := hd.out 8 (of_decide_eq_true (by kernel_rfl))
              have e0 := (hS.box.next hj.out).cell 0
              have e1 := (hS.box.next hj.out).cell 1
              simp only [List.getElem?_toArray, List.getElem?_cons_zero, List.getElem?_cons_succ] at e0 e1
              have yf0 := (hS.box.next hj.out).frozen 0
              have yl := (hS.box.next hj.out).lt
              have hk := hK.out
              simp only [t7, t8, Act.put, List.setIfInBounds_toArray, List.set_cons_zero, List.set_cons_succ] at hk
              have HK := Lib.hid hk
              clear hd hk hK
              go_simp
              refine HK.out _ ?_
              have hS := (hS.next hj.out).setR (IntKind.i64.wrap (s.rows + IntKind.i64.wrap x))
              generalize hR1 : IntKind.i64.wrap (s.rows + IntKind.i64.wrap x) = R1 at hS ⊢
              have HR1 := Lib.hid hR1
              clear hR1
              generalize hw7 : w'.setCell ⟨b13, 0, none⟩ (.int .i64 R1) = w7 at hS ⊢
              clear hw7 yf0 yl e0 e1 hj HK
              clear ymw
              go_wp2_with fail
              go_loopw [10] (fun q wx => q = .int .i64 0 ∧ ChSt wo b13 g12 c12 (R1) s.dist wx) (fun _ _ => 0)
              case atStart => exact ⟨rfl, hS⟩
              case round =>
                clear hS
                obtain ⟨rfl, hS⟩ := hrel
                obtain ⟨dl, hdl⟩ : ∃ dl, s.dist.length = dl := ⟨_, rfl⟩
                have HDL := Lib.hid hdl
                have HS := Lib.hid hS
                have e0 := hS.box.cell 0
                have e1 := hS.box.cell 1
                simp only [List.getElem?_toArray, List.getElem?_cons_zero, List.getElem?_cons_succ] at e0 e1
                rw [hdl] at e1
                have hbx := hS.below
                have ho12 := own_below HG.out.own hbx
                have hsz12 := (HG.out.below.trans (hbx.mono HG.out.below.size)).size
                rw [hdl] at h8s
                clear hS hdl
                by_cases hz : 0 < dl
                · have d3 : decide ((0 : Int) < (dl : Int)) = true := by simp; omega
                  have n3 : decide (0 < dl) = true := decide_eq_true hz
                  have ho13 := ho12.alloc (.cells #[.int .i64 (R1), .slice (some ⟨g12, 0, none⟩) dl c12] 46)
                  go_wp2_with (at_builtin; refine wpList_append_own _ rfl _ _ 32 rfl w.heap.size 46 iS (.agg #[.int .i64 0, .slice none 0 0]) 2 32 Tryd.underlying32 hs0 hs1 hs2 hs3 rfl (by decide) _ _ _ rfl ho13 ⟨wr.heap.size, 0, none⟩ 1 1 [.int .i64 (R1), .slice (some ⟨g12, 0, none⟩) dl c12] rfl rfl ?c1 ?c2 ?c3 ?c4 ?c5 ?_)
                  case c1 => exact At.news (xs := [.int .i64 (R1), .slice (some ⟨g12, 0, none⟩) dl c12]) (At.new _ _ _)
                  case c2 => intro u hu; simp at hu; rcases hu with rfl | rfl <;> rfl
                  case c3 => simp [maxLen]; omega
                  case c4 => omega
                  case c5 => simp; omega
                  intro v5 w13 o13 g13 _
                  obtain ⟨A13, c13, rfl⟩ := own_len o13
                  go_wp2_with fail
                  go_roundw
                  case rel => exact ⟨k + 1, A13, c13, _, by omega, by go_num, rfl, grow_round HG.out HS.out HSK.out (show ChgR _ _ from ⟨Or.inr ⟨IntKind.i64.wrap x, hx2, hx3, (HR1.out.symm.trans (IntWalk.i64_left _))⟩, rfl⟩) ⟨by rw [← HR1.out, IntWalk.i64_left]; exact i64_wrap _, HI.out.2⟩ (below1 _ _) (by rw [HDL.out]; exact o13) g13⟩
                  case measure => simp [intOf]; omega
                · obtain rfl : dl = 0 := by omega
                  have ho13 := ho12.alloc (.cells #[.int .i64 (R1), .slice (some ⟨g12, 0, none⟩) 0 c12] 46)
                  go_wp2_with (at_builtin; refine wpList_append_own _ rfl _ _ 32 rfl w.heap.size 46 iS (.agg #[.int .i64 0, .slice none 0 0]) 2 32 Tryd.underlying32 hs0 hs1 hs2 hs3 rfl (by decide) _ _ _ rfl ho13 ⟨wr.heap.size, 0, none⟩ 1 1 [.int .i64 (R1), .slice (some ⟨g12, 0, none⟩) 0 c12] rfl rfl ?c1 ?c2 ?c3 ?c4 ?c5 ?_)
                  case c1 => exact At.news (xs := [.int .i64 (R1), .slice (some ⟨g12, 0, none⟩) 0 c12]) (At.new _ _ _)
                  case c2 => intro u hu; simp at hu; rcases hu with rfl | rfl <;> rfl
                  case c3 => simp [maxLen]; omega
                  case c4 => omega
                  case c5 => simp; omega
                  intro v5 w13 o13 g13 _
                  obtain ⟨A13, c13, rfl⟩ := own_len o13
                  go_wp2_with fail
                  go_roundw
                  case rel => exact ⟨k + 1, A13, c13, _, by omega, by go_num, rfl, grow_round HG.out HS.out HSK.out (show ChgR _ _ from ⟨Or.inr ⟨IntKind.i64.wrap x, hx2, hx3, (HR1.out.symm.trans (IntWalk.i64_left _))⟩, rfl⟩) ⟨by rw [← HR1.out, IntWalk.i64_left]; exact i64_wrap _, HI.out.2⟩ (below1 _ _) (by rw [HDL.out]; exact o13) g13⟩
                  case measure => simp [intOf]; omega
        · have d2 : decide ((k : Int) < (more.length : Int)) = false := by simp; omega
          cases rows
          · go_wp2_with fail
            go_loopw [10] (fun q wx => q = .int .i64 0 ∧ ChSt wo b13 g12 c12 (s.rows) s.dist wx) (fun _ _ => 0)
            case atStart => exact ⟨rfl, hS⟩
            case round =>
              clear hS
              obtain ⟨rfl, hS⟩ := hrel
              obtain ⟨dl, hdl⟩ : ∃ dl, s.dist.length = dl := ⟨_, rfl⟩
              have HDL := Lib.hid hdl
              have HS := Lib.hid hS
              have e0 := hS.box.cell 0
              have e1 := hS.box.cell 1
              simp only [List.getElem?_toArray, List.getElem?_cons_zero, List.getElem?_cons_succ] at e0 e1
              rw [hdl] at e1
              have hbx := hS.below
              have ho12 := own_below HG.out.own hbx
              have hsz12 := (HG.out.below.trans (hbx.mono HG.out.below.size)).size
              rw [hdl] at h8s
              clear hS hdl
              by_cases hz : 0 < dl
              · have d3 : decide ((0 : Int) < (dl : Int)) = true := by simp; omega
                have n3 : decide (0 < dl) = true := decide_eq_true hz
                have ho13 := ho12.alloc (.cells #[.int .i64 (s.rows), .slice (some ⟨g12, 0, none⟩) dl c12] 46)
                go_wp2_with (at_builtin; refine wpList_append_own _ rfl _ _ 32 rfl w.heap.size 46 iS (.agg #[.int .i64 0, .slice none 0 0]) 2 32 Tryd.underlying32 hs0 hs1 hs2 hs3 rfl (by decide) _ _ _ rfl ho13 ⟨wr.heap.size, 0, none⟩ 1 1 [.int .i64 (s.rows), .slice (some ⟨g12, 0, none⟩) dl c12] rfl rfl ?c1 ?c2 ?c3 ?c4 ?c5 ?_)
                case c1 => exact At.news (xs := [.int .i64 (s.rows), .slice (some ⟨g12, 0, none⟩) dl c12]) (At.new _ _ _)
                case c2 => intro u hu; simp at hu; rcases hu with rfl | rfl <;> rfl
                case c3 => simp [maxLen]; omega
                case c4 => omega
                case c5 => simp; omega
                intro v5 w13 o13 g13 _
                obtain ⟨A13, c13, rfl⟩ := own_len o13
                go_wp2_with fail
                go_roundw
                case rel => exact ⟨k + 1, A13, c13, _, by omega, by go_num, rfl, grow_round HG.out HS.out HSK.out (show ChgD _ _ from ⟨rfl, rfl, fun i d hd => ⟨d, hd, Or.inl rfl⟩⟩) HI.out (below1 _ _) (by rw [HDL.out]; exact o13) g13⟩
                case measure => simp [intOf]; omega
              · obtain rfl : dl = 0 := by omega
                have ho13 := ho12.alloc (.cells #[.int .i64 (s.rows), .slice (some ⟨g12, 0, none⟩) 0 c12] 46)
                go_wp2_with (at_builtin; refine wpList_append_own _ rfl _ _ 32 rfl w.heap.size 46 iS (.agg #[.int .i64 0, .slice none 0 0]) 2 32 Tryd.underlying32 hs0 hs1 hs2 hs3 rfl (by decide) _ _ _ rfl ho13 ⟨wr.heap.size, 0, none⟩ 1 1 [.int .i64 (s.rows), .slice (some ⟨g12, 0, none⟩) 0 c12] rfl rfl ?c1 ?c2 ?c3 ?c4 ?c5 ?_)
                case c1 => exact At.news (xs := [.int .i64 (s.rows), .slice (some ⟨g12, 0, none⟩) 0 c12]) (At.new _ _ _)
                case c2 => intro u hu; simp at hu; rcases hu with rfl | rfl <;> rfl
                case c3 => simp [maxLen]; omega
                case c4 => omega
                case c5 => simp; omega
                intro v5 w13 o13 g13 _
                obtain ⟨A13, c13, rfl⟩ := own_len o13
                go_wp2_with fail
                go_roundw
                case rel => exact ⟨k + 1, A13, c13, _, by omega, by go_num, rfl, grow_round HG.out HS.out HSK.out (show ChgD _ _ from ⟨rfl, rfl, fun i d hd => ⟨d, hd, Or.inl rfl⟩⟩) HI.out (below1 _ _) (by rw [HDL.out]; exact o13) g13⟩
                case measure => simp [intOf]; omega
          · go_wp2_with fail
            go_loopw [10] (fun q wx => q = .int .i64 0 ∧ ChSt wo b13 g12 c12 (s.rows) s.dist wx) (fun _ _ => 0)
            case atStart => exact ⟨rfl, hS⟩
            case round =>
              clear hS
              obtain ⟨rfl, hS⟩ := hrel
              obtain ⟨dl, hdl⟩ : ∃ dl, s.dist.length = dl := ⟨_, rfl⟩
              have HDL := Lib.hid hdl
              have HS := Lib.hid hS
              have e0 := hS.box.cell 0
              have e1 := hS.box.cell 1
              simp only [List.getElem?_toArray, List.getElem?_cons_zero, List.getElem?_cons_succ] at e0 e1
              rw [hdl] at e1
              have hbx := hS.below
              have ho12 := own_below HG.out.own hbx
              have hsz12 := (HG.out.below.trans (hbx.mono HG.out.below.size)).size
              rw [hdl] at h8s
              clear hS hdl
              by_cases hz : 0 < dl
              · have d3 : decide ((0 : Int) < (dl : Int)) = true := by simp; omega
                have n3 : decide (0 < dl) = true := decide_eq_true hz
                have ho13 := ho12.alloc (.cells #[.int .i64 (s.rows), .slice (some ⟨g12, 0, none⟩) dl c12] 46)
                go_wp2_with (at_builtin; refine wpList_append_own _ rfl _ _ 32 rfl w.heap.size 46 iS (.agg #[.int .i64 0, .slice none 0 0]) 2 32 Tryd.underlying32 hs0 hs1 hs2 hs3 rfl (by decide) _ _ _ rfl ho13 ⟨wr.heap.size, 0, none⟩ 1 1 [.int .i64 (s.rows), .slice (some ⟨g12, 0, none⟩) dl c12] rfl rfl ?c1 ?c2 ?c3 ?c4 ?c5 ?_)
                case c1 => exact At.news (xs := [.int .i64 (s.rows), .slice (some ⟨g12, 0, none⟩) dl c12]) (At.new _ _ _)
                case c2 => intro u hu; simp at hu; rcases hu with rfl | rfl <;> rfl
                case c3 => simp [maxLen]; omega
                case c4 => omega
                case c5 => simp; omega
                intro v5 w13 o13 g13 _
                obtain ⟨A13, c13, rfl⟩ := own_len o13
                go_wp2_with fail
                go_roundw
                case rel => exact ⟨k + 1, A13, c13, _, by omega, by go_num, rfl, grow_round HG.out HS.out HSK.out (show ChgR _ _ from ⟨Or.inl rfl, rfl⟩) HI.out (below1 _ _) (by rw [HDL.out]; exact o13) g13⟩
                case measure => simp [intOf]; omega
              · obtain rfl : dl = 0 := by omega
                have ho13 := ho12.alloc (.cells #[.int .i64 (s.rows), .slice (some ⟨g12, 0, none⟩) 0 c12] 46)
                go_wp2_with (at_builtin; refine wpList_append_own _ rfl _ _ 32 rfl w.heap.size 46 iS (.agg #[.int .i64 0, .slice none 0 0]) 2 32 Tryd.underlying32 hs0 hs1 hs2 hs3 rfl (by decide) _ _ _ rfl ho13 ⟨wr.heap.size, 0, none⟩ 1 1 [.int .i64 (s.rows), .slice (some ⟨g12, 0, none⟩) 0 c12] rfl rfl ?c1 ?c2 ?c3 ?c4 ?c5 ?_)
                case c1 => exact At.news (xs := [.int .i64 (s.rows), .slice (some ⟨g12, 0, none⟩) 0 c12]) (At.new _ _ _)
                case c2 => intro u hu; simp at hu; rcases hu with rfl | rfl <;> rfl
                case c3 => simp [maxLen]; omega
                case c4 => omega
                case c5 => simp; omega
                intro v5 w13 o13 g13 _
                obtain ⟨A13, c13, rfl⟩ := own_len o13
                go_wp2_with fail
                go_roundw
                case rel => exact ⟨k + 1, A13, c13, _, by omega, by go_num, rfl, grow_round HG.out HS.out HSK.out (show ChgR _ _ from ⟨Or.inl rfl, rfl⟩) HI.out (below1 _ _) (by rw [HDL.out]; exact o13) g13⟩
                case measure => simp [intOf]; omega
    · have d1 : decide ((k : Int) < (ss.length : Int)) = false := by simp; omega
      have HG := Lib.hid hG
      clear hG
      go_wp2_with fail
      go_ret
      obtain ⟨hln, hown, heach, hchg, hbel⟩ := HG.out
      have hkk : k = ss.length := by omega
      refine ⟨⟨A, c, L, by rw [hln]; rfl, ⟨?_, fun s hs => (heach s hs).ok⟩, ⟨by omega, hchg⟩⟩, hbel⟩
      exact str_sta hown hln
end Go.Proofs.YtoficnfpoeaccaaDoor
