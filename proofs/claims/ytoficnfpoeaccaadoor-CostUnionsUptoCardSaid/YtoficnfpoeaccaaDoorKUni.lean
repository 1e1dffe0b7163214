/- Two lists of rows together: what CostUnions counts, and their memory. -/
import Derived.Test.YtoficnfpoeaccaaDoorKLit2
import Derived.Test.YtoficnfpoeaccaaDoorKBeg1
import Derived.Test.YtoficnfpoeaccaaDoorKHead
import Derived.StillTactics
namespace Go.Proofs.YtoficnfpoeaccaaDoor
set_option linter.unusedVariables false
set_option linter.unusedSimpArgs false
open Go.RowKit
theorem good_app (a b : List Rw) (n : Nat) : goodOf (a ++ b) n = goodOf a n ++ goodOf b n := by
  unfold goodOf
  rw [List.filter_append, List.map_append]
/-- The counts of a union. -/
theorem union_count {α : Type} [DecidableEq α] (a b : List α) : max (Ct.dcount a) (Ct.dcount b) ≤ Ct.dcount (a ++ b) ∧ Ct.dcount (a ++ b) ≤ Ct.dcount a + Ct.dcount b := by
  refine ⟨Nat.max_le.2 ⟨Ct.dcount_sub fun x h => List.mem_append_left _ h, Ct.dcount_sub fun x h => List.mem_append_right _ h⟩, Ct.dcount_app_le a b⟩
theorem flat_inv {α : Type} (f : α → List Value) {size : Nat} (hsz : ∀ x, (f x).length = size) : ∀ (L : List α) (j : Nat) (u : Value), (L.flatMap f)[j]? = some u → ∃ i x k, L[i]? = some x ∧ (f x)[k]? = some u ∧ j = i * size + k
  | [], j, u, h => by simp at h
  | a :: l, j, u, h => by
    rw [List.flatMap_cons, List.getElem?_append] at h
    split at h
    · exact ⟨0, a, j, rfl, h, by omega⟩
    · rename_i hlt
      obtain ⟨i, x, k, h1, h2, h3⟩ := flat_inv f hsz l _ _ h
      rw [hsz] at h3 hlt
      exact ⟨i + 1, x, k, by simpa using h1, h2, by rw [Nat.add_mul, Nat.one_mul]; omega⟩
theorem str_news {α : Type} {w : World} {size : Nat} {A : Option Addr} (f : α → List Value) (hsz : ∀ x, (f x).length = size) {L : List α} (h : Str w A size (L.map f)) : ∀ ad, A = some ad → ∀ (j : Nat) (u : Value), (L.flatMap f)[j]? = some u → w.cell? (ad.add j) = some u := by
  intro ad e j u hu
  obtain ⟨i, x, k, h1, h2, rfl⟩ := flat_inv f hsz L j u hu
  obtain ⟨g, o, e2, _, hc⟩ := h.at (i := i) (fs := f x) (by rw [List.getElem?_map, h1]; rfl)
  obtain rfl := Option.some.inj (e.symm.trans e2)
  rw [add_at]
  have := hc k u h2
  rw [Nat.add_assoc] at this
  exact this
theorem str_none {w : World} {size : Nat} {L : List (List Value)} (h : Str w none size L) : L = [] := by
  by_cases e : L = []
  · exact e
  · obtain ⟨g, o, e2, _⟩ := h e
    cases e2
/-- The rows as cells. -/
def wcells (l : List Rw) : List Value := l.flatMap Rw.fs
theorem rwfs_len (x : Rw) : x.fs.length = 2 := rfl
theorem wcells_one (l : List Rw) : ∀ u ∈ wcells l, u.oneCell' = true := by
  intro u hu
  unfold wcells at hu
  obtain ⟨x, _, hx⟩ := List.mem_flatMap.1 hu
  simp [Rw.fs] at hx
  rcases hx with rfl | rfl <;> rfl
/-- Data of one relation. -/
def oneD (b : Nat) (x : Re) : Da := ⟨some ⟨b, 0, none⟩, 1, [x], none, 0, []⟩
theorem oneD_ok {w : World} {b : Nat} {x : Re} (h : At w b 69 #[.slice x.a x.rows.length x.c]) (hx : ReOk w x) : DaOk w (oneD b x) := by
  refine ⟨fun _ => ⟨b, 0, rfl, h.lt, fun i fs hi j v hj => ?_⟩, fun e => absurd rfl e, fun y hy => by obtain rfl := List.mem_singleton.1 hy; exact hx, fun y hy => by cases hy⟩
  cases i with
  | succ i => simp [oneD] at hi
  | zero =>
    obtain rfl : x.fs = fs := by simpa [oneD] using hi
    cases j with
    | succ j => simp [Re.fs] at hj
    | zero =>
      obtain rfl : Value.slice x.a x.rows.length x.c = v := by simpa [Re.fs] using hj
      exact h.cell 0
theorem oneD_lit {b b' : Nat} {x y : Re} (h : Lit (oneD b x)) (hs : ∀ r ∈ y.rows, r ∈ x.rows) (hl : y.rows.length ≤ x.rows.length) : Lit (oneD b' y) := by
  have h1 := h.r1 x (by simp [oneD])
  exact ⟨by simp [oneD], by simp [oneD], fun z hz => by
    obtain rfl := List.mem_singleton.1 hz
    exact ⟨Nat.le_trans hl h1.1, fun r hr => h1.2 r (hs r hr)⟩, fun z hz => by cases hz⟩
theorem oneD_rows (b : Nat) (x : Re) (pd : Pd) (h : pd.of < 0) : rowsOf (oneD b x) pd 0 = x.rows := by
  unfold rowsOf
  rw [if_neg (by omega)]
  rfl
/-- What Stats hands back for one relation. -/
theorem oneD_stat {pm : Pm} {b : Nat} {x : Re} {pd : Pd} (hp : pm.preds[0]? = some pd) (h : pd.of < 0) : statP pm (oneD b x) ((0 : Nat) : Int) = (((Ct.dcount (goodOf x.rows pd.tn) : Nat) : Int), (List.range pd.tn).map fun i => ((Ct.dcount (Ct.col (goodOf x.rows pd.tn) i) : Nat) : Int)) := by
  rw [statP_in hp, oneD_rows b x pd h]
end Go.Proofs.YtoficnfpoeaccaaDoor
namespace Go.Proofs.YtoficnfpoeaccaaDoor
set_option linter.unusedVariables false
set_option linter.unusedSimpArgs false
open Go.RowKit
theorem max_cast (a b : Nat) : max (a : Int) (b : Int) = ((max a b : Nat) : Int) := by
  rcases Nat.le_total a b with h | h
  · rw [Nat.max_eq_right h, Int.max_eq_right (by omega)]
  · rw [Nat.max_eq_left h, Int.max_eq_left (by omega)]
theorem add_cast {a b : Nat} (ha : a ≤ 1048576) (hb : b ≤ 1048576) : wrap64 ((a : Int) + (b : Int)) = ((a + b : Nat) : Int) := by
  unfold wrap64; omega
theorem stat_cell {W : World} {r : Int} {da : Option Addr} {dc n k : Nat} {f : Nat → Nat} (h : StaOk W ⟨r, da, dc, (List.range n).map fun i => ((f i : Nat) : Int)⟩) (hk : k < n) : ∃ g o, da = some ⟨g, o, none⟩ ∧ g < W.heap.size ∧ W.cell? ⟨g, o + k, none⟩ = some (.int .i64 ((f k : Nat) : Int)) := by
  have hd : Str W da 1 (((List.range n).map fun i => ((f i : Nat) : Int)).map fun x => [.int .i64 x]) := h.dist
  obtain ⟨g, o, e, hg, hc⟩ := hd.at (i := k) (fs := [.int .i64 ((f k : Nat) : Int)]) (by rw [List.getElem?_map, List.getElem?_map, List.getElem?_range hk]; rfl)
  have := hc 0 _ rfl
  rw [Nat.mul_one, Nat.add_zero] at this
  exact ⟨g, o, e, hg, this⟩
theorem box2s {W : World} {b : Nat} {t : TypeId} {x y : Value} (h : At W b t #[x, y]) : W.cell? ⟨b, 0, none⟩ = some x ∧ W.cell? ⟨b, 1, none⟩ = some y := ⟨h.cell 0, h.cell 1⟩
theorem row_info : (Tryd.prog.info? 76).map (fun i => (i.zero, i.size, i.bytes)) = some (some (.agg #[.slice none 0 0, .slice none 0 0]), 2, 48) := by kernel_rfl
set_option maxHeartbeats 8000000 in
set_option maxRecDepth 100000 in
theorem unions_law (pm : Pm) (x1 x2 : Re) (w : World) (hT : Tabs w) (hpm : PmOk w pm) (hx1 : ReOk w x1) (hx2 : ReOk w x2) (htn : ∀ x ∈ pm.preds, x.tn ≤ 2000000) (hn1 : x1.a = none → x1.c = 0) (hn2 : x2.a = none → x2.c = 0) (hl1 : x1.rows.length ≤ 1048576) (hl2 : x2.rows.length ≤ 1048576) :
    Calls Tryd.prog 9 #[pm.v, .slice x1.a x1.rows.length x1.c, .slice x2.a x2.rows.length x2.c] w fun e w' => e = .returned (.bool true) ∧ Below w.heap.size w w' := by
  have HH := Lib.hid (fun W (h : Below w.heap.size w W) => head_any W (hT.next h))
  have HST := Lib.hid (fun W (h : Below w.heap.size w W) d hd hl hn => stats_any pm d ((0 : Nat) : Int) W (hpm.below h) hd hl hn (hT.next h) htn)
  have HP := Lib.hid (fun W (h : Below w.heap.size w W) => (hpm.preds).below h)
  have HTN := Lib.hid htn
  have HX1 := Lib.hid (fun W (h : Below w.heap.size w W) => hx1.below h)
  have HX2 := Lib.hid (fun W (h : Below w.heap.size w W) => hx2.below h)
  have HN1 := Lib.hid (fun h : x1.a = none => show x1.rows.length = 0 ∧ x1.c = 0 from ⟨by have := hx1.rows; rw [h] at this; rw [List.map_eq_nil_iff.1 (str_none this)]; rfl, hn1 h⟩)
  have HN2 := Lib.hid (fun h : x2.a = none => show x2.rows.length = 0 ∧ x2.c = 0 from ⟨by have := hx2.rows; rw [h] at this; rw [List.map_eq_nil_iff.1 (str_none this)]; rfl, hn2 h⟩)
  obtain ⟨iR, hi0, hi1, hi2, hi3⟩ := info_parts row_info
  obtain ⟨lt, fn, pa, pc, preds, ru⟩ := pm
  unfold Pm.v at *
  dsimp only at *
  clear hpm hx1 hx2 hT htn hn1 hn2
  have hw1 : Below w.heap.size w (w.alloc (.cells #[.slice lt.a lt.n lt.c, .slice fn.a fn.n fn.c, .slice pa preds.length pc, .slice ru.a ru.n ru.c] 27)) := below1 _ _
  have hp1 : At (w.alloc (.cells #[.slice lt.a lt.n lt.c, .slice fn.a fn.n fn.c, .slice pa preds.length pc, .slice ru.a ru.n ru.c] 27)) w.heap.size 27 #[.slice lt.a lt.n lt.c, .slice fn.a fn.n fn.c, .slice pa preds.length pc, .slice ru.a ru.n ru.c] := At.new w _ _
  go_enter Tryd.func9, Tryd.ntmps9
  go_wp2_with first | (at_builtin; refine wpList_append_from rfl _ _ 69 rfl w.heap.size 76 iR (.agg #[.slice none 0 0, .slice none 0 0]) 2 48 Tryd.underlying69 hi0 hi1 hi2 hi3 rfl (by decide) _ _ _ rfl (own_empty w2 76 2 w.heap.size hw2.size) x1.a x1.rows.length x1.c (wcells x1.rows) rfl (flat_size Rw.fs rwfs_len x1.rows) ?c1 ?c2 ?c3 ?c4 ?c5 ?c6 ?_) | (go_at_call 10; refine (HH.out _ hw1).mono ?_; rintro e w2 ⟨rfl, hb2⟩; have hw2 : Below w.heap.size w w2 := hw1.trans (hb2.mono hw1.size); have hp2 := hp1.next hb2)
  case c1 => exact HN1.out
  case c2 => exact str_news Rw.fs rwfs_len (HX1.out _ (hw2.alloc hw2.size (.cells #[] 76))).rows
  case c3 => exact wcells_one x1.rows
  case c4 => simp [maxLen]; omega
  case c5 => omega
  case c6 => have := hw2.size; simp; omega
  intro v3 w3 o3 g3
  have hsz2 := hw2.size
  have hfar3 : ∀ q, (Value.slice (some ⟨w2.heap.size, 0, none⟩) 0 0).ownBlock = some q → w.heap.size ≤ q := fun q hq => (own_lt (own_empty w2 76 2 w.heap.size hw2.size) hq).1
  have hw3 : Below w.heap.size w w3 := (hw2.alloc hw2.size (.cells #[] 76)).grown g3 (by simp; omega) hfar3
  have hp3 := (hp2.alloc (.cells #[] 76)).grown g3 (own_far (own_empty w2 76 2 w.heap.size hw2.size) (hp2.alloc (.cells #[] 76)) (by decide))
  clear g3 hfar3
  go_wp2_with (at_builtin; refine wpList_append_from rfl _ _ 69 rfl w.heap.size 76 iR (.agg #[.slice none 0 0, .slice none 0 0]) 2 48 Tryd.underlying69 hi0 hi1 hi2 hi3 rfl (by decide) _ _ _ rfl o3 x2.a x2.rows.length x2.c (wcells x2.rows) rfl (flat_size Rw.fs rwfs_len x2.rows) ?c1 ?c2 ?c3 ?c4 ?c5 ?c6 ?_)
  case c1 => exact HN2.out
  case c2 => exact str_news Rw.fs rwfs_len (HX2.out _ hw3).rows
  case c3 => exact wcells_one x2.rows
  case c4 => simp [maxLen]; omega
  case c5 => omega
  case c6 => exact hw3.size
  intro v4 w4 o4 g4
  have hw4 : Below w.heap.size w w4 := hw3.grown g4 hw3.size fun q hq => (own_lt o3 hq).1
  have hp4 := hp3.grown g4 (own_far o3 hp3 (by decide))
  replace o4 : w4.ownsRow w.heap.size 76 2 v4 (x1.rows ++ x2.rows).length (wcells (x1.rows ++ x2.rows)) := by
    rw [show (x1.rows ++ x2.rows).length = x1.rows.length + x2.rows.length by simp, show wcells (x1.rows ++ x2.rows) = wcells x1.rows ++ wcells x2.rows by simp [wcells]]
    simpa using o4
  obtain ⟨A4, c4, rfl⟩ := own_len o4
  obtain ⟨all, hall⟩ : ∃ all, x1.rows ++ x2.rows = all := ⟨_, rfl⟩
  have HALL := Lib.hid hall
  rw [hall] at o4 ⊢
  have HRA := Lib.hid (show ReOk w4 ⟨A4, c4, all⟩ from ⟨str_own Rw.fs rwfs_len o4 rfl, fun r hr => by
    rw [← HALL.out] at hr
    rcases List.mem_append.1 hr with h | h
    · exact (HX1.out w4 hw4).each r h
    · exact (HX2.out w4 hw4).each r h⟩)
  have HAL := Lib.hid (show all.length = x1.rows.length + x2.rows.length by rw [← HALL.out, List.length_append])
  clear hall o3 o4 g4 hp3 hw3 hp2 hw2 hb2 hsz2 hp1 hw1
  have p0 := hp4.cell 0; have p1 := hp4.cell 1; have p2 := hp4.cell 2; have p3 := hp4.cell 3; simp only [List.getElem?_toArray, List.getElem?_cons_zero, List.getElem?_cons_succ] at p0 p1 p2 p3
  have D4 : Obj := .cells #[.slice A4 all.length c4] 69
  have hwa : Below w.heap.size w (w4.alloc (.cells #[.slice A4 all.length c4] 69)) := hw4.alloc hw4.size _
  have hpa := hp4.alloc (.cells #[.slice A4 all.length c4] 69)
  have HLI := Lib.hid (show Calls Tryd.prog 11 #[.agg #[.slice (some ⟨w4.heap.size, 0, none⟩) 1 1, .slice none 0 0]] (w4.alloc (.cells #[.slice A4 all.length c4] 69)) (fun e w' => e = .returned (.bool (litB (oneD w4.heap.size ⟨A4, c4, all⟩))) ∧ Below (w4.alloc (.cells #[.slice A4 all.length c4] 69)).heap.size (w4.alloc (.cells #[.slice A4 all.length c4] 69)) w') from little_any (oneD w4.heap.size ⟨A4, c4, all⟩) _ (oneD_ok (At.new _ _ _) (HRA.out.below (below1 _ _))))
  have hpl4 := hp4.lt
  clear D4
  by_cases h0 : preds.length = 0
  · have t0 : ((preds.length : Int) == 0) = true := by rw [beq_iff_eq]; omega
    clear h0
    go_wp2_with fail
    go_ret
    exact ⟨rfl, hw4⟩
  · have t0 : ((preds.length : Int) == 0) = false := by rw [beq_eq_false_iff_ne]; omega
    by_cases h30 : 30 < preds.length
    · have d0 : decide ((30 : Int) < (preds.length : Int)) = true := by simp; omega
      have n0 : decide (30 < preds.length) = true := decide_eq_true h30
      clear h0 h30
      go_wp2_with fail
      go_ret
      exact ⟨rfl, hw4⟩
    · have d0 : decide ((30 : Int) < (preds.length : Int)) = false := by simp; omega
      have n0 : decide (30 < preds.length) = false := decide_eq_false h30
      have hpl : preds.length ≤ 30 := by omega
      obtain ⟨pd, hpd⟩ : ∃ pd, preds[0]? = some pd := ⟨_, List.getElem?_eq_getElem (by omega)⟩
      obtain ⟨gp, op, rfl, hgp, x1', x3⟩ := pd_cells (HP.out w (Below.refl _ _)) hpd
      simp only [Nat.zero_mul, Nat.add_zero] at x3
      have i1 : (0 : Int) < (preds.length : Int) := by omega
      have i2 : 0 < preds.length := by omega
      have HPD := Lib.hid hpd
      clear x1' hpd h0 h30
      cases hli : litB (oneD w4.heap.size ⟨A4, c4, all⟩)
      · rw [hli] at HLI
        clear hli
        go_wp2_with (go_at_call 11; with_reducible refine HLI.out.mono ?_; rintro e w5 ⟨rfl, hb5⟩; have hw5 : Below w.heap.size w w5 := hwa.trans (hb5.mono hwa.size); have hp5 := hpa.next hb5; clear p0 p1 p2 p3; have p0 := hp5.cell 0; have p1 := hp5.cell 1; have p2 := hp5.cell 2; have p3 := hp5.cell 3; simp only [List.getElem?_toArray, List.getElem?_cons_zero, List.getElem?_cons_succ] at p0 p1 p2 p3; have hl5 := hp5.lt; have x3w := next_cell x3 hw5; have hgw : gp < w5.heap.size := Nat.lt_of_lt_of_le hgp hw5.size)
        go_ret
        exact ⟨rfl, hw5⟩
      · rw [hli] at HLI
        have HLIT := Lib.hid (lit_of hli)
        clear hli
        by_cases hof : 0 ≤ pd.of
        · have d1 : decide ((0 : Int) ≤ pd.of) = true := decide_eq_true hof
          clear hof
          go_wp2_with (go_at_call 11; with_reducible refine HLI.out.mono ?_; rintro e w5 ⟨rfl, hb5⟩; have hw5 : Below w.heap.size w w5 := hwa.trans (hb5.mono hwa.size); have hp5 := hpa.next hb5; clear p0 p1 p2 p3; have p0 := hp5.cell 0; have p1 := hp5.cell 1; have p2 := hp5.cell 2; have p3 := hp5.cell 3; simp only [List.getElem?_toArray, List.getElem?_cons_zero, List.getElem?_cons_succ] at p0 p1 p2 p3; have hl5 := hp5.lt; have x3w := next_cell x3 hw5; have hgw : gp < w5.heap.size := Nat.lt_of_lt_of_le hgp hw5.size)
          go_ret
          exact ⟨rfl, hw5⟩
        · have d1 : decide ((0 : Int) ≤ pd.of) = false := decide_eq_false hof
          have HOF := Lib.hid (show pd.of < 0 by omega)
          clear hof
          have hlen : ∀ G : List (List Qu.Vl3), ((List.range pd.tn).map fun i => ((Ct.dcount (Ct.col G i) : Nat) : Int)).length = pd.tn := fun G => by simp
          have HS1 := Lib.hid (fun W b (hb : W.heap.size = b) (h : Below w.heap.size w W) (x : Re) (hx : ReOk W x) (hlit : Lit (oneD b x)) => show Calls Tryd.prog 14 #[.agg #[.slice lt.a lt.n lt.c, .slice fn.a fn.n fn.c, .slice (some ⟨gp, op, none⟩) preds.length pc, .slice ru.a ru.n ru.c], .agg #[.slice (some ⟨b, 0, none⟩) 1 1, .slice none 0 0], .int .i64 0] (W.alloc (.cells #[.slice x.a x.rows.length x.c] 69)) (fun e w' => StatOut (W.alloc (.cells #[.slice x.a x.rows.length x.c] 69)).heap.size (((Ct.dcount (goodOf x.rows pd.tn) : Nat) : Int), (List.range pd.tn).map fun i => ((Ct.dcount (Ct.col (goodOf x.rows pd.tn) i) : Nat) : Int)) e w' ∧ Below (W.alloc (.cells #[.slice x.a x.rows.length x.c] 69)).heap.size (W.alloc (.cells #[.slice x.a x.rows.length x.c] 69)) w') by
            have hh := HST.out (W.alloc (.cells #[.slice x.a x.rows.length x.c] 69)) (h.alloc h.size _) (oneD b x) (oneD_ok (At.newAt hb _ _) (hx.below (below1 _ _))) hlit hpl
            rw [oneD_stat (pm := ⟨lt, fn, some ⟨gp, op, none⟩, pc, preds, ru⟩) HPD.out HOF.out] at hh
            exact hh)
          have HL1 := Lib.hid (fun b => oneD_lit (b' := b) (y := x1) HLIT.out (fun r hr => by dsimp only; rw [← HALL.out]; exact List.mem_append_left _ hr) (by dsimp only; rw [HAL.out]; omega))
          have HL2 := Lib.hid (fun b => oneD_lit (b' := b) (y := x2) HLIT.out (fun r hr => by dsimp only; rw [← HALL.out]; exact List.mem_append_right _ hr) (by dsimp only; rw [HAL.out]; omega))
          have HL3 := Lib.hid (fun b => oneD_lit (b' := b) (y := ⟨A4, c4, all⟩) HLIT.out (fun r hr => hr) (Nat.le_refl _))
          go_wp2_with (go_at_call 11; with_reducible refine HLI.out.mono ?_; rintro e w5 ⟨rfl, hb5⟩; have hw5 : Below w.heap.size w w5 := hwa.trans (hb5.mono hwa.size); have hp5 := hpa.next hb5; clear p0 p1 p2 p3; have p0 := hp5.cell 0; have p1 := hp5.cell 1; have p2 := hp5.cell 2; have p3 := hp5.cell 3; simp only [List.getElem?_toArray, List.getElem?_cons_zero, List.getElem?_cons_succ] at p0 p1 p2 p3; have hl5 := hp5.lt; have x3w := next_cell x3 hw5; have hgw : gp < w5.heap.size := Nat.lt_of_lt_of_le hgp hw5.size)
          have HR5 := Lib.hid (hwa.size)
          have HRB := Lib.hid (fun W (h : Below w5.heap.size w5 W) => (HRA.out.below (below1 w4 (.cells #[.slice A4 all.length c4] 69))).below (hb5.trans (h.mono hb5.size)))
          refine (HS1.out (w5) (w5.heap.size) (by simp) (hw5) x1 (HX1.out _ hw5) (HL1.out _)).mono ?_
          rintro e w6 ⟨⟨⟨sr, da1, dc1, sdist⟩, rfl, hso1, hsr, hsd, hsz1⟩, hb6⟩
          dsimp only at hsr hsd hsz1
          subst hsr; subst hsd
          dsimp only
          rw [hlen]
          have hw6 : Below w.heap.size w w6 := ((hw5).alloc (hw5).size _).trans (hb6.mono ((hw5).alloc (hw5).size _).size)
          have hp6 := ((hp5).alloc (.cells #[.slice x1.a x1.rows.length x1.c] 69)).next hb6
          have hl6 := hp6.lt
          have hz6 : Below w5.heap.size w5 w6 := ((Below.refl w5.heap.size w5).alloc (Below.refl w5.heap.size w5).size _).trans (hb6.mono ((Below.refl w5.heap.size w5).alloc (Below.refl w5.heap.size w5).size _).size)
          clear p0 p1 p2 p3
          have p0 := hp6.cell 0; have p1 := hp6.cell 1; have p2 := hp6.cell 2; have p3 := hp6.cell 3; simp only [List.getElem?_toArray, List.getElem?_cons_zero, List.getElem?_cons_succ] at p0 p1 p2 p3
          obtain ⟨r1, hr1⟩ : ∃ r1, Ct.dcount (goodOf x1.rows pd.tn) = r1 := ⟨_, rfl⟩
          rw [hr1] at hso1 ⊢
          go_wp2_with fail
          have hw6a : Below w.heap.size w (w6.alloc (.cells #[.int .i64 (r1 : Int), .slice da1 pd.tn dc1] 46)) := hw6.alloc hw6.size _
          have hz6a : Below w5.heap.size w5 (w6.alloc (.cells #[.int .i64 (r1 : Int), .slice da1 pd.tn dc1] 46)) := hz6.alloc hz6.size _
          have hs1 := At.new w6 46 #[.int .i64 (r1 : Int), .slice da1 pd.tn dc1]
          have hso1a := hso1.below (below1 w6 (.cells #[.int .i64 (r1 : Int), .slice da1 pd.tn dc1] 46))
          refine (HS1.out (w6.alloc (.cells #[.int .i64 (r1 : Int), .slice da1 pd.tn dc1] 46)) (w6.heap.size + 1) (by simp) (hw6a) x2 (HX2.out _ hw6a) (HL2.out _)).mono ?_
          rintro e w7 ⟨⟨⟨sr, da2, dc2, sdist⟩, rfl, hso2, hsr, hsd, hsz2⟩, hb7⟩
          dsimp only at hsr hsd hsz2
          subst hsr; subst hsd
          dsimp only
          rw [hlen]
          have hw7 : Below w.heap.size w w7 := ((hw6a).alloc (hw6a).size _).trans (hb7.mono ((hw6a).alloc (hw6a).size _).size)
          have hp7 := ((hp6.alloc (.cells #[.int .i64 (r1 : Int), .slice da1 pd.tn dc1] 46)).alloc (.cells #[.slice x2.a x2.rows.length x2.c] 69)).next hb7
          have hl7 := hp7.lt
          have hz7 : Below w5.heap.size w5 w7 := ((hz6a).alloc (hz6a).size _).trans (hb7.mono ((hz6a).alloc (hz6a).size _).size)
          clear p0 p1 p2 p3
          have p0 := hp7.cell 0; have p1 := hp7.cell 1; have p2 := hp7.cell 2; have p3 := hp7.cell 3; simp only [List.getElem?_toArray, List.getElem?_cons_zero, List.getElem?_cons_succ] at p0 p1 p2 p3
          have hs1b := (hs1.alloc (.cells #[.slice x2.a x2.rows.length x2.c] 69)).next hb7
          have hso1b := (hso1a.below (below1 _ (.cells #[.slice x2.a x2.rows.length x2.c] 69))).below hb7
          obtain ⟨r2, hr2⟩ : ∃ r2, Ct.dcount (goodOf x2.rows pd.tn) = r2 := ⟨_, rfl⟩
          rw [hr2] at hso2 ⊢
          clear hs1 hso1a hso1
          go_wp2_with fail
          have hw7a : Below w.heap.size w (w7.alloc (.cells #[.int .i64 (r2 : Int), .slice da2 pd.tn dc2] 46)) := hw7.alloc hw7.size _
          have hs2 := At.new w7 46 #[.int .i64 (r2 : Int), .slice da2 pd.tn dc2]
          have hso2a := hso2.below (below1 w7 (.cells #[.int .i64 (r2 : Int), .slice da2 pd.tn dc2] 46))
          have hs1c := hs1b.alloc (.cells #[.int .i64 (r2 : Int), .slice da2 pd.tn dc2] 46)
          have hso1c := hso1b.below (below1 w7 (.cells #[.int .i64 (r2 : Int), .slice da2 pd.tn dc2] 46))
          have hz7a : Below w5.heap.size w5 (w7.alloc (.cells #[.int .i64 (r2 : Int), .slice da2 pd.tn dc2] 46)) := hz7.alloc hz7.size _
          refine (HS1.out (w7.alloc (.cells #[.int .i64 (r2 : Int), .slice da2 pd.tn dc2] 46)) (w7.heap.size + 1) (by simp) (hw7a) (Re.mk A4 c4 all) (HRB.out _ hz7a) (HL3.out _)).mono ?_
          rintro e w8 ⟨⟨⟨sr, da3, dc3, sdist⟩, rfl, hso3, hsr, hsd, hsz3⟩, hb8⟩
          dsimp only at hsr hsd hsz3
          subst hsr; subst hsd
          dsimp only
          rw [hlen]
          have hw8 : Below w.heap.size w w8 := ((hw7a).alloc (hw7a).size _).trans (hb8.mono ((hw7a).alloc (hw7a).size _).size)
          have hp8 := ((hp7.alloc (.cells #[.int .i64 (r2 : Int), .slice da2 pd.tn dc2] 46)).alloc (.cells #[.slice (Re.mk A4 c4 all).a (Re.mk A4 c4 all).rows.length (Re.mk A4 c4 all).c] 69)).next hb8
          have hl8 := hp8.lt
          have hz8 : Below w5.heap.size w5 w8 := ((hz7a).alloc (hz7a).size _).trans (hb8.mono ((hz7a).alloc (hz7a).size _).size)
          clear p0 p1 p2 p3
          have p0 := hp8.cell 0; have p1 := hp8.cell 1; have p2 := hp8.cell 2; have p3 := hp8.cell 3; simp only [List.getElem?_toArray, List.getElem?_cons_zero, List.getElem?_cons_succ] at p0 p1 p2 p3
          have hs1d := (hs1c.alloc (.cells #[.slice A4 all.length c4] 69)).next hb8
          have hso1d := (hso1c.below (below1 _ (.cells #[.slice A4 all.length c4] 69))).below hb8
          have hs2d := (hs2.alloc (.cells #[.slice A4 all.length c4] 69)).next hb8
          have hso2d := (hso2a.below (below1 _ (.cells #[.slice A4 all.length c4] 69))).below hb8
          have hu := union_count (goodOf x1.rows pd.tn) (goodOf x2.rows pd.tn)
          rw [← good_app, HALL.out, hr1, hr2] at hu
          have hr1b := Nat.le_trans (Ct.dcount_len (goodOf x1.rows pd.tn)) (goodOf_le x1.rows pd.tn)
          have hr2b := Nat.le_trans (Ct.dcount_len (goodOf x2.rows pd.tn)) (goodOf_le x2.rows pd.tn)
          rw [hr1] at hr1b
          rw [hr2] at hr2b
          have hk1 := Nat.le_trans hr1b hl1
          have hk2 := Nat.le_trans hr2b hl2
          obtain ⟨r3, hr3⟩ : ∃ r3, Ct.dcount (goodOf all pd.tn) = r3 := ⟨_, rfl⟩
          rw [hr3] at hso3 hu ⊢
          have hw8a : Below w.heap.size w (w8.alloc (.cells #[.int .i64 (r3 : Int), .slice da3 pd.tn dc3] 46)) := hw8.alloc hw8.size _
          clear hs1b hs1c hso1b hso1c hs2 hso2a hso2 hb6 hb7 hb5 hp4 hp5 hp6 hp7 hpa hw4 hwa hr1 hr2 hr3 hw6 hw7 hw6a hw7a
          obtain ⟨y0, y1⟩ := box2s hs1d
          obtain ⟨y2, y3⟩ := box2s hs2d
          have hl1 := hs1d.lt
          have hl2' := hs2d.lt
          go_wp2_with fail
          have hbz := below1 w8 (.cells #[.int .i64 (r3 : Int), .slice da3 pd.tn dc3] 46)
          have hs3e := At.new w8 46 #[.int .i64 (r3 : Int), .slice da3 pd.tn dc3]
          have hs1e := hs1d.next hbz
          have hs2e := hs2d.next hbz
          have hso1e := hso1d.below hbz
          have hso2e := hso2d.below hbz
          have hso3e := hso3.below hbz
          clear hs1d hs2d hso1d hso2d hso3 y0 y1 y2 y3 hl1 hl2' p0 p1 p2 p3 hp8 hb8 hz8 hz7a hz7 hz6a hz6 hw8 hl8
          generalize w8.alloc (.cells #[.int .i64 (r3 : Int), .slice da3 pd.tn dc3] 46) = w9 at hs1e hs2e hs3e hso1e hso2e hso3e hw8a hbz ⊢
          clear hbz
          generalize w6.heap.size = b1 at hs1e ⊢
          generalize w7.heap.size = b2 at hs2e ⊢
          generalize w8.heap.size = b3 at hs3e ⊢
          have HC1 := Lib.hid (fun W (h : Below w9.heap.size w9 W) k (hk : k < pd.tn) => stat_cell (f := fun i => Ct.dcount (Ct.col (goodOf x1.rows pd.tn) i)) (hso1e.below h) hk)
          have HC2 := Lib.hid (fun W (h : Below w9.heap.size w9 W) k (hk : k < pd.tn) => stat_cell (f := fun i => Ct.dcount (Ct.col (goodOf x2.rows pd.tn) i)) (hso2e.below h) hk)
          have HC3 := Lib.hid (fun W (h : Below w9.heap.size w9 W) k (hk : k < pd.tn) => stat_cell (f := fun i => Ct.dcount (Ct.col (goodOf all pd.tn) i)) (hso3e.below h) hk)
          have HCU := Lib.hid (fun k => show max (Ct.dcount (Ct.col (goodOf x1.rows pd.tn) k)) (Ct.dcount (Ct.col (goodOf x2.rows pd.tn) k)) ≤ Ct.dcount (Ct.col (goodOf all pd.tn) k) ∧ Ct.dcount (Ct.col (goodOf all pd.tn) k) ≤ Ct.dcount (Ct.col (goodOf x1.rows pd.tn) k) + Ct.dcount (Ct.col (goodOf x2.rows pd.tn) k) by
            have h := union_count (Ct.col (goodOf x1.rows pd.tn) k) (Ct.col (goodOf x2.rows pd.tn) k)
            rw [← Ct.col_app, ← good_app, HALL.out] at h
            exact h)
          have HB1 := Lib.hid (fun k => Nat.le_trans (Ct.dcount_len (Ct.col (goodOf x1.rows pd.tn) k)) (Nat.le_trans (col_len _ k) (Nat.le_trans (goodOf_le x1.rows pd.tn) hl1)))
          have HB2 := Lib.hid (fun k => Nat.le_trans (Ct.dcount_len (Ct.col (goodOf x2.rows pd.tn) k)) (Nat.le_trans (col_len _ k) (Nat.le_trans (goodOf_le x2.rows pd.tn) hl2)))
          clear hso1e hso2e hso3e
          have htp : pd.tn ≤ 2000000 := HTN.out pd (List.mem_of_getElem? HPD.out)
          go_loopw [12] (fun i wr => ∃ k : Nat, k ≤ pd.tn ∧ i = .int .i64 k ∧ Below w9.heap.size w9 wr) (fun i _ => pd.tn - (intOf i).toNat)
          case atStart => exact ⟨0, by omega, rfl, Below.refl _ _⟩
          case round =>
            obtain ⟨k, hk, rfl, hb⟩ := hrel
            obtain ⟨u0, u1⟩ := box2s (hs3e.next hb)
            have HU := Lib.hid (fun W (h : Below w9.heap.size w9 W) => And.intro (box2s (hs1e.next h)) (And.intro (box2s (hs2e.next h)) (box2s (hs3e.next h))))
            by_cases h1 : k < pd.tn
            · have d3 : decide ((k : Int) < (pd.tn : Int)) = true := by simp; omega
              have hcu := HCU.out k
              have hb1 := HB1.out k
              have hb2 := HB2.out k
              obtain ⟨g1, o1, rfl, hg1, c1⟩ := HC1.out wr hb k h1
              obtain ⟨g2, o2, rfl, hg2, c2⟩ := HC2.out wr hb k h1
              obtain ⟨g3, o3, rfl, hg3, c3⟩ := HC3.out wr hb k h1
              generalize Ct.dcount (Ct.col (goodOf x1.rows pd.tn) k) = f1 at hcu hb1 c1
              generalize Ct.dcount (Ct.col (goodOf x2.rows pd.tn) k) = f2 at hcu hb2 c2
              generalize Ct.dcount (Ct.col (goodOf all pd.tn) k) = f3 at hcu c3
              obtain ⟨m, hm⟩ : ∃ m, max f1 f2 = m := ⟨_, rfl⟩
              have MX : max (f1 : Int) (f2 : Int) = (m : Int) := by rw [← hm]; exact max_cast f1 f2
              rw [hm] at hcu
              obtain ⟨sm, hsm⟩ : ∃ sm, f1 + f2 = sm := ⟨_, rfl⟩
              have WA : wrap64 ((f1 : Int) + (f2 : Int)) = (sm : Int) := by rw [← hsm]; exact add_cast hb1 hb2
              have WB : IntKind.i64.wrap ((f1 : Int) + (f2 : Int)) = (sm : Int) := (IntWalk.i64_left _).trans WA
              rw [hsm] at hcu
              have t3 : decide ((f3 : Int) < (m : Int)) = false := decide_eq_false (fun h => absurd (Int.ofNat_lt.1 h) (Nat.not_lt.2 hcu.1))
              have n3 : decide (f3 < m) = false := decide_eq_false (Nat.not_lt.2 hcu.1)
              have t4 : decide ((sm : Int) < (f3 : Int)) = false := decide_eq_false (fun h => absurd (Int.ofNat_lt.1 h) (Nat.not_lt.2 hcu.2))
              have n4 : decide (sm < f3) = false := decide_eq_false (Nat.not_lt.2 hcu.2)
              have i3 : (0 : Int) ≤ (k : Int) := by omega
              have i4 : (k : Int) < (pd.tn : Int) := by omega
              clear hm hsm hcu hb1 hb2
              go_wp2_with fail
              refine' wp_region_each _ (Below wr.heap.size wr) (Onward) (Vl :: Vl :: Vl :: Vl :: Vl :: Vl :: Vl :: Vl :: Vl :: Vl :: Vl :: Vl :: Vl :: Vl :: Vl :: Vl :: Vl :: Vl :: Vl :: Vl :: Vl :: Vl :: Vl :: Vl :: Vl :: Vl :: Vl :: Vl :: Vl :: Vl :: Vl :: Vl :: Vl :: Vl :: Vl :: Vl :: []) ?hF (by kernel_rfl) (by kernel_rfl) (by kernel_rfl) ((Below.refl _ _).drew) (lasting_cons (lasting_vl) (lasting_cons (lasting_vl) (lasting_cons (lasting_vl) (lasting_cons (lasting_vl) (lasting_cons (lasting_vl) (lasting_cons (lasting_vl) (lasting_cons (lasting_vl) (lasting_cons (lasting_vl) (lasting_cons (lasting_vl) (lasting_cons (lasting_vl) (lasting_cons (lasting_vl) (lasting_cons (lasting_vl) (lasting_cons (lasting_vl) (lasting_cons (lasting_vl) (lasting_cons (lasting_vl) (lasting_cons (lasting_vl) (lasting_cons (lasting_vl) (lasting_cons (lasting_vl) (lasting_cons (lasting_vl) (lasting_cons (lasting_vl) (lasting_cons (lasting_vl) (lasting_cons (lasting_vl) (lasting_cons (lasting_vl) (lasting_cons (lasting_vl) (lasting_cons (lasting_vl) (lasting_cons (lasting_vl) (lasting_cons (lasting_vl) (lasting_cons (lasting_vl) (lasting_cons (lasting_vl) (lasting_cons (lasting_vl) (lasting_cons (lasting_vl) (lasting_cons (lasting_vl) (lasting_cons (lasting_vl) (lasting_cons (lasting_vl) (lasting_cons (lasting_vl) (lasting_cons (lasting_vl) (lasting_none))))))))))))))))))))))))))))))))))))) ?hops ?hend
              case hF => (intro v; simp only [over, Act.put, List.setIfInBounds_toArray, List.set_cons_zero, List.set_cons_succ, Nat.zero_add, Nat.reduceAdd]; exact rfl)
              case hops =>
                refine ⟨?_, ?_⟩
                · intro v w' hj hd hs K hK
                  have hk := hK.out
                  simp only [Act.put, List.setIfInBounds_toArray, List.set_cons_zero, List.set_cons_succ] at hk
                  have HK := Lib.hid hk
                  clear hd hs hk hK
                  go_simp
                  exact HK.out _ _ hj.out (Below.refl _ _) (show _ = _ from rfl)
                refine ⟨?_, ?_⟩
                · intro v w' hj hd hs K hK
                  have t0 : v 0 = _ := hd.out 0 (by kernel_rfl)
                  obtain ⟨⟨v0, v1⟩, ⟨v2, v3⟩, v4, v5⟩ := HU.out w' (hb.trans (hj.out.mono hb.size))
                  have hk := hK.out
                  simp only [t0, Act.put, List.setIfInBounds_toArray, List.set_cons_zero, List.set_cons_succ] at hk
                  have HK := Lib.hid hk
                  clear hd hs hk hK
                  go_simp
                  exact HK.out _ _ hj.out (Below.refl _ _) (show _ = _ from rfl)
                refine ⟨?_, ?_⟩
                · intro v w' hj hd hs K hK
                  have hk := hK.out
                  simp only [Act.put, List.setIfInBounds_toArray, List.set_cons_zero, List.set_cons_succ] at hk
                  have HK := Lib.hid hk
                  clear hd hs hk hK
                  go_simp
                  exact HK.out _ _ hj.out (Below.refl _ _) (show _ = _ from rfl)
                refine ⟨?_, ?_⟩
                · intro v w' hj hd hs K hK
                  have t1 : v 1 = _ := hd.out 1 (by kernel_rfl)
                  have t2 : v 2 = _ := hd.out 2 (by kernel_rfl)
                  have hk := hK.out
                  simp only [t1, t2, Act.put, List.setIfInBounds_toArray, List.set_cons_zero, List.set_cons_succ] at hk
                  have HK := Lib.hid hk
                  clear hd hs hk hK
                  go_simp
                  exact HK.out _ _ hj.out (Below.refl _ _) (show _ = _ from rfl)
                refine ⟨?_, ?_⟩
                · intro v w' hj hd hs K hK
                  have t3 : v 3 = _ := hd.out 3 (by kernel_rfl)
                  have cx := next_cell c3 hj.out
                  have hk := hK.out
                  simp only [t3, Act.put, List.setIfInBounds_toArray, List.set_cons_zero, List.set_cons_succ] at hk
                  have HK := Lib.hid hk
                  clear hd hs hk hK
                  go_simp
                  exact HK.out _ _ hj.out (Below.refl _ _) (show _ = _ from rfl)
                refine ⟨?_, ?_⟩
                · intro v w' hj hd hs K hK
                  have hk := hK.out
                  simp only [Act.put, List.setIfInBounds_toArray, List.set_cons_zero, List.set_cons_succ] at hk
                  have HK := Lib.hid hk
                  clear hd hs hk hK
                  go_simp
                  exact HK.out _ _ hj.out (Below.refl _ _) (show _ = _ from rfl)
                refine ⟨?_, ?_⟩
                · intro v w' hj hd hs K hK
                  have t5 : v 5 = _ := hd.out 5 (by kernel_rfl)
                  obtain ⟨⟨v0, v1⟩, ⟨v2, v3⟩, v4, v5⟩ := HU.out w' (hb.trans (hj.out.mono hb.size))
                  have hk := hK.out
                  simp only [t5, Act.put, List.setIfInBounds_toArray, List.set_cons_zero, List.set_cons_succ] at hk
                  have HK := Lib.hid hk
                  clear hd hs hk hK
                  go_simp
                  exact HK.out _ _ hj.out (Below.refl _ _) (show _ = _ from rfl)
                refine ⟨?_, ?_⟩
                · intro v w' hj hd hs K hK
                  have hk := hK.out
                  simp only [Act.put, List.setIfInBounds_toArray, List.set_cons_zero, List.set_cons_succ] at hk
                  have HK := Lib.hid hk
                  clear hd hs hk hK
                  go_simp
                  exact HK.out _ _ hj.out (Below.refl _ _) (show _ = _ from rfl)
                refine ⟨?_, ?_⟩
                · intro v w' hj hd hs K hK
                  have t6 : v 6 = _ := hd.out 6 (by kernel_rfl)
                  have t7 : v 7 = _ := hd.out 7 (by kernel_rfl)
                  have hk := hK.out
                  simp only [t6, t7, Act.put, List.setIfInBounds_toArray, List.set_cons_zero, List.set_cons_succ] at hk
                  have HK := Lib.hid hk
                  clear hd hs hk hK
                  go_simp
                  exact HK.out _ _ hj.out (Below.refl _ _) (show _ = _ from rfl)
                refine ⟨?_, ?_⟩
                · intro v w' hj hd hs K hK
                  have t8 : v 8 = _ := hd.out 8 (by kernel_rfl)
                  have cx := next_cell c1 hj.out
                  have hk := hK.out
                  simp only [t8, Act.put, List.setIfInBounds_toArray, List.set_cons_zero, List.set_cons_succ] at hk
                  have HK := Lib.hid hk
                  clear hd hs hk hK
                  go_simp
                  exact HK.out _ _ hj.out (Below.refl _ _) (show _ = _ from rfl)
                refine ⟨?_, ?_⟩
                · intro v w' hj hd hs K hK
                  have hk := hK.out
                  simp only [Act.put, List.setIfInBounds_toArray, List.set_cons_zero, List.set_cons_succ] at hk
                  have HK := Lib.hid hk
                  clear hd hs hk hK
                  go_simp
                  exact HK.out _ _ hj.out (Below.refl _ _) (show _ = _ from rfl)
                refine ⟨?_, ?_⟩
                · intro v w' hj hd hs K hK
                  have t10 : v 10 = _ := hd.out 10 (by kernel_rfl)
                  obtain ⟨⟨v0, v1⟩, ⟨v2, v3⟩, v4, v5⟩ := HU.out w' (hb.trans (hj.out.mono hb.size))
                  have hk := hK.out
                  simp only [t10, Act.put, List.setIfInBounds_toArray, List.set_cons_zero, List.set_cons_succ] at hk
                  have HK := Lib.hid hk
                  clear hd hs hk hK
                  go_simp
                  exact HK.out _ _ hj.out (Below.refl _ _) (show _ = _ from rfl)
                refine ⟨?_, ?_⟩
                · intro v w' hj hd hs K hK
                  have hk := hK.out
                  simp only [Act.put, List.setIfInBounds_toArray, List.set_cons_zero, List.set_cons_succ] at hk
                  have HK := Lib.hid hk
                  clear hd hs hk hK
                  go_simp
                  exact HK.out _ _ hj.out (Below.refl _ _) (show _ = _ from rfl)
                refine ⟨?_, ?_⟩
                · intro v w' hj hd hs K hK
                  have t11 : v 11 = _ := hd.out 11 (by kernel_rfl)
                  have t12 : v 12 = _ := hd.out 12 (by kernel_rfl)
                  have hk := hK.out
                  simp only [t11, t12, Act.put, List.setIfInBounds_toArray, List.set_cons_zero, List.set_cons_succ] at hk
                  have HK := Lib.hid hk
                  clear hd hs hk hK
                  go_simp
                  exact HK.out _ _ hj.out (Below.refl _ _) (show _ = _ from rfl)
                refine ⟨?_, ?_⟩
                · intro v w' hj hd hs K hK
                  have t13 : v 13 = _ := hd.out 13 (by kernel_rfl)
                  have cx := next_cell c2 hj.out
                  have hk := hK.out
                  simp only [t13, Act.put, List.setIfInBounds_toArray, List.set_cons_zero, List.set_cons_succ] at hk
                  have HK := Lib.hid hk
                  clear hd hs hk hK
                  go_simp
                  exact HK.out _ _ hj.out (Below.refl _ _) (show _ = _ from rfl)
                refine ⟨?_, ?_⟩
                · intro v w' hj hd hs K hK
                  have t9 : v 9 = _ := hd.out 9 (by kernel_rfl)
                  have t14 : v 14 = _ := hd.out 14 (by kernel_rfl)
                  have hk := hK.out
                  simp only [t9, t14, Act.put, List.setIfInBounds_toArray, List.set_cons_zero, List.set_cons_succ] at hk
                  have HK := Lib.hid hk
                  clear hd hs hk hK
                  go_simp
                  exact HK.out _ _ hj.out (Below.refl _ _) (show _ = _ from rfl)
                refine ⟨?_, ?_⟩
                · intro v w' hj hd hs K hK
                  have t4 : v 4 = _ := hd.out 4 (by kernel_rfl)
                  have t15 : v 15 = _ := hd.out 15 (by kernel_rfl)
                  have hk := hK.out
                  simp only [t4, t15, Act.put, List.setIfInBounds_toArray, List.set_cons_zero, List.set_cons_succ] at hk
                  have HK := Lib.hid hk
                  clear hd hs hk hK
                  go_simp
                  exact HK.out _ _ hj.out (Below.refl _ _) (show _ = _ from rfl)
                refine ⟨?_, ?_⟩
                · intro v w' hj hd hs K hK
                  have t16 : v 16 = _ := hd.out 16 (by kernel_rfl)
                  have hk := hK.out
                  simp only [t16, Act.put, List.setIfInBounds_toArray, List.set_cons_zero, List.set_cons_succ] at hk
                  have HK := Lib.hid hk
                  clear hd hs hk hK
                  go_simp
                  exact HK.out _ _ hj.out (Below.refl _ _) (show _ = _ from rfl)
                refine ⟨?_, ?_⟩
                · intro v w' hj hd hs K hK
                  have t17 : v 17 = _ := hd.out 17 (by kernel_rfl)
                  have hk := hK.out
                  simp only [t17, Act.put, List.setIfInBounds_toArray, List.set_cons_zero, List.set_cons_succ] at hk
                  have HK := Lib.hid hk
                  clear hd hs hk hK
                  go_simp
                  exact HK.out _ _ hj.out (Below.refl _ _) (show _ = _ from rfl)
                refine ⟨?_, ?_⟩
                · intro v w' hj hd hs K hK
                  have t17 : v 17 = _ := hd.out 17 (by kernel_rfl)
                  have t18 : v 18 = _ := hd.out 18 (by kernel_rfl)
                  obtain ⟨⟨v0, v1⟩, ⟨v2, v3⟩, v4, v5⟩ := HU.out w' (hb.trans (hj.out.mono hb.size))
                  have hk := hK.out
                  simp only [t17, t18, Act.put, List.setIfInBounds_toArray, List.set_cons_zero, List.set_cons_succ] at hk
                  have HK := Lib.hid hk
                  clear hd hs hk hK
                  go_simp
                  exact HK.out _ _ hj.out (Below.refl _ _) (show _ = _ from rfl)
                refine ⟨?_, ?_⟩
                · intro v w' hj hd hs K hK
                  have t17 : v 17 = _ := hd.out 17 (by kernel_rfl)
                  have hk := hK.out
                  simp only [t17, Act.put, List.setIfInBounds_toArray, List.set_cons_zero, List.set_cons_succ] at hk
                  have HK := Lib.hid hk
                  clear hd hs hk hK
                  go_simp
                  exact HK.out _ _ hj.out (Below.refl _ _) (show _ = _ from rfl)
                refine ⟨?_, ?_⟩
                · intro v w' hj hd hs K hK
                  have t17 : v 17 = _ := hd.out 17 (by kernel_rfl)
                  have t19 : v 19 = _ := hd.out 19 (by kernel_rfl)
                  have t20 : v 20 = _ := hd.out 20 (by kernel_rfl)
                  have hk := hK.out
                  simp only [t17, t19, t20, Act.put, List.setIfInBounds_toArray, List.set_cons_zero, List.set_cons_succ] at hk
                  have HK := Lib.hid hk
                  clear hd hs hk hK
                  go_simp
                  exact HK.out _ _ hj.out (Below.refl _ _) (show _ = _ from rfl)
                refine ⟨?_, ?_⟩
                · intro v w' hj hd hs K hK
                  have t17 : v 17 = _ := hd.out 17 (by kernel_rfl)
                  have t21 : v 21 = _ := hd.out 21 (by kernel_rfl)
                  have cx := next_cell c3 hj.out
                  have hk := hK.out
                  simp only [t17, t21, Act.put, List.setIfInBounds_toArray, List.set_cons_zero, List.set_cons_succ] at hk
                  have HK := Lib.hid hk
                  clear hd hs hk hK
                  go_simp
                  exact HK.out _ _ hj.out (Below.refl _ _) (show _ = _ from rfl)
                refine ⟨?_, ?_⟩
                · intro v w' hj hd hs K hK
                  have t17 : v 17 = _ := hd.out 17 (by kernel_rfl)
                  have hk := hK.out
                  simp only [t17, Act.put, List.setIfInBounds_toArray, List.set_cons_zero, List.set_cons_succ] at hk
                  have HK := Lib.hid hk
                  clear hd hs hk hK
                  go_simp
                  exact HK.out _ _ hj.out (Below.refl _ _) (show _ = _ from rfl)
                refine ⟨?_, ?_⟩
                · intro v w' hj hd hs K hK
                  have t17 : v 17 = _ := hd.out 17 (by kernel_rfl)
                  have t23 : v 23 = _ := hd.out 23 (by kernel_rfl)
                  obtain ⟨⟨v0, v1⟩, ⟨v2, v3⟩, v4, v5⟩ := HU.out w' (hb.trans (hj.out.mono hb.size))
                  have hk := hK.out
                  simp only [t17, t23, Act.put, List.setIfInBounds_toArray, List.set_cons_zero, List.set_cons_succ] at hk
                  have HK := Lib.hid hk
                  clear hd hs hk hK
                  go_simp
                  exact HK.out _ _ hj.out (Below.refl _ _) (show _ = _ from rfl)
                refine ⟨?_, ?_⟩
                · intro v w' hj hd hs K hK
                  have t17 : v 17 = _ := hd.out 17 (by kernel_rfl)
                  have hk := hK.out
                  simp only [t17, Act.put, List.setIfInBounds_toArray, List.set_cons_zero, List.set_cons_succ] at hk
                  have HK := Lib.hid hk
                  clear hd hs hk hK
                  go_simp
                  exact HK.out _ _ hj.out (Below.refl _ _) (show _ = _ from rfl)
                refine ⟨?_, ?_⟩
                · intro v w' hj hd hs K hK
                  have t17 : v 17 = _ := hd.out 17 (by kernel_rfl)
                  have t24 : v 24 = _ := hd.out 24 (by kernel_rfl)
                  have t25 : v 25 = _ := hd.out 25 (by kernel_rfl)
                  have hk := hK.out
                  simp only [t17, t24, t25, Act.put, List.setIfInBounds_toArray, List.set_cons_zero, List.set_cons_succ] at hk
                  have HK := Lib.hid hk
                  clear hd hs hk hK
                  go_simp
                  exact HK.out _ _ hj.out (Below.refl _ _) (show _ = _ from rfl)
                refine ⟨?_, ?_⟩
                · intro v w' hj hd hs K hK
                  have t17 : v 17 = _ := hd.out 17 (by kernel_rfl)
                  have t26 : v 26 = _ := hd.out 26 (by kernel_rfl)
                  have cx := next_cell c1 hj.out
                  have hk := hK.out
                  simp only [t17, t26, Act.put, List.setIfInBounds_toArray, List.set_cons_zero, List.set_cons_succ] at hk
                  have HK := Lib.hid hk
                  clear hd hs hk hK
                  go_simp
                  exact HK.out _ _ hj.out (Below.refl _ _) (show _ = _ from rfl)
                refine ⟨?_, ?_⟩
                · intro v w' hj hd hs K hK
                  have t17 : v 17 = _ := hd.out 17 (by kernel_rfl)
                  have hk := hK.out
                  simp only [t17, Act.put, List.setIfInBounds_toArray, List.set_cons_zero, List.set_cons_succ] at hk
                  have HK := Lib.hid hk
                  clear hd hs hk hK
                  go_simp
                  exact HK.out _ _ hj.out (Below.refl _ _) (show _ = _ from rfl)
                refine ⟨?_, ?_⟩
                · intro v w' hj hd hs K hK
                  have t17 : v 17 = _ := hd.out 17 (by kernel_rfl)
                  have t28 : v 28 = _ := hd.out 28 (by kernel_rfl)
                  obtain ⟨⟨v0, v1⟩, ⟨v2, v3⟩, v4, v5⟩ := HU.out w' (hb.trans (hj.out.mono hb.size))
                  have hk := hK.out
                  simp only [t17, t28, Act.put, List.setIfInBounds_toArray, List.set_cons_zero, List.set_cons_succ] at hk
                  have HK := Lib.hid hk
                  clear hd hs hk hK
                  go_simp
                  exact HK.out _ _ hj.out (Below.refl _ _) (show _ = _ from rfl)
                refine ⟨?_, ?_⟩
                · intro v w' hj hd hs K hK
                  have t17 : v 17 = _ := hd.out 17 (by kernel_rfl)
                  have hk := hK.out
                  simp only [t17, Act.put, List.setIfInBounds_toArray, List.set_cons_zero, List.set_cons_succ] at hk
                  have HK := Lib.hid hk
                  clear hd hs hk hK
                  go_simp
                  exact HK.out _ _ hj.out (Below.refl _ _) (show _ = _ from rfl)
                refine ⟨?_, ?_⟩
                · intro v w' hj hd hs K hK
                  have t17 : v 17 = _ := hd.out 17 (by kernel_rfl)
                  have t29 : v 29 = _ := hd.out 29 (by kernel_rfl)
                  have t30 : v 30 = _ := hd.out 30 (by kernel_rfl)
                  have hk := hK.out
                  simp only [t17, t29, t30, Act.put, List.setIfInBounds_toArray, List.set_cons_zero, List.set_cons_succ] at hk
                  have HK := Lib.hid hk
                  clear hd hs hk hK
                  go_simp
                  exact HK.out _ _ hj.out (Below.refl _ _) (show _ = _ from rfl)
                refine ⟨?_, ?_⟩
                · intro v w' hj hd hs K hK
                  have t17 : v 17 = _ := hd.out 17 (by kernel_rfl)
                  have t31 : v 31 = _ := hd.out 31 (by kernel_rfl)
                  have cx := next_cell c2 hj.out
                  have hk := hK.out
                  simp only [t17, t31, Act.put, List.setIfInBounds_toArray, List.set_cons_zero, List.set_cons_succ] at hk
                  have HK := Lib.hid hk
                  clear hd hs hk hK
                  go_simp
                  exact HK.out _ _ hj.out (Below.refl _ _) (show _ = _ from rfl)
                refine ⟨?_, ?_⟩
                · intro v w' hj hd hs K hK
                  have t17 : v 17 = _ := hd.out 17 (by kernel_rfl)
                  have t27 : v 27 = _ := hd.out 27 (by kernel_rfl)
                  have t32 : v 32 = _ := hd.out 32 (by kernel_rfl)
                  have hk := hK.out
                  simp only [t17, t27, t32, Act.put, List.setIfInBounds_toArray, List.set_cons_zero, List.set_cons_succ] at hk
                  have HK := Lib.hid hk
                  clear hd hs hk hK
                  go_simp
                  exact HK.out _ _ hj.out (Below.refl _ _) (show _ = _ from rfl)
                refine ⟨?_, ?_⟩
                · intro v w' hj hd hs K hK
                  have t17 : v 17 = _ := hd.out 17 (by kernel_rfl)
                  have t22 : v 22 = _ := hd.out 22 (by kernel_rfl)
                  have t33 : v 33 = _ := hd.out 33 (by kernel_rfl)
                  have hk := hK.out
                  simp only [t17, t22, t33, Act.put, List.setIfInBounds_toArray, List.set_cons_zero, List.set_cons_succ] at hk
                  have HK := Lib.hid hk
                  clear hd hs hk hK
                  go_simp
                  exact HK.out _ _ hj.out (Below.refl _ _) (show _ = _ from rfl)
                refine ⟨?_, ?_⟩
                · intro v w' hj hd hs K hK
                  have t17 : v 17 = _ := hd.out 17 (by kernel_rfl)
                  have t34 : v 34 = _ := hd.out 34 (by kernel_rfl)
                  have hk := hK.out
                  simp only [t17, t34, Act.put, List.setIfInBounds_toArray, List.set_cons_zero, List.set_cons_succ] at hk
                  have HK := Lib.hid hk
                  clear hd hs hk hK
                  go_simp
                  exact HK.out _ _ hj.out (Below.refl _ _) (show _ = _ from rfl)
                trivial
              case hend =>
                intro v wt hj hd
                have t35 : v 35 = _ := hd.out 35 (of_decide_eq_true (by kernel_rfl))
                have hbt := hb.trans (hj.out.mono hb.size)
                simp only [t35]
                clear hj hd t35 c1 c2 c3 u0 u1
                go_wp2_with fail
                go_roundw
                case rel => exact ⟨k + 1, by omega, by go_num, hbt⟩
                case measure => simp [intOf]; omega
            · have d3 : decide ((k : Int) < (pd.tn : Int)) = false := by simp; omega
              obtain ⟨⟨a0, a1⟩, ⟨a2, a3⟩, _⟩ := HU.out wr hb
              obtain ⟨m, hm⟩ : ∃ m, max r1 r2 = m := ⟨_, rfl⟩
              have MX : max (r1 : Int) (r2 : Int) = (m : Int) := by rw [← hm]; exact max_cast r1 r2
              rw [hm] at hu
              obtain ⟨sm, hsm⟩ : ∃ sm, r1 + r2 = sm := ⟨_, rfl⟩
              have WA : wrap64 ((r1 : Int) + (r2 : Int)) = (sm : Int) := by rw [← hsm]; exact add_cast hk1 hk2
              have WB : IntKind.i64.wrap ((r1 : Int) + (r2 : Int)) = (sm : Int) := (IntWalk.i64_left _).trans WA
              rw [hsm] at hu
              have t3 : decide ((m : Int) ≤ (r3 : Int)) = true := decide_eq_true (Int.ofNat_le.2 hu.1)
              have n3 : decide (m ≤ r3) = true := decide_eq_true hu.1
              have t4 : decide ((r3 : Int) ≤ (sm : Int)) = true := decide_eq_true (Int.ofNat_le.2 hu.2)
              have n4 : decide (r3 ≤ sm) = true := decide_eq_true hu.2
              clear hm hsm hu
              go_wp2_with fail
              go_ret
              exact ⟨rfl, hw8a.trans (hb.mono hw8a.size)⟩
end Go.Proofs.YtoficnfpoeaccaaDoor
