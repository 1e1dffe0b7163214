/- The walks of the laws' atom and of the reference's Int and Sym. -/
import Derived.Test.YtoficnfpoeaccaaDoorKStat
import Derived.Test.YtoficnfpoeaccaaDoorInv6
namespace Go.Proofs.YtoficnfpoeaccaaDoor
set_option linter.unusedVariables false
set_option linter.unusedSimpArgs false
open Go.RowKit
def emp : ByteArray := ⟨#[]⟩
/-- The variable of a name. -/
def tmV (s : ByteArray) : Tm := ⟨s, 0, 0, emp⟩
def tcells (l : List ByteArray) : List Value := l.flatMap fun s => (tmV s).fs
theorem tcells_snoc {l : List ByteArray} {k : Nat} {x : ByteArray} (h : l[k]? = some x) : tcells (l.take (k + 1)) = tcells (l.take k) ++ (tmV x).fs := by
  unfold tcells
  rw [take_more h, List.flatMap_append]
  simp
theorem tcells_len (l : List ByteArray) : (tcells l).length = l.length * 4 := by
  induction l with
  | nil => rfl
  | cons a l ih =>
    show ((tmV a).fs ++ tcells l).length = _
    rw [List.length_append, ih, List.length_cons]
    show 4 + _ = _
    omega
theorem tcells_get : ∀ (l : List ByteArray) (i : Nat) (x : ByteArray) (j : Nat) (v : Value), l[i]? = some x → (tmV x).fs[j]? = some v → (tcells l)[i * 4 + j]? = some v
  | [], i, x, j, v, h, _ => by simp at h
  | a :: l, i, x, j, v, h, hj => by
    have h4 : (tmV a).fs.length = 4 := rfl
    show ((tmV a).fs ++ tcells l)[i * 4 + j]? = _
    cases i with
    | zero =>
      obtain rfl : a = x := by simpa using h
      have : j < 4 := by have := (List.getElem?_eq_some_iff.1 hj).1; omega
      rw [List.getElem?_append_left (by omega), show 0 * 4 + j = j by omega]
      exact hj
    | succ i =>
      rw [List.getElem?_append_right (by omega), h4, show (i + 1) * 4 + j - 4 = i * 4 + j by omega]
      exact tcells_get l i x j v (by simpa using h) hj
theorem term_info : (Tryd.prog.info? 64).map (fun i => (i.zero, i.size, i.bytes)) = some (some (.agg #[.string ⟨#[]⟩, .int .i64 0, .int .i64 0, .string ⟨#[]⟩]), 4, 48) := by kernel_rfl
theorem str_own4 {w : World} {B : Nat} {A : Option Addr} {c : Nat} {l : List ByteArray} (h : w.ownsRow B 64 4 (.slice A l.length c) l.length (tcells l)) : Str w A 4 ((l.map tmV).map Tm.fs) ∧ l.length ≤ c ∧ c ≤ maxLen := by
  obtain ⟨A', c', e, h1, h2, h0⟩ := own_cells h
  injection e with e1 e2 e3
  subst e1; subst e3
  refine ⟨fun hn => ?_, h1, h2⟩
  rcases h0 with h0 | ⟨g, rfl, _, hg, hc⟩
  · have : l = [] := List.eq_nil_of_length_eq_zero h0
    subst this
    exact absurd rfl hn
  · refine ⟨g, 0, rfl, hg, fun i fs hi j v hj => ?_⟩
    rw [List.getElem?_map, List.getElem?_map, Option.map_eq_some_iff] at hi
    obtain ⟨t, ht, rfl⟩ := hi
    rw [Option.map_eq_some_iff] at ht
    obtain ⟨x, hx, rfl⟩ := ht
    rw [Nat.zero_add]
    exact hc _ v (tcells_get l i x j v hx hj)
def NewT4 (cs : List Value) : Value → World → Prop := fun x w => ∃ b, x = .slice (some ⟨b, 0, none⟩) 1 1 ∧ At w b 64 cs.toArray
theorem newT4_on {J : World → Prop} (cs : List Value) : Lasting J Onward (NewT4 cs) := fun x w w' _ hb ⟨b, e, h⟩ => ⟨b, e, h.next hb⟩
/-- What atom hands back. -/
def AtomOut (pred : Int) (vars : List ByteArray) (e : Ending) (w' : World) : Prop := ∃ (aa : Option Addr) (ac : Nat), e = .returned (.agg #[.int .i64 1, .string ⟨#[112]⟩, .int .i64 pred, .slice aa vars.length ac, .string ⟨#[]⟩, .string ⟨#[]⟩, .int .i64 (-1), .int .i64 0, .int .i64 0]) ∧ Str w' aa 4 ((vars.map tmV).map Tm.fs) ∧ vars.length ≤ ac ∧ ac ≤ maxLen
set_option maxHeartbeats 1000000 in
set_option maxRecDepth 100000 in
theorem atom_any (pred : Int) (A : Option Addr) (c : Nat) (vars : List ByteArray) (w : World) (hA : NmAt w A vars) (hl : vars.length ≤ 100) :
    Calls Tryd.prog 23 #[.int .i64 pred, .slice A vars.length c] w fun e w' => AtomOut pred vars e w' ∧ Below w.heap.size w w' := by
  have HA := Lib.hid (fun W (h : Below w.heap.size w W) => hA.below h)
  obtain ⟨iT, hi0, hi1, hi2, hi3⟩ := info_parts term_info
  clear hA
  go_enter Tryd.func23, Tryd.ntmps23
  go_wp2_with fail
  go_loopw [6] (fun i wr => ∃ (k : Nat) (A2 : Option Addr) (c2 : Nat), k ≤ vars.length ∧ i = .int .i64 k ∧ At wr (w.heap.size + 1) 60 #[.int .i64 1, .string ⟨#[112]⟩, .int .i64 pred, .slice A2 k c2, .string ⟨#[]⟩, .string ⟨#[]⟩, .int .i64 (-1), .int .i64 0, .int .i64 0] ∧ wr.ownsRow w.heap.size 64 4 (.slice A2 k c2) k (tcells (vars.take k)) ∧ At wr w.heap.size 60 #[.int .i64 0, .string ⟨#[]⟩, .int .i64 0, .slice none 0 0, .string ⟨#[]⟩, .string ⟨#[]⟩, .int .i64 0, .int .i64 0, .int .i64 0] ∧ Below w.heap.size w wr) (fun i _ => vars.length - (intOf i).toNat)
  case atStart => exact ⟨0, none, 0, by omega, rfl, At.newAt (by simp) _ _, ⟨by simp [tcells], Or.inl ⟨rfl, by simp [tcells]⟩⟩, (At.new w _ _).alloc _, (below1 _ _).alloc (by simp) _⟩
  case round =>
    obtain ⟨k, A2, c2, hk, rfl, hat, ho, hre, hw⟩ := hrel
    by_cases h1 : k < vars.length
    · have d1 : decide ((k : Int) < (vars.length : Int)) = true := by simp; omega
      obtain ⟨x, hx⟩ : ∃ x, vars[k]? = some x := ⟨_, List.getElem?_eq_getElem h1⟩
      obtain ⟨g, o, rfl, hg, y0⟩ := (HA.out wr hw).at hx
      have i0 : (0 : Int) ≤ (k : Int) := by omega
      have i1 : (k : Int) < (vars.length : Int) := by omega
      have y1 : wr.cell? ⟨w.heap.size + 1, 3, none⟩ = some (.slice A2 k c2) := hat.cell 3
      have HSN := Lib.hid (tcells_snoc hx)
      have hatd := hat.drew
      have hod : wr.drew.ownsRow w.heap.size 64 4 (.slice A2 k c2) k (tcells (vars.take k)) := ho
      have hsz := hw.size
      clear hx
      go_wp2_with fail
      refine' wp_region_split 8 _ (Below wr.heap.size wr) (Onward) (Vl :: Vl :: Vl :: Vl :: Vl :: Vl :: Vl :: NewT4 ((tmV x).fs) :: []) ?hF (by kernel_rfl) (by kernel_rfl) (by kernel_rfl) (of_decide_eq_true (by kernel_rfl)) (by kernel_rfl) ((Below.refl _ _).drew) (lasting_cons (lasting_vl) (lasting_cons (lasting_vl) (lasting_cons (lasting_vl) (lasting_cons (lasting_vl) (lasting_cons (lasting_vl) (lasting_cons (lasting_vl) (lasting_cons (lasting_vl) (lasting_cons (newT4_on _) (lasting_none))))))))) ?hops ?htail
      case hF => (intro v; simp only [over, Act.put, List.setIfInBounds_toArray, List.set_cons_zero, List.set_cons_succ, Nat.zero_add, Nat.reduceAdd]; exact rfl)
      case hops =>
        refine ⟨?_, ?_⟩
        · intro v w' hj hd hs K hK
          have hk := hK.out
          simp only [Act.put, List.setIfInBounds_toArray, List.set_cons_zero, List.set_cons_succ] at hk
          have HK := Lib.hid hk
          clear hd hs hk hK
          go_simp
          exact HK.out _ _ hj.out (Below.refl _ _) (show _ = _ from rfl)
        refine ⟨?_, ?_⟩
        · intro v w' hj hd hs K hK
          have t0 : v 0 = _ := hd.out 0 (by kernel_rfl)
          have y1x := next_cell y1 hj.out
          have hk := hK.out
          simp only [t0, Act.put, List.setIfInBounds_toArray, List.set_cons_zero, List.set_cons_succ] at hk
          have HK := Lib.hid hk
          clear hd hs hk hK
          go_simp
          exact HK.out _ _ hj.out (Below.refl _ _) (show _ = _ from rfl)
        refine ⟨?_, ?_⟩
        · intro v w' hj hd hs K hK
          have hk := hK.out
          simp only [Act.put, List.setIfInBounds_toArray, List.set_cons_zero, List.set_cons_succ] at hk
          have HK := Lib.hid hk
          clear hd hs hk hK
          go_simp
          exact HK.out _ _ hj.out (Below.refl _ _) (show _ = _ from rfl)
        refine ⟨?_, ?_⟩
        · intro v w' hj hd hs K hK
          have hk := hK.out
          simp only [Act.put, List.setIfInBounds_toArray, List.set_cons_zero, List.set_cons_succ] at hk
          have HK := Lib.hid hk
          clear hd hs hk hK
          go_simp
          exact HK.out _ _ hj.out (Below.refl _ _) (show _ = _ from rfl)
        refine ⟨?_, ?_⟩
        · intro v w' hj hd hs K hK
          have t2 : v 2 = _ := hd.out 2 (by kernel_rfl)
          have t3 : v 3 = _ := hd.out 3 (by kernel_rfl)
          have hk := hK.out
          simp only [t2, t3, Act.put, List.setIfInBounds_toArray, List.set_cons_zero, List.set_cons_succ] at hk
          have HK := Lib.hid hk
          clear hd hs hk hK
          go_simp
          exact HK.out _ _ hj.out (Below.refl _ _) (show _ = _ from rfl)
        refine ⟨?_, ?_⟩
        · intro v w' hj hd hs K hK
          have t4 : v 4 = _ := hd.out 4 (by kernel_rfl)
          have y0x := next_cell y0 hj.out
          have hk := hK.out
          simp only [t4, Act.put, List.setIfInBounds_toArray, List.set_cons_zero, List.set_cons_succ] at hk
          have HK := Lib.hid hk
          clear hd hs hk hK
          go_simp
          exact HK.out _ _ hj.out (Below.refl _ _) (show _ = _ from rfl)
        refine ⟨?_, ?_⟩
        · intro v w' hj hd hs K hK
          have t5 : v 5 = _ := hd.out 5 (by kernel_rfl)
          have hk := hK.out
          simp only [t5, Act.put, List.setIfInBounds_toArray, List.set_cons_zero, List.set_cons_succ] at hk
          have HK := Lib.hid hk
          clear hd hs hk hK
          go_simp
          exact HK.out _ _ hj.out (Below.refl _ _) (show _ = _ from rfl)
        refine ⟨?_, ?_⟩
        · intro v w' hj hd hs K hK
          have t6 : v 6 = _ := hd.out 6 (by kernel_rfl)
          have hk := hK.out
          simp only [t6, Act.put, List.setIfInBounds_toArray, List.set_cons_zero, List.set_cons_succ] at hk
          have HK := Lib.hid hk
          clear hd hs hk hK
          go_simp
          exact HK.out _ _ (hj.out.alloc hj.out.size _) (below1 _ _) ⟨_, rfl, At.new _ _ _⟩
        trivial
      case htail =>
        intro v w3 hj hd
        have t1 : v 1 = _ := hd.out 1 (of_decide_eq_true (by kernel_rfl))
        obtain ⟨b7, t7, a7⟩ : NewT4 ((tmV x).fs) (v 7) w3 := hd.out 7 (of_decide_eq_true (by kernel_rfl))
        have hb3 := hj.out
        have ho3 := own_below ho hb3
        have hat3 := hat.next hb3
        have hre3 := hre.next hb3
        have hw3 : Below w.heap.size w w3 := hw.trans (hb3.mono hw.size)
        have hs3 := hw3.size
        simp only [t1, t7, List.drop_succ_cons, List.drop_zero]
        clear hj hd t1 t7 y0 y1
        go_wp2_with (at_builtin; refine wpList_append_own _ rfl _ _ 33 rfl w.heap.size 64 iT (.agg #[.string ⟨#[]⟩, .int .i64 0, .int .i64 0, .string ⟨#[]⟩]) 4 48 Tryd.underlying33 hi0 hi1 hi2 hi3 rfl (by decide) _ _ _ rfl ho3 ⟨b7, 0, none⟩ 1 1 (tmV x).fs rfl rfl ?c1 ?c2 ?c3 ?c4 ?c5 ?_)
        case c1 => exact At.news (xs := (tmV x).fs) a7
        case c2 => intro u hu; simp [tmV, Tm.fs] at hu; rcases hu with rfl | rfl | rfl <;> rfl
        case c3 => simp [maxLen]; omega
        case c4 => omega
        case c5 => omega
        intro v5 w5 o5 g5 _
        obtain ⟨A5, c5, rfl⟩ := own_len o5
        replace o5 : w5.ownsRow w.heap.size 64 4 (.slice A5 (k + 1) c5) (k + 1) (tcells (vars.take (k + 1))) := by rw [HSN.out]; exact o5
        have hat5 := hat3.grown g5 (own_far ho3 hat3 (by decide))
        have hre5 := hre3.grown g5 (own_far ho3 hre3 (by decide))
        have hw5 : Below w.heap.size w w5 := hw3.grown g5 hw3.size (fun q hq => (own_lt ho3 hq).1)
        have yf5 : w5.frozen? ⟨w.heap.size + 1, 3, none⟩ = false := hat5.frozen 3
        have yc5 : w5.cell? ⟨w.heap.size + 1, 3, none⟩ = some (.slice A2 k c2) := hat5.cell 3
        have hl5 := hat5.lt
        clear hat3 hre3 hw3 ho3 g5 hat ho hre hw a7 hb3
        go_wp2_with fail
        go_roundw
        case rel => exact ⟨k + 1, A5, c5, by omega, by go_num, hat5.put 3 _, own_putne (p := ⟨w.heap.size + 1, 3, none⟩) o5 (own_far o5 hat5 (by decide)) _, hre5.far (p := ⟨w.heap.size + 1, 3, none⟩) (show w.heap.size ≠ w.heap.size + 1 by omega) _, hw5.setCell (p := ⟨w.heap.size + 1, 3, none⟩) (by simp) _⟩
        case measure => simp [intOf]; omega
    · have d1 : decide ((k : Int) < (vars.length : Int)) = false := by simp; omega
      obtain rfl : k = vars.length := by omega
      rw [List.take_of_length_le (Nat.le_refl _)] at ho
      have y0 : wr.cell? ⟨w.heap.size + 1, 0, none⟩ = some (.int .i64 1) := hat.cell 0
      have y1 : wr.cell? ⟨w.heap.size + 1, 1, none⟩ = some (.string ⟨#[112]⟩) := hat.cell 1
      have y2 : wr.cell? ⟨w.heap.size + 1, 2, none⟩ = some (.int .i64 pred) := hat.cell 2
      have y3 : wr.cell? ⟨w.heap.size + 1, 3, none⟩ = some (.slice A2 vars.length c2) := hat.cell 3
      have y4 : wr.cell? ⟨w.heap.size + 1, 4, none⟩ = some (.string ⟨#[]⟩) := hat.cell 4
      have y5 : wr.cell? ⟨w.heap.size + 1, 5, none⟩ = some (.string ⟨#[]⟩) := hat.cell 5
      have y6 : wr.cell? ⟨w.heap.size + 1, 6, none⟩ = some (.int .i64 (-1)) := hat.cell 6
      have y7 : wr.cell? ⟨w.heap.size + 1, 7, none⟩ = some (.int .i64 0) := hat.cell 7
      have y8 : wr.cell? ⟨w.heap.size + 1, 8, none⟩ = some (.int .i64 0) := hat.cell 8
      have z0 : wr.cell? ⟨w.heap.size, 0, none⟩ = some (.int .i64 0) := hre.cell 0
      have z1 : wr.cell? ⟨w.heap.size, 1, none⟩ = some (.string ⟨#[]⟩) := hre.cell 1
      have z2 : wr.cell? ⟨w.heap.size, 2, none⟩ = some (.int .i64 0) := hre.cell 2
      have z3 : wr.cell? ⟨w.heap.size, 3, none⟩ = some (.slice none 0 0) := hre.cell 3
      have z4 : wr.cell? ⟨w.heap.size, 4, none⟩ = some (.string ⟨#[]⟩) := hre.cell 4
      have z5 : wr.cell? ⟨w.heap.size, 5, none⟩ = some (.string ⟨#[]⟩) := hre.cell 5
      have z6 : wr.cell? ⟨w.heap.size, 6, none⟩ = some (.int .i64 0) := hre.cell 6
      have z7 : wr.cell? ⟨w.heap.size, 7, none⟩ = some (.int .i64 0) := hre.cell 7
      have z8 : wr.cell? ⟨w.heap.size, 8, none⟩ = some (.int .i64 0) := hre.cell 8
      have f0 : ∀ i, wr.frozen? ⟨w.heap.size, i, none⟩ = false := fun i => hre.frozen i
      have hlr := hre.lt
      have HRE := Lib.hid hre
      have HST := Lib.hid (str_own4 ho)
      have HOF := Lib.hid (own_far ho hre (by decide))
      have HO := Lib.hid ho
      clear hat ho hre
      go_wp2_with fail
      refine bodyPost_ret (results_cell_row rfl _ _ w.heap.size 60 _ (0, 0) _ rfl (((((((((HRE.out.put 0 (.int .i64 1)).put 1 (.string ⟨#[112]⟩)).put 2 (.int .i64 pred)).put 3 (.slice A2 vars.length c2)).put 4 (.string ⟨#[]⟩)).put 5 (.string ⟨#[]⟩)).put 6 (.int .i64 (-1))).put 7 (.int .i64 0)).put 8 (.int .i64 0)) Tryd.underlying60 rfl (by kernel_rfl)) rfl ?_
      obtain ⟨hs1, hs2, hs3⟩ := str_own4 (own_putne (p := ⟨w.heap.size, 8, none⟩) (own_putne (p := ⟨w.heap.size, 7, none⟩) (own_putne (p := ⟨w.heap.size, 6, none⟩) (own_putne (p := ⟨w.heap.size, 5, none⟩) (own_putne (p := ⟨w.heap.size, 4, none⟩) (own_putne (p := ⟨w.heap.size, 3, none⟩) (own_putne (p := ⟨w.heap.size, 2, none⟩) (own_putne (p := ⟨w.heap.size, 1, none⟩) (own_putne (p := ⟨w.heap.size, 0, none⟩) HO.out HOF.out (.int .i64 1)) HOF.out (.string ⟨#[112]⟩)) HOF.out (.int .i64 pred)) HOF.out (.slice A2 vars.length c2)) HOF.out (.string ⟨#[]⟩)) HOF.out (.string ⟨#[]⟩)) HOF.out (.int .i64 (-1))) HOF.out (.int .i64 0)) HOF.out (.int .i64 0))
      exact ⟨⟨A2, c2, rfl, hs1, hs2, hs3⟩, (((((((((hw.setCell (p := ⟨w.heap.size, 0, none⟩) (Nat.le_refl _) (.int .i64 1)).setCell (p := ⟨w.heap.size, 1, none⟩) (Nat.le_refl _) (.string ⟨#[112]⟩)).setCell (p := ⟨w.heap.size, 2, none⟩) (Nat.le_refl _) (.int .i64 pred)).setCell (p := ⟨w.heap.size, 3, none⟩) (Nat.le_refl _) (.slice A2 vars.length c2)).setCell (p := ⟨w.heap.size, 4, none⟩) (Nat.le_refl _) (.string ⟨#[]⟩)).setCell (p := ⟨w.heap.size, 5, none⟩) (Nat.le_refl _) (.string ⟨#[]⟩)).setCell (p := ⟨w.heap.size, 6, none⟩) (Nat.le_refl _) (.int .i64 (-1))).setCell (p := ⟨w.heap.size, 7, none⟩) (Nat.le_refl _) (.int .i64 0)).setCell (p := ⟨w.heap.size, 8, none⟩) (Nat.le_refl _) (.int .i64 0))⟩
set_option maxRecDepth 100000 in
theorem int02_any (n : Int) (w : World) : Calls Tryd.prog 22 #[.int .i64 n] w fun e w' => e = .returned (.agg #[.int .i64 1, .int .i64 n, .string ⟨#[]⟩]) ∧ Below w.heap.size w w' := by
  go_enter Tryd.func22, Tryd.ntmps22
  go_wp2_with fail
  refine bodyPost_ret (results_cell_row rfl _ _ w.heap.size 62 _ (0, 0) _ rfl (At.new w _ _) Tryd.underlying62 rfl (by kernel_rfl)) rfl ?_
  exact ⟨rfl, below1 _ _⟩
set_option maxRecDepth 100000 in
theorem sym02_any (s : ByteArray) (w : World) : Calls Tryd.prog 24 #[.string s] w fun e w' => e = .returned (.agg #[.int .i64 2, .int .i64 0, .string s]) ∧ Below w.heap.size w w' := by
  go_enter Tryd.func24, Tryd.ntmps24
  go_wp2_with fail
  refine bodyPost_ret (results_cell_row rfl _ _ w.heap.size 62 _ (0, 0) _ rfl (At.new w _ _) Tryd.underlying62 rfl (by kernel_rfl)) rfl ?_
  exact ⟨rfl, below1 _ _⟩
end Go.Proofs.YtoficnfpoeaccaaDoor
