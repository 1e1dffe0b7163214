/- The reader's functions. -/
import Derived.Test.YtpcmlkpnjimbiaaDoorPRow0
namespace Go.Proofs.YtpcmlkpnjimbiaaDoor
set_option linter.unusedVariables false
set_option linter.unusedSimpArgs false
open Go.RowKit
theorem fun_info : (Tryd.prog.info? 94).map (fun i => (i.zero, i.size, i.bytes)) = some (some (.agg #[.string ⟨#[]⟩, .string ⟨#[]⟩, .int .i64 0, .slice none 0 0, .slice none 0 0, .slice none 0 0, .int .i64 0]), 7, 120) := by kernel_rfl
section
variable {w : World} {rb : Nat} {TA : Option Addr} {tc : Nat} {ts : List Lx.Tok} {sz i : Nat} {o : Outs}
set_option maxHeartbeats 8000000 in
set_option maxRecDepth 100000 in
theorem function_any {B : Nat} {P : Ap.Pg} (h : Rd w rb TA tc ts sz i o) (ho : Outw w B o P) (hB : rb < B) (hBs : B ≤ w.heap.size) (hP : P.funs.length ≤ 100000) (hlt : i < ts.length) : Calls Tryd.prog 52 #[.pointer (some ⟨rb, 0, none⟩)] w (IPost w rb TA tc ts sz B P (fun P x => { P with funs := P.funs ++ [x.ap (offI ts sz)] }) (Px.function (Px.kts ts) i)) := by
 obtain ⟨RR, hRR⟩ : ∃ RR, Px.function (Px.kts ts) i = RR := ⟨_, rfl⟩
 rw [hRR]
 unfold Px.function at hRR
 have HR := Lib.hid h
 have HO := Lib.hid ho
 have HB := Lib.hid hB
 have HBS := Lib.hid hBs
 have HP := Lib.hid hP
 have hi := Lib.hid hlt
 have hl := h.box.lt
 have hlB : rb < w.heap.size := hl
 have hm := Mv.still h (Below.refl _ _)
 clear ho hB hBs hP hlt
 go_enter Tryd.func52, Tryd.ntmps52
 go_wp2_with fail
 obtain ⟨m1, hm0m1⟩ : ∃ m1, i + 1 = m1 := ⟨_, rfl⟩
 have e0m1 : ((i : Nat) : Int) + 1 = (m1 : Int) := by omega
 have wmm1 : IntKind.i64.wrap (m1 : Int) = (m1 : Int) := IntWalk.i64_in _ (by have := h.few; have := hi.out; omega)
 have hmlm1 : m1 ≤ ts.length := by have := hi.out; omega
 try rw [hm0m1] at hRR
 have HC := Lib.hid (offset_any h)
 go_wp2_with (go_at_call 54; refine (HC.out).mono ?_; rintro e W1 ⟨rfl, hn1⟩; have hn1 := Mv.still h hn1; have hr1 := hn1.rd h h.few.2.2; have hm1 := hm.trans hl hn1; clear HC; have r1 := hr1.cells.2.1; have yf := hr1.box.frozen 1; have yl := hr1.box.lt)
 clear r1 yf yl
 have hn2 := Mv.step hr1 (Below.refl _ _) m1
 have hr2 := hn2.rd hr1 hmlm1
 have hm2 := hm1.trans hl hn2
 have hz2 : (W1.setCell ⟨rb, 1, none⟩ (.int .i64 (m1 : Int))).heap.size = W1.heap.size := (by simp : (W1.setCell ⟨rb, 1, none⟩ (.int .i64 (m1 : Int))).heap.size = W1.heap.size).trans rfl
 generalize hw2 : W1.setCell ⟨rb, 1, none⟩ (.int .i64 (m1 : Int)) = W2 at hn2 hr2 hm2 hz2 ⊢
 clear hw2 e0m1 wmm1
 have hq3 : W2.heap.size = W1.heap.size := hz2
 have x_3 := At.newAt hq3 94 #[.string ⟨#[]⟩, .string ⟨#[]⟩, .int .i64 (-1), .slice none 0 0, .slice none 0 0, .slice none 0 0, .int .i64 ((tokAt ts sz i).pos : Int)]
 have hm3 := hm2.trans hl (Mv.still hr2 (below1 W2 (.cells #[.string ⟨#[]⟩, .string ⟨#[]⟩, .int .i64 (-1), .slice none 0 0, .slice none 0 0, .slice none 0 0, .int .i64 ((tokAt ts sz i).pos : Int)] 94)))
 have hr3 := hr2.next (below1 W2 (.cells #[.string ⟨#[]⟩, .string ⟨#[]⟩, .int .i64 (-1), .slice none 0 0, .slice none 0 0, .slice none 0 0, .int .i64 ((tokAt ts sz i).pos : Int)] 94))
 have hBx : w.heap.size ≤ W1.heap.size := by have := hm2.size; omega
 have hnex : W1.heap.size ≠ rb := by have := hr2.box.lt; omega
 generalize hw3 : W2.alloc (.cells #[.string ⟨#[]⟩, .string ⟨#[]⟩, .int .i64 (-1), .slice none 0 0, .slice none 0 0, .slice none 0 0, .int .i64 ((tokAt ts sz i).pos : Int)] 94) = W3 at x_3 hm3 hr3 ⊢
 clear hw3 hq3
 cases hp : Px.word 1 (Px.kts ts) m1 with
 | fail q4 =>
  rw [Px.bind_fail (hp)] at hRR
  subst hRR
  have HC := Lib.hid (pword_any hr3 1 (by omega))
  rw [hp] at HC
  clear hp
  go_wp2_with (go_at_call 43; refine (HC.out).mono ?_; rintro e wF ⟨rfl, hnF, hrF⟩)
  exact ⟨rfl, IPost.failed HR.out HO.out HB.out (hm3.trans hl hnF) hrF⟩
 | ok nm q4 =>
  rw [Px.bind_ok (hp)] at hRR
  try dsimp only at hRR
  have HC := Lib.hid (pword_any hr3 1 (by omega))
  rw [hp] at HC
  have HQ4 := Lib.hid hp
  clear hp
  go_wp2_with (go_at_call 43; refine (HC.out).mono ?_; rintro e W4 ⟨⟨_, rfl, rfl⟩, hn5, hr5⟩; have hm5 := hm3.trans hl hn5; have x_5 := hn5.at x_3 hnex; clear HC; have yx0 := x_5.cell 0; have yx1 := x_5.cell 1; have yx2 := x_5.cell 2; have yx3 := x_5.cell 3; have yx4 := x_5.cell 4; have yx5 := x_5.cell 5; have yx6 := x_5.cell 6; have fx0 := x_5.frozen 0; have fx1 := x_5.frozen 1; have fx2 := x_5.frozen 2; have fx3 := x_5.frozen 3; have fx4 := x_5.frozen 4; have fx5 := x_5.frozen 5; have fx6 := x_5.frozen 6; have ylx := x_5.lt; simp only [List.getElem?_toArray, List.getElem?_cons_zero, List.getElem?_cons_succ] at yx0 yx1 yx2 yx3 yx4 yx5 yx6)
  clear yx0 fx0 yx1 fx1 yx2 fx2 yx3 fx3 yx4 fx4 yx5 fx5 yx6 fx6 ylx
  have x_6 := (x_5.put 0 (.string (bs nm)))
  simp only [List.setIfInBounds_toArray, List.set_cons_zero, List.set_cons_succ] at x_6
  have hm6 := hm5.after ((Below.refl (W1.heap.size) W4).setCell (p := ⟨W1.heap.size, 0, none⟩) (Nat.le_refl _) (.string (bs nm))) hBx
  have hr6 := hm6.rd HR.out hr5.few.2.2
  have hz6 : (W4.setCell ⟨W1.heap.size, 0, none⟩ (.string (bs nm))).heap.size = W4.heap.size := (by simp : (W4.setCell ⟨W1.heap.size, 0, none⟩ (.string (bs nm))).heap.size = W4.heap.size).trans rfl
  generalize hw6 : (W4.setCell ⟨W1.heap.size, 0, none⟩ (.string (bs nm))) = W5 at x_6 hm6 hr6 hz6 ⊢
  clear hw6
  cases hp : Px.need Px.sOn (Px.kts ts) q4 with
  | fail q7 =>
   rw [Px.bind_fail (hp)] at hRR
   subst hRR
   have HC := Lib.hid (need_any hr6 Px.sOn (by decide))
   rw [hp] at HC
   clear hp
   go_wp2_with (go_at_call 55; refine (HC.out).mono ?_; rintro e wF ⟨rfl, hnF, hrF⟩)
   exact ⟨rfl, IPost.failed HR.out HO.out HB.out (hm6.trans hl hnF) hrF⟩
  | ok u q7 =>
   rw [Px.bind_ok (hp)] at hRR
   try dsimp only at hRR
   have HC := Lib.hid (need_any hr6 Px.sOn (by decide))
   rw [hp] at HC
   have HQ7 := Lib.hid hp
   clear hp
   go_wp2_with (go_at_call 55; refine (HC.out).mono ?_; rintro e W6 ⟨⟨_, rfl, rfl⟩, hn8, hr8⟩; have hm8 := hm6.trans hl hn8; have x_8 := hn8.at x_6 hnex; clear HC)
   cases hp : Px.word 1 (Px.kts ts) q7 with
   | fail q9 =>
    rw [Px.bind_fail (hp)] at hRR
    subst hRR
    have HC := Lib.hid (pword_any hr8 1 (by omega))
    rw [hp] at HC
    clear hp
    go_wp2_with (go_at_call 43; refine (HC.out).mono ?_; rintro e wF ⟨rfl, hnF, hrF⟩)
    exact ⟨rfl, IPost.failed HR.out HO.out HB.out (hm8.trans hl hnF) hrF⟩
   | ok lt q9 =>
    rw [Px.bind_ok (hp)] at hRR
    try dsimp only at hRR
    have HC := Lib.hid (pword_any hr8 1 (by omega))
    rw [hp] at HC
    have HQ9 := Lib.hid hp
    clear hp
    go_wp2_with (go_at_call 43; refine (HC.out).mono ?_; rintro e W7 ⟨⟨_, rfl, rfl⟩, hn10, hr10⟩; have hm10 := hm8.trans hl hn10; have x_10 := hn10.at x_8 hnex; clear HC; have yx0 := x_10.cell 0; have yx1 := x_10.cell 1; have yx2 := x_10.cell 2; have yx3 := x_10.cell 3; have yx4 := x_10.cell 4; have yx5 := x_10.cell 5; have yx6 := x_10.cell 6; have fx0 := x_10.frozen 0; have fx1 := x_10.frozen 1; have fx2 := x_10.frozen 2; have fx3 := x_10.frozen 3; have fx4 := x_10.frozen 4; have fx5 := x_10.frozen 5; have fx6 := x_10.frozen 6; have ylx := x_10.lt; simp only [List.getElem?_toArray, List.getElem?_cons_zero, List.getElem?_cons_succ] at yx0 yx1 yx2 yx3 yx4 yx5 yx6)
    clear yx0 fx0 yx1 fx1 yx2 fx2 yx3 fx3 yx4 fx4 yx5 fx5 yx6 fx6 ylx
    have x_11 := (x_10.put 1 (.string (bs lt)))
    simp only [List.setIfInBounds_toArray, List.set_cons_zero, List.set_cons_succ] at x_11
    have hm11 := hm10.after ((Below.refl (W1.heap.size) W7).setCell (p := ⟨W1.heap.size, 1, none⟩) (Nat.le_refl _) (.string (bs lt))) hBx
    have hr11 := hm11.rd HR.out hr10.few.2.2
    have hz11 : (W7.setCell ⟨W1.heap.size, 1, none⟩ (.string (bs lt))).heap.size = W7.heap.size := (by simp : (W7.setCell ⟨W1.heap.size, 1, none⟩ (.string (bs lt))).heap.size = W7.heap.size).trans rfl
    generalize hw11 : (W7.setCell ⟨W1.heap.size, 1, none⟩ (.string (bs lt))) = W8 at x_11 hm11 hr11 hz11 ⊢
    clear hw11
    cases hp : Px.need [123] (Px.kts ts) q9 with
    | fail q12 =>
     rw [Px.bind_fail (hp)] at hRR
     subst hRR
     have HC := Lib.hid (need_any hr11 [123] (by decide))
     rw [hp] at HC
     clear hp
     go_wp2_with (go_at_call 55; refine (HC.out).mono ?_; rintro e wF ⟨rfl, hnF, hrF⟩)
     exact ⟨rfl, IPost.failed HR.out HO.out HB.out (hm11.trans hl hnF) hrF⟩
    | ok u q12 =>
     rw [Px.bind_ok (hp)] at hRR
     try dsimp only at hRR
     have HC := Lib.hid (need_any hr11 [123] (by decide))
     rw [hp] at HC
     have HQ12 := Lib.hid hp
     clear hp
     go_wp2_with (go_at_call 55; refine (HC.out).mono ?_; rintro e W9 ⟨⟨_, rfl, rfl⟩, hn13, hr13⟩; have hm13 := hm11.trans hl hn13; have x_13 := hn13.at x_11 hnex; clear HC)
     have hL0 : Px.bind (Px.funB 4000 [] []) (fun b => Px.ret ⟨nm, lt, b.1, b.2, i⟩) (Px.kts ts) q12 = RR := hRR
     have HL0 := Lib.hid hL0
     clear hL0 hRR
     have HB0 := Lib.hid hBx
     go_loopw [] (fun wr => ∃ (xs ys : List (List UInt8)) (f j : Nat) (fA tA : Option Addr) (fC tC : Nat), At wr (W1.heap.size) 94 #[.string (bs nm), .string (bs lt), .int .i64 (-1), .slice fA xs.length fC, .slice tA ys.length tC, .slice none 0 0, .int .i64 ((tokAt ts sz i).pos : Int)] ∧ wr.ownsRow w.heap.size 9 1 (.slice fA xs.length fC) xs.length (sCells xs) ∧ wr.ownsRow w.heap.size 9 1 (.slice tA ys.length tC) ys.length (sCells ys) ∧ Hid (Apart (.slice fA xs.length fC) (.slice tA ys.length tC)) ∧ xs.length ≤ j ∧ ys.length ≤ j ∧ ts.length + 1 ≤ f + j ∧ Hid (Px.bind (Px.funB f xs ys) (fun b => Px.ret ⟨nm, lt, b.1, b.2, i⟩) (Px.kts ts) j = RR) ∧ Mv rb j w wr ∧ Rd wr rb TA tc ts sz j o) (fun wr => ts.length - rdAt rb wr)
     case atStart => exact ⟨[], [], 4000, q12, none, none, 0, 0, x_13, World.ownsRow_nil _ _ _ _, World.ownsRow_nil _ _ _ _, Lib.hid (Apart.nil _ _ _), by simp, by simp, (by have := HR.out.few; omega), HL0, hm13, hr13⟩
     case round =>
      clear hm13 hr13 HL0 x_13
      obtain ⟨xs, ys, f, j, fA, tA, fC, tC, x_200, fr_200, to_200, HAP, hxl, hyl, hfj, HL, hm200, hr200⟩ := hrel
      obtain ⟨f, rfl⟩ : ∃ f2, f = f2 + 1 := ⟨f - 1, by have := hr200.few.2.2; omega⟩
      have HLEN := Lib.hid (show xs.length ≤ 3000 ∧ ys.length ≤ 3000 from ⟨by have := hr200.few; omega, by have := hr200.few; omega⟩)
      have hRR := HL.out
      clear HL
      have hrd := Lib.hid (rdAt_rd hr200)
      have HJL := Lib.hid hfj
      clear hfj
      by_cases hx : Px.tx (Px.kts ts) j = [125]
      ·skip
       rw [Px.bind_ok (show Px.funB (f + 1) xs ys (Px.kts ts) j = .ok (xs, ys) (j + 1) from if_pos hx)] at hRR
       try dsimp only at hRR
       have HC0 := take_any hr200 [125] (by decide)
       rw [show Px.take [125] (Px.kts ts) j = .ok true (j + 1) from if_pos hx] at HC0
       have HC := Lib.hid HC0
       clear HC0 hx
       go_wp2_with (go_at_call 42; refine (HC.out).mono ?_; rintro e W201 ⟨⟨_, rfl, rfl⟩, hn201, hr201⟩; have hm201 := hm200.trans hl hn201; have x_201 := hn201.at x_200 hnex; have fr_201 := own_mv hlB fr_200 hn201; have to_201 := own_mv hlB to_200 hn201; clear HC)
       have hoW := HO.out.mv HB.out HR.out.box hm201
       obtain ⟨rows, hrows, hrr⟩ := hoW.funs
       have HOW := Lib.hid hoW
       have HROWS := Lib.hid hrows
       have HRR2 := Lib.hid hrr
       have HXR := Lib.hid (show FuR W201 [.string (bs nm), .string (bs lt), .int .i64 (-1), .slice fA xs.length fC, .slice tA ys.length tC, .slice none 0 0, .int .i64 ((tokAt ts sz i).pos : Int)] ((⟨nm, lt, xs, ys, i⟩ : Px.Fu).ap (offI ts sz)) from ⟨_, _, _, rfl, TRow.of_own fr_201, TRow.of_own to_201, TRow.nil _ _ _⟩)
       have HBX := Lib.hid hr201.box
       have HAX := Lib.hid x_201
       obtain ⟨iT, hi0, hi1, hi2, hi3⟩ := info_parts fun_info
       have HNB : Hid (some (W1.heap.size) ≠ Value.ownBlock (.slice o.f.a o.f.n o.f.c)) := Lib.hid (fun e => by
        obtain ⟨rows0, h0, _⟩ := HO.out.funs
        have h1 := (own_lt h0 e.symm).2
        have h2 := HB0.out
        omega)
       clear hoW hrows hrr
       refine' wp_region_chain 9 2 _ ([none, none, none, none, none, none, none, some 0, some 1] : List (Option Nat)) (fun p x W => match p with | 0 => (At W rb 87 (rdc TA ts.length tc (j + 1) sz o) ∧ At W (W1.heap.size) 94 #[.string (bs nm), .string (bs lt), .int .i64 (-1), .slice fA xs.length fC, .slice tA ys.length tC, .slice none 0 0, .int .i64 ((tokAt ts sz i).pos : Int)]) ∧ Below W201.heap.size W201 W | 1 => (At W rb 87 (rdc TA ts.length tc (j + 1) sz o) ∧ At W (W1.heap.size) 94 #[.string (bs nm), .string (bs lt), .int .i64 (-1), .slice fA xs.length fC, .slice tA ys.length tC, .slice none 0 0, .int .i64 ((tokAt ts sz i).pos : Int)]) ∧ ∃ bb, x = .slice (some ⟨bb, 0, none⟩) 1 1 ∧ At W bb 94 #[.string (bs nm), .string (bs lt), .int .i64 (-1), .slice fA xs.length fC, .slice tA ys.length tC, .slice none 0 0, .int .i64 ((tokAt ts sz i).pos : Int)] ∧ Below W201.heap.size W201 W | _ => (At W rb 87 (rdc TA ts.length tc (j + 1) sz o) ∧ At W (W1.heap.size) 94 #[.string (bs nm), .string (bs lt), .int .i64 (-1), .slice fA xs.length fC, .slice tA ys.length tC, .slice none 0 0, .int .i64 ((tokAt ts sz i).pos : Int)]) ∧ ∃ WG, Below W201.heap.size W201 WG ∧ WG.ownsRow B 94 7 (.slice o.f.a o.f.n o.f.c) P.funs.length rows.flatten ∧ WG.grownBy W (Value.ownBlock (.slice o.f.a o.f.n o.f.c)) ∧ W.ownsRow B 94 7 x (P.funs.length + 1) (rows.flatten ++ [.string (bs nm), .string (bs lt), .int .i64 (-1), .slice fA xs.length fC, .slice tA ys.length tC, .slice none 0 0, .int .i64 ((tokAt ts sz i).pos : Int)])) (fun W => (At W rb 87 (rdc TA ts.length tc (j + 1) sz o) ∧ At W (W1.heap.size) 94 #[.string (bs nm), .string (bs lt), .int .i64 (-1), .slice fA xs.length fC, .slice tA ys.length tC, .slice none 0 0, .int .i64 ((tokAt ts sz i).pos : Int)])) (Pv :: Pv :: Pv :: Pv :: Pv :: Pv :: Pv :: Fv :: Fv :: []) ?hF (by kernel_rfl) (by kernel_rfl) (by kernel_rfl) (of_decide_eq_true (by kernel_rfl)) (by kernel_rfl) (by kernel_rfl) (by kernel_rfl) (by kernel_rfl) (by kernel_rfl) ?hW ?hJ ?hops ?htail
       case hF => (intro v; simp only [over, Act.put, List.setIfInBounds_toArray, List.set_cons_zero, List.set_cons_succ, Nat.zero_add, Nat.reduceAdd]; exact rfl)
       case hW =>
        intro _
        have hbN : Below W201.heap.size W201 W201.drew := (Below.refl W201.heap.size W201).drew
        exact ⟨⟨HBX.out.next hbN, HAX.out.next hbN⟩, hbN⟩
       case hJ =>
        intro p x W2 h
        match p, h with
        | 0, h => exact h.1
        | 1, h => exact h.1
        | _ + 2, h => exact h.1
       case hops =>
        refine ⟨?_, ?_⟩
        ·intro v w' hj hd K hK
         have hk := hK.out
         simp only [Act.put, List.setIfInBounds_toArray, List.set_cons_zero, List.set_cons_succ] at hk
         have HK := Lib.hid hk
         clear hd hk hK
         go_simp
         exact HK.out _ (show _ = _ from rfl)
        refine ⟨?_, ?_⟩
        ·intro v w' hj hd K hK
         have hk := hK.out
         simp only [Act.put, List.setIfInBounds_toArray, List.set_cons_zero, List.set_cons_succ] at hk
         have HK := Lib.hid hk
         clear hd hk hK
         go_simp
         exact HK.out _ (show _ = _ from rfl)
        refine ⟨?_, ?_⟩
        ·intro v w' hj hd K hK
         have t1 : v 1 = _ := hd.out 1 (by kernel_rfl) rfl
         have hk := hK.out
         simp only [t1, Act.put, List.setIfInBounds_toArray, List.set_cons_zero, List.set_cons_succ] at hk
         have HK := Lib.hid hk
         clear hd hk hK
         go_simp
         exact HK.out _ (show _ = _ from rfl)
        refine ⟨?_, ?_⟩
        ·intro v w' hj hd K hK
         have t2 : v 2 = _ := hd.out 2 (by kernel_rfl) rfl
         have hk := hK.out
         simp only [t2, Act.put, List.setIfInBounds_toArray, List.set_cons_zero, List.set_cons_succ] at hk
         have HK := Lib.hid hk
         clear hd hk hK
         go_simp
         exact HK.out _ (show _ = _ from rfl)
        refine ⟨?_, ?_⟩
        ·intro v w' hj hd K hK
         have t3 : v 3 = _ := hd.out 3 (by kernel_rfl) rfl
         have hk := hK.out
         simp only [t3, Act.put, List.setIfInBounds_toArray, List.set_cons_zero, List.set_cons_succ] at hk
         have HK := Lib.hid hk
         clear hd hk hK
         go_simp
         exact HK.out _ (show _ = _ from rfl)
        refine ⟨?_, ?_⟩
        ·intro v w' hj hd K hK
         have t4 : v 4 = _ := hd.out 4 (by kernel_rfl) rfl
         have yx : w'.cell? ⟨rb, 4, none⟩ = some (.slice o.f.a o.f.n o.f.c) := hj.out.1.cell 4
         have hk := hK.out
         simp only [t4, Act.put, List.setIfInBounds_toArray, List.set_cons_zero, List.set_cons_succ] at hk
         have HK := Lib.hid hk
         clear hd hk hK
         go_simp
         exact HK.out _ (show _ = _ from rfl)
        refine ⟨?_, ?_⟩
        ·intro v w' hj hd K hK
         have yx0 := hj.out.2.cell 0
         have yx1 := hj.out.2.cell 1
         have yx2 := hj.out.2.cell 2
         have yx3 := hj.out.2.cell 3
         have yx4 := hj.out.2.cell 4
         have yx5 := hj.out.2.cell 5
         have yx6 := hj.out.2.cell 6
         simp only [List.getElem?_toArray, List.getElem?_cons_zero, List.getElem?_cons_succ] at yx0 yx1 yx2 yx3 yx4 yx5 yx6
         have hk := hK.out
         simp only [Act.put, List.setIfInBounds_toArray, List.set_cons_zero, List.set_cons_succ] at hk
         have HK := Lib.hid hk
         clear hd hk hK
         go_simp
         exact HK.out _ (show _ = _ from rfl)
        refine ⟨?_, ?_⟩
        ·intro v w' x hw hx hd K hK
         have t6 : v 6 = _ := hd.out 6 (by kernel_rfl) rfl
         have hk := hK.out
         simp only [t6, Act.put, List.setIfInBounds_toArray, List.set_cons_zero, List.set_cons_succ] at hk
         have HK := Lib.hid hk
         obtain ⟨hj, hb0⟩ := hw.out
         clear hd hk hK
         go_simp
         have hbN : Below W201.heap.size W201 (w'.alloc (.cells #[.string (bs nm), .string (bs lt), .int .i64 (-1), .slice fA xs.length fC, .slice tA ys.length tC, .slice none 0 0, .int .i64 ((tokAt ts sz i).pos : Int)] 94)) := hb0.alloc hb0.size _
         exact HK.out _ _ ⟨⟨HBX.out.next hbN, HAX.out.next hbN⟩, _, rfl, At.new _ _ _, hbN⟩
        refine ⟨?_, ?_⟩
        ·intro v w' x hw hx hd K hK
         have t5 : v 5 = _ := hd.out 5 (by kernel_rfl) rfl
         have t7 : v 7 = x := hx.out 7 _ rfl rfl
         have hk := hK.out
         rw [if_pos (show Region.wanted _ _ = true from rfl)]
         simp only [t5, t7] at hk ⊢
         have HK := Lib.hid hk
         obtain ⟨hj, bb, rfl, hbb, hb0⟩ := hw.out
         have hoN := own_below HROWS.out hb0
         clear hx hd hw
         refine wp_append_keep (.tmp 49) (.tmp 51) 30 rfl B 94 iT (.agg #[.string ⟨#[]⟩, .string ⟨#[]⟩, .int .i64 0, .slice none 0 0, .slice none 0 0, .slice none 0 0, .int .i64 0]) 7 120 Tryd.underlying30 hi0 hi1 hi2 hi3 rfl (by decide) _ P.funs.length rows.flatten rfl hoN ⟨bb, 0, none⟩ 1 1 [.string (bs nm), .string (bs lt), .int .i64 (-1), .slice fA xs.length fC, .slice tA ys.length tC, .slice none 0 0, .int .i64 ((tokAt ts sz i).pos : Int)] rfl rfl (At.news hbb) (by intro u hu; simp at hu; rcases hu with rfl | rfl | rfl | rfl | rfl | rfl | rfl <;> rfl) (by have := HP.out; unfold maxLen; omega) (by have := HP.out; omega) (Nat.le_trans HBS.out (Nat.le_trans hm201.size hb0.size)) fun v5 w5 o5 o6 g5 => ?_
         exact HK.out _ _ ⟨⟨hj.1.grown g5 (own_far hoN hj.1 (by decide)), hj.2.grown g5 HNB.out⟩, w', hb0, hoN, g5, o5⟩
        trivial
       case htail =>
        intro v w' x hw hx hd
        have t0 : v 0 = _ := hd.out 0 (by decide) rfl
        have t8 : v 8 = x := hx.out 8 _ rfl rfl
        simp only [t0, t8, List.drop_succ_cons, List.drop_zero]
        clear hx hd t0 t8
        obtain ⟨⟨hbx9, hax9⟩, WG, h91, h92, h93, h95⟩ := hw.out
        obtain ⟨A9, c9, rfl⟩ := own_len h95
        have y9 := hbx9.cell 4
        have f9 := hbx9.frozen 4
        have l9 := hbx9.lt
        clear hw
        go_wp2_with fail
        obtain ⟨e1, e2, e3, e4⟩ := end_funs (x := (⟨nm, lt, xs, ys, i⟩ : Px.Fu).ap (offI ts sz)) hr201 HOW.out HB.out h91 h92 HRR2.out h93 h95 HXR.out
        subst hRR
        first
         | go_end0
         | refine bodyPost_ret (results_none rfl _ _ _) rfl ?_
        exact ⟨rfl, (hm201.belowR hl).trans e3, (KeptX.mv HR.out hm201).trans e4, _, e1, e2⟩
      ·skip
       rw [Px.bind_at (show Px.funB (f + 1) xs ys (Px.kts ts) j = Px.bind (Px.word 1) (fun a => Px.bind (Px.need [45, 62]) fun _ => Px.bind (Px.word 1) fun b => Px.bind (Px.need [59]) fun _ => Px.funB f (xs ++ [a]) (ys ++ [b])) (Px.kts ts) j from if_neg hx)] at hRR
       simp only [Px.bind_assoc] at hRR
       have HC0 := take_any hr200 [125] (by decide)
       rw [show Px.take [125] (Px.kts ts) j = .ok false j from if_neg hx] at HC0
       have HC := Lib.hid HC0
       clear HC0 hx
       go_wp2_with (go_at_call 42; refine (HC.out).mono ?_; rintro e W201 ⟨⟨_, rfl, rfl⟩, hn201, hr201⟩; have hm201 := hm200.trans hl hn201; have x_201 := hn201.at x_200 hnex; have fr_201 := own_mv hlB fr_200 hn201; have to_201 := own_mv hlB to_200 hn201; clear HC)
       cases hp : Px.word 1 (Px.kts ts) j with
       | fail q9 =>
        rw [Px.bind_fail hp] at hRR
        subst hRR
        have HC0 := fun W2 (hr2 : Rd W2 rb TA tc ts sz j o) => pword_any hr2 1 (by omega)
        rw [hp] at HC0
        have HC := Lib.hid HC0
        have HQW201 := Lib.hid hp
        clear HC0 hp
        have HXA := Lib.hid x_201
        have HAR := Lib.hid fr_201
        obtain ⟨iT, hi0, hi1, hi2, hi3⟩ := info_parts str_info
        refine' wp_region_chain 6 3 _ ([none, none, none, some 0, some 1, some 2] : List (Option Nat)) (fun p x W => match p with | 0 => At W (W1.heap.size) 94 #[.string (bs nm), .string (bs lt), .int .i64 (-1), .slice fA xs.length fC, .slice tA ys.length tC, .slice none 0 0, .int .i64 ((tokAt ts sz i).pos : Int)] ∧ Mv rb j W201 W | 1 => False | 2 => False | _ => False) (fun W => At W (W1.heap.size) 94 #[.string (bs nm), .string (bs lt), .int .i64 (-1), .slice fA xs.length fC, .slice tA ys.length tC, .slice none 0 0, .int .i64 ((tokAt ts sz i).pos : Int)]) (Pv :: Pv :: Pv :: Fv :: Fv :: Fv :: []) ?hF (by kernel_rfl) (by kernel_rfl) (by kernel_rfl) (of_decide_eq_true (by kernel_rfl)) (by kernel_rfl) (by kernel_rfl) (by kernel_rfl) (by kernel_rfl) (by kernel_rfl) ?hW ?hJ ?hops ?htail
        case hF => (intro v; simp only [over, Act.put, List.setIfInBounds_toArray, List.set_cons_zero, List.set_cons_succ, Nat.zero_add, Nat.reduceAdd]; exact rfl)
        case hW =>
         intro _
         have hN := Mv.still hr201 ((Below.refl W201.heap.size W201).drew)
         exact ⟨hN.at HXA.out hnex, hN⟩
        case hJ =>
         intro p x W2 h
         match p, h with
         | 0, h => exact h.1
         | 1, h => exact h.elim
         | 2, h => exact h.elim
         | _ + 3, h => exact h.elim
        case hops =>
         refine ⟨?_, ?_⟩
         ·intro v w' hj hd K hK
          have hk := hK.out
          simp only [Act.put, List.setIfInBounds_toArray, List.set_cons_zero, List.set_cons_succ] at hk
          have HK := Lib.hid hk
          clear hd hk hK
          go_simp
          exact HK.out _ (show _ = _ from rfl)
         refine ⟨?_, ?_⟩
         ·intro v w' hj hd K hK
          have t0 : v 0 = _ := hd.out 0 (by kernel_rfl) rfl
          have yx := hj.out.cell 3
          simp only [List.getElem?_toArray, List.getElem?_cons_zero, List.getElem?_cons_succ] at yx
          have hk := hK.out
          simp only [t0, Act.put, List.setIfInBounds_toArray, List.set_cons_zero, List.set_cons_succ] at hk
          have HK := Lib.hid hk
          clear hd hk hK
          go_simp
          exact HK.out _ (show _ = _ from rfl)
         refine ⟨?_, ?_⟩
         ·intro v w' hj hd K hK
          have hk := hK.out
          simp only [Act.put, List.setIfInBounds_toArray, List.set_cons_zero, List.set_cons_succ] at hk
          have HK := Lib.hid hk
          clear hd hk hK
          go_simp
          exact HK.out _ (show _ = _ from rfl)
         refine ⟨?_, ?_⟩
         ·intro v w' x hw hx hd K hK
          have t2 : v 2 = _ := hd.out 2 (by kernel_rfl) rfl
          have hk := hK.out
          simp only [t2, Act.put, List.setIfInBounds_toArray, List.set_cons_zero, List.set_cons_succ] at hk
          have HK := Lib.hid hk
          obtain ⟨hj, hmN⟩ := hw.out
          clear hd hw hx hk hK
          have hrN := hmN.rd hr201 hr201.few.2.2
          go_simp
          go_at_call 43
          refine (HC.out _ hrN).mono ?_
          rintro e wF ⟨rfl, hnF, hrF⟩
          exact ⟨rfl, IPost.failed HR.out HO.out HB.out ((hm201.trans hl hmN).trans hl hnF) hrF⟩
         refine ⟨?_, ?_⟩
         ·intro v w' x hw hx hd K hK
          have t3 : v 3 = x := hx.out 3 _ rfl rfl
          have hk := hK.out
          simp only [t3, Act.put, List.setIfInBounds_toArray, List.set_cons_zero, List.set_cons_succ] at hk
          have HK := Lib.hid hk
          exact hw.out.elim
         refine ⟨?_, ?_⟩
         ·intro v w' x hw hx hd K hK
          have t1 : v 1 = _ := hd.out 1 (by kernel_rfl) rfl
          have t4 : v 4 = x := hx.out 4 _ rfl rfl
          have hk := hK.out
          simp only [t1, t4, Act.put, List.setIfInBounds_toArray, List.set_cons_zero, List.set_cons_succ] at hk
          have HK := Lib.hid hk
          exact hw.out.elim
         trivial
        case htail =>
         intro v w' x hw hx hd
         have t5 : v 5 = x := hx.out 5 _ rfl rfl
         simp only [t5, List.drop_succ_cons, List.drop_zero]
         clear hx hd t5
         exact hw.out.elim
       | ok na q202 =>
        rw [Px.bind_ok hp] at hRR
        try dsimp only at hRR
        have HC0 := fun W2 (hr2 : Rd W2 rb TA tc ts sz j o) => pword_any hr2 1 (by omega)
        rw [hp] at HC0
        have HC := Lib.hid HC0
        have HQW201 := Lib.hid hp
        clear HC0 hp
        have HXA := Lib.hid x_201
        have HAR := Lib.hid fr_201
        obtain ⟨iT, hi0, hi1, hi2, hi3⟩ := info_parts str_info
        refine' wp_region_chain 6 3 _ ([none, none, none, some 0, some 1, some 2] : List (Option Nat)) (fun p x W => match p with | 0 => At W (W1.heap.size) 94 #[.string (bs nm), .string (bs lt), .int .i64 (-1), .slice fA xs.length fC, .slice tA ys.length tC, .slice none 0 0, .int .i64 ((tokAt ts sz i).pos : Int)] ∧ Mv rb j W201 W | 1 => At W (W1.heap.size) 94 #[.string (bs nm), .string (bs lt), .int .i64 (-1), .slice fA xs.length fC, .slice tA ys.length tC, .slice none 0 0, .int .i64 ((tokAt ts sz i).pos : Int)] ∧ x = .string (bs na) ∧ Mv rb q202 W201 W ∧ Rd W rb TA tc ts sz q202 o | 2 => At W (W1.heap.size) 94 #[.string (bs nm), .string (bs lt), .int .i64 (-1), .slice fA xs.length fC, .slice tA ys.length tC, .slice none 0 0, .int .i64 ((tokAt ts sz i).pos : Int)] ∧ ∃ b2, x = .slice (some ⟨b2, 0, none⟩) 1 1 ∧ At W b2 9 #[.string (bs na)] ∧ Mv rb q202 W201 W ∧ Rd W rb TA tc ts sz q202 o | _ => At W (W1.heap.size) 94 #[.string (bs nm), .string (bs lt), .int .i64 (-1), .slice fA xs.length fC, .slice tA ys.length tC, .slice none 0 0, .int .i64 ((tokAt ts sz i).pos : Int)] ∧ W.ownsRow w.heap.size 9 1 x (xs.length + 1) (sCells xs ++ [.string (bs na)]) ∧ Mv rb q202 w W ∧ q202 ≤ ts.length ∧ (∀ q, x.ownBlock = some q → (.slice fA xs.length fC : Value).ownBlock = some q ∨ W201.heap.size ≤ q) ∧ ∃ WG, Mv rb q202 W201 WG ∧ WG.grownBy W (.slice fA xs.length fC : Value).ownBlock) (fun W => At W (W1.heap.size) 94 #[.string (bs nm), .string (bs lt), .int .i64 (-1), .slice fA xs.length fC, .slice tA ys.length tC, .slice none 0 0, .int .i64 ((tokAt ts sz i).pos : Int)]) (Pv :: Pv :: Pv :: Fv :: Fv :: Fv :: []) ?hF (by kernel_rfl) (by kernel_rfl) (by kernel_rfl) (of_decide_eq_true (by kernel_rfl)) (by kernel_rfl) (by kernel_rfl) (by kernel_rfl) (by kernel_rfl) (by kernel_rfl) ?hW ?hJ ?hops ?htail
        case hF => (intro v; simp only [over, Act.put, List.setIfInBounds_toArray, List.set_cons_zero, List.set_cons_succ, Nat.zero_add, Nat.reduceAdd]; exact rfl)
        case hW =>
         intro _
         have hN := Mv.still hr201 ((Below.refl W201.heap.size W201).drew)
         exact ⟨hN.at HXA.out hnex, hN⟩
        case hJ =>
         intro p x W2 h
         match p, h with
         | 0, h => exact h.1
         | 1, h => exact h.1
         | 2, h => exact h.1
         | _ + 3, h => exact h.1
        case hops =>
         refine ⟨?_, ?_⟩
         ·intro v w' hj hd K hK
          have hk := hK.out
          simp only [Act.put, List.setIfInBounds_toArray, List.set_cons_zero, List.set_cons_succ] at hk
          have HK := Lib.hid hk
          clear hd hk hK
          go_simp
          exact HK.out _ (show _ = _ from rfl)
         refine ⟨?_, ?_⟩
         ·intro v w' hj hd K hK
          have t0 : v 0 = _ := hd.out 0 (by kernel_rfl) rfl
          have yx := hj.out.cell 3
          simp only [List.getElem?_toArray, List.getElem?_cons_zero, List.getElem?_cons_succ] at yx
          have hk := hK.out
          simp only [t0, Act.put, List.setIfInBounds_toArray, List.set_cons_zero, List.set_cons_succ] at hk
          have HK := Lib.hid hk
          clear hd hk hK
          go_simp
          exact HK.out _ (show _ = _ from rfl)
         refine ⟨?_, ?_⟩
         ·intro v w' hj hd K hK
          have hk := hK.out
          simp only [Act.put, List.setIfInBounds_toArray, List.set_cons_zero, List.set_cons_succ] at hk
          have HK := Lib.hid hk
          clear hd hk hK
          go_simp
          exact HK.out _ (show _ = _ from rfl)
         refine ⟨?_, ?_⟩
         ·intro v w' x hw hx hd K hK
          have t2 : v 2 = _ := hd.out 2 (by kernel_rfl) rfl
          have hk := hK.out
          simp only [t2, Act.put, List.setIfInBounds_toArray, List.set_cons_zero, List.set_cons_succ] at hk
          have HK := Lib.hid hk
          obtain ⟨hj, hmN⟩ := hw.out
          clear hd hw hx hk hK
          have hrN := hmN.rd hr201 hr201.few.2.2
          go_simp
          go_at_call 43
          refine (HC.out _ hrN).mono ?_
          rintro e wF ⟨⟨_, rfl, rfl⟩, hnF, hrF⟩
          have hN := hmN.trans hr201.box.lt hnF
          exact HK.out _ _ ⟨hN.at HXA.out hnex, rfl, hN, hrF⟩
         refine ⟨?_, ?_⟩
         ·intro v w' x hw hx hd K hK
          have t3 : v 3 = x := hx.out 3 _ rfl rfl
          have hk := hK.out
          simp only [t3, Act.put, List.setIfInBounds_toArray, List.set_cons_zero, List.set_cons_succ] at hk
          have HK := Lib.hid hk
          obtain ⟨hj, rfl, hmN, hrN⟩ := hw.out
          clear hd hw hx hk hK
          go_simp
          have hN := hmN.trans hr201.box.lt (Mv.still hrN (below1 w' (.cells #[.string (bs na)] 9)))
          exact HK.out _ _ ⟨hN.at HXA.out hnex, _, rfl, At.new _ _ _, hN, hrN.next (below1 _ _)⟩
         refine ⟨?_, ?_⟩
         ·intro v w' x hw hx hd K hK
          have t1 : v 1 = _ := hd.out 1 (by kernel_rfl) rfl
          have t4 : v 4 = x := hx.out 4 _ rfl rfl
          have hk := hK.out
          rw [if_pos (show Region.wanted _ _ = true from rfl)]
          simp only [t1, t4] at hk ⊢
          have HK := Lib.hid hk
          obtain ⟨hj, b2, rfl, hb2, hmN, hrN⟩ := hw.out
          have hoN := own_mv hlB HAR.out hmN
          refine wp_append_where (.tmp 27) (.tmp 30) 74 rfl w.heap.size 9 iT (.string ⟨#[]⟩) 1 16 Tryd.underlying74 hi0 hi1 hi2 hi3 rfl (by decide) _ xs.length (sCells xs) rfl hoN ⟨b2, 0, none⟩ 1 1 [.string (bs na)] rfl rfl (At.news hb2) (one1 rfl) (by have := HLEN.out; unfold maxLen; omega) (by have := HLEN.out; omega) (Nat.le_trans hm201.size hmN.size) fun v5 w5 o5 o6 g5 hwh => ?_
          exact HK.out _ _ ⟨hj.grown g5 (own_far hoN hj (by decide)), o5, (hm201.trans hl hmN).grown g5 (fun z hz => (own_lt hoN hz).1), hrN.few.2.2, fun z hz => (hwh z hz).imp id (fun h => Nat.le_trans hmN.size h), w', hmN, g5⟩
         trivial
        case htail =>
         intro v w' x hw hx hd
         have t5 : v 5 = x := hx.out 5 _ rfl rfl
         simp only [t5, List.drop_succ_cons, List.drop_zero]
         clear hx hd t5
         obtain ⟨x_203, fr_203, hm203, hq9, hwh, WG, hm1, hg1⟩ := hw.out
         have hr203 := hm203.rd HR.out hq9
         obtain ⟨nA, nC, rfl⟩ := own_len fr_203
         have to_203 := own_besides (own_mv hlB to_201 hm1) hg1 HAP.out
         have HAP203 := Lib.hid ((HAP.out).grown to_201 (Nat.le_refl _) hwh)
         clear hw
         have yx0 := x_203.cell 0
         have yx1 := x_203.cell 1
         have yx2 := x_203.cell 2
         have yx3 := x_203.cell 3
         have yx4 := x_203.cell 4
         have yx5 := x_203.cell 5
         have yx6 := x_203.cell 6
         have fx0 := x_203.frozen 0
         have fx1 := x_203.frozen 1
         have fx2 := x_203.frozen 2
         have fx3 := x_203.frozen 3
         have fx4 := x_203.frozen 4
         have fx5 := x_203.frozen 5
         have fx6 := x_203.frozen 6
         have ylx := x_203.lt
         simp only [List.getElem?_toArray, List.getElem?_cons_zero, List.getElem?_cons_succ] at yx0 yx1 yx2 yx3 yx4 yx5 yx6
         go_wp2_with fail
         clear yx0 fx0 yx1 fx1 yx2 fx2 yx3 fx3 yx4 fx4 yx5 fx5 yx6 fx6 ylx
         have x_204 := (x_203.put 3 (.slice nA (xs.length + 1) nC))
         simp only [List.setIfInBounds_toArray, List.set_cons_zero, List.set_cons_succ] at x_204
         have hm204 := hm203.after ((Below.refl (W1.heap.size) w').setCell (p := ⟨W1.heap.size, 3, none⟩) (Nat.le_refl _) (.slice nA (xs.length + 1) nC)) HB0.out
         have hr204 := hm204.rd HR.out hr203.few.2.2
         have fr_204 := fr_203
         replace fr_204 := own_putne fr_204 (p := ⟨W1.heap.size, 3, none⟩) (own_far fr_204 x_203 (by decide)) (.slice nA (xs.length + 1) nC)
         have to_204 := to_203
         replace to_204 := own_putne to_204 (p := ⟨W1.heap.size, 3, none⟩) (own_far to_204 x_203 (by decide)) (.slice nA (xs.length + 1) nC)
         have hz204 : (w'.setCell ⟨W1.heap.size, 3, none⟩ (.slice nA (xs.length + 1) nC)).heap.size = w'.heap.size := (by simp : (w'.setCell ⟨W1.heap.size, 3, none⟩ (.slice nA (xs.length + 1) nC)).heap.size = w'.heap.size).trans rfl
         generalize hw204 : (w'.setCell ⟨W1.heap.size, 3, none⟩ (.slice nA (xs.length + 1) nC)) = W203 at x_204 hm204 hr204 fr_204 to_204 hz204 ⊢
         clear hw204
         cases hp : Px.need [45, 62] (Px.kts ts) q202 with
         | fail q205 =>
          rw [Px.bind_fail (hp)] at hRR
          subst hRR
          have HC := Lib.hid (need_any hr204 [45, 62] (by decide))
          rw [hp] at HC
          clear hp
          go_wp2_with (go_at_call 55; refine (HC.out).mono ?_; rintro e wF ⟨rfl, hnF, hrF⟩)
          exact ⟨rfl, IPost.failed HR.out HO.out HB.out (hm204.trans hl hnF) hrF⟩
         | ok u q205 =>
          rw [Px.bind_ok (hp)] at hRR
          try dsimp only at hRR
          have HC := Lib.hid (need_any hr204 [45, 62] (by decide))
          rw [hp] at HC
          have HQ205 := Lib.hid hp
          clear hp
          go_wp2_with (go_at_call 55; refine (HC.out).mono ?_; rintro e W204 ⟨⟨_, rfl, rfl⟩, hn206, hr206⟩; have hm206 := hm204.trans hl hn206; have x_206 := hn206.at x_204 hnex; have fr_206 := own_mv hlB fr_204 hn206; have to_206 := own_mv hlB to_204 hn206; clear HC)
          cases hp : Px.word 1 (Px.kts ts) q205 with
          | fail q9 =>
           rw [Px.bind_fail hp] at hRR
           subst hRR
           have HC0 := fun W2 (hr2 : Rd W2 rb TA tc ts sz q205 o) => pword_any hr2 1 (by omega)
           rw [hp] at HC0
           have HC := Lib.hid HC0
           have HQW206 := Lib.hid hp
           clear HC0 hp
           have HXA := Lib.hid x_206
           have HAR := Lib.hid to_206
           obtain ⟨iT, hi0, hi1, hi2, hi3⟩ := info_parts str_info
           refine' wp_region_chain 6 3 _ ([none, none, none, some 0, some 1, some 2] : List (Option Nat)) (fun p x W => match p with | 0 => At W (W1.heap.size) 94 #[.string (bs nm), .string (bs lt), .int .i64 (-1), .slice nA (xs.length + 1) nC, .slice tA ys.length tC, .slice none 0 0, .int .i64 ((tokAt ts sz i).pos : Int)] ∧ Mv rb q205 W204 W | 1 => False | 2 => False | _ => False) (fun W => At W (W1.heap.size) 94 #[.string (bs nm), .string (bs lt), .int .i64 (-1), .slice nA (xs.length + 1) nC, .slice tA ys.length tC, .slice none 0 0, .int .i64 ((tokAt ts sz i).pos : Int)]) (Pv :: Pv :: Pv :: Fv :: Fv :: Fv :: []) ?hF (by kernel_rfl) (by kernel_rfl) (by kernel_rfl) (of_decide_eq_true (by kernel_rfl)) (by kernel_rfl) (by kernel_rfl) (by kernel_rfl) (by kernel_rfl) (by kernel_rfl) ?hW ?hJ ?hops ?htail
           case hF => (intro v; simp only [over, Act.put, List.setIfInBounds_toArray, List.set_cons_zero, List.set_cons_succ, Nat.zero_add, Nat.reduceAdd]; exact rfl)
           case hW =>
            intro _
            have hN := Mv.still hr206 ((Below.refl W204.heap.size W204).drew)
            exact ⟨hN.at HXA.out hnex, hN⟩
           case hJ =>
            intro p x W2 h
            match p, h with
            | 0, h => exact h.1
            | 1, h => exact h.elim
            | 2, h => exact h.elim
            | _ + 3, h => exact h.elim
           case hops =>
            refine ⟨?_, ?_⟩
            ·intro v w' hj hd K hK
             have hk := hK.out
             simp only [Act.put, List.setIfInBounds_toArray, List.set_cons_zero, List.set_cons_succ] at hk
             have HK := Lib.hid hk
             clear hd hk hK
             go_simp
             exact HK.out _ (show _ = _ from rfl)
            refine ⟨?_, ?_⟩
            ·intro v w' hj hd K hK
             have t0 : v 0 = _ := hd.out 0 (by kernel_rfl) rfl
             have yx := hj.out.cell 4
             simp only [List.getElem?_toArray, List.getElem?_cons_zero, List.getElem?_cons_succ] at yx
             have hk := hK.out
             simp only [t0, Act.put, List.setIfInBounds_toArray, List.set_cons_zero, List.set_cons_succ] at hk
             have HK := Lib.hid hk
             clear hd hk hK
             go_simp
             exact HK.out _ (show _ = _ from rfl)
            refine ⟨?_, ?_⟩
            ·intro v w' hj hd K hK
             have hk := hK.out
             simp only [Act.put, List.setIfInBounds_toArray, List.set_cons_zero, List.set_cons_succ] at hk
             have HK := Lib.hid hk
             clear hd hk hK
             go_simp
             exact HK.out _ (show _ = _ from rfl)
            refine ⟨?_, ?_⟩
            ·intro v w' x hw hx hd K hK
             have t2 : v 2 = _ := hd.out 2 (by kernel_rfl) rfl
             have hk := hK.out
             simp only [t2, Act.put, List.setIfInBounds_toArray, List.set_cons_zero, List.set_cons_succ] at hk
             have HK := Lib.hid hk
             obtain ⟨hj, hmN⟩ := hw.out
             clear hd hw hx hk hK
             have hrN := hmN.rd hr206 hr206.few.2.2
             go_simp
             go_at_call 43
             refine (HC.out _ hrN).mono ?_
             rintro e wF ⟨rfl, hnF, hrF⟩
             exact ⟨rfl, IPost.failed HR.out HO.out HB.out ((hm206.trans hl hmN).trans hl hnF) hrF⟩
            refine ⟨?_, ?_⟩
            ·intro v w' x hw hx hd K hK
             have t3 : v 3 = x := hx.out 3 _ rfl rfl
             have hk := hK.out
             simp only [t3, Act.put, List.setIfInBounds_toArray, List.set_cons_zero, List.set_cons_succ] at hk
             have HK := Lib.hid hk
             exact hw.out.elim
            refine ⟨?_, ?_⟩
            ·intro v w' x hw hx hd K hK
             have t1 : v 1 = _ := hd.out 1 (by kernel_rfl) rfl
             have t4 : v 4 = x := hx.out 4 _ rfl rfl
             have hk := hK.out
             simp only [t1, t4, Act.put, List.setIfInBounds_toArray, List.set_cons_zero, List.set_cons_succ] at hk
             have HK := Lib.hid hk
             exact hw.out.elim
            trivial
           case htail =>
            intro v w' x hw hx hd
            have t5 : v 5 = x := hx.out 5 _ rfl rfl
            simp only [t5, List.drop_succ_cons, List.drop_zero]
            clear hx hd t5
            exact hw.out.elim
          | ok nb q207 =>
           rw [Px.bind_ok hp] at hRR
           try dsimp only at hRR
           have HC0 := fun W2 (hr2 : Rd W2 rb TA tc ts sz q205 o) => pword_any hr2 1 (by omega)
           rw [hp] at HC0
           have HC := Lib.hid HC0
           have HQW206 := Lib.hid hp
           clear HC0 hp
           have HXA := Lib.hid x_206
           have HAR := Lib.hid to_206
           obtain ⟨iT, hi0, hi1, hi2, hi3⟩ := info_parts str_info
           refine' wp_region_chain 6 3 _ ([none, none, none, some 0, some 1, some 2] : List (Option Nat)) (fun p x W => match p with | 0 => At W (W1.heap.size) 94 #[.string (bs nm), .string (bs lt), .int .i64 (-1), .slice nA (xs.length + 1) nC, .slice tA ys.length tC, .slice none 0 0, .int .i64 ((tokAt ts sz i).pos : Int)] ∧ Mv rb q205 W204 W | 1 => At W (W1.heap.size) 94 #[.string (bs nm), .string (bs lt), .int .i64 (-1), .slice nA (xs.length + 1) nC, .slice tA ys.length tC, .slice none 0 0, .int .i64 ((tokAt ts sz i).pos : Int)] ∧ x = .string (bs nb) ∧ Mv rb q207 W204 W ∧ Rd W rb TA tc ts sz q207 o | 2 => At W (W1.heap.size) 94 #[.string (bs nm), .string (bs lt), .int .i64 (-1), .slice nA (xs.length + 1) nC, .slice tA ys.length tC, .slice none 0 0, .int .i64 ((tokAt ts sz i).pos : Int)] ∧ ∃ b2, x = .slice (some ⟨b2, 0, none⟩) 1 1 ∧ At W b2 9 #[.string (bs nb)] ∧ Mv rb q207 W204 W ∧ Rd W rb TA tc ts sz q207 o | _ => At W (W1.heap.size) 94 #[.string (bs nm), .string (bs lt), .int .i64 (-1), .slice nA (xs.length + 1) nC, .slice tA ys.length tC, .slice none 0 0, .int .i64 ((tokAt ts sz i).pos : Int)] ∧ W.ownsRow w.heap.size 9 1 x (ys.length + 1) (sCells ys ++ [.string (bs nb)]) ∧ Mv rb q207 w W ∧ q207 ≤ ts.length ∧ (∀ q, x.ownBlock = some q → (.slice tA ys.length tC : Value).ownBlock = some q ∨ W204.heap.size ≤ q) ∧ ∃ WG, Mv rb q207 W204 WG ∧ WG.grownBy W (.slice tA ys.length tC : Value).ownBlock) (fun W => At W (W1.heap.size) 94 #[.string (bs nm), .string (bs lt), .int .i64 (-1), .slice nA (xs.length + 1) nC, .slice tA ys.length tC, .slice none 0 0, .int .i64 ((tokAt ts sz i).pos : Int)]) (Pv :: Pv :: Pv :: Fv :: Fv :: Fv :: []) ?hF (by kernel_rfl) (by kernel_rfl) (by kernel_rfl) (of_decide_eq_true (by kernel_rfl)) (by kernel_rfl) (by kernel_rfl) (by kernel_rfl) (by kernel_rfl) (by kernel_rfl) ?hW ?hJ ?hops ?htail
           case hF => (intro v; simp only [over, Act.put, List.setIfInBounds_toArray, List.set_cons_zero, List.set_cons_succ, Nat.zero_add, Nat.reduceAdd]; exact rfl)
           case hW =>
            intro _
            have hN := Mv.still hr206 ((Below.refl W204.heap.size W204).drew)
            exact ⟨hN.at HXA.out hnex, hN⟩
           case hJ =>
            intro p x W2 h
            match p, h with
            | 0, h => exact h.1
            | 1, h => exact h.1
            | 2, h => exact h.1
            | _ + 3, h => exact h.1
           case hops =>
            refine ⟨?_, ?_⟩
            ·intro v w' hj hd K hK
             have hk := hK.out
             simp only [Act.put, List.setIfInBounds_toArray, List.set_cons_zero, List.set_cons_succ] at hk
             have HK := Lib.hid hk
             clear hd hk hK
             go_simp
             exact HK.out _ (show _ = _ from rfl)
            refine ⟨?_, ?_⟩
            ·intro v w' hj hd K hK
             have t0 : v 0 = _ := hd.out 0 (by kernel_rfl) rfl
             have yx := hj.out.cell 4
             simp only [List.getElem?_toArray, List.getElem?_cons_zero, List.getElem?_cons_succ] at yx
             have hk := hK.out
             simp only [t0, Act.put, List.setIfInBounds_toArray, List.set_cons_zero, List.set_cons_succ] at hk
             have HK := Lib.hid hk
             clear hd hk hK
             go_simp
             exact HK.out _ (show _ = _ from rfl)
            refine ⟨?_, ?_⟩
            ·intro v w' hj hd K hK
             have hk := hK.out
             simp only [Act.put, List.setIfInBounds_toArray, List.set_cons_zero, List.set_cons_succ] at hk
             have HK := Lib.hid hk
             clear hd hk hK
             go_simp
             exact HK.out _ (show _ = _ from rfl)
            refine ⟨?_, ?_⟩
            ·intro v w' x hw hx hd K hK
             have t2 : v 2 = _ := hd.out 2 (by kernel_rfl) rfl
             have hk := hK.out
             simp only [t2, Act.put, List.setIfInBounds_toArray, List.set_cons_zero, List.set_cons_succ] at hk
             have HK := Lib.hid hk
             obtain ⟨hj, hmN⟩ := hw.out
             clear hd hw hx hk hK
             have hrN := hmN.rd hr206 hr206.few.2.2
             go_simp
             go_at_call 43
             refine (HC.out _ hrN).mono ?_
             rintro e wF ⟨⟨_, rfl, rfl⟩, hnF, hrF⟩
             have hN := hmN.trans hr206.box.lt hnF
             exact HK.out _ _ ⟨hN.at HXA.out hnex, rfl, hN, hrF⟩
            refine ⟨?_, ?_⟩
            ·intro v w' x hw hx hd K hK
             have t3 : v 3 = x := hx.out 3 _ rfl rfl
             have hk := hK.out
             simp only [t3, Act.put, List.setIfInBounds_toArray, List.set_cons_zero, List.set_cons_succ] at hk
             have HK := Lib.hid hk
             obtain ⟨hj, rfl, hmN, hrN⟩ := hw.out
             clear hd hw hx hk hK
             go_simp
             have hN := hmN.trans hr206.box.lt (Mv.still hrN (below1 w' (.cells #[.string (bs nb)] 9)))
             exact HK.out _ _ ⟨hN.at HXA.out hnex, _, rfl, At.new _ _ _, hN, hrN.next (below1 _ _)⟩
            refine ⟨?_, ?_⟩
            ·intro v w' x hw hx hd K hK
             have t1 : v 1 = _ := hd.out 1 (by kernel_rfl) rfl
             have t4 : v 4 = x := hx.out 4 _ rfl rfl
             have hk := hK.out
             rw [if_pos (show Region.wanted _ _ = true from rfl)]
             simp only [t1, t4] at hk ⊢
             have HK := Lib.hid hk
             obtain ⟨hj, b2, rfl, hb2, hmN, hrN⟩ := hw.out
             have hoN := own_mv hlB HAR.out hmN
             refine wp_append_where (.tmp 36) (.tmp 39) 74 rfl w.heap.size 9 iT (.string ⟨#[]⟩) 1 16 Tryd.underlying74 hi0 hi1 hi2 hi3 rfl (by decide) _ ys.length (sCells ys) rfl hoN ⟨b2, 0, none⟩ 1 1 [.string (bs nb)] rfl rfl (At.news hb2) (one1 rfl) (by have := HLEN.out; unfold maxLen; omega) (by have := HLEN.out; omega) (Nat.le_trans hm206.size hmN.size) fun v5 w5 o5 o6 g5 hwh => ?_
             exact HK.out _ _ ⟨hj.grown g5 (own_far hoN hj (by decide)), o5, (hm206.trans hl hmN).grown g5 (fun z hz => (own_lt hoN hz).1), hrN.few.2.2, fun z hz => (hwh z hz).imp id (fun h => Nat.le_trans hmN.size h), w', hmN, g5⟩
            trivial
           case htail =>
            intro v w' x hw hx hd
            have t5 : v 5 = x := hx.out 5 _ rfl rfl
            simp only [t5, List.drop_succ_cons, List.drop_zero]
            clear hx hd t5
            obtain ⟨x_208, to_208, hm208, hq9, hwh, WG, hm1, hg1⟩ := hw.out
            have hr208 := hm208.rd HR.out hq9
            obtain ⟨nA, nC, rfl⟩ := own_len to_208
            have fr_208 := own_besides (own_mv hlB fr_206 hm1) hg1 HAP203.out.symm
            have HAP208 := Lib.hid ((HAP203.out.symm).grown fr_206 (Nat.le_refl _) hwh)
            clear hw
            have yx0 := x_208.cell 0
            have yx1 := x_208.cell 1
            have yx2 := x_208.cell 2
            have yx3 := x_208.cell 3
            have yx4 := x_208.cell 4
            have yx5 := x_208.cell 5
            have yx6 := x_208.cell 6
            have fx0 := x_208.frozen 0
            have fx1 := x_208.frozen 1
            have fx2 := x_208.frozen 2
            have fx3 := x_208.frozen 3
            have fx4 := x_208.frozen 4
            have fx5 := x_208.frozen 5
            have fx6 := x_208.frozen 6
            have ylx := x_208.lt
            simp only [List.getElem?_toArray, List.getElem?_cons_zero, List.getElem?_cons_succ] at yx0 yx1 yx2 yx3 yx4 yx5 yx6
            go_wp2_with fail
            clear yx0 fx0 yx1 fx1 yx2 fx2 yx3 fx3 yx4 fx4 yx5 fx5 yx6 fx6 ylx
            have x_209 := (x_208.put 4 (.slice nA (ys.length + 1) nC))
            simp only [List.setIfInBounds_toArray, List.set_cons_zero, List.set_cons_succ] at x_209
            have hm209 := hm208.after ((Below.refl (W1.heap.size) w').setCell (p := ⟨W1.heap.size, 4, none⟩) (Nat.le_refl _) (.slice nA (ys.length + 1) nC)) HB0.out
            have hr209 := hm209.rd HR.out hr208.few.2.2
            have to_209 := to_208
            replace to_209 := own_putne to_209 (p := ⟨W1.heap.size, 4, none⟩) (own_far to_209 x_208 (by decide)) (.slice nA (ys.length + 1) nC)
            have fr_209 := fr_208
            replace fr_209 := own_putne fr_209 (p := ⟨W1.heap.size, 4, none⟩) (own_far fr_209 x_208 (by decide)) (.slice nA (ys.length + 1) nC)
            have hz209 : (w'.setCell ⟨W1.heap.size, 4, none⟩ (.slice nA (ys.length + 1) nC)).heap.size = w'.heap.size := (by simp : (w'.setCell ⟨W1.heap.size, 4, none⟩ (.slice nA (ys.length + 1) nC)).heap.size = w'.heap.size).trans rfl
            generalize hw209 : (w'.setCell ⟨W1.heap.size, 4, none⟩ (.slice nA (ys.length + 1) nC)) = W206 at x_209 hm209 hr209 to_209 fr_209 hz209 ⊢
            clear hw209
            cases hp : Px.need [59] (Px.kts ts) q207 with
            | fail q210 =>
             rw [Px.bind_fail (hp)] at hRR
             subst hRR
             have HC := Lib.hid (need_any hr209 [59] (by decide))
             rw [hp] at HC
             clear hp
             go_wp2_with (go_at_call 55; refine (HC.out).mono ?_; rintro e wF ⟨rfl, hnF, hrF⟩)
             exact ⟨rfl, IPost.failed HR.out HO.out HB.out (hm209.trans hl hnF) hrF⟩
            | ok u q210 =>
             rw [Px.bind_ok (hp)] at hRR
             try dsimp only at hRR
             have HC := Lib.hid (need_any hr209 [59] (by decide))
             rw [hp] at HC
             have HQ210 := Lib.hid hp
             clear hp
             go_wp2_with (go_at_call 55; refine (HC.out).mono ?_; rintro e W207 ⟨⟨_, rfl, rfl⟩, hn211, hr211⟩; have hm211 := hm209.trans hl hn211; have x_211 := hn211.at x_209 hnex; have to_211 := own_mv hlB to_209 hn211; have fr_211 := own_mv hlB fr_209 hn211; clear HC)
             go_roundw
             case rel => exact ⟨xs ++ [na], ys ++ [nb], f, q210, _, _, _, _, by simpa only [List.length_append, List.length_singleton] using x_211, by simpa only [List.length_append, List.length_singleton, sCells_snoc] using fr_211, by simpa only [List.length_append, List.length_singleton, sCells_snoc] using to_211, by simpa only [List.length_append, List.length_singleton] using Lib.hid HAP208.out.symm, by rw [List.length_append]; simp only [List.length_singleton]; have := Px.word_next HQ4.out; have := Px.need_next HQ7.out; have := Px.word_next HQ9.out; have := Px.need_next HQ12.out; have := Px.word_next HQW201.out; have := Px.need_next HQ205.out; have := Px.word_next HQW206.out; have := Px.need_next HQ210.out; omega, by rw [List.length_append]; simp only [List.length_singleton]; have := Px.word_next HQ4.out; have := Px.need_next HQ7.out; have := Px.word_next HQ9.out; have := Px.need_next HQ12.out; have := Px.word_next HQW201.out; have := Px.need_next HQ205.out; have := Px.word_next HQW206.out; have := Px.need_next HQ210.out; omega, by have := HJL.out; have := Px.word_next HQ4.out; have := Px.need_next HQ7.out; have := Px.word_next HQ9.out; have := Px.need_next HQ12.out; have := Px.word_next HQW201.out; have := Px.need_next HQ205.out; have := Px.word_next HQW206.out; have := Px.need_next HQ210.out; omega, Lib.hid hRR, hm211, hr211⟩
             case measure => rw [hrd.out, rdAt_rd hr211]; have := hr211.few.2.2; have := Px.word_next HQ4.out; have := Px.need_next HQ7.out; have := Px.word_next HQ9.out; have := Px.need_next HQ12.out; have := Px.word_next HQW201.out; have := Px.need_next HQ205.out; have := Px.word_next HQW206.out; have := Px.need_next HQ210.out; omega
end
end Go.Proofs.YtpcmlkpnjimbiaaDoor
