/- The reader's lattices. -/
import Derived.Test.YtpcmlkpnjimbiaaDoorPRow0
namespace Go.Proofs.YtpcmlkpnjimbiaaDoor
set_option linter.unusedVariables false
set_option linter.unusedSimpArgs false
open Go.RowKit
theorem lat_info : (Tryd.prog.info? 77).map (fun i => (i.zero, i.size, i.bytes)) = some (some (.agg #[.string ⟨#[]⟩, .slice none 0 0, .slice none 0 0, .int .i64 0]), 4, 72) := by kernel_rfl
theorem cov_info : (Tryd.prog.info? 116).map (fun i => (i.zero, i.size, i.bytes)) = some (some (.agg #[.int .i64 0, .int .i64 0]), 2, 16) := by kernel_rfl
theorem addE_len (l : List (List UInt8)) (s : List UInt8) : (Px.addE l s).1.length ≤ l.length + 1 := by
 unfold Px.addE
 split <;> simp
section
variable {w : World} {rb : Nat} {TA : Option Addr} {tc : Nat} {ts : List Lx.Tok} {sz i : Nat} {o : Outs}
set_option maxHeartbeats 8000000 in
set_option maxRecDepth 100000 in
theorem lattice_any {B : Nat} {P : Ap.Pg} (h : Rd w rb TA tc ts sz i o) (ho : Outw w B o P) (hB : rb < B) (hBs : B ≤ w.heap.size) (hP : P.lats.length ≤ 100000) (hlt : i < ts.length) : Calls Tryd.prog 51 #[.pointer (some ⟨rb, 0, none⟩)] w (IPost w rb TA tc ts sz B P (fun P x => { P with lats := P.lats ++ [x.ap (offI ts sz)] }) (Px.lattice (Px.kts ts) i)) := by
 obtain ⟨RR, hRR⟩ : ∃ RR, Px.lattice (Px.kts ts) i = RR := ⟨_, rfl⟩
 rw [hRR]
 unfold Px.lattice at hRR
 have HR := Lib.hid h
 have HO := Lib.hid ho
 have HB := Lib.hid hB
 have HBS := Lib.hid hBs
 have HP := Lib.hid hP
 have hi := Lib.hid hlt
 have hl := h.box.lt
 have hlB : rb < w.heap.size := hl
 have hm := Mv.still h (Below.refl _ _)
 clear ho hB hBs hP hlt
 go_enter Tryd.func51, Tryd.ntmps51
 go_wp2_with fail
 obtain ⟨m1, hm0m1⟩ : ∃ m1, i + 1 = m1 := ⟨_, rfl⟩
 have e0m1 : ((i : Nat) : Int) + 1 = (m1 : Int) := by omega
 have wmm1 : IntKind.i64.wrap (m1 : Int) = (m1 : Int) := IntWalk.i64_in _ (by have := h.few; have := hi.out; omega)
 have hmlm1 : m1 ≤ ts.length := by have := hi.out; omega
 try rw [hm0m1] at hRR
 have HC := Lib.hid (offset_any h)
 go_wp2_with (go_at_call 54; refine (HC.out).mono ?_; rintro e W1 ⟨rfl, hn1⟩; have hn1 := Mv.still h hn1; have hr1 := hn1.rd h h.few.2.2; have hm1 := hm.trans hl hn1; clear HC; have r1 := hr1.cells.2.1; have yf := hr1.box.frozen 1; have yl := hr1.box.lt)
 clear r1 yf yl
 have hn2 := Mv.step hr1 (Below.refl _ _) m1
 have hr2 := hn2.rd hr1 hmlm1
 have hm2 := hm1.trans hl hn2
 have hz2 : (W1.setCell ⟨rb, 1, none⟩ (.int .i64 (m1 : Int))).heap.size = W1.heap.size := (by simp : (W1.setCell ⟨rb, 1, none⟩ (.int .i64 (m1 : Int))).heap.size = W1.heap.size).trans rfl
 generalize hw2 : W1.setCell ⟨rb, 1, none⟩ (.int .i64 (m1 : Int)) = W2 at hn2 hr2 hm2 hz2 ⊢
 clear hw2 e0m1 wmm1
 have hq3 : W2.heap.size = W1.heap.size := hz2
 have x_3 := At.newAt hq3 77 #[.string ⟨#[]⟩, .slice none 0 0, .slice none 0 0, .int .i64 ((tokAt ts sz i).pos : Int)]
 have hm3 := hm2.trans hl (Mv.still hr2 (below1 W2 (.cells #[.string ⟨#[]⟩, .slice none 0 0, .slice none 0 0, .int .i64 ((tokAt ts sz i).pos : Int)] 77)))
 have hr3 := hr2.next (below1 W2 (.cells #[.string ⟨#[]⟩, .slice none 0 0, .slice none 0 0, .int .i64 ((tokAt ts sz i).pos : Int)] 77))
 have hBx : w.heap.size ≤ W1.heap.size := by have := hm2.size; omega
 have hnex : W1.heap.size ≠ rb := by have := hr2.box.lt; omega
 generalize hw3 : W2.alloc (.cells #[.string ⟨#[]⟩, .slice none 0 0, .slice none 0 0, .int .i64 ((tokAt ts sz i).pos : Int)] 77) = W3 at x_3 hm3 hr3 ⊢
 clear hw3 hq3
 cases hp : Px.word 1 (Px.kts ts) m1 with
 | fail q4 =>
  rw [Px.bind_fail (hp)] at hRR
  subst hRR
  have HC := Lib.hid (pword_any hr3 1 (by omega))
  rw [hp] at HC
  clear hp
  go_wp2_with (go_at_call 43; refine (HC.out).mono ?_; rintro e wF ⟨rfl, hnF, hrF⟩)
  exact ⟨rfl, IPost.failed HR.out HO.out HB.out (hm3.trans hl hnF) hrF⟩
 | ok nm q4 =>
  rw [Px.bind_ok (hp)] at hRR
  try dsimp only at hRR
  have HC := Lib.hid (pword_any hr3 1 (by omega))
  rw [hp] at HC
  have HQ4 := Lib.hid hp
  clear hp
  go_wp2_with (go_at_call 43; refine (HC.out).mono ?_; rintro e W4 ⟨⟨_, rfl, rfl⟩, hn5, hr5⟩; have hm5 := hm3.trans hl hn5; have x_5 := hn5.at x_3 hnex; clear HC; have yx0 := x_5.cell 0; have yx1 := x_5.cell 1; have yx2 := x_5.cell 2; have yx3 := x_5.cell 3; have fx0 := x_5.frozen 0; have fx1 := x_5.frozen 1; have fx2 := x_5.frozen 2; have fx3 := x_5.frozen 3; have ylx := x_5.lt; simp only [List.getElem?_toArray, List.getElem?_cons_zero, List.getElem?_cons_succ] at yx0 yx1 yx2 yx3)
  clear yx0 fx0 yx1 fx1 yx2 fx2 yx3 fx3 ylx
  have x_6 := (x_5.put 0 (.string (bs nm)))
  simp only [List.setIfInBounds_toArray, List.set_cons_zero, List.set_cons_succ] at x_6
  have hm6 := hm5.after ((Below.refl (W1.heap.size) W4).setCell (p := ⟨W1.heap.size, 0, none⟩) (Nat.le_refl _) (.string (bs nm))) hBx
  have hr6 := hm6.rd HR.out hr5.few.2.2
  have hz6 : (W4.setCell ⟨W1.heap.size, 0, none⟩ (.string (bs nm))).heap.size = W4.heap.size := (by simp : (W4.setCell ⟨W1.heap.size, 0, none⟩ (.string (bs nm))).heap.size = W4.heap.size).trans rfl
  generalize hw6 : (W4.setCell ⟨W1.heap.size, 0, none⟩ (.string (bs nm))) = W5 at x_6 hm6 hr6 hz6 ⊢
  clear hw6
  cases hp : Px.need [123] (Px.kts ts) q4 with
  | fail q7 =>
   rw [Px.bind_fail (hp)] at hRR
   subst hRR
   have HC := Lib.hid (need_any hr6 [123] (by decide))
   rw [hp] at HC
   clear hp
   go_wp2_with (go_at_call 55; refine (HC.out).mono ?_; rintro e wF ⟨rfl, hnF, hrF⟩)
   exact ⟨rfl, IPost.failed HR.out HO.out HB.out (hm6.trans hl hnF) hrF⟩
  | ok u q7 =>
   rw [Px.bind_ok (hp)] at hRR
   try dsimp only at hRR
   have HC := Lib.hid (need_any hr6 [123] (by decide))
   rw [hp] at HC
   have HQ7 := Lib.hid hp
   clear hp
   go_wp2_with (go_at_call 55; refine (HC.out).mono ?_; rintro e W6 ⟨⟨_, rfl, rfl⟩, hn8, hr8⟩; have hm8 := hm6.trans hl hn8; have x_8 := hn8.at x_6 hnex; clear HC)
   have hL0 : Px.bind (Px.latB 4000 [] []) (fun b => Px.ret ⟨nm, b.1, b.2, i⟩) (Px.kts ts) q7 = RR := hRR
   have HL0 := Lib.hid hL0
   clear hL0 hRR
   have HB0 := Lib.hid hBx
   go_loopw [3] (fun _ wr => ∃ (es : List (List UInt8)) (cs : List (Nat × Nat)) (f j : Nat) (eA cA : Option Addr) (eC cC : Nat), At wr (W1.heap.size) 77 #[.string (bs nm), .slice eA es.length eC, .slice cA cs.length cC, .int .i64 ((tokAt ts sz i).pos : Int)] ∧ wr.ownsRow w.heap.size 9 1 (.slice eA es.length eC) es.length (sCells es) ∧ wr.ownsRow w.heap.size 116 2 (.slice cA cs.length cC) cs.length (cvCells (cs.map fun c : Nat × Nat => ((c.1 : Int), (c.2 : Int)))) ∧ es.length ≤ j ∧ cs.length ≤ j ∧ ts.length + 1 ≤ f + j ∧ Hid (Px.bind (Px.latB f es cs) (fun b => Px.ret ⟨nm, b.1, b.2, i⟩) (Px.kts ts) j = RR) ∧ Mv rb j w wr ∧ Rd wr rb TA tc ts sz j o) (fun _ wr => ts.length - rdAt rb wr)
   case atStart => exact ⟨[], [], 4000, q7, none, none, 0, 0, x_8, World.ownsRow_nil _ _ _ _, World.ownsRow_nil _ _ _ _, by simp, by simp, (by have := HR.out.few; omega), HL0, hm8, hr8⟩
   case round =>
    clear hm8 hr8 HL0 x_8
    obtain ⟨es, cs, f, j, eA, cA, eC, cC, x_200, es_200, cv_200, hxl, hyl, hfj, HL, hm200, hr200⟩ := hrel
    obtain ⟨f, rfl⟩ : ∃ f2, f = f2 + 1 := ⟨f - 1, by have := hr200.few.2.2; omega⟩
    have HLEN := Lib.hid (show es.length ≤ j ∧ cs.length ≤ j ∧ j ≤ 3000 from ⟨hxl, hyl, by have := hr200.few; omega⟩)
    have hRR := HL.out
    clear HL hxl hyl
    have hrd := Lib.hid (rdAt_rd hr200)
    have HJL := Lib.hid hfj
    clear hfj
    by_cases hx : Px.tx (Px.kts ts) j = [125]
    ·skip
     rw [Px.bind_ok (show Px.latB (f + 1) es cs (Px.kts ts) j = .ok (es, cs) (j + 1) from if_pos hx)] at hRR
     try dsimp only at hRR
     have HC0 := take_any hr200 [125] (by decide)
     rw [show Px.take [125] (Px.kts ts) j = .ok true (j + 1) from if_pos hx] at HC0
     have HC := Lib.hid HC0
     clear HC0 hx
     go_wp2_with (go_at_call 42; refine (HC.out).mono ?_; rintro e W201 ⟨⟨_, rfl, rfl⟩, hn201, hr201⟩; have hm201 := hm200.trans hl hn201; have x_201 := hn201.at x_200 hnex; have es_201 := own_mv hlB es_200 hn201; have cv_201 := own_mv hlB cv_200 hn201; clear HC)
     have hoW := HO.out.mv HB.out HR.out.box hm201
     obtain ⟨rows, hrows, hrr⟩ := hoW.lats
     have HOW := Lib.hid hoW
     have HROWS := Lib.hid hrows
     have HRR2 := Lib.hid hrr
     have HXR := Lib.hid (show LaR W201 [.string (bs nm), .slice eA es.length eC, .slice cA cs.length cC, .int .i64 ((tokAt ts sz i).pos : Int)] ((⟨nm, es, cs, i⟩ : Px.La).ap (offI ts sz)) from ⟨_, _, rfl, TRow.of_own es_201, (by rw [show ((⟨nm, es, cs, i⟩ : Px.La).ap (offI ts sz)).covers.length = cs.length from List.length_map ..]; exact TRow.of_own cv_201)⟩)
     have HBX := Lib.hid hr201.box
     have HAX := Lib.hid x_201
     obtain ⟨iT, hi0, hi1, hi2, hi3⟩ := info_parts lat_info
     have HNB : Hid (some (W1.heap.size) ≠ Value.ownBlock (.slice o.l.a o.l.n o.l.c)) := Lib.hid (fun e => by
      obtain ⟨rows0, h0, _⟩ := HO.out.lats
      have h1 := (own_lt h0 e.symm).2
      have h2 := HB0.out
      omega)
     clear hoW hrows hrr
     refine' wp_region_chain 9 2 _ ([none, none, none, none, none, none, none, some 0, some 1] : List (Option Nat)) (fun p x W => match p with | 0 => (At W rb 87 (rdc TA ts.length tc (j + 1) sz o) ∧ At W (W1.heap.size) 77 #[.string (bs nm), .slice eA es.length eC, .slice cA cs.length cC, .int .i64 ((tokAt ts sz i).pos : Int)]) ∧ Below W201.heap.size W201 W | 1 => (At W rb 87 (rdc TA ts.length tc (j + 1) sz o) ∧ At W (W1.heap.size) 77 #[.string (bs nm), .slice eA es.length eC, .slice cA cs.length cC, .int .i64 ((tokAt ts sz i).pos : Int)]) ∧ ∃ bb, x = .slice (some ⟨bb, 0, none⟩) 1 1 ∧ At W bb 77 #[.string (bs nm), .slice eA es.length eC, .slice cA cs.length cC, .int .i64 ((tokAt ts sz i).pos : Int)] ∧ Below W201.heap.size W201 W | _ => (At W rb 87 (rdc TA ts.length tc (j + 1) sz o) ∧ At W (W1.heap.size) 77 #[.string (bs nm), .slice eA es.length eC, .slice cA cs.length cC, .int .i64 ((tokAt ts sz i).pos : Int)]) ∧ ∃ WG, Below W201.heap.size W201 WG ∧ WG.ownsRow B 77 4 (.slice o.l.a o.l.n o.l.c) P.lats.length rows.flatten ∧ WG.grownBy W (Value.ownBlock (.slice o.l.a o.l.n o.l.c)) ∧ W.ownsRow B 77 4 x (P.lats.length + 1) (rows.flatten ++ [.string (bs nm), .slice eA es.length eC, .slice cA cs.length cC, .int .i64 ((tokAt ts sz i).pos : Int)])) (fun W => (At W rb 87 (rdc TA ts.length tc (j + 1) sz o) ∧ At W (W1.heap.size) 77 #[.string (bs nm), .slice eA es.length eC, .slice cA cs.length cC, .int .i64 ((tokAt ts sz i).pos : Int)])) (Pv :: Pv :: Pv :: Pv :: Pv :: Pv :: Pv :: Fv :: Fv :: []) ?hF (by kernel_rfl) (by kernel_rfl) (by kernel_rfl) (of_decide_eq_true (by kernel_rfl)) (by kernel_rfl) (by kernel_rfl) (by kernel_rfl) (by kernel_rfl) (by kernel_rfl) ?hW ?hJ ?hops ?htail
     case hF => (intro v; simp only [over, Act.put, List.setIfInBounds_toArray, List.set_cons_zero, List.set_cons_succ, Nat.zero_add, Nat.reduceAdd]; exact rfl)
     case hW =>
      intro _
      have hbN : Below W201.heap.size W201 W201.drew := (Below.refl W201.heap.size W201).drew
      exact ⟨⟨HBX.out.next hbN, HAX.out.next hbN⟩, hbN⟩
     case hJ =>
      intro p x W2 h
      match p, h with
      | 0, h => exact h.1
      | 1, h => exact h.1
      | _ + 2, h => exact h.1
     case hops =>
      refine ⟨?_, ?_⟩
      ·intro v w' hj hd K hK
       have hk := hK.out
       simp only [Act.put, List.setIfInBounds_toArray, List.set_cons_zero, List.set_cons_succ] at hk
       have HK := Lib.hid hk
       clear hd hk hK
       go_simp
       exact HK.out _ (show _ = _ from rfl)
      refine ⟨?_, ?_⟩
      ·intro v w' hj hd K hK
       have hk := hK.out
       simp only [Act.put, List.setIfInBounds_toArray, List.set_cons_zero, List.set_cons_succ] at hk
       have HK := Lib.hid hk
       clear hd hk hK
       go_simp
       exact HK.out _ (show _ = _ from rfl)
      refine ⟨?_, ?_⟩
      ·intro v w' hj hd K hK
       have t1 : v 1 = _ := hd.out 1 (by kernel_rfl) rfl
       have hk := hK.out
       simp only [t1, Act.put, List.setIfInBounds_toArray, List.set_cons_zero, List.set_cons_succ] at hk
       have HK := Lib.hid hk
       clear hd hk hK
       go_simp
       exact HK.out _ (show _ = _ from rfl)
      refine ⟨?_, ?_⟩
      ·intro v w' hj hd K hK
       have t2 : v 2 = _ := hd.out 2 (by kernel_rfl) rfl
       have hk := hK.out
       simp only [t2, Act.put, List.setIfInBounds_toArray, List.set_cons_zero, List.set_cons_succ] at hk
       have HK := Lib.hid hk
       clear hd hk hK
       go_simp
       exact HK.out _ (show _ = _ from rfl)
      refine ⟨?_, ?_⟩
      ·intro v w' hj hd K hK
       have t3 : v 3 = _ := hd.out 3 (by kernel_rfl) rfl
       have hk := hK.out
       simp only [t3, Act.put, List.setIfInBounds_toArray, List.set_cons_zero, List.set_cons_succ] at hk
       have HK := Lib.hid hk
       clear hd hk hK
       go_simp
       exact HK.out _ (show _ = _ from rfl)
      refine ⟨?_, ?_⟩
      ·intro v w' hj hd K hK
       have t4 : v 4 = _ := hd.out 4 (by kernel_rfl) rfl
       have yx : w'.cell? ⟨rb, 3, none⟩ = some (.slice o.l.a o.l.n o.l.c) := hj.out.1.cell 3
       have hk := hK.out
       simp only [t4, Act.put, List.setIfInBounds_toArray, List.set_cons_zero, List.set_cons_succ] at hk
       have HK := Lib.hid hk
       clear hd hk hK
       go_simp
       exact HK.out _ (show _ = _ from rfl)
      refine ⟨?_, ?_⟩
      ·intro v w' hj hd K hK
       have yx0 := hj.out.2.cell 0
       have yx1 := hj.out.2.cell 1
       have yx2 := hj.out.2.cell 2
       have yx3 := hj.out.2.cell 3
       simp only [List.getElem?_toArray, List.getElem?_cons_zero, List.getElem?_cons_succ] at yx0 yx1 yx2 yx3
       have hk := hK.out
       simp only [Act.put, List.setIfInBounds_toArray, List.set_cons_zero, List.set_cons_succ] at hk
       have HK := Lib.hid hk
       clear hd hk hK
       go_simp
       exact HK.out _ (show _ = _ from rfl)
      refine ⟨?_, ?_⟩
      ·intro v w' x hw hx hd K hK
       have t6 : v 6 = _ := hd.out 6 (by kernel_rfl) rfl
       have hk := hK.out
       simp only [t6, Act.put, List.setIfInBounds_toArray, List.set_cons_zero, List.set_cons_succ] at hk
       have HK := Lib.hid hk
       obtain ⟨hj, hb0⟩ := hw.out
       clear hd hk hK
       go_simp
       have hbN : Below W201.heap.size W201 (w'.alloc (.cells #[.string (bs nm), .slice eA es.length eC, .slice cA cs.length cC, .int .i64 ((tokAt ts sz i).pos : Int)] 77)) := hb0.alloc hb0.size _
       exact HK.out _ _ ⟨⟨HBX.out.next hbN, HAX.out.next hbN⟩, _, rfl, At.new _ _ _, hbN⟩
      refine ⟨?_, ?_⟩
      ·intro v w' x hw hx hd K hK
       have t5 : v 5 = _ := hd.out 5 (by kernel_rfl) rfl
       have t7 : v 7 = x := hx.out 7 _ rfl rfl
       have hk := hK.out
       rw [if_pos (show Region.wanted _ _ = true from rfl)]
       simp only [t5, t7] at hk ⊢
       have HK := Lib.hid hk
       obtain ⟨hj, bb, rfl, hbb, hb0⟩ := hw.out
       have hoN := own_below HROWS.out hb0
       clear hx hd hw
       refine wp_append_keep (.tmp 44) (.tmp 46) 29 rfl B 77 iT (.agg #[.string ⟨#[]⟩, .slice none 0 0, .slice none 0 0, .int .i64 0]) 4 72 Tryd.underlying29 hi0 hi1 hi2 hi3 rfl (by decide) _ P.lats.length rows.flatten rfl hoN ⟨bb, 0, none⟩ 1 1 [.string (bs nm), .slice eA es.length eC, .slice cA cs.length cC, .int .i64 ((tokAt ts sz i).pos : Int)] rfl rfl (At.news hbb) (by intro u hu; simp at hu; rcases hu with rfl | rfl | rfl | rfl <;> rfl) (by have := HP.out; unfold maxLen; omega) (by have := HP.out; omega) (Nat.le_trans HBS.out (Nat.le_trans hm201.size hb0.size)) fun v5 w5 o5 o6 g5 => ?_
       exact HK.out _ _ ⟨⟨hj.1.grown g5 (own_far hoN hj.1 (by decide)), hj.2.grown g5 HNB.out⟩, w', hb0, hoN, g5, o5⟩
      trivial
     case htail =>
      intro v w' x hw hx hd
      have t0 : v 0 = _ := hd.out 0 (by decide) rfl
      have t8 : v 8 = x := hx.out 8 _ rfl rfl
      simp only [t0, t8, List.drop_succ_cons, List.drop_zero]
      clear hx hd t0 t8
      obtain ⟨⟨hbx9, hax9⟩, WG, h91, h92, h93, h95⟩ := hw.out
      obtain ⟨A9, c9, rfl⟩ := own_len h95
      have y9 := hbx9.cell 3
      have f9 := hbx9.frozen 3
      have l9 := hbx9.lt
      clear hw
      go_wp2_with fail
      obtain ⟨e1, e2, e3, e4⟩ := end_lats (x := (⟨nm, es, cs, i⟩ : Px.La).ap (offI ts sz)) hr201 HOW.out HB.out h91 h92 HRR2.out h93 h95 HXR.out
      subst hRR
      first
       | go_end0
       | refine bodyPost_ret (results_none rfl _ _ _) rfl ?_
      exact ⟨rfl, (hm201.belowR hl).trans e3, (KeptX.mv HR.out hm201).trans e4, _, e1, e2⟩
    ·skip
     rw [Px.bind_at (show Px.latB (f + 1) es cs (Px.kts ts) j = Px.bind (Px.word 1) (fun a => Px.bind (Px.take [60]) fun c => if c then Px.bind (Px.word 1) fun b => Px.bind (Px.need [59]) fun _ => Px.latB f (Px.addE (Px.addE es a).1 b).1 (cs ++ [((Px.addE es a).2, (Px.addE (Px.addE es a).1 b).2)]) else Px.bind (Px.need [59]) fun _ => Px.latB f (Px.addE es a).1 cs) (Px.kts ts) j from if_neg hx)] at hRR
     simp only [Px.bind_assoc] at hRR
     have HC0 := take_any hr200 [125] (by decide)
     rw [show Px.take [125] (Px.kts ts) j = .ok false j from if_neg hx] at HC0
     have HC := Lib.hid HC0
     clear HC0 hx
     go_wp2_with (go_at_call 42; refine (HC.out).mono ?_; rintro e W201 ⟨⟨_, rfl, rfl⟩, hn201, hr201⟩; have hm201 := hm200.trans hl hn201; have x_201 := hn201.at x_200 hnex; have es_201 := own_mv hlB es_200 hn201; have cv_201 := own_mv hlB cv_200 hn201; clear HC)
     cases hp : Px.word 1 (Px.kts ts) j with
     | fail q202 =>
      rw [Px.bind_fail (hp)] at hRR
      subst hRR
      have HC := Lib.hid (pword_any hr201 1 (by omega))
      rw [hp] at HC
      clear hp
      go_wp2_with (go_at_call 43; refine (HC.out).mono ?_; rintro e wF ⟨rfl, hnF, hrF⟩)
      exact ⟨rfl, IPost.failed HR.out HO.out HB.out (hm201.trans hl hnF) hrF⟩
     | ok na q202 =>
      rw [Px.bind_ok (hp)] at hRR
      try dsimp only at hRR
      have HC := Lib.hid (pword_any hr201 1 (by omega))
      rw [hp] at HC
      have HQ202 := Lib.hid hp
      clear hp
      go_wp2_with (go_at_call 43; refine (HC.out).mono ?_; rintro e W202 ⟨⟨_, rfl, rfl⟩, hn203, hr203⟩; have hm203 := hm201.trans hl hn203; have x_203 := hn203.at x_201 hnex; have es_203 := own_mv hlB es_201 hn203; have cv_203 := own_mv hlB cv_201 hn203; clear HC)
      obtain ⟨e1, k1, hE1⟩ : ∃ e k, Px.addE es na = (e, k) := ⟨_, _, rfl⟩
      simp only [hE1] at hRR
      have HE1 := Lib.hid hE1
      have HC0 := elem_any x_203 es_203 HB0.out hm203.size (by have := HLEN.out; omega) na
      rw [hE1] at HC0
      have HC := Lib.hid HC0
      clear HC0 hE1
      have HL1 := Lib.hid (show e1.length ≤ j + 1 from by have h1 := addE_len es na; rw [HE1.out] at h1; have := HLEN.out; simp only at h1; omega)
      go_wp2_with (go_at_call 79; refine (HC.out).mono ?_; rintro e W203 ⟨rfl, hbE, ⟨eA1, eC1, x_204, es_204⟩, hkE⟩; have hm204 := hm203.after hbE (Nat.le_refl _); have hr204 := hm204.rd HR.out hr203.few.2.2; have cv_204 := own_keptT cv_203 (hkE _ (by decide) (by decide)); clear HC hbE hkE)
      rcases Px.take_two [60] (Px.kts ts) q202 with hp | hp
      ·skip
       rw [Px.bind_ok hp] at hRR
       try dsimp only at hRR
       first | rw [if_pos rfl] at hRR | rw [if_pos trivial] at hRR
       have HC := Lib.hid (take_any hr204 [60] (by decide))
       rw [hp] at HC
       clear hp
       go_wp2_with (go_at_call 42; refine (HC.out).mono ?_; rintro e W204 ⟨⟨_, rfl, rfl⟩, hn205, hr205⟩; have hm205 := hm204.trans hl hn205; have x_205 := hn205.at x_204 hnex; have es_205 := own_mv hlB es_204 hn205; have cv_205 := own_mv hlB cv_204 hn205; clear HC)
       try simp only [Px.bind_assoc] at hRR
       cases hp : Px.word 1 (Px.kts ts) (q202 + 1) with
       | fail q9 =>
        rw [Px.bind_fail hp] at hRR
        subst hRR
        have HC0 := fun W2 (hr2 : Rd W2 rb TA tc ts sz (q202 + 1) o) => pword_any hr2 1 (by omega)
        rw [hp] at HC0
        have HC := Lib.hid HC0
        have HQW205 := Lib.hid hp
        clear HC0 hp
        have HXA := Lib.hid x_205
        have HES := Lib.hid es_205
        have HCV := Lib.hid cv_205
        obtain ⟨iT, hi0, hi1, hi2, hi3⟩ := info_parts cov_info
        refine' wp_region_chain 10 5 _ ([none, none, none, none, some 0, some 1, some 2, some 3, some 4, none] : List (Option Nat)) (fun p x W => match p with | 0 => (∃ ev, At W (W1.heap.size) 77 #[.string (bs nm), ev, .slice cA cs.length cC, .int .i64 ((tokAt ts sz i).pos : Int)]) ∧ Mv rb (q202 + 1) W204 W | 1 => False | 2 => False | 3 => False | 4 => False | _ => False) (fun W => (∃ ev, At W (W1.heap.size) 77 #[.string (bs nm), ev, .slice cA cs.length cC, .int .i64 ((tokAt ts sz i).pos : Int)])) (Pv :: Pv :: Pv :: Pv :: Fv :: Fv :: Fv :: Fv :: Fv :: Pv :: []) ?hF (by kernel_rfl) (by kernel_rfl) (by kernel_rfl) (of_decide_eq_true (by kernel_rfl)) (by kernel_rfl) (by kernel_rfl) (by kernel_rfl) (by kernel_rfl) (by kernel_rfl) ?hW ?hJ ?hops ?htail
        case hF => (intro v; simp only [over, Act.put, List.setIfInBounds_toArray, List.set_cons_zero, List.set_cons_succ, Nat.zero_add, Nat.reduceAdd]; exact rfl)
        case hW =>
         intro _
         have hN := Mv.still hr205 ((Below.refl W204.heap.size W204).drew)
         exact ⟨⟨_, hN.at HXA.out hnex⟩, hN⟩
        case hJ =>
         intro p x W2 h
         match p, h with
         | 0, h => exact h.1
         | 1, h => exact h.elim
         | 2, h => exact h.elim
         | 3, h => exact h.elim
         | 4, h => exact h.elim
         | _ + 5, h => exact h.elim
        case hops =>
         refine ⟨?_, ?_⟩
         ·intro v w' hj hd K hK
          have hk := hK.out
          simp only [Act.put, List.setIfInBounds_toArray, List.set_cons_zero, List.set_cons_succ] at hk
          have HK := Lib.hid hk
          clear hd hk hK
          go_simp
          exact HK.out _ (show _ = _ from rfl)
         refine ⟨?_, ?_⟩
         ·intro v w' hj hd K hK
          have t0 : v 0 = _ := hd.out 0 (by kernel_rfl) rfl
          obtain ⟨ev, hja⟩ := hj.out
          have yx := hja.cell 2
          simp only [List.getElem?_toArray, List.getElem?_cons_zero, List.getElem?_cons_succ] at yx
          have hk := hK.out
          simp only [t0, Act.put, List.setIfInBounds_toArray, List.set_cons_zero, List.set_cons_succ] at hk
          have HK := Lib.hid hk
          clear hd hk hK
          go_simp
          exact HK.out _ (show _ = _ from rfl)
         refine ⟨?_, ?_⟩
         ·intro v w' hj hd K hK
          have hk := hK.out
          simp only [Act.put, List.setIfInBounds_toArray, List.set_cons_zero, List.set_cons_succ] at hk
          have HK := Lib.hid hk
          clear hd hk hK
          go_simp
          exact HK.out _ (show _ = _ from rfl)
         refine ⟨?_, ?_⟩
         ·intro v w' hj hd K hK
          have hk := hK.out
          simp only [Act.put, List.setIfInBounds_toArray, List.set_cons_zero, List.set_cons_succ] at hk
          have HK := Lib.hid hk
          clear hd hk hK
          go_simp
          exact HK.out _ (show _ = _ from rfl)
         refine ⟨?_, ?_⟩
         ·intro v w' x hw hx hd K hK
          have t3 : v 3 = _ := hd.out 3 (by kernel_rfl) rfl
          have hk := hK.out
          simp only [t3, Act.put, List.setIfInBounds_toArray, List.set_cons_zero, List.set_cons_succ] at hk
          have HK := Lib.hid hk
          obtain ⟨hj, hmN⟩ := hw.out
          clear hd hw hx hk hK
          have hrN := hmN.rd hr205 hr205.few.2.2
          go_simp
          go_at_call 43
          refine (HC.out _ hrN).mono ?_
          rintro e wF ⟨rfl, hnF, hrF⟩
          exact ⟨rfl, IPost.failed HR.out HO.out HB.out ((hm205.trans hl hmN).trans hl hnF) hrF⟩
         refine ⟨?_, ?_⟩
         ·intro v w' x hw hx hd K hK
          have t4 : v 4 = x := hx.out 4 _ rfl rfl
          have hk := hK.out
          simp only [t4, Act.put, List.setIfInBounds_toArray, List.set_cons_zero, List.set_cons_succ] at hk
          have HK := Lib.hid hk
          exact hw.out.elim
         refine ⟨?_, ?_⟩
         ·intro v w' x hw hx hd K hK
          have t2 : v 2 = _ := hd.out 2 (by kernel_rfl) rfl
          have t5 : v 5 = x := hx.out 5 _ rfl rfl
          have hk := hK.out
          simp only [t2, t5, Act.put, List.setIfInBounds_toArray, List.set_cons_zero, List.set_cons_succ] at hk
          have HK := Lib.hid hk
          exact hw.out.elim
         refine ⟨?_, ?_⟩
         ·intro v w' x hw hx hd K hK
          have t6 : v 6 = x := hx.out 6 _ rfl rfl
          have hk := hK.out
          simp only [t6, Act.put, List.setIfInBounds_toArray, List.set_cons_zero, List.set_cons_succ] at hk
          have HK := Lib.hid hk
          exact hw.out.elim
         refine ⟨?_, ?_⟩
         ·intro v w' x hw hx hd K hK
          have t1 : v 1 = _ := hd.out 1 (by kernel_rfl) rfl
          have t7 : v 7 = x := hx.out 7 _ rfl rfl
          have hk := hK.out
          simp only [t1, t7, Act.put, List.setIfInBounds_toArray, List.set_cons_zero, List.set_cons_succ] at hk
          have HK := Lib.hid hk
          exact hw.out.elim
         refine ⟨?_, ?_⟩
         ·intro v w' hj hd K hK
          have hk := hK.out
          simp only [Act.put, List.setIfInBounds_toArray, List.set_cons_zero, List.set_cons_succ] at hk
          have HK := Lib.hid hk
          clear hd hk hK
          go_simp
          exact HK.out _ (show _ = _ from rfl)
         trivial
        case htail =>
         intro v w' x hw hx hd
         have t8 : v 8 = x := hx.out 8 _ rfl rfl
         have t9 : v 9 = _ := hd.out 9 (by decide) rfl
         simp only [t8, t9, List.drop_succ_cons, List.drop_zero]
         clear hx hd t8 t9
         exact hw.out.elim
       | ok nb q206 =>
        rw [Px.bind_ok hp] at hRR
        try dsimp only at hRR
        have HC0 := fun W2 (hr2 : Rd W2 rb TA tc ts sz (q202 + 1) o) => pword_any hr2 1 (by omega)
        rw [hp] at HC0
        have HC := Lib.hid HC0
        have HQW205 := Lib.hid hp
        clear HC0 hp
        obtain ⟨e2, k2, hE2⟩ : ∃ e k, Px.addE e1 nb = (e, k) := ⟨_, _, rfl⟩
        simp only [hE2] at hRR
        have HE2 := Lib.hid hE2
        clear hE2
        have HL2 := Lib.hid (show e2.length ≤ j + 2 from by have h1 := addE_len e1 nb; rw [HE2.out] at h1; have := HL1.out; simp only at h1; omega)
        have HXA := Lib.hid x_205
        have HES := Lib.hid es_205
        have HCV := Lib.hid cv_205
        obtain ⟨iT, hi0, hi1, hi2, hi3⟩ := info_parts cov_info
        refine' wp_region_chain 10 5 _ ([none, none, none, none, some 0, some 1, some 2, some 3, some 4, none] : List (Option Nat)) (fun p x W => match p with | 0 => (∃ ev, At W (W1.heap.size) 77 #[.string (bs nm), ev, .slice cA cs.length cC, .int .i64 ((tokAt ts sz i).pos : Int)]) ∧ Mv rb (q202 + 1) W204 W | 1 => (∃ ev, At W (W1.heap.size) 77 #[.string (bs nm), ev, .slice cA cs.length cC, .int .i64 ((tokAt ts sz i).pos : Int)]) ∧ x = .string (bs nb) ∧ Mv rb q206 W204 W ∧ Rd W rb TA tc ts sz q206 o | 2 => (∃ ev, At W (W1.heap.size) 77 #[.string (bs nm), ev, .slice cA cs.length cC, .int .i64 ((tokAt ts sz i).pos : Int)]) ∧ x = .int .i64 (k2 : Int) ∧ ∃ (eA2 : Option Addr) (eC2 : Nat), At W (W1.heap.size) 77 #[.string (bs nm), .slice eA2 e2.length eC2, .slice cA cs.length cC, .int .i64 ((tokAt ts sz i).pos : Int)] ∧ W.ownsRow w.heap.size 9 1 (.slice eA2 e2.length eC2) e2.length (sCells e2) ∧ W.ownsRow w.heap.size 116 2 (.slice cA cs.length cC) cs.length (cvCells (cs.map fun c : Nat × Nat => ((c.1 : Int), (c.2 : Int)))) ∧ Mv rb q206 w W ∧ q206 ≤ ts.length | 3 => (∃ ev, At W (W1.heap.size) 77 #[.string (bs nm), ev, .slice cA cs.length cC, .int .i64 ((tokAt ts sz i).pos : Int)]) ∧ x = .agg #[.int .i64 (k1 : Int), .int .i64 (k2 : Int)] ∧ ∃ (eA2 : Option Addr) (eC2 : Nat), At W (W1.heap.size) 77 #[.string (bs nm), .slice eA2 e2.length eC2, .slice cA cs.length cC, .int .i64 ((tokAt ts sz i).pos : Int)] ∧ W.ownsRow w.heap.size 9 1 (.slice eA2 e2.length eC2) e2.length (sCells e2) ∧ W.ownsRow w.heap.size 116 2 (.slice cA cs.length cC) cs.length (cvCells (cs.map fun c : Nat × Nat => ((c.1 : Int), (c.2 : Int)))) ∧ Mv rb q206 w W ∧ q206 ≤ ts.length | 4 => (∃ ev, At W (W1.heap.size) 77 #[.string (bs nm), ev, .slice cA cs.length cC, .int .i64 ((tokAt ts sz i).pos : Int)]) ∧ ∃ b2, x = .slice (some ⟨b2, 0, none⟩) 1 1 ∧ At W b2 116 #[.int .i64 (k1 : Int), .int .i64 (k2 : Int)] ∧ ∃ (eA2 : Option Addr) (eC2 : Nat), At W (W1.heap.size) 77 #[.string (bs nm), .slice eA2 e2.length eC2, .slice cA cs.length cC, .int .i64 ((tokAt ts sz i).pos : Int)] ∧ W.ownsRow w.heap.size 9 1 (.slice eA2 e2.length eC2) e2.length (sCells e2) ∧ W.ownsRow w.heap.size 116 2 (.slice cA cs.length cC) cs.length (cvCells (cs.map fun c : Nat × Nat => ((c.1 : Int), (c.2 : Int)))) ∧ Mv rb q206 w W ∧ q206 ≤ ts.length | _ => (∃ ev, At W (W1.heap.size) 77 #[.string (bs nm), ev, .slice cA cs.length cC, .int .i64 ((tokAt ts sz i).pos : Int)]) ∧ W.ownsRow w.heap.size 116 2 x (cs.length + 1) (cvCells (cs.map fun c : Nat × Nat => ((c.1 : Int), (c.2 : Int))) ++ [.int .i64 (k1 : Int), .int .i64 (k2 : Int)]) ∧ ∃ (eA2 : Option Addr) (eC2 : Nat), At W (W1.heap.size) 77 #[.string (bs nm), .slice eA2 e2.length eC2, .slice cA cs.length cC, .int .i64 ((tokAt ts sz i).pos : Int)] ∧ W.ownsRow w.heap.size 9 1 (.slice eA2 e2.length eC2) e2.length (sCells e2) ∧ Mv rb q206 w W ∧ q206 ≤ ts.length) (fun W => (∃ ev, At W (W1.heap.size) 77 #[.string (bs nm), ev, .slice cA cs.length cC, .int .i64 ((tokAt ts sz i).pos : Int)])) (Pv :: Pv :: Pv :: Pv :: Fv :: Fv :: Fv :: Fv :: Fv :: Pv :: []) ?hF (by kernel_rfl) (by kernel_rfl) (by kernel_rfl) (of_decide_eq_true (by kernel_rfl)) (by kernel_rfl) (by kernel_rfl) (by kernel_rfl) (by kernel_rfl) (by kernel_rfl) ?hW ?hJ ?hops ?htail
        case hF => (intro v; simp only [over, Act.put, List.setIfInBounds_toArray, List.set_cons_zero, List.set_cons_succ, Nat.zero_add, Nat.reduceAdd]; exact rfl)
        case hW =>
         intro _
         have hN := Mv.still hr205 ((Below.refl W204.heap.size W204).drew)
         exact ⟨⟨_, hN.at HXA.out hnex⟩, hN⟩
        case hJ =>
         intro p x W2 h
         match p, h with
         | 0, h => exact h.1
         | 1, h => exact h.1
         | 2, h => exact h.1
         | 3, h => exact h.1
         | 4, h => exact h.1
         | _ + 5, h => exact h.1
        case hops =>
         refine ⟨?_, ?_⟩
         ·intro v w' hj hd K hK
          have hk := hK.out
          simp only [Act.put, List.setIfInBounds_toArray, List.set_cons_zero, List.set_cons_succ] at hk
          have HK := Lib.hid hk
          clear hd hk hK
          go_simp
          exact HK.out _ (show _ = _ from rfl)
         refine ⟨?_, ?_⟩
         ·intro v w' hj hd K hK
          have t0 : v 0 = _ := hd.out 0 (by kernel_rfl) rfl
          obtain ⟨ev, hja⟩ := hj.out
          have yx := hja.cell 2
          simp only [List.getElem?_toArray, List.getElem?_cons_zero, List.getElem?_cons_succ] at yx
          have hk := hK.out
          simp only [t0, Act.put, List.setIfInBounds_toArray, List.set_cons_zero, List.set_cons_succ] at hk
          have HK := Lib.hid hk
          clear hd hk hK
          go_simp
          exact HK.out _ (show _ = _ from rfl)
         refine ⟨?_, ?_⟩
         ·intro v w' hj hd K hK
          have hk := hK.out
          simp only [Act.put, List.setIfInBounds_toArray, List.set_cons_zero, List.set_cons_succ] at hk
          have HK := Lib.hid hk
          clear hd hk hK
          go_simp
          exact HK.out _ (show _ = _ from rfl)
         refine ⟨?_, ?_⟩
         ·intro v w' hj hd K hK
          have hk := hK.out
          simp only [Act.put, List.setIfInBounds_toArray, List.set_cons_zero, List.set_cons_succ] at hk
          have HK := Lib.hid hk
          clear hd hk hK
          go_simp
          exact HK.out _ (show _ = _ from rfl)
         refine ⟨?_, ?_⟩
         ·intro v w' x hw hx hd K hK
          have t3 : v 3 = _ := hd.out 3 (by kernel_rfl) rfl
          have hk := hK.out
          simp only [t3, Act.put, List.setIfInBounds_toArray, List.set_cons_zero, List.set_cons_succ] at hk
          have HK := Lib.hid hk
          obtain ⟨hj, hmN⟩ := hw.out
          clear hd hw hx hk hK
          have hrN := hmN.rd hr205 hr205.few.2.2
          go_simp
          go_at_call 43
          refine (HC.out _ hrN).mono ?_
          rintro e wF ⟨⟨_, rfl, rfl⟩, hnF, hrF⟩
          have hN := hmN.trans hr205.box.lt hnF
          exact HK.out _ _ ⟨⟨_, hN.at HXA.out hnex⟩, rfl, hN, hrF⟩
         refine ⟨?_, ?_⟩
         ·intro v w' x hw hx hd K hK
          have t4 : v 4 = x := hx.out 4 _ rfl rfl
          have hk := hK.out
          simp only [t4, Act.put, List.setIfInBounds_toArray, List.set_cons_zero, List.set_cons_succ] at hk
          have HK := Lib.hid hk
          obtain ⟨hj, rfl, hmN, hrN⟩ := hw.out
          clear hd hw hx hk hK
          have h_x := hmN.at HXA.out hnex
          have h_e := own_mv hlB HES.out hmN
          have h_c := own_mv hlB HCV.out hmN
          have h_m := hm205.trans hl hmN
          have HCE0 := elem_any h_x h_e HB0.out h_m.size (by have := HL1.out; have := HLEN.out; omega) nb
          rw [HE2.out] at HCE0
          have HCE := Lib.hid HCE0
          clear HCE0
          go_simp
          go_at_call 79
          refine (HCE.out).mono ?_
          rintro e wF ⟨rfl, hbE, ⟨eA2, eC2, x_9, es_9⟩, hkE⟩
          exact HK.out _ _ ⟨⟨_, x_9⟩, rfl, eA2, eC2, x_9, es_9, own_keptT h_c (hkE _ (by decide) (by decide)), h_m.after hbE (Nat.le_refl _), hrN.few.2.2⟩
         refine ⟨?_, ?_⟩
         ·intro v w' x hw hx hd K hK
          have t2 : v 2 = _ := hd.out 2 (by kernel_rfl) rfl
          have t5 : v 5 = x := hx.out 5 _ rfl rfl
          have hk := hK.out
          simp only [t2, t5, Act.put, List.setIfInBounds_toArray, List.set_cons_zero, List.set_cons_succ] at hk
          have HK := Lib.hid hk
          obtain ⟨hj, rfl, hR⟩ := hw.out
          have t2 : v 2 = _ := hd.out 2 (by kernel_rfl) rfl
          skip
          clear hx hw
          clear hd hk hK
          go_simp
          exact HK.out _ _ ⟨hj, rfl, hR⟩
         refine ⟨?_, ?_⟩
         ·intro v w' x hw hx hd K hK
          have t6 : v 6 = x := hx.out 6 _ rfl rfl
          have hk := hK.out
          simp only [t6, Act.put, List.setIfInBounds_toArray, List.set_cons_zero, List.set_cons_succ] at hk
          have HK := Lib.hid hk
          obtain ⟨hj, rfl, eA2, eC2, r1, r2, r3, r4, r5⟩ := hw.out
          clear hx hw
          clear hd hk hK
          go_simp
          exact HK.out _ _ ⟨⟨_, r1.alloc _⟩, _, rfl, At.new _ _ _, eA2, eC2, r1.alloc _, r2.alloc _, r3.alloc _, r4.after (below1 w' (.cells #[.int .i64 (k1 : Int), .int .i64 (k2 : Int)] 116)) r4.size, r5⟩
         refine ⟨?_, ?_⟩
         ·intro v w' x hw hx hd K hK
          have t1 : v 1 = _ := hd.out 1 (by kernel_rfl) rfl
          have t7 : v 7 = x := hx.out 7 _ rfl rfl
          have hk := hK.out
          rw [if_pos (show Region.wanted _ _ = true from rfl)]
          simp only [t1, t7] at hk ⊢
          have HK := Lib.hid hk
          obtain ⟨hj, b2, rfl, hb2, eA2, eC2, r1, r2, r3, r4, r5⟩ := hw.out
          refine wp_append_where (.tmp 28) (.tmp 34) 75 rfl w.heap.size 116 iT (.agg #[.int .i64 0, .int .i64 0]) 2 16 Tryd.underlying75 hi0 hi1 hi2 hi3 rfl (by decide) _ cs.length (cvCells (cs.map fun c : Nat × Nat => ((c.1 : Int), (c.2 : Int)))) rfl r3 ⟨b2, 0, none⟩ 1 1 [.int .i64 (k1 : Int), .int .i64 (k2 : Int)] rfl rfl (At.news hb2) (by intro u hu; simp at hu; rcases hu with rfl | rfl <;> rfl) (by have := HLEN.out; unfold maxLen; omega) (by have := HLEN.out; omega) r4.size fun v5 w5 o5 o6 g5 hwh => ?_
          exact HK.out _ _ ⟨⟨_, r1.grown g5 (own_far r3 r1 (by decide))⟩, o5, eA2, eC2, r1.grown g5 (own_far r3 r1 (by decide)), own_grown r2 g5 (fun b hb he => own_apart r2 r3 (by decide) b hb he), r4.grown g5 (fun z hz => (own_lt r3 hz).1), r5⟩
         refine ⟨?_, ?_⟩
         ·intro v w' hj hd K hK
          have hk := hK.out
          simp only [Act.put, List.setIfInBounds_toArray, List.set_cons_zero, List.set_cons_succ] at hk
          have HK := Lib.hid hk
          clear hd hk hK
          go_simp
          exact HK.out _ (show _ = _ from rfl)
         trivial
        case htail =>
         intro v w' x hw hx hd
         have t8 : v 8 = x := hx.out 8 _ rfl rfl
         have t9 : v 9 = _ := hd.out 9 (by decide) rfl
         simp only [t8, t9, List.drop_succ_cons, List.drop_zero]
         clear hx hd t8 t9
         obtain ⟨hj9, cv_207, eA2, eC2, x_207, es_207, hm207, hq9⟩ := hw.out
         have hr207 := hm207.rd HR.out hq9
         obtain ⟨nA, nC, rfl⟩ := own_len cv_207
         clear hw hj9
         have yx0 := x_207.cell 0
         have yx1 := x_207.cell 1
         have yx2 := x_207.cell 2
         have yx3 := x_207.cell 3
         have fx0 := x_207.frozen 0
         have fx1 := x_207.frozen 1
         have fx2 := x_207.frozen 2
         have fx3 := x_207.frozen 3
         have ylx := x_207.lt
         simp only [List.getElem?_toArray, List.getElem?_cons_zero, List.getElem?_cons_succ] at yx0 yx1 yx2 yx3
         go_wp2_with fail
         clear yx0 fx0 yx1 fx1 yx2 fx2 yx3 fx3 ylx
         have x_208 := (x_207.put 2 (.slice nA (cs.length + 1) nC))
         simp only [List.setIfInBounds_toArray, List.set_cons_zero, List.set_cons_succ] at x_208
         have hm208 := hm207.after ((Below.refl (W1.heap.size) w').setCell (p := ⟨W1.heap.size, 2, none⟩) (Nat.le_refl _) (.slice nA (cs.length + 1) nC)) HB0.out
         have hr208 := hm208.rd HR.out hr207.few.2.2
         have es_208 := es_207
         replace es_208 := own_putne es_208 (p := ⟨W1.heap.size, 2, none⟩) (own_far es_208 x_207 (by decide)) (.slice nA (cs.length + 1) nC)
         have cv_208 := cv_207
         replace cv_208 := own_putne cv_208 (p := ⟨W1.heap.size, 2, none⟩) (own_far cv_208 x_207 (by decide)) (.slice nA (cs.length + 1) nC)
         have hz208 : (w'.setCell ⟨W1.heap.size, 2, none⟩ (.slice nA (cs.length + 1) nC)).heap.size = w'.heap.size := (by simp : (w'.setCell ⟨W1.heap.size, 2, none⟩ (.slice nA (cs.length + 1) nC)).heap.size = w'.heap.size).trans rfl
         generalize hw208 : (w'.setCell ⟨W1.heap.size, 2, none⟩ (.slice nA (cs.length + 1) nC)) = W206 at x_208 hm208 hr208 es_208 cv_208 hz208 ⊢
         clear hw208
         cases hp : Px.need [59] (Px.kts ts) q206 with
         | fail q209 =>
          rw [Px.bind_fail (hp)] at hRR
          subst hRR
          have HC := Lib.hid (need_any hr208 [59] (by decide))
          rw [hp] at HC
          clear hp
          go_wp2_with (go_at_call 55; refine (HC.out).mono ?_; rintro e wF ⟨rfl, hnF, hrF⟩)
          exact ⟨rfl, IPost.failed HR.out HO.out HB.out (hm208.trans hl hnF) hrF⟩
         | ok u q209 =>
          rw [Px.bind_ok (hp)] at hRR
          try dsimp only at hRR
          have HC := Lib.hid (need_any hr208 [59] (by decide))
          rw [hp] at HC
          have HQ209 := Lib.hid hp
          clear hp
          go_wp2_with (go_at_call 55; refine (HC.out).mono ?_; rintro e W207 ⟨⟨_, rfl, rfl⟩, hn210, hr210⟩; have hm210 := hm208.trans hl hn210; have x_210 := hn210.at x_208 hnex; have es_210 := own_mv hlB es_208 hn210; have cv_210 := own_mv hlB cv_208 hn210; clear HC)
          go_roundw
          case rel => exact ⟨e2, cs ++ [(k1, k2)], f, q209, _, _, _, _, by simpa only [List.length_append, List.length_singleton, List.map_append, List.map_cons, List.map_nil, cvCells_snoc] using x_210, es_210, by simpa only [List.length_append, List.length_singleton, List.map_append, List.map_cons, List.map_nil, cvCells_snoc] using cv_210, by have := HL2.out; have := Px.word_next HQ4.out; have := Px.need_next HQ7.out; have := Px.word_next HQ202.out; have := Px.word_next HQW205.out; have := Px.need_next HQ209.out; omega, by have := HLEN.out; rw [List.length_append]; simp only [List.length_singleton]; have := Px.word_next HQ4.out; have := Px.need_next HQ7.out; have := Px.word_next HQ202.out; have := Px.word_next HQW205.out; have := Px.need_next HQ209.out; omega, by have := HJL.out; have := Px.word_next HQ4.out; have := Px.need_next HQ7.out; have := Px.word_next HQ202.out; have := Px.word_next HQW205.out; have := Px.need_next HQ209.out; omega, Lib.hid hRR, hm210, hr210⟩
          case measure => rw [hrd.out, rdAt_rd hr210]; have := hr210.few.2.2; have := Px.word_next HQ4.out; have := Px.need_next HQ7.out; have := Px.word_next HQ202.out; have := Px.word_next HQW205.out; have := Px.need_next HQ209.out; omega
      ·skip
       rw [Px.bind_ok hp] at hRR
       try dsimp only at hRR
       rw [if_neg (by simp)] at hRR
       have HC := Lib.hid (take_any hr204 [60] (by decide))
       rw [hp] at HC
       clear hp
       go_wp2_with (go_at_call 42; refine (HC.out).mono ?_; rintro e W204 ⟨⟨_, rfl, rfl⟩, hn205, hr205⟩; have hm205 := hm204.trans hl hn205; have x_205 := hn205.at x_204 hnex; have es_205 := own_mv hlB es_204 hn205; have cv_205 := own_mv hlB cv_204 hn205; clear HC)
       try simp only [Px.bind_assoc] at hRR
       cases hp : Px.need [59] (Px.kts ts) q202 with
       | fail q206 =>
        rw [Px.bind_fail (hp)] at hRR
        subst hRR
        have HC := Lib.hid (need_any hr205 [59] (by decide))
        rw [hp] at HC
        clear hp
        go_wp2_with (go_at_call 55; refine (HC.out).mono ?_; rintro e wF ⟨rfl, hnF, hrF⟩)
        exact ⟨rfl, IPost.failed HR.out HO.out HB.out (hm205.trans hl hnF) hrF⟩
       | ok u q206 =>
        rw [Px.bind_ok (hp)] at hRR
        try dsimp only at hRR
        have HC := Lib.hid (need_any hr205 [59] (by decide))
        rw [hp] at HC
        have HQ206 := Lib.hid hp
        clear hp
        go_wp2_with (go_at_call 55; refine (HC.out).mono ?_; rintro e W205 ⟨⟨_, rfl, rfl⟩, hn207, hr207⟩; have hm207 := hm205.trans hl hn207; have x_207 := hn207.at x_205 hnex; have es_207 := own_mv hlB es_205 hn207; have cv_207 := own_mv hlB cv_205 hn207; clear HC)
        go_roundw
        case rel => exact ⟨e1, cs, f, q206, _, _, _, _, x_207, es_207, cv_207, by have := HL1.out; have := Px.word_next HQ4.out; have := Px.need_next HQ7.out; have := Px.word_next HQ202.out; have := Px.need_next HQ206.out; omega, by have := HLEN.out; have := Px.word_next HQ4.out; have := Px.need_next HQ7.out; have := Px.word_next HQ202.out; have := Px.need_next HQ206.out; omega, by have := HJL.out; have := Px.word_next HQ4.out; have := Px.need_next HQ7.out; have := Px.word_next HQ202.out; have := Px.need_next HQ206.out; omega, Lib.hid hRR, hm207, hr207⟩
        case measure => rw [hrd.out, rdAt_rd hr207]; have := hr207.few.2.2; have := Px.word_next HQ4.out; have := Px.need_next HQ7.out; have := Px.word_next HQ202.out; have := Px.need_next HQ206.out; omega
end
end Go.Proofs.YtpcmlkpnjimbiaaDoor
