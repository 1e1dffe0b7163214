/- The reader's rules. -/
import Derived.Test.YtpcmlkpnjimbiaaDoorPItem0
import Derived.Test.YtpcmlkpnjimbiaaDoorInv8
namespace Go.Proofs.YtpcmlkpnjimbiaaDoor
set_option linter.unusedVariables false
set_option linter.unusedSimpArgs false
open Go.RowKit
theorem rule_info : (Tryd.prog.info? 66).map (fun i => (i.zero, i.size, i.bytes)) = some (some (.agg #[.string ⟨#[]⟩, .int .i64 0, .slice none 0 0, .int .i64 0, .string ⟨#[]⟩, .string ⟨#[]⟩, .int .i64 0, .slice none 0 0, .int .i64 0]), 9, 128) := by kernel_rfl
section
variable {w : World} {rb : Nat} {TA : Option Addr} {tc : Nat} {ts : List Lx.Tok} {sz i : Nat} {o : Outs}
set_option maxHeartbeats 8000000 in
set_option maxRecDepth 100000 in
theorem rule_any {B : Nat} {P : Ap.Pg} (h : Rd w rb TA tc ts sz i o) (ho : Outw w B o P) (hB : rb < B) (hBs : B ≤ w.heap.size) (hP : P.rules.length ≤ 100000) : Calls Tryd.prog 30 #[.pointer (some ⟨rb, 0, none⟩)] w (IPost w rb TA tc ts sz B P (fun P x => { P with rules := P.rules ++ [x.ap (offI ts sz)] }) (Px.rule (Px.kts ts) i)) := by
 obtain ⟨RR, hRR⟩ : ∃ RR, Px.rule (Px.kts ts) i = RR := ⟨_, rfl⟩
 rw [hRR]
 unfold Px.rule at hRR
 have HR := Lib.hid h
 have HO := Lib.hid ho
 have HB := Lib.hid hB
 have HBS := Lib.hid hBs
 have HP := Lib.hid hP
 have hl := h.box.lt
 have hlB : rb < w.heap.size := hl
 have hm := Mv.still h (Below.refl _ _)
 clear ho hB hBs hP
 go_enter Tryd.func30, Tryd.ntmps30
 go_wp2_with fail
 have HC := Lib.hid (offset_any h)
 go_wp2_with (go_at_call 54; refine (HC.out).mono ?_; rintro e W1 ⟨rfl, hn1⟩; have hn1 := Mv.still h hn1; have hr1 := hn1.rd h h.few.2.2; have hm1 := hm.trans hl hn1; clear HC)
 have hq2 : W1.heap.size = W1.heap.size := rfl
 have x_2 := At.newAt hq2 66 #[.string ⟨#[]⟩, .int .i64 (-1), .slice none 0 0, .int .i64 0, .string ⟨#[]⟩, .string ⟨#[]⟩, .int .i64 (-1), .slice none 0 0, .int .i64 ((tokAt ts sz i).pos : Int)]
 have hm2 := hm1.trans hl (Mv.still hr1 (below1 W1 (.cells #[.string ⟨#[]⟩, .int .i64 (-1), .slice none 0 0, .int .i64 0, .string ⟨#[]⟩, .string ⟨#[]⟩, .int .i64 (-1), .slice none 0 0, .int .i64 ((tokAt ts sz i).pos : Int)] 66)))
 have hr2 := hr1.next (below1 W1 (.cells #[.string ⟨#[]⟩, .int .i64 (-1), .slice none 0 0, .int .i64 0, .string ⟨#[]⟩, .string ⟨#[]⟩, .int .i64 (-1), .slice none 0 0, .int .i64 ((tokAt ts sz i).pos : Int)] 66))
 have hBx : w.heap.size ≤ W1.heap.size := by have := hm1.size; omega
 have hnex : W1.heap.size ≠ rb := by have := hr1.box.lt; omega
 generalize hw2 : W1.alloc (.cells #[.string ⟨#[]⟩, .int .i64 (-1), .slice none 0 0, .int .i64 0, .string ⟨#[]⟩, .string ⟨#[]⟩, .int .i64 (-1), .slice none 0 0, .int .i64 ((tokAt ts sz i).pos : Int)] 66) = W2 at x_2 hm2 hr2 ⊢
 clear hw2 hq2
 rcases Px.take_two Px.sDeny (Px.kts ts) i with hp | hp
 ·skip
  rw [Px.bind_ok hp] at hRR
  try dsimp only at hRR
  first | rw [if_pos rfl] at hRR | rw [if_pos trivial] at hRR
  have HC := Lib.hid (take_any hr2 Px.sDeny (by decide))
  rw [hp] at HC
  clear hp
  rw [Px.bind_ret] at hRR
  try dsimp only at hRR
  unfold Px.optBody at hRR
  simp only [Px.bind_assoc] at hRR
  go_wp2_with (go_at_call 42; refine (HC.out).mono ?_; rintro e W3 ⟨⟨_, rfl, rfl⟩, hn3, hr3⟩; have hm3 := hm2.trans hl hn3; have x_3 := hn3.at x_2 hnex; clear HC)
  rcases Px.take_two [58, 45] (Px.kts ts) (i + 1) with hp | hp
  ·skip
   rw [Px.bind_ok hp] at hRR
   try dsimp only at hRR
   first | rw [if_pos rfl] at hRR | rw [if_pos trivial] at hRR
   have HC := Lib.hid (take_any hr3 [58, 45] (by decide))
   rw [hp] at HC
   clear hp
   go_wp2_with (go_at_call 42; refine (HC.out).mono ?_; rintro e W4 ⟨⟨_, rfl, rfl⟩, hn4, hr4⟩; have hm4 := hm3.trans hl hn4; have x_4 := hn4.at x_3 hnex; clear HC)
   cases hp : Px.list Px.literal (Px.kts ts) ((i + 1) + 1) with
   | fail q5 =>
    rw [Px.bind_fail (hp)] at hRR
    subst hRR
    have HC := Lib.hid (list_literal hr4)
    rw [hp] at HC
    clear hp
    go_wp2_with (go_at_call 57; refine (HC.out).mono ?_; rintro e wF ⟨rfl, hnF, hrF⟩)
    exact ⟨rfl, IPost.failed HR.out HO.out HB.out (hm4.trans hl hnF) hrF⟩
   | ok bl q5 =>
    rw [Px.bind_ok (hp)] at hRR
    try dsimp only at hRR
    have HC := Lib.hid (list_literal hr4)
    rw [hp] at HC
    have HQ5 := Lib.hid hp
    clear hp
    go_wp2_with (go_at_call 57; refine (HC.out).mono ?_; rintro e W5 ⟨⟨bv, rfl, hL0⟩, hn6, hr6⟩; have hm6 := hm4.trans hl hn6; have x_6 := hn6.at x_4 hnex; obtain ⟨bA, bC, rfl⟩ := ORows.slice' hL0; have bo_6 := ORows.mono hL0 hm4.size; clear HC; have yx0 := x_6.cell 0; have yx1 := x_6.cell 1; have yx2 := x_6.cell 2; have yx3 := x_6.cell 3; have yx4 := x_6.cell 4; have yx5 := x_6.cell 5; have yx6 := x_6.cell 6; have yx7 := x_6.cell 7; have yx8 := x_6.cell 8; have fx0 := x_6.frozen 0; have fx1 := x_6.frozen 1; have fx2 := x_6.frozen 2; have fx3 := x_6.frozen 3; have fx4 := x_6.frozen 4; have fx5 := x_6.frozen 5; have fx6 := x_6.frozen 6; have fx7 := x_6.frozen 7; have fx8 := x_6.frozen 8; have ylx := x_6.lt; simp only [List.getElem?_toArray, List.getElem?_cons_zero, List.getElem?_cons_succ] at yx0 yx1 yx2 yx3 yx4 yx5 yx6 yx7 yx8)
    clear yx0 fx0 yx1 fx1 yx2 fx2 yx3 fx3 yx4 fx4 yx5 fx5 yx6 fx6 yx7 fx7 yx8 fx8 ylx
    have x_7 := (x_6.put 7 (.slice bA bl.length bC))
    simp only [List.setIfInBounds_toArray, List.set_cons_zero, List.set_cons_succ] at x_7
    have hm7 := hm6.after ((Below.refl (W1.heap.size) W5).setCell (p := ⟨W1.heap.size, 7, none⟩) (Nat.le_refl _) (.slice bA bl.length bC)) hBx
    have hr7 := hm7.rd HR.out hr6.few.2.2
    have bo_7 := bo_6
    replace bo_7 := ORows.putL bo_7 x_6 (by decide) (by decide) 7 (.slice bA bl.length bC)
    have hz7 : (W5.setCell ⟨W1.heap.size, 7, none⟩ (.slice bA bl.length bC)).heap.size = W5.heap.size := (by simp : (W5.setCell ⟨W1.heap.size, 7, none⟩ (.slice bA bl.length bC)).heap.size = W5.heap.size).trans rfl
    generalize hw7 : (W5.setCell ⟨W1.heap.size, 7, none⟩ (.slice bA bl.length bC)) = W6 at x_7 hm7 hr7 bo_7 hz7 ⊢
    clear hw7
    cases hp : Px.need [46] (Px.kts ts) q5 with
    | fail q8 =>
     rw [Px.bind_fail (hp)] at hRR
     subst hRR
     have HC := Lib.hid (need_any hr7 [46] (by decide))
     rw [hp] at HC
     clear hp
     go_wp2_with (go_at_call 55; refine (HC.out).mono ?_; rintro e wF ⟨rfl, hnF, hrF⟩)
     exact ⟨rfl, IPost.failed HR.out HO.out HB.out (hm7.trans hl hnF) hrF⟩
    | ok u q8 =>
     rw [Px.bind_ok (hp)] at hRR
     try dsimp only at hRR
     have HC := Lib.hid (need_any hr7 [46] (by decide))
     rw [hp] at HC
     have HQ8 := Lib.hid hp
     clear hp
     go_wp2_with (go_at_call 55; refine (HC.out).mono ?_; rintro e W7 ⟨⟨_, rfl, rfl⟩, hn9, hr9⟩; have hm9 := hm7.trans hl hn9; have x_9 := hn9.at x_7 hnex; have bo_9 := ORows.mvL bo_7 hlB hr7.box hn9; clear HC)
     have hoW := HO.out.mv HB.out HR.out.box hm9
     obtain ⟨rows, hrows, hrr⟩ := hoW.rules
     have HOW := Lib.hid hoW
     have HROWS := Lib.hid hrows
     have HRR2 := Lib.hid hrr
     have HXR := Lib.hid (show RuR W7 [.string ⟨#[]⟩, .int .i64 (-1), .slice none 0 0, .int .i64 0, .string ⟨#[]⟩, .string ⟨#[]⟩, .int .i64 (-1), .slice bA bl.length bC, .int .i64 ((tokAt ts sz i).pos : Int)] ((⟨[], [], ⟨0, [], []⟩, bl, i⟩ : Px.Ru).ap (offI ts sz)) from ⟨_, _, rfl, TRow.nil _ _ _, TRows.of_own bo_9⟩)
     have HBX := Lib.hid hr9.box
     have HAX := Lib.hid x_9
     obtain ⟨iT, hi0, hi1, hi2, hi3⟩ := info_parts rule_info
     have HNB : Hid (some (W1.heap.size) ≠ Value.ownBlock (.slice o.r.a o.r.n o.r.c)) := Lib.hid (fun e => by
      obtain ⟨rows0, h0, _⟩ := HO.out.rules
      have h1 := (own_lt h0 e.symm).2
      have h2 := hBx
      omega)
     clear hoW hrows hrr
     refine' wp_region_chain 9 2 _ ([none, none, none, none, none, none, none, some 0, some 1] : List (Option Nat)) (fun p x W => match p with | 0 => (At W rb 87 (rdc TA ts.length tc q8 sz o) ∧ At W (W1.heap.size) 66 #[.string ⟨#[]⟩, .int .i64 (-1), .slice none 0 0, .int .i64 0, .string ⟨#[]⟩, .string ⟨#[]⟩, .int .i64 (-1), .slice bA bl.length bC, .int .i64 ((tokAt ts sz i).pos : Int)]) ∧ Below W7.heap.size W7 W | 1 => (At W rb 87 (rdc TA ts.length tc q8 sz o) ∧ At W (W1.heap.size) 66 #[.string ⟨#[]⟩, .int .i64 (-1), .slice none 0 0, .int .i64 0, .string ⟨#[]⟩, .string ⟨#[]⟩, .int .i64 (-1), .slice bA bl.length bC, .int .i64 ((tokAt ts sz i).pos : Int)]) ∧ ∃ bb, x = .slice (some ⟨bb, 0, none⟩) 1 1 ∧ At W bb 66 #[.string ⟨#[]⟩, .int .i64 (-1), .slice none 0 0, .int .i64 0, .string ⟨#[]⟩, .string ⟨#[]⟩, .int .i64 (-1), .slice bA bl.length bC, .int .i64 ((tokAt ts sz i).pos : Int)] ∧ Below W7.heap.size W7 W | _ => (At W rb 87 (rdc TA ts.length tc q8 sz o) ∧ At W (W1.heap.size) 66 #[.string ⟨#[]⟩, .int .i64 (-1), .slice none 0 0, .int .i64 0, .string ⟨#[]⟩, .string ⟨#[]⟩, .int .i64 (-1), .slice bA bl.length bC, .int .i64 ((tokAt ts sz i).pos : Int)]) ∧ ∃ WG, Below W7.heap.size W7 WG ∧ WG.ownsRow B 66 9 (.slice o.r.a o.r.n o.r.c) P.rules.length rows.flatten ∧ WG.grownBy W (Value.ownBlock (.slice o.r.a o.r.n o.r.c)) ∧ W.ownsRow B 66 9 x (P.rules.length + 1) (rows.flatten ++ [.string ⟨#[]⟩, .int .i64 (-1), .slice none 0 0, .int .i64 0, .string ⟨#[]⟩, .string ⟨#[]⟩, .int .i64 (-1), .slice bA bl.length bC, .int .i64 ((tokAt ts sz i).pos : Int)])) (fun W => (At W rb 87 (rdc TA ts.length tc q8 sz o) ∧ At W (W1.heap.size) 66 #[.string ⟨#[]⟩, .int .i64 (-1), .slice none 0 0, .int .i64 0, .string ⟨#[]⟩, .string ⟨#[]⟩, .int .i64 (-1), .slice bA bl.length bC, .int .i64 ((tokAt ts sz i).pos : Int)])) (Pv :: Pv :: Pv :: Pv :: Pv :: Pv :: Pv :: Fv :: Fv :: []) ?hF (by kernel_rfl) (by kernel_rfl) (by kernel_rfl) (of_decide_eq_true (by kernel_rfl)) (by kernel_rfl) (by kernel_rfl) (by kernel_rfl) (by kernel_rfl) (by kernel_rfl) ?hW ?hJ ?hops ?htail
     case hF => (intro v; simp only [over, Act.put, List.setIfInBounds_toArray, List.set_cons_zero, List.set_cons_succ, Nat.zero_add, Nat.reduceAdd]; exact rfl)
     case hW =>
      intro _
      have hbN : Below W7.heap.size W7 W7.drew := (Below.refl W7.heap.size W7).drew
      exact ⟨⟨HBX.out.next hbN, HAX.out.next hbN⟩, hbN⟩
     case hJ =>
      intro p x W2 h
      match p, h with
      | 0, h => exact h.1
      | 1, h => exact h.1
      | _ + 2, h => exact h.1
     case hops =>
      refine ⟨?_, ?_⟩
      ·intro v w' hj hd K hK
       have hk := hK.out
       simp only [Act.put, List.setIfInBounds_toArray, List.set_cons_zero, List.set_cons_succ] at hk
       have HK := Lib.hid hk
       clear hd hk hK
       go_simp
       exact HK.out _ (show _ = _ from rfl)
      refine ⟨?_, ?_⟩
      ·intro v w' hj hd K hK
       have hk := hK.out
       simp only [Act.put, List.setIfInBounds_toArray, List.set_cons_zero, List.set_cons_succ] at hk
       have HK := Lib.hid hk
       clear hd hk hK
       go_simp
       exact HK.out _ (show _ = _ from rfl)
      refine ⟨?_, ?_⟩
      ·intro v w' hj hd K hK
       have t1 : v 1 = _ := hd.out 1 (by kernel_rfl) rfl
       have hk := hK.out
       simp only [t1, Act.put, List.setIfInBounds_toArray, List.set_cons_zero, List.set_cons_succ] at hk
       have HK := Lib.hid hk
       clear hd hk hK
       go_simp
       exact HK.out _ (show _ = _ from rfl)
      refine ⟨?_, ?_⟩
      ·intro v w' hj hd K hK
       have t2 : v 2 = _ := hd.out 2 (by kernel_rfl) rfl
       have hk := hK.out
       simp only [t2, Act.put, List.setIfInBounds_toArray, List.set_cons_zero, List.set_cons_succ] at hk
       have HK := Lib.hid hk
       clear hd hk hK
       go_simp
       exact HK.out _ (show _ = _ from rfl)
      refine ⟨?_, ?_⟩
      ·intro v w' hj hd K hK
       have t3 : v 3 = _ := hd.out 3 (by kernel_rfl) rfl
       have hk := hK.out
       simp only [t3, Act.put, List.setIfInBounds_toArray, List.set_cons_zero, List.set_cons_succ] at hk
       have HK := Lib.hid hk
       clear hd hk hK
       go_simp
       exact HK.out _ (show _ = _ from rfl)
      refine ⟨?_, ?_⟩
      ·intro v w' hj hd K hK
       have t4 : v 4 = _ := hd.out 4 (by kernel_rfl) rfl
       have yx : w'.cell? ⟨rb, 6, none⟩ = some (.slice o.r.a o.r.n o.r.c) := hj.out.1.cell 6
       have hk := hK.out
       simp only [t4, Act.put, List.setIfInBounds_toArray, List.set_cons_zero, List.set_cons_succ] at hk
       have HK := Lib.hid hk
       clear hd hk hK
       go_simp
       exact HK.out _ (show _ = _ from rfl)
      refine ⟨?_, ?_⟩
      ·intro v w' hj hd K hK
       have yx0 := hj.out.2.cell 0
       have yx1 := hj.out.2.cell 1
       have yx2 := hj.out.2.cell 2
       have yx3 := hj.out.2.cell 3
       have yx4 := hj.out.2.cell 4
       have yx5 := hj.out.2.cell 5
       have yx6 := hj.out.2.cell 6
       have yx7 := hj.out.2.cell 7
       have yx8 := hj.out.2.cell 8
       simp only [List.getElem?_toArray, List.getElem?_cons_zero, List.getElem?_cons_succ] at yx0 yx1 yx2 yx3 yx4 yx5 yx6 yx7 yx8
       have hk := hK.out
       simp only [Act.put, List.setIfInBounds_toArray, List.set_cons_zero, List.set_cons_succ] at hk
       have HK := Lib.hid hk
       clear hd hk hK
       go_simp
       exact HK.out _ (show _ = _ from rfl)
      refine ⟨?_, ?_⟩
      ·intro v w' x hw hx hd K hK
       have t6 : v 6 = _ := hd.out 6 (by kernel_rfl) rfl
       have hk := hK.out
       simp only [t6, Act.put, List.setIfInBounds_toArray, List.set_cons_zero, List.set_cons_succ] at hk
       have HK := Lib.hid hk
       obtain ⟨hj, hb0⟩ := hw.out
       clear hd hk hK
       go_simp
       have hbN : Below W7.heap.size W7 (w'.alloc (.cells #[.string ⟨#[]⟩, .int .i64 (-1), .slice none 0 0, .int .i64 0, .string ⟨#[]⟩, .string ⟨#[]⟩, .int .i64 (-1), .slice bA bl.length bC, .int .i64 ((tokAt ts sz i).pos : Int)] 66)) := hb0.alloc hb0.size _
       exact HK.out _ _ ⟨⟨HBX.out.next hbN, HAX.out.next hbN⟩, _, rfl, At.new _ _ _, hbN⟩
      refine ⟨?_, ?_⟩
      ·intro v w' x hw hx hd K hK
       have t5 : v 5 = _ := hd.out 5 (by kernel_rfl) rfl
       have t7 : v 7 = x := hx.out 7 _ rfl rfl
       have hk := hK.out
       rw [if_pos (show Region.wanted _ _ = true from rfl)]
       simp only [t5, t7] at hk ⊢
       have HK := Lib.hid hk
       obtain ⟨hj, bb, rfl, hbb, hb0⟩ := hw.out
       have hoN := own_below HROWS.out hb0
       clear hx hd hw
       refine wp_append_keep (.tmp 41) (.tmp 43) 32 rfl B 66 iT (.agg #[.string ⟨#[]⟩, .int .i64 0, .slice none 0 0, .int .i64 0, .string ⟨#[]⟩, .string ⟨#[]⟩, .int .i64 0, .slice none 0 0, .int .i64 0]) 9 128 Tryd.underlying32 hi0 hi1 hi2 hi3 rfl (by decide) _ P.rules.length rows.flatten rfl hoN ⟨bb, 0, none⟩ 1 1 [.string ⟨#[]⟩, .int .i64 (-1), .slice none 0 0, .int .i64 0, .string ⟨#[]⟩, .string ⟨#[]⟩, .int .i64 (-1), .slice bA bl.length bC, .int .i64 ((tokAt ts sz i).pos : Int)] rfl rfl (At.news hbb) (by intro u hu; simp at hu; rcases hu with rfl | rfl | rfl | rfl | rfl | rfl | rfl | rfl | rfl <;> rfl) (by have := HP.out; unfold maxLen; omega) (by have := HP.out; omega) (Nat.le_trans HBS.out (Nat.le_trans hm9.size hb0.size)) fun v5 w5 o5 o6 g5 => ?_
       exact HK.out _ _ ⟨⟨hj.1.grown g5 (own_far hoN hj.1 (by decide)), hj.2.grown g5 HNB.out⟩, w', hb0, hoN, g5, o5⟩
      trivial
     case htail =>
      intro v w' x hw hx hd
      have t0 : v 0 = _ := hd.out 0 (by decide) rfl
      have t8 : v 8 = x := hx.out 8 _ rfl rfl
      simp only [t0, t8, List.drop_succ_cons, List.drop_zero]
      clear hx hd t0 t8
      obtain ⟨⟨hbx9, hax9⟩, WG, h91, h92, h93, h95⟩ := hw.out
      obtain ⟨A9, c9, rfl⟩ := own_len h95
      have y9 := hbx9.cell 6
      have f9 := hbx9.frozen 6
      have l9 := hbx9.lt
      clear hw
      go_wp2_with fail
      obtain ⟨e1, e2, e3, e4⟩ := end_rules (x := (⟨[], [], ⟨0, [], []⟩, bl, i⟩ : Px.Ru).ap (offI ts sz)) hr9 HOW.out HB.out h91 h92 HRR2.out h93 h95 HXR.out
      subst hRR
      first
       | go_end0
       | refine bodyPost_ret (results_none rfl _ _ _) rfl ?_
      exact ⟨rfl, (hm9.belowR hl).trans e3, (KeptX.mv HR.out hm9).trans e4, _, e1, e2⟩
  ·skip
   rw [Px.bind_ok hp] at hRR
   try dsimp only at hRR
   rw [if_neg (by simp)] at hRR
   have HC := Lib.hid (take_any hr3 [58, 45] (by decide))
   rw [hp] at HC
   clear hp
   rw [Px.bind_ret] at hRR
   try dsimp only at hRR
   go_wp2_with (go_at_call 42; refine (HC.out).mono ?_; rintro e W4 ⟨⟨_, rfl, rfl⟩, hn4, hr4⟩; have hm4 := hm3.trans hl hn4; have x_4 := hn4.at x_3 hnex; clear HC)
   cases hp : Px.need [46] (Px.kts ts) (i + 1) with
   | fail q5 =>
    rw [Px.bind_fail (hp)] at hRR
    subst hRR
    have HC := Lib.hid (need_any hr4 [46] (by decide))
    rw [hp] at HC
    clear hp
    go_wp2_with (go_at_call 55; refine (HC.out).mono ?_; rintro e wF ⟨rfl, hnF, hrF⟩)
    exact ⟨rfl, IPost.failed HR.out HO.out HB.out (hm4.trans hl hnF) hrF⟩
   | ok u q5 =>
    rw [Px.bind_ok (hp)] at hRR
    try dsimp only at hRR
    have HC := Lib.hid (need_any hr4 [46] (by decide))
    rw [hp] at HC
    have HQ5 := Lib.hid hp
    clear hp
    go_wp2_with (go_at_call 55; refine (HC.out).mono ?_; rintro e W5 ⟨⟨_, rfl, rfl⟩, hn6, hr6⟩; have hm6 := hm4.trans hl hn6; have x_6 := hn6.at x_4 hnex; clear HC)
    have hoW := HO.out.mv HB.out HR.out.box hm6
    obtain ⟨rows, hrows, hrr⟩ := hoW.rules
    have HOW := Lib.hid hoW
    have HROWS := Lib.hid hrows
    have HRR2 := Lib.hid hrr
    have HXR := Lib.hid (show RuR W5 [.string ⟨#[]⟩, .int .i64 (-1), .slice none 0 0, .int .i64 0, .string ⟨#[]⟩, .string ⟨#[]⟩, .int .i64 (-1), .slice none 0 0, .int .i64 ((tokAt ts sz i).pos : Int)] ((⟨[], [], ⟨0, [], []⟩, [], i⟩ : Px.Ru).ap (offI ts sz)) from ⟨_, _, rfl, TRow.nil _ _ _, TRows.of_own (ORows.nil _ 0 _ _)⟩)
    have HBX := Lib.hid hr6.box
    have HAX := Lib.hid x_6
    obtain ⟨iT, hi0, hi1, hi2, hi3⟩ := info_parts rule_info
    have HNB : Hid (some (W1.heap.size) ≠ Value.ownBlock (.slice o.r.a o.r.n o.r.c)) := Lib.hid (fun e => by
     obtain ⟨rows0, h0, _⟩ := HO.out.rules
     have h1 := (own_lt h0 e.symm).2
     have h2 := hBx
     omega)
    clear hoW hrows hrr
    refine' wp_region_chain 9 2 _ ([none, none, none, none, none, none, none, some 0, some 1] : List (Option Nat)) (fun p x W => match p with | 0 => (At W rb 87 (rdc TA ts.length tc q5 sz o) ∧ At W (W1.heap.size) 66 #[.string ⟨#[]⟩, .int .i64 (-1), .slice none 0 0, .int .i64 0, .string ⟨#[]⟩, .string ⟨#[]⟩, .int .i64 (-1), .slice none 0 0, .int .i64 ((tokAt ts sz i).pos : Int)]) ∧ Below W5.heap.size W5 W | 1 => (At W rb 87 (rdc TA ts.length tc q5 sz o) ∧ At W (W1.heap.size) 66 #[.string ⟨#[]⟩, .int .i64 (-1), .slice none 0 0, .int .i64 0, .string ⟨#[]⟩, .string ⟨#[]⟩, .int .i64 (-1), .slice none 0 0, .int .i64 ((tokAt ts sz i).pos : Int)]) ∧ ∃ bb, x = .slice (some ⟨bb, 0, none⟩) 1 1 ∧ At W bb 66 #[.string ⟨#[]⟩, .int .i64 (-1), .slice none 0 0, .int .i64 0, .string ⟨#[]⟩, .string ⟨#[]⟩, .int .i64 (-1), .slice none 0 0, .int .i64 ((tokAt ts sz i).pos : Int)] ∧ Below W5.heap.size W5 W | _ => (At W rb 87 (rdc TA ts.length tc q5 sz o) ∧ At W (W1.heap.size) 66 #[.string ⟨#[]⟩, .int .i64 (-1), .slice none 0 0, .int .i64 0, .string ⟨#[]⟩, .string ⟨#[]⟩, .int .i64 (-1), .slice none 0 0, .int .i64 ((tokAt ts sz i).pos : Int)]) ∧ ∃ WG, Below W5.heap.size W5 WG ∧ WG.ownsRow B 66 9 (.slice o.r.a o.r.n o.r.c) P.rules.length rows.flatten ∧ WG.grownBy W (Value.ownBlock (.slice o.r.a o.r.n o.r.c)) ∧ W.ownsRow B 66 9 x (P.rules.length + 1) (rows.flatten ++ [.string ⟨#[]⟩, .int .i64 (-1), .slice none 0 0, .int .i64 0, .string ⟨#[]⟩, .string ⟨#[]⟩, .int .i64 (-1), .slice none 0 0, .int .i64 ((tokAt ts sz i).pos : Int)])) (fun W => (At W rb 87 (rdc TA ts.length tc q5 sz o) ∧ At W (W1.heap.size) 66 #[.string ⟨#[]⟩, .int .i64 (-1), .slice none 0 0, .int .i64 0, .string ⟨#[]⟩, .string ⟨#[]⟩, .int .i64 (-1), .slice none 0 0, .int .i64 ((tokAt ts sz i).pos : Int)])) (Pv :: Pv :: Pv :: Pv :: Pv :: Pv :: Pv :: Fv :: Fv :: []) ?hF (by kernel_rfl) (by kernel_rfl) (by kernel_rfl) (of_decide_eq_true (by kernel_rfl)) (by kernel_rfl) (by kernel_rfl) (by kernel_rfl) (by kernel_rfl) (by kernel_rfl) ?hW ?hJ ?hops ?htail
    case hF => (intro v; simp only [over, Act.put, List.setIfInBounds_toArray, List.set_cons_zero, List.set_cons_succ, Nat.zero_add, Nat.reduceAdd]; exact rfl)
    case hW =>
     intro _
     have hbN : Below W5.heap.size W5 W5.drew := (Below.refl W5.heap.size W5).drew
     exact ⟨⟨HBX.out.next hbN, HAX.out.next hbN⟩, hbN⟩
    case hJ =>
     intro p x W2 h
     match p, h with
     | 0, h => exact h.1
     | 1, h => exact h.1
     | _ + 2, h => exact h.1
    case hops =>
     refine ⟨?_, ?_⟩
     ·intro v w' hj hd K hK
      have hk := hK.out
      simp only [Act.put, List.setIfInBounds_toArray, List.set_cons_zero, List.set_cons_succ] at hk
      have HK := Lib.hid hk
      clear hd hk hK
      go_simp
      exact HK.out _ (show _ = _ from rfl)
     refine ⟨?_, ?_⟩
     ·intro v w' hj hd K hK
      have hk := hK.out
      simp only [Act.put, List.setIfInBounds_toArray, List.set_cons_zero, List.set_cons_succ] at hk
      have HK := Lib.hid hk
      clear hd hk hK
      go_simp
      exact HK.out _ (show _ = _ from rfl)
     refine ⟨?_, ?_⟩
     ·intro v w' hj hd K hK
      have t1 : v 1 = _ := hd.out 1 (by kernel_rfl) rfl
      have hk := hK.out
      simp only [t1, Act.put, List.setIfInBounds_toArray, List.set_cons_zero, List.set_cons_succ] at hk
      have HK := Lib.hid hk
      clear hd hk hK
      go_simp
      exact HK.out _ (show _ = _ from rfl)
     refine ⟨?_, ?_⟩
     ·intro v w' hj hd K hK
      have t2 : v 2 = _ := hd.out 2 (by kernel_rfl) rfl
      have hk := hK.out
      simp only [t2, Act.put, List.setIfInBounds_toArray, List.set_cons_zero, List.set_cons_succ] at hk
      have HK := Lib.hid hk
      clear hd hk hK
      go_simp
      exact HK.out _ (show _ = _ from rfl)
     refine ⟨?_, ?_⟩
     ·intro v w' hj hd K hK
      have t3 : v 3 = _ := hd.out 3 (by kernel_rfl) rfl
      have hk := hK.out
      simp only [t3, Act.put, List.setIfInBounds_toArray, List.set_cons_zero, List.set_cons_succ] at hk
      have HK := Lib.hid hk
      clear hd hk hK
      go_simp
      exact HK.out _ (show _ = _ from rfl)
     refine ⟨?_, ?_⟩
     ·intro v w' hj hd K hK
      have t4 : v 4 = _ := hd.out 4 (by kernel_rfl) rfl
      have yx : w'.cell? ⟨rb, 6, none⟩ = some (.slice o.r.a o.r.n o.r.c) := hj.out.1.cell 6
      have hk := hK.out
      simp only [t4, Act.put, List.setIfInBounds_toArray, List.set_cons_zero, List.set_cons_succ] at hk
      have HK := Lib.hid hk
      clear hd hk hK
      go_simp
      exact HK.out _ (show _ = _ from rfl)
     refine ⟨?_, ?_⟩
     ·intro v w' hj hd K hK
      have yx0 := hj.out.2.cell 0
      have yx1 := hj.out.2.cell 1
      have yx2 := hj.out.2.cell 2
      have yx3 := hj.out.2.cell 3
      have yx4 := hj.out.2.cell 4
      have yx5 := hj.out.2.cell 5
      have yx6 := hj.out.2.cell 6
      have yx7 := hj.out.2.cell 7
      have yx8 := hj.out.2.cell 8
      simp only [List.getElem?_toArray, List.getElem?_cons_zero, List.getElem?_cons_succ] at yx0 yx1 yx2 yx3 yx4 yx5 yx6 yx7 yx8
      have hk := hK.out
      simp only [Act.put, List.setIfInBounds_toArray, List.set_cons_zero, List.set_cons_succ] at hk
      have HK := Lib.hid hk
      clear hd hk hK
      go_simp
      exact HK.out _ (show _ = _ from rfl)
     refine ⟨?_, ?_⟩
     ·intro v w' x hw hx hd K hK
      have t6 : v 6 = _ := hd.out 6 (by kernel_rfl) rfl
      have hk := hK.out
      simp only [t6, Act.put, List.setIfInBounds_toArray, List.set_cons_zero, List.set_cons_succ] at hk
      have HK := Lib.hid hk
      obtain ⟨hj, hb0⟩ := hw.out
      clear hd hk hK
      go_simp
      have hbN : Below W5.heap.size W5 (w'.alloc (.cells #[.string ⟨#[]⟩, .int .i64 (-1), .slice none 0 0, .int .i64 0, .string ⟨#[]⟩, .string ⟨#[]⟩, .int .i64 (-1), .slice none 0 0, .int .i64 ((tokAt ts sz i).pos : Int)] 66)) := hb0.alloc hb0.size _
      exact HK.out _ _ ⟨⟨HBX.out.next hbN, HAX.out.next hbN⟩, _, rfl, At.new _ _ _, hbN⟩
     refine ⟨?_, ?_⟩
     ·intro v w' x hw hx hd K hK
      have t5 : v 5 = _ := hd.out 5 (by kernel_rfl) rfl
      have t7 : v 7 = x := hx.out 7 _ rfl rfl
      have hk := hK.out
      rw [if_pos (show Region.wanted _ _ = true from rfl)]
      simp only [t5, t7] at hk ⊢
      have HK := Lib.hid hk
      obtain ⟨hj, bb, rfl, hbb, hb0⟩ := hw.out
      have hoN := own_below HROWS.out hb0
      clear hx hd hw
      refine wp_append_keep (.tmp 41) (.tmp 43) 32 rfl B 66 iT (.agg #[.string ⟨#[]⟩, .int .i64 0, .slice none 0 0, .int .i64 0, .string ⟨#[]⟩, .string ⟨#[]⟩, .int .i64 0, .slice none 0 0, .int .i64 0]) 9 128 Tryd.underlying32 hi0 hi1 hi2 hi3 rfl (by decide) _ P.rules.length rows.flatten rfl hoN ⟨bb, 0, none⟩ 1 1 [.string ⟨#[]⟩, .int .i64 (-1), .slice none 0 0, .int .i64 0, .string ⟨#[]⟩, .string ⟨#[]⟩, .int .i64 (-1), .slice none 0 0, .int .i64 ((tokAt ts sz i).pos : Int)] rfl rfl (At.news hbb) (by intro u hu; simp at hu; rcases hu with rfl | rfl | rfl | rfl | rfl | rfl | rfl | rfl | rfl <;> rfl) (by have := HP.out; unfold maxLen; omega) (by have := HP.out; omega) (Nat.le_trans HBS.out (Nat.le_trans hm6.size hb0.size)) fun v5 w5 o5 o6 g5 => ?_
      exact HK.out _ _ ⟨⟨hj.1.grown g5 (own_far hoN hj.1 (by decide)), hj.2.grown g5 HNB.out⟩, w', hb0, hoN, g5, o5⟩
     trivial
    case htail =>
     intro v w' x hw hx hd
     have t0 : v 0 = _ := hd.out 0 (by decide) rfl
     have t8 : v 8 = x := hx.out 8 _ rfl rfl
     simp only [t0, t8, List.drop_succ_cons, List.drop_zero]
     clear hx hd t0 t8
     obtain ⟨⟨hbx9, hax9⟩, WG, h91, h92, h93, h95⟩ := hw.out
     obtain ⟨A9, c9, rfl⟩ := own_len h95
     have y9 := hbx9.cell 6
     have f9 := hbx9.frozen 6
     have l9 := hbx9.lt
     clear hw
     go_wp2_with fail
     obtain ⟨e1, e2, e3, e4⟩ := end_rules (x := (⟨[], [], ⟨0, [], []⟩, [], i⟩ : Px.Ru).ap (offI ts sz)) hr6 HOW.out HB.out h91 h92 HRR2.out h93 h95 HXR.out
     subst hRR
     first
      | go_end0
      | refine bodyPost_ret (results_none rfl _ _ _) rfl ?_
     exact ⟨rfl, (hm6.belowR hl).trans e3, (KeptX.mv HR.out hm6).trans e4, _, e1, e2⟩
 ·skip
  rw [Px.bind_ok hp] at hRR
  try dsimp only at hRR
  rw [if_neg (by simp)] at hRR
  have HC := Lib.hid (take_any hr2 Px.sDeny (by decide))
  rw [hp] at HC
  clear hp
  unfold Px.ruleHead at hRR
  simp only [Px.bind_assoc] at hRR
  go_wp2_with (go_at_call 42; refine (HC.out).mono ?_; rintro e W3 ⟨⟨_, rfl, rfl⟩, hn3, hr3⟩; have hm3 := hm2.trans hl hn3; have x_3 := hn3.at x_2 hnex; clear HC)
  cases hp : Px.word 1 (Px.kts ts) i with
  | fail q4 =>
   rw [Px.bind_fail (hp)] at hRR
   subst hRR
   have HC := Lib.hid (pword_any hr3 1 (by omega))
   rw [hp] at HC
   clear hp
   go_wp2_with (go_at_call 43; refine (HC.out).mono ?_; rintro e wF ⟨rfl, hnF, hrF⟩)
   exact ⟨rfl, IPost.failed HR.out HO.out HB.out (hm3.trans hl hnF) hrF⟩
  | ok nm q4 =>
   rw [Px.bind_ok (hp)] at hRR
   try dsimp only at hRR
   have HC := Lib.hid (pword_any hr3 1 (by omega))
   rw [hp] at HC
   have HQ4 := Lib.hid hp
   clear hp
   go_wp2_with (go_at_call 43; refine (HC.out).mono ?_; rintro e W4 ⟨⟨_, rfl, rfl⟩, hn5, hr5⟩; have hm5 := hm3.trans hl hn5; have x_5 := hn5.at x_3 hnex; clear HC; have yx0 := x_5.cell 0; have yx1 := x_5.cell 1; have yx2 := x_5.cell 2; have yx3 := x_5.cell 3; have yx4 := x_5.cell 4; have yx5 := x_5.cell 5; have yx6 := x_5.cell 6; have yx7 := x_5.cell 7; have yx8 := x_5.cell 8; have fx0 := x_5.frozen 0; have fx1 := x_5.frozen 1; have fx2 := x_5.frozen 2; have fx3 := x_5.frozen 3; have fx4 := x_5.frozen 4; have fx5 := x_5.frozen 5; have fx6 := x_5.frozen 6; have fx7 := x_5.frozen 7; have fx8 := x_5.frozen 8; have ylx := x_5.lt; simp only [List.getElem?_toArray, List.getElem?_cons_zero, List.getElem?_cons_succ] at yx0 yx1 yx2 yx3 yx4 yx5 yx6 yx7 yx8)
   clear yx0 fx0 yx1 fx1 yx2 fx2 yx3 fx3 yx4 fx4 yx5 fx5 yx6 fx6 yx7 fx7 yx8 fx8 ylx
   have x_6 := (x_5.put 0 (.string (bs nm)))
   simp only [List.setIfInBounds_toArray, List.set_cons_zero, List.set_cons_succ] at x_6
   have hm6 := hm5.after ((Below.refl (W1.heap.size) W4).setCell (p := ⟨W1.heap.size, 0, none⟩) (Nat.le_refl _) (.string (bs nm))) hBx
   have hr6 := hm6.rd HR.out hr5.few.2.2
   have hz6 : (W4.setCell ⟨W1.heap.size, 0, none⟩ (.string (bs nm))).heap.size = W4.heap.size := (by simp : (W4.setCell ⟨W1.heap.size, 0, none⟩ (.string (bs nm))).heap.size = W4.heap.size).trans rfl
   generalize hw6 : (W4.setCell ⟨W1.heap.size, 0, none⟩ (.string (bs nm))) = W5 at x_6 hm6 hr6 hz6 ⊢
   clear hw6
   cases hp : Px.need [40] (Px.kts ts) q4 with
   | fail q7 =>
    rw [Px.bind_fail (hp)] at hRR
    subst hRR
    have HC := Lib.hid (need_any hr6 [40] (by decide))
    rw [hp] at HC
    clear hp
    go_wp2_with (go_at_call 55; refine (HC.out).mono ?_; rintro e wF ⟨rfl, hnF, hrF⟩)
    exact ⟨rfl, IPost.failed HR.out HO.out HB.out (hm6.trans hl hnF) hrF⟩
   | ok u q7 =>
    rw [Px.bind_ok (hp)] at hRR
    try dsimp only at hRR
    have HC := Lib.hid (need_any hr6 [40] (by decide))
    rw [hp] at HC
    have HQ7 := Lib.hid hp
    clear hp
    go_wp2_with (go_at_call 55; refine (HC.out).mono ?_; rintro e W6 ⟨⟨_, rfl, rfl⟩, hn8, hr8⟩; have hm8 := hm6.trans hl hn8; have x_8 := hn8.at x_6 hnex; clear HC)
    cases hp : Px.terms Px.term (Px.kts ts) q7 with
    | fail q9 =>
     rw [Px.bind_fail (hp)] at hRR
     subst hRR
     have HC := Lib.hid (terms_term hr8)
     rw [hp] at HC
     clear hp
     go_wp2_with (go_at_call 40; refine (HC.out).mono ?_; rintro e wF ⟨rfl, hnF, hrF⟩)
     exact ⟨rfl, IPost.failed HR.out HO.out HB.out (hm8.trans hl hnF) hrF⟩
    | ok ag q9 =>
     rw [Px.bind_ok (hp)] at hRR
     try dsimp only at hRR
     have HC := Lib.hid (terms_term hr8)
     rw [hp] at HC
     have HQ9 := Lib.hid hp
     clear hp
     go_wp2_with (go_at_call 40; refine (HC.out).mono ?_; rintro e W7 ⟨⟨av, rfl, ho0⟩, hn10, hr10⟩; have hm10 := hm8.trans hl hn10; have x_10 := hn10.at x_8 hnex; obtain ⟨aA, aC, rfl⟩ := own_len ho0; have ar_10 := own_mono ho0 hm8.size; clear HC; have yx0 := x_10.cell 0; have yx1 := x_10.cell 1; have yx2 := x_10.cell 2; have yx3 := x_10.cell 3; have yx4 := x_10.cell 4; have yx5 := x_10.cell 5; have yx6 := x_10.cell 6; have yx7 := x_10.cell 7; have yx8 := x_10.cell 8; have fx0 := x_10.frozen 0; have fx1 := x_10.frozen 1; have fx2 := x_10.frozen 2; have fx3 := x_10.frozen 3; have fx4 := x_10.frozen 4; have fx5 := x_10.frozen 5; have fx6 := x_10.frozen 6; have fx7 := x_10.frozen 7; have fx8 := x_10.frozen 8; have ylx := x_10.lt; simp only [List.getElem?_toArray, List.getElem?_cons_zero, List.getElem?_cons_succ] at yx0 yx1 yx2 yx3 yx4 yx5 yx6 yx7 yx8)
     clear yx0 fx0 yx1 fx1 yx2 fx2 yx3 fx3 yx4 fx4 yx5 fx5 yx6 fx6 yx7 fx7 yx8 fx8 ylx
     have x_11 := (x_10.put 2 (.slice aA ag.length aC))
     simp only [List.setIfInBounds_toArray, List.set_cons_zero, List.set_cons_succ] at x_11
     have hm11 := hm10.after ((Below.refl (W1.heap.size) W7).setCell (p := ⟨W1.heap.size, 2, none⟩) (Nat.le_refl _) (.slice aA ag.length aC)) hBx
     have hr11 := hm11.rd HR.out hr10.few.2.2
     have ar_11 := ar_10
     replace ar_11 := own_putne ar_11 (p := ⟨W1.heap.size, 2, none⟩) (own_far ar_11 x_10 (by decide)) (.slice aA ag.length aC)
     have hz11 : (W7.setCell ⟨W1.heap.size, 2, none⟩ (.slice aA ag.length aC)).heap.size = W7.heap.size := (by simp : (W7.setCell ⟨W1.heap.size, 2, none⟩ (.slice aA ag.length aC)).heap.size = W7.heap.size).trans rfl
     generalize hw11 : (W7.setCell ⟨W1.heap.size, 2, none⟩ (.slice aA ag.length aC)) = W8 at x_11 hm11 hr11 ar_11 hz11 ⊢
     clear hw11
     unfold Px.optElem at hRR
     simp only [Px.bind_assoc] at hRR
     rcases Px.take_two [59] (Px.kts ts) q9 with hp | hp
     ·skip
      rw [Px.bind_ok hp] at hRR
      try dsimp only at hRR
      first | rw [if_pos rfl] at hRR | rw [if_pos trivial] at hRR
      have HC := Lib.hid (take_any hr11 [59] (by decide))
      rw [hp] at HC
      clear hp
      go_wp2_with (go_at_call 42; refine (HC.out).mono ?_; rintro e W9 ⟨⟨_, rfl, rfl⟩, hn12, hr12⟩; have hm12 := hm11.trans hl hn12; have x_12 := hn12.at x_11 hnex; have ar_12 := own_mv hlB ar_11 hn12; clear HC)
      cases hp : Px.element (Px.kts ts) (q9 + 1) with
      | fail q13 =>
       rw [Px.bind_fail (hp)] at hRR
       subst hRR
       have HC := Lib.hid (element_any hr12)
       rw [hp] at HC
       clear hp
       go_wp2_with (go_at_call 56; refine (HC.out).mono ?_; rintro e wF ⟨rfl, hnF, hrF⟩)
       exact ⟨rfl, IPost.failed HR.out HO.out HB.out (hm12.trans hl hnF) hrF⟩
      | ok el q13 =>
       rw [Px.bind_ok (hp)] at hRR
       try dsimp only at hRR
       have HC := Lib.hid (element_any hr12)
       rw [hp] at HC
       unfold elV at HC
       have HQ13 := Lib.hid hp
       clear hp
       go_wp2_with (go_at_call 56; refine (HC.out).mono ?_; rintro e W10 ⟨⟨_, rfl, rfl⟩, hn14, hr14⟩; have hm14 := hm12.trans hl hn14; have x_14 := hn14.at x_12 hnex; have ar_14 := own_mv hlB ar_12 hn14; clear HC; have yx0 := x_14.cell 0; have yx1 := x_14.cell 1; have yx2 := x_14.cell 2; have yx3 := x_14.cell 3; have yx4 := x_14.cell 4; have yx5 := x_14.cell 5; have yx6 := x_14.cell 6; have yx7 := x_14.cell 7; have yx8 := x_14.cell 8; have fx0 := x_14.frozen 0; have fx1 := x_14.frozen 1; have fx2 := x_14.frozen 2; have fx3 := x_14.frozen 3; have fx4 := x_14.frozen 4; have fx5 := x_14.frozen 5; have fx6 := x_14.frozen 6; have fx7 := x_14.frozen 7; have fx8 := x_14.frozen 8; have ylx := x_14.lt; simp only [List.getElem?_toArray, List.getElem?_cons_zero, List.getElem?_cons_succ] at yx0 yx1 yx2 yx3 yx4 yx5 yx6 yx7 yx8)
       clear yx0 fx0 yx1 fx1 yx2 fx2 yx3 fx3 yx4 fx4 yx5 fx5 yx6 fx6 yx7 fx7 yx8 fx8 ylx
       have x_15 := ((((x_14.put 3 (.int .i64 el.kind)).put 4 (.string (bs el.name))).put 5 (.string (bs el.var))).put 6 (.int .i64 (-1)))
       simp only [List.setIfInBounds_toArray, List.set_cons_zero, List.set_cons_succ] at x_15
       have hm15 := hm14.after (((((Below.refl (W1.heap.size) W10).setCell (p := ⟨W1.heap.size, 3, none⟩) (Nat.le_refl _) (.int .i64 el.kind)).setCell (p := ⟨W1.heap.size, 4, none⟩) (Nat.le_refl _) (.string (bs el.name))).setCell (p := ⟨W1.heap.size, 5, none⟩) (Nat.le_refl _) (.string (bs el.var))).setCell (p := ⟨W1.heap.size, 6, none⟩) (Nat.le_refl _) (.int .i64 (-1))) hBx
       have hr15 := hm15.rd HR.out hr14.few.2.2
       have ar_15 := ar_14
       replace ar_15 := own_putne ar_15 (p := ⟨W1.heap.size, 3, none⟩) (own_far ar_15 x_14 (by decide)) (.int .i64 el.kind)
       replace ar_15 := own_putne ar_15 (p := ⟨W1.heap.size, 4, none⟩) (own_far ar_15 (x_14.put 3 (.int .i64 el.kind)) (by decide)) (.string (bs el.name))
       replace ar_15 := own_putne ar_15 (p := ⟨W1.heap.size, 5, none⟩) (own_far ar_15 ((x_14.put 3 (.int .i64 el.kind)).put 4 (.string (bs el.name))) (by decide)) (.string (bs el.var))
       replace ar_15 := own_putne ar_15 (p := ⟨W1.heap.size, 6, none⟩) (own_far ar_15 (((x_14.put 3 (.int .i64 el.kind)).put 4 (.string (bs el.name))).put 5 (.string (bs el.var))) (by decide)) (.int .i64 (-1))
       have hz15 : ((((W10.setCell ⟨W1.heap.size, 3, none⟩ (.int .i64 el.kind)).setCell ⟨W1.heap.size, 4, none⟩ (.string (bs el.name))).setCell ⟨W1.heap.size, 5, none⟩ (.string (bs el.var))).setCell ⟨W1.heap.size, 6, none⟩ (.int .i64 (-1))).heap.size = W10.heap.size := (by simp : ((((W10.setCell ⟨W1.heap.size, 3, none⟩ (.int .i64 el.kind)).setCell ⟨W1.heap.size, 4, none⟩ (.string (bs el.name))).setCell ⟨W1.heap.size, 5, none⟩ (.string (bs el.var))).setCell ⟨W1.heap.size, 6, none⟩ (.int .i64 (-1))).heap.size = W10.heap.size).trans rfl
       generalize hw15 : ((((W10.setCell ⟨W1.heap.size, 3, none⟩ (.int .i64 el.kind)).setCell ⟨W1.heap.size, 4, none⟩ (.string (bs el.name))).setCell ⟨W1.heap.size, 5, none⟩ (.string (bs el.var))).setCell ⟨W1.heap.size, 6, none⟩ (.int .i64 (-1))) = W11 at x_15 hm15 hr15 ar_15 hz15 ⊢
       clear hw15
       cases hp : Px.need [41] (Px.kts ts) q13 with
       | fail q16 =>
        rw [Px.bind_fail (hp)] at hRR
        subst hRR
        have HC := Lib.hid (need_any hr15 [41] (by decide))
        rw [hp] at HC
        clear hp
        go_wp2_with (go_at_call 55; refine (HC.out).mono ?_; rintro e wF ⟨rfl, hnF, hrF⟩)
        exact ⟨rfl, IPost.failed HR.out HO.out HB.out (hm15.trans hl hnF) hrF⟩
       | ok u q16 =>
        rw [Px.bind_ok (hp)] at hRR
        try dsimp only at hRR
        have HC := Lib.hid (need_any hr15 [41] (by decide))
        rw [hp] at HC
        have HQ16 := Lib.hid hp
        clear hp
        go_wp2_with (go_at_call 55; refine (HC.out).mono ?_; rintro e W12 ⟨⟨_, rfl, rfl⟩, hn17, hr17⟩; have hm17 := hm15.trans hl hn17; have x_17 := hn17.at x_15 hnex; have ar_17 := own_mv hlB ar_15 hn17; clear HC)
        rw [Px.bind_ret] at hRR
        try dsimp only at hRR
        unfold Px.optBody at hRR
        simp only [Px.bind_assoc] at hRR
        rcases Px.take_two [58, 45] (Px.kts ts) q16 with hp | hp
        ·skip
         rw [Px.bind_ok hp] at hRR
         try dsimp only at hRR
         first | rw [if_pos rfl] at hRR | rw [if_pos trivial] at hRR
         have HC := Lib.hid (take_any hr17 [58, 45] (by decide))
         rw [hp] at HC
         clear hp
         go_wp2_with (go_at_call 42; refine (HC.out).mono ?_; rintro e W13 ⟨⟨_, rfl, rfl⟩, hn18, hr18⟩; have hm18 := hm17.trans hl hn18; have x_18 := hn18.at x_17 hnex; have ar_18 := own_mv hlB ar_17 hn18; clear HC)
         cases hp : Px.list Px.literal (Px.kts ts) (q16 + 1) with
         | fail q19 =>
          rw [Px.bind_fail (hp)] at hRR
          subst hRR
          have HC := Lib.hid (list_literal hr18)
          rw [hp] at HC
          clear hp
          go_wp2_with (go_at_call 57; refine (HC.out).mono ?_; rintro e wF ⟨rfl, hnF, hrF⟩)
          exact ⟨rfl, IPost.failed HR.out HO.out HB.out (hm18.trans hl hnF) hrF⟩
         | ok bl q19 =>
          rw [Px.bind_ok (hp)] at hRR
          try dsimp only at hRR
          have HC := Lib.hid (list_literal hr18)
          rw [hp] at HC
          have HQ19 := Lib.hid hp
          clear hp
          go_wp2_with (go_at_call 57; refine (HC.out).mono ?_; rintro e W14 ⟨⟨bv, rfl, hL0⟩, hn20, hr20⟩; have hm20 := hm18.trans hl hn20; have x_20 := hn20.at x_18 hnex; have ar_20 := own_mv hlB ar_18 hn20; obtain ⟨bA, bC, rfl⟩ := ORows.slice' hL0; have bo_20 := ORows.mono hL0 hm18.size; clear HC; have yx0 := x_20.cell 0; have yx1 := x_20.cell 1; have yx2 := x_20.cell 2; have yx3 := x_20.cell 3; have yx4 := x_20.cell 4; have yx5 := x_20.cell 5; have yx6 := x_20.cell 6; have yx7 := x_20.cell 7; have yx8 := x_20.cell 8; have fx0 := x_20.frozen 0; have fx1 := x_20.frozen 1; have fx2 := x_20.frozen 2; have fx3 := x_20.frozen 3; have fx4 := x_20.frozen 4; have fx5 := x_20.frozen 5; have fx6 := x_20.frozen 6; have fx7 := x_20.frozen 7; have fx8 := x_20.frozen 8; have ylx := x_20.lt; simp only [List.getElem?_toArray, List.getElem?_cons_zero, List.getElem?_cons_succ] at yx0 yx1 yx2 yx3 yx4 yx5 yx6 yx7 yx8)
          clear yx0 fx0 yx1 fx1 yx2 fx2 yx3 fx3 yx4 fx4 yx5 fx5 yx6 fx6 yx7 fx7 yx8 fx8 ylx
          have x_21 := (x_20.put 7 (.slice bA bl.length bC))
          simp only [List.setIfInBounds_toArray, List.set_cons_zero, List.set_cons_succ] at x_21
          have hm21 := hm20.after ((Below.refl (W1.heap.size) W14).setCell (p := ⟨W1.heap.size, 7, none⟩) (Nat.le_refl _) (.slice bA bl.length bC)) hBx
          have hr21 := hm21.rd HR.out hr20.few.2.2
          have ar_21 := ar_20
          replace ar_21 := own_putne ar_21 (p := ⟨W1.heap.size, 7, none⟩) (own_far ar_21 x_20 (by decide)) (.slice bA bl.length bC)
          have bo_21 := bo_20
          replace bo_21 := ORows.putL bo_21 x_20 (by decide) (by decide) 7 (.slice bA bl.length bC)
          have hz21 : (W14.setCell ⟨W1.heap.size, 7, none⟩ (.slice bA bl.length bC)).heap.size = W14.heap.size := (by simp : (W14.setCell ⟨W1.heap.size, 7, none⟩ (.slice bA bl.length bC)).heap.size = W14.heap.size).trans rfl
          generalize hw21 : (W14.setCell ⟨W1.heap.size, 7, none⟩ (.slice bA bl.length bC)) = W15 at x_21 hm21 hr21 ar_21 bo_21 hz21 ⊢
          clear hw21
          cases hp : Px.need [46] (Px.kts ts) q19 with
          | fail q22 =>
           rw [Px.bind_fail (hp)] at hRR
           subst hRR
           have HC := Lib.hid (need_any hr21 [46] (by decide))
           rw [hp] at HC
           clear hp
           go_wp2_with (go_at_call 55; refine (HC.out).mono ?_; rintro e wF ⟨rfl, hnF, hrF⟩)
           exact ⟨rfl, IPost.failed HR.out HO.out HB.out (hm21.trans hl hnF) hrF⟩
          | ok u q22 =>
           rw [Px.bind_ok (hp)] at hRR
           try dsimp only at hRR
           have HC := Lib.hid (need_any hr21 [46] (by decide))
           rw [hp] at HC
           have HQ22 := Lib.hid hp
           clear hp
           go_wp2_with (go_at_call 55; refine (HC.out).mono ?_; rintro e W16 ⟨⟨_, rfl, rfl⟩, hn23, hr23⟩; have hm23 := hm21.trans hl hn23; have x_23 := hn23.at x_21 hnex; have ar_23 := own_mv hlB ar_21 hn23; have bo_23 := ORows.mvL bo_21 hlB hr21.box hn23; clear HC)
           have hoW := HO.out.mv HB.out HR.out.box hm23
           obtain ⟨rows, hrows, hrr⟩ := hoW.rules
           have HOW := Lib.hid hoW
           have HROWS := Lib.hid hrows
           have HRR2 := Lib.hid hrr
           have HXR := Lib.hid (show RuR W16 [.string (bs nm), .int .i64 (-1), .slice aA ag.length aC, .int .i64 el.kind, .string (bs el.name), .string (bs el.var), .int .i64 (-1), .slice bA bl.length bC, .int .i64 ((tokAt ts sz i).pos : Int)] ((⟨nm, ag, el, bl, i⟩ : Px.Ru).ap (offI ts sz)) from ⟨_, _, rfl, TRow.of_own ar_23, TRows.of_own bo_23⟩)
           have HBX := Lib.hid hr23.box
           have HAX := Lib.hid x_23
           obtain ⟨iT, hi0, hi1, hi2, hi3⟩ := info_parts rule_info
           have HNB : Hid (some (W1.heap.size) ≠ Value.ownBlock (.slice o.r.a o.r.n o.r.c)) := Lib.hid (fun e => by
            obtain ⟨rows0, h0, _⟩ := HO.out.rules
            have h1 := (own_lt h0 e.symm).2
            have h2 := hBx
            omega)
           clear hoW hrows hrr
           refine' wp_region_chain 9 2 _ ([none, none, none, none, none, none, none, some 0, some 1] : List (Option Nat)) (fun p x W => match p with | 0 => (At W rb 87 (rdc TA ts.length tc q22 sz o) ∧ At W (W1.heap.size) 66 #[.string (bs nm), .int .i64 (-1), .slice aA ag.length aC, .int .i64 el.kind, .string (bs el.name), .string (bs el.var), .int .i64 (-1), .slice bA bl.length bC, .int .i64 ((tokAt ts sz i).pos : Int)]) ∧ Below W16.heap.size W16 W | 1 => (At W rb 87 (rdc TA ts.length tc q22 sz o) ∧ At W (W1.heap.size) 66 #[.string (bs nm), .int .i64 (-1), .slice aA ag.length aC, .int .i64 el.kind, .string (bs el.name), .string (bs el.var), .int .i64 (-1), .slice bA bl.length bC, .int .i64 ((tokAt ts sz i).pos : Int)]) ∧ ∃ bb, x = .slice (some ⟨bb, 0, none⟩) 1 1 ∧ At W bb 66 #[.string (bs nm), .int .i64 (-1), .slice aA ag.length aC, .int .i64 el.kind, .string (bs el.name), .string (bs el.var), .int .i64 (-1), .slice bA bl.length bC, .int .i64 ((tokAt ts sz i).pos : Int)] ∧ Below W16.heap.size W16 W | _ => (At W rb 87 (rdc TA ts.length tc q22 sz o) ∧ At W (W1.heap.size) 66 #[.string (bs nm), .int .i64 (-1), .slice aA ag.length aC, .int .i64 el.kind, .string (bs el.name), .string (bs el.var), .int .i64 (-1), .slice bA bl.length bC, .int .i64 ((tokAt ts sz i).pos : Int)]) ∧ ∃ WG, Below W16.heap.size W16 WG ∧ WG.ownsRow B 66 9 (.slice o.r.a o.r.n o.r.c) P.rules.length rows.flatten ∧ WG.grownBy W (Value.ownBlock (.slice o.r.a o.r.n o.r.c)) ∧ W.ownsRow B 66 9 x (P.rules.length + 1) (rows.flatten ++ [.string (bs nm), .int .i64 (-1), .slice aA ag.length aC, .int .i64 el.kind, .string (bs el.name), .string (bs el.var), .int .i64 (-1), .slice bA bl.length bC, .int .i64 ((tokAt ts sz i).pos : Int)])) (fun W => (At W rb 87 (rdc TA ts.length tc q22 sz o) ∧ At W (W1.heap.size) 66 #[.string (bs nm), .int .i64 (-1), .slice aA ag.length aC, .int .i64 el.kind, .string (bs el.name), .string (bs el.var), .int .i64 (-1), .slice bA bl.length bC, .int .i64 ((tokAt ts sz i).pos : Int)])) (Pv :: Pv :: Pv :: Pv :: Pv :: Pv :: Pv :: Fv :: Fv :: []) ?hF (by kernel_rfl) (by kernel_rfl) (by kernel_rfl) (of_decide_eq_true (by kernel_rfl)) (by kernel_rfl) (by kernel_rfl) (by kernel_rfl) (by kernel_rfl) (by kernel_rfl) ?hW ?hJ ?hops ?htail
           case hF => (intro v; simp only [over, Act.put, List.setIfInBounds_toArray, List.set_cons_zero, List.set_cons_succ, Nat.zero_add, Nat.reduceAdd]; exact rfl)
           case hW =>
            intro _
            have hbN : Below W16.heap.size W16 W16.drew := (Below.refl W16.heap.size W16).drew
            exact ⟨⟨HBX.out.next hbN, HAX.out.next hbN⟩, hbN⟩
           case hJ =>
            intro p x W2 h
            match p, h with
            | 0, h => exact h.1
            | 1, h => exact h.1
            | _ + 2, h => exact h.1
           case hops =>
            refine ⟨?_, ?_⟩
            ·intro v w' hj hd K hK
             have hk := hK.out
             simp only [Act.put, List.setIfInBounds_toArray, List.set_cons_zero, List.set_cons_succ] at hk
             have HK := Lib.hid hk
             clear hd hk hK
             go_simp
             exact HK.out _ (show _ = _ from rfl)
            refine ⟨?_, ?_⟩
            ·intro v w' hj hd K hK
             have hk := hK.out
             simp only [Act.put, List.setIfInBounds_toArray, List.set_cons_zero, List.set_cons_succ] at hk
             have HK := Lib.hid hk
             clear hd hk hK
             go_simp
             exact HK.out _ (show _ = _ from rfl)
            refine ⟨?_, ?_⟩
            ·intro v w' hj hd K hK
             have t1 : v 1 = _ := hd.out 1 (by kernel_rfl) rfl
             have hk := hK.out
             simp only [t1, Act.put, List.setIfInBounds_toArray, List.set_cons_zero, List.set_cons_succ] at hk
             have HK := Lib.hid hk
             clear hd hk hK
             go_simp
             exact HK.out _ (show _ = _ from rfl)
            refine ⟨?_, ?_⟩
            ·intro v w' hj hd K hK
             have t2 : v 2 = _ := hd.out 2 (by kernel_rfl) rfl
             have hk := hK.out
             simp only [t2, Act.put, List.setIfInBounds_toArray, List.set_cons_zero, List.set_cons_succ] at hk
             have HK := Lib.hid hk
             clear hd hk hK
             go_simp
             exact HK.out _ (show _ = _ from rfl)
            refine ⟨?_, ?_⟩
            ·intro v w' hj hd K hK
             have t3 : v 3 = _ := hd.out 3 (by kernel_rfl) rfl
             have hk := hK.out
             simp only [t3, Act.put, List.setIfInBounds_toArray, List.set_cons_zero, List.set_cons_succ] at hk
             have HK := Lib.hid hk
             clear hd hk hK
             go_simp
             exact HK.out _ (show _ = _ from rfl)
            refine ⟨?_, ?_⟩
            ·intro v w' hj hd K hK
             have t4 : v 4 = _ := hd.out 4 (by kernel_rfl) rfl
             have yx : w'.cell? ⟨rb, 6, none⟩ = some (.slice o.r.a o.r.n o.r.c) := hj.out.1.cell 6
             have hk := hK.out
             simp only [t4, Act.put, List.setIfInBounds_toArray, List.set_cons_zero, List.set_cons_succ] at hk
             have HK := Lib.hid hk
             clear hd hk hK
             go_simp
             exact HK.out _ (show _ = _ from rfl)
            refine ⟨?_, ?_⟩
            ·intro v w' hj hd K hK
             have yx0 := hj.out.2.cell 0
             have yx1 := hj.out.2.cell 1
             have yx2 := hj.out.2.cell 2
             have yx3 := hj.out.2.cell 3
             have yx4 := hj.out.2.cell 4
             have yx5 := hj.out.2.cell 5
             have yx6 := hj.out.2.cell 6
             have yx7 := hj.out.2.cell 7
             have yx8 := hj.out.2.cell 8
             simp only [List.getElem?_toArray, List.getElem?_cons_zero, List.getElem?_cons_succ] at yx0 yx1 yx2 yx3 yx4 yx5 yx6 yx7 yx8
             have hk := hK.out
             simp only [Act.put, List.setIfInBounds_toArray, List.set_cons_zero, List.set_cons_succ] at hk
             have HK := Lib.hid hk
             clear hd hk hK
             go_simp
             exact HK.out _ (show _ = _ from rfl)
            refine ⟨?_, ?_⟩
            ·intro v w' x hw hx hd K hK
             have t6 : v 6 = _ := hd.out 6 (by kernel_rfl) rfl
             have hk := hK.out
             simp only [t6, Act.put, List.setIfInBounds_toArray, List.set_cons_zero, List.set_cons_succ] at hk
             have HK := Lib.hid hk
             obtain ⟨hj, hb0⟩ := hw.out
             clear hd hk hK
             go_simp
             have hbN : Below W16.heap.size W16 (w'.alloc (.cells #[.string (bs nm), .int .i64 (-1), .slice aA ag.length aC, .int .i64 el.kind, .string (bs el.name), .string (bs el.var), .int .i64 (-1), .slice bA bl.length bC, .int .i64 ((tokAt ts sz i).pos : Int)] 66)) := hb0.alloc hb0.size _
             exact HK.out _ _ ⟨⟨HBX.out.next hbN, HAX.out.next hbN⟩, _, rfl, At.new _ _ _, hbN⟩
            refine ⟨?_, ?_⟩
            ·intro v w' x hw hx hd K hK
             have t5 : v 5 = _ := hd.out 5 (by kernel_rfl) rfl
             have t7 : v 7 = x := hx.out 7 _ rfl rfl
             have hk := hK.out
             rw [if_pos (show Region.wanted _ _ = true from rfl)]
             simp only [t5, t7] at hk ⊢
             have HK := Lib.hid hk
             obtain ⟨hj, bb, rfl, hbb, hb0⟩ := hw.out
             have hoN := own_below HROWS.out hb0
             clear hx hd hw
             refine wp_append_keep (.tmp 41) (.tmp 43) 32 rfl B 66 iT (.agg #[.string ⟨#[]⟩, .int .i64 0, .slice none 0 0, .int .i64 0, .string ⟨#[]⟩, .string ⟨#[]⟩, .int .i64 0, .slice none 0 0, .int .i64 0]) 9 128 Tryd.underlying32 hi0 hi1 hi2 hi3 rfl (by decide) _ P.rules.length rows.flatten rfl hoN ⟨bb, 0, none⟩ 1 1 [.string (bs nm), .int .i64 (-1), .slice aA ag.length aC, .int .i64 el.kind, .string (bs el.name), .string (bs el.var), .int .i64 (-1), .slice bA bl.length bC, .int .i64 ((tokAt ts sz i).pos : Int)] rfl rfl (At.news hbb) (by intro u hu; simp at hu; rcases hu with rfl | rfl | rfl | rfl | rfl | rfl | rfl | rfl | rfl <;> rfl) (by have := HP.out; unfold maxLen; omega) (by have := HP.out; omega) (Nat.le_trans HBS.out (Nat.le_trans hm23.size hb0.size)) fun v5 w5 o5 o6 g5 => ?_
             exact HK.out _ _ ⟨⟨hj.1.grown g5 (own_far hoN hj.1 (by decide)), hj.2.grown g5 HNB.out⟩, w', hb0, hoN, g5, o5⟩
            trivial
           case htail =>
            intro v w' x hw hx hd
            have t0 : v 0 = _ := hd.out 0 (by decide) rfl
            have t8 : v 8 = x := hx.out 8 _ rfl rfl
            simp only [t0, t8, List.drop_succ_cons, List.drop_zero]
            clear hx hd t0 t8
            obtain ⟨⟨hbx9, hax9⟩, WG, h91, h92, h93, h95⟩ := hw.out
            obtain ⟨A9, c9, rfl⟩ := own_len h95
            have y9 := hbx9.cell 6
            have f9 := hbx9.frozen 6
            have l9 := hbx9.lt
            clear hw
            go_wp2_with fail
            obtain ⟨e1, e2, e3, e4⟩ := end_rules (x := (⟨nm, ag, el, bl, i⟩ : Px.Ru).ap (offI ts sz)) hr23 HOW.out HB.out h91 h92 HRR2.out h93 h95 HXR.out
            subst hRR
            first
             | go_end0
             | refine bodyPost_ret (results_none rfl _ _ _) rfl ?_
            exact ⟨rfl, (hm23.belowR hl).trans e3, (KeptX.mv HR.out hm23).trans e4, _, e1, e2⟩
        ·skip
         rw [Px.bind_ok hp] at hRR
         try dsimp only at hRR
         rw [if_neg (by simp)] at hRR
         have HC := Lib.hid (take_any hr17 [58, 45] (by decide))
         rw [hp] at HC
         clear hp
         rw [Px.bind_ret] at hRR
         try dsimp only at hRR
         go_wp2_with (go_at_call 42; refine (HC.out).mono ?_; rintro e W13 ⟨⟨_, rfl, rfl⟩, hn18, hr18⟩; have hm18 := hm17.trans hl hn18; have x_18 := hn18.at x_17 hnex; have ar_18 := own_mv hlB ar_17 hn18; clear HC)
         cases hp : Px.need [46] (Px.kts ts) q16 with
         | fail q19 =>
          rw [Px.bind_fail (hp)] at hRR
          subst hRR
          have HC := Lib.hid (need_any hr18 [46] (by decide))
          rw [hp] at HC
          clear hp
          go_wp2_with (go_at_call 55; refine (HC.out).mono ?_; rintro e wF ⟨rfl, hnF, hrF⟩)
          exact ⟨rfl, IPost.failed HR.out HO.out HB.out (hm18.trans hl hnF) hrF⟩
         | ok u q19 =>
          rw [Px.bind_ok (hp)] at hRR
          try dsimp only at hRR
          have HC := Lib.hid (need_any hr18 [46] (by decide))
          rw [hp] at HC
          have HQ19 := Lib.hid hp
          clear hp
          go_wp2_with (go_at_call 55; refine (HC.out).mono ?_; rintro e W14 ⟨⟨_, rfl, rfl⟩, hn20, hr20⟩; have hm20 := hm18.trans hl hn20; have x_20 := hn20.at x_18 hnex; have ar_20 := own_mv hlB ar_18 hn20; clear HC)
          have hoW := HO.out.mv HB.out HR.out.box hm20
          obtain ⟨rows, hrows, hrr⟩ := hoW.rules
          have HOW := Lib.hid hoW
          have HROWS := Lib.hid hrows
          have HRR2 := Lib.hid hrr
          have HXR := Lib.hid (show RuR W14 [.string (bs nm), .int .i64 (-1), .slice aA ag.length aC, .int .i64 el.kind, .string (bs el.name), .string (bs el.var), .int .i64 (-1), .slice none 0 0, .int .i64 ((tokAt ts sz i).pos : Int)] ((⟨nm, ag, el, [], i⟩ : Px.Ru).ap (offI ts sz)) from ⟨_, _, rfl, TRow.of_own ar_20, TRows.of_own (ORows.nil _ 0 _ _)⟩)
          have HBX := Lib.hid hr20.box
          have HAX := Lib.hid x_20
          obtain ⟨iT, hi0, hi1, hi2, hi3⟩ := info_parts rule_info
          have HNB : Hid (some (W1.heap.size) ≠ Value.ownBlock (.slice o.r.a o.r.n o.r.c)) := Lib.hid (fun e => by
           obtain ⟨rows0, h0, _⟩ := HO.out.rules
           have h1 := (own_lt h0 e.symm).2
           have h2 := hBx
           omega)
          clear hoW hrows hrr
          refine' wp_region_chain 9 2 _ ([none, none, none, none, none, none, none, some 0, some 1] : List (Option Nat)) (fun p x W => match p with | 0 => (At W rb 87 (rdc TA ts.length tc q19 sz o) ∧ At W (W1.heap.size) 66 #[.string (bs nm), .int .i64 (-1), .slice aA ag.length aC, .int .i64 el.kind, .string (bs el.name), .string (bs el.var), .int .i64 (-1), .slice none 0 0, .int .i64 ((tokAt ts sz i).pos : Int)]) ∧ Below W14.heap.size W14 W | 1 => (At W rb 87 (rdc TA ts.length tc q19 sz o) ∧ At W (W1.heap.size) 66 #[.string (bs nm), .int .i64 (-1), .slice aA ag.length aC, .int .i64 el.kind, .string (bs el.name), .string (bs el.var), .int .i64 (-1), .slice none 0 0, .int .i64 ((tokAt ts sz i).pos : Int)]) ∧ ∃ bb, x = .slice (some ⟨bb, 0, none⟩) 1 1 ∧ At W bb 66 #[.string (bs nm), .int .i64 (-1), .slice aA ag.length aC, .int .i64 el.kind, .string (bs el.name), .string (bs el.var), .int .i64 (-1), .slice none 0 0, .int .i64 ((tokAt ts sz i).pos : Int)] ∧ Below W14.heap.size W14 W | _ => (At W rb 87 (rdc TA ts.length tc q19 sz o) ∧ At W (W1.heap.size) 66 #[.string (bs nm), .int .i64 (-1), .slice aA ag.length aC, .int .i64 el.kind, .string (bs el.name), .string (bs el.var), .int .i64 (-1), .slice none 0 0, .int .i64 ((tokAt ts sz i).pos : Int)]) ∧ ∃ WG, Below W14.heap.size W14 WG ∧ WG.ownsRow B 66 9 (.slice o.r.a o.r.n o.r.c) P.rules.length rows.flatten ∧ WG.grownBy W (Value.ownBlock (.slice o.r.a o.r.n o.r.c)) ∧ W.ownsRow B 66 9 x (P.rules.length + 1) (rows.flatten ++ [.string (bs nm), .int .i64 (-1), .slice aA ag.length aC, .int .i64 el.kind, .string (bs el.name), .string (bs el.var), .int .i64 (-1), .slice none 0 0, .int .i64 ((tokAt ts sz i).pos : Int)])) (fun W => (At W rb 87 (rdc TA ts.length tc q19 sz o) ∧ At W (W1.heap.size) 66 #[.string (bs nm), .int .i64 (-1), .slice aA ag.length aC, .int .i64 el.kind, .string (bs el.name), .string (bs el.var), .int .i64 (-1), .slice none 0 0, .int .i64 ((tokAt ts sz i).pos : Int)])) (Pv :: Pv :: Pv :: Pv :: Pv :: Pv :: Pv :: Fv :: Fv :: []) ?hF (by kernel_rfl) (by kernel_rfl) (by kernel_rfl) (of_decide_eq_true (by kernel_rfl)) (by kernel_rfl) (by kernel_rfl) (by kernel_rfl) (by kernel_rfl) (by kernel_rfl) ?hW ?hJ ?hops ?htail
          case hF => (intro v; simp only [over, Act.put, List.setIfInBounds_toArray, List.set_cons_zero, List.set_cons_succ, Nat.zero_add, Nat.reduceAdd]; exact rfl)
          case hW =>
           intro _
           have hbN : Below W14.heap.size W14 W14.drew := (Below.refl W14.heap.size W14).drew
           exact ⟨⟨HBX.out.next hbN, HAX.out.next hbN⟩, hbN⟩
          case hJ =>
           intro p x W2 h
           match p, h with
           | 0, h => exact h.1
           | 1, h => exact h.1
           | _ + 2, h => exact h.1
          case hops =>
           refine ⟨?_, ?_⟩
           ·intro v w' hj hd K hK
            have hk := hK.out
            simp only [Act.put, List.setIfInBounds_toArray, List.set_cons_zero, List.set_cons_succ] at hk
            have HK := Lib.hid hk
            clear hd hk hK
            go_simp
            exact HK.out _ (show _ = _ from rfl)
           refine ⟨?_, ?_⟩
           ·intro v w' hj hd K hK
            have hk := hK.out
            simp only [Act.put, List.setIfInBounds_toArray, List.set_cons_zero, List.set_cons_succ] at hk
            have HK := Lib.hid hk
            clear hd hk hK
            go_simp
            exact HK.out _ (show _ = _ from rfl)
           refine ⟨?_, ?_⟩
           ·intro v w' hj hd K hK
            have t1 : v 1 = _ := hd.out 1 (by kernel_rfl) rfl
            have hk := hK.out
            simp only [t1, Act.put, List.setIfInBounds_toArray, List.set_cons_zero, List.set_cons_succ] at hk
            have HK := Lib.hid hk
            clear hd hk hK
            go_simp
            exact HK.out _ (show _ = _ from rfl)
           refine ⟨?_, ?_⟩
           ·intro v w' hj hd K hK
            have t2 : v 2 = _ := hd.out 2 (by kernel_rfl) rfl
            have hk := hK.out
            simp only [t2, Act.put, List.setIfInBounds_toArray, List.set_cons_zero, List.set_cons_succ] at hk
            have HK := Lib.hid hk
            clear hd hk hK
            go_simp
            exact HK.out _ (show _ = _ from rfl)
           refine ⟨?_, ?_⟩
           ·intro v w' hj hd K hK
            have t3 : v 3 = _ := hd.out 3 (by kernel_rfl) rfl
            have hk := hK.out
            simp only [t3, Act.put, List.setIfInBounds_toArray, List.set_cons_zero, List.set_cons_succ] at hk
            have HK := Lib.hid hk
            clear hd hk hK
            go_simp
            exact HK.out _ (show _ = _ from rfl)
           refine ⟨?_, ?_⟩
           ·intro v w' hj hd K hK
            have t4 : v 4 = _ := hd.out 4 (by kernel_rfl) rfl
            have yx : w'.cell? ⟨rb, 6, none⟩ = some (.slice o.r.a o.r.n o.r.c) := hj.out.1.cell 6
            have hk := hK.out
            simp only [t4, Act.put, List.setIfInBounds_toArray, List.set_cons_zero, List.set_cons_succ] at hk
            have HK := Lib.hid hk
            clear hd hk hK
            go_simp
            exact HK.out _ (show _ = _ from rfl)
           refine ⟨?_, ?_⟩
           ·intro v w' hj hd K hK
            have yx0 := hj.out.2.cell 0
            have yx1 := hj.out.2.cell 1
            have yx2 := hj.out.2.cell 2
            have yx3 := hj.out.2.cell 3
            have yx4 := hj.out.2.cell 4
            have yx5 := hj.out.2.cell 5
            have yx6 := hj.out.2.cell 6
            have yx7 := hj.out.2.cell 7
            have yx8 := hj.out.2.cell 8
            simp only [List.getElem?_toArray, List.getElem?_cons_zero, List.getElem?_cons_succ] at yx0 yx1 yx2 yx3 yx4 yx5 yx6 yx7 yx8
            have hk := hK.out
            simp only [Act.put, List.setIfInBounds_toArray, List.set_cons_zero, List.set_cons_succ] at hk
            have HK := Lib.hid hk
            clear hd hk hK
            go_simp
            exact HK.out _ (show _ = _ from rfl)
           refine ⟨?_, ?_⟩
           ·intro v w' x hw hx hd K hK
            have t6 : v 6 = _ := hd.out 6 (by kernel_rfl) rfl
            have hk := hK.out
            simp only [t6, Act.put, List.setIfInBounds_toArray, List.set_cons_zero, List.set_cons_succ] at hk
            have HK := Lib.hid hk
            obtain ⟨hj, hb0⟩ := hw.out
            clear hd hk hK
            go_simp
            have hbN : Below W14.heap.size W14 (w'.alloc (.cells #[.string (bs nm), .int .i64 (-1), .slice aA ag.length aC, .int .i64 el.kind, .string (bs el.name), .string (bs el.var), .int .i64 (-1), .slice none 0 0, .int .i64 ((tokAt ts sz i).pos : Int)] 66)) := hb0.alloc hb0.size _
            exact HK.out _ _ ⟨⟨HBX.out.next hbN, HAX.out.next hbN⟩, _, rfl, At.new _ _ _, hbN⟩
           refine ⟨?_, ?_⟩
           ·intro v w' x hw hx hd K hK
            have t5 : v 5 = _ := hd.out 5 (by kernel_rfl) rfl
            have t7 : v 7 = x := hx.out 7 _ rfl rfl
            have hk := hK.out
            rw [if_pos (show Region.wanted _ _ = true from rfl)]
            simp only [t5, t7] at hk ⊢
            have HK := Lib.hid hk
            obtain ⟨hj, bb, rfl, hbb, hb0⟩ := hw.out
            have hoN := own_below HROWS.out hb0
            clear hx hd hw
            refine wp_append_keep (.tmp 41) (.tmp 43) 32 rfl B 66 iT (.agg #[.string ⟨#[]⟩, .int .i64 0, .slice none 0 0, .int .i64 0, .string ⟨#[]⟩, .string ⟨#[]⟩, .int .i64 0, .slice none 0 0, .int .i64 0]) 9 128 Tryd.underlying32 hi0 hi1 hi2 hi3 rfl (by decide) _ P.rules.length rows.flatten rfl hoN ⟨bb, 0, none⟩ 1 1 [.string (bs nm), .int .i64 (-1), .slice aA ag.length aC, .int .i64 el.kind, .string (bs el.name), .string (bs el.var), .int .i64 (-1), .slice none 0 0, .int .i64 ((tokAt ts sz i).pos : Int)] rfl rfl (At.news hbb) (by intro u hu; simp at hu; rcases hu with rfl | rfl | rfl | rfl | rfl | rfl | rfl | rfl | rfl <;> rfl) (by have := HP.out; unfold maxLen; omega) (by have := HP.out; omega) (Nat.le_trans HBS.out (Nat.le_trans hm20.size hb0.size)) fun v5 w5 o5 o6 g5 => ?_
            exact HK.out _ _ ⟨⟨hj.1.grown g5 (own_far hoN hj.1 (by decide)), hj.2.grown g5 HNB.out⟩, w', hb0, hoN, g5, o5⟩
           trivial
          case htail =>
           intro v w' x hw hx hd
           have t0 : v 0 = _ := hd.out 0 (by decide) rfl
           have t8 : v 8 = x := hx.out 8 _ rfl rfl
           simp only [t0, t8, List.drop_succ_cons, List.drop_zero]
           clear hx hd t0 t8
           obtain ⟨⟨hbx9, hax9⟩, WG, h91, h92, h93, h95⟩ := hw.out
           obtain ⟨A9, c9, rfl⟩ := own_len h95
           have y9 := hbx9.cell 6
           have f9 := hbx9.frozen 6
           have l9 := hbx9.lt
           clear hw
           go_wp2_with fail
           obtain ⟨e1, e2, e3, e4⟩ := end_rules (x := (⟨nm, ag, el, [], i⟩ : Px.Ru).ap (offI ts sz)) hr20 HOW.out HB.out h91 h92 HRR2.out h93 h95 HXR.out
           subst hRR
           first
            | go_end0
            | refine bodyPost_ret (results_none rfl _ _ _) rfl ?_
           exact ⟨rfl, (hm20.belowR hl).trans e3, (KeptX.mv HR.out hm20).trans e4, _, e1, e2⟩
     ·skip
      rw [Px.bind_ok hp] at hRR
      try dsimp only at hRR
      rw [if_neg (by simp)] at hRR
      have HC := Lib.hid (take_any hr11 [59] (by decide))
      rw [hp] at HC
      clear hp
      rw [Px.bind_ret] at hRR
      try dsimp only at hRR
      go_wp2_with (go_at_call 42; refine (HC.out).mono ?_; rintro e W9 ⟨⟨_, rfl, rfl⟩, hn12, hr12⟩; have hm12 := hm11.trans hl hn12; have x_12 := hn12.at x_11 hnex; have ar_12 := own_mv hlB ar_11 hn12; clear HC)
      cases hp : Px.need [41] (Px.kts ts) q9 with
      | fail q13 =>
       rw [Px.bind_fail (hp)] at hRR
       subst hRR
       have HC := Lib.hid (need_any hr12 [41] (by decide))
       rw [hp] at HC
       clear hp
       go_wp2_with (go_at_call 55; refine (HC.out).mono ?_; rintro e wF ⟨rfl, hnF, hrF⟩)
       exact ⟨rfl, IPost.failed HR.out HO.out HB.out (hm12.trans hl hnF) hrF⟩
      | ok u q13 =>
       rw [Px.bind_ok (hp)] at hRR
       try dsimp only at hRR
       have HC := Lib.hid (need_any hr12 [41] (by decide))
       rw [hp] at HC
       have HQ13 := Lib.hid hp
       clear hp
       go_wp2_with (go_at_call 55; refine (HC.out).mono ?_; rintro e W10 ⟨⟨_, rfl, rfl⟩, hn14, hr14⟩; have hm14 := hm12.trans hl hn14; have x_14 := hn14.at x_12 hnex; have ar_14 := own_mv hlB ar_12 hn14; clear HC)
       rw [Px.bind_ret] at hRR
       try dsimp only at hRR
       unfold Px.optBody at hRR
       simp only [Px.bind_assoc] at hRR
       rcases Px.take_two [58, 45] (Px.kts ts) q13 with hp | hp
       ·skip
        rw [Px.bind_ok hp] at hRR
        try dsimp only at hRR
        first | rw [if_pos rfl] at hRR | rw [if_pos trivial] at hRR
        have HC := Lib.hid (take_any hr14 [58, 45] (by decide))
        rw [hp] at HC
        clear hp
        go_wp2_with (go_at_call 42; refine (HC.out).mono ?_; rintro e W11 ⟨⟨_, rfl, rfl⟩, hn15, hr15⟩; have hm15 := hm14.trans hl hn15; have x_15 := hn15.at x_14 hnex; have ar_15 := own_mv hlB ar_14 hn15; clear HC)
        cases hp : Px.list Px.literal (Px.kts ts) (q13 + 1) with
        | fail q16 =>
         rw [Px.bind_fail (hp)] at hRR
         subst hRR
         have HC := Lib.hid (list_literal hr15)
         rw [hp] at HC
         clear hp
         go_wp2_with (go_at_call 57; refine (HC.out).mono ?_; rintro e wF ⟨rfl, hnF, hrF⟩)
         exact ⟨rfl, IPost.failed HR.out HO.out HB.out (hm15.trans hl hnF) hrF⟩
        | ok bl q16 =>
         rw [Px.bind_ok (hp)] at hRR
         try dsimp only at hRR
         have HC := Lib.hid (list_literal hr15)
         rw [hp] at HC
         have HQ16 := Lib.hid hp
         clear hp
         go_wp2_with (go_at_call 57; refine (HC.out).mono ?_; rintro e W12 ⟨⟨bv, rfl, hL0⟩, hn17, hr17⟩; have hm17 := hm15.trans hl hn17; have x_17 := hn17.at x_15 hnex; have ar_17 := own_mv hlB ar_15 hn17; obtain ⟨bA, bC, rfl⟩ := ORows.slice' hL0; have bo_17 := ORows.mono hL0 hm15.size; clear HC; have yx0 := x_17.cell 0; have yx1 := x_17.cell 1; have yx2 := x_17.cell 2; have yx3 := x_17.cell 3; have yx4 := x_17.cell 4; have yx5 := x_17.cell 5; have yx6 := x_17.cell 6; have yx7 := x_17.cell 7; have yx8 := x_17.cell 8; have fx0 := x_17.frozen 0; have fx1 := x_17.frozen 1; have fx2 := x_17.frozen 2; have fx3 := x_17.frozen 3; have fx4 := x_17.frozen 4; have fx5 := x_17.frozen 5; have fx6 := x_17.frozen 6; have fx7 := x_17.frozen 7; have fx8 := x_17.frozen 8; have ylx := x_17.lt; simp only [List.getElem?_toArray, List.getElem?_cons_zero, List.getElem?_cons_succ] at yx0 yx1 yx2 yx3 yx4 yx5 yx6 yx7 yx8)
         clear yx0 fx0 yx1 fx1 yx2 fx2 yx3 fx3 yx4 fx4 yx5 fx5 yx6 fx6 yx7 fx7 yx8 fx8 ylx
         have x_18 := (x_17.put 7 (.slice bA bl.length bC))
         simp only [List.setIfInBounds_toArray, List.set_cons_zero, List.set_cons_succ] at x_18
         have hm18 := hm17.after ((Below.refl (W1.heap.size) W12).setCell (p := ⟨W1.heap.size, 7, none⟩) (Nat.le_refl _) (.slice bA bl.length bC)) hBx
         have hr18 := hm18.rd HR.out hr17.few.2.2
         have ar_18 := ar_17
         replace ar_18 := own_putne ar_18 (p := ⟨W1.heap.size, 7, none⟩) (own_far ar_18 x_17 (by decide)) (.slice bA bl.length bC)
         have bo_18 := bo_17
         replace bo_18 := ORows.putL bo_18 x_17 (by decide) (by decide) 7 (.slice bA bl.length bC)
         have hz18 : (W12.setCell ⟨W1.heap.size, 7, none⟩ (.slice bA bl.length bC)).heap.size = W12.heap.size := (by simp : (W12.setCell ⟨W1.heap.size, 7, none⟩ (.slice bA bl.length bC)).heap.size = W12.heap.size).trans rfl
         generalize hw18 : (W12.setCell ⟨W1.heap.size, 7, none⟩ (.slice bA bl.length bC)) = W13 at x_18 hm18 hr18 ar_18 bo_18 hz18 ⊢
         clear hw18
         cases hp : Px.need [46] (Px.kts ts) q16 with
         | fail q19 =>
          rw [Px.bind_fail (hp)] at hRR
          subst hRR
          have HC := Lib.hid (need_any hr18 [46] (by decide))
          rw [hp] at HC
          clear hp
          go_wp2_with (go_at_call 55; refine (HC.out).mono ?_; rintro e wF ⟨rfl, hnF, hrF⟩)
          exact ⟨rfl, IPost.failed HR.out HO.out HB.out (hm18.trans hl hnF) hrF⟩
         | ok u q19 =>
          rw [Px.bind_ok (hp)] at hRR
          try dsimp only at hRR
          have HC := Lib.hid (need_any hr18 [46] (by decide))
          rw [hp] at HC
          have HQ19 := Lib.hid hp
          clear hp
          go_wp2_with (go_at_call 55; refine (HC.out).mono ?_; rintro e W14 ⟨⟨_, rfl, rfl⟩, hn20, hr20⟩; have hm20 := hm18.trans hl hn20; have x_20 := hn20.at x_18 hnex; have ar_20 := own_mv hlB ar_18 hn20; have bo_20 := ORows.mvL bo_18 hlB hr18.box hn20; clear HC)
          have hoW := HO.out.mv HB.out HR.out.box hm20
          obtain ⟨rows, hrows, hrr⟩ := hoW.rules
          have HOW := Lib.hid hoW
          have HROWS := Lib.hid hrows
          have HRR2 := Lib.hid hrr
          have HXR := Lib.hid (show RuR W14 [.string (bs nm), .int .i64 (-1), .slice aA ag.length aC, .int .i64 0, .string ⟨#[]⟩, .string ⟨#[]⟩, .int .i64 (-1), .slice bA bl.length bC, .int .i64 ((tokAt ts sz i).pos : Int)] ((⟨nm, ag, ⟨0, [], []⟩, bl, i⟩ : Px.Ru).ap (offI ts sz)) from ⟨_, _, rfl, TRow.of_own ar_20, TRows.of_own bo_20⟩)
          have HBX := Lib.hid hr20.box
          have HAX := Lib.hid x_20
          obtain ⟨iT, hi0, hi1, hi2, hi3⟩ := info_parts rule_info
          have HNB : Hid (some (W1.heap.size) ≠ Value.ownBlock (.slice o.r.a o.r.n o.r.c)) := Lib.hid (fun e => by
           obtain ⟨rows0, h0, _⟩ := HO.out.rules
           have h1 := (own_lt h0 e.symm).2
           have h2 := hBx
           omega)
          clear hoW hrows hrr
          refine' wp_region_chain 9 2 _ ([none, none, none, none, none, none, none, some 0, some 1] : List (Option Nat)) (fun p x W => match p with | 0 => (At W rb 87 (rdc TA ts.length tc q19 sz o) ∧ At W (W1.heap.size) 66 #[.string (bs nm), .int .i64 (-1), .slice aA ag.length aC, .int .i64 0, .string ⟨#[]⟩, .string ⟨#[]⟩, .int .i64 (-1), .slice bA bl.length bC, .int .i64 ((tokAt ts sz i).pos : Int)]) ∧ Below W14.heap.size W14 W | 1 => (At W rb 87 (rdc TA ts.length tc q19 sz o) ∧ At W (W1.heap.size) 66 #[.string (bs nm), .int .i64 (-1), .slice aA ag.length aC, .int .i64 0, .string ⟨#[]⟩, .string ⟨#[]⟩, .int .i64 (-1), .slice bA bl.length bC, .int .i64 ((tokAt ts sz i).pos : Int)]) ∧ ∃ bb, x = .slice (some ⟨bb, 0, none⟩) 1 1 ∧ At W bb 66 #[.string (bs nm), .int .i64 (-1), .slice aA ag.length aC, .int .i64 0, .string ⟨#[]⟩, .string ⟨#[]⟩, .int .i64 (-1), .slice bA bl.length bC, .int .i64 ((tokAt ts sz i).pos : Int)] ∧ Below W14.heap.size W14 W | _ => (At W rb 87 (rdc TA ts.length tc q19 sz o) ∧ At W (W1.heap.size) 66 #[.string (bs nm), .int .i64 (-1), .slice aA ag.length aC, .int .i64 0, .string ⟨#[]⟩, .string ⟨#[]⟩, .int .i64 (-1), .slice bA bl.length bC, .int .i64 ((tokAt ts sz i).pos : Int)]) ∧ ∃ WG, Below W14.heap.size W14 WG ∧ WG.ownsRow B 66 9 (.slice o.r.a o.r.n o.r.c) P.rules.length rows.flatten ∧ WG.grownBy W (Value.ownBlock (.slice o.r.a o.r.n o.r.c)) ∧ W.ownsRow B 66 9 x (P.rules.length + 1) (rows.flatten ++ [.string (bs nm), .int .i64 (-1), .slice aA ag.length aC, .int .i64 0, .string ⟨#[]⟩, .string ⟨#[]⟩, .int .i64 (-1), .slice bA bl.length bC, .int .i64 ((tokAt ts sz i).pos : Int)])) (fun W => (At W rb 87 (rdc TA ts.length tc q19 sz o) ∧ At W (W1.heap.size) 66 #[.string (bs nm), .int .i64 (-1), .slice aA ag.length aC, .int .i64 0, .string ⟨#[]⟩, .string ⟨#[]⟩, .int .i64 (-1), .slice bA bl.length bC, .int .i64 ((tokAt ts sz i).pos : Int)])) (Pv :: Pv :: Pv :: Pv :: Pv :: Pv :: Pv :: Fv :: Fv :: []) ?hF (by kernel_rfl) (by kernel_rfl) (by kernel_rfl) (of_decide_eq_true (by kernel_rfl)) (by kernel_rfl) (by kernel_rfl) (by kernel_rfl) (by kernel_rfl) (by kernel_rfl) ?hW ?hJ ?hops ?htail
          case hF => (intro v; simp only [over, Act.put, List.setIfInBounds_toArray, List.set_cons_zero, List.set_cons_succ, Nat.zero_add, Nat.reduceAdd]; exact rfl)
          case hW =>
           intro _
           have hbN : Below W14.heap.size W14 W14.drew := (Below.refl W14.heap.size W14).drew
           exact ⟨⟨HBX.out.next hbN, HAX.out.next hbN⟩, hbN⟩
          case hJ =>
           intro p x W2 h
           match p, h with
           | 0, h => exact h.1
           | 1, h => exact h.1
           | _ + 2, h => exact h.1
          case hops =>
           refine ⟨?_, ?_⟩
           ·intro v w' hj hd K hK
            have hk := hK.out
            simp only [Act.put, List.setIfInBounds_toArray, List.set_cons_zero, List.set_cons_succ] at hk
            have HK := Lib.hid hk
            clear hd hk hK
            go_simp
            exact HK.out _ (show _ = _ from rfl)
           refine ⟨?_, ?_⟩
           ·intro v w' hj hd K hK
            have hk := hK.out
            simp only [Act.put, List.setIfInBounds_toArray, List.set_cons_zero, List.set_cons_succ] at hk
            have HK := Lib.hid hk
            clear hd hk hK
            go_simp
            exact HK.out _ (show _ = _ from rfl)
           refine ⟨?_, ?_⟩
           ·intro v w' hj hd K hK
            have t1 : v 1 = _ := hd.out 1 (by kernel_rfl) rfl
            have hk := hK.out
            simp only [t1, Act.put, List.setIfInBounds_toArray, List.set_cons_zero, List.set_cons_succ] at hk
            have HK := Lib.hid hk
            clear hd hk hK
            go_simp
            exact HK.out _ (show _ = _ from rfl)
           refine ⟨?_, ?_⟩
           ·intro v w' hj hd K hK
            have t2 : v 2 = _ := hd.out 2 (by kernel_rfl) rfl
            have hk := hK.out
            simp only [t2, Act.put, List.setIfInBounds_toArray, List.set_cons_zero, List.set_cons_succ] at hk
            have HK := Lib.hid hk
            clear hd hk hK
            go_simp
            exact HK.out _ (show _ = _ from rfl)
           refine ⟨?_, ?_⟩
           ·intro v w' hj hd K hK
            have t3 : v 3 = _ := hd.out 3 (by kernel_rfl) rfl
            have hk := hK.out
            simp only [t3, Act.put, List.setIfInBounds_toArray, List.set_cons_zero, List.set_cons_succ] at hk
            have HK := Lib.hid hk
            clear hd hk hK
            go_simp
            exact HK.out _ (show _ = _ from rfl)
           refine ⟨?_, ?_⟩
           ·intro v w' hj hd K hK
            have t4 : v 4 = _ := hd.out 4 (by kernel_rfl) rfl
            have yx : w'.cell? ⟨rb, 6, none⟩ = some (.slice o.r.a o.r.n o.r.c) := hj.out.1.cell 6
            have hk := hK.out
            simp only [t4, Act.put, List.setIfInBounds_toArray, List.set_cons_zero, List.set_cons_succ] at hk
            have HK := Lib.hid hk
            clear hd hk hK
            go_simp
            exact HK.out _ (show _ = _ from rfl)
           refine ⟨?_, ?_⟩
           ·intro v w' hj hd K hK
            have yx0 := hj.out.2.cell 0
            have yx1 := hj.out.2.cell 1
            have yx2 := hj.out.2.cell 2
            have yx3 := hj.out.2.cell 3
            have yx4 := hj.out.2.cell 4
            have yx5 := hj.out.2.cell 5
            have yx6 := hj.out.2.cell 6
            have yx7 := hj.out.2.cell 7
            have yx8 := hj.out.2.cell 8
            simp only [List.getElem?_toArray, List.getElem?_cons_zero, List.getElem?_cons_succ] at yx0 yx1 yx2 yx3 yx4 yx5 yx6 yx7 yx8
            have hk := hK.out
            simp only [Act.put, List.setIfInBounds_toArray, List.set_cons_zero, List.set_cons_succ] at hk
            have HK := Lib.hid hk
            clear hd hk hK
            go_simp
            exact HK.out _ (show _ = _ from rfl)
           refine ⟨?_, ?_⟩
           ·intro v w' x hw hx hd K hK
            have t6 : v 6 = _ := hd.out 6 (by kernel_rfl) rfl
            have hk := hK.out
            simp only [t6, Act.put, List.setIfInBounds_toArray, List.set_cons_zero, List.set_cons_succ] at hk
            have HK := Lib.hid hk
            obtain ⟨hj, hb0⟩ := hw.out
            clear hd hk hK
            go_simp
            have hbN : Below W14.heap.size W14 (w'.alloc (.cells #[.string (bs nm), .int .i64 (-1), .slice aA ag.length aC, .int .i64 0, .string ⟨#[]⟩, .string ⟨#[]⟩, .int .i64 (-1), .slice bA bl.length bC, .int .i64 ((tokAt ts sz i).pos : Int)] 66)) := hb0.alloc hb0.size _
            exact HK.out _ _ ⟨⟨HBX.out.next hbN, HAX.out.next hbN⟩, _, rfl, At.new _ _ _, hbN⟩
           refine ⟨?_, ?_⟩
           ·intro v w' x hw hx hd K hK
            have t5 : v 5 = _ := hd.out 5 (by kernel_rfl) rfl
            have t7 : v 7 = x := hx.out 7 _ rfl rfl
            have hk := hK.out
            rw [if_pos (show Region.wanted _ _ = true from rfl)]
            simp only [t5, t7] at hk ⊢
            have HK := Lib.hid hk
            obtain ⟨hj, bb, rfl, hbb, hb0⟩ := hw.out
            have hoN := own_below HROWS.out hb0
            clear hx hd hw
            refine wp_append_keep (.tmp 41) (.tmp 43) 32 rfl B 66 iT (.agg #[.string ⟨#[]⟩, .int .i64 0, .slice none 0 0, .int .i64 0, .string ⟨#[]⟩, .string ⟨#[]⟩, .int .i64 0, .slice none 0 0, .int .i64 0]) 9 128 Tryd.underlying32 hi0 hi1 hi2 hi3 rfl (by decide) _ P.rules.length rows.flatten rfl hoN ⟨bb, 0, none⟩ 1 1 [.string (bs nm), .int .i64 (-1), .slice aA ag.length aC, .int .i64 0, .string ⟨#[]⟩, .string ⟨#[]⟩, .int .i64 (-1), .slice bA bl.length bC, .int .i64 ((tokAt ts sz i).pos : Int)] rfl rfl (At.news hbb) (by intro u hu; simp at hu; rcases hu with rfl | rfl | rfl | rfl | rfl | rfl | rfl | rfl | rfl <;> rfl) (by have := HP.out; unfold maxLen; omega) (by have := HP.out; omega) (Nat.le_trans HBS.out (Nat.le_trans hm20.size hb0.size)) fun v5 w5 o5 o6 g5 => ?_
            exact HK.out _ _ ⟨⟨hj.1.grown g5 (own_far hoN hj.1 (by decide)), hj.2.grown g5 HNB.out⟩, w', hb0, hoN, g5, o5⟩
           trivial
          case htail =>
           intro v w' x hw hx hd
           have t0 : v 0 = _ := hd.out 0 (by decide) rfl
           have t8 : v 8 = x := hx.out 8 _ rfl rfl
           simp only [t0, t8, List.drop_succ_cons, List.drop_zero]
           clear hx hd t0 t8
           obtain ⟨⟨hbx9, hax9⟩, WG, h91, h92, h93, h95⟩ := hw.out
           obtain ⟨A9, c9, rfl⟩ := own_len h95
           have y9 := hbx9.cell 6
           have f9 := hbx9.frozen 6
           have l9 := hbx9.lt
           clear hw
           go_wp2_with fail
           obtain ⟨e1, e2, e3, e4⟩ := end_rules (x := (⟨nm, ag, ⟨0, [], []⟩, bl, i⟩ : Px.Ru).ap (offI ts sz)) hr20 HOW.out HB.out h91 h92 HRR2.out h93 h95 HXR.out
           subst hRR
           first
            | go_end0
            | refine bodyPost_ret (results_none rfl _ _ _) rfl ?_
           exact ⟨rfl, (hm20.belowR hl).trans e3, (KeptX.mv HR.out hm20).trans e4, _, e1, e2⟩
       ·skip
        rw [Px.bind_ok hp] at hRR
        try dsimp only at hRR
        rw [if_neg (by simp)] at hRR
        have HC := Lib.hid (take_any hr14 [58, 45] (by decide))
        rw [hp] at HC
        clear hp
        rw [Px.bind_ret] at hRR
        try dsimp only at hRR
        go_wp2_with (go_at_call 42; refine (HC.out).mono ?_; rintro e W11 ⟨⟨_, rfl, rfl⟩, hn15, hr15⟩; have hm15 := hm14.trans hl hn15; have x_15 := hn15.at x_14 hnex; have ar_15 := own_mv hlB ar_14 hn15; clear HC)
        cases hp : Px.need [46] (Px.kts ts) q13 with
        | fail q16 =>
         rw [Px.bind_fail (hp)] at hRR
         subst hRR
         have HC := Lib.hid (need_any hr15 [46] (by decide))
         rw [hp] at HC
         clear hp
         go_wp2_with (go_at_call 55; refine (HC.out).mono ?_; rintro e wF ⟨rfl, hnF, hrF⟩)
         exact ⟨rfl, IPost.failed HR.out HO.out HB.out (hm15.trans hl hnF) hrF⟩
        | ok u q16 =>
         rw [Px.bind_ok (hp)] at hRR
         try dsimp only at hRR
         have HC := Lib.hid (need_any hr15 [46] (by decide))
         rw [hp] at HC
         have HQ16 := Lib.hid hp
         clear hp
         go_wp2_with (go_at_call 55; refine (HC.out).mono ?_; rintro e W12 ⟨⟨_, rfl, rfl⟩, hn17, hr17⟩; have hm17 := hm15.trans hl hn17; have x_17 := hn17.at x_15 hnex; have ar_17 := own_mv hlB ar_15 hn17; clear HC)
         have hoW := HO.out.mv HB.out HR.out.box hm17
         obtain ⟨rows, hrows, hrr⟩ := hoW.rules
         have HOW := Lib.hid hoW
         have HROWS := Lib.hid hrows
         have HRR2 := Lib.hid hrr
         have HXR := Lib.hid (show RuR W12 [.string (bs nm), .int .i64 (-1), .slice aA ag.length aC, .int .i64 0, .string ⟨#[]⟩, .string ⟨#[]⟩, .int .i64 (-1), .slice none 0 0, .int .i64 ((tokAt ts sz i).pos : Int)] ((⟨nm, ag, ⟨0, [], []⟩, [], i⟩ : Px.Ru).ap (offI ts sz)) from ⟨_, _, rfl, TRow.of_own ar_17, TRows.of_own (ORows.nil _ 0 _ _)⟩)
         have HBX := Lib.hid hr17.box
         have HAX := Lib.hid x_17
         obtain ⟨iT, hi0, hi1, hi2, hi3⟩ := info_parts rule_info
         have HNB : Hid (some (W1.heap.size) ≠ Value.ownBlock (.slice o.r.a o.r.n o.r.c)) := Lib.hid (fun e => by
          obtain ⟨rows0, h0, _⟩ := HO.out.rules
          have h1 := (own_lt h0 e.symm).2
          have h2 := hBx
          omega)
         clear hoW hrows hrr
         refine' wp_region_chain 9 2 _ ([none, none, none, none, none, none, none, some 0, some 1] : List (Option Nat)) (fun p x W => match p with | 0 => (At W rb 87 (rdc TA ts.length tc q16 sz o) ∧ At W (W1.heap.size) 66 #[.string (bs nm), .int .i64 (-1), .slice aA ag.length aC, .int .i64 0, .string ⟨#[]⟩, .string ⟨#[]⟩, .int .i64 (-1), .slice none 0 0, .int .i64 ((tokAt ts sz i).pos : Int)]) ∧ Below W12.heap.size W12 W | 1 => (At W rb 87 (rdc TA ts.length tc q16 sz o) ∧ At W (W1.heap.size) 66 #[.string (bs nm), .int .i64 (-1), .slice aA ag.length aC, .int .i64 0, .string ⟨#[]⟩, .string ⟨#[]⟩, .int .i64 (-1), .slice none 0 0, .int .i64 ((tokAt ts sz i).pos : Int)]) ∧ ∃ bb, x = .slice (some ⟨bb, 0, none⟩) 1 1 ∧ At W bb 66 #[.string (bs nm), .int .i64 (-1), .slice aA ag.length aC, .int .i64 0, .string ⟨#[]⟩, .string ⟨#[]⟩, .int .i64 (-1), .slice none 0 0, .int .i64 ((tokAt ts sz i).pos : Int)] ∧ Below W12.heap.size W12 W | _ => (At W rb 87 (rdc TA ts.length tc q16 sz o) ∧ At W (W1.heap.size) 66 #[.string (bs nm), .int .i64 (-1), .slice aA ag.length aC, .int .i64 0, .string ⟨#[]⟩, .string ⟨#[]⟩, .int .i64 (-1), .slice none 0 0, .int .i64 ((tokAt ts sz i).pos : Int)]) ∧ ∃ WG, Below W12.heap.size W12 WG ∧ WG.ownsRow B 66 9 (.slice o.r.a o.r.n o.r.c) P.rules.length rows.flatten ∧ WG.grownBy W (Value.ownBlock (.slice o.r.a o.r.n o.r.c)) ∧ W.ownsRow B 66 9 x (P.rules.length + 1) (rows.flatten ++ [.string (bs nm), .int .i64 (-1), .slice aA ag.length aC, .int .i64 0, .string ⟨#[]⟩, .string ⟨#[]⟩, .int .i64 (-1), .slice none 0 0, .int .i64 ((tokAt ts sz i).pos : Int)])) (fun W => (At W rb 87 (rdc TA ts.length tc q16 sz o) ∧ At W (W1.heap.size) 66 #[.string (bs nm), .int .i64 (-1), .slice aA ag.length aC, .int .i64 0, .string ⟨#[]⟩, .string ⟨#[]⟩, .int .i64 (-1), .slice none 0 0, .int .i64 ((tokAt ts sz i).pos : Int)])) (Pv :: Pv :: Pv :: Pv :: Pv :: Pv :: Pv :: Fv :: Fv :: []) ?hF (by kernel_rfl) (by kernel_rfl) (by kernel_rfl) (of_decide_eq_true (by kernel_rfl)) (by kernel_rfl) (by kernel_rfl) (by kernel_rfl) (by kernel_rfl) (by kernel_rfl) ?hW ?hJ ?hops ?htail
         case hF => (intro v; simp only [over, Act.put, List.setIfInBounds_toArray, List.set_cons_zero, List.set_cons_succ, Nat.zero_add, Nat.reduceAdd]; exact rfl)
         case hW =>
          intro _
          have hbN : Below W12.heap.size W12 W12.drew := (Below.refl W12.heap.size W12).drew
          exact ⟨⟨HBX.out.next hbN, HAX.out.next hbN⟩, hbN⟩
         case hJ =>
          intro p x W2 h
          match p, h with
          | 0, h => exact h.1
          | 1, h => exact h.1
          | _ + 2, h => exact h.1
         case hops =>
          refine ⟨?_, ?_⟩
          ·intro v w' hj hd K hK
           have hk := hK.out
           simp only [Act.put, List.setIfInBounds_toArray, List.set_cons_zero, List.set_cons_succ] at hk
           have HK := Lib.hid hk
           clear hd hk hK
           go_simp
           exact HK.out _ (show _ = _ from rfl)
          refine ⟨?_, ?_⟩
          ·intro v w' hj hd K hK
           have hk := hK.out
           simp only [Act.put, List.setIfInBounds_toArray, List.set_cons_zero, List.set_cons_succ] at hk
           have HK := Lib.hid hk
           clear hd hk hK
           go_simp
           exact HK.out _ (show _ = _ from rfl)
          refine ⟨?_, ?_⟩
          ·intro v w' hj hd K hK
           have t1 : v 1 = _ := hd.out 1 (by kernel_rfl) rfl
           have hk := hK.out
           simp only [t1, Act.put, List.setIfInBounds_toArray, List.set_cons_zero, List.set_cons_succ] at hk
           have HK := Lib.hid hk
           clear hd hk hK
           go_simp
           exact HK.out _ (show _ = _ from rfl)
          refine ⟨?_, ?_⟩
          ·intro v w' hj hd K hK
           have t2 : v 2 = _ := hd.out 2 (by kernel_rfl) rfl
           have hk := hK.out
           simp only [t2, Act.put, List.setIfInBounds_toArray, List.set_cons_zero, List.set_cons_succ] at hk
           have HK := Lib.hid hk
           clear hd hk hK
           go_simp
           exact HK.out _ (show _ = _ from rfl)
          refine ⟨?_, ?_⟩
          ·intro v w' hj hd K hK
           have t3 : v 3 = _ := hd.out 3 (by kernel_rfl) rfl
           have hk := hK.out
           simp only [t3, Act.put, List.setIfInBounds_toArray, List.set_cons_zero, List.set_cons_succ] at hk
           have HK := Lib.hid hk
           clear hd hk hK
           go_simp
           exact HK.out _ (show _ = _ from rfl)
          refine ⟨?_, ?_⟩
          ·intro v w' hj hd K hK
           have t4 : v 4 = _ := hd.out 4 (by kernel_rfl) rfl
           have yx : w'.cell? ⟨rb, 6, none⟩ = some (.slice o.r.a o.r.n o.r.c) := hj.out.1.cell 6
           have hk := hK.out
           simp only [t4, Act.put, List.setIfInBounds_toArray, List.set_cons_zero, List.set_cons_succ] at hk
           have HK := Lib.hid hk
           clear hd hk hK
           go_simp
           exact HK.out _ (show _ = _ from rfl)
          refine ⟨?_, ?_⟩
          ·intro v w' hj hd K hK
           have yx0 := hj.out.2.cell 0
           have yx1 := hj.out.2.cell 1
           have yx2 := hj.out.2.cell 2
           have yx3 := hj.out.2.cell 3
           have yx4 := hj.out.2.cell 4
           have yx5 := hj.out.2.cell 5
           have yx6 := hj.out.2.cell 6
           have yx7 := hj.out.2.cell 7
           have yx8 := hj.out.2.cell 8
           simp only [List.getElem?_toArray, List.getElem?_cons_zero, List.getElem?_cons_succ] at yx0 yx1 yx2 yx3 yx4 yx5 yx6 yx7 yx8
           have hk := hK.out
           simp only [Act.put, List.setIfInBounds_toArray, List.set_cons_zero, List.set_cons_succ] at hk
           have HK := Lib.hid hk
           clear hd hk hK
           go_simp
           exact HK.out _ (show _ = _ from rfl)
          refine ⟨?_, ?_⟩
          ·intro v w' x hw hx hd K hK
           have t6 : v 6 = _ := hd.out 6 (by kernel_rfl) rfl
           have hk := hK.out
           simp only [t6, Act.put, List.setIfInBounds_toArray, List.set_cons_zero, List.set_cons_succ] at hk
           have HK := Lib.hid hk
           obtain ⟨hj, hb0⟩ := hw.out
           clear hd hk hK
           go_simp
           have hbN : Below W12.heap.size W12 (w'.alloc (.cells #[.string (bs nm), .int .i64 (-1), .slice aA ag.length aC, .int .i64 0, .string ⟨#[]⟩, .string ⟨#[]⟩, .int .i64 (-1), .slice none 0 0, .int .i64 ((tokAt ts sz i).pos : Int)] 66)) := hb0.alloc hb0.size _
           exact HK.out _ _ ⟨⟨HBX.out.next hbN, HAX.out.next hbN⟩, _, rfl, At.new _ _ _, hbN⟩
          refine ⟨?_, ?_⟩
          ·intro v w' x hw hx hd K hK
           have t5 : v 5 = _ := hd.out 5 (by kernel_rfl) rfl
           have t7 : v 7 = x := hx.out 7 _ rfl rfl
           have hk := hK.out
           rw [if_pos (show Region.wanted _ _ = true from rfl)]
           simp only [t5, t7] at hk ⊢
           have HK := Lib.hid hk
           obtain ⟨hj, bb, rfl, hbb, hb0⟩ := hw.out
           have hoN := own_below HROWS.out hb0
           clear hx hd hw
           refine wp_append_keep (.tmp 41) (.tmp 43) 32 rfl B 66 iT (.agg #[.string ⟨#[]⟩, .int .i64 0, .slice none 0 0, .int .i64 0, .string ⟨#[]⟩, .string ⟨#[]⟩, .int .i64 0, .slice none 0 0, .int .i64 0]) 9 128 Tryd.underlying32 hi0 hi1 hi2 hi3 rfl (by decide) _ P.rules.length rows.flatten rfl hoN ⟨bb, 0, none⟩ 1 1 [.string (bs nm), .int .i64 (-1), .slice aA ag.length aC, .int .i64 0, .string ⟨#[]⟩, .string ⟨#[]⟩, .int .i64 (-1), .slice none 0 0, .int .i64 ((tokAt ts sz i).pos : Int)] rfl rfl (At.news hbb) (by intro u hu; simp at hu; rcases hu with rfl | rfl | rfl | rfl | rfl | rfl | rfl | rfl | rfl <;> rfl) (by have := HP.out; unfold maxLen; omega) (by have := HP.out; omega) (Nat.le_trans HBS.out (Nat.le_trans hm17.size hb0.size)) fun v5 w5 o5 o6 g5 => ?_
           exact HK.out _ _ ⟨⟨hj.1.grown g5 (own_far hoN hj.1 (by decide)), hj.2.grown g5 HNB.out⟩, w', hb0, hoN, g5, o5⟩
          trivial
         case htail =>
          intro v w' x hw hx hd
          have t0 : v 0 = _ := hd.out 0 (by decide) rfl
          have t8 : v 8 = x := hx.out 8 _ rfl rfl
          simp only [t0, t8, List.drop_succ_cons, List.drop_zero]
          clear hx hd t0 t8
          obtain ⟨⟨hbx9, hax9⟩, WG, h91, h92, h93, h95⟩ := hw.out
          obtain ⟨A9, c9, rfl⟩ := own_len h95
          have y9 := hbx9.cell 6
          have f9 := hbx9.frozen 6
          have l9 := hbx9.lt
          clear hw
          go_wp2_with fail
          obtain ⟨e1, e2, e3, e4⟩ := end_rules (x := (⟨nm, ag, ⟨0, [], []⟩, [], i⟩ : Px.Ru).ap (offI ts sz)) hr17 HOW.out HB.out h91 h92 HRR2.out h93 h95 HXR.out
          subst hRR
          first
           | go_end0
           | refine bodyPost_ret (results_none rfl _ _ _) rfl ?_
          exact ⟨rfl, (hm17.belowR hl).trans e3, (KeptX.mv HR.out hm17).trans e4, _, e1, e2⟩
end
end Go.Proofs.YtpcmlkpnjimbiaaDoor
