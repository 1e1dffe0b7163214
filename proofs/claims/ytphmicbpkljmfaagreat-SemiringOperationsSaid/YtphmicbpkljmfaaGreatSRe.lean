/- The walks of the reference's Trust, Critical, Cheapest. -/
import Derived.Test.YtphmicbpkljmfaaGreatSRd
import Derived.Test.YtphmicbpkljmfaaGreatCREval
namespace Go.Proofs.YtphmicbpkljmfaaGreat
set_option linter.unusedVariables false
set_option linter.unusedSimpArgs false
open Go.RowKit
open Cx (N fam Few)
set_option maxHeartbeats 1000000 in
set_option maxRecDepth 100000 in
theorem trust29_any (A : Option Addr) (c : Nat) (l : List N) (n : Int) (B : Option Addr) (d : Nat) (ts : List Int) (w : World) (hl : l.length ≤ 20000) (hF : ∀ n ∈ l, NGood n) (hA : Circ w A l) (hts : ts.length ≤ 1000000) (hB : Nums w B ts) :
    Calls Tryz.prog 8 #[.slice A l.length c, .int .i64 n, .slice B ts.length d] w fun e w' => e = .returned (.bool (trustP l n ts)) ∧ Below w.heap.size w w' := by
  obtain ⟨in0, hi0, hz0, hz1, hz2⟩ := info_parts int_info
  have HC := Lib.hid (node29_any A c l n w hl hF hA)
  cases hh : Cx.isIn l n && Cx.valid l with
  | false =>
    have HT := Lib.hid (show trustP l n ts = false by unfold trustP; rw [hh]; rfl)
    have HH := Lib.hid hh
    clear hh
    go_enter Tryz.func8, Tryz.ntmps8
    go_wp2_with fail
    refine HC.out.mono ?_
    rintro e w1 ⟨rfl, b1⟩
    rw [HH.out]
    go_wp2_with fail
    go_ret
    exact ⟨by rw [HT.out]; rfl, b1⟩
  | true =>
    have hh' := hh
    rw [Bool.and_eq_true] at hh'
    obtain ⟨i, rfl, hi⟩ := Cx.isIn_get hh'.1
    have hg := Cx.valid_good hh'.2
    have HT := Lib.hid (trust_rest hh'.2 hi ts)
    have HH := Lib.hid hh
    have hvl := vars_length hg i hi
    clear hh hh'
    go_enter Tryz.func8, Tryz.ntmps8
    go_wp2_with fail
    refine HC.out.mono ?_
    rintro e w1 ⟨rfl, b1⟩
    rw [HH.out]
    go_wp2_with fail
    refine (rvars_any A c l (i : Int) w1 hg hl (hA.below b1)).mono ?_
    rintro e w2 ⟨V, vc, rfl, hns, b2⟩
    obtain ⟨xs, hxs⟩ : ∃ xs, Cx.vars l (i : Int) = xs := ⟨_, rfl⟩
    have b12 := b1.trans (b2.mono b1.size)
    rw [hxs] at hns hvl HT
    have HNS := Lib.hid hns
    simp only [hxs]
    clear hxs b1 b2 hns
    go_wp2_with fail
    go_loopw [9, 10] (fun v j wr => ∃ (k : Nat) (out : List Int), k ≤ xs.length ∧ out.length ≤ k ∧ Hid (out = restL (xs.take k) ts) ∧ j = .int .i64 k ∧ wr.ownsRow w2.heap.size 3 1 v out.length (icells out) ∧ Below w2.heap.size w2 wr) (fun _ j _ => xs.length - (intOf j).toNat)
    case atStart => exact ⟨0, [], by omega, by simp, Lib.hid (by simp [restL]), rfl, World.ownsRow_nil _ _ _ _, Below.refl _ _⟩
    case round =>
      obtain ⟨k, out, hk, hok, HO, rfl, ho, hbw⟩ := hrel
      obtain ⟨va, vc', rfl⟩ := own_len ho
      by_cases h1 : k < xs.length
      · have d1 : decide ((k : Int) < (xs.length : Int)) = true := by simp; omega
        obtain ⟨g, o, rfl, hgl, c0⟩ := (HNS.out.nums.below hbw).at h1
        have hE := rest_more (b := ts) (getElem_of h1)
        rw [← HO.out] at hE
        generalize xs[k] = x at *
        have j0 : (0 : Int) ≤ (k : Int) := by omega
        have j1 : (k : Int) < (xs.length : Int) := by omega
        have HIN := Lib.hid (in29_any B d ts x wr (by omega) (hB.below (b12.trans (hbw.mono b12.size))))
        have hy2 := hbw.size
        cases hz : ts.contains x
        · rw [hz, if_neg (by decide)] at hE
          have HE := Lib.hid hE.symm
          have HZ := Lib.hid hz
          clear hE hz
          go_wp2_with fail
          refine HIN.out.mono ?_
          rintro e w3 ⟨rfl, rfl⟩
          rw [HZ.out]
          go_wp2_with (first
            | (at_builtin; go_loud (refine wpList_append_from rfl (.tmp 34) (.tmp 39) 24 rfl w2.heap.size 3 in0 _ 1 8 Tryz.underlying24 hi0 hz0 hz1 hz2 rfl (by omega) (.slice va out.length vc') out.length (icells out) rfl (ho.alloc _) (some ⟨wr.heap.size, 0, none⟩) 1 1 [.int .i64 x] rfl rfl (fun h => by cases h) (fun ad h => by obtain rfl := Option.some.inj h; exact At.news (At.new _ _ _)) (one1 rfl) (by unfold maxLen; omega) (by omega) (by simp; omega) ?_); intro v2 w4 o2 g2))
          have bw4 : Below w2.heap.size w2 w4 := (hbw.alloc hy2 _).grown g2 (by simp; omega) (fun q hq => (own_lt ho hq).1)
          go_roundw
          case rel => exact ⟨k + 1, out ++ [x], by omega, by simp; omega, HE, by go_num, by rw [icells_app, List.length_append]; exact o2, bw4⟩
          case measure => simp [intOf]; omega
        · rw [hz, if_pos rfl] at hE
          have HE := Lib.hid hE.symm
          have HZ := Lib.hid hz
          clear hE hz
          go_wp2_with fail
          refine HIN.out.mono ?_
          rintro e w3 ⟨rfl, rfl⟩
          rw [HZ.out]
          go_wp2_with fail
          go_roundw
          case rel => exact ⟨k + 1, out, by omega, by omega, HE, by go_num, ho, hbw⟩
          case measure => simp [intOf]; omega
      · have d1 : decide ((k : Int) < (xs.length : Int)) = false := by simp; omega
        have hE : out = restL xs ts := by rw [HO.out, List.take_of_length_le (by omega)]
        have bz := b12.trans (hbw.mono b12.size)
        have HEV := Lib.hid (show Calls Tryz.prog 31 #[.slice A l.length c, .int .i64 (i : Int), .slice va out.length vc'] wr fun e w' => e = .returned (.bool (trustP l (i : Int) ts)) ∧ Below wr.heap.size wr w' by
          rw [HT.out, ← hE]
          exact reval_any A c l (i : Int) va vc' out wr (by omega) (by omega) hg (hA.below bz) (by obtain ⟨a', c', e, hn⟩ := ns_of_own ho; injection e with e1 e2 e3; subst e1; exact hn.nums))
        clear hE
        go_wp2_with fail
        refine HEV.out.mono ?_
        rintro e w3 ⟨rfl, b3⟩
        go_wp2_with fail
        go_ret
        exact ⟨rfl, bz.trans (b3.mono bz.size)⟩
set_option maxHeartbeats 1000000 in
set_option maxRecDepth 100000 in
theorem critical29_any (A : Option Addr) (c : Nat) (l : List N) (n : Int) (w : World) (hl : l.length ≤ 20000) (hF : ∀ n ∈ l, NGood n) (hA : Circ w A l) :
    Calls Tryz.prog 11 #[.slice A l.length c, .int .i64 n] w (NumsOwn (critP l n) w) := by
  obtain ⟨in0, hi0, hz0, hz1, hz2⟩ := info_parts int_info
  have HC : Hid (Calls Tryz.prog 8 #[.slice A l.length c, .int .i64 n, .slice none 0 0] w fun e w' => e = .returned (.bool (trustP l n [])) ∧ Below w.heap.size w w') :=
    Lib.hid (trust29_any A c l n none 0 [] w hl hF hA (by simp) (fun h => absurd rfl h))
  cases ht : trustP l n [] with
  | false =>
    have HR := Lib.hid (show critP l n = [] by unfold critP; rw [ht]; rfl)
    have HT := Lib.hid ht
    clear ht
    go_enter Tryz.func11, Tryz.ntmps11
    go_wp2_with fail
    refine HC.out.mono ?_
    rintro e w1 ⟨rfl, b1⟩
    rw [HT.out]
    go_wp2_with fail
    go_ret
    exact ⟨_, rfl, by rw [HR.out]; exact World.ownsRow_nil _ _ _ _, b1⟩
  | true =>
    have ht' := ht
    unfold trustP at ht'
    rw [Bool.and_eq_true, Bool.and_eq_true] at ht'
    obtain ⟨i, rfl, hi⟩ := Cx.isIn_get ht'.1.1
    have hg := Cx.valid_good ht'.1.2
    have HR := Lib.hid (show critP l (i : Int) = (Cx.vars l (i : Int)).filter fun x => !trustP l (i : Int) [x] by unfold critP; rw [ht, if_pos rfl])
    have HT := Lib.hid ht
    have hvl := vars_length hg i hi
    clear ht ht'
    go_enter Tryz.func11, Tryz.ntmps11
    go_wp2_with fail
    refine HC.out.mono ?_
    rintro e w1 ⟨rfl, b1⟩
    rw [HT.out]
    go_wp2_with fail
    refine (rvars_any A c l (i : Int) w1 hg hl (hA.below b1)).mono ?_
    rintro e w2 ⟨V, vc, rfl, hns, b2⟩
    obtain ⟨xs, hxs⟩ : ∃ xs, Cx.vars l (i : Int) = xs := ⟨_, rfl⟩
    have b12 := b1.trans (b2.mono b1.size)
    rw [hxs] at hns hvl
    have HXS := Lib.hid hxs
    have HNS := Lib.hid hns
    simp only [hxs]
    clear hxs b1 b2 hns
    go_wp2_with fail
    go_loopw [6, 7] (fun v j wr => ∃ (k : Nat) (out : List Int), k ≤ xs.length ∧ out.length ≤ k ∧ Hid (out = (xs.take k).filter fun x => !trustP l (i : Int) [x]) ∧ j = .int .i64 k ∧ wr.ownsRow w2.heap.size 3 1 v out.length (icells out) ∧ Below w2.heap.size w2 wr) (fun _ j _ => xs.length - (intOf j).toNat)
    case atStart => exact ⟨0, [], by omega, by simp, Lib.hid (by simp), rfl, World.ownsRow_nil _ _ _ _, Below.refl _ _⟩
    case round =>
      obtain ⟨k, out, hk, hok, HO, rfl, ho, hbw⟩ := hrel
      obtain ⟨va, vc', rfl⟩ := own_len ho
      by_cases h1 : k < xs.length
      · have d1 : decide ((k : Int) < (xs.length : Int)) = true := by simp; omega
        obtain ⟨g, o, rfl, hgl, c0⟩ := (HNS.out.nums.below hbw).at h1
        have hE := filter_take (fun x => !trustP l (i : Int) [x]) (getElem_of h1)
        rw [← HO.out] at hE
        generalize xs[k] = x at *
        have j0 : (0 : Int) ≤ (k : Int) := by omega
        have j1 : (k : Int) < (xs.length : Int) := by omega
        have hbA := (b12.trans (hbw.mono b12.size)).alloc (Nat.le_trans b12.size hbw.size) (.cells #[.int .i64 x] 3)
        have HTC := Lib.hid (trust29_any A c l (i : Int) (some ⟨wr.heap.size, 0, none⟩) 1 [x] (wr.alloc (.cells #[.int .i64 x] 3)) hl hF (hA.below hbA) (by simp) (nums_lit wr x))
        have hy2 := hbw.size
        have c03 : ∀ w3, Below (wr.alloc (.cells #[.int .i64 x] 3)).heap.size (wr.alloc (.cells #[.int .i64 x] 3)) w3 → w3.cell? ⟨g, o + k, none⟩ = some (.int .i64 x) := fun w3 b3 =>
          (b3.cell (show g < _ by simp; omega)).trans (((below1 wr _).cell hgl).trans c0)
        have HC03 := Lib.hid c03
        clear c03
        cases hz : trustP l (i : Int) [x] with
        | false =>
          rw [hz, if_pos (show (!false) = true from rfl)] at hE
          have HE := Lib.hid hE.symm
          have HZ := Lib.hid hz
          clear hE hz hbA
          go_wp2_with fail
          refine HTC.out.mono ?_
          rintro e w3 ⟨rfl, b3⟩
          rw [HZ.out]
          have o3 := own_below (own_alloc ho (.cells #[.int .i64 x] 3)) b3
          have c3 := HC03.out w3 b3
          have hz3 := b3.size
          simp at hz3
          go_wp2_with (first
            | (at_builtin; go_loud (refine wpList_append_from rfl (.tmp 32) (.tmp 37) 24 rfl w2.heap.size 3 in0 _ 1 8 Tryz.underlying24 hi0 hz0 hz1 hz2 rfl (by omega) (.slice va out.length vc') out.length (icells out) rfl (own_alloc o3 _) (some ⟨w3.heap.size, 0, none⟩) 1 1 [.int .i64 x] rfl rfl (fun h => by cases h) (fun ad h => by obtain rfl := Option.some.inj h; exact At.news (At.new _ _ _)) (one1 rfl) (by unfold maxLen; omega) (by omega) (by simp; omega) ?_); intro v2 w4 o2 g2))
          have bw4 : Below w2.heap.size w2 w4 := (((hbw.alloc hy2 _).trans (b3.mono (by simp; omega))).alloc (by omega) _).grown g2 (by simp; omega) (fun q hq => (own_lt ho hq).1)
          go_roundw
          case rel => exact ⟨k + 1, out ++ [x], by omega, by simp; omega, HE, by go_num, by rw [icells_app, List.length_append]; exact o2, bw4⟩
          case measure => simp [intOf]; omega
        | true =>
          rw [hz, if_neg (show ¬ (!true) = true by decide)] at hE
          have HE := Lib.hid hE.symm
          have HZ := Lib.hid hz
          clear hE hz hbA
          go_wp2_with fail
          refine HTC.out.mono ?_
          rintro e w3 ⟨rfl, b3⟩
          rw [HZ.out]
          go_wp2_with fail
          go_roundw
          case rel => exact ⟨k + 1, out, by omega, by omega, HE, by go_num, own_below (own_alloc ho _) b3, (hbw.alloc hy2 _).trans (b3.mono (by simp; omega))⟩
          case measure => simp [intOf]; omega
      · have d1 : decide ((k : Int) < (xs.length : Int)) = false := by simp; omega
        have HE := Lib.hid (show critP l (i : Int) = out by rw [HR.out, HXS.out, HO.out, List.take_of_length_le (by omega)])
        go_wp2_with fail
        go_ret
        exact ⟨_, rfl, by rw [HE.out]; exact own_mono ho b12.size, b12.trans (hbw.mono b12.size)⟩
theorem bestIx_next (ws : List Int) (F : List (List Int)) {k b : Nat} {x y : List Int} (hb : b = bestIx ws F k) (hx : F[k + 1]? = some x) (hy : F[b]? = some y) : bestIx ws F (k + 1) = if wsum ws x < wsum ws y then k + 1 else b := by
  show (if wsum ws (F.getD (k + 1) []) < wsum ws (F.getD (bestIx ws F k) []) then k + 1 else bestIx ws F k) = _
  rw [← hb, List.getD_eq_getElem?_getD, List.getD_eq_getElem?_getD, hx, hy]
  rfl
set_option maxHeartbeats 2000000 in
set_option maxRecDepth 100000 in
theorem cheap29_any (A : Option Addr) (c : Nat) (l : List N) (n : Int) (B : Option Addr) (d : Nat) (ws : List Int) (w : World) (hl : l.length ≤ 20000) (hF : ∀ n ∈ l, NGood n) (hA : Circ w A l) (hws : ws.length ≤ 1000000) (hB : Nums w B ws) :
    Calls Tryz.prog 15 #[.slice A l.length c, .int .i64 n, .slice B ws.length d] w (CheapOut l n ws w) := by
  have HFN := Lib.hid hF
  clear hF
  go_enter Tryz.func15, Tryz.ntmps15
  go_wp2_with fail
  go_loopw [9] (fun j wr => ∃ k : Nat, k ≤ ws.length ∧ Hid (∀ x ∈ ws.take k, wBad x = false) ∧ j = .int .i64 k ∧ Below w.heap.size w wr) (fun j _ => ws.length - (intOf j).toNat)
  case atStart => exact ⟨0, by omega, Lib.hid (by simp), rfl, Below.refl _ _⟩
  case round =>
    obtain ⟨k, hk, HO, rfl, hbw⟩ := hrel
    by_cases h1 : k < ws.length
    · have d1 : decide ((k : Int) < (ws.length : Int)) = true := by simp; omega
      obtain ⟨x, hx⟩ : ∃ x, ws[k]? = some x := ⟨_, List.getElem?_eq_getElem h1⟩
      obtain ⟨g, o, e, hgl, c0⟩ := (hB.below hbw).at h1
      rw [show ws[k] = x from (List.getElem?_eq_some_iff.1 hx).2] at c0
      subst e
      have j0 : (0 : Int) ≤ (k : Int) := by omega
      have j1 : (k : Int) < (ws.length : Int) := by omega
      have HBAD := Lib.hid (show wBad x = true → ccode l n ws = 1 from fun h => by unfold ccode; rw [if_pos (List.any_eq_true.2 ⟨x, List.mem_of_getElem? hx, h⟩)])
      have HGO := Lib.hid (show wBad x = false → ∀ y ∈ ws.take (k + 1), wBad y = false from fun h y hy => by
        rw [take_more hx] at hy
        rcases List.mem_append.1 hy with hy | hy
        · exact HO.out y hy
        · simp at hy; subst hy; exact h)
      clear hx
      by_cases z1 : x < 0
      · have z1' : decide (x < 0) = true := decide_eq_true z1
        have hc := HBAD.out (by unfold wBad; rw [z1']; rfl)
        obtain ⟨e1, e2⟩ := cheap_none (l := l) (n := n) (ws := ws) (by rw [hc]; decide)
        have H1 := Lib.hid hc
        have H2 := Lib.hid e1
        have H3 := Lib.hid e2
        clear hc e1 e2 z1
        go_wp2_with fail
        go_ret3
        exact ⟨_, by rw [H1.out, H3.out]; rfl, by rw [H2.out]; exact ⟨none, 0, rfl, Nat.le_refl _, by unfold maxLen; omega, fun _ => ⟨rfl, rfl⟩, fun h => absurd rfl h⟩, hbw⟩
      · have z1' : decide (x < 0) = false := decide_eq_false z1
        by_cases z2 : 1000000 < x
        · have z2' : decide (1000000 < x) = true := decide_eq_true z2
          have hc := HBAD.out (by unfold wBad; rw [z2']; simp)
          obtain ⟨e1, e2⟩ := cheap_none (l := l) (n := n) (ws := ws) (by rw [hc]; decide)
          have H1 := Lib.hid hc
          have H2 := Lib.hid e1
          have H3 := Lib.hid e2
          clear hc e1 e2 z1 z2
          go_wp2_with fail
          go_ret3
          exact ⟨_, by rw [H1.out, H3.out]; rfl, by rw [H2.out]; exact ⟨none, 0, rfl, Nat.le_refl _, by unfold maxLen; omega, fun _ => ⟨rfl, rfl⟩, fun h => absurd rfl h⟩, hbw⟩
        · have z2' : decide (1000000 < x) = false := decide_eq_false z2
          have HN := Lib.hid (HGO.out (by unfold wBad; rw [z1', z2']; rfl))
          clear z1 z2
          go_wp2_with fail
          go_roundw
          case rel => exact ⟨k + 1, by omega, HN, by go_num, hbw⟩
          case measure => simp [intOf]; omega
    · have d1 : decide ((k : Int) < (ws.length : Int)) = false := by simp; omega
      have hany : ws.any wBad = false := by
        rw [List.any_eq_false]
        intro x hx
        rw [HO.out x (by rw [List.take_of_length_le (by omega)]; exact hx)]; decide
      have hW := wok_iff.1 hany
      have HW := Lib.hid hW
      have HCC := Lib.hid (show ccode l n ws = if wcode l n ≠ 0 then wcode l n else if (wlist l n).length = 0 then 4 else 0 by unfold ccode; rw [hany]; rfl)
      have HWT := Lib.hid (wit29_any A c l n wr hl HFN.out (hA.below hbw))
      have HB := Lib.hid (hB.below hbw)
      clear hany hW HO
      go_wp2_with fail
      refine HWT.out.mono ?_
      rintro e w2 ⟨v, rfl, hf, b2⟩
      have hb2 := hbw.trans (b2.mono hbw.size)
      have HB2 := Lib.hid (HB.out.below b2)
      clear b2 HB HWT d1
      by_cases hc : wcode l n = 0
      · have HC := Lib.hid hc
        rw [hc]
        obtain ⟨i, rfl, hi, hg, hfew⟩ := wcode_zero hc
        have hwl : wlist l (i : Int) = fam l i := by unfold wlist; rw [hc]; rfl
        have HS := Lib.hid (show ∀ s ∈ fam l i, s.length ≤ 1000000 ∧ ∀ x ∈ s, 0 ≤ x from fun s hs => ⟨Nat.le_trans (fam_len hg hi hs) (by omega), fun x hx => (vars_i64 hg HFN.out hi x (Cx.fam_vars hg hi s hs hx)).2⟩)
        have hfl := few_len hfew
        have HCS := Lib.hid (show cset l (i : Int) ws = if (fam l i).length = 0 then [] else best ws (fam l i) by
          unfold cset; rw [HCC.out, hc, hwl]; by_cases h : (fam l i).length = 0 <;> simp [h])
        have HCW := Lib.hid (show cweight l (i : Int) ws = if (fam l i).length = 0 then 0 else wsum ws (best ws (fam l i)) by
          unfold cweight; rw [HCC.out, hc, hwl]; by_cases h : (fam l i).length = 0 <;> simp [h])
        have HCD := Lib.hid (show ccode l (i : Int) ws = if (fam l i).length = 0 then 4 else 0 by rw [HCC.out, hc, hwl]; simp)
        rw [hwl] at hf
        clear hc hwl hfew HCC
        generalize fam l i = F at *
        obtain ⟨Av, cv, rfl, hSe, hf⟩ := hf.open
        by_cases h0 : F.length = 0
        · have t0 : ((F.length : Int) == 0) = true := by rw [beq_iff_eq]; omega
          have t0' : ((F.length : Int) != 0) = false := by rw [bne, t0]; rfl
          rw [if_pos h0] at HCS HCW HCD
          clear h0
          go_wp2_with fail
          go_ret3
          exact ⟨_, by rw [HCD.out, HCW.out]; rfl, by rw [HCS.out]; exact ⟨none, 0, rfl, Nat.le_refl _, by unfold maxLen; omega, fun _ => ⟨rfl, rfl⟩, fun h => absurd rfl h⟩, hb2⟩
        · have t0 : ((F.length : Int) == 0) = false := by rw [beq_eq_false_iff_ne]; omega
          have t0' : ((F.length : Int) != 0) = true := by rw [bne, t0]; rfl
          rw [if_neg h0] at HCS HCW HCD
          have hlen : 1 ≤ F.length := by omega
          clear h0 hbw h1 hk
          go_wp2_with fail
          go_loopw [12, 13] (fun b j wr => ∃ (k q : Nat), k + 1 ≤ F.length ∧ q ≤ k ∧ Hid (q = bestIx ws F k) ∧ b = .int .i64 q ∧ j = .int .i64 ((k + 1 : Nat) : Int) ∧ Below w2.heap.size w2 wr) (fun _ j _ => F.length - (intOf j).toNat)
          case atStart => exact ⟨0, 0, by omega, by omega, Lib.hid rfl, rfl, rfl, Below.refl _ _⟩
          case round =>
            obtain ⟨k, q, hk, hq, HQ, rfl, rfl, hbw⟩ := hrel
            obtain ⟨y, hy⟩ : ∃ y, F[q]? = some y := ⟨_, List.getElem?_eq_getElem (by omega)⟩
            obtain ⟨g, o, Cy, cy, rfl, hgl, c0y, y1, y2, y3, y4⟩ := (hSe.below hbw).at hy
            obtain ⟨hyl, hyn⟩ := HS.out y (List.mem_of_getElem? hy)
            have fy : ∀ z : Held wr.heap.size wr, z.w.cell? ⟨g, o + q, none⟩ = some (.slice Cy y.length cy) := fun z => z.cell hgl c0y
            have HWY := Lib.hid (show ∀ z : Held wr.heap.size wr, Calls Tryz.prog 42 #[.slice Cy y.length cy, .slice B ws.length d] z.w fun e w' => e = .returned (.int .i64 (wsum ws y)) ∧ z.w = w' from fun z =>
              weight_any Cy cy y B d ws z.w hyl (by omega) hyn HW.out (y4.below z.ok) ((HB2.out.below hbw).below z.ok))
            have q0 : (0 : Int) ≤ (q : Int) := by omega
            have q1 : (q : Int) < (F.length : Int) := by omega
            by_cases h1 : k + 1 < F.length
            · obtain ⟨m, hm⟩ : ∃ m, m = k + 1 := ⟨_, rfl⟩
              rw [← hm] at h1 ⊢
              have d1 : decide ((m : Int) < (F.length : Int)) = true := by simp; omega
              obtain ⟨x, hx⟩ : ∃ x, F[m]? = some x := ⟨_, List.getElem?_eq_getElem (by omega)⟩
              obtain ⟨g', o', Cx', cx', e', hgl', c0x, x1, x2, x3, x4⟩ := (hSe.below hbw).at hx
              obtain ⟨e1, e2⟩ : g' = g ∧ o' = o := by injection e' with e'; injection e' with e1 e2; exact ⟨e1.symm, e2.symm⟩
              subst e1; subst e2
              obtain ⟨hxl, hxn⟩ := HS.out x (List.mem_of_getElem? hx)
              have fx : ∀ z : Held wr.heap.size wr, z.w.cell? ⟨g', o' + m, none⟩ = some (.slice Cx' x.length cx') := fun z => z.cell hgl' c0x
              have HWX := Lib.hid (show ∀ z : Held wr.heap.size wr, Calls Tryz.prog 42 #[.slice Cx' x.length cx', .slice B ws.length d] z.w fun e w' => e = .returned (.int .i64 (wsum ws x)) ∧ z.w = w' from fun z =>
                weight_any Cx' cx' x B d ws z.w hxl (by omega) hxn HW.out (x4.below z.ok) ((HB2.out.below hbw).below z.ok))
              have HBN := Lib.hid (bestIx_next ws F HQ.out (by rw [← hm]; exact hx) hy)
              have hgo : IntKind.i64.wrap ((m : Int) + 1) = ((m + 1 : Nat) : Int) := by rw [IntKind.wrap_i64]; omega
              have j0 : (0 : Int) ≤ (m : Int) := by omega
              have j1 : (m : Int) < (F.length : Int) := by omega
              have HM1 := Lib.hid hm
              have hm2 : m < F.length := h1
              clear hx hy c0x c0y x1 x2 x3 x4 y1 y2 y3 y4 hxn hyn e'
              generalize wsum ws x = sx at *
              generalize wsum ws y = sy at *
              by_cases hs : sx < sy
              · have ds : decide (sx < sy) = true := decide_eq_true hs
                rw [if_pos hs] at HBN
                clear hs hm
                go_wp2_with fail
                refine wp_region_held wr.heap.size wr (Below.refl _ _) (by kernel_rfl) (by kernel_rfl) ?_
                iterate 6 (go_big_quiet_step ((go_at_call 42; exact held_same _ (HWX.out _))))
                repeat (go_big_quiet_step ((go_at_call 42; exact held_same _ (HWY.out _))))
                refine wpQuiet_nil ?_
                rintro wt ⟨⟨_, bt⟩, rfl⟩
                go_wp2_with fail
                go_roundw
                case rel => exact ⟨m, m, by omega, by have := HM1.out; omega, Lib.hid (by rw [HM1.out, HBN.out]), rfl, by go_num, hbw.trans (bt.mono hbw.size)⟩
                case measure => simp [intOf]; omega
              · have ds : decide (sx < sy) = false := decide_eq_false hs
                rw [if_neg hs] at HBN
                clear hs hm
                go_wp2_with fail
                refine wp_region_held wr.heap.size wr (Below.refl _ _) (by kernel_rfl) (by kernel_rfl) ?_
                iterate 6 (go_big_quiet_step ((go_at_call 42; exact held_same _ (HWX.out _))))
                repeat (go_big_quiet_step ((go_at_call 42; exact held_same _ (HWY.out _))))
                refine wpQuiet_nil ?_
                rintro wt ⟨⟨_, bt⟩, rfl⟩
                go_wp2_with fail
                go_roundw
                case rel => exact ⟨m, q, by omega, by have := HM1.out; omega, Lib.hid (by rw [HM1.out, HBN.out]), rfl, by go_num, hbw.trans (bt.mono hbw.size)⟩
                case measure => simp [intOf]; omega
            · have d1 : decide (((k + 1 : Nat) : Int) < (F.length : Int)) = false := by simp; omega
              have d1' : decide ((k : Int) + 1 < (F.length : Int)) = false := by simp; omega
              have hbest : best ws F = y := by
                unfold best
                rw [show F.length - 1 = k by omega, ← HQ.out, List.getD_eq_getElem?_getD, hy]; rfl
              rw [hbest] at HCS HCW
              have HY := Lib.hid (SetV.mk y1 y2 y3 y4)
              clear hbest hy c0y y1 y2 y3 y4 hyn
              go_wp2_with fail
              refine wp_region_held wr.heap.size wr (Below.refl _ _) (by kernel_rfl) (by kernel_rfl) ?_
              repeat (go_big_quiet_step ((go_at_call 42; exact held_same _ (HWY.out _))))
              refine wpQuiet_nil ?_
              rintro wt ⟨⟨_, bt⟩, rfl⟩
              go_wp2_with fail
              go_ret3
              exact ⟨_, by rw [HCD.out, HCW.out]; rfl, by rw [HCS.out]; exact HY.out.below bt, hb2.trans ((hbw.trans (bt.mono hbw.size)).mono hb2.size)⟩
      · have hcc : ccode l n ws = wcode l n := by rw [HCC.out, if_pos hc]
        obtain ⟨e1, e2⟩ := cheap_none (l := l) (n := n) (ws := ws) (by rw [hcc]; exact hc)
        have H1 := Lib.hid hcc
        have H2 := Lib.hid e1
        have H3 := Lib.hid e2
        generalize wcode l n = z at *
        have t0 : (z == 0) = false := by rw [beq_eq_false_iff_ne]; exact hc
        have t0' : (z != 0) = true := by rw [bne, t0]; rfl
        clear hcc e1 e2 hc
        obtain ⟨Av, cv, rfl, _⟩ := hf
        go_wp2_with fail
        go_ret3
        exact ⟨_, by rw [H1.out, H3.out]; rfl, by rw [H2.out]; exact ⟨none, 0, rfl, Nat.le_refl _, by unfold maxLen; omega, fun _ => ⟨rfl, rfl⟩, fun h => absurd rfl h⟩, hb2⟩
end Go.Proofs.YtphmicbpkljmfaaGreat
