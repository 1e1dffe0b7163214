/- The walk of the reference's text and Text. -/
import Derived.Test.YtigcmjnjcaoolaaDoorCTxt
import Derived.Test.YtigcmjnjcaoolaaDoorCKey
namespace Go.Proofs.YtigcmjnjcaoolaaDoor
set_option linter.unusedVariables false
set_option linter.unusedSimpArgs false
open Go.RowKit
open Cx (N)
theorem str_app (a b : List UInt8) : (⟨a.toArray⟩ : ByteArray) ++ ⟨b.toArray⟩ = ⟨(a ++ b).toArray⟩ := by
  apply ByteArray.ext
  rw [ByteArray.data_append]
  simp
theorem kinds {l : List N} (hg : Cx.Good l) {i : Nat} {v : N} (e : l[i]? = some v) :
    (v.o = 0 ∧ i = 0 ∧ Cx.textAt l i = [48]) ∨ (v.o = 1 ∧ i = 1 ∧ Cx.textAt l i = [49]) ∨ (v.o = 2 ∧ 0 ≤ v.a ∧ Cx.textAt l i = 120 :: Lib.itoa v.a) ∨
    (∃ a b : Nat, (v.o = 3 ∨ v.o = 4) ∧ v.a = a ∧ v.b = b ∧ a < b ∧ b < i ∧ Cx.textAt l i = 40 :: Cx.textAt l a ++ Cx.opB v.o ++ Cx.textAt l b ++ [41]) := by
  have hi := (List.getElem?_eq_some_iff.1 e).1
  cases hg.kind hi with
  | zero h => left; refine ⟨?_, rfl, Cx.text_zero h⟩; rw [e] at h; rw [Option.some.inj h]; rfl
  | one h => right; left; refine ⟨?_, rfl, Cx.text_one h⟩; rw [e] at h; rw [Option.some.inj h]; rfl
  | @var _ v' hv _ h2 h3 _ => rw [e] at hv; obtain rfl := Option.some.inj hv; right; right; left; exact ⟨h2, h3, Cx.text_var e h2⟩
  | @two _ v' a b hv _ h2 ha hb h4 h5 h6 => rw [e] at hv; obtain rfl := Option.some.inj hv; right; right; right; exact ⟨a, b, h2, ha, hb, h5, h6, Cx.text_two e h2 ha hb (by omega) (by omega)⟩
/-- A text in memory. -/
def TextOut (l : List UInt8) (w : World) (e : Ending) (w' : World) : Prop := e = .returned (.string ⟨l.toArray⟩) ∧ Below w.heap.size w w'
set_option maxHeartbeats 4000000 in
set_option maxRecDepth 100000 in
theorem rtext_any (A : Option Addr) (c : Nat) (l : List N) (hg : Cx.Good l) (hF : ∀ n ∈ l, NGood n) (hl : l.length ≤ 20000) (i : Nat) :
    ∀ (w : World), i < l.length → (Cx.textAt l i).length ≤ 9000 → Circ w A l → Tab w →
      Calls Tryd.prog 49 #[.slice A l.length c, .int .i64 (i : Int)] w fun e w' => e = .returned (.string ⟨(Cx.textAt l i).toArray⟩) ∧ Below w.heap.size w w' := by
  induction i using Nat.strongRecOn with
  | ind i ih =>
    intro w hi hlen hA hT
    have IH := Lib.hid ih
    clear ih
    have e1 := getElem_of hi
    have hgood := hF _ (List.getElem_mem hi)
    have hAA := hA
    obtain ⟨g, o, rfl, hgl, c0, c1, c2⟩ := hA.at hi
    have j0 : (0 : Int) ≤ (i : Int) := by omega
    have j1 : (i : Int) < (l.length : Int) := by omega
    have j2 : i < l.length := hi
    generalize l[i] = v at *
    obtain ⟨W, hW⟩ : ∃ W, W = w.alloc (.cells #[.int .i64 v.o, .int .i64 v.a, .int .i64 v.b] 50) := ⟨_, rfl⟩
    have bW : Below w.heap.size w W := by rw [hW]; exact below1 _ _
    have aW : At W w.heap.size 50 #[.int .i64 v.o, .int .i64 v.a, .int .i64 v.b] := by rw [hW]; exact At.new _ _ _
    have TW := Lib.hid (hT.next bW)
    have CW := Lib.hid (hAA.below bW)
    have HW := Lib.hid hW
    clear hW hA hAA hT
    rcases kinds hg e1 with ⟨h0, hi0, hR⟩ | ⟨h0, hi0, hR⟩ | ⟨h2, h3, hR⟩ | ⟨a, b, h2, ha, hb, h5, h6, hR⟩
    · have HR := Lib.hid hR
      have t0 : (v.o == 0) = true := by simpa using h0
      clear hR h0 e1 hi0
      go_enter Tryd.func49, Tryd.ntmps49
      go_wp2_with fail
      go_ret
      exact ⟨by rw [HR.out]; rfl, below1 _ _⟩
    · have HR := Lib.hid hR
      have t0 : (v.o == 0) = false := by simp; omega
      have t1 : (v.o == 1) = true := by simpa using h0
      clear hR h0 e1 hi0
      go_enter Tryd.func49, Tryd.ntmps49
      go_wp2_with fail
      go_ret
      exact ⟨by rw [HR.out]; rfl, below1 _ _⟩
    · have HR := Lib.hid hR
      have t0 : (v.o == 0) = false := by simp; omega
      have t1 : (v.o == 1) = false := by simp; omega
      have t2 : (v.o == 2) = true := by simpa using h2
      have v1 := hgood.2.1.2
      have il := itoa_len h3 v1
      clear e1 hR h2
      go_enter Tryd.func49, Tryd.ntmps49
      go_wp2_with fail
      rw [← HW.out]
      refine (itoa_any _ _ h3 v1 TW.out).mono ?_
      rintro e w1 ⟨rfl, b1⟩
      go_wp2_with fail
      go_ret
      refine ⟨?_, bW.trans (b1.mono bW.size)⟩
      rw [HR.out, show 120 :: Lib.itoa v.a = [120] ++ Lib.itoa v.a from rfl, ← str_app]; rfl
    · have hlr := congrArg List.length hR
      simp only [List.length_append, List.length_cons, List.length_nil, Cx.opB_len] at hlr
      have la : (Cx.textAt l a).length ≤ 9000 := by omega
      have lb : (Cx.textAt l b).length ≤ 9000 := by omega
      have HR := Lib.hid hR
      have H2 := Lib.hid h2
      have lW := aW.lt
      have n0 : ∀ x : Held W.heap.size W, x.w.cell? ⟨w.heap.size, 0, none⟩ = some (.int .i64 v.o) := fun x => x.cell lW (aW.cell 0)
      have n1 : ∀ x : Held W.heap.size W, x.w.cell? ⟨w.heap.size, 1, none⟩ = some (.int .i64 v.a) := fun x => x.cell lW (aW.cell 1)
      have n2 : ∀ x : Held W.heap.size W, x.w.cell? ⟨w.heap.size, 2, none⟩ = some (.int .i64 v.b) := fun x => x.cell lW (aW.cell 2)
      have CA : ∀ x : Held W.heap.size W, Calls Tryd.prog 49 #[.slice (some ⟨g, o, none⟩) l.length c, .int .i64 v.a] x.w fun e w' => e = .returned (.string ⟨(Cx.textAt l a).toArray⟩) ∧ Below x.w.heap.size x.w w' := fun x => by
        rw [ha]; exact IH.out a (by omega) x.w (by omega) la (CW.out.below x.ok) (TW.out.next x.ok)
      have CB : ∀ x : Held W.heap.size W, Calls Tryd.prog 49 #[.slice (some ⟨g, o, none⟩) l.length c, .int .i64 v.b] x.w fun e w' => e = .returned (.string ⟨(Cx.textAt l b).toArray⟩) ∧ Below x.w.heap.size x.w w' := fun x => by
        rw [hb]; exact IH.out b (by omega) x.w (by omega) lb (CW.out.below x.ok) (TW.out.next x.ok)
      have HCA := Lib.hid CA; have HCB := Lib.hid CB
      have t0 : (v.o == 0) = false := by simp; omega
      have t1 : (v.o == 1) = false := by simp; omega
      have t2 : (v.o == 2) = false := by simp; omega
      clear hR hlr e1 ha hb h2 CA CB hlen
      have m0 := aW.cell 0
      simp at m0
      by_cases h3 : v.o = 3
      · have t3 : (v.o == 3) = true := by simpa using h3
        have HO := Lib.hid (show Cx.opB v.o = Cx.plusB by unfold Cx.opB; rw [if_pos h3])
        clear h3
        go_enter Tryd.func49, Tryd.ntmps49
        go_wp2_with fail
        rw [← HW.out]
        refine wp_region_held W.heap.size W (Below.refl _ _) (by kernel_rfl) (by kernel_rfl) ?_
        repeat (go_big_quiet_step ((go_at_call 49; with_reducible first
          | exact held_call _ (Nat.le_refl _) (HCA.out _)
          | exact held_call _ (Nat.le_refl _) (HCB.out _))))
        refine wpQuiet_nil ?_
        rintro w5 ⟨⟨_, b5⟩, rfl⟩
        clear n0 n1 n2
        go_wp2_with fail
        go_ret
        refine ⟨?_, bW.trans (b5.mono bW.size)⟩
        rw [HR.out, HO.out, show 40 :: Cx.textAt l a ++ Cx.plusB ++ Cx.textAt l b ++ [41] = ((([40] ++ Cx.textAt l a) ++ Cx.plusB) ++ Cx.textAt l b) ++ [41] from by simp, ← str_app, ← str_app, ← str_app, ← str_app]
        rfl
      · have t3 : (v.o == 3) = false := by simpa using h3
        have HO := Lib.hid (show Cx.opB v.o = Cx.timesB by unfold Cx.opB; rw [if_neg h3])
        clear h3
        go_enter Tryd.func49, Tryd.ntmps49
        go_wp2_with fail
        rw [← HW.out]
        refine wp_region_held W.heap.size W (Below.refl _ _) (by kernel_rfl) (by kernel_rfl) ?_
        repeat (go_big_quiet_step ((go_at_call 49; with_reducible first
          | exact held_call _ (Nat.le_refl _) (HCA.out _)
          | exact held_call _ (Nat.le_refl _) (HCB.out _))))
        refine wpQuiet_nil ?_
        rintro w5 ⟨⟨_, b5⟩, rfl⟩
        clear n0 n1 n2
        go_wp2_with fail
        go_ret
        refine ⟨?_, bW.trans (b5.mono bW.size)⟩
        rw [HR.out, HO.out, show 40 :: Cx.textAt l a ++ Cx.timesB ++ Cx.textAt l b ++ [41] = ((([40] ++ Cx.textAt l a) ++ Cx.timesB) ++ Cx.textAt l b) ++ [41] from by simp, ← str_app, ← str_app, ← str_app, ← str_app]
        rfl
/-- The sizes of the first k nodes. -/
def SizesAt (l : List N) (k : Nat) (all : List Int) : Prop := all = Cx.sizes (l.take k)
theorem SizesAt.more {l : List N} {k : Nat} {all : List Int} {v : N} (h : SizesAt l k all) (hv : l[k]? = some v) : SizesAt l (k + 1) (all ++ [Cx.sizeStep all v]) := by
  unfold SizesAt at *
  rw [take_more hv, Cx.sizes_snoc, ← h]
theorem SizesAt.get {l : List N} {k : Nat} {all : List Int} (h : SizesAt l k all) {j : Nat} (hj : j < k) (hl : j < l.length) : all[j]? = some (Cx.sizeAt l j) := by
  unfold SizesAt at h
  rw [h, Cx.sizes_take, List.getElem?_take, if_pos hj]
  unfold Cx.sizeAt
  rw [List.getD_eq_getElem?_getD]
  have : j < (Cx.sizes l).length := by rw [Cx.sizes_len]; exact hl
  rw [List.getElem?_eq_getElem this]; rfl
theorem good_big {l : List N} (hF : ∀ n ∈ l, NGood n) : ∀ n ∈ l, n.a < 10000000000000000000 := fun n hn => by have := (hF n hn).2.1.2; omega
theorem size_bd {l : List N} (hg : Cx.Good l) (hF : ∀ n ∈ l, NGood n) {k : Nat} (hk : k < l.length) : 1 ≤ Cx.sizeAt l k ∧ Cx.sizeAt l k ≤ 8001 := by
  obtain ⟨h1, h2⟩ := Cx.size_text hg (good_big hF) k hk
  omega
theorem SizesAt.ok {l : List N} (hg : Cx.Good l) (hF : ∀ n ∈ l, NGood n) {k : Nat} {all : List Int} {v : N} (h : SizesAt l k all) (hv : l[k]? = some v) : SizeOk v all := by
  have hk := (List.getElem?_eq_some_iff.1 hv).1
  have hgood := hF v (List.mem_of_getElem? hv)
  refine ⟨fun h2 => ?_, fun h2 => ?_⟩
  · rcases kinds hg hv with ⟨h0, _⟩ | ⟨h0, _⟩ | ⟨_, h3, _⟩ | ⟨a, b, h3, _⟩
    · omega
    · omega
    · exact ⟨h3, hgood.2.1.2⟩
    · omega
  · have hb := hg.kids hv h2
    obtain ⟨x0, x1⟩ := size_bd hg hF (show v.a.toNat < l.length by omega)
    obtain ⟨y0, y1⟩ := size_bd hg hF (show v.b.toNat < l.length by omega)
    exact ⟨v.a.toNat, v.b.toNat, _, _, by omega, by omega, h.get (by omega) (by omega), h.get (by omega) (by omega), by omega, x1, by omega, y1⟩
theorem text_of {l : List N} (hg : Cx.Good l) (hF : ∀ n ∈ l, NGood n) {k : Nat} (hk : k < l.length) (h : Cx.sizeAt l k ≤ 8000) : (Cx.textAt l k).length ≤ 9000 := by
  obtain ⟨h1, h2⟩ := Cx.size_text hg (good_big hF) k hk
  omega
theorem text_out {l : List N} {n lim : Int} (h : Cx.isIn l n = false) : Cx.text l n lim = [] := by unfold Cx.text; rw [h]; rfl
theorem text_in {l : List N} {k : Nat} {lim : Int} (hk : k < l.length) : Cx.text l k lim = if Cx.sizeAt l k > lim ∨ Cx.sizeAt l k > 8000 then [] else Cx.textAt l k := by
  unfold Cx.text
  rw [if_pos (show Cx.isIn l (k : Int) = true by unfold Cx.isIn; simp; omega)]; rfl
set_option maxHeartbeats 4000000 in
set_option maxRecDepth 100000 in
theorem rText_any (A : Option Addr) (c : Nat) (l : List N) (node lim : Int) (w : World) (hg : Cx.Good l) (hF : ∀ n ∈ l, NGood n) (hl : l.length ≤ 20000) (hA : Circ w A l) (hT : Tab w) :
    Calls Tryd.prog 28 #[.slice A l.length c, .int .i64 node, .int .i64 lim] w fun e w' => e = .returned (.string ⟨(Cx.text l node lim).toArray⟩) ∧ Below w.heap.size w w' := by
  cases hin : Cx.isIn l node with
  | false =>
    have HR := Lib.hid (text_out (lim := lim) hin)
    have HIN := Lib.hid hin
    clear hin
    go_enter Tryd.func28, Tryd.ntmps28
    go_wp2_with fail
    refine (in_any A c l node _ (by omega)).mono ?_
    rintro e w1 ⟨rfl, hw1⟩
    subst hw1
    rw [HIN.out]
    go_wp2_with fail
    go_ret
    exact ⟨by rw [HR.out]; rfl, Below.refl _ _⟩
  | true =>
    have h01 : 0 ≤ node ∧ node < l.length := by unfold Cx.isIn at hin; simpa using hin
    obtain ⟨i, rfl⟩ : ∃ i : Nat, node = i := ⟨node.toNat, by omega⟩
    have hi : i < l.length := by omega
    have HIN := Lib.hid hin
    have HR := Lib.hid (text_in (lim := lim) hi)
    obtain ⟨i0, hi0, hz0, hz1, hz2⟩ := info_parts int_info
    clear hin h01
    go_enter Tryd.func28, Tryd.ntmps28
    go_wp2_with fail
    refine (in_any A c l (i : Int) _ (by omega)).mono ?_
    rintro e w1 ⟨rfl, hw1⟩
    subst hw1
    rw [HIN.out]
    go_wp2_with fail
    have o0 := own_empty w 3 1 w.heap.size (Nat.le_refl _)
    have bw0 := below1 w (.cells #[] 3)
    go_loopw [7, 8] (fun v x wr => ∃ (k : Nat) (all : List Int), k ≤ l.length ∧ all.length = k ∧ Hid (SizesAt l k all) ∧ x = .int .i64 k ∧ wr.ownsRow w.heap.size 3 1 v all.length (icells all) ∧ Below w.heap.size w wr) (fun _ x _ => l.length - (intOf x).toNat)
    case atStart => exact ⟨0, [], by omega, rfl, Lib.hid rfl, rfl, o0, bw0⟩
    case round =>
      obtain ⟨k, all, hk, hlk, HL, rfl, hown, hbw⟩ := hrel
      clear o0 bw0
      obtain ⟨va, vc, hv, hns⟩ := ns_of_own hown
      subst hv
      by_cases h1 : k < l.length
      · have d1 : decide ((k : Int) < (l.length : Int)) = true := by simp; omega
        have d1' : decide (k < l.length) = true := by simp; omega
        obtain ⟨g, o, rfl, hgl, c0, c1, c2⟩ := (hA.below hbw).at h1
        have e1 := getElem_of h1
        have hok := HL.out.ok hg hF e1
        have HN := Lib.hid (HL.out.more e1)
        generalize l[k] = v at *
        have i1 : (0 : Int) ≤ (k : Int) := by omega
        have i2 : (k : Int) < (l.length : Int) := by omega
        have HOK := Lib.hid hok
        have HLK := Lib.hid hlk
        have LL := Lib.hid (icells_len all)
        clear e1 hok hlk
        go_wp2_with fail
        refine (rsize_any v va vc all _ HOK.out (by have := HLK.out; omega) hns.nums (hT.next hbw)).mono ?_
        rintro e w2 ⟨rfl, b2⟩
        have hown2 := own_below hown b2
        have bw2 := hbw.trans (b2.mono hbw.size)
        generalize hsz : Cx.sizeStep all v = sz at *
        have HSZ := Lib.hid hsz
        clear hsz
        go_wp2_with (first
          | (at_builtin; refine wpList_append_from rfl (.tmp 20) (.tmp 27) 25 rfl w.heap.size 3 i0 _ 1 8 Tryd.underlying25 hi0 hz0 hz1 hz2 rfl (by omega) (.slice va all.length vc) all.length (icells all) rfl (hown2.alloc _) (some ⟨w2.heap.size, 0, none⟩) 1 1 [.int .i64 sz] rfl rfl (fun h => by cases h) (fun ad h => by obtain rfl := Option.some.inj h; exact At.news (At.new _ _ _)) (one1 rfl) (by have := HLK.out; unfold maxLen; omega) (by have := HLK.out; omega) (by have := bw2.size; simp; omega) ?_; intro v3 w3 o3 g3))
        have bw3 : Below w.heap.size w w3 := (bw2.alloc bw2.size _).grown g3 (by have := bw2.size; simp; omega) (fun q hq => (own_lt hown2 hq).1)
        go_roundw
        case rel => exact ⟨k + 1, all ++ [sz], by omega, by simp [HLK.out], HN, by go_num, by rw [icells_app, List.length_append]; exact o3, bw3⟩
        case measure => simp [intOf]; omega
      · have d1 : decide ((k : Int) < (l.length : Int)) = false := by simp; omega
        have d1' : decide (k < l.length) = false := by simp; omega
        have hki : k = l.length := by omega
        have eg := HL.out.get (show i < k by omega) hi
        obtain ⟨g, o, rfl, hgl, ci⟩ := hns.nums.at (show i < all.length by omega)
        have es : all[i]'(by omega) = Cx.sizeAt l i := by
          rw [List.getElem?_eq_getElem (show i < all.length by omega)] at eg; exact Option.some.inj eg
        rw [es] at ci
        have hla : all.length = l.length := by omega
        have i1 : (0 : Int) ≤ (i : Int) := by omega
        have i2 : (i : Int) < (all.length : Int) := by omega
        have i3 : i < all.length := by omega
        obtain ⟨z0, z1⟩ := size_bd hg hF hi
        have HTX := Lib.hid (text_of hg hF hi)
        generalize Cx.sizeAt l i = sz at *
        have HLA := Lib.hid hla
        clear eg es hla hki hlk
        by_cases s1 : lim < sz
        · have t1 : decide (lim < sz) = true := by simpa using s1
          have HE := Lib.hid (show Cx.text l (i : Int) lim = [] by rw [HR.out, if_pos (Or.inl s1)])
          go_wp2_with fail
          go_ret
          exact ⟨by rw [HE.out]; rfl, hbw⟩
        · have t1 : decide (lim < sz) = false := by simpa using s1
          by_cases s2 : 8000 < sz
          · have t2 : decide (8000 < sz) = true := by simpa using s2
            have HE := Lib.hid (show Cx.text l (i : Int) lim = [] by rw [HR.out, if_pos (Or.inr s2)])
            go_wp2_with fail
            go_ret
            exact ⟨by rw [HE.out]; rfl, hbw⟩
          · have t2 : decide (8000 < sz) = false := by simpa using s2
            have HE := Lib.hid (show Cx.text l (i : Int) lim = Cx.textAt l i by rw [HR.out, if_neg (by omega)])
            go_wp2_with fail
            refine (rtext_any A c l hg hF hl i _ hi (HTX.out (by omega)) (hA.below hbw) (hT.next hbw)).mono ?_
            rintro e w2 ⟨rfl, b2⟩
            go_wp2_with fail
            go_ret
            exact ⟨by rw [HE.out]; rfl, hbw.trans (b2.mono hbw.size)⟩
end Go.Proofs.YtigcmjnjcaoolaaDoor
