/- The walk of the product of two families. -/
import Derived.Test.YtphmicbpkljmfaaGreatSRing
namespace Go.Proofs.YtphmicbpkljmfaaGreat
set_option linter.unusedVariables false
set_option linter.unusedSimpArgs false
open Go.RowKit Go.Sort
theorem own_alloc {w : World} {B n size : Nat} {t : TypeId} {v : Value} {xs : List Value} (h : w.ownsRow B t size v n xs) (o : Obj) : (w.alloc o).ownsRow B t size v n xs := own_below h (below1 w o)
set_option maxHeartbeats 4000000 in
set_option maxRecDepth 100000 in
theorem times_fam (bf : Nat) (fl : Bool) (X : List Int) (va vb : Value) (F G : List (List Int)) (w : World) (hX : X.length ≤ 20000) (hF : FamS w va F X) (hG : FamS w vb G X) (hf : At w bf 82 #[.bool fl]) :
    Calls Tryz.prog 109 #[.pointer (some ⟨bf, 0, none⟩), va, vb] w (RingOut bf fl X (fun ts => Fm.Up (Fm.prods F G) ts) w) := by
  obtain ⟨in0, hi0, hz0, hz1, hz2⟩ := info_parts set_info
  obtain ⟨inI, hiI, hzI0, hzI1, hzI2⟩ := info_parts int_info
  obtain ⟨⟨A, c, rfl, a1, a2, a3, a4⟩, a5, a6⟩ := hF
  obtain ⟨⟨B, d, rfl, b1, b2, b3, b4⟩, b5, b6⟩ := hG
  have hlt := hf.lt
  have HA6 := Lib.hid a6
  have HB6 := Lib.hid b6
  have HF := Lib.hid hf
  clear a6 b6 hf
  go_enter Tryz.func109, Tryz.ntmps109
  go_wp2_with fail
  go_loopw [7, 15] (fun out i wr => ∃ (m : Nat) (L : List (List Int)) (vk : List Value), m ≤ F.length ∧ Hid (fl = false → L = Fm.prods (F.take m) G) ∧ Hid (∀ s ∈ L, Ok X s) ∧ L.length ≤ m * 200 ∧ i = .int .i64 m ∧ wr.ownsRow w.heap.size 53 1 out L.length vk ∧ Hid (HdrsT wr 3 vk L) ∧ Below w.heap.size w wr) (fun _ i _ => F.length - (intOf i).toNat)
  case atStart => exact ⟨0, [], [], by omega, Lib.hid (fun _ => by simp [Fm.prods]), Lib.hid (fun s hs => by cases hs), by simp, rfl, World.ownsRow_nil _ _ _ _, Lib.hid (hdrsT_nil _ _), Below.refl _ _⟩
  case round =>
    obtain ⟨m, L, vk, hm, HL, HO, hLm, rfl, hok, HT, hbw⟩ := hrel
    obtain ⟨va, vc, rfl⟩ := own_len hok
    by_cases h1 : m < F.length
    · have d1 : decide ((m : Int) < (F.length : Int)) = true := by simp; omega
      obtain ⟨x, hx⟩ : ∃ x, F[m]? = some x := ⟨_, List.getElem?_eq_getElem h1⟩
      obtain ⟨g, o, C, cc, rfl, hg, c0, x1, x2, x3, x4⟩ := a4.at hx
      have hxo := HA6.out x (List.mem_of_getElem? hx)
      have c0w := (hbw.cell hg).trans c0
      have hxl := hxo.len
      have HX := Lib.hid hx
      have HXO := Lib.hid hxo
      have HX4 := Lib.hid x4
      have i0 : (0 : Int) ≤ (m : Int) := by omega
      have i1 : (m : Int) < (F.length : Int) := by omega
      clear hx hxo x4 c0
      go_wp2_with fail
      go_loopw [7, 21] (fun out i wr => ∃ (k : Nat) (L : List (List Int)) (vk : List Value), k ≤ G.length ∧ Hid (fl = false → L = Fm.prods (F.take m) G ++ (G.take k).map fun y => Fm.uni x y) ∧ Hid (∀ s ∈ L, Ok X s) ∧ L.length ≤ m * 200 + k ∧ i = .int .i64 k ∧ wr.ownsRow w.heap.size 53 1 out L.length vk ∧ Hid (HdrsT wr 3 vk L) ∧ Below w.heap.size w wr) (fun _ i _ => G.length - (intOf i).toNat)
      case atStart => exact ⟨0, L, vk, by omega, Lib.hid (fun h => by rw [HL.out h]; simp), HO, by omega, rfl, hok, HT, hbw⟩
      case round =>
        clear hok HT HL HO hLm c0w
        rename_i wr0
        obtain ⟨k, L, vk, hk, HL, HO, hLm, rfl, hok, HT, hbw⟩ := hrel
        obtain ⟨va, vc, rfl⟩ := own_len hok
        by_cases h2 : k < G.length
        · have d2 : decide ((k : Int) < (G.length : Int)) = true := by simp; omega
          obtain ⟨y, hy⟩ : ∃ y, G[k]? = some y := ⟨_, List.getElem?_eq_getElem h2⟩
          obtain ⟨g', o', D, dd, rfl, hg', e0, y1, y2, y3, y4⟩ := b4.at hy
          have hyo := HB6.out y (List.mem_of_getElem? hy)
          have e0w := (hbw.cell hg').trans e0
          have hyl := hyo.len
          have HY := Lib.hid hy
          have HYO := Lib.hid hyo
          have HY4 := Lib.hid y4
          have j0 : (0 : Int) ≤ (k : Int) := by omega
          have j1 : (k : Int) < (G.length : Int) := by omega
          have hfw := HF.out.below hbw hlt
          have f0 := hfw.cell 0
          have hfl := hfw.lt
          simp at f0
          clear hy hyo y4 e0
          cases fl with
          | true =>
            go_wp2_with fail
            go_ret
            exact ⟨_, [], true, rfl, ⟨famV_nil _, by simp, fun s hs => by cases hs⟩, hfw, fun _ => rfl, (fun h => by cases h), fun _ => Or.inl rfl, apart_of_below hbw _⟩
          | false =>
            have HC := Lib.hid (cloneset_any C cc x wr (by omega) x3 (HX4.out.below hbw))
            go_wp2_with fail
            refine HC.out.mono ?_
            rintro e w1 ⟨v1, rfl, o1, bw1⟩
            have hyn := nums_news ((HY4.out.below hbw).below bw1)
            have LY := Lib.hid (icells_len y)
            have LX := Lib.hid (icells_len x)
            go_wp2_with (first
              | (at_builtin; go_loud (refine wpList_append_from rfl (.tmp 30) (.tmp 31) 53 rfl wr.heap.size 3 inI _ 1 8 Tryz.underlying53 hiI hzI0 hzI1 hzI2 rfl (by omega) v1 x.length (icells x) rfl o1 D y.length dd (icells y) rfl (by rw [LY.out]; omega) y3 hyn (icells_one y) (by unfold maxLen; omega) (by omega) bw1.size ?_); intro v2 w2 o2 g2))
            have bw2 : Below wr.heap.size wr w2 := bw1.grown g2 bw1.size (fun z hz => (own_lt o1 hz).1)
            have o2' : w2.ownsRow wr.heap.size 3 1 v2 (x ++ y).length (icells (x ++ y)) := by rw [icells_app, List.length_append]; exact o2
            refine (sortset_own wr.heap.size v2 (x ++ y) w2 o2' bw2.size (by simp; omega)).mono ?_
            rintro e w3 ⟨rfl, o3, bw3, _⟩
            go_wp2_with fail
            have hsl : (sorted (x ++ y)).length = (x ++ y).length := (sorted_perm _).length_eq
            refine (compact_own wr.heap.size v2 (sorted (x ++ y)) w3 (by rw [hsl]; exact o3) (Nat.le_trans bw2.size bw3.size) (by rw [hsl]; simp; omega)).mono ?_
            rintro e w4 ⟨v3, rfl, s4, t4, bw4⟩
            rw [uni_is HXO.out.1 HYO.out.1] at s4
            have bw : Below wr.heap.size wr w4 := (bw2.trans bw3).trans bw4
            have hok4 := own_below hok bw
            have HT4 := Lib.hid (HT.out.below bw)
            have HS4 := Lib.hid s4
            have HT4' := Lib.hid t4
            have hz4 := Nat.le_trans hbw.size bw.size
            obtain ⟨B3, c3, rfl, _, _, _, _⟩ := s4
            clear t4 o1 o2 o2' o3 hok HT hsl bw3 bw4 bw2 g2 bw1
            have hL24 : L.length ≤ 40200 := by
              have : m * 200 ≤ 200 * 200 := Nat.mul_le_mul (by omega) (Nat.le_refl _)
              omega
            go_wp2_with (first
              | (at_builtin; go_loud (refine wpList_append_from rfl (.tmp 35) (.tmp 38) 50 rfl w.heap.size 53 in0 _ 1 24 Tryz.underlying50 hi0 hz0 hz1 hz2 rfl (by omega) (.slice va L.length vc) L.length vk rfl (own_alloc hok4 _) (some ⟨w4.heap.size, 0, none⟩) 1 1 [.slice B3 (Fm.uni x y).length c3] rfl rfl (fun h => by cases h) (fun ad h => by obtain rfl := Option.some.inj h; exact At.news (At.new _ _ _)) (one1 rfl) (by unfold maxLen; omega) (by omega) (by simp; omega) ?_); intro v5 w5 o5 g5))
            have bw5 : Below w.heap.size w w5 := ((hbw.trans (bw.mono hbw.size)).alloc hz4 _).grown g5 (by simp; omega) (fun z hz => (own_lt hok4 hz).1)
            have HTn := Lib.hid (((HT4.out.snoc HS4.out HT4'.out).below (below1 w4 _)).grown g5 (own_not (own_alloc hok4 _) (by decide)))
            go_roundw
            case rel =>
              refine ⟨k + 1, L ++ [Fm.uni x y], _, by omega, Lib.hid (fun h => ?_), Lib.hid (fun s hs => ?_), by simp; omega, by go_num, by rw [List.length_append]; exact o5, HTn, bw5⟩
              · rw [map_take HY.out, HL.out h, List.append_assoc]
              · rcases List.mem_append.1 hs with h | h
                · exact HO.out s h
                · simp at h; subst h; exact ⟨Fm.uni_inc HXO.out.1 HYO.out.1, Fm.uni_sub.2 ⟨HXO.out.2, HYO.out.2⟩⟩
            case measure => simp [intOf]; omega
        · have d2 : decide ((k : Int) < (G.length : Int)) = false := by simp; omega
          go_wp2_with fail
          go_roundw
          case rel => exact ⟨m + 1, L, vk, by omega, Lib.hid (fun h => by rw [HL.out h, List.take_of_length_le (show G.length ≤ k by omega), ← prods_take HX.out]), HO, by omega, by go_num, hok, HT, hbw⟩
          case measure => simp [intOf]; omega
    · have d1 : decide ((m : Int) < (F.length : Int)) = false := by simp; omega
      go_wp2_with fail
      have hall : Hid (fl = false → L = Fm.prods F G) := Lib.hid (fun h => by rw [HL.out h, List.take_of_length_le (by omega)])
      refine (minimal_any w.heap.size bf fl (.slice va L.length vc) vk L wr hok HT.out.1 (fun s hs => (HO.out s hs).1) (fun s hs => by have := (HO.out s hs).len; omega) hbw.size (by omega) (HF.out.below hbw hlt)).mono ?_
      intro e w3 hM
      obtain ⟨v', K, fl', rfl, h2, h3, h4, h5, h6, h7, h8, h9⟩ := hM
      go_wp2_with fail
      go_ret
      refine ⟨v', K, fl', rfl, ⟨h2, h3, fun s hs => HO.out s (h4 s hs)⟩, h5, h6, fun h => ?_, fun h => ?_, (apart_of_below hbw _).trans h9⟩
      · obtain ⟨p, q⟩ := h7 h
        have hfalse : fl = false := by
          cases fl with
          | false => rfl
          | true => rw [h6 rfl] at h; cases h
        rw [hall.out hfalse] at q
        exact ⟨p, q⟩
      · cases fl with
        | true => exact Or.inl rfl
        | false =>
          rcases h8 h with h | ⟨M, p, q, r⟩
          · cases h
          · rw [hall.out rfl] at q
            exact Or.inr ⟨M, p, q, r⟩
end Go.Proofs.YtphmicbpkljmfaaGreat
