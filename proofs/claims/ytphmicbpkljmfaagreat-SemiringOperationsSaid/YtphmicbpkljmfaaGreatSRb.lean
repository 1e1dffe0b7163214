/- The walks of the reference's union, Plus, Times, order. -/
import Derived.Test.YtphmicbpkljmfaaGreatSRa
namespace Go.Proofs.YtphmicbpkljmfaaGreat
set_option linter.unusedVariables false
set_option linter.unusedSimpArgs false
open Go.RowKit
open Cx (N)
def SetOut (s : List Int) (w : World) (e : Ending) (w' : World) : Prop := ∃ v, e = .returned v ∧ SetV w' v s ∧ (∀ g, v.ownBlock = some g → w.heap.size ≤ g) ∧ Below w.heap.size w w'
theorem uni_more {a b : List Int} {k : Nat} {x : Int} {xs : List Int} (h : xs = a ++ (b.take k).filter fun x => !a.contains x) (hx : b[k]? = some x) : a ++ (b.take (k + 1)).filter (fun x => !a.contains x) = if a.contains x = true then xs else xs ++ [x] := by
  rw [take_more hx, List.filter_append, h]
  cases hz : a.contains x <;> simp [hz] <;> simpa using hz
theorem uni_of {a b t : List Int} (ia : Fm.Inc a) (ib : Fm.Inc b) (hp : t.Perm (a ++ b.filter fun x => !a.contains x)) (hs : t.Pairwise (· ≤ ·)) : t = Fm.uni a b := by
  refine Fm.Inc.uni ia ib (Fm.sorted_inc (hp.nodup_iff.2 ?_) hs) fun x => ?_
  · rw [List.nodup_append]
    exact ⟨ia.nodup, ib.nodup.filter _, fun x hx y hy e => by subst e; rw [List.mem_filter] at hy; simp at hy; exact hy.2 hx⟩
  · rw [hp.mem_iff, List.mem_append, List.mem_filter]
    constructor
    · rintro (h | h)
      · exact Or.inl h
      · exact Or.inr h.1
    · rintro (h | h)
      · exact Or.inl h
      · by_cases ha : x ∈ a
        · exact Or.inl ha
        · exact Or.inr ⟨h, by simpa using ha⟩
theorem SetV.open {w : World} {A : Option Addr} {c : Nat} {s : List Int} (h : SetV w (.slice A s.length c) s) : (A = none → s.length = 0 ∧ c = 0) ∧ Nums w A s := by
  obtain ⟨A', c', e, _, _, h3, h⟩ := h
  injection e with e1 e2 e3; subst e1; subst e3; exact ⟨h3, h⟩
set_option maxHeartbeats 1000000 in
theorem union29_any (A : Option Addr) (c : Nat) (a : List Int) (B : Option Addr) (d : Nat) (b : List Int) (w : World) (hla : a.length ≤ 100000) (hlb : b.length ≤ 100000) (ha : SetV w (.slice A a.length c) a) (hb : SetV w (.slice B b.length d) b) (ia : Fm.Inc a) (ib : Fm.Inc b) :
    Calls Tryz.prog 47 #[.slice A a.length c, .slice B b.length d] w (SetOut (Fm.uni a b) w) := by
  obtain ⟨in0, hi0, hz0, hz1, hz2⟩ := info_parts int_info
  obtain ⟨hn, hA⟩ := ha.open
  obtain ⟨_, hB⟩ := hb.open
  have HU := Lib.hid (fun t => uni_of (t := t) ia ib)
  clear ha hb ia ib
  have LL := Lib.hid (icells_len a)
  have o0 := own_empty w 3 1 w.heap.size (Nat.le_refl _)
  have hA1 := hA.below (below1 w (.cells #[] 3))
  go_enter Tryz.func47, Tryz.ntmps47
  go_wp2_with (first
    | (at_builtin; go_loud (refine wpList_append_from rfl (.tmp 8) (.tmp 9) 24 rfl w.heap.size 3 in0 _ 1 8 Tryz.underlying24 hi0 hz0 hz1 hz2 rfl (by omega) (.slice (some ⟨w.heap.size, 0, none⟩) 0 0) 0 [] rfl o0 A a.length c (icells a) rfl (by rw [LL.out]; omega) hn (nums_news hA1) (icells_one a) (by unfold maxLen; omega) (by omega) (by simp) ?_); intro v1 w1 o1 g1; simp only [Nat.zero_add, List.nil_append] at o1; obtain ⟨a1, c1, rfl⟩ := own_len o1))
  have b1 : Below w.heap.size w w1 := (below1 w _).grown g1 (by simp) (fun q hq => by simp [Value.ownBlock] at hq; omega)
  clear o0 hA1 g1
  go_wp2_with fail
  go_loopw [5, 6] (fun v i wr => ∃ (k : Nat) (xs : List Int), k ≤ b.length ∧ xs.length ≤ a.length + k ∧ Hid (xs = a ++ (b.take k).filter fun x => !a.contains x) ∧ i = .int .i64 k ∧ wr.ownsRow w.heap.size 3 1 v xs.length (icells xs) ∧ Below w.heap.size w wr) (fun _ i _ => b.length - (intOf i).toNat)
  case atStart => exact ⟨0, a, by omega, by omega, Lib.hid (by simp), rfl, o1, b1⟩
  case round =>
    clear b1 o1
    obtain ⟨k, xs, hk, hxs, HX, rfl, ho, hbw⟩ := hrel
    obtain ⟨va, vc, rfl⟩ := own_len ho
    by_cases h1 : k < b.length
    · have d1 : decide ((k : Int) < (b.length : Int)) = true := by simp; omega
      obtain ⟨x, hx⟩ : ∃ x, b[k]? = some x := ⟨_, List.getElem?_eq_getElem h1⟩
      obtain ⟨g, o, e, hg, c1⟩ := (hB.below hbw).at h1
      rw [show b[k] = x from (List.getElem?_eq_some_iff.1 hx).2] at c1
      subst e
      have hE := uni_more HX.out hx
      have j0 : (0 : Int) ≤ (k : Int) := by omega
      have j1 : (k : Int) < (b.length : Int) := by omega
      cases hz : a.contains x
      · rw [hz, if_neg (by decide)] at hE
        have HE := Lib.hid hE.symm
        have HZ := Lib.hid hz
        clear hE hz hx
        go_wp2_with fail
        refine (in29_any A c a x _ (by omega) (hA.below hbw)).mono ?_
        rintro e w1 ⟨rfl, rfl⟩
        rw [HZ.out]
        go_wp2_with (first
          | (at_builtin; go_loud (refine wpList_append_from rfl (.tmp 25) (.tmp 30) 24 rfl w.heap.size 3 in0 _ 1 8 Tryz.underlying24 hi0 hz0 hz1 hz2 rfl (by omega) (.slice va xs.length vc) xs.length (icells xs) rfl (ho.alloc _) (some ⟨wr.heap.size, 0, none⟩) 1 1 [.int .i64 x] rfl rfl (fun h => by cases h) (fun ad h => by obtain rfl := Option.some.inj h; exact At.news (At.new _ _ _)) (one1 rfl) (by unfold maxLen; omega) (by omega) (by have := hbw.size; simp; omega) ?_); intro v2 w2 o2 g2))
        have bw2 : Below w.heap.size w w2 := (hbw.alloc hbw.size _).grown g2 (by have := hbw.size; simp; omega) (fun q hq => (own_lt ho hq).1)
        go_roundw
        case rel => exact ⟨k + 1, xs ++ [x], by omega, by simp; omega, HE, by go_num, by rw [icells_app, List.length_append]; exact o2, bw2⟩
        case measure => simp [intOf]; omega
      · rw [hz, if_pos rfl] at hE
        have HE := Lib.hid hE.symm
        have HZ := Lib.hid hz
        clear hE hz hx
        go_wp2_with fail
        refine (in29_any A c a x _ (by omega) (hA.below hbw)).mono ?_
        rintro e w1 ⟨rfl, rfl⟩
        rw [HZ.out]
        go_wp2_with fail
        go_roundw
        case rel => exact ⟨k + 1, xs, by omega, by omega, HE, by go_num, ho, hbw⟩
        case measure => simp [intOf]; omega
    · have d1 : decide ((k : Int) < (b.length : Int)) = false := by simp; omega
      have HE := Lib.hid (show xs = a ++ b.filter fun x => !a.contains x by have := HX.out; rwa [List.take_of_length_le (by omega)] at this)
      have HSV : SetV wr (.slice va xs.length vc) xs := own_set (by have := ho; unfold icells at this; exact this)
      have HSO := Lib.hid (sorted29_any va vc xs wr (by omega) HSV)
      go_wp2_with fail
      refine HSO.out.mono ?_
      rintro e w2 ⟨v, t, rfl, hp, hs, hS, hf, b2⟩
      go_wp2_with fail
      go_ret
      rw [HE.out] at hp
      exact ⟨_, rfl, by rw [← HU.out t hp hs]; exact hS, (fun g hg => Nat.le_trans hbw.size (hf g hg)), hbw.trans (b2.mono hbw.size)⟩
theorem adds_more {l L : List (List Int)} {k : Nat} {x : List Int} (hx : L[k]? = some x) : Fm.adds l (L.take (k + 1)) = Fm.add (Fm.adds l (L.take k)) x := by rw [take_more hx, Fm.adds_snoc]
set_option maxHeartbeats 1000000 in
theorem plus29_any (q : Option Nat) (A : Option Addr) (c : Nat) (F : List (List Int)) (B : Option Addr) (d : Nat) (G : List (List Int)) (w : World) (hlF : F.length ≤ 400000) (hlG : G.length ≤ 400000) (hq : Lo q w.heap.size) (hF : FamA q w (.slice A F.length c) F) (hG : FamA q w (.slice B G.length d) G) :
    Calls Tryz.prog 20 #[.slice A F.length c, .slice B G.length d] w (FamOut q (Fm.adds (Fm.adds [] F) G) w) := by
  have HFA := Lib.hid hF
  have HGA := Lib.hid hG
  have HLQ := Lib.hid hq
  clear hF hG hq
  go_enter Tryz.func20, Tryz.ntmps20
  go_wp2_with fail
  go_loopw [5, 6] (fun v i wr => ∃ (k : Nat) (K : List (List Int)), k ≤ F.length ∧ K.length ≤ k ∧ Hid (K = Fm.adds [] (F.take k)) ∧ i = .int .i64 k ∧ FamA q wr v K ∧ Below w.heap.size w wr) (fun _ i _ => F.length - (intOf i).toNat)
  case atStart => exact ⟨0, [], by omega, by simp, Lib.hid (by simp [Fm.adds]), rfl, famA_nil _ _, Below.refl _ _⟩
  case round =>
    obtain ⟨k, K, hk, hKk, HK, rfl, hv, hbw⟩ := hrel
    obtain ⟨Ak, ck, rfl, _, hv⟩ := hv.open
    by_cases h1 : k < F.length
    · have d1 : decide ((k : Int) < (F.length : Int)) = true := by simp; omega
      obtain ⟨x, hx⟩ : ∃ x, F[k]? = some x := ⟨_, List.getElem?_eq_getElem h1⟩
      obtain ⟨g, o, C, cc, rfl, hg, c0, q1, q2, q3, q4, q5⟩ := (HFA.out.below hbw).at hx
      have i0 : (0 : Int) ≤ (k : Int) := by omega
      have i1 : (k : Int) < (F.length : Int) := by omega
      have hm := adds_more (l := []) hx
      rw [← HK.out] at hm
      have HE := Lib.hid hm.symm
      have hal := Fm.add_len K x
      have HAD := Lib.hid (add29_any q Ak ck K C cc x wr (by omega) (HLQ.out.mono hbw.size) hv (SetV.mk q1 q2 q3 q4) q5)
      clear hx hm q1 q2 q3 q4 q5
      go_wp2_with fail
      refine HAD.out.mono ?_
      rintro e w2 ⟨v2, rfl, h2, b2⟩
      go_wp2_with fail
      go_roundw
      case rel => exact ⟨k + 1, Fm.add K x, by omega, by omega, HE, by go_num, h2, hbw.trans (b2.mono hbw.size)⟩
      case measure => simp [intOf]; omega
    · have d1 : decide ((k : Int) < (F.length : Int)) = false := by simp; omega
      have HR := Lib.hid (show K = Fm.adds [] F by have := HK.out; rwa [List.take_of_length_le (by omega)] at this)
      clear HK
      obtain ⟨K0, hK0⟩ : ∃ K0, Fm.adds [] F = K0 := ⟨_, rfl⟩
      rw [hK0] at HR
      have hKl : K0.length ≤ F.length := by rw [← HR.out]; omega
      rw [HR.out] at hv
      rw [HR.out]
      have HK0 := Lib.hid hK0
      clear hK0 HR hKk
      go_wp2_with fail
      go_loopw [5, 7] (fun v i wr => ∃ (k : Nat) (K : List (List Int)), k ≤ G.length ∧ K.length ≤ K0.length + k ∧ Hid (K = Fm.adds K0 (G.take k)) ∧ i = .int .i64 k ∧ FamA q wr v K ∧ Below w.heap.size w wr) (fun _ i _ => G.length - (intOf i).toNat)
      case atStart => exact ⟨0, K0, by omega, by omega, Lib.hid (by simp [Fm.adds]), rfl, hv, hbw⟩
      case round =>
        clear hbw hv d1 h1 hk
        obtain ⟨k, K, hk, hKk, HK, rfl, hv, hbw⟩ := hrel
        obtain ⟨Ak, ck, rfl, _, hv⟩ := hv.open
        by_cases h1 : k < G.length
        · have d1 : decide ((k : Int) < (G.length : Int)) = true := by simp; omega
          obtain ⟨x, hx⟩ : ∃ x, G[k]? = some x := ⟨_, List.getElem?_eq_getElem h1⟩
          obtain ⟨g, o, C, cc, rfl, hg, c0, q1, q2, q3, q4, q5⟩ := (HGA.out.below hbw).at hx
          have i0 : (0 : Int) ≤ (k : Int) := by omega
          have i1 : (k : Int) < (G.length : Int) := by omega
          have hm := adds_more (l := K0) hx
          rw [← HK.out] at hm
          have HE := Lib.hid hm.symm
          have hal := Fm.add_len K x
          have HAD := Lib.hid (add29_any q Ak ck K C cc x wr (by omega) (HLQ.out.mono hbw.size) hv (SetV.mk q1 q2 q3 q4) q5)
          clear hx hm q1 q2 q3 q4 q5
          go_wp2_with fail
          refine HAD.out.mono ?_
          rintro e w2 ⟨v2, rfl, h2, b2⟩
          go_wp2_with fail
          go_roundw
          case rel => exact ⟨k + 1, Fm.add K x, by omega, by omega, HE, by go_num, h2, hbw.trans (b2.mono hbw.size)⟩
          case measure => simp [intOf]; omega
        · have d1 : decide ((k : Int) < (G.length : Int)) = false := by simp; omega
          have HR := Lib.hid (show K = Fm.adds K0 G by have := HK.out; rwa [List.take_of_length_le (by omega)] at this)
          go_wp2_with fail
          go_ret
          exact ⟨_, rfl, by rw [HK0.out, ← HR.out]; exact hv, hbw⟩
end Go.Proofs.YtphmicbpkljmfaaGreat
