/- The walks of the reference's add, Sorted, union. -/
import Derived.Test.YtphmicbpkljmfaaGreatSRef1
import Derived.Test.YtphmicbpkljmfaaGreatSWit2
import Derived.Test.YtphmicbpkljmfaaGreatSIns
import Derived.BigRegion
namespace Go.Proofs.YtphmicbpkljmfaaGreat
set_option linter.unusedVariables false
set_option linter.unusedSimpArgs false
open Go.RowKit
open Cx (N)
theorem filt_more {F K : List (List Int)} {k : Nat} {x s : List Int} (h : K = (F.take k).filter fun t => !Fm.sub s t) (hx : F[k]? = some x) : (F.take (k + 1)).filter (fun t => !Fm.sub s t) = if Fm.sub s x = true then K else K ++ [x] := by
  rw [take_more hx, List.filter_append, ← h]
  cases hz : Fm.sub s x <;> simp [hz]
theorem any_no {F : List (List Int)} {k : Nat} {x s : List Int} (h : ∀ t ∈ F.take k, Fm.sub t s = false) (hx : F[k]? = some x) (h2 : Fm.sub x s = false) : ∀ t ∈ F.take (k + 1), Fm.sub t s = false := by
  intro t ht
  rw [take_more hx] at ht
  rcases List.mem_append.1 ht with ht | ht
  · exact h t ht
  · simp at ht; subst ht; exact h2
theorem SetV.mk {w : World} {B : Option Addr} {d : Nat} {s : List Int} (h1 : s.length ≤ d) (h2 : d ≤ maxLen) (h3 : B = none → s.length = 0 ∧ d = 0) (h4 : Nums w B s) : SetV w (.slice B s.length d) s := ⟨B, d, rfl, h1, h2, h3, h4⟩
theorem FamV.open {w : World} {v : Value} {F : List (List Int)} (h : FamV w v F) : ∃ A c, v = .slice A F.length c ∧ Sets w A F ∧ FamV w (.slice A F.length c) F := by
  obtain ⟨A, c, rfl, h1, h2, h3, h4⟩ := h
  exact ⟨A, c, rfl, h4, A, c, rfl, h1, h2, h3, h4⟩
/-- A value's block is not q. -/
def Sv (q : Option Nat) (v : Value) : Prop := ∀ ad n c, v = .slice (some ad) n c → q ≠ some ad.block
def Lo (q : Option Nat) (B : Nat) : Prop := ∀ b, q = some b → b < B
theorem Lo.mono {q : Option Nat} {B C : Nat} (h : Lo q B) (hb : B ≤ C) : Lo q C := fun b e => Nat.lt_of_lt_of_le (h b e) hb
theorem lo_none (B : Nat) : Lo none B := fun b e => by cases e
theorem sv_new {q : Option Nat} {B : Nat} {v : Value} (hq : Lo q B) (h : ∀ g, v.ownBlock = some g → B ≤ g) : Sv q v := fun ad n c e he => by
  subst e
  have h1 := hq _ he
  have h2 := h ad.block rfl
  omega
theorem sv_none (v : Value) : Sv none v := fun ad n c e h => by cases h
/-- Neither a family's header nor its sets lie in block q. -/
def Tid (q : Option Nat) (w : World) (v : Value) (F : List (List Int)) : Prop := Sv q v ∧ ∀ ad n c, v = .slice (some ad) n c → ∀ (k : Nat) (u : Value), k < F.length → w.cell? (ad.add k) = some u → Sv q u
def FamA (q : Option Nat) (w : World) (v : Value) (F : List (List Int)) : Prop := FamV w v F ∧ Tid q w v F
theorem famA_none {w : World} {v : Value} {F : List (List Int)} (h : FamV w v F) : FamA none w v F := ⟨h, sv_none _, fun _ _ _ _ _ _ _ _ => sv_none _⟩
theorem famA_nil (q : Option Nat) (w : World) : FamA q w (.slice none 0 0) [] := ⟨famV_nil w, (fun ad n c e => by cases e), (fun ad n c e => by cases e)⟩
theorem FamA.open {q : Option Nat} {w : World} {v : Value} {F : List (List Int)} (h : FamA q w v F) : ∃ A c, v = .slice A F.length c ∧ Sets w A F ∧ FamA q w (.slice A F.length c) F := by
  obtain ⟨A, c, rfl, h1, h2⟩ := h.1.open
  exact ⟨A, c, rfl, h1, h2, h.2⟩
theorem FamA.at {q : Option Nat} {w : World} {A : Option Addr} {c : Nat} {F : List (List Int)} (h : FamA q w (.slice A F.length c) F) {k : Nat} {s : List Int} (hk : F[k]? = some s) : ∃ g o B d, A = some ⟨g, o, none⟩ ∧ g < w.heap.size ∧ w.cell? ⟨g, o + k, none⟩ = some (.slice B s.length d) ∧ s.length ≤ d ∧ d ≤ maxLen ∧ (B = none → s.length = 0 ∧ d = 0) ∧ Nums w B s ∧ Sv q (.slice B s.length d) := by
  obtain ⟨A', c', e, _, _, _, hs⟩ := h.1
  injection e with e1 e2 e3
  subst e1
  obtain ⟨g, o, B, d, rfl, h1, h2, h3, h4, h5, h6⟩ := hs.at hk
  refine ⟨g, o, B, d, rfl, h1, h2, h3, h4, h5, h6, h.2.2 _ _ _ rfl k _ (List.getElem?_eq_some_iff.1 hk).1 (by rw [add_at]; exact h2)⟩
theorem FamA.off {q : Option Nat} {w w' : World} {v : Value} {F : List (List Int)} (h : FamA q w v F) (hz : w.heap.size ≤ w'.heap.size) (ho : ∀ b, b < w.heap.size → q ≠ some b → w'.heap[b]? = w.heap[b]?) : FamA q w' v F := by
  have hcl : ∀ a : Addr, a.block < w.heap.size → q ≠ some a.block → w'.cell? a = w.cell? a := fun a h1 h2 => by unfold World.cell?; rw [ho a.block h1 h2]
  obtain ⟨⟨A, c, rfl, h1, h2, h3, h4⟩, t1, t2⟩ := h
  have hs : Sets w' A F := fun hn => by
    obtain ⟨g, o, vs, rfl, hg, hd, hc⟩ := h4 hn
    have hq := t1 _ _ _ rfl
    refine ⟨g, o, vs, rfl, by omega, ⟨hd.1, fun k v s hv hk => ?_⟩, fun k v hv => (hcl ⟨g, o + k, none⟩ hg hq).trans (hc k v hv)⟩
    obtain ⟨B, d, rfl, x1, x2, x3, x4⟩ := hd.2 k v s hv hk
    refine ⟨B, d, rfl, x1, x2, x3, fun hm => ?_⟩
    obtain ⟨g', o', rfl, hg', hc'⟩ := x4 hm
    have hq' := t2 _ _ _ rfl k _ (List.getElem?_eq_some_iff.1 hk).1 (by rw [add_at]; exact hc k _ hv) _ _ _ rfl
    exact ⟨g', o', rfl, by omega, fun j y hy => (hcl ⟨g', o' + j, none⟩ hg' hq').trans (hc' j y hy)⟩
  refine ⟨⟨A, c, rfl, h1, h2, h3, hs⟩, t1, fun ad n d e k u hk hu => ?_⟩
  refine t2 ad n d e k u hk ?_
  injection e with e1 e2 e3
  subst e1
  obtain ⟨g, o, vs, e, hg, hd, hc⟩ := h4 (by intro h; subst h; simp at hk)
  obtain rfl := Option.some.inj e
  have hq := t1 _ _ _ rfl
  rw [add_at] at hu ⊢
  exact (hcl ⟨g, o + k, none⟩ hg hq).symm.trans hu
theorem FamA.below {q : Option Nat} {w w' : World} {v : Value} {F : List (List Int)} (h : FamA q w v F) (hb : Below w.heap.size w w') : FamA q w' v F := h.off hb.size (fun b h1 _ => hb.block b h1)
theorem famA_own {q : Option Nat} {w : World} {B : Nat} {e : TypeId} {v : Value} {vs : List Value} {F : List (List Int)} (h : w.ownsRow B e 1 v F.length vs) (hd : Hdrs w vs F) (hq : Lo q B) (hs : ∀ u ∈ vs, Sv q u) : FamA q w v F := by
  refine ⟨own_fam h hd, sv_new hq (fun g hg => (own_lt h hg).1), fun ad n c e k u hk hu => ?_⟩
  obtain ⟨A, c', e1, _, _, h3⟩ := own_cells h
  rw [e1] at e
  injection e with e2 e3 e4
  rcases h3 with h3 | ⟨g, e5, _, _, h3⟩
  · omega
  · rw [e5] at e2
    obtain rfl := Option.some.inj e2
    rw [add_off] at hu
    obtain ⟨u', hu'⟩ : ∃ u', vs[k]? = some u' := ⟨_, List.getElem?_eq_getElem (by rw [hd.1]; exact hk)⟩
    rw [h3 k u' hu'] at hu
    obtain rfl := Option.some.inj hu
    exact hs _ (List.mem_of_getElem? hu')
def FamOut (q : Option Nat) (F : List (List Int)) (w : World) (e : Ending) (w' : World) : Prop := ∃ v, e = .returned v ∧ FamA q w' v F ∧ Below w.heap.size w w'
theorem sv_snoc {q : Option Nat} {vs : List Value} {v : Value} (h : ∀ u ∈ vs, Sv q u) (hv : Sv q v) : ∀ u ∈ vs ++ [v], Sv q u := fun u hu => by
  rcases List.mem_append.1 hu with h' | h'
  · exact h u h'
  · simp at h'; subst h'; exact hv
set_option maxHeartbeats 1000000 in
theorem add29_any (q : Option Nat) (A : Option Addr) (c : Nat) (F : List (List Int)) (B : Option Addr) (d : Nat) (s : List Int) (w : World) (hl : F.length ≤ 1000000) (hq : Lo q w.heap.size) (hF : FamA q w (.slice A F.length c) F) (hs : SetV w (.slice B s.length d) s) (hv : Sv q (.slice B s.length d)) :
    Calls Tryz.prog 46 #[.slice A F.length c, .slice B s.length d] w (FamOut q (Fm.add F s) w) := by
  obtain ⟨in0, hi0, hz0, hz1, hz2⟩ := info_parts ints_info
  have hA : Sets w A F := by obtain ⟨A', c', e, _, _, _, h⟩ := hF.1; injection e with e1 e2 e3; subst e1; exact h
  have hB : Nums w B s := by obtain ⟨A', c', e, _, _, _, h⟩ := hs; injection e with e1 e2 e3; subst e1; exact h
  have hsl : s.length ≤ 9223372036854775807 := by obtain ⟨A', c', e, h1, h2, _⟩ := hs; unfold maxLen at h2; omega
  have HFV := Lib.hid hF
  have HVV := Lib.hid hv
  have HLQ := Lib.hid hq
  have HSV := Lib.hid hs
  clear hF hs hv hq
  go_enter Tryz.func46, Tryz.ntmps46
  go_wp2_with fail
  go_loopw [5] (fun i wr => ∃ k : Nat, k ≤ F.length ∧ Hid (∀ t ∈ F.take k, Fm.sub t s = false) ∧ i = .int .i64 k ∧ Below w.heap.size w wr) (fun i _ => F.length - (intOf i).toNat)
  case atStart => exact ⟨0, by omega, Lib.hid (by simp), rfl, Below.refl _ _⟩
  case round =>
    obtain ⟨k, hk, HN, rfl, hbw⟩ := hrel
    by_cases h1 : k < F.length
    · have d1 : decide ((k : Int) < (F.length : Int)) = true := by simp; omega
      obtain ⟨x, hx⟩ : ∃ x, F[k]? = some x := ⟨_, List.getElem?_eq_getElem h1⟩
      obtain ⟨g, o, C, cc, rfl, hg, c0, q1, q2, q3, q4⟩ := (hA.below hbw).at hx
      have z1 : x.length ≤ 9223372036854775807 := by unfold maxLen at q2; omega
      have i0 : (0 : Int) ≤ (k : Int) := by omega
      have i1 : (k : Int) < (F.length : Int) := by omega
      have HSB := Lib.hid (subset_any C cc x B d s wr z1 hsl q4 (hB.below hbw))
      cases hz : Fm.sub x s with
      | true =>
        have HR := Lib.hid (show Fm.add F s = F by unfold Fm.add; rw [if_pos (List.any_eq_true.2 ⟨x, List.mem_of_getElem? hx, hz⟩)])
        have HZ := Lib.hid hz
        clear hx hz q1 q2 q3 q4
        go_wp2_with fail
        refine HSB.out.mono ?_
        rintro e w1 ⟨rfl, rfl⟩
        rw [HZ.out]
        go_wp2_with fail
        go_ret
        exact ⟨_, rfl, by rw [HR.out]; exact HFV.out.below hbw, hbw⟩
      | false =>
        have HE := Lib.hid (any_no HN.out hx hz)
        have HZ := Lib.hid hz
        clear hx hz q1 q2 q3 q4
        go_wp2_with fail
        refine HSB.out.mono ?_
        rintro e w1 ⟨rfl, rfl⟩
        rw [HZ.out]
        go_wp2_with fail
        go_roundw
        case rel => exact ⟨k + 1, by omega, HE, by go_num, hbw⟩
        case measure => simp [intOf]; omega
    · have d1 : decide ((k : Int) < (F.length : Int)) = false := by simp; omega
      have HR := Lib.hid (show Fm.add F s = (F.filter fun t => !Fm.sub s t) ++ [s] by
        unfold Fm.add
        have hn : (F.any fun t => Fm.sub t s) = false := by
          rw [List.any_eq_false]
          intro t ht
          rw [HN.out t (by rw [List.take_of_length_le (by omega)]; exact ht)]; decide
        rw [hn, if_neg (by decide)])
      clear HN
      go_wp2_with fail
      go_loopw [7, 8] (fun v i wr => ∃ (k : Nat) (K : List (List Int)) (vk : List Value), k ≤ F.length ∧ K.length ≤ k ∧ Hid (K = (F.take k).filter fun t => !Fm.sub s t) ∧ i = .int .i64 k ∧ wr.ownsRow w.heap.size 24 1 v K.length vk ∧ Hdrs w vk K ∧ Hid (∀ u ∈ vk, Sv q u) ∧ Below w.heap.size w wr) (fun _ i _ => F.length - (intOf i).toNat)
      case atStart => exact ⟨0, [], [], by omega, by simp, Lib.hid (by simp), rfl, World.ownsRow_nil _ _ _ _, hdrs_nil _, Lib.hid (fun u h => by cases h), hbw⟩
      case round =>
        clear hbw
        obtain ⟨k, K, vk, hk, hKk, HK, rfl, ho, hdk, HSK, hbw⟩ := hrel
        obtain ⟨va, vc, rfl⟩ := own_len ho
        by_cases h1 : k < F.length
        · have d1 : decide ((k : Int) < (F.length : Int)) = true := by simp; omega
          obtain ⟨x, hx⟩ : ∃ x, F[k]? = some x := ⟨_, List.getElem?_eq_getElem h1⟩
          obtain ⟨g, o, C, cc, e0, hg, c0', q1, q2, q3, q4, q5⟩ := HFV.out.at hx
          have HCV := Lib.hid q5
          have c0 := (hbw.cell hg).trans c0'
          subst e0
          have HX := Lib.hid (SetV.mk q1 q2 q3 q4)
          have z1 : x.length ≤ 9223372036854775807 := by unfold maxLen at q2; omega
          have i0 : (0 : Int) ≤ (k : Int) := by omega
          have i1 : (k : Int) < (F.length : Int) := by omega
          have hkm := filt_more HK.out hx
          have HSB := Lib.hid (subset_any B d s C cc x wr hsl z1 (hB.below hbw) (q4.below hbw))
          cases hz : Fm.sub s x with
          | true =>
            rw [hz, if_pos rfl] at hkm
            have HE := Lib.hid hkm.symm
            have HZ := Lib.hid hz
            clear hx hz hkm q1 q2 q3 q4 q5 c0'
            go_wp2_with fail
            refine HSB.out.mono ?_
            rintro e w1 ⟨rfl, rfl⟩
            rw [HZ.out]
            go_wp2_with fail
            go_roundw
            case rel => exact ⟨k + 1, K, vk, by omega, by omega, HE, by go_num, ho, hdk, HSK, hbw⟩
            case measure => simp [intOf]; omega
          | false =>
            rw [hz, if_neg (by decide)] at hkm
            have HE := Lib.hid hkm.symm
            have HZ := Lib.hid hz
            clear hx hz hkm q1 q2 q3 q4 q5 c0'
            go_wp2_with fail
            refine HSB.out.mono ?_
            rintro e w1 ⟨rfl, rfl⟩
            rw [HZ.out]
            go_wp2_with (first
              | (at_builtin; go_loud (refine wpList_append_from rfl (.tmp 38) (.tmp 43) 30 rfl w.heap.size 24 in0 _ 1 24 Tryz.underlying30 hi0 hz0 hz1 hz2 rfl (by omega) (.slice va K.length vc) K.length vk rfl (ho.alloc _) (some ⟨wr.heap.size, 0, none⟩) 1 1 [.slice C x.length cc] rfl rfl (fun h => by cases h) (fun ad h => by obtain rfl := Option.some.inj h; exact At.news (At.new _ _ _)) (one1 rfl) (by unfold maxLen; omega) (by omega) (by have := hbw.size; simp; omega) ?_); intro v2 w2 o2 g2))
            have bw2 : Below w.heap.size w w2 := (hbw.alloc hbw.size _).grown g2 (by have := hbw.size; simp; omega) (fun q hq => (own_lt ho hq).1)
            go_roundw
            case rel => exact ⟨k + 1, K ++ [x], _, by omega, by simp; omega, HE, by go_num, by rw [List.length_append]; exact o2, hdk.snoc HX.out, Lib.hid (sv_snoc HSK.out HCV.out), bw2⟩
            case measure => simp [intOf]; omega
        · have d1 : decide ((k : Int) < (F.length : Int)) = false := by simp; omega
          have HE := Lib.hid (show Fm.add F s = K ++ [s] by rw [HR.out, HK.out, List.take_of_length_le (by omega)])
          go_wp2_with (first
            | (at_builtin; go_loud (refine wpList_append_from rfl (.tmp 45) (.tmp 47) 30 rfl w.heap.size 24 in0 _ 1 24 Tryz.underlying30 hi0 hz0 hz1 hz2 rfl (by omega) (.slice va K.length vc) K.length vk rfl (ho.alloc _) (some ⟨wr.heap.size, 0, none⟩) 1 1 [.slice B s.length d] rfl rfl (fun h => by cases h) (fun ad h => by obtain rfl := Option.some.inj h; exact At.news (At.new _ _ _)) (one1 rfl) (by unfold maxLen; omega) (by omega) (by have := hbw.size; simp; omega) ?_); intro v2 w2 o2 g2))
          have bw2 : Below w.heap.size w w2 := (hbw.alloc hbw.size _).grown g2 (by have := hbw.size; simp; omega) (fun q hq => (own_lt ho hq).1)
          go_ret
          refine ⟨_, rfl, ?_, bw2⟩
          rw [HE.out]
          exact famA_own (by rw [List.length_append]; exact o2) ((hdk.snoc HSV.out).below bw2) HLQ.out (sv_snoc HSK.out HVV.out)
theorem ilt_asy : ∀ x y : Int, decide (x < y) = true → decide (y < x) = false := by intro x y h; simp at h ⊢; omega
theorem ilt_ntr : ∀ x y z : Int, decide (x < y) = false → decide (y < z) = false → decide (x < z) = false := by intro x y z h1 h2; simp at h1 h2 ⊢; omega
theorem icells_put (xs : List Int) (i : Nat) (x : Int) : (icells xs).set i (.int .i64 x) = icells (xs.set i x) := by unfold icells; rw [List.map_set]
theorem icells_at {xs : List Int} {i : Nat} {x : Int} (h : xs[i]? = some x) : (icells xs)[i]? = some (.int .i64 x) := by simp [icells, h]
set_option maxHeartbeats 2000000 in
set_option maxRecDepth 100000 in
theorem sorted29_any (A : Option Addr) (c : Nat) (s : List Int) (w : World) (hl : s.length ≤ 1000000) (hs : SetV w (.slice A s.length c) s) :
    Calls Tryz.prog 62 #[.slice A s.length c] w fun e w' => ∃ v t, e = .returned v ∧ t.Perm s ∧ t.Pairwise (· ≤ ·) ∧ SetV w' v t ∧ (∀ g, v.ownBlock = some g → w.heap.size ≤ g) ∧ Below w.heap.size w w' := by
  obtain ⟨in0, hi0, hz0, hz1, hz2⟩ := info_parts int_info
  obtain ⟨hn, hA⟩ : (A = none → s.length = 0 ∧ c = 0) ∧ Nums w A s := by obtain ⟨A', c', e, _, _, h3, h⟩ := hs; injection e with e1 e2 e3; subst e1; subst e3; exact ⟨h3, h⟩
  clear hs
  have LL := Lib.hid (icells_len s)
  have o0 := own_empty w 3 1 w.heap.size (Nat.le_refl _)
  have hA1 := hA.below (below1 w (.cells #[] 3))
  go_enter Tryz.func62, Tryz.ntmps62
  go_wp2_with (first
    | (at_builtin; go_loud (refine wpList_append_from rfl (.tmp 6) (.tmp 7) 24 rfl w.heap.size 3 in0 _ 1 8 Tryz.underlying24 hi0 hz0 hz1 hz2 rfl (by omega) (.slice (some ⟨w.heap.size, 0, none⟩) 0 0) 0 [] rfl o0 A s.length c (icells s) rfl (by rw [LL.out]; omega) hn (nums_news hA1) (icells_one s) (by unfold maxLen; omega) (by omega) (by simp) ?_); intro v1 w1 o1 g1; simp only [Nat.zero_add, List.nil_append] at o1; obtain ⟨a1, c1, rfl⟩ := own_len o1))
  have b1 : Below w.heap.size w w1 := (below1 w _).grown g1 (by simp) (fun q hq => by simp [Value.ownBlock] at hq; omega)
  clear o0 hA1 g1
  rcases Nat.lt_or_ge 1 s.length with h1 | h1
  · obtain ⟨g, rfl⟩ : ∃ g, a1 = some ⟨g, 0, none⟩ := by
      obtain ⟨A', c', e, _, _, q3⟩ := own_cells o1
      injection e with e1 e2 e3
      rcases q3 with q3 | ⟨g, e4, _⟩
      · omega
      · exact ⟨g, by rw [e1, e4]⟩
    obtain ⟨_, hg, hc1, hc2, hR⟩ := row_own o1
    clear o1
    go_wp2_with fail
    go_loopw [4] (fun i wr => ∃ (k : Nat) (dk : List Int), 1 ≤ k ∧ k ≤ s.length ∧ dk.length = s.length ∧ Hid (Ins.Out (fun x y : Int => decide (x < y)) s k dk) ∧ i = .int .i64 k ∧ Row wr g 3 (icells dk) ∧ Below w.heap.size w wr) (fun i _ => s.length - (intOf i).toNat)
    case atStart => exact ⟨1, s, Nat.le_refl _, by omega, rfl, Lib.hid (Ins.out0 s), rfl, hR, b1⟩
    case round =>
      clear b1 hR
      obtain ⟨k, dk, hk1, hk, hdl, HO, rfl, hr, hbw⟩ := hrel
      by_cases h2 : k < s.length
      · have d1 : decide ((k : Int) < (s.length : Int)) = true := by simp; omega
        have HI := Lib.hid (HO.out.start (by omega))
        clear HO
        go_wp2_with fail
        go_loopw [5] (fun j wr => ∃ (q : Nat) (dq : List Int), q ≤ k ∧ dq.length = s.length ∧ Hid (Ins.In (fun x y : Int => decide (x < y)) s k q dq) ∧ j = .int .i64 q ∧ Row wr g 3 (icells dq) ∧ Below w.heap.size w wr) (fun j _ => (intOf j).toNat)
        case atStart => exact ⟨k, dk, Nat.le_refl _, hdl, HI, rfl, hr, hbw⟩
        case round =>
          clear hr hbw HI hdl
          obtain ⟨q, dq, hq, hdl, HI, rfl, hr, hbw⟩ := hrel
          rcases Nat.eq_zero_or_pos q with hq0 | hq0
          · have z1 : decide ((0 : Int) < (q : Int)) = false := decide_eq_false (by omega)
            have z1' : decide (0 < q) = false := decide_eq_false (by omega)
            have HE := Lib.hid (show Ins.Out (fun x y : Int => decide (x < y)) s (k + 1) dq by have := HI.out; rw [hq0] at this; exact this.stop0 ilt_asy)
            clear HI hq0 d1
            go_wp2_with fail
            refine wp_region_held wr.heap.size wr (Below.refl _ _) (by kernel_rfl) (by kernel_rfl) ?_
            repeat (go_big_quiet_step (fail))
            refine wpQuiet_nil ?_
            rintro wt ⟨⟨_, bt⟩, rfl⟩
            go_wp2_with fail
            go_roundw
            case rel => exact ⟨k + 1, dq, by omega, by omega, hdl, HE, by go_num, hr.next bt, hbw.trans (bt.mono hbw.size)⟩
            case measure => simp [intOf]; omega
          · obtain ⟨p, hp⟩ : ∃ p, q = p + 1 := ⟨q - 1, by omega⟩
            obtain ⟨x, hx⟩ : ∃ x, dq[q]? = some x := ⟨_, List.getElem?_eq_getElem (by omega)⟩
            obtain ⟨y, hy⟩ : ∃ y, dq[p]? = some y := ⟨_, List.getElem?_eq_getElem (by omega)⟩
            have cx := hr.cell (icells_at hx)
            have cy := hr.cell (icells_at hy)
            have hgl := hr.lt
            have fx : ∀ z : Held wr.heap.size wr, z.w.cell? ⟨g, q, none⟩ = some (.int .i64 x) := fun z => z.cell hgl cx
            have fy : ∀ z : Held wr.heap.size wr, z.w.cell? ⟨g, p, none⟩ = some (.int .i64 y) := fun z => z.cell hgl cy
            have z1 : decide ((0 : Int) < (q : Int)) = true := decide_eq_true (by omega)
            have z1' : decide (0 < q) = true := decide_eq_true (by omega)
            have z2 : (0 : Int) < (q : Int) := by omega
            have n0 : (q : Int) - 1 = (p : Int) := by omega
            have n1 : IntKind.i64.wrap ((q : Int) - 1) = (p : Int) := by rw [IntKind.wrap_i64]; omega
            have j0 : (0 : Int) ≤ (q : Int) := by omega
            have j1 : (q : Int) < (s.length : Int) := by omega
            have j2 : (0 : Int) ≤ (p : Int) := by omega
            have j3 : (p : Int) < (s.length : Int) := by omega
            by_cases hlt : x < y
            · have t1 : decide (x < y) = true := decide_eq_true hlt
              have HE := Lib.hid (show Ins.In (fun x y : Int => decide (x < y)) s k p ((dq.set q y).set p x) by
                have := HI.out; subst hp; exact this.swap hx hy t1)
              have hpq : p ≤ k := by omega
              have hm1 : p < q := by omega
              clear HI hx hy hp hlt d1
              go_wp2_with fail
              refine wp_region_held wr.heap.size wr (Below.refl _ _) (by kernel_rfl) (by kernel_rfl) ?_
              repeat (go_big_quiet_step (fail))
              refine wpQuiet_nil ?_
              rintro wt ⟨⟨_, bt⟩, rfl⟩
              have cx2 := (bt.cell hgl).trans cx
              have cy2 := (bt.cell hgl).trans cy
              have hr2 := hr.next bt
              have hbw2 := hbw.trans (bt.mono hbw.size)
              have fz1 := hr2.frozen q
              have fz2 := hr2.frozen p
              clear fx fy cx cy hr hbw bt
              go_wp2_with fail
              go_region
              go_wp2_with fail
              go_roundw
              case rel => exact ⟨p, _, by omega, by simpa using hdl, HE, by go_num, by rw [← icells_put, ← icells_put]; exact ((hr2.put q _).put p _), by first | exact ((hbw2.setCell hg _).setCell hg _).drew | exact ((hbw2.setCell hg _).setCell hg _)⟩
              case measure => simp [intOf]; omega
            · have t1 : decide (x < y) = false := decide_eq_false hlt
              have HE := Lib.hid (show Ins.Out (fun x y : Int => decide (x < y)) s (k + 1) dq by
                have := HI.out; subst hp; exact this.stop1 ilt_asy ilt_ntr hx hy t1)
              clear HI hx hy hp hlt d1
              go_wp2_with fail
              refine wp_region_held wr.heap.size wr (Below.refl _ _) (by kernel_rfl) (by kernel_rfl) ?_
              repeat (go_big_quiet_step (fail))
              refine wpQuiet_nil ?_
              rintro wt ⟨⟨_, bt⟩, rfl⟩
              clear fx fy
              go_wp2_with fail
              go_roundw
              case rel => exact ⟨k + 1, dq, by omega, by omega, hdl, HE, by go_num, hr.next bt, hbw.trans (bt.mono hbw.size)⟩
              case measure => simp [intOf]; omega
      · have d1 : decide ((k : Int) < (s.length : Int)) = false := by simp; omega
        have HE := Lib.hid (HO.out.done (by omega))
        clear HO
        go_wp2_with fail
        go_ret
        exact ⟨_, dk, rfl, HE.out.2, HE.out.1.imp (fun h => by simpa using h), ⟨some ⟨g, 0, none⟩, c1, by rw [hdl]; rfl, by omega, hc2, (fun h => by cases h), fun _ => ⟨g, 0, rfl, hr.lt, fun j y hj => by rw [Nat.zero_add]; exact hr.cell (icells_at hj)⟩⟩, (fun g' hg' => by simp [Value.ownBlock] at hg'; omega), hbw⟩
  · have d1 : decide ((1 : Int) < (s.length : Int)) = false := by simp; omega
    have HS : SetV w1 (.slice a1 s.length c1) s := own_set (by have := o1; unfold icells at this; exact this)
    go_wp2_with fail
    refine wp_loop_rounds 1 ?_
    rw [rounds_succ]
    go_wp2_with fail
    go_ret
    refine ⟨_, s, rfl, List.Perm.refl _, ?_, HS, (fun g hg => (own_lt o1 hg).1), b1⟩
    match s, h1 with
    | [], _ => simp
    | [a], _ => simp
end Go.Proofs.YtphmicbpkljmfaaGreat
