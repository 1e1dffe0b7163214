/- The walk of Eval: the closure that values the nodes, by what it knows. -/
import Derived.Test.YtphmicbpkljmfaaGreatCKey
import Derived.Test.YtphmicbpkljmfaaGreatCLaw
import Derived.Outline
namespace Go.Proofs.YtphmicbpkljmfaaGreat
set_option linter.unusedVariables false
set_option linter.unusedSimpArgs false
open Go.RowKit
open Cx (N)
abbrev bdat : Bool → DataW Unit := fun x => .lit (.bool x)
/-- A map of numbers to truth values. -/
abbrev IMap (w : World) (b n : Nat) (f : Int → Option Bool) : Prop := FMap w Tryz.prog 3 (plainElem Tryz.prog 4) ival bdat b n f
/-- What is known of the values. -/
structure Known (l : List N) (ts : List Int) (n : Nat) (f : Int → Option Bool) : Prop where
  ok : ∀ j b, f j = some b → ∃ k : Nat, j = k ∧ k < l.length ∧ b = (Cx.values ts l).getD k false
  z : f 0 = some false
  o : f 1 = some true
  few : n ≤ ((List.range l.length).filter fun k : Nat => (f (k : Int)).isSome).length
theorem Known.le {l : List N} {ts : List Int} {n : Nat} {f : Int → Option Bool} (h : Known l ts n f) : n ≤ l.length := by
  have h1 := h.few
  have h2 := List.length_filter_le (fun k : Nat => (f (k : Int)).isSome) (List.range l.length)
  simp at h2
  omega
theorem count_more {L : Nat} {f g : Nat → Bool} {i : Nat} (hi : i < L) (hf : f i = false) (hg : g i = true) (hfg : ∀ j, f j = true → g j = true) : ((List.range L).filter f).length + 1 ≤ ((List.range L).filter g).length := by
  have h1 : ((List.range L).filter f) = (((List.range L).filter g).filter f) := by
    rw [List.filter_filter]
    congr 1
    funext j
    cases hj : f j with
    | false => rfl
    | true => rw [hfg j hj]; rfl
  rw [h1]
  have := (List.length_filter_lt_length_iff_exists (p := f) (l := (List.range L).filter g)).2 ⟨i, by rw [List.mem_filter, List.mem_range]; exact ⟨hi, hg⟩, by rw [hf]; decide⟩
  omega
theorem Known.more {l : List N} {ts : List Int} {n : Nat} {f : Int → Option Bool} (h : Known l ts n f) {i : Nat} (hi : i < l.length) (hf : f i = none) {b : Bool} (hb : b = (Cx.values ts l).getD i false) : Known l ts (n + 1) (fun y => if y = (i : Int) then some b else f y) := by
  have h0 : ¬ (0 : Int) = (i : Int) := fun e => by rw [← e, h.z] at hf; cases hf
  have h1 : ¬ (1 : Int) = (i : Int) := fun e => by rw [← e, h.o] at hf; cases hf
  refine ⟨fun j b' hj => ?_, by show (if (0 : Int) = (i : Int) then _ else _) = _; rw [if_neg h0]; exact h.z, by show (if (1 : Int) = (i : Int) then _ else _) = _; rw [if_neg h1]; exact h.o, ?_⟩
  · have hj' : (if j = (i : Int) then some b else f j) = some b' := hj
    by_cases e : j = (i : Int)
    · rw [if_pos e] at hj'; obtain rfl := Option.some.inj hj'; exact ⟨i, e, hi, hb⟩
    · rw [if_neg e] at hj'; exact h.ok j b' hj'
  · refine Nat.le_trans (Nat.add_le_add_right h.few 1) (count_more (f := fun k : Nat => (f (k : Int)).isSome) (g := fun k : Nat => (if (k : Int) = (i : Int) then some b else f (k : Int)).isSome) (i := i) hi (by show (f (i : Int)).isSome = false; rw [hf]; rfl) (by simp) (fun j hj => ?_))
    show (if (j : Int) = (i : Int) then some b else f (j : Int)).isSome = true
    split
    · rfl
    · exact hj
theorem known_start {l : List N} (hg : Cx.Good l) (ts : List Int) : Known l ts 2 (fun y => if y = 1 then some true else if y = 0 then some false else none) := by
  have hm := hg.more
  refine ⟨fun j b hj => ?_, rfl, rfl, ?_⟩
  · have hj' : (if j = 1 then some true else if j = 0 then some false else none) = some b := hj
    by_cases h1 : j = 1
    · rw [if_pos h1] at hj'; obtain rfl := Option.some.inj hj'
      exact ⟨1, h1, by omega, by rw [Cx.valAt_eq hg.o]; rfl⟩
    · rw [if_neg h1] at hj'
      by_cases h0 : j = 0
      · rw [if_pos h0] at hj'; obtain rfl := Option.some.inj hj'
        exact ⟨0, h0, by omega, by rw [Cx.valAt_eq hg.z]; rfl⟩
      · rw [if_neg h0] at hj'; cases hj'
  · have h1 := count_more (L := l.length) (f := fun _ => false) (g := fun k => decide (k = 0)) (i := 0) (by omega) rfl rfl (fun j h => by cases h)
    have h2 := count_more (L := l.length) (f := fun k => decide (k = 0)) (g := fun k => ((if (k : Int) = 1 then some true else if (k : Int) = 0 then some false else none : Option Bool)).isSome) (i := 1) (by omega) (by decide) (by decide) (fun j h => by
      have : j = 0 := by simpa using h
      subst this; rfl)
    show 2 ≤ _
    omega
theorem cell_not_map {w : World} {b : Nat} {es : Array MapEntry} {k : Nat} (h : w.heap[b]? = some (.map es k)) (o : Nat) : w.cell? ⟨b, o, none⟩ = none := by simp [World.cell?, h]
theorem FMap.obj {κ α : Type} {w : World} {P : Program} {k : TypeId} {R : Value → Option (DataW Unit × List MemPlace)} {val : κ → Value} {dat : α → DataW Unit} {b n : Nat} {f : κ → Option α} (h : FMap w P k R val dat b n f) : ∃ es c, w.heap[b]? = some (.map es c) := by
  obtain ⟨D, ⟨es, clock, h1, h2⟩, r⟩ := h
  exact ⟨es, clock, h1⟩
theorem At.not_map {w : World} {g b : Nat} {t : TypeId} {cs : Array Value} {es : Array MapEntry} {k : Nat} (h : At w g t cs) (hm : w.heap[b]? = some (.map es k)) : some g ≠ some b := by
  intro e
  injection e with e
  subst e
  unfold At at h
  rw [hm] at h
  simp at h
theorem Circ.grown {w w' : World} {A : Option Addr} {l : List N} {b : Nat} {es : Array MapEntry} {k : Nat} (h : Circ w A l) (hg : w.grownBy w' (some b)) (hm : w.heap[b]? = some (.map es k)) : Circ w' A l := fun hn => by
  obtain ⟨g, o, e, hlt, hc⟩ := h hn
  have hne : some g ≠ some b := by
    intro e'
    injection e' with e'
    subst e'
    have h0 : 0 < l.length := by cases l with | nil => exact absurd rfl hn | cons _ _ => simp
    have := (hc 0 _ (List.getElem?_eq_getElem h0)).1
    rw [cell_not_map hm] at this
    cases this
  refine ⟨g, o, e, Nat.lt_of_lt_of_le hlt hg.size, fun k v hv => ?_⟩
  obtain ⟨a, b, c⟩ := hc k v hv
  exact ⟨hg.cell a hne, hg.cell b hne, hg.cell c hne⟩
/-- The memory of the closure. -/
structure EMem (w : World) (Bk Bc Bs Bv bm bs : Nat) (A : Option Addr) (c : Nat) (l : List N) (ts : List Int) (n : Nat) (f : Int → Option Bool) (ns : Nat) (fs : Int → Option Bool) : Prop where
  k : At w Bk 73 #[.map (some bm)]
  c : At w Bc 23 #[.slice A l.length c]
  s : At w Bs 73 #[.map (some bs)]
  v : At w Bv 61 #[.func (.func 50) #[] #[.pointer (some ⟨Bk, 0, none⟩), .pointer (some ⟨Bc, 0, none⟩), .pointer (some ⟨Bs, 0, none⟩), .pointer (some ⟨Bv, 0, none⟩)]]
  km : IMap w bm n f
  sm : IMap w bs ns fs
  ne : bs ≠ bm
  circ : Circ w A l
  set : ∀ x, (fs x).getD false = ts.contains x
  know : Known l ts n f
theorem EMem.next {w w' : World} {Bk Bc Bs Bv bm bs : Nat} {A : Option Addr} {c : Nat} {l : List N} {ts : List Int} {n n' : Nat} {f f' : Int → Option Bool} {ns : Nat} {fs : Int → Option Bool}
    (h : EMem w Bk Bc Bs Bv bm bs A c l ts n f ns fs) (hg : w.grownBy w' (some bm)) (hk : IMap w' bm n' f') (hn : Known l ts n' f') : EMem w' Bk Bc Bs Bv bm bs A c l ts n' f' ns fs := by
  obtain ⟨es, k, hm⟩ := h.km.obj
  exact ⟨h.k.grown hg (h.k.not_map hm), h.c.grown hg (h.c.not_map hm), h.s.grown hg (h.s.not_map hm), h.v.grown hg (h.v.not_map hm), hk, h.sm.kept hg (fun e => h.ne (by injection e)), h.ne, h.circ.grown hg hm, h.set, hn⟩
theorem EMem.below {w w' : World} {Bk Bc Bs Bv bm bs : Nat} {A : Option Addr} {c : Nat} {l : List N} {ts : List Int} {n : Nat} {f : Int → Option Bool} {ns : Nat} {fs : Int → Option Bool}
    (h : EMem w Bk Bc Bs Bv bm bs A c l ts n f ns fs) (hb : Below w.heap.size w w') : EMem w' Bk Bc Bs Bv bm bs A c l ts n f ns fs :=
  ⟨h.k.next hb, h.c.next hb, h.s.next hb, h.v.next hb, h.km.next hb, h.sm.next hb, h.ne, h.circ.below hb, h.set, h.know⟩
/-- A node's value, and what is known then. -/
def ValOut (Bk Bc Bs Bv bm bs : Nat) (A : Option Addr) (c : Nat) (l : List N) (ts : List Int) (ns : Nat) (fs : Int → Option Bool) (i : Nat) (f : Int → Option Bool) (w : World) (e : Ending) (w' : World) : Prop :=
  ∃ n' f', e = .returned (.bool ((Cx.values ts l).getD i false)) ∧ EMem w' Bk Bc Bs Bv bm bs A c l ts n' f' ns fs ∧ w.grownBy w' (some bm) ∧ ∀ j : Int, (i : Int) < j → f' j = f j
theorem val_done {Bk Bc Bs Bv bm bs : Nat} {A : Option Addr} {c : Nat} {l : List N} {ts : List Int} {ns : Nat} {fs : Int → Option Bool} {i : Nat} {f f2 : Int → Option Bool} {w W w3 : World} {n2 : Nat} {b : Bool}
    (hi : i < l.length) (hM : EMem W Bk Bc Bs Bv bm bs A c l ts n2 f2 ns fs) (hg : w.grownBy W (some bm)) (hn : f2 (i : Int) = none) (hj : ∀ j : Int, (i : Int) < j → f2 j = f j)
    (hk : IMap w3 bm (n2 + 1) (fun y => if y = (i : Int) then some b else f2 y)) (g3 : W.grownBy w3 (some bm)) (hb : b = (Cx.values ts l).getD i false) : ValOut Bk Bc Bs Bv bm bs A c l ts ns fs i f w (.returned (.bool b)) w3 :=
  ⟨n2 + 1, _, by rw [hb], hM.next g3 hk (hM.know.more hi hn hb), grown_trans hg g3, fun j h => by
    show (if j = (i : Int) then some b else f2 j) = f j
    rw [if_neg (by omega)]; exact hj j h⟩
theorem val_leaf {l : List N} {ts : List Int} (hg : Cx.Good l) {i : Nat} {v : N} {f : Int → Option Bool} {n : Nat} (hk : Known l ts n f) (e : l[i]? = some v) (hf : f (i : Int) = none) (h3 : ¬ v.o = 3) (h4 : ¬ v.o = 4) : ts.contains v.a = (Cx.values ts l).getD i false := by
  have hi := (List.getElem?_eq_some_iff.1 e).1
  rw [Cx.valAt_eq e]
  cases hg.kind hi with
  | zero h => rw [show ((0 : Nat) : Int) = 0 from rfl, hk.z] at hf; cases hf
  | one h => rw [show ((1 : Nat) : Int) = 1 from rfl, hk.o] at hf; cases hf
  | @var _ v' hv _ h2 _ _ =>
    rw [e] at hv; obtain rfl := Option.some.inj hv
    unfold Cx.valStep; rw [if_neg (by omega), if_pos h2]
  | @two _ v' a b hv _ h2 _ _ _ _ _ =>
    rw [e] at hv; obtain rfl := Option.some.inj hv
    omega
theorem val_two {l : List N} {ts : List Int} (hg : Cx.Good l) {i : Nat} {v : N} (e : l[i]? = some v) (h2 : v.o = 3 ∨ v.o = 4) :
    ∃ a b : Nat, v.a = a ∧ v.b = b ∧ a < b ∧ b < i ∧ (Cx.values ts l).getD i false = if v.o = 3 then ((Cx.values ts l).getD a false || (Cx.values ts l).getD b false) else ((Cx.values ts l).getD a false && (Cx.values ts l).getD b false) := by
  have := hg.kids e h2
  refine ⟨v.a.toNat, v.b.toNat, by omega, by omega, by omega, by omega, ?_⟩
  rw [Cx.valAt_eq e]
  unfold Cx.valStep
  rw [if_neg (by omega), if_neg (by omega), Cx.getD_take _ _ _ _ (by omega), Cx.getD_take _ _ _ _ (by omega)]
  rcases h2 with h2 | h2
  · rw [if_pos h2, if_pos h2]
  · rw [if_neg (by omega), if_pos h2, if_neg (by omega)]
theorem i64_nat {k : Nat} (h : k < 9223372036854775807) : I64 (k : Int) := by unfold I64; omega
set_option maxHeartbeats 4000000 in
set_option maxRecDepth 100000 in
theorem value_any (Bk Bc Bs Bv bm bs : Nat) (A : Option Addr) (c : Nat) (l : List N) (ts : List Int) (ns : Nat) (fs : Int → Option Bool) (hg : Cx.Good l) (hF : ∀ n ∈ l, NGood n) (hl : l.length ≤ 20000) (i : Nat) :
    ∀ (n : Nat) (f : Int → Option Bool) (w : World), i < l.length → EMem w Bk Bc Bs Bv bm bs A c l ts n f ns fs →
      Calls Tryz.prog 50 #[.int .i64 (i : Int), .pointer (some ⟨Bk, 0, none⟩), .pointer (some ⟨Bc, 0, none⟩), .pointer (some ⟨Bs, 0, none⟩), .pointer (some ⟨Bv, 0, none⟩)] w (ValOut Bk Bc Bs Bv bm bs A c l ts ns fs i f w) := by
  induction i using Nat.strongRecOn with
  | ind i ih =>
    intro n f w hi hM
    have IH := Lib.hid ih
    clear ih
    have k0 := hM.k.cell 0
    simp at k0
    have q0 := hM.km.look_ok int_enc bool_enc Tryz.underlying73 (zero_bool _) (i : Int) (i64_nat (by omega))
    simp only [ival] at q0
    cases hf : f (i : Int) with
    | some b =>
      obtain ⟨k, e, _, hb⟩ := hM.know.ok _ _ hf
      have e' : k = i := by omega
      subst e'
      rw [hf] at q0
      simp only [Option.getD_some, Option.isSome_some] at q0
      have HB := Lib.hid hb
      have HF := Lib.hid hf
      clear hb hf e
      go_enter Tryz.func50, Tryz.ntmps50
      go_wp2_with fail
      go_ret
      exact ⟨n, f, by rw [HB.out]; rfl, hM, grown_refl _ _, fun _ _ => rfl⟩
    | none =>
      rw [hf] at q0
      simp only [Option.getD_none, Option.isSome_none] at q0
      have e1 := List.getElem?_eq_getElem hi
      have hgood := hF _ (List.getElem_mem hi)
      obtain ⟨g, o, rfl, hgl, c0, c1, c2⟩ := hM.circ.at hi
      generalize l[i] = v at *
      have hval := Cx.valAt_eq (ts := ts) e1
      obtain ⟨W, hW⟩ : ∃ W, W = w.alloc (.cells #[.int .i64 v.o, .int .i64 v.a, .int .i64 v.b] 58) := ⟨_, rfl⟩
      have hb : Below w.heap.size w W := by rw [hW]; exact below1 _ _
      have hn : At W w.heap.size 58 #[.int .i64 v.o, .int .i64 v.a, .int .i64 v.b] := by rw [hW]; exact At.new _ _ _
      have q1 := (hM.sm.next hb).look int_enc bool_enc Tryz.underlying73 (zero_bool _) v.a hgood.2.1
      rw [hM.set] at q1
      obtain ⟨sv, hsv⟩ : ∃ b, ts.contains v.a = b := ⟨_, rfl⟩
      rw [hsv] at q1
      simp only [ival] at q1
      have HW := Lib.hid hW
      have HM := hM.below hb
      have g1 := grown_of_below hb (some bm)
      have c0' := hM.c.cell 0
      have s0 := hM.s.cell 0
      simp at c0' s0
      have z1 := hM.k.lt; have z2 := hM.c.lt; have z3 := hM.s.lt; have z4 := hM.v.lt
      have i0 : (0 : Int) ≤ (i : Int) := by omega
      have i1 : (i : Int) < (l.length : Int) := by omega
      rw [hW] at q1
      clear hW
      have n0 := hn.cell 0; have n1 := hn.cell 1; have n2 := hn.cell 2
      simp at n0 n1 n2
      by_cases h3 : v.o = 3
      · have t3 : (v.o == 3) = true := by simpa using h3
        obtain ⟨a, b, ha, hb', hab, hbi, hvv⟩ := val_two (ts := ts) hg e1 (Or.inl h3)
        rw [if_pos h3] at hvv
        have C1 := IH.out a (by omega) n f W (by omega) HM
        have C2 := fun n2 f2 w2 => IH.out b (by omega) n2 f2 w2 (by omega)
        have HA := Lib.hid ha
        rw [← ha] at C1
        rw [← hb'] at C2
        obtain ⟨x, hx⟩ : ∃ x, (Cx.values ts l).getD a false = x := ⟨_, rfl⟩
        obtain ⟨y, hy⟩ : ∃ y, (Cx.values ts l).getD b false = y := ⟨_, rfl⟩
        rw [hx, hy] at hvv
        have HX := Lib.hid hx; have HY := Lib.hid hy
        clear hx hy
        have HC1 := Lib.hid C1; have HC2 := Lib.hid C2
        have HF := Lib.hid hf
        have HVV := Lib.hid hvv
        have v0 := hM.v.cell 0
        simp at v0
        clear C1 C2 ha hb' hvv h3 hval e1 hf hsv
        go_enter Tryz.func50, Tryz.ntmps50
        go_wp2_with fail
        rw [← HW.out]
        refine HC1.out.mono ?_
        rintro e w2 ⟨m2, f2, rfl, hM2, g2, hj2⟩
        rw [HX.out]
        have hle2 := hM2.know.le
        have hf2 : f2 (i : Int) = none := (hj2 _ (by omega)).trans HF.out
        obtain ⟨es, ec, hmap⟩ := HM.km.obj
        have hn2 := hn.grown g2 (hn.not_map hmap)
        have HMAP := Lib.hid hmap
        have HF2 := Lib.hid hf2
        clear hmap hf2 k0 q0 q1 c0 c1 c2 c0' s0 n0 n1 n2 v0
        have k0 := hM2.k.cell 0
        have v0 := hM2.v.cell 0
        have n0 := hn2.cell 0; have n1 := hn2.cell 1; have n2' := hn2.cell 2
        simp at k0 v0 n0 n1 n2'
        cases x
        · have HV := Lib.hid (show y = (Cx.values ts l).getD i false by rw [HVV.out]; rfl)
          go_wp2_with fail
          refine (HC2.out m2 f2 w2 hM2).mono ?_
          rintro e w3 ⟨m3, f3, rfl, hM3, g3, hj3⟩
          rw [HY.out]
          have hle3 := hM3.know.le
          have hf3 : f3 (i : Int) = none := (hj3 _ (by omega)).trans HF2.out
          have HF3 := Lib.hid hf3
          clear hf3 k0 v0 n0 n1 n2'
          have k0 := hM3.k.cell 0
          simp at k0
          go_wp2_with (first | (at_mapUpdate; refine wpList_fmap_update _ rfl _ _ _ 73 rfl hM3.km int_enc bool_enc Tryz.underlying73 (by unfold maxLen; omega) rfl (i : Int) rfl (i64_nat (by omega)) y rfl ?_; intro w9 hk9 g9))
          go_ret
          exact val_done hi hM3 (grown_trans (grown_trans g1 g2) g3) (HF3.out) (fun j h => (hj3 j (by omega)).trans (hj2 j (by omega))) hk9 g9 HV.out
        · have HV := Lib.hid (show true = (Cx.values ts l).getD i false by rw [HVV.out]; rfl)
          go_wp2_with (first | (at_mapUpdate; refine wpList_fmap_update _ rfl _ _ _ 73 rfl hM2.km int_enc bool_enc Tryz.underlying73 (by unfold maxLen; omega) rfl (i : Int) rfl (i64_nat (by omega)) true rfl ?_; intro w9 hk9 g9))
          go_ret
          exact val_done hi hM2 (grown_trans g1 g2) (HF2.out) (fun j h => hj2 j (by omega)) hk9 g9 HV.out
      · by_cases h4 : v.o = 4
        · have t3 : (v.o == 3) = false := by simpa using h3
          have t4 : (v.o == 4) = true := by simpa using h4
          obtain ⟨a, b, ha, hb', hab, hbi, hvv⟩ := val_two (ts := ts) hg e1 (Or.inr h4)
          rw [if_neg h3] at hvv
          have C1 := IH.out a (by omega) n f W (by omega) HM
          have C2 := fun n2 f2 w2 => IH.out b (by omega) n2 f2 w2 (by omega)
          have HA := Lib.hid ha
          rw [← ha] at C1
          rw [← hb'] at C2
          obtain ⟨x, hx⟩ : ∃ x, (Cx.values ts l).getD a false = x := ⟨_, rfl⟩
          obtain ⟨y, hy⟩ : ∃ y, (Cx.values ts l).getD b false = y := ⟨_, rfl⟩
          rw [hx, hy] at hvv
          have HX := Lib.hid hx; have HY := Lib.hid hy
          clear hx hy
          have HC1 := Lib.hid C1; have HC2 := Lib.hid C2
          have HF := Lib.hid hf
          have HVV := Lib.hid hvv
          have v0 := hM.v.cell 0
          simp at v0
          clear C1 C2 ha hb' hvv h3 h4 hval e1 hf hsv
          go_enter Tryz.func50, Tryz.ntmps50
          go_wp2_with fail
          rw [← HW.out]
          refine HC1.out.mono ?_
          rintro e w2 ⟨m2, f2, rfl, hM2, g2, hj2⟩
          rw [HX.out]
          have hle2 := hM2.know.le
          have hf2 : f2 (i : Int) = none := (hj2 _ (by omega)).trans HF.out
          obtain ⟨es, ec, hmap⟩ := HM.km.obj
          have hn2 := hn.grown g2 (hn.not_map hmap)
          have HMAP := Lib.hid hmap
          have HF2 := Lib.hid hf2
          clear hmap hf2 k0 q0 q1 c0 c1 c2 c0' s0 n0 n1 n2 v0
          have k0 := hM2.k.cell 0
          have v0 := hM2.v.cell 0
          have n0 := hn2.cell 0; have n1 := hn2.cell 1; have n2' := hn2.cell 2
          simp at k0 v0 n0 n1 n2'
          cases x
          · have HV := Lib.hid (show false = (Cx.values ts l).getD i false by rw [HVV.out]; rfl)
            go_wp2_with (first | (at_mapUpdate; refine wpList_fmap_update _ rfl _ _ _ 73 rfl hM2.km int_enc bool_enc Tryz.underlying73 (by unfold maxLen; omega) rfl (i : Int) rfl (i64_nat (by omega)) false rfl ?_; intro w9 hk9 g9))
            go_ret
            exact val_done hi hM2 (grown_trans g1 g2) (HF2.out) (fun j h => hj2 j (by omega)) hk9 g9 HV.out
          · have HV := Lib.hid (show y = (Cx.values ts l).getD i false by rw [HVV.out]; simp)
            go_wp2_with fail
            refine (HC2.out m2 f2 w2 hM2).mono ?_
            rintro e w3 ⟨m3, f3, rfl, hM3, g3, hj3⟩
            rw [HY.out]
            have hle3 := hM3.know.le
            have hf3 : f3 (i : Int) = none := (hj3 _ (by omega)).trans HF2.out
            have HF3 := Lib.hid hf3
            clear hf3 k0 v0 n0 n1 n2'
            have k0 := hM3.k.cell 0
            simp at k0
            go_wp2_with (first | (at_mapUpdate; refine wpList_fmap_update _ rfl _ _ _ 73 rfl hM3.km int_enc bool_enc Tryz.underlying73 (by unfold maxLen; omega) rfl (i : Int) rfl (i64_nat (by omega)) y rfl ?_; intro w9 hk9 g9))
            go_ret
            exact val_done hi hM3 (grown_trans (grown_trans g1 g2) g3) (HF3.out) (fun j h => (hj3 j (by omega)).trans (hj2 j (by omega))) hk9 g9 HV.out
        · have t3 : (v.o == 3) = false := by simpa using h3
          have t4 : (v.o == 4) = false := by simpa using h4
          have HV := Lib.hid (hsv.symm.trans (val_leaf hg hM.know e1 hf h3 h4))
          have hle := hM.know.le
          have hkW := hM.km.alloc (.cells #[.int .i64 v.o, .int .i64 v.a, .int .i64 v.b] 58)
          have HF := Lib.hid hf
          clear h3 h4 hval e1 hf hsv
          go_enter Tryz.func50, Tryz.ntmps50
          go_wp2_with (first | (at_mapUpdate; refine wpList_fmap_update _ rfl _ _ _ 73 rfl hkW int_enc bool_enc Tryz.underlying73 (by unfold maxLen; omega) rfl (i : Int) rfl (i64_nat (by omega)) sv rfl ?_; intro w3 hk3 g3))
          rw [← HW.out] at g3
          go_ret
          exact val_done hi HM g1 HF.out (fun _ _ => rfl) hk3 g3 HV.out
end Go.Proofs.YtphmicbpkljmfaaGreat
