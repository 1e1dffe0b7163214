/- The walks of the truth values' ring, and of the evaluation in it. -/
import Derived.Test.YtphmicbpkljmfaaGreatSApart
import Derived.Test.YtphmicbpkljmfaaGreatSRing
import Derived.Test.YtphmicbpkljmfaaGreatCEval
import Derived.Test.YtphmicbpkljmfaaGreatCValid
import Derived.Test.YtphmicbpkljmfaaGreatTwo
namespace Go.Proofs.YtphmicbpkljmfaaGreat
set_option linter.unusedVariables false
set_option linter.unusedSimpArgs false
open Go.RowKit
open Cx (N)
abbrev udat : Unit → DataW Unit := fun _ => .agg []
/-- A map of numbers to nothing: a set. -/
abbrev USet (w : World) (b n : Nat) (f : Int → Option Unit) : Prop := FMap w Tryz.prog 3 unitElem ival udat b n f
theorem m_zero (b : Nat) (w : World) : (method 245 45 (.map (some b)) "porism/semiring.zero").run Tryz.prog w = .ok (106, .map (some b)) w := by kernel_rfl
theorem m_one (b : Nat) (w : World) : (method 245 45 (.map (some b)) "porism/semiring.one").run Tryz.prog w = .ok (102, .map (some b)) w := by kernel_rfl
theorem m_plus (b : Nat) (w : World) : (method 245 45 (.map (some b)) "porism/semiring.plus").run Tryz.prog w = .ok (103, .map (some b)) w := by kernel_rfl
theorem m_times (b : Nat) (w : World) : (method 245 45 (.map (some b)) "porism/semiring.times").run Tryz.prog w = .ok (104, .map (some b)) w := by kernel_rfl
theorem m_variable (b : Nat) (w : World) : (method 245 45 (.map (some b)) "porism/semiring.variable").run Tryz.prog w = .ok (105, .map (some b)) w := by kernel_rfl
theorem one_trust (b : Nat) (w : World) : Calls Tryz.prog 102 #[.map (some b)] w fun e w' => e = .returned (.bool true) ∧ w = w' := by
  go_enter Tryz.func102, Tryz.ntmps102
  go_wp2_with fail
  go_ret
  exact ⟨rfl, rfl⟩
theorem zero_trust (b : Nat) (w : World) : Calls Tryz.prog 106 #[.map (some b)] w fun e w' => e = .returned (.bool false) ∧ w = w' := by
  go_enter Tryz.func106, Tryz.ntmps106
  go_wp2_with fail
  go_ret
  exact ⟨rfl, rfl⟩
theorem plus_trust (b : Nat) (x y : Bool) (w : World) : Calls Tryz.prog 103 #[.map (some b), .bool x, .bool y] w fun e w' => e = .returned (.bool (x || y)) ∧ w = w' := by
  cases x <;> cases y
  all_goals
    go_enter Tryz.func103, Tryz.ntmps103
    go_wp2_with fail
    go_ret
    exact ⟨rfl, rfl⟩
theorem times_trust (b : Nat) (x y : Bool) (w : World) : Calls Tryz.prog 104 #[.map (some b), .bool x, .bool y] w fun e w' => e = .returned (.bool (x && y)) ∧ w = w' := by
  cases x <;> cases y
  all_goals
    go_enter Tryz.func104, Tryz.ntmps104
    go_wp2_with fail
    go_ret
    exact ⟨rfl, rfl⟩
theorem variable_trust (b n : Nat) (f : Int → Option Unit) (x : Int) (hx : I64 x) (w : World) (hm : USet w b n f) : Calls Tryz.prog 105 #[.map (some b), .int .i64 x] w fun e w' => e = .returned (.bool (!(f x).isSome)) ∧ Below w.heap.size w w' := by
  have q0 := hm.look_ok (a0 := ()) int_enc eenc_unit Tryz.underlying45 (zero_unit _) x hx
  obtain ⟨r, hr⟩ : ∃ r, (f x).isSome = r := ⟨_, rfl⟩
  rw [hr] at q0 ⊢
  simp only [ival] at q0
  clear hr
  cases r
  all_goals
    go_enter Tryz.func105, Tryz.ntmps105
    go_wp2_with fail
    go_ret
    exact ⟨rfl, below1 _ _⟩
/-- All variables of a circuit but some. -/
def trusted (l : List N) (without : List Int) : List Int := restL ((l.filter fun v => decide (v.o = 2)).map fun v => v.a) without
theorem trusted_leaf {l : List N} {without : List Int} {v : N} (hv : v ∈ l) (h2 : v.o = 2) : (trusted l without).contains v.a = !without.contains v.a := by
  unfold trusted restL
  rw [Bool.eq_iff_iff]
  simp only [List.contains_iff_mem, List.mem_filter, List.mem_map, Bool.not_eq_true', decide_eq_true_eq]
  constructor
  · rintro ⟨_, h⟩
    exact h
  · intro h
    exact ⟨⟨v, ⟨hv, h2⟩, rfl⟩, h⟩
/-- What is known of the values. -/
structure KnownT (l : List N) (ts : List Int) (n : Nat) (f : Int → Option Bool) : Prop where
  ok : ∀ j b, f j = some b → ∃ k : Nat, j = k ∧ k < l.length ∧ b = (Cx.values ts l).getD k false
  few : n ≤ ((List.range l.length).filter fun k : Nat => (f (k : Int)).isSome).length
theorem KnownT.le {l : List N} {ts : List Int} {n : Nat} {f : Int → Option Bool} (h : KnownT l ts n f) : n ≤ l.length := by
  have h1 := h.few
  have h2 := List.length_filter_le (fun k : Nat => (f (k : Int)).isSome) (List.range l.length)
  simp at h2
  omega
theorem few_more {α : Type} {L n i : Nat} {f : Int → Option α} (h : n ≤ ((List.range L).filter fun k : Nat => (f (k : Int)).isSome).length) (hi : i < L) (hf : f i = none) (b : α) : n + 1 ≤ ((List.range L).filter fun k : Nat => (if (k : Int) = (i : Int) then some b else f (k : Int)).isSome).length := by
  refine Nat.le_trans (Nat.add_le_add_right h 1) (count_more (f := fun k : Nat => (f (k : Int)).isSome) (g := fun k : Nat => (if (k : Int) = (i : Int) then some b else f (k : Int)).isSome) (i := i) hi (by show (f (i : Int)).isSome = false; rw [hf]; rfl) (by simp) (fun j hj => ?_))
  show (if (j : Int) = (i : Int) then some b else f (j : Int)).isSome = true
  split
  · rfl
  · exact hj
theorem KnownT.more {l : List N} {ts : List Int} {n : Nat} {f : Int → Option Bool} (h : KnownT l ts n f) {i : Nat} (hi : i < l.length) (hf : f i = none) {b : Bool} (hb : b = (Cx.values ts l).getD i false) : KnownT l ts (n + 1) (fun y => if y = (i : Int) then some b else f y) := by
  refine ⟨fun j b' hj => ?_, few_more h.few hi hf b⟩
  have hj' : (if j = (i : Int) then some b else f j) = some b' := hj
  by_cases e : j = (i : Int)
  · rw [if_pos e] at hj'; obtain rfl := Option.some.inj hj'; exact ⟨i, e, hi, hb⟩
  · rw [if_neg e] at hj'; exact h.ok j b' hj'
/-- The memory of the closure, but for what is known. -/
structure TMem (w : World) (Bk Br Bc Bv bm bs : Nat) (A : Option Addr) (c : Nat) (l : List N) (without : List Int) (ns : Nat) (fs : Int → Option Unit) : Prop where
  k : At w Bk 73 #[.map (some bm)]
  r : At w Br 76 #[.iface 45 (.map (some bs))]
  c : At w Bc 23 #[.slice A l.length c]
  v : At w Bv 61 #[.func (.func 51) #[] #[.pointer (some ⟨Bk, 0, none⟩), .pointer (some ⟨Br, 0, none⟩), .pointer (some ⟨Bc, 0, none⟩), .pointer (some ⟨Bv, 0, none⟩)]]
  sm : USet w bs ns fs
  ne : bs ≠ bm
  circ : Circ w A l
  set : ∀ x, (fs x).isSome = without.contains x
section
variable {w w' : World} {Bk Br Bc Bv bm bs : Nat} {A : Option Addr} {c : Nat} {l : List N} {without : List Int} {ns : Nat} {fs : Int → Option Unit}
theorem At.off {g b : Nat} {t : TypeId} {cs : Array Value} {es : Array MapEntry} {k : Nat} (h : At w g t cs) (hm : w.heap[b]? = some (.map es k)) (ha : Apart w.heap.size [b] w w') : At w' g t cs :=
  h.apart ha h.lt (fun hs => by simp at hs; exact h.not_map hm (by rw [hs]))
theorem TMem.apart {n : Nat} {f : Int → Option Bool} (h : TMem w Bk Br Bc Bv bm bs A c l without ns fs) (km : IMap w bm n f) (ha : Apart w.heap.size [bm] w w') : TMem w' Bk Br Bc Bv bm bs A c l without ns fs := by
  obtain ⟨es, k, hm⟩ := km.obj
  exact ⟨h.k.off hm ha, h.r.off hm ha, h.c.off hm ha, h.v.off hm ha, h.sm.apart ha h.sm.lt (by simpa using h.ne), h.ne, h.circ.apart ha (fun g hg => by simp at hg; subst hg; exact odd_map hm), h.set⟩
/-- A world on the way: the memory, what is known, and what differs from w. -/
structure TState (w0 : World) (Bk Br Bc Bv bm bs : Nat) (A : Option Addr) (c : Nat) (l : List N) (without : List Int) (ns : Nat) (fs : Int → Option Unit) (i : Nat) (f0 : Int → Option Bool) (w : World) : Prop where
  mem : TMem w Bk Br Bc Bv bm bs A c l without ns fs
  ap : Apart w0.heap.size [bm] w0 w
  ex : ∃ n f, IMap w bm n f ∧ KnownT l (trusted l without) n f ∧ ∀ j : Int, (i : Int) ≤ j → f j = f0 j
theorem TState.cells {w0 : World} {i : Nat} {f0 : Int → Option Bool} (h : TState w0 Bk Br Bc Bv bm bs A c l without ns fs i f0 w) : w.cell? ⟨Bk, 0, none⟩ = some (.map (some bm)) ∧ w.cell? ⟨Br, 0, none⟩ = some (.iface 45 (.map (some bs))) ∧ w.cell? ⟨Bc, 0, none⟩ = some (.slice A l.length c) ∧ w.cell? ⟨Bv, 0, none⟩ = some (.func (.func 51) #[] #[.pointer (some ⟨Bk, 0, none⟩), .pointer (some ⟨Br, 0, none⟩), .pointer (some ⟨Bc, 0, none⟩), .pointer (some ⟨Bv, 0, none⟩)]) := by
  have h1 := h.mem.k.cell 0
  have h2 := h.mem.r.cell 0
  have h3 := h.mem.c.cell 0
  have h4 := h.mem.v.cell 0
  simp at h1 h2 h3 h4
  exact ⟨h1, h2, h3, h4⟩
end
theorem TState.trans {w0 w1 w2 : World} {Bk Br Bc Bv bm bs : Nat} {A : Option Addr} {c : Nat} {l : List N} {without : List Int} {ns : Nat} {fs : Int → Option Unit} {i j : Nat} {f0 f1 : Int → Option Bool} (h1 : Apart w0.heap.size [bm] w0 w1) (hf : ∀ k : Int, (i : Int) ≤ k → f1 k = f0 k) (h2 : TState w1 Bk Br Bc Bv bm bs A c l without ns fs j f1 w2) (hij : j ≤ i) : TState w0 Bk Br Bc Bv bm bs A c l without ns fs i f0 w2 := by
  obtain ⟨m, a, n, f, h3, h4, h5⟩ := h2
  exact ⟨m, h1.trans (a.mono h1.size), n, f, h3, h4, fun k hk => (h5 k (by omega)).trans (hf k hk)⟩
/-- A node's value, and what is known then. -/
def TOut (Bk Br Bc Bv bm bs : Nat) (A : Option Addr) (c : Nat) (l : List N) (without : List Int) (ns : Nat) (fs : Int → Option Unit) (i : Nat) (f : Int → Option Bool) (w : World) (e : Ending) (w' : World) : Prop :=
  e = .returned (.bool ((Cx.values (trusted l without) l).getD i false)) ∧ TState w Bk Br Bc Bv bm bs A c l without ns fs (i + 1) f w'
theorem tval_done {Bk Br Bc Bv bm bs : Nat} {A : Option Addr} {c : Nat} {l : List N} {without : List Int} {ns : Nat} {fs : Int → Option Unit} {i : Nat} {f f2 : Int → Option Bool} {w W w3 : World} {n2 : Nat} {b : Bool}
    (hi : i < l.length) (hM : TMem W Bk Br Bc Bv bm bs A c l without ns fs) (hm : IMap W bm n2 f2) (hk : KnownT l (trusted l without) n2 f2) (ha : Apart w.heap.size [bm] w W) (hf : f (i : Int) = none) (hj : ∀ j : Int, (i : Int) ≤ j → f2 j = f j)
    (hk3 : IMap w3 bm (n2 + 1) (fun y => if y = (i : Int) then some b else f2 y)) (g3 : W.grownBy w3 (some bm)) (hb : b = (Cx.values (trusted l without) l).getD i false) : TOut Bk Br Bc Bv bm bs A c l without ns fs i f w (.returned (.bool b)) w3 := by
  have ha3 : Apart W.heap.size [bm] W w3 := apart_of_grown g3 (fun k hk => Or.inl (by injection hk with hk; simp [hk])) (Nat.le_refl _)
  refine ⟨by rw [hb], hM.apart hm ha3, ha.trans (ha3.mono ha.size), n2 + 1, _, hk3, hk.more hi (by rw [hj _ (Int.le_refl _), hf]) hb, fun j h => ?_⟩
  show (if j = (i : Int) then some b else f2 j) = f j
  rw [if_neg (by omega)]; exact hj j (by omega)
set_option maxHeartbeats 4000000 in
set_option maxRecDepth 100000 in
theorem tvalue_any (Bk Br Bc Bv bm bs : Nat) (A : Option Addr) (c : Nat) (l : List N) (without : List Int) (ns : Nat) (fs : Int → Option Unit) (hg : Cx.Good l) (hF : ∀ n ∈ l, NGood n) (hl : l.length ≤ 20000) (i : Nat) :
    ∀ (n : Nat) (f : Int → Option Bool) (w : World), i < l.length → TMem w Bk Br Bc Bv bm bs A c l without ns fs → IMap w bm n f → KnownT l (trusted l without) n f →
      Calls Tryz.prog 51 #[.int .i64 (i : Int), .pointer (some ⟨Bk, 0, none⟩), .pointer (some ⟨Br, 0, none⟩), .pointer (some ⟨Bc, 0, none⟩), .pointer (some ⟨Bv, 0, none⟩)] w (TOut Bk Br Bc Bv bm bs A c l without ns fs i f w) := by
  induction i using Nat.strongRecOn with
  | ind i ih =>
    intro n f w hi hM km kn
    have IH := Lib.hid ih
    clear ih
    have k0 := hM.k.cell 0
    simp at k0
    have q0 := km.look_ok int_enc bool_enc Tryz.underlying73 (zero_bool _) (i : Int) (i64_nat (by omega))
    simp only [ival] at q0
    cases hf : f (i : Int) with
    | some b =>
      obtain ⟨k, e, _, hb⟩ := kn.ok _ _ hf
      have e' : k = i := by omega
      subst e'
      rw [hf] at q0
      simp only [Option.getD_some, Option.isSome_some] at q0
      have HB := Lib.hid hb
      clear hb hf e
      go_enter Tryz.func51, Tryz.ntmps51
      go_wp2_with fail
      go_ret
      exact ⟨by rw [HB.out]; rfl, hM, Apart.refl _ _ _, n, f, km, kn, fun _ _ => rfl⟩
    | none =>
      rw [hf] at q0
      simp only [Option.getD_none, Option.isSome_none] at q0
      have r0 := hM.r.cell 0
      have c0 := hM.c.cell 0
      simp at r0 c0
      have e1 := List.getElem?_eq_getElem hi
      have hgood := hF _ (List.getElem_mem hi)
      have hmem := List.getElem_mem hi
      obtain ⟨g, o, rfl, hgl, y0, y1, y2⟩ := hM.circ.at hi
      generalize l[i] = v at *
      have hkle := kn.le
      have mz := fun w => m_zero bs w
      have mo := fun w => m_one bs w
      have i0 : (0 : Int) ≤ (i : Int) := by omega
      have i1 : (i : Int) < (l.length : Int) := by omega
      have hkind := hg.kind hi
      have HF := Lib.hid hf
      have HM := Lib.hid hM
      have HKM := Lib.hid km
      have HKN := Lib.hid kn
      have hval := Cx.valAt_eq (ts := trusted l without) e1
      by_cases h0 : v.o = 0
      · have HV := Lib.hid (show false = (Cx.values (trusted l without) l).getD i false by
          rw [hval]; unfold Cx.valStep; rw [if_neg (by omega), if_neg (by omega), if_neg (by omega), if_neg (by omega)])
        have t1 : (v.o == 1) = false := by simp; omega
        have t2 : (v.o == 2) = false := by simp; omega
        have t3 : (v.o == 3) = false := by simp; omega
        have t4 : (v.o == 4) = false := by simp; omega
        clear h0 hval hkind e1 hf hM kn
        go_enter Tryz.func51, Tryz.ntmps51
        go_wp2_with fail
        refine (zero_trust bs _).mono ?_
        rintro e w1 ⟨rfl, rfl⟩
        go_wp2_with (first | (at_mapUpdate; refine wpList_fmap_update _ rfl _ _ _ 73 rfl km int_enc bool_enc Tryz.underlying73 (by unfold maxLen; omega) rfl (i : Int) rfl (i64_nat (by omega)) false rfl ?_; intro w9 hk9 g9))
        go_ret
        exact tval_done hi HM.out km HKN.out (Apart.refl _ _ _) HF.out (fun _ _ => rfl) hk9 g9 HV.out
      · by_cases h1 : v.o = 1
        · have HV := Lib.hid (show true = (Cx.values (trusted l without) l).getD i false by
            rw [hval]; unfold Cx.valStep; rw [if_pos h1])
          have t1 : (v.o == 1) = true := by simp; omega
          clear h0 h1 hval hkind e1 hf hM kn
          go_enter Tryz.func51, Tryz.ntmps51
          go_wp2_with fail
          refine (zero_trust bs _).mono ?_
          rintro e w1 ⟨rfl, rfl⟩
          go_wp2_with fail
          refine (one_trust bs _).mono ?_
          rintro e w1 ⟨rfl, rfl⟩
          go_wp2_with (first | (at_mapUpdate; refine wpList_fmap_update _ rfl _ _ _ 73 rfl km int_enc bool_enc Tryz.underlying73 (by unfold maxLen; omega) rfl (i : Int) rfl (i64_nat (by omega)) true rfl ?_; intro w9 hk9 g9))
          go_ret
          exact tval_done hi HM.out km HKN.out (Apart.refl _ _ _) HF.out (fun _ _ => rfl) hk9 g9 HV.out
        · by_cases h2 : v.o = 2
          · have hsv : (!(fs v.a).isSome) = (Cx.values (trusted l without) l).getD i false := by
              rw [hval]; unfold Cx.valStep; rw [if_neg (by omega), if_pos h2, trusted_leaf hmem h2, hM.set]
            have hIa : I64 v.a := hgood.2.1
            have HVR := Lib.hid hsv
            obtain ⟨sv, hsv'⟩ : ∃ sv, (!(fs v.a).isSome) = sv := ⟨_, rfl⟩
            rw [hsv'] at HVR hsv
            have HV := Lib.hid hsv
            clear HVR
            have HVR := Lib.hid hsv'
            have zr := hM.r.lt; have zc := hM.c.lt
            have HBD := Lib.hid (show ∀ W, Below w.heap.size w W → W.cell? ⟨Br, 0, none⟩ = some (.iface 45 (.map (some bs))) ∧ W.cell? ⟨Bc, 0, none⟩ = some (.slice (some ⟨g, o, none⟩) l.length c) ∧ W.cell? ⟨g, o + i * 3 + 1, none⟩ = some (.int .i64 v.a) from
              fun W hb => ⟨(hb.cell (p := ⟨Br, 0, none⟩) zr).trans r0, (hb.cell (p := ⟨Bc, 0, none⟩) zc).trans c0, (hb.cell (p := ⟨g, o + i * 3 + 1, none⟩) hgl).trans y1⟩)
            have HSM := Lib.hid (show ∀ W, Below w.heap.size w W → USet W bs ns fs from fun W hb => hM.sm.next hb)
            have t1 : (v.o == 1) = false := by simp; omega
            have t2 : (v.o == 2) = true := by simp; omega
            clear h0 h1 h2 hval hkind e1 hf hM kn hsv hsv'
            go_enter Tryz.func51, Tryz.ntmps51
            go_wp2_with fail
            refine (zero_trust bs _).mono ?_
            rintro e w1 ⟨rfl, rfl⟩
            go_wp2_with fail
            clear r0 c0 y0 y1 y2 k0 q0
            refine' wp_region_each _ (Below w.heap.size w) (fun _ _ : World => True) (Vl :: Vl :: Vl :: Vl :: Vl :: Vl :: Vl :: Vl :: Vl :: Vl :: Vl :: []) ?hF (by kernel_rfl) (by kernel_rfl) (by kernel_rfl) ((Below.refl _ _).drew) (lasting_cons (lasting_vl) (lasting_cons (lasting_vl) (lasting_cons (lasting_vl) (lasting_cons (lasting_vl) (lasting_cons (lasting_vl) (lasting_cons (lasting_vl) (lasting_cons (lasting_vl) (lasting_cons (lasting_vl) (lasting_cons (lasting_vl) (lasting_cons (lasting_vl) (lasting_cons (lasting_vl) (lasting_none)))))))))))) ?hops ?hend
            case hF => (intro v; simp only [over, Act.put, List.setIfInBounds_toArray, List.set_cons_zero, List.set_cons_succ, Nat.zero_add, Nat.reduceAdd]; exact rfl)
            case hops =>
              refine ⟨?_, ?_⟩
              · intro v w' hj hd hs K hK
                obtain ⟨x1, x2, x3⟩ := HBD.out _ hj.out
                have hk := hK.out
                simp only [Act.put, List.setIfInBounds_toArray, List.set_cons_zero, List.set_cons_succ] at hk
                have HK := Lib.hid hk
                clear hd hs hk hK
                go_simp
                exact HK.out _ _ hj.out (trivial) (show _ = _ from rfl)
              refine ⟨?_, ?_⟩
              · intro v w' hj hd hs K hK
                obtain ⟨x1, x2, x3⟩ := HBD.out _ hj.out
                have hk := hK.out
                simp only [Act.put, List.setIfInBounds_toArray, List.set_cons_zero, List.set_cons_succ] at hk
                have HK := Lib.hid hk
                clear hd hs hk hK
                go_simp
                exact HK.out _ _ hj.out (trivial) (show _ = _ from rfl)
              refine ⟨?_, ?_⟩
              · intro v w' hj hd hs K hK
                have hk := hK.out
                simp only [Act.put, List.setIfInBounds_toArray, List.set_cons_zero, List.set_cons_succ] at hk
                have HK := Lib.hid hk
                clear hd hs hk hK
                go_simp
                exact HK.out _ _ hj.out (trivial) (show _ = _ from rfl)
              refine ⟨?_, ?_⟩
              · intro v w' hj hd hs K hK
                have t1 : v 1 = _ := hd.out 1 (by kernel_rfl)
                have t2 : v 2 = _ := hd.out 2 (by kernel_rfl)
                have hk := hK.out
                simp only [t1, t2, Act.put, List.setIfInBounds_toArray, List.set_cons_zero, List.set_cons_succ] at hk
                have HK := Lib.hid hk
                clear hd hs hk hK
                go_simp
                exact HK.out _ _ hj.out (trivial) (show _ = _ from rfl)
              refine ⟨?_, ?_⟩
              · intro v w' hj hd hs K hK
                have t3 : v 3 = _ := hd.out 3 (by kernel_rfl)
                have hk := hK.out
                simp only [t3, Act.put, List.setIfInBounds_toArray, List.set_cons_zero, List.set_cons_succ] at hk
                have HK := Lib.hid hk
                clear hd hs hk hK
                go_simp
                exact HK.out _ _ hj.out (trivial) (show _ = _ from rfl)
              refine ⟨?_, ?_⟩
              · intro v w' hj hd hs K hK
                have t4 : v 4 = _ := hd.out 4 (by kernel_rfl)
                obtain ⟨x1, x2, x3⟩ := HBD.out _ hj.out
                have hk := hK.out
                simp only [t4, Act.put, List.setIfInBounds_toArray, List.set_cons_zero, List.set_cons_succ] at hk
                have HK := Lib.hid hk
                clear hd hs hk hK
                go_simp
                exact HK.out _ _ hj.out (trivial) (show _ = _ from rfl)
              refine ⟨?_, ?_⟩
              · intro v w' hj hd hs K hK
                have t0 : v 0 = _ := hd.out 0 (by kernel_rfl)
                have hk := hK.out
                simp only [t0, Act.put, List.setIfInBounds_toArray, List.set_cons_zero, List.set_cons_succ] at hk
                have HK := Lib.hid hk
                clear hd hs hk hK
                go_simp
                exact HK.out _ _ hj.out (trivial) (show _ = _ from rfl)
              refine ⟨?_, ?_⟩
              · intro v w' hj hd hs K hK
                have t6 : v 6 = _ := hd.out 6 (by kernel_rfl)
                have hk := hK.out
                simp only [t6, Act.put, List.setIfInBounds_toArray, List.set_cons_zero, List.set_cons_succ] at hk
                have HK := Lib.hid hk
                clear hd hs hk hK
                go_simp
                exact HK.out _ _ hj.out (trivial) (show _ = _ from rfl)
              refine ⟨?_, ?_⟩
              · intro v w' hj hd hs K hK
                have t0 : v 0 = _ := hd.out 0 (by kernel_rfl)
                have hk := hK.out
                simp only [t0, Act.put, List.setIfInBounds_toArray, List.set_cons_zero, List.set_cons_succ] at hk
                have HK := Lib.hid hk
                clear hd hs hk hK
                go_simp
                exact HK.out _ _ hj.out (trivial) (show _ = _ from rfl)
              refine ⟨?_, ?_⟩
              · intro v w' hj hd hs K hK
                have t5 : v 5 = _ := hd.out 5 (by kernel_rfl)
                have t8 : v 8 = _ := hd.out 8 (by kernel_rfl)
                have mm := fun w => m_variable bs w
                have hk := hK.out
                simp only [t5, t8, Act.put, List.setIfInBounds_toArray, List.set_cons_zero, List.set_cons_succ] at hk
                have HK := Lib.hid hk
                clear hd hs hk hK
                go_simp
                refine (variable_trust bs ns fs _ hIa _ (HSM.out _ hj.out)).mono ?_
                rintro e w2 ⟨rfl, hb2⟩
                rw [HVR.out]
                exact HK.out _ _ (hj.out.trans (hb2.mono hj.out.size)) trivial (show _ = _ from rfl)
              refine ⟨?_, ?_⟩
              · intro v w' hj hd hs K hK
                have t9 : v 9 = _ := hd.out 9 (by kernel_rfl)
                have hk := hK.out
                simp only [t9, Act.put, List.setIfInBounds_toArray, List.set_cons_zero, List.set_cons_succ] at hk
                have HK := Lib.hid hk
                clear hd hs hk hK
                go_simp
                exact HK.out _ _ hj.out (trivial) (show _ = _ from rfl)
              trivial
            case hend =>
              intro vv w2 hj hd
              have t10 : vv 10 = _ := hd.out 10 (of_decide_eq_true (by kernel_rfl))
              simp only [t10]
              have b2 := hj.out
              have HB2 := Lib.hid b2
              have km2 := km.next b2
              have k0 := (HM.out.k.next b2).cell 0
              simp at k0
              clear hd hj t10 b2
              go_wp2_with (first | (at_mapUpdate; refine wpList_fmap_update _ rfl _ _ _ 73 rfl km2 int_enc bool_enc Tryz.underlying73 (by unfold maxLen; omega) rfl (i : Int) rfl (i64_nat (by omega)) sv rfl ?_; intro w9 hk9 g9))
              go_ret
              exact tval_done hi (HM.out.apart km (apart_of_below HB2.out _)) km2 HKN.out (apart_of_below HB2.out _) HF.out (fun _ _ => rfl) hk9 g9 HV.out
          · have h34 : v.o = 3 ∨ v.o = 4 := by
              cases hkind with
              | zero h => rw [h] at e1; obtain rfl := Option.some.inj e1; exact absurd rfl h0
              | one h => rw [h] at e1; obtain rfl := Option.some.inj e1; exact absurd rfl h1
              | @var _ v' hv _ h _ _ => rw [e1] at hv; obtain rfl := Option.some.inj hv; exact absurd h h2
              | @two _ v' a b hv _ h _ _ _ _ _ => rw [e1] at hv; obtain rfl := Option.some.inj hv; exact h
            obtain ⟨a, b, ha, hb', hab, hbi, hvv⟩ := val_two (ts := trusted l without) hg e1 h34
            have hbi' : b < i := hbi
            obtain ⟨x, hx⟩ : ∃ x, (Cx.values (trusted l without) l).getD a false = x := ⟨_, rfl⟩
            obtain ⟨y, hy⟩ : ∃ y, (Cx.values (trusted l without) l).getD b false = y := ⟨_, rfl⟩
            rw [hx, hy] at hvv
            have C1 : ∀ W, TState w Bk Br Bc Bv bm bs (some ⟨g, o, none⟩) c l without ns fs i f W → Calls Tryz.prog 51 #[.int .i64 v.a, .pointer (some ⟨Bk, 0, none⟩), .pointer (some ⟨Br, 0, none⟩), .pointer (some ⟨Bc, 0, none⟩), .pointer (some ⟨Bv, 0, none⟩)] W fun e w' => e = .returned (.bool x) ∧ TState w Bk Br Bc Bv bm bs (some ⟨g, o, none⟩) c l without ns fs i f w' := by
              rintro W ⟨hM2, ap2, n2, f2, km2, kn2, hj2⟩
              rw [ha, ← hx]
              exact (IH.out a (by omega) n2 f2 W (by omega) hM2 km2 kn2).mono fun e w' ⟨h1, h2⟩ => ⟨h1, TState.trans ap2 hj2 h2 (by omega)⟩
            have C2 : ∀ W, TState w Bk Br Bc Bv bm bs (some ⟨g, o, none⟩) c l without ns fs i f W → Calls Tryz.prog 51 #[.int .i64 v.b, .pointer (some ⟨Bk, 0, none⟩), .pointer (some ⟨Br, 0, none⟩), .pointer (some ⟨Bc, 0, none⟩), .pointer (some ⟨Bv, 0, none⟩)] W fun e w' => e = .returned (.bool y) ∧ TState w Bk Br Bc Bv bm bs (some ⟨g, o, none⟩) c l without ns fs i f w' := by
              rintro W ⟨hM2, ap2, n2, f2, km2, kn2, hj2⟩
              rw [hb', ← hy]
              exact (IH.out b (by omega) n2 f2 W (by omega) hM2 km2 kn2).mono fun e w' ⟨h1, h2⟩ => ⟨h1, TState.trans ap2 hj2 h2 (by omega)⟩
            have HC1 := Lib.hid C1; have HC2 := Lib.hid C2
            have HST := Lib.hid (show TState w Bk Br Bc Bv bm bs (some ⟨g, o, none⟩) c l without ns fs i f w.drew from
              ⟨hM.apart km (apart_of_below (Below.refl _ _).drew _), apart_of_below (Below.refl _ _).drew _, n, f, km.drew, kn, fun _ _ => rfl⟩)
            have HBD := Lib.hid (show ∀ W, TState w Bk Br Bc Bv bm bs (some ⟨g, o, none⟩) c l without ns fs i f W → W.cell? ⟨Br, 0, none⟩ = some (.iface 45 (.map (some bs))) ∧ W.cell? ⟨Bc, 0, none⟩ = some (.slice (some ⟨g, o, none⟩) l.length c) ∧ W.cell? ⟨Bv, 0, none⟩ = some (.func (.func 51) #[] #[.pointer (some ⟨Bk, 0, none⟩), .pointer (some ⟨Br, 0, none⟩), .pointer (some ⟨Bc, 0, none⟩), .pointer (some ⟨Bv, 0, none⟩)]) ∧ W.cell? ⟨g, o + i * 3 + 1, none⟩ = some (.int .i64 v.a) ∧ W.cell? ⟨g, o + i * 3 + 2, none⟩ = some (.int .i64 v.b) from fun W hT => by
              obtain ⟨z1, z2, z3, z4⟩ := hT.cells
              obtain ⟨g', o', eg, _, z5⟩ := hT.mem.circ (by intro e; rw [e] at hi; simp at hi)
              injection eg with eg
              injection eg with eg1 eg2 _
              subst eg1; subst eg2
              obtain ⟨_, z6, z7⟩ := z5 i v e1
              exact ⟨z2, z3, z4, z6, z7⟩)
            clear C1 C2 ha hb' hab hbi hx hy
            by_cases h3 : v.o = 3
            · rw [if_pos h3] at hvv
              have t1 : (v.o == 1) = false := by simp; omega
              have t2 : (v.o == 2) = false := by simp; omega
              have t3 : (v.o == 3) = true := by simp; omega
              have HV := Lib.hid (show (x || y) = (Cx.values (trusted l without) l).getD i false from hvv.symm)
              clear h0 h1 h2 hval hkind e1 hf hM kn hvv h34 h3
              go_enter Tryz.func51, Tryz.ntmps51
              go_wp2_with fail
              refine (zero_trust bs _).mono ?_
              rintro e w1 ⟨rfl, rfl⟩
              go_wp2_with fail
              clear r0 c0 y0 y1 y2 k0 q0
              refine' wp_region_each _ (TState w Bk Br Bc Bv bm bs (some ⟨g, o, none⟩) c l without ns fs i f) (fun _ _ : World => True) (Vl :: Vl :: Vl :: Vl :: Vl :: Vl :: Vl :: Vl :: Vl :: Vl :: Vl :: Vl :: Vl :: Vl :: Vl :: Vl :: Vl :: Vl :: Vl :: Vl :: []) ?hF (by kernel_rfl) (by kernel_rfl) (by kernel_rfl) (HST.out) (lasting_cons (lasting_vl) (lasting_cons (lasting_vl) (lasting_cons (lasting_vl) (lasting_cons (lasting_vl) (lasting_cons (lasting_vl) (lasting_cons (lasting_vl) (lasting_cons (lasting_vl) (lasting_cons (lasting_vl) (lasting_cons (lasting_vl) (lasting_cons (lasting_vl) (lasting_cons (lasting_vl) (lasting_cons (lasting_vl) (lasting_cons (lasting_vl) (lasting_cons (lasting_vl) (lasting_cons (lasting_vl) (lasting_cons (lasting_vl) (lasting_cons (lasting_vl) (lasting_cons (lasting_vl) (lasting_cons (lasting_vl) (lasting_cons (lasting_vl) (lasting_none))))))))))))))))))))) ?hops ?hend
              case hF => (intro v; simp only [over, Act.put, List.setIfInBounds_toArray, List.set_cons_zero, List.set_cons_succ, Nat.zero_add, Nat.reduceAdd]; exact rfl)
              case hops =>
                refine ⟨?_, ?_⟩
                · intro v w' hj hd hs K hK
                  obtain ⟨x1, x2, x3, x4, x5⟩ := HBD.out _ hj.out
                  have hk := hK.out
                  simp only [Act.put, List.setIfInBounds_toArray, List.set_cons_zero, List.set_cons_succ] at hk
                  have HK := Lib.hid hk
                  clear hd hs hk hK
                  go_simp
                  exact HK.out _ _ hj.out (trivial) (show _ = _ from rfl)
                refine ⟨?_, ?_⟩
                · intro v w' hj hd hs K hK
                  obtain ⟨x1, x2, x3, x4, x5⟩ := HBD.out _ hj.out
                  have hk := hK.out
                  simp only [Act.put, List.setIfInBounds_toArray, List.set_cons_zero, List.set_cons_succ] at hk
                  have HK := Lib.hid hk
                  clear hd hs hk hK
                  go_simp
                  exact HK.out _ _ hj.out (trivial) (show _ = _ from rfl)
                refine ⟨?_, ?_⟩
                · intro v w' hj hd hs K hK
                  obtain ⟨x1, x2, x3, x4, x5⟩ := HBD.out _ hj.out
                  have hk := hK.out
                  simp only [Act.put, List.setIfInBounds_toArray, List.set_cons_zero, List.set_cons_succ] at hk
                  have HK := Lib.hid hk
                  clear hd hs hk hK
                  go_simp
                  exact HK.out _ _ hj.out (trivial) (show _ = _ from rfl)
                refine ⟨?_, ?_⟩
                · intro v w' hj hd hs K hK
                  have hk := hK.out
                  simp only [Act.put, List.setIfInBounds_toArray, List.set_cons_zero, List.set_cons_succ] at hk
                  have HK := Lib.hid hk
                  clear hd hs hk hK
                  go_simp
                  exact HK.out _ _ hj.out (trivial) (show _ = _ from rfl)
                refine ⟨?_, ?_⟩
                · intro v w' hj hd hs K hK
                  have t2 : v 2 = _ := hd.out 2 (by kernel_rfl)
                  have t3 : v 3 = _ := hd.out 3 (by kernel_rfl)
                  have hk := hK.out
                  simp only [t2, t3, Act.put, List.setIfInBounds_toArray, List.set_cons_zero, List.set_cons_succ] at hk
                  have HK := Lib.hid hk
                  clear hd hs hk hK
                  go_simp
                  exact HK.out _ _ hj.out (trivial) (show _ = _ from rfl)
                refine ⟨?_, ?_⟩
                · intro v w' hj hd hs K hK
                  have t4 : v 4 = _ := hd.out 4 (by kernel_rfl)
                  have hk := hK.out
                  simp only [t4, Act.put, List.setIfInBounds_toArray, List.set_cons_zero, List.set_cons_succ] at hk
                  have HK := Lib.hid hk
                  clear hd hs hk hK
                  go_simp
                  exact HK.out _ _ hj.out (trivial) (show _ = _ from rfl)
                refine ⟨?_, ?_⟩
                · intro v w' hj hd hs K hK
                  have t5 : v 5 = _ := hd.out 5 (by kernel_rfl)
                  obtain ⟨x1, x2, x3, x4, x5⟩ := HBD.out _ hj.out
                  have hk := hK.out
                  simp only [t5, Act.put, List.setIfInBounds_toArray, List.set_cons_zero, List.set_cons_succ] at hk
                  have HK := Lib.hid hk
                  clear hd hs hk hK
                  go_simp
                  exact HK.out _ _ hj.out (trivial) (show _ = _ from rfl)
                refine ⟨?_, ?_⟩
                · intro v w' hj hd hs K hK
                  have t1 : v 1 = _ := hd.out 1 (by kernel_rfl)
                  have t6 : v 6 = _ := hd.out 6 (by kernel_rfl)
                  have hk := hK.out
                  simp only [t1, t6, Act.put, List.setIfInBounds_toArray, List.set_cons_zero, List.set_cons_succ] at hk
                  have HK := Lib.hid hk
                  clear hd hs hk hK
                  go_simp
                  refine (HC1.out _ hj.out).mono ?_
                  rintro e w2 ⟨rfl, h2⟩
                  exact HK.out _ _ h2 trivial (show _ = _ from rfl)
                refine ⟨?_, ?_⟩
                · intro v w' hj hd hs K hK
                  obtain ⟨x1, x2, x3, x4, x5⟩ := HBD.out _ hj.out
                  have hk := hK.out
                  simp only [Act.put, List.setIfInBounds_toArray, List.set_cons_zero, List.set_cons_succ] at hk
                  have HK := Lib.hid hk
                  clear hd hs hk hK
                  go_simp
                  exact HK.out _ _ hj.out (trivial) (show _ = _ from rfl)
                refine ⟨?_, ?_⟩
                · intro v w' hj hd hs K hK
                  obtain ⟨x1, x2, x3, x4, x5⟩ := HBD.out _ hj.out
                  have hk := hK.out
                  simp only [Act.put, List.setIfInBounds_toArray, List.set_cons_zero, List.set_cons_succ] at hk
                  have HK := Lib.hid hk
                  clear hd hs hk hK
                  go_simp
                  exact HK.out _ _ hj.out (trivial) (show _ = _ from rfl)
                refine ⟨?_, ?_⟩
                · intro v w' hj hd hs K hK
                  have hk := hK.out
                  simp only [Act.put, List.setIfInBounds_toArray, List.set_cons_zero, List.set_cons_succ] at hk
                  have HK := Lib.hid hk
                  clear hd hs hk hK
                  go_simp
                  exact HK.out _ _ hj.out (trivial) (show _ = _ from rfl)
                refine ⟨?_, ?_⟩
                · intro v w' hj hd hs K hK
                  have t9 : v 9 = _ := hd.out 9 (by kernel_rfl)
                  have t10 : v 10 = _ := hd.out 10 (by kernel_rfl)
                  have hk := hK.out
                  simp only [t9, t10, Act.put, List.setIfInBounds_toArray, List.set_cons_zero, List.set_cons_succ] at hk
                  have HK := Lib.hid hk
                  clear hd hs hk hK
                  go_simp
                  exact HK.out _ _ hj.out (trivial) (show _ = _ from rfl)
                refine ⟨?_, ?_⟩
                · intro v w' hj hd hs K hK
                  have t11 : v 11 = _ := hd.out 11 (by kernel_rfl)
                  have hk := hK.out
                  simp only [t11, Act.put, List.setIfInBounds_toArray, List.set_cons_zero, List.set_cons_succ] at hk
                  have HK := Lib.hid hk
                  clear hd hs hk hK
                  go_simp
                  exact HK.out _ _ hj.out (trivial) (show _ = _ from rfl)
                refine ⟨?_, ?_⟩
                · intro v w' hj hd hs K hK
                  have t12 : v 12 = _ := hd.out 12 (by kernel_rfl)
                  obtain ⟨x1, x2, x3, x4, x5⟩ := HBD.out _ hj.out
                  have hk := hK.out
                  simp only [t12, Act.put, List.setIfInBounds_toArray, List.set_cons_zero, List.set_cons_succ] at hk
                  have HK := Lib.hid hk
                  clear hd hs hk hK
                  go_simp
                  exact HK.out _ _ hj.out (trivial) (show _ = _ from rfl)
                refine ⟨?_, ?_⟩
                · intro v w' hj hd hs K hK
                  have t8 : v 8 = _ := hd.out 8 (by kernel_rfl)
                  have t13 : v 13 = _ := hd.out 13 (by kernel_rfl)
                  have hk := hK.out
                  simp only [t8, t13, Act.put, List.setIfInBounds_toArray, List.set_cons_zero, List.set_cons_succ] at hk
                  have HK := Lib.hid hk
                  clear hd hs hk hK
                  go_simp
                  refine (HC2.out _ hj.out).mono ?_
                  rintro e w2 ⟨rfl, h2⟩
                  exact HK.out _ _ h2 trivial (show _ = _ from rfl)
                refine ⟨?_, ?_⟩
                · intro v w' hj hd hs K hK
                  have t0 : v 0 = _ := hd.out 0 (by kernel_rfl)
                  have hk := hK.out
                  simp only [t0, Act.put, List.setIfInBounds_toArray, List.set_cons_zero, List.set_cons_succ] at hk
                  have HK := Lib.hid hk
                  clear hd hs hk hK
                  go_simp
                  exact HK.out _ _ hj.out (trivial) (show _ = _ from rfl)
                refine ⟨?_, ?_⟩
                · intro v w' hj hd hs K hK
                  have t15 : v 15 = _ := hd.out 15 (by kernel_rfl)
                  have hk := hK.out
                  simp only [t15, Act.put, List.setIfInBounds_toArray, List.set_cons_zero, List.set_cons_succ] at hk
                  have HK := Lib.hid hk
                  clear hd hs hk hK
                  go_simp
                  exact HK.out _ _ hj.out (trivial) (show _ = _ from rfl)
                refine ⟨?_, ?_⟩
                · intro v w' hj hd hs K hK
                  have t0 : v 0 = _ := hd.out 0 (by kernel_rfl)
                  have hk := hK.out
                  simp only [t0, Act.put, List.setIfInBounds_toArray, List.set_cons_zero, List.set_cons_succ] at hk
                  have HK := Lib.hid hk
                  clear hd hs hk hK
                  go_simp
                  exact HK.out _ _ hj.out (trivial) (show _ = _ from rfl)
                refine ⟨?_, ?_⟩
                · intro v w' hj hd hs K hK
                  have t7 : v 7 = _ := hd.out 7 (by kernel_rfl)
                  have t14 : v 14 = _ := hd.out 14 (by kernel_rfl)
                  have t17 : v 17 = _ := hd.out 17 (by kernel_rfl)
                  have mm := fun w => m_plus bs w
                  have hk := hK.out
                  simp only [t7, t14, t17, Act.put, List.setIfInBounds_toArray, List.set_cons_zero, List.set_cons_succ] at hk
                  have HK := Lib.hid hk
                  clear hd hs hk hK
                  go_simp
                  refine (plus_trust bs _ _ _).mono ?_
                  rintro e w2 ⟨rfl, rfl⟩
                  exact HK.out _ _ hj.out trivial (show _ = _ from rfl)
                refine ⟨?_, ?_⟩
                · intro v w' hj hd hs K hK
                  have t18 : v 18 = _ := hd.out 18 (by kernel_rfl)
                  have hk := hK.out
                  simp only [t18, Act.put, List.setIfInBounds_toArray, List.set_cons_zero, List.set_cons_succ] at hk
                  have HK := Lib.hid hk
                  clear hd hs hk hK
                  go_simp
                  exact HK.out _ _ hj.out (trivial) (show _ = _ from rfl)
                trivial
              case hend =>
                intro vv w2 hj hd
                have t19 : vv 19 = _ := hd.out 19 (of_decide_eq_true (by kernel_rfl))
                simp only [t19]
                have hT := hj.out
                obtain ⟨k0, _, _, _⟩ := hT.cells
                obtain ⟨hM2, ap2, n2, f2, km2, kn2, hj2⟩ := hT
                have hle2 := kn2.le
                have HA2 := Lib.hid ap2
                have HM2 := Lib.hid hM2
                have HK2 := Lib.hid kn2
                have HJ2 := Lib.hid hj2
                clear hd hj t19 ap2 hM2 kn2 hj2
                go_wp2_with (first | (at_mapUpdate; refine wpList_fmap_update _ rfl _ _ _ 73 rfl km2 int_enc bool_enc Tryz.underlying73 (by unfold maxLen; omega) rfl (i : Int) rfl (i64_nat (by omega)) (x || y) rfl ?_; intro w9 hk9 g9))
                go_ret
                exact tval_done hi HM2.out km2 HK2.out HA2.out HF.out HJ2.out hk9 g9 HV.out
            · rw [if_neg h3] at hvv
              have t1 : (v.o == 1) = false := by simp; omega
              have t2 : (v.o == 2) = false := by simp; omega
              have t3 : (v.o == 3) = false := by simp; omega
              have t4 : (v.o == 4) = true := by simp; omega
              have HV := Lib.hid (show (x && y) = (Cx.values (trusted l without) l).getD i false from hvv.symm)
              clear h0 h1 h2 hval hkind e1 hf hM kn hvv h34 h3
              go_enter Tryz.func51, Tryz.ntmps51
              go_wp2_with fail
              refine (zero_trust bs _).mono ?_
              rintro e w1 ⟨rfl, rfl⟩
              go_wp2_with fail
              clear r0 c0 y0 y1 y2 k0 q0
              refine' wp_region_each _ (TState w Bk Br Bc Bv bm bs (some ⟨g, o, none⟩) c l without ns fs i f) (fun _ _ : World => True) (Vl :: Vl :: Vl :: Vl :: Vl :: Vl :: Vl :: Vl :: Vl :: Vl :: Vl :: Vl :: Vl :: Vl :: Vl :: Vl :: Vl :: Vl :: Vl :: Vl :: []) ?hF (by kernel_rfl) (by kernel_rfl) (by kernel_rfl) (HST.out) (lasting_cons (lasting_vl) (lasting_cons (lasting_vl) (lasting_cons (lasting_vl) (lasting_cons (lasting_vl) (lasting_cons (lasting_vl) (lasting_cons (lasting_vl) (lasting_cons (lasting_vl) (lasting_cons (lasting_vl) (lasting_cons (lasting_vl) (lasting_cons (lasting_vl) (lasting_cons (lasting_vl) (lasting_cons (lasting_vl) (lasting_cons (lasting_vl) (lasting_cons (lasting_vl) (lasting_cons (lasting_vl) (lasting_cons (lasting_vl) (lasting_cons (lasting_vl) (lasting_cons (lasting_vl) (lasting_cons (lasting_vl) (lasting_cons (lasting_vl) (lasting_none))))))))))))))))))))) ?hops ?hend
              case hF => (intro v; simp only [over, Act.put, List.setIfInBounds_toArray, List.set_cons_zero, List.set_cons_succ, Nat.zero_add, Nat.reduceAdd]; exact rfl)
              case hops =>
                refine ⟨?_, ?_⟩
                · intro v w' hj hd hs K hK
                  obtain ⟨x1, x2, x3, x4, x5⟩ := HBD.out _ hj.out
                  have hk := hK.out
                  simp only [Act.put, List.setIfInBounds_toArray, List.set_cons_zero, List.set_cons_succ] at hk
                  have HK := Lib.hid hk
                  clear hd hs hk hK
                  go_simp
                  exact HK.out _ _ hj.out (trivial) (show _ = _ from rfl)
                refine ⟨?_, ?_⟩
                · intro v w' hj hd hs K hK
                  obtain ⟨x1, x2, x3, x4, x5⟩ := HBD.out _ hj.out
                  have hk := hK.out
                  simp only [Act.put, List.setIfInBounds_toArray, List.set_cons_zero, List.set_cons_succ] at hk
                  have HK := Lib.hid hk
                  clear hd hs hk hK
                  go_simp
                  exact HK.out _ _ hj.out (trivial) (show _ = _ from rfl)
                refine ⟨?_, ?_⟩
                · intro v w' hj hd hs K hK
                  obtain ⟨x1, x2, x3, x4, x5⟩ := HBD.out _ hj.out
                  have hk := hK.out
                  simp only [Act.put, List.setIfInBounds_toArray, List.set_cons_zero, List.set_cons_succ] at hk
                  have HK := Lib.hid hk
                  clear hd hs hk hK
                  go_simp
                  exact HK.out _ _ hj.out (trivial) (show _ = _ from rfl)
                refine ⟨?_, ?_⟩
                · intro v w' hj hd hs K hK
                  have hk := hK.out
                  simp only [Act.put, List.setIfInBounds_toArray, List.set_cons_zero, List.set_cons_succ] at hk
                  have HK := Lib.hid hk
                  clear hd hs hk hK
                  go_simp
                  exact HK.out _ _ hj.out (trivial) (show _ = _ from rfl)
                refine ⟨?_, ?_⟩
                · intro v w' hj hd hs K hK
                  have t2 : v 2 = _ := hd.out 2 (by kernel_rfl)
                  have t3 : v 3 = _ := hd.out 3 (by kernel_rfl)
                  have hk := hK.out
                  simp only [t2, t3, Act.put, List.setIfInBounds_toArray, List.set_cons_zero, List.set_cons_succ] at hk
                  have HK := Lib.hid hk
                  clear hd hs hk hK
                  go_simp
                  exact HK.out _ _ hj.out (trivial) (show _ = _ from rfl)
                refine ⟨?_, ?_⟩
                · intro v w' hj hd hs K hK
                  have t4 : v 4 = _ := hd.out 4 (by kernel_rfl)
                  have hk := hK.out
                  simp only [t4, Act.put, List.setIfInBounds_toArray, List.set_cons_zero, List.set_cons_succ] at hk
                  have HK := Lib.hid hk
                  clear hd hs hk hK
                  go_simp
                  exact HK.out _ _ hj.out (trivial) (show _ = _ from rfl)
                refine ⟨?_, ?_⟩
                · intro v w' hj hd hs K hK
                  have t5 : v 5 = _ := hd.out 5 (by kernel_rfl)
                  obtain ⟨x1, x2, x3, x4, x5⟩ := HBD.out _ hj.out
                  have hk := hK.out
                  simp only [t5, Act.put, List.setIfInBounds_toArray, List.set_cons_zero, List.set_cons_succ] at hk
                  have HK := Lib.hid hk
                  clear hd hs hk hK
                  go_simp
                  exact HK.out _ _ hj.out (trivial) (show _ = _ from rfl)
                refine ⟨?_, ?_⟩
                · intro v w' hj hd hs K hK
                  have t1 : v 1 = _ := hd.out 1 (by kernel_rfl)
                  have t6 : v 6 = _ := hd.out 6 (by kernel_rfl)
                  have hk := hK.out
                  simp only [t1, t6, Act.put, List.setIfInBounds_toArray, List.set_cons_zero, List.set_cons_succ] at hk
                  have HK := Lib.hid hk
                  clear hd hs hk hK
                  go_simp
                  refine (HC1.out _ hj.out).mono ?_
                  rintro e w2 ⟨rfl, h2⟩
                  exact HK.out _ _ h2 trivial (show _ = _ from rfl)
                refine ⟨?_, ?_⟩
                · intro v w' hj hd hs K hK
                  obtain ⟨x1, x2, x3, x4, x5⟩ := HBD.out _ hj.out
                  have hk := hK.out
                  simp only [Act.put, List.setIfInBounds_toArray, List.set_cons_zero, List.set_cons_succ] at hk
                  have HK := Lib.hid hk
                  clear hd hs hk hK
                  go_simp
                  exact HK.out _ _ hj.out (trivial) (show _ = _ from rfl)
                refine ⟨?_, ?_⟩
                · intro v w' hj hd hs K hK
                  obtain ⟨x1, x2, x3, x4, x5⟩ := HBD.out _ hj.out
                  have hk := hK.out
                  simp only [Act.put, List.setIfInBounds_toArray, List.set_cons_zero, List.set_cons_succ] at hk
                  have HK := Lib.hid hk
                  clear hd hs hk hK
                  go_simp
                  exact HK.out _ _ hj.out (trivial) (show _ = _ from rfl)
                refine ⟨?_, ?_⟩
                · intro v w' hj hd hs K hK
                  have hk := hK.out
                  simp only [Act.put, List.setIfInBounds_toArray, List.set_cons_zero, List.set_cons_succ] at hk
                  have HK := Lib.hid hk
                  clear hd hs hk hK
                  go_simp
                  exact HK.out _ _ hj.out (trivial) (show _ = _ from rfl)
                refine ⟨?_, ?_⟩
                · intro v w' hj hd hs K hK
                  have t9 : v 9 = _ := hd.out 9 (by kernel_rfl)
                  have t10 : v 10 = _ := hd.out 10 (by kernel_rfl)
                  have hk := hK.out
                  simp only [t9, t10, Act.put, List.setIfInBounds_toArray, List.set_cons_zero, List.set_cons_succ] at hk
                  have HK := Lib.hid hk
                  clear hd hs hk hK
                  go_simp
                  exact HK.out _ _ hj.out (trivial) (show _ = _ from rfl)
                refine ⟨?_, ?_⟩
                · intro v w' hj hd hs K hK
                  have t11 : v 11 = _ := hd.out 11 (by kernel_rfl)
                  have hk := hK.out
                  simp only [t11, Act.put, List.setIfInBounds_toArray, List.set_cons_zero, List.set_cons_succ] at hk
                  have HK := Lib.hid hk
                  clear hd hs hk hK
                  go_simp
                  exact HK.out _ _ hj.out (trivial) (show _ = _ from rfl)
                refine ⟨?_, ?_⟩
                · intro v w' hj hd hs K hK
                  have t12 : v 12 = _ := hd.out 12 (by kernel_rfl)
                  obtain ⟨x1, x2, x3, x4, x5⟩ := HBD.out _ hj.out
                  have hk := hK.out
                  simp only [t12, Act.put, List.setIfInBounds_toArray, List.set_cons_zero, List.set_cons_succ] at hk
                  have HK := Lib.hid hk
                  clear hd hs hk hK
                  go_simp
                  exact HK.out _ _ hj.out (trivial) (show _ = _ from rfl)
                refine ⟨?_, ?_⟩
                · intro v w' hj hd hs K hK
                  have t8 : v 8 = _ := hd.out 8 (by kernel_rfl)
                  have t13 : v 13 = _ := hd.out 13 (by kernel_rfl)
                  have hk := hK.out
                  simp only [t8, t13, Act.put, List.setIfInBounds_toArray, List.set_cons_zero, List.set_cons_succ] at hk
                  have HK := Lib.hid hk
                  clear hd hs hk hK
                  go_simp
                  refine (HC2.out _ hj.out).mono ?_
                  rintro e w2 ⟨rfl, h2⟩
                  exact HK.out _ _ h2 trivial (show _ = _ from rfl)
                refine ⟨?_, ?_⟩
                · intro v w' hj hd hs K hK
                  have t0 : v 0 = _ := hd.out 0 (by kernel_rfl)
                  have hk := hK.out
                  simp only [t0, Act.put, List.setIfInBounds_toArray, List.set_cons_zero, List.set_cons_succ] at hk
                  have HK := Lib.hid hk
                  clear hd hs hk hK
                  go_simp
                  exact HK.out _ _ hj.out (trivial) (show _ = _ from rfl)
                refine ⟨?_, ?_⟩
                · intro v w' hj hd hs K hK
                  have t15 : v 15 = _ := hd.out 15 (by kernel_rfl)
                  have hk := hK.out
                  simp only [t15, Act.put, List.setIfInBounds_toArray, List.set_cons_zero, List.set_cons_succ] at hk
                  have HK := Lib.hid hk
                  clear hd hs hk hK
                  go_simp
                  exact HK.out _ _ hj.out (trivial) (show _ = _ from rfl)
                refine ⟨?_, ?_⟩
                · intro v w' hj hd hs K hK
                  have t0 : v 0 = _ := hd.out 0 (by kernel_rfl)
                  have hk := hK.out
                  simp only [t0, Act.put, List.setIfInBounds_toArray, List.set_cons_zero, List.set_cons_succ] at hk
                  have HK := Lib.hid hk
                  clear hd hs hk hK
                  go_simp
                  exact HK.out _ _ hj.out (trivial) (show _ = _ from rfl)
                refine ⟨?_, ?_⟩
                · intro v w' hj hd hs K hK
                  have t7 : v 7 = _ := hd.out 7 (by kernel_rfl)
                  have t14 : v 14 = _ := hd.out 14 (by kernel_rfl)
                  have t17 : v 17 = _ := hd.out 17 (by kernel_rfl)
                  have mm := fun w => m_times bs w
                  have hk := hK.out
                  simp only [t7, t14, t17, Act.put, List.setIfInBounds_toArray, List.set_cons_zero, List.set_cons_succ] at hk
                  have HK := Lib.hid hk
                  clear hd hs hk hK
                  go_simp
                  refine (times_trust bs _ _ _).mono ?_
                  rintro e w2 ⟨rfl, rfl⟩
                  exact HK.out _ _ hj.out trivial (show _ = _ from rfl)
                refine ⟨?_, ?_⟩
                · intro v w' hj hd hs K hK
                  have t18 : v 18 = _ := hd.out 18 (by kernel_rfl)
                  have hk := hK.out
                  simp only [t18, Act.put, List.setIfInBounds_toArray, List.set_cons_zero, List.set_cons_succ] at hk
                  have HK := Lib.hid hk
                  clear hd hs hk hK
                  go_simp
                  exact HK.out _ _ hj.out (trivial) (show _ = _ from rfl)
                trivial
              case hend =>
                intro vv w2 hj hd
                have t19 : vv 19 = _ := hd.out 19 (of_decide_eq_true (by kernel_rfl))
                simp only [t19]
                have hT := hj.out
                obtain ⟨k0, _, _, _⟩ := hT.cells
                obtain ⟨hM2, ap2, n2, f2, km2, kn2, hj2⟩ := hT
                have hle2 := kn2.le
                have HA2 := Lib.hid ap2
                have HM2 := Lib.hid hM2
                have HK2 := Lib.hid kn2
                have HJ2 := Lib.hid hj2
                clear hd hj t19 ap2 hM2 kn2 hj2
                go_wp2_with (first | (at_mapUpdate; refine wpList_fmap_update _ rfl _ _ _ 73 rfl km2 int_enc bool_enc Tryz.underlying73 (by unfold maxLen; omega) rfl (i : Int) rfl (i64_nat (by omega)) (x && y) rfl ?_; intro w9 hk9 g9))
                go_ret
                exact tval_done hi HM2.out km2 HK2.out HA2.out HF.out HJ2.out hk9 g9 HV.out
end Go.Proofs.YtphmicbpkljmfaaGreat
