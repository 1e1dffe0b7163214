/- The walk of the evaluation in the ring of families. -/
import Derived.Test.YtphmicbpkljmfaaGreatSTrust
import Derived.Test.YtphmicbpkljmfaaGreatSTimes
namespace Go.Proofs.YtphmicbpkljmfaaGreat
set_option linter.unusedVariables false
set_option linter.unusedSimpArgs false
open Go.RowKit
open Cx (N fam Few)
/-- A slice's header. -/
abbrev Hr := Option (Nat × Nat) × Nat × Nat
def hmk : Hr → Value
  | (none, n, c) => .slice none n c
  | (some (g, o), n, c) => .slice (some ⟨g, o, none⟩) n c
def hdat : Hr → DataW Unit
  | (none, n, c) => .agg [.lit (.int .i64 n), .lit (.int .i64 c)]
  | (some (g, o), n, c) => .agg [.lit (.int .i64 n), .lit (.int .i64 c), .lit (.int .i64 g), .lit (.int .i64 o)]
def hread : Value → Option (DataW Unit × List MemPlace)
  | .slice none n c => some (hdat (none, n, c), [])
  | .slice (some ⟨g, o, none⟩) n c => some (hdat (some (g, o), n, c), [])
  | _ => none
theorem hdat_inj : ∀ a b : Hr, hdat a = hdat b → a = b
  | (none, n, c), (none, n', c'), h => by simp [hdat] at h; simp; omega
  | (none, n, c), (some (g, o), n', c'), h => by simp [hdat] at h
  | (some (g, o), n, c), (none, n', c'), h => by simp [hdat] at h
  | (some (g, o), n, c), (some (g', o'), n', c'), h => by simp [hdat] at h; simp; omega
theorem hread_mk : ∀ h : Hr, hread (hmk h) = some (hdat h, [])
  | (none, _, _) => rfl
  | (some (_, _), _, _) => rfl
theorem henc : EEnc hread hmk hdat := by
  refine ⟨hread_mk, fun v a ps h => ?_⟩
  have key : ∃ b : Hr, v = hmk b ∧ hread v = some (hdat b, []) := by
    cases v with
    | slice A n c =>
      cases A with
      | none => exact ⟨(none, n, c), rfl, rfl⟩
      | some ad =>
        obtain ⟨g, o, sp⟩ := ad
        cases sp with
        | none => exact ⟨(some (g, o), n, c), rfl, rfl⟩
        | some _ => simp [hread] at h
    | _ => simp [hread] at h
  obtain ⟨b, e1, e2⟩ := key
  rw [e2] at h
  have h2 := Option.some.inj h
  injection h2 with h3 _
  rw [e1, hdat_inj b a h3]
theorem FamV.hdr {w : World} {v : Value} {F : List (List Int)} (h : FamV w v F) : ∃ k, v = hmk k := by
  obtain ⟨A, c, rfl, _, _, ⟨_, h4⟩, _⟩ := h
  cases A with
  | none => exact ⟨(none, F.length, c), rfl⟩
  | some ad =>
    obtain ⟨g, o, sp⟩ := ad
    have : sp = none := h4 _ rfl
    subst this
    exact ⟨(some (g, o), F.length, c), rfl⟩
/-- A map of numbers to headers. -/
abbrev HMap (w : World) (b n : Nat) (f : Int → Option Hr) : Prop := FMap w Tryz.prog 3 hread ival hdat b n f
theorem zero_family (w : World) : (zeroValue 50).run Tryz.prog w = .ok (hmk (none, 0, 0)) w := by kernel_rfl
theorem mf_zero (b : Nat) (w : World) : (method 245 80 (.pointer (some ⟨b, 0, none⟩)) "porism/semiring.zero").run Tryz.prog w = .ok (111, .pointer (some ⟨b, 0, none⟩)) w := by kernel_rfl
theorem mf_one (b : Nat) (w : World) : (method 245 80 (.pointer (some ⟨b, 0, none⟩)) "porism/semiring.one").run Tryz.prog w = .ok (107, .pointer (some ⟨b, 0, none⟩)) w := by kernel_rfl
theorem mf_plus (b : Nat) (w : World) : (method 245 80 (.pointer (some ⟨b, 0, none⟩)) "porism/semiring.plus").run Tryz.prog w = .ok (108, .pointer (some ⟨b, 0, none⟩)) w := by kernel_rfl
theorem mf_times (b : Nat) (w : World) : (method 245 80 (.pointer (some ⟨b, 0, none⟩)) "porism/semiring.times").run Tryz.prog w = .ok (109, .pointer (some ⟨b, 0, none⟩)) w := by kernel_rfl
theorem mf_variable (b : Nat) (w : World) : (method 245 80 (.pointer (some ⟨b, 0, none⟩)) "porism/semiring.variable").run Tryz.prog w = .ok (110, .pointer (some ⟨b, 0, none⟩)) w := by kernel_rfl
/-- A value that says the family of node k, unless one was too large. -/
def FT (bf : Nat) (l : List N) (X : List Int) (k : Nat) : Value → World → Prop := fun x w =>
  ∃ h F fl, x = hmk h ∧ At w bf 82 #[.bool fl] ∧ FamS w x F X ∧ (fl = false → F = fam l k ∧ Few l k)
/-- A value that says one variable. -/
def FV (X : List Int) (n : Int) : Value → World → Prop := fun x w => ∃ h, x = hmk h ∧ FamS w x [[n]] X
theorem lasting_FV {J : World → Prop} {X : List Int} {n : Int} : Lasting J Onward (FV X n) := fun x w w' _ hb ⟨h, e, q⟩ => ⟨h, e, q.below hb⟩
theorem flag_one {w : World} {bf : Nat} {t : TypeId} {a b : Bool} (h1 : At w bf t #[.bool a]) (h2 : At w bf t #[.bool b]) : b = a := by
  unfold At at h1 h2
  rw [h1] at h2
  simp at h2
  exact h2.symm
/-- Before and behind an operation: all lies but the map and the flag; a flag that is set stays. -/
def FR (bm bf : Nat) (w w' : World) : Prop := Apart w.heap.size [bm, bf] w w' ∧ OddAll w [bm, bf] ∧ ∃ fl fl', At w bf 82 #[.bool fl] ∧ At w' bf 82 #[.bool fl'] ∧ (fl = true → fl' = true)
theorem lasting_FT {J : World → Prop} {bm bf : Nat} {l : List N} {X : List Int} {k : Nat} : Lasting J (FR bm bf) (FT bf l X k) := by
  rintro x w w' _ ⟨ha, ho, fl, fl', h1, h2, h3⟩ ⟨h, F, fl2, e, h4, h5, h6⟩
  obtain rfl := flag_one h1 h4
  refine ⟨h, F, fl', e, h2, h5.apart ha ho, fun h => h6 ?_⟩
  cases fl2 with
  | false => rfl
  | true => rw [h3 rfl] at h; cases h
/-- What is known of the families. -/
structure KnownF (w : World) (fl : Bool) (l : List N) (X : List Int) (n : Nat) (f : Int → Option Hr) : Prop where
  ok : ∀ j h, f j = some h → ∃ (k : Nat) (F : List (List Int)), j = k ∧ k < l.length ∧ FamS w (hmk h) F X ∧ (fl = false → F = fam l k ∧ Few l k)
  few : n ≤ ((List.range l.length).filter fun k : Nat => (f (k : Int)).isSome).length
theorem KnownF.le {w : World} {fl : Bool} {l : List N} {X : List Int} {n : Nat} {f : Int → Option Hr} (h : KnownF w fl l X n f) : n ≤ l.length := by
  have h1 := h.few
  have h2 := List.length_filter_le (fun k : Nat => (f (k : Int)).isSome) (List.range l.length)
  simp at h2
  omega
theorem KnownF.next {w w' : World} {fl fl' : Bool} {l : List N} {X : List Int} {n : Nat} {f : Int → Option Hr} {S : List Nat} (h : KnownF w fl l X n f) (ha : Apart w.heap.size S w w') (ho : OddAll w S) (hf : fl = true → fl' = true) : KnownF w' fl' l X n f := by
  refine ⟨fun j k hj => ?_, h.few⟩
  obtain ⟨i, F, e, hi, hF, hv⟩ := h.ok j k hj
  refine ⟨i, F, e, hi, hF.apart ha ho, fun e' => hv ?_⟩
  cases fl with
  | false => rfl
  | true => rw [hf rfl] at e'; cases e'
theorem KnownF.more {w : World} {fl : Bool} {l : List N} {X : List Int} {n : Nat} {f : Int → Option Hr} (h : KnownF w fl l X n f) {i : Nat} (hi : i < l.length) (hf : f i = none) {b : Hr} {F : List (List Int)} (hb : FamS w (hmk b) F X) (hv : fl = false → F = fam l i ∧ Few l i) : KnownF w fl l X (n + 1) (fun y => if y = (i : Int) then some b else f y) := by
  refine ⟨fun j b' hj => ?_, few_more h.few hi hf b⟩
  have hj' : (if j = (i : Int) then some b else f j) = some b' := hj
  by_cases e : j = (i : Int)
  · rw [if_pos e] at hj'; obtain rfl := Option.some.inj hj'; exact ⟨i, F, e, hi, hb, hv⟩
  · rw [if_neg e] at hj'; exact h.ok j b' hj'
/-- The memory of the closure, but for what is known and the flag. -/
structure FMem (w : World) (Bk Br Bc Bv bm bf : Nat) (A : Option Addr) (c : Nat) (l : List N) : Prop where
  k : At w Bk 94 #[.map (some bm)]
  r : At w Br 93 #[.iface 80 (.pointer (some ⟨bf, 0, none⟩))]
  c : At w Bc 23 #[.slice A l.length c]
  v : At w Bv 95 #[.func (.func 66) #[] #[.pointer (some ⟨Bk, 0, none⟩), .pointer (some ⟨Br, 0, none⟩), .pointer (some ⟨Bc, 0, none⟩), .pointer (some ⟨Bv, 0, none⟩)]]
  circ : Circ w A l
section
variable {w w' : World} {Bk Br Bc Bv bm bf : Nat} {A : Option Addr} {c : Nat} {l : List N} {X : List Int}
theorem odd_two {n : Nat} {f : Int → Option Hr} {fl : Bool} (km : HMap w bm n f) (hf : At w bf 82 #[.bool fl]) : OddAll w [bm, bf] := by
  obtain ⟨es, k, hm⟩ := km.obj
  intro g hg
  simp at hg
  rcases hg with rfl | rfl
  · exact odd_map hm
  · exact odd_flag hf
theorem At.off2 {g : Nat} {t : TypeId} {cs : Array Value} {n : Nat} {f : Int → Option Hr} {fl : Bool} (h : At w g t cs) (hne : t ≠ 82) (km : HMap w bm n f) (hf : At w bf 82 #[.bool fl]) (ha : Apart w.heap.size [bm, bf] w w') : At w' g t cs := by
  obtain ⟨es, k, hm⟩ := km.obj
  refine h.apart ha h.lt (fun hs => ?_)
  simp at hs
  rcases hs with hs | hs
  · exact h.not_map hm (by rw [hs])
  · exact h.ne hf hne hs
theorem FMem.apart {n : Nat} {f : Int → Option Hr} {fl : Bool} (h : FMem w Bk Br Bc Bv bm bf A c l) (km : HMap w bm n f) (hf : At w bf 82 #[.bool fl]) (ha : Apart w.heap.size [bm, bf] w w') : FMem w' Bk Br Bc Bv bm bf A c l :=
  ⟨h.k.off2 (by decide) km hf ha, h.r.off2 (by decide) km hf ha, h.c.off2 (by decide) km hf ha, h.v.off2 (by decide) km hf ha, h.circ.apart ha (odd_two km hf)⟩
theorem map_ne_flag {n : Nat} {f : Int → Option Hr} {fl : Bool} (km : HMap w bm n f) (hf : At w bf 82 #[.bool fl]) : bf ≠ bm := fun e => by
  obtain ⟨es, k, hm⟩ := km.obj
  exact hf.not_map hm (by rw [e])
/-- A world on the way: the memory, what is known, and what differs from w0. -/
structure FState (w0 : World) (Bk Br Bc Bv bm bf : Nat) (A : Option Addr) (c : Nat) (l : List N) (X : List Int) (i : Nat) (P : Prop) (f0 : Int → Option Hr) (fl0 : Bool) (w : World) : Prop where
  mem : FMem w Bk Br Bc Bv bm bf A c l
  ap : Apart w0.heap.size [bm, bf] w0 w
  ex : ∃ fl n f, At w bf 82 #[.bool fl] ∧ HMap w bm n f ∧ KnownF w fl l X n f ∧ (∀ j : Int, (i : Int) ≤ j → f j = f0 j) ∧ (fl0 = true → fl = true) ∧ (fl = true → fl0 = true ∨ P)
theorem FState.cells {w0 : World} {i : Nat} {P : Prop} {f0 : Int → Option Hr} {fl0 : Bool} (h : FState w0 Bk Br Bc Bv bm bf A c l X i P f0 fl0 w) : w.cell? ⟨Bk, 0, none⟩ = some (.map (some bm)) ∧ w.cell? ⟨Br, 0, none⟩ = some (.iface 80 (.pointer (some ⟨bf, 0, none⟩))) ∧ w.cell? ⟨Bc, 0, none⟩ = some (.slice A l.length c) ∧ w.cell? ⟨Bv, 0, none⟩ = some (.func (.func 66) #[] #[.pointer (some ⟨Bk, 0, none⟩), .pointer (some ⟨Br, 0, none⟩), .pointer (some ⟨Bc, 0, none⟩), .pointer (some ⟨Bv, 0, none⟩)]) := by
  have h1 := h.mem.k.cell 0
  have h2 := h.mem.r.cell 0
  have h3 := h.mem.c.cell 0
  have h4 := h.mem.v.cell 0
  simp at h1 h2 h3 h4
  exact ⟨h1, h2, h3, h4⟩
theorem FState.refl {w0 : World} {i : Nat} {P : Prop} {f0 : Int → Option Hr} {fl0 : Bool} (h : FState w0 Bk Br Bc Bv bm bf A c l X i P f0 fl0 w) : FR bm bf w w := by
  obtain ⟨fl, n, f, h1, h2, _⟩ := h.ex
  exact ⟨Apart.refl _ _ _, odd_two h2 h1, fl, fl, h1, h1, fun h => h⟩
theorem FState.trans {w0 w1 w2 : World} {i j n : Nat} {P Q : Prop} {f0 f1 : Int → Option Hr} {fl0 fl1 : Bool} (h1 : Apart w0.heap.size [bm, bf] w0 w1) (hf : ∀ k : Int, (i : Int) ≤ k → f1 k = f0 k) (hfl : fl0 = true → fl1 = true) (hP : fl1 = true → fl0 = true ∨ P) (hQ : Q → P) (km : HMap w1 bm n f1) (hf1 : At w1 bf 82 #[.bool fl1])
    (h2 : FState w1 Bk Br Bc Bv bm bf A c l X j Q f1 fl1 w2) (hij : j ≤ i) : FState w0 Bk Br Bc Bv bm bf A c l X i P f0 fl0 w2 ∧ FR bm bf w1 w2 := by
  obtain ⟨m, a, fl, n, f, h3, h4, h5, h6, h7, h8⟩ := h2
  refine ⟨⟨m, h1.trans (a.mono h1.size), fl, n, f, h3, h4, h5, fun k hk => (h6 k (by omega)).trans (hf k hk), fun h => h7 (hfl h), fun h => ?_⟩, a, odd_two km hf1, fl1, fl, hf1, h3, h7⟩
  rcases h8 h with h | h
  · exact hP h
  · exact Or.inr (hQ h)
end
/-- A node of two operands: what stands at it, and whether some family is too large. -/
structure TwoF (l : List N) (i a b : Nat) (U : List Int → Prop) : Prop where
  eq : ∀ K, Fm.Fam K → (∀ ts, Fm.Up K ts ↔ U ts) → K = fam l i
  few : Few l i ↔ (fam l i).length ≤ 200 ∧ Few l a ∧ Few l b
  up : ∀ ts, U ts ↔ U ts
theorem ring_step {w0 w w' : World} {Bk Br Bc Bv bm bf : Nat} {A : Option Addr} {c : Nat} {l : List N} {X : List Int} {i a b : Nat} {f0 : Int → Option Hr} {fl0 fl : Bool} {U : List (List Int) → List (List Int) → List Int → Prop} {F G : List (List Int)} {e : Ending}
    (hT : TwoF l i a b (U (fam l a) (fam l b))) (h : FState w0 Bk Br Bc Bv bm bf A c l X i (¬ Few l i) f0 fl0 w) (hf : At w bf 82 #[.bool fl]) (ra : fl = false → F = fam l a ∧ Few l a) (rb : fl = false → G = fam l b ∧ Few l b) (hR : RingOut bf fl X (U F G) w e w') :
    ∃ x, e = .returned x ∧ FState w0 Bk Br Bc Bv bm bf A c l X i (¬ Few l i) f0 fl0 w' ∧ FR bm bf w w' ∧ FT bf l X i x w' := by
  obtain ⟨v', K, fl', rfl, s1, s2, s3, s4, s5, s6⟩ := hR
  obtain ⟨m, ap, fl2, n, f, h3, h4, h5, h6, h7, h8⟩ := h
  obtain rfl := flag_one hf h3
  have ha : Apart w.heap.size [bm, bf] w w' := s6.more (fun x hx => by simp at hx; simp [hx])
  have ho := odd_two h4 h3
  have hbad : fl' = true → fl2 = true ∨ ¬ Few l i := fun h => by
    cases hfl : fl2 with
    | true => exact Or.inl rfl
    | false =>
      rcases s5 h with h | ⟨L, l1, l2, l3⟩
      · rw [hfl] at h; cases h
      · refine Or.inr fun hfew => ?_
        rw [(ra hfl).1, (rb hfl).1] at l2
        rw [hT.eq L l1 l2] at l3
        have := (hT.few.1 hfew).1
        omega
  have hm' : HMap w' bm n f := h4.apart s6 h4.lt (by simp; exact (map_ne_flag h4 h3).symm)
  refine ⟨v', rfl, ⟨m.apart h4 h3 ha, ap.trans (ha.mono ap.size), fl', n, f, s2, hm', h5.next ha ho s3, h6, fun h => s3 (h7 h), fun h => ?_⟩, ⟨ha, ho, fl2, fl', h3, s2, s3⟩, ?_⟩
  · rcases hbad h with h | h
    · exact h8 h
    · exact Or.inr h
  · obtain ⟨hh, eh⟩ := s1.mem.hdr
    refine ⟨hh, K, fl', eh, s2, s1, fun h => ?_⟩
    have hfl : fl2 = false := by
      cases hfl : fl2 with
      | false => rfl
      | true => rw [s3 hfl] at h; cases h
    obtain ⟨k1, k2⟩ := s4 h
    rw [(ra hfl).1, (rb hfl).1] at k2
    have hK := hT.eq K k1 k2
    refine ⟨hK, hT.few.2 ⟨?_, (ra hfl).2, (rb hfl).2⟩⟩
    rw [← hK]; exact s1.few
/-- A node's family, and what is known then. -/
def FOut (Bk Br Bc Bv bm bf : Nat) (A : Option Addr) (c : Nat) (l : List N) (X : List Int) (i : Nat) (f : Int → Option Hr) (fl : Bool) (w : World) (e : Ending) (w' : World) : Prop :=
  ∃ x, e = .returned x ∧ FState w Bk Br Bc Bv bm bf A c l X (i + 1) (¬ Few l i) f fl w' ∧ FT bf l X i x w'
theorem fval_done {Bk Br Bc Bv bm bf : Nat} {A : Option Addr} {c : Nat} {l : List N} {X : List Int} {i : Nat} {f f2 : Int → Option Hr} {fl fl2 : Bool} {w W w3 : World} {n2 : Nat} {h : Hr} {F : List (List Int)}
    (hi : i < l.length) (hM : FMem W Bk Br Bc Bv bm bf A c l) (hm : HMap W bm n2 f2) (hk : KnownF W fl2 l X n2 f2) (hf2 : At W bf 82 #[.bool fl2]) (ha : Apart w.heap.size [bm, bf] w W) (hf : f (i : Int) = none) (hj : ∀ j : Int, (i : Int) ≤ j → f2 j = f j) (u1 : fl = true → fl2 = true) (u2 : fl2 = true → fl = true ∨ ¬ Few l i)
    (hk3 : HMap w3 bm (n2 + 1) (fun y => if y = (i : Int) then some h else f2 y)) (g3 : W.grownBy w3 (some bm)) (hF : FamS W (hmk h) F X) (hv : fl2 = false → F = fam l i ∧ Few l i) : FOut Bk Br Bc Bv bm bf A c l X i f fl w (.returned (hmk h)) w3 := by
  have ha3 : Apart W.heap.size [bm, bf] W w3 := apart_of_grown g3 (fun k hk => Or.inl (by injection hk with hk; simp [hk])) (Nat.le_refl _)
  have ho := odd_two hm hf2
  have hf3 : At w3 bf 82 #[.bool fl2] := hf2.grown g3 (fun e => map_ne_flag hm hf2 (by injection e))
  have hF3 := hF.apart ha3 ho
  refine ⟨hmk h, rfl, ⟨hM.apart hm hf2 ha3, ha.trans (ha3.mono ha.size), fl2, n2 + 1, _, hf3, hk3, (hk.next ha3 ho (fun h => h)).more hi (by rw [hj _ (Int.le_refl _), hf]) hF3 hv, fun j h => ?_, u1, u2⟩, h, F, fl2, rfl, hf3, hF3, hv⟩
  show (if j = (i : Int) then some _ else f2 j) = f j
  rw [if_neg (by omega)]; exact hj j (by omega)
/-- The variables of a circuit. -/
def allVars (l : List N) : List Int := (l.filter fun v => decide (v.o = 2)).map fun v => v.a
theorem mem_allVars {l : List N} {v : N} (hv : v ∈ l) (h2 : v.o = 2) : v.a ∈ allVars l := List.mem_map.2 ⟨v, List.mem_filter.2 ⟨hv, by simpa using h2⟩, rfl⟩
theorem allVars_len (l : List N) : (allVars l).length ≤ l.length := by unfold allVars; rw [List.length_map]; exact List.length_filter_le _ _
theorem twoF {l : List N} (hg : Cx.Good l) {i a b : Nat} {v : N} (hv : l[i]? = some v) (h2 : v.o = 3 ∨ v.o = 4) (ha : v.a = a) (hb : v.b = b) (hai : a < i) (hbi : b < i) : TwoF l i a b (fun ts => Fm.Up (if v.o = 3 then fam l a ++ fam l b else Fm.prods (fam l a) (fam l b)) ts) :=
  ⟨fun K hK hu => Cx.fam_two hg hv h2 ha hb hai hbi hK hu, Cx.few_two hv h2 ha hb, fun _ => Iff.rfl⟩
set_option maxHeartbeats 8000000 in
set_option maxRecDepth 100000 in
theorem fvalue_any (Bk Br Bc Bv bm bf : Nat) (A : Option Addr) (c : Nat) (l : List N) (X : List Int) (hXe : X = allVars l) (hg : Cx.Good l) (hF : ∀ n ∈ l, NGood n) (hl : l.length ≤ 20000) (i : Nat) :
    ∀ (fl : Bool) (n : Nat) (f : Int → Option Hr) (w : World), i < l.length → FMem w Bk Br Bc Bv bm bf A c l → At w bf 82 #[.bool fl] → HMap w bm n f → KnownF w fl l X n f →
      Calls Tryz.prog 66 #[.int .i64 (i : Int), .pointer (some ⟨Bk, 0, none⟩), .pointer (some ⟨Br, 0, none⟩), .pointer (some ⟨Bc, 0, none⟩), .pointer (some ⟨Bv, 0, none⟩)] w (FOut Bk Br Bc Bv bm bf A c l X i f fl w) := by
  induction i using Nat.strongRecOn with
  | ind i ih =>
    intro fl n f w hi hM hfl km kn
    have IH := Lib.hid ih
    clear ih
    have k0 := hM.k.cell 0
    simp at k0
    have q0 := km.look_ok (a0 := (none, 0, 0)) int_enc henc Tryz.underlying94 (zero_family _) (i : Int) (i64_nat (by omega))
    simp only [ival] at q0
    have HXL := Lib.hid (show X.length ≤ 20000 by rw [hXe]; exact Nat.le_trans (allVars_len l) hl)
    cases hf : f (i : Int) with
    | some b =>
      obtain ⟨k, F, e, _, hb, hv⟩ := kn.ok _ _ hf
      have e' : k = i := by omega
      subst e'
      rw [hf] at q0
      simp only [Option.getD_some, Option.isSome_some] at q0
      have HV := Lib.hid hv
      clear hf e hv
      go_enter Tryz.func66, Tryz.ntmps66
      go_wp2_with fail
      go_ret
      exact ⟨_, rfl, ⟨hM, Apart.refl _ _ _, fl, n, f, hfl, km, kn, fun _ _ => rfl, fun h => h, fun h => Or.inl h⟩, b, F, fl, rfl, hfl, hb, HV.out⟩
    | none =>
      rw [hf] at q0
      simp only [Option.getD_none, Option.isSome_none] at q0
      have r0 := hM.r.cell 0
      have c0 := hM.c.cell 0
      simp at r0 c0
      have e1 := List.getElem?_eq_getElem hi
      have hgood := hF _ (List.getElem_mem hi)
      have hmem := List.getElem_mem hi
      obtain ⟨g, o, rfl, hgl, y0, y1, y2⟩ := hM.circ.at hi
      generalize l[i] = v at *
      have hkle := kn.le
      have mz := fun w => mf_zero bf w
      have mo := fun w => mf_one bf w
      have i0 : (0 : Int) ≤ (i : Int) := by omega
      have i1 : (i : Int) < (l.length : Int) := by omega
      have hkind := hg.kind hi
      have HF := Lib.hid hf
      have HM := Lib.hid hM
      have HKN := Lib.hid kn
      have HFL := Lib.hid hfl
      have hbfl := hfl.lt
      by_cases h0 : v.o = 0
      · have hv0 : [] = fam l i ∧ Few l i := by
          refine ⟨?_, Cx.few_leaf hg e1 (by omega)⟩
          cases hkind with
          | zero h => exact (Cx.fam_zero hg).symm
          | one h => rw [h] at e1; obtain rfl := Option.some.inj e1; exact absurd h0 (by decide)
          | @var _ v' hv _ h _ _ => rw [e1] at hv; obtain rfl := Option.some.inj hv; omega
          | @two _ v' a b hv _ h _ _ _ _ _ => rw [e1] at hv; obtain rfl := Option.some.inj hv; omega
        have HV := Lib.hid hv0
        have t1 : (v.o == 1) = false := by simp; omega
        have t2 : (v.o == 2) = false := by simp; omega
        have t3 : (v.o == 3) = false := by simp; omega
        have t4 : (v.o == 4) = false := by simp; omega
        clear h0 hkind e1 hf hM kn hv0 hfl
        go_enter Tryz.func66, Tryz.ntmps66
        go_wp2_with fail
        refine (zero_fam bf _).mono ?_
        rintro e w1 ⟨rfl, rfl⟩
        go_wp2_with (first | (at_mapUpdate; refine wpList_fmap_update _ rfl _ _ _ 94 rfl km int_enc henc Tryz.underlying94 (by unfold maxLen; omega) rfl (i : Int) rfl (i64_nat (by omega)) (none, 0, 0) rfl ?_; intro w9 hk9 g9))
        go_ret
        exact fval_done (h := (none, 0, 0)) hi HM.out km HKN.out HFL.out (Apart.refl _ _ _) HF.out (fun _ _ => rfl) (fun h => h) (fun h => Or.inl h) hk9 g9 ⟨famV_nil _, by simp, fun s hs => by cases hs⟩ (fun _ => HV.out)
      · by_cases h1 : v.o = 1
        · have hv0 : [[]] = fam l i ∧ Few l i := by
            refine ⟨?_, Cx.few_leaf hg e1 (by omega)⟩
            cases hkind with
            | zero h => rw [h] at e1; obtain rfl := Option.some.inj e1; exact absurd rfl h0
            | one h => exact (Cx.fam_one hg).symm
            | @var _ v' hv _ h _ _ => rw [e1] at hv; obtain rfl := Option.some.inj hv; omega
            | @two _ v' a b hv _ h _ _ _ _ _ => rw [e1] at hv; obtain rfl := Option.some.inj hv; omega
          have HV := Lib.hid hv0
          have t1 : (v.o == 1) = true := by simp; omega
          have HO := Lib.hid (one_fam bf X w)
          clear h0 h1 hkind e1 hf hM kn hv0 hfl
          go_enter Tryz.func66, Tryz.ntmps66
          go_wp2_with fail
          refine (zero_fam bf _).mono ?_
          rintro e w1 ⟨rfl, rfl⟩
          go_wp2_with fail
          refine HO.out.mono ?_
          rintro e w1 ⟨vv, rfl, hs1, b1⟩
          obtain ⟨hh, rfl⟩ := hs1.mem.hdr
          have HS1 := Lib.hid hs1
          have HB1 := Lib.hid b1
          have km1 := km.next b1
          have k0 := (HM.out.k.next b1).cell 0
          simp at k0
          clear hs1 b1
          go_wp2_with (first | (at_mapUpdate; refine wpList_fmap_update _ rfl _ _ _ 94 rfl km1 int_enc henc Tryz.underlying94 (by unfold maxLen; omega) rfl (i : Int) rfl (i64_nat (by omega)) hh rfl ?_; intro w9 hk9 g9))
          go_ret
          have ap1 := apart_of_below HB1.out [bm, bf]
          exact fval_done hi (HM.out.apart km HFL.out ap1) km1 (HKN.out.next ap1 (odd_two km HFL.out) (fun h => h)) (HFL.out.below HB1.out hbfl) ap1 HF.out (fun _ _ => rfl) (fun h => h) (fun h => Or.inl h) hk9 g9 HS1.out (fun _ => HV.out)
        · by_cases h2 : v.o = 2
          · have hv0 : [[v.a]] = fam l i ∧ Few l i := ⟨(Cx.fam_var hg e1 h2).symm, Cx.few_leaf hg e1 (by omega)⟩
            have HV := Lib.hid hv0
            have HNX := Lib.hid (show v.a ∈ X by rw [hXe]; exact mem_allVars hmem h2)
            obtain ⟨n0, hn0⟩ : ∃ n0, v.a = n0 := ⟨_, rfl⟩
            rw [hn0] at HV HNX y1
            have zr := hM.r.lt; have zc := hM.c.lt
            have HBD := Lib.hid (show ∀ W, Below w.heap.size w W → W.cell? ⟨Br, 0, none⟩ = some (.iface 80 (.pointer (some ⟨bf, 0, none⟩))) ∧ W.cell? ⟨Bc, 0, none⟩ = some (.slice (some ⟨g, o, none⟩) l.length c) ∧ W.cell? ⟨g, o + i * 3 + 1, none⟩ = some (.int .i64 n0) from
              fun W hb => ⟨(hb.cell (p := ⟨Br, 0, none⟩) zr).trans r0, (hb.cell (p := ⟨Bc, 0, none⟩) zc).trans c0, (hb.cell (p := ⟨g, o + i * 3 + 1, none⟩) hgl).trans y1⟩)
            have t1 : (v.o == 1) = false := by simp; omega
            have t2 : (v.o == 2) = true := by simp; omega
            clear h0 h1 h2 hkind e1 hf hM kn hv0 hfl hn0
            go_enter Tryz.func66, Tryz.ntmps66
            go_wp2_with fail
            refine (zero_fam bf _).mono ?_
            rintro e w1 ⟨rfl, rfl⟩
            go_wp2_with fail
            clear r0 c0 y0 y1 y2 k0 q0
            refine' wp_region_each _ (Below w.heap.size w) (Onward) (Vl :: Vl :: Vl :: Vl :: Vl :: Vl :: Vl :: Vl :: Vl :: FV X n0 :: FV X n0 :: []) ?hF (by kernel_rfl) (by kernel_rfl) (by kernel_rfl) ((Below.refl _ _).drew) (lasting_cons (lasting_vl) (lasting_cons (lasting_vl) (lasting_cons (lasting_vl) (lasting_cons (lasting_vl) (lasting_cons (lasting_vl) (lasting_cons (lasting_vl) (lasting_cons (lasting_vl) (lasting_cons (lasting_vl) (lasting_cons (lasting_vl) (lasting_cons (lasting_FV) (lasting_cons (lasting_FV) (lasting_none)))))))))))) ?hops ?hend
            case hF => (intro v; simp only [over, Act.put, List.setIfInBounds_toArray, List.set_cons_zero, List.set_cons_succ, Nat.zero_add, Nat.reduceAdd]; exact rfl)
            case hops =>
              refine ⟨?_, ?_⟩
              · intro v w' hj hd hs K hK
                obtain ⟨x1, x2, x3⟩ := HBD.out _ hj.out
                have hk := hK.out
                simp only [Act.put, List.setIfInBounds_toArray, List.set_cons_zero, List.set_cons_succ] at hk
                have HK := Lib.hid hk
                clear hd hs hk hK
                go_simp
                exact HK.out _ _ hj.out (Below.refl _ _) (show _ = _ from rfl)
              refine ⟨?_, ?_⟩
              · intro v w' hj hd hs K hK
                obtain ⟨x1, x2, x3⟩ := HBD.out _ hj.out
                have hk := hK.out
                simp only [Act.put, List.setIfInBounds_toArray, List.set_cons_zero, List.set_cons_succ] at hk
                have HK := Lib.hid hk
                clear hd hs hk hK
                go_simp
                exact HK.out _ _ hj.out (Below.refl _ _) (show _ = _ from rfl)
              refine ⟨?_, ?_⟩
              · intro v w' hj hd hs K hK
                have hk := hK.out
                simp only [Act.put, List.setIfInBounds_toArray, List.set_cons_zero, List.set_cons_succ] at hk
                have HK := Lib.hid hk
                clear hd hs hk hK
                go_simp
                exact HK.out _ _ hj.out (Below.refl _ _) (show _ = _ from rfl)
              refine ⟨?_, ?_⟩
              · intro v w' hj hd hs K hK
                have t1 : v 1 = _ := hd.out 1 (by kernel_rfl)
                have t2 : v 2 = _ := hd.out 2 (by kernel_rfl)
                have hk := hK.out
                simp only [t1, t2, Act.put, List.setIfInBounds_toArray, List.set_cons_zero, List.set_cons_succ] at hk
                have HK := Lib.hid hk
                clear hd hs hk hK
                go_simp
                exact HK.out _ _ hj.out (Below.refl _ _) (show _ = _ from rfl)
              refine ⟨?_, ?_⟩
              · intro v w' hj hd hs K hK
                have t3 : v 3 = _ := hd.out 3 (by kernel_rfl)
                have hk := hK.out
                simp only [t3, Act.put, List.setIfInBounds_toArray, List.set_cons_zero, List.set_cons_succ] at hk
                have HK := Lib.hid hk
                clear hd hs hk hK
                go_simp
                exact HK.out _ _ hj.out (Below.refl _ _) (show _ = _ from rfl)
              refine ⟨?_, ?_⟩
              · intro v w' hj hd hs K hK
                have t4 : v 4 = _ := hd.out 4 (by kernel_rfl)
                obtain ⟨x1, x2, x3⟩ := HBD.out _ hj.out
                have hk := hK.out
                simp only [t4, Act.put, List.setIfInBounds_toArray, List.set_cons_zero, List.set_cons_succ] at hk
                have HK := Lib.hid hk
                clear hd hs hk hK
                go_simp
                exact HK.out _ _ hj.out (Below.refl _ _) (show _ = _ from rfl)
              refine ⟨?_, ?_⟩
              · intro v w' hj hd hs K hK
                have t0 : v 0 = _ := hd.out 0 (by kernel_rfl)
                have hk := hK.out
                simp only [t0, Act.put, List.setIfInBounds_toArray, List.set_cons_zero, List.set_cons_succ] at hk
                have HK := Lib.hid hk
                clear hd hs hk hK
                go_simp
                exact HK.out _ _ hj.out (Below.refl _ _) (show _ = _ from rfl)
              refine ⟨?_, ?_⟩
              · intro v w' hj hd hs K hK
                have t6 : v 6 = _ := hd.out 6 (by kernel_rfl)
                have hk := hK.out
                simp only [t6, Act.put, List.setIfInBounds_toArray, List.set_cons_zero, List.set_cons_succ] at hk
                have HK := Lib.hid hk
                clear hd hs hk hK
                go_simp
                exact HK.out _ _ hj.out (Below.refl _ _) (show _ = _ from rfl)
              refine ⟨?_, ?_⟩
              · intro v w' hj hd hs K hK
                have t0 : v 0 = _ := hd.out 0 (by kernel_rfl)
                have hk := hK.out
                simp only [t0, Act.put, List.setIfInBounds_toArray, List.set_cons_zero, List.set_cons_succ] at hk
                have HK := Lib.hid hk
                clear hd hs hk hK
                go_simp
                exact HK.out _ _ hj.out (Below.refl _ _) (show _ = _ from rfl)
              refine ⟨?_, ?_⟩
              · intro v w' hj hd hs K hK
                have t5 : v 5 = _ := hd.out 5 (by kernel_rfl)
                have t8 : v 8 = _ := hd.out 8 (by kernel_rfl)
                have mm := fun w => mf_variable bf w
                have hk := hK.out
                simp only [t5, t8, Act.put, List.setIfInBounds_toArray, List.set_cons_zero, List.set_cons_succ] at hk
                have HK := Lib.hid hk
                clear hd hs hk hK
                go_simp
                refine (variable_fam bf X n0 HNX.out _).mono ?_
                rintro e w2 ⟨x, rfl, q, hb2⟩
                obtain ⟨hh, rfl⟩ := q.mem.hdr
                exact HK.out _ _ (hj.out.trans (hb2.mono hj.out.size)) hb2 ⟨hh, rfl, q⟩
              refine ⟨?_, ?_⟩
              · intro v w' hj hd hs K hK
                obtain ⟨h9, t9, q9⟩ : FV X n0 (v 9) w' := hd.out 9 (by kernel_rfl); rw [t9] at q9
                have hk := hK.out
                simp only [t9, Act.put, List.setIfInBounds_toArray, List.set_cons_zero, List.set_cons_succ] at hk
                have HK := Lib.hid hk
                clear hd hs hk hK
                go_simp
                exact HK.out _ _ hj.out (Below.refl _ _) ⟨h9, rfl, q9⟩
              trivial
            case hend =>
              intro vv w2 hj hd
              obtain ⟨hh, t10, hs1⟩ : FV X n0 (vv 10) w2 := hd.out 10 (of_decide_eq_true (by kernel_rfl))
              rw [t10] at hs1
              simp only [t10]
              have b1 := hj.out
              have HS1 := Lib.hid hs1
              have HB1 := Lib.hid b1
              have km1 := km.next b1
              have k0 := (HM.out.k.next b1).cell 0
              simp at k0
              clear hd hj t10 b1 hs1
              go_wp2_with (first | (at_mapUpdate; refine wpList_fmap_update _ rfl _ _ _ 94 rfl km1 int_enc henc Tryz.underlying94 (by unfold maxLen; omega) rfl (i : Int) rfl (i64_nat (by omega)) hh rfl ?_; intro w9 hk9 g9))
              go_ret
              have ap1 := apart_of_below HB1.out [bm, bf]
              exact fval_done hi (HM.out.apart km HFL.out ap1) km1 (HKN.out.next ap1 (odd_two km HFL.out) (fun h => h)) (HFL.out.below HB1.out hbfl) ap1 HF.out (fun _ _ => rfl) (fun h => h) (fun h => Or.inl h) hk9 g9 HS1.out (fun _ => HV.out)
          · have h34 : v.o = 3 ∨ v.o = 4 := by
              cases hkind with
              | zero h => rw [h] at e1; obtain rfl := Option.some.inj e1; exact absurd rfl h0
              | one h => rw [h] at e1; obtain rfl := Option.some.inj e1; exact absurd rfl h1
              | @var _ v' hv _ h _ _ => rw [e1] at hv; obtain rfl := Option.some.inj hv; exact absurd h h2
              | @two _ v' a b hv _ h _ _ _ _ _ => rw [e1] at hv; obtain rfl := Option.some.inj hv; exact h
            obtain ⟨a, b, ha, hb', hab, hbi, _⟩ := val_two (ts := []) hg e1 h34
            have hTW := twoF hg e1 h34 ha hb' (by omega) hbi
            have hfewab := (Cx.few_two e1 h34 ha hb').1
            have C1 : ∀ W, FState w Bk Br Bc Bv bm bf (some ⟨g, o, none⟩) c l X i (¬ Few l i) f fl W → Calls Tryz.prog 66 #[.int .i64 v.a, .pointer (some ⟨Bk, 0, none⟩), .pointer (some ⟨Br, 0, none⟩), .pointer (some ⟨Bc, 0, none⟩), .pointer (some ⟨Bv, 0, none⟩)] W fun e w' => ∃ x, e = .returned x ∧ FState w Bk Br Bc Bv bm bf (some ⟨g, o, none⟩) c l X i (¬ Few l i) f fl w' ∧ FR bm bf W w' ∧ FT bf l X a x w' := by
              rintro W ⟨hM2, ap2, fl2, n2, f2, hf2, km2, kn2, hj2, u1, u2⟩
              rw [ha]
              refine (IH.out a (by omega) fl2 n2 f2 W (by omega) hM2 hf2 km2 kn2).mono ?_
              rintro e w' ⟨x, he, hs, ht⟩
              obtain ⟨z1, z2⟩ := FState.trans ap2 hj2 u1 u2 (fun h hh => h (hfewab hh).2.1) km2 hf2 hs (by omega)
              exact ⟨x, he, z1, z2, ht⟩
            have C2 : ∀ W, FState w Bk Br Bc Bv bm bf (some ⟨g, o, none⟩) c l X i (¬ Few l i) f fl W → Calls Tryz.prog 66 #[.int .i64 v.b, .pointer (some ⟨Bk, 0, none⟩), .pointer (some ⟨Br, 0, none⟩), .pointer (some ⟨Bc, 0, none⟩), .pointer (some ⟨Bv, 0, none⟩)] W fun e w' => ∃ x, e = .returned x ∧ FState w Bk Br Bc Bv bm bf (some ⟨g, o, none⟩) c l X i (¬ Few l i) f fl w' ∧ FR bm bf W w' ∧ FT bf l X b x w' := by
              rintro W ⟨hM2, ap2, fl2, n2, f2, hf2, km2, kn2, hj2, u1, u2⟩
              rw [hb']
              refine (IH.out b (by omega) fl2 n2 f2 W (by omega) hM2 hf2 km2 kn2).mono ?_
              rintro e w' ⟨x, he, hs, ht⟩
              obtain ⟨z1, z2⟩ := FState.trans ap2 hj2 u1 u2 (fun h hh => h (hfewab hh).2.2) km2 hf2 hs (by omega)
              exact ⟨x, he, z1, z2, ht⟩
            have HC1 := Lib.hid C1; have HC2 := Lib.hid C2
            have HST := Lib.hid (show FState w Bk Br Bc Bv bm bf (some ⟨g, o, none⟩) c l X i (¬ Few l i) f fl w.drew from
              ⟨hM.apart km hfl (apart_of_below (Below.refl _ _).drew _), apart_of_below (Below.refl _ _).drew _, fl, n, f, hfl, km.drew, kn.next (apart_of_below (Below.refl _ _).drew _) (odd_two km hfl) (fun h => h), fun _ _ => rfl, fun h => h, fun h => Or.inl h⟩)
            have HBD := Lib.hid (show ∀ W, FState w Bk Br Bc Bv bm bf (some ⟨g, o, none⟩) c l X i (¬ Few l i) f fl W → W.cell? ⟨Br, 0, none⟩ = some (.iface 80 (.pointer (some ⟨bf, 0, none⟩))) ∧ W.cell? ⟨Bc, 0, none⟩ = some (.slice (some ⟨g, o, none⟩) l.length c) ∧ W.cell? ⟨Bv, 0, none⟩ = some (.func (.func 66) #[] #[.pointer (some ⟨Bk, 0, none⟩), .pointer (some ⟨Br, 0, none⟩), .pointer (some ⟨Bc, 0, none⟩), .pointer (some ⟨Bv, 0, none⟩)]) ∧ W.cell? ⟨g, o + i * 3 + 1, none⟩ = some (.int .i64 v.a) ∧ W.cell? ⟨g, o + i * 3 + 2, none⟩ = some (.int .i64 v.b) from fun W hT => by
              obtain ⟨z1, z2, z3, z4⟩ := hT.cells
              obtain ⟨g', o', eg, _, z5⟩ := hT.mem.circ (by intro e; rw [e] at hi; simp at hi)
              injection eg with eg
              injection eg with eg1 eg2 _
              subst eg1; subst eg2
              obtain ⟨_, z6, z7⟩ := z5 i v e1
              exact ⟨z2, z3, z4, z6, z7⟩)
            clear C1 C2 ha hb' hab hbi hfewab
            by_cases h3 : v.o = 3
            · have hTW' : TwoF l i a b (fun ts => Fm.Up (fam l a ++ fam l b) ts) := by rw [if_pos h3] at hTW; exact hTW
              clear hTW
              have hTW := hTW'
              clear hTW'
              have t1 : (v.o == 1) = false := by simp; omega
              have t2 : (v.o == 2) = false := by simp; omega
              have t3 : (v.o == 3) = true := by simp; omega
              have HTW := Lib.hid hTW
              clear h0 h1 h2 hkind e1 hf hM kn h34 h3 hTW hfl
              go_enter Tryz.func66, Tryz.ntmps66
              go_wp2_with fail
              refine (zero_fam bf _).mono ?_
              rintro e w1 ⟨rfl, rfl⟩
              go_wp2_with fail
              clear r0 c0 y0 y1 y2 k0 q0
              refine' wp_region_each _ (FState w Bk Br Bc Bv bm bf (some ⟨g, o, none⟩) c l X i (¬ Few l i) f fl) (FR bm bf) (Vl :: Vl :: Vl :: Vl :: Vl :: Vl :: Vl :: FT bf l X a :: Vl :: Vl :: Vl :: Vl :: Vl :: Vl :: FT bf l X b :: Vl :: Vl :: Vl :: FT bf l X i :: FT bf l X i :: []) ?hF (by kernel_rfl) (by kernel_rfl) (by kernel_rfl) (HST.out) (lasting_cons (lasting_vl) (lasting_cons (lasting_vl) (lasting_cons (lasting_vl) (lasting_cons (lasting_vl) (lasting_cons (lasting_vl) (lasting_cons (lasting_vl) (lasting_cons (lasting_vl) (lasting_cons (lasting_FT) (lasting_cons (lasting_vl) (lasting_cons (lasting_vl) (lasting_cons (lasting_vl) (lasting_cons (lasting_vl) (lasting_cons (lasting_vl) (lasting_cons (lasting_vl) (lasting_cons (lasting_FT) (lasting_cons (lasting_vl) (lasting_cons (lasting_vl) (lasting_cons (lasting_vl) (lasting_cons (lasting_FT) (lasting_cons (lasting_FT) (lasting_none))))))))))))))))))))) ?hops ?hend
              case hF => (intro v; simp only [over, Act.put, List.setIfInBounds_toArray, List.set_cons_zero, List.set_cons_succ, Nat.zero_add, Nat.reduceAdd]; exact rfl)
              case hops =>
                refine ⟨?_, ?_⟩
                · intro v w' hj hd hs K hK
                  obtain ⟨x1, x2, x3, x4, x5⟩ := HBD.out _ hj.out
                  have hk := hK.out
                  simp only [Act.put, List.setIfInBounds_toArray, List.set_cons_zero, List.set_cons_succ] at hk
                  have HK := Lib.hid hk
                  clear hd hs hk hK
                  go_simp
                  exact HK.out _ _ hj.out (hj.out.refl) (show _ = _ from rfl)
                refine ⟨?_, ?_⟩
                · intro v w' hj hd hs K hK
                  obtain ⟨x1, x2, x3, x4, x5⟩ := HBD.out _ hj.out
                  have hk := hK.out
                  simp only [Act.put, List.setIfInBounds_toArray, List.set_cons_zero, List.set_cons_succ] at hk
                  have HK := Lib.hid hk
                  clear hd hs hk hK
                  go_simp
                  exact HK.out _ _ hj.out (hj.out.refl) (show _ = _ from rfl)
                refine ⟨?_, ?_⟩
                · intro v w' hj hd hs K hK
                  obtain ⟨x1, x2, x3, x4, x5⟩ := HBD.out _ hj.out
                  have hk := hK.out
                  simp only [Act.put, List.setIfInBounds_toArray, List.set_cons_zero, List.set_cons_succ] at hk
                  have HK := Lib.hid hk
                  clear hd hs hk hK
                  go_simp
                  exact HK.out _ _ hj.out (hj.out.refl) (show _ = _ from rfl)
                refine ⟨?_, ?_⟩
                · intro v w' hj hd hs K hK
                  have hk := hK.out
                  simp only [Act.put, List.setIfInBounds_toArray, List.set_cons_zero, List.set_cons_succ] at hk
                  have HK := Lib.hid hk
                  clear hd hs hk hK
                  go_simp
                  exact HK.out _ _ hj.out (hj.out.refl) (show _ = _ from rfl)
                refine ⟨?_, ?_⟩
                · intro v w' hj hd hs K hK
                  have t2 : v 2 = _ := hd.out 2 (by kernel_rfl)
                  have t3 : v 3 = _ := hd.out 3 (by kernel_rfl)
                  have hk := hK.out
                  simp only [t2, t3, Act.put, List.setIfInBounds_toArray, List.set_cons_zero, List.set_cons_succ] at hk
                  have HK := Lib.hid hk
                  clear hd hs hk hK
                  go_simp
                  exact HK.out _ _ hj.out (hj.out.refl) (show _ = _ from rfl)
                refine ⟨?_, ?_⟩
                · intro v w' hj hd hs K hK
                  have t4 : v 4 = _ := hd.out 4 (by kernel_rfl)
                  have hk := hK.out
                  simp only [t4, Act.put, List.setIfInBounds_toArray, List.set_cons_zero, List.set_cons_succ] at hk
                  have HK := Lib.hid hk
                  clear hd hs hk hK
                  go_simp
                  exact HK.out _ _ hj.out (hj.out.refl) (show _ = _ from rfl)
                refine ⟨?_, ?_⟩
                · intro v w' hj hd hs K hK
                  have t5 : v 5 = _ := hd.out 5 (by kernel_rfl)
                  obtain ⟨x1, x2, x3, x4, x5⟩ := HBD.out _ hj.out
                  have hk := hK.out
                  simp only [t5, Act.put, List.setIfInBounds_toArray, List.set_cons_zero, List.set_cons_succ] at hk
                  have HK := Lib.hid hk
                  clear hd hs hk hK
                  go_simp
                  exact HK.out _ _ hj.out (hj.out.refl) (show _ = _ from rfl)
                refine ⟨?_, ?_⟩
                · intro v w' hj hd hs K hK
                  have t1 : v 1 = _ := hd.out 1 (by kernel_rfl)
                  have t6 : v 6 = _ := hd.out 6 (by kernel_rfl)
                  have hk := hK.out
                  simp only [t1, t6, Act.put, List.setIfInBounds_toArray, List.set_cons_zero, List.set_cons_succ] at hk
                  have HK := Lib.hid hk
                  clear hd hs hk hK
                  go_simp
                  refine (HC1.out _ hj.out).mono ?_
                  rintro e w2 ⟨x, rfl, h2, h3, hT⟩
                  exact HK.out _ _ h2 h3 hT
                refine ⟨?_, ?_⟩
                · intro v w' hj hd hs K hK
                  obtain ⟨x1, x2, x3, x4, x5⟩ := HBD.out _ hj.out
                  have hk := hK.out
                  simp only [Act.put, List.setIfInBounds_toArray, List.set_cons_zero, List.set_cons_succ] at hk
                  have HK := Lib.hid hk
                  clear hd hs hk hK
                  go_simp
                  exact HK.out _ _ hj.out (hj.out.refl) (show _ = _ from rfl)
                refine ⟨?_, ?_⟩
                · intro v w' hj hd hs K hK
                  obtain ⟨x1, x2, x3, x4, x5⟩ := HBD.out _ hj.out
                  have hk := hK.out
                  simp only [Act.put, List.setIfInBounds_toArray, List.set_cons_zero, List.set_cons_succ] at hk
                  have HK := Lib.hid hk
                  clear hd hs hk hK
                  go_simp
                  exact HK.out _ _ hj.out (hj.out.refl) (show _ = _ from rfl)
                refine ⟨?_, ?_⟩
                · intro v w' hj hd hs K hK
                  have hk := hK.out
                  simp only [Act.put, List.setIfInBounds_toArray, List.set_cons_zero, List.set_cons_succ] at hk
                  have HK := Lib.hid hk
                  clear hd hs hk hK
                  go_simp
                  exact HK.out _ _ hj.out (hj.out.refl) (show _ = _ from rfl)
                refine ⟨?_, ?_⟩
                · intro v w' hj hd hs K hK
                  have t9 : v 9 = _ := hd.out 9 (by kernel_rfl)
                  have t10 : v 10 = _ := hd.out 10 (by kernel_rfl)
                  have hk := hK.out
                  simp only [t9, t10, Act.put, List.setIfInBounds_toArray, List.set_cons_zero, List.set_cons_succ] at hk
                  have HK := Lib.hid hk
                  clear hd hs hk hK
                  go_simp
                  exact HK.out _ _ hj.out (hj.out.refl) (show _ = _ from rfl)
                refine ⟨?_, ?_⟩
                · intro v w' hj hd hs K hK
                  have t11 : v 11 = _ := hd.out 11 (by kernel_rfl)
                  have hk := hK.out
                  simp only [t11, Act.put, List.setIfInBounds_toArray, List.set_cons_zero, List.set_cons_succ] at hk
                  have HK := Lib.hid hk
                  clear hd hs hk hK
                  go_simp
                  exact HK.out _ _ hj.out (hj.out.refl) (show _ = _ from rfl)
                refine ⟨?_, ?_⟩
                · intro v w' hj hd hs K hK
                  have t12 : v 12 = _ := hd.out 12 (by kernel_rfl)
                  obtain ⟨x1, x2, x3, x4, x5⟩ := HBD.out _ hj.out
                  have hk := hK.out
                  simp only [t12, Act.put, List.setIfInBounds_toArray, List.set_cons_zero, List.set_cons_succ] at hk
                  have HK := Lib.hid hk
                  clear hd hs hk hK
                  go_simp
                  exact HK.out _ _ hj.out (hj.out.refl) (show _ = _ from rfl)
                refine ⟨?_, ?_⟩
                · intro v w' hj hd hs K hK
                  have t8 : v 8 = _ := hd.out 8 (by kernel_rfl)
                  have t13 : v 13 = _ := hd.out 13 (by kernel_rfl)
                  have hk := hK.out
                  simp only [t8, t13, Act.put, List.setIfInBounds_toArray, List.set_cons_zero, List.set_cons_succ] at hk
                  have HK := Lib.hid hk
                  clear hd hs hk hK
                  go_simp
                  refine (HC2.out _ hj.out).mono ?_
                  rintro e w2 ⟨x, rfl, h2, h3, hT⟩
                  exact HK.out _ _ h2 h3 hT
                refine ⟨?_, ?_⟩
                · intro v w' hj hd hs K hK
                  have t0 : v 0 = _ := hd.out 0 (by kernel_rfl)
                  have hk := hK.out
                  simp only [t0, Act.put, List.setIfInBounds_toArray, List.set_cons_zero, List.set_cons_succ] at hk
                  have HK := Lib.hid hk
                  clear hd hs hk hK
                  go_simp
                  exact HK.out _ _ hj.out (hj.out.refl) (show _ = _ from rfl)
                refine ⟨?_, ?_⟩
                · intro v w' hj hd hs K hK
                  have t15 : v 15 = _ := hd.out 15 (by kernel_rfl)
                  have hk := hK.out
                  simp only [t15, Act.put, List.setIfInBounds_toArray, List.set_cons_zero, List.set_cons_succ] at hk
                  have HK := Lib.hid hk
                  clear hd hs hk hK
                  go_simp
                  exact HK.out _ _ hj.out (hj.out.refl) (show _ = _ from rfl)
                refine ⟨?_, ?_⟩
                · intro v w' hj hd hs K hK
                  have t0 : v 0 = _ := hd.out 0 (by kernel_rfl)
                  have hk := hK.out
                  simp only [t0, Act.put, List.setIfInBounds_toArray, List.set_cons_zero, List.set_cons_succ] at hk
                  have HK := Lib.hid hk
                  clear hd hs hk hK
                  go_simp
                  exact HK.out _ _ hj.out (hj.out.refl) (show _ = _ from rfl)
                refine ⟨?_, ?_⟩
                · intro v w' hj hd hs K hK
                  obtain ⟨h7, F7, fl7, t7, p7, q7, r7⟩ : FT bf l X a (v 7) w' := hd.out 7 (by kernel_rfl); rw [t7] at q7
                  obtain ⟨h14, F14, fl14, t14, p14, q14, r14⟩ : FT bf l X b (v 14) w' := hd.out 14 (by kernel_rfl); rw [t14] at q14
                  have t17 : v 17 = _ := hd.out 17 (by kernel_rfl)
                  have mm := fun w => mf_plus bf w
                  have e14 := flag_one p14 p7
                  subst e14
                  have hk := hK.out
                  simp only [t7, t14, t17, Act.put, List.setIfInBounds_toArray, List.set_cons_zero, List.set_cons_succ] at hk
                  have HK := Lib.hid hk
                  clear hd hs hk hK
                  go_simp
                  refine (plus_fam bf fl7 X _ _ F7 F14 _ HXL.out q7 q14 p7).mono ?_
                  intro e w2 hR
                  obtain ⟨x, rfl, s2, s3, s4⟩ := ring_step (U := fun F G ts => Fm.Up (F ++ G) ts) HTW.out hj.out p7 r7 r14 hR
                  exact HK.out _ _ s2 s3 s4
                refine ⟨?_, ?_⟩
                · intro v w' hj hd hs K hK
                  obtain ⟨h18, F18, fl18, t18, p18, q18, r18⟩ : FT bf l X i (v 18) w' := hd.out 18 (by kernel_rfl); rw [t18] at q18
                  have hk := hK.out
                  simp only [t18, Act.put, List.setIfInBounds_toArray, List.set_cons_zero, List.set_cons_succ] at hk
                  have HK := Lib.hid hk
                  clear hd hs hk hK
                  go_simp
                  exact HK.out _ _ hj.out hj.out.refl ⟨h18, F18, fl18, rfl, p18, q18, r18⟩
                trivial
              case hend =>
                intro vv w2 hj hd
                obtain ⟨hh, F9, fl9, t19, p9, q9, r9⟩ : FT bf l X i (vv 19) w2 := hd.out 19 (of_decide_eq_true (by kernel_rfl))
                rw [t19] at q9
                simp only [t19]
                have hT := hj.out
                obtain ⟨k0, _, _, _⟩ := hT.cells
                obtain ⟨hM2, ap2, fl2, n2, f2, hf2, km2, kn2, hj2, u1, u2⟩ := hT
                have e9 := flag_one hf2 p9
                subst e9
                have hle2 := kn2.le
                have HA2 := Lib.hid ap2
                have HM2 := Lib.hid hM2
                have HK2 := Lib.hid kn2
                have HJ2 := Lib.hid hj2
                have HF2 := Lib.hid hf2
                have HQ := Lib.hid q9
                have HR := Lib.hid r9
                have HU1 := Lib.hid u1
                have HU2 := Lib.hid u2
                clear hd hj t19 ap2 hM2 kn2 hj2 hf2 p9 q9 r9 u1 u2
                go_wp2_with (first | (at_mapUpdate; refine wpList_fmap_update _ rfl _ _ _ 94 rfl km2 int_enc henc Tryz.underlying94 (by unfold maxLen; omega) rfl (i : Int) rfl (i64_nat (by omega)) hh rfl ?_; intro w9 hk9 g9))
                go_ret
                exact fval_done hi HM2.out km2 HK2.out HF2.out HA2.out HF.out HJ2.out HU1.out HU2.out hk9 g9 HQ.out HR.out
            · have hTW' : TwoF l i a b (fun ts => Fm.Up (Fm.prods (fam l a) (fam l b)) ts) := by rw [if_neg h3] at hTW; exact hTW
              clear hTW
              have hTW := hTW'
              clear hTW'
              have t1 : (v.o == 1) = false := by simp; omega
              have t2 : (v.o == 2) = false := by simp; omega
              have t3 : (v.o == 3) = false := by simp; omega
              have t4 : (v.o == 4) = true := by simp; omega
              have HTW := Lib.hid hTW
              clear h0 h1 h2 hkind e1 hf hM kn h34 h3 hTW hfl
              go_enter Tryz.func66, Tryz.ntmps66
              go_wp2_with fail
              refine (zero_fam bf _).mono ?_
              rintro e w1 ⟨rfl, rfl⟩
              go_wp2_with fail
              clear r0 c0 y0 y1 y2 k0 q0
              refine' wp_region_each _ (FState w Bk Br Bc Bv bm bf (some ⟨g, o, none⟩) c l X i (¬ Few l i) f fl) (FR bm bf) (Vl :: Vl :: Vl :: Vl :: Vl :: Vl :: Vl :: FT bf l X a :: Vl :: Vl :: Vl :: Vl :: Vl :: Vl :: FT bf l X b :: Vl :: Vl :: Vl :: FT bf l X i :: FT bf l X i :: []) ?hF (by kernel_rfl) (by kernel_rfl) (by kernel_rfl) (HST.out) (lasting_cons (lasting_vl) (lasting_cons (lasting_vl) (lasting_cons (lasting_vl) (lasting_cons (lasting_vl) (lasting_cons (lasting_vl) (lasting_cons (lasting_vl) (lasting_cons (lasting_vl) (lasting_cons (lasting_FT) (lasting_cons (lasting_vl) (lasting_cons (lasting_vl) (lasting_cons (lasting_vl) (lasting_cons (lasting_vl) (lasting_cons (lasting_vl) (lasting_cons (lasting_vl) (lasting_cons (lasting_FT) (lasting_cons (lasting_vl) (lasting_cons (lasting_vl) (lasting_cons (lasting_vl) (lasting_cons (lasting_FT) (lasting_cons (lasting_FT) (lasting_none))))))))))))))))))))) ?hops ?hend
              case hF => (intro v; simp only [over, Act.put, List.setIfInBounds_toArray, List.set_cons_zero, List.set_cons_succ, Nat.zero_add, Nat.reduceAdd]; exact rfl)
              case hops =>
                refine ⟨?_, ?_⟩
                · intro v w' hj hd hs K hK
                  obtain ⟨x1, x2, x3, x4, x5⟩ := HBD.out _ hj.out
                  have hk := hK.out
                  simp only [Act.put, List.setIfInBounds_toArray, List.set_cons_zero, List.set_cons_succ] at hk
                  have HK := Lib.hid hk
                  clear hd hs hk hK
                  go_simp
                  exact HK.out _ _ hj.out (hj.out.refl) (show _ = _ from rfl)
                refine ⟨?_, ?_⟩
                · intro v w' hj hd hs K hK
                  obtain ⟨x1, x2, x3, x4, x5⟩ := HBD.out _ hj.out
                  have hk := hK.out
                  simp only [Act.put, List.setIfInBounds_toArray, List.set_cons_zero, List.set_cons_succ] at hk
                  have HK := Lib.hid hk
                  clear hd hs hk hK
                  go_simp
                  exact HK.out _ _ hj.out (hj.out.refl) (show _ = _ from rfl)
                refine ⟨?_, ?_⟩
                · intro v w' hj hd hs K hK
                  obtain ⟨x1, x2, x3, x4, x5⟩ := HBD.out _ hj.out
                  have hk := hK.out
                  simp only [Act.put, List.setIfInBounds_toArray, List.set_cons_zero, List.set_cons_succ] at hk
                  have HK := Lib.hid hk
                  clear hd hs hk hK
                  go_simp
                  exact HK.out _ _ hj.out (hj.out.refl) (show _ = _ from rfl)
                refine ⟨?_, ?_⟩
                · intro v w' hj hd hs K hK
                  have hk := hK.out
                  simp only [Act.put, List.setIfInBounds_toArray, List.set_cons_zero, List.set_cons_succ] at hk
                  have HK := Lib.hid hk
                  clear hd hs hk hK
                  go_simp
                  exact HK.out _ _ hj.out (hj.out.refl) (show _ = _ from rfl)
                refine ⟨?_, ?_⟩
                · intro v w' hj hd hs K hK
                  have t2 : v 2 = _ := hd.out 2 (by kernel_rfl)
                  have t3 : v 3 = _ := hd.out 3 (by kernel_rfl)
                  have hk := hK.out
                  simp only [t2, t3, Act.put, List.setIfInBounds_toArray, List.set_cons_zero, List.set_cons_succ] at hk
                  have HK := Lib.hid hk
                  clear hd hs hk hK
                  go_simp
                  exact HK.out _ _ hj.out (hj.out.refl) (show _ = _ from rfl)
                refine ⟨?_, ?_⟩
                · intro v w' hj hd hs K hK
                  have t4 : v 4 = _ := hd.out 4 (by kernel_rfl)
                  have hk := hK.out
                  simp only [t4, Act.put, List.setIfInBounds_toArray, List.set_cons_zero, List.set_cons_succ] at hk
                  have HK := Lib.hid hk
                  clear hd hs hk hK
                  go_simp
                  exact HK.out _ _ hj.out (hj.out.refl) (show _ = _ from rfl)
                refine ⟨?_, ?_⟩
                · intro v w' hj hd hs K hK
                  have t5 : v 5 = _ := hd.out 5 (by kernel_rfl)
                  obtain ⟨x1, x2, x3, x4, x5⟩ := HBD.out _ hj.out
                  have hk := hK.out
                  simp only [t5, Act.put, List.setIfInBounds_toArray, List.set_cons_zero, List.set_cons_succ] at hk
                  have HK := Lib.hid hk
                  clear hd hs hk hK
                  go_simp
                  exact HK.out _ _ hj.out (hj.out.refl) (show _ = _ from rfl)
                refine ⟨?_, ?_⟩
                · intro v w' hj hd hs K hK
                  have t1 : v 1 = _ := hd.out 1 (by kernel_rfl)
                  have t6 : v 6 = _ := hd.out 6 (by kernel_rfl)
                  have hk := hK.out
                  simp only [t1, t6, Act.put, List.setIfInBounds_toArray, List.set_cons_zero, List.set_cons_succ] at hk
                  have HK := Lib.hid hk
                  clear hd hs hk hK
                  go_simp
                  refine (HC1.out _ hj.out).mono ?_
                  rintro e w2 ⟨x, rfl, h2, h3, hT⟩
                  exact HK.out _ _ h2 h3 hT
                refine ⟨?_, ?_⟩
                · intro v w' hj hd hs K hK
                  obtain ⟨x1, x2, x3, x4, x5⟩ := HBD.out _ hj.out
                  have hk := hK.out
                  simp only [Act.put, List.setIfInBounds_toArray, List.set_cons_zero, List.set_cons_succ] at hk
                  have HK := Lib.hid hk
                  clear hd hs hk hK
                  go_simp
                  exact HK.out _ _ hj.out (hj.out.refl) (show _ = _ from rfl)
                refine ⟨?_, ?_⟩
                · intro v w' hj hd hs K hK
                  obtain ⟨x1, x2, x3, x4, x5⟩ := HBD.out _ hj.out
                  have hk := hK.out
                  simp only [Act.put, List.setIfInBounds_toArray, List.set_cons_zero, List.set_cons_succ] at hk
                  have HK := Lib.hid hk
                  clear hd hs hk hK
                  go_simp
                  exact HK.out _ _ hj.out (hj.out.refl) (show _ = _ from rfl)
                refine ⟨?_, ?_⟩
                · intro v w' hj hd hs K hK
                  have hk := hK.out
                  simp only [Act.put, List.setIfInBounds_toArray, List.set_cons_zero, List.set_cons_succ] at hk
                  have HK := Lib.hid hk
                  clear hd hs hk hK
                  go_simp
                  exact HK.out _ _ hj.out (hj.out.refl) (show _ = _ from rfl)
                refine ⟨?_, ?_⟩
                · intro v w' hj hd hs K hK
                  have t9 : v 9 = _ := hd.out 9 (by kernel_rfl)
                  have t10 : v 10 = _ := hd.out 10 (by kernel_rfl)
                  have hk := hK.out
                  simp only [t9, t10, Act.put, List.setIfInBounds_toArray, List.set_cons_zero, List.set_cons_succ] at hk
                  have HK := Lib.hid hk
                  clear hd hs hk hK
                  go_simp
                  exact HK.out _ _ hj.out (hj.out.refl) (show _ = _ from rfl)
                refine ⟨?_, ?_⟩
                · intro v w' hj hd hs K hK
                  have t11 : v 11 = _ := hd.out 11 (by kernel_rfl)
                  have hk := hK.out
                  simp only [t11, Act.put, List.setIfInBounds_toArray, List.set_cons_zero, List.set_cons_succ] at hk
                  have HK := Lib.hid hk
                  clear hd hs hk hK
                  go_simp
                  exact HK.out _ _ hj.out (hj.out.refl) (show _ = _ from rfl)
                refine ⟨?_, ?_⟩
                · intro v w' hj hd hs K hK
                  have t12 : v 12 = _ := hd.out 12 (by kernel_rfl)
                  obtain ⟨x1, x2, x3, x4, x5⟩ := HBD.out _ hj.out
                  have hk := hK.out
                  simp only [t12, Act.put, List.setIfInBounds_toArray, List.set_cons_zero, List.set_cons_succ] at hk
                  have HK := Lib.hid hk
                  clear hd hs hk hK
                  go_simp
                  exact HK.out _ _ hj.out (hj.out.refl) (show _ = _ from rfl)
                refine ⟨?_, ?_⟩
                · intro v w' hj hd hs K hK
                  have t8 : v 8 = _ := hd.out 8 (by kernel_rfl)
                  have t13 : v 13 = _ := hd.out 13 (by kernel_rfl)
                  have hk := hK.out
                  simp only [t8, t13, Act.put, List.setIfInBounds_toArray, List.set_cons_zero, List.set_cons_succ] at hk
                  have HK := Lib.hid hk
                  clear hd hs hk hK
                  go_simp
                  refine (HC2.out _ hj.out).mono ?_
                  rintro e w2 ⟨x, rfl, h2, h3, hT⟩
                  exact HK.out _ _ h2 h3 hT
                refine ⟨?_, ?_⟩
                · intro v w' hj hd hs K hK
                  have t0 : v 0 = _ := hd.out 0 (by kernel_rfl)
                  have hk := hK.out
                  simp only [t0, Act.put, List.setIfInBounds_toArray, List.set_cons_zero, List.set_cons_succ] at hk
                  have HK := Lib.hid hk
                  clear hd hs hk hK
                  go_simp
                  exact HK.out _ _ hj.out (hj.out.refl) (show _ = _ from rfl)
                refine ⟨?_, ?_⟩
                · intro v w' hj hd hs K hK
                  have t15 : v 15 = _ := hd.out 15 (by kernel_rfl)
                  have hk := hK.out
                  simp only [t15, Act.put, List.setIfInBounds_toArray, List.set_cons_zero, List.set_cons_succ] at hk
                  have HK := Lib.hid hk
                  clear hd hs hk hK
                  go_simp
                  exact HK.out _ _ hj.out (hj.out.refl) (show _ = _ from rfl)
                refine ⟨?_, ?_⟩
                · intro v w' hj hd hs K hK
                  have t0 : v 0 = _ := hd.out 0 (by kernel_rfl)
                  have hk := hK.out
                  simp only [t0, Act.put, List.setIfInBounds_toArray, List.set_cons_zero, List.set_cons_succ] at hk
                  have HK := Lib.hid hk
                  clear hd hs hk hK
                  go_simp
                  exact HK.out _ _ hj.out (hj.out.refl) (show _ = _ from rfl)
                refine ⟨?_, ?_⟩
                · intro v w' hj hd hs K hK
                  obtain ⟨h7, F7, fl7, t7, p7, q7, r7⟩ : FT bf l X a (v 7) w' := hd.out 7 (by kernel_rfl); rw [t7] at q7
                  obtain ⟨h14, F14, fl14, t14, p14, q14, r14⟩ : FT bf l X b (v 14) w' := hd.out 14 (by kernel_rfl); rw [t14] at q14
                  have t17 : v 17 = _ := hd.out 17 (by kernel_rfl)
                  have mm := fun w => mf_times bf w
                  have e14 := flag_one p14 p7
                  subst e14
                  have hk := hK.out
                  simp only [t7, t14, t17, Act.put, List.setIfInBounds_toArray, List.set_cons_zero, List.set_cons_succ] at hk
                  have HK := Lib.hid hk
                  clear hd hs hk hK
                  go_simp
                  refine (times_fam bf fl7 X _ _ F7 F14 _ HXL.out q7 q14 p7).mono ?_
                  intro e w2 hR
                  obtain ⟨x, rfl, s2, s3, s4⟩ := ring_step (U := fun F G ts => Fm.Up (Fm.prods F G) ts) HTW.out hj.out p7 r7 r14 hR
                  exact HK.out _ _ s2 s3 s4
                refine ⟨?_, ?_⟩
                · intro v w' hj hd hs K hK
                  obtain ⟨h18, F18, fl18, t18, p18, q18, r18⟩ : FT bf l X i (v 18) w' := hd.out 18 (by kernel_rfl); rw [t18] at q18
                  have hk := hK.out
                  simp only [t18, Act.put, List.setIfInBounds_toArray, List.set_cons_zero, List.set_cons_succ] at hk
                  have HK := Lib.hid hk
                  clear hd hs hk hK
                  go_simp
                  exact HK.out _ _ hj.out hj.out.refl ⟨h18, F18, fl18, rfl, p18, q18, r18⟩
                trivial
              case hend =>
                intro vv w2 hj hd
                obtain ⟨hh, F9, fl9, t19, p9, q9, r9⟩ : FT bf l X i (vv 19) w2 := hd.out 19 (of_decide_eq_true (by kernel_rfl))
                rw [t19] at q9
                simp only [t19]
                have hT := hj.out
                obtain ⟨k0, _, _, _⟩ := hT.cells
                obtain ⟨hM2, ap2, fl2, n2, f2, hf2, km2, kn2, hj2, u1, u2⟩ := hT
                have e9 := flag_one hf2 p9
                subst e9
                have hle2 := kn2.le
                have HA2 := Lib.hid ap2
                have HM2 := Lib.hid hM2
                have HK2 := Lib.hid kn2
                have HJ2 := Lib.hid hj2
                have HF2 := Lib.hid hf2
                have HQ := Lib.hid q9
                have HR := Lib.hid r9
                have HU1 := Lib.hid u1
                have HU2 := Lib.hid u2
                clear hd hj t19 ap2 hM2 kn2 hj2 hf2 p9 q9 r9 u1 u2
                go_wp2_with (first | (at_mapUpdate; refine wpList_fmap_update _ rfl _ _ _ 94 rfl km2 int_enc henc Tryz.underlying94 (by unfold maxLen; omega) rfl (i : Int) rfl (i64_nat (by omega)) hh rfl ?_; intro w9 hk9 g9))
                go_ret
                exact fval_done hi HM2.out km2 HK2.out HF2.out HA2.out HF.out HJ2.out HU1.out HU2.out hk9 g9 HQ.out HR.out
end Go.Proofs.YtphmicbpkljmfaaGreat
