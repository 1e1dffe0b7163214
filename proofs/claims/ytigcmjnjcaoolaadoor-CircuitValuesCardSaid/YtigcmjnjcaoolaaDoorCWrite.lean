/- The walk of the closure that writes a node's text. -/
import Derived.Test.YtigcmjnjcaoolaaDoorCTxt2
import Derived.Test.YtigcmjnjcaoolaaDoorBld
import Derived.Test.YtigcmjnjcaoolaaDoorCEval
import Derived.Laws.EntriesVeiled
import Derived.Maps.StringElems
namespace Go.Proofs.YtigcmjnjcaoolaaDoor
set_option linter.unusedVariables false
set_option linter.unusedSimpArgs false
open Go.RowKit
open Cx (N)
/-- A string that the machine can hold. -/
abbrev SS : Type := { s : ByteArray // s.size ≤ maxLen }
abbrev smk : SS → Value := fun s => .string s.1
abbrev sdat : SS → DataW Unit := fun s => .lit (.string s.1.data.toList)
theorem str_enc : EEnc (plainElem Tryd.prog 9) smk sdat := by
  refine ⟨fun s => plainElem_string Tryd.underlying9 s.2, fun v s ps h => ?_⟩
  obtain ⟨s', rfl, e, _⟩ := plainElem_string_inv Tryd.underlying9 h
  simp only [Prod.mk.injEq] at e
  have e1 := e.1
  simp only [sdat, DataW.lit.injEq, Lit.string.injEq] at e1
  have : s' = s.1 := by apply ByteArray.ext; apply Array.toList_inj.1; exact e1.symm
  rw [this]
def ssEmpty : SS := ⟨⟨#[]⟩, by decide⟩
def ssPlus : SS := ⟨⟨#[32, 43, 32]⟩, by decide⟩
def ssTimes : SS := ⟨⟨#[32, 42, 32]⟩, by decide⟩
theorem zero_str (w : World) : (zeroValue 9).run Tryd.prog w = .ok (.string ⟨#[]⟩) w := by kernel_rfl
theorem At.others {w w' : World} {g b : Nat} {t e : TypeId} {cs : Array Value} (h : At w g t cs) (hk : Lib.OthersKept e (some b) w w') (ht : t ≠ e) (hne : g ≠ b) : At w' g t cs :=
  hk g _ h (fun e => hne (by injection e)) (fun c fz e => by injection e with _ e2 _; exact ht e2)
theorem others_of_below {w w' : World} {e : TypeId} {b : Option Nat} (h : Below w.heap.size w w') : Lib.OthersKept e b w w' := by
  intro k o hk _ _
  have hlt : k < w.heap.size := (Array.getElem?_eq_some_iff.1 hk).1
  exact (h.block k hlt).trans hk
theorem bld_below {w w' : World} {B b : Nat} {l : List Value} (h : Bld w B b l) (hb : Below w.heap.size w w') : Bld w' B b l := by
  have key : ∀ p, Lib.BuilderAt 72 5 B b p l w → Lib.BuilderAt 72 5 B b p l w' := by
    rintro p ⟨hB, v, hbk, hown, hne⟩
    exact ⟨hB, v, (hb.block b (Array.getElem?_eq_some_iff.1 hbk).1).trans hbk, own_below hown hb, hne⟩
  exact h.elim (fun x => .inl (key _ x)) (fun x => .inr (key _ x))
/-- The memory of the closure. -/
structure TMem (w : World) (B Bc Bb Bf : Nat) (A : Option Addr) (c : Nat) (l : List N) (cs : List UInt8) : Prop where
  c : At w Bc 24 #[.slice A l.length c]
  f : At w Bf 73 #[.func (.func 44) #[] #[.pointer (some ⟨Bc, 0, none⟩), .pointer (some ⟨Bb, 0, none⟩), .pointer (some ⟨Bf, 0, none⟩)]]
  b : Bld w B Bb (Lib.byteCells cs)
  circ : Circ w A l
  tab : Tab w
  le : B ≤ w.heap.size
  hc : Bc < B
  hb : Bc ≠ Bb
  hf : Bf ≠ Bb
theorem TMem.below {w w' : World} {B Bc Bb Bf : Nat} {A : Option Addr} {c : Nat} {l : List N} {cs : List UInt8} (h : TMem w B Bc Bb Bf A c l cs) (hb : Below w.heap.size w w') : TMem w' B Bc Bb Bf A c l cs :=
  ⟨h.c.next hb, h.f.next hb, bld_below h.b hb, h.circ.below hb, h.tab.next hb, Nat.le_trans h.le hb.size, h.hc, h.hb, h.hf⟩
/-- The closure's answer. -/
def Wrote (B Bb : Nat) (cs t : List UInt8) (w : World) (e : Ending) (w' : World) : Prop :=
  e = .returned (.tuple #[]) ∧ Bld w' B Bb (Lib.byteCells (cs ++ t)) ∧ Below B w w' ∧ Lib.OthersKept 5 (some Bb) w w'
theorem bytes_app (a b : List UInt8) : Lib.byteCells (a ++ b) = Lib.byteCells a ++ Lib.byteCells b := by simp [Lib.byteCells]
theorem bytes_len (a : List UInt8) : (Lib.byteCells a).length = a.length := by simp [Lib.byteCells]
theorem TMem.wrote {w w' : World} {B Bc Bb Bf : Nat} {A : Option Addr} {c : Nat} {l : List N} {cs cs' : List UInt8} (h : TMem w B Bc Bb Bf A c l cs) (hB : Bld w' B Bb (Lib.byteCells cs')) (hb : Below B w w') (hk : Lib.OthersKept 5 (some Bb) w w') (hA : Circ w' A l) (hT : Tab w') : TMem w' B Bc Bb Bf A c l cs' :=
  ⟨h.c.others hk (by decide) h.hb, h.f.others hk (by decide) h.hf, hB, hA, hT, Nat.le_trans h.le hb.size, h.hc, h.hb, h.hf⟩
set_option maxHeartbeats 4000000 in
set_option maxRecDepth 100000 in
theorem write_any (B Bc Bb Bf : Nat) (A : Option Addr) (c : Nat) (l : List N) (hg : Cx.Good l) (hF : ∀ n ∈ l, NGood n) (hl : l.length ≤ 20000) (W0 : World) (hA0 : Circ W0 A l) (hT0 : Tab W0) (hB0 : W0.heap.size ≤ B) (i : Nat) :
    ∀ (w : World) (cs : List UInt8), i < l.length → cs.length + (Cx.textAt l i).length ≤ 100000 → TMem w B Bc Bb Bf A c l cs → Below W0.heap.size W0 w →
      Calls Tryd.prog 44 #[.int .i64 (i : Int), .pointer (some ⟨Bc, 0, none⟩), .pointer (some ⟨Bb, 0, none⟩), .pointer (some ⟨Bf, 0, none⟩)] w (Wrote B Bb cs (Cx.textAt l i) w) := by
  induction i using Nat.strongRecOn with
  | ind i ih =>
    intro w cs hi hlen hM hW0
    have IH := Lib.hid ih
    clear ih
    have e1 := getElem_of hi
    have hgood := hF _ (List.getElem_mem hi)
    obtain ⟨g, o, rfl, hgl, c0, c1, c2⟩ := hM.circ.at hi
    have j0 : (0 : Int) ≤ (i : Int) := by omega
    have j1 : (i : Int) < (l.length : Int) := by omega
    have j2 : i < l.length := hi
    generalize l[i] = v at *
    obtain ⟨W, hW⟩ : ∃ W, W = w.alloc (.cells #[.int .i64 v.o, .int .i64 v.a, .int .i64 v.b] 50) := ⟨_, rfl⟩
    have bW : Below w.heap.size w W := by rw [hW]; exact below1 _ _
    have aW : At W w.heap.size 50 #[.int .i64 v.o, .int .i64 v.a, .int .i64 v.b] := by rw [hW]; exact At.new _ _ _
    have MW := hM.below bW
    have HW := Lib.hid hW
    have hcell := hM.c.cell 0
    simp at hcell
    have bB : Below B w W := bW.mono hM.le
    have kB : Lib.OthersKept 5 (some Bb) w W := others_of_below bW
    clear hW
    rcases kinds hg e1 with ⟨h0, hi0, hR⟩ | ⟨h0, hi0, hR⟩ | ⟨h2, h3, hR⟩ | ⟨a, b, h2, ha, hb, h5, h6, hR⟩
    · have t2 : (v.o == 2) = false := by simp; omega
      have t3 : (v.o == 3) = false := by simp; omega
      have t4 : (v.o == 4) = false := by simp; omega
      have HT := Lib.hid (show Lib.itoa (i : Int) = Cx.textAt l i by rw [hR, itoa_nat (by omega), hi0, dec_one (by decide)]; rfl)
      have i19 : (i : Int) ≤ 9223372036854775807 := by omega
      clear h0 hi0 hR e1
      go_enter Tryd.func44, Tryd.ntmps44
      go_wp2_with fail
      rw [← HW.out]
      refine (itoa_any _ _ j0 i19 MW.tab).mono ?_
      rintro e w1 ⟨rfl, b1⟩
      rw [HT.out]
      go_wp2_with fail
      refine (wstr_any B Bb (Lib.byteCells cs) ⟨(Cx.textAt l i).toArray⟩ _ (bld_below MW.b b1) (by rw [bytes_len, size_str]; omega) (Nat.le_trans MW.le b1.size)).mono ?_
      rintro e w2 ⟨rfl, h2, b2, k2⟩
      go_wp2_with fail
      go_end0
      exact ⟨rfl, by rw [bytes_app]; exact Or.inr h2, (bB.trans (b1.mono MW.le)).trans b2, (kB.trans (others_of_below b1)).trans k2⟩
    · have t2 : (v.o == 2) = false := by simp; omega
      have t3 : (v.o == 3) = false := by simp; omega
      have t4 : (v.o == 4) = false := by simp; omega
      have HT := Lib.hid (show Lib.itoa (i : Int) = Cx.textAt l i by rw [hR, itoa_nat (by omega), hi0, dec_one (by decide)]; rfl)
      have i19 : (i : Int) ≤ 9223372036854775807 := by omega
      clear h0 hi0 hR e1
      go_enter Tryd.func44, Tryd.ntmps44
      go_wp2_with fail
      rw [← HW.out]
      refine (itoa_any _ _ j0 i19 MW.tab).mono ?_
      rintro e w1 ⟨rfl, b1⟩
      rw [HT.out]
      go_wp2_with fail
      refine (wstr_any B Bb (Lib.byteCells cs) ⟨(Cx.textAt l i).toArray⟩ _ (bld_below MW.b b1) (by rw [bytes_len, size_str]; omega) (Nat.le_trans MW.le b1.size)).mono ?_
      rintro e w2 ⟨rfl, h2, b2, k2⟩
      go_wp2_with fail
      go_end0
      exact ⟨rfl, by rw [bytes_app]; exact Or.inr h2, (bB.trans (b1.mono MW.le)).trans b2, (kB.trans (others_of_below b1)).trans k2⟩
    · have t2 : (v.o == 2) = true := by simpa using h2
      have v1 := hgood.2.1.2
      have il := itoa_len h3 v1
      have HR := Lib.hid hR
      clear h2 hR e1
      go_enter Tryd.func44, Tryd.ntmps44
      go_wp2_with fail
      rw [← HW.out]
      refine (itoa_any _ _ h3 v1 MW.tab).mono ?_
      rintro e w1 ⟨rfl, b1⟩
      go_wp2_with fail
      rw [show (⟨#[120]⟩ : ByteArray) ++ ⟨(Lib.itoa v.a).toArray⟩ = ⟨(Cx.textAt l i).toArray⟩ from by rw [HR.out, show 120 :: Lib.itoa v.a = [120] ++ Lib.itoa v.a from rfl, ← str_app]]
      refine (wstr_any B Bb (Lib.byteCells cs) ⟨(Cx.textAt l i).toArray⟩ _ (bld_below MW.b b1) (by rw [bytes_len, size_str]; omega) (Nat.le_trans MW.le b1.size)).mono ?_
      rintro e w2 ⟨rfl, h2, b2, k2⟩
      go_wp2_with fail
      go_end0
      exact ⟨rfl, by rw [bytes_app]; exact Or.inr h2, (bB.trans (b1.mono MW.le)).trans b2, (kB.trans (others_of_below b1)).trans k2⟩
    · have hlr := congrArg List.length hR
      simp only [List.length_append, List.length_cons, List.length_nil, Cx.opB_len] at hlr
      have la : cs.length + (Cx.textAt l a).length + (Cx.textAt l b).length + 5 ≤ 100000 := by omega
      have HR := Lib.hid hR
      have CA := Lib.hid (fun w cs => IH.out a (by omega) w cs (by omega))
      have CB := Lib.hid (fun w cs => IH.out b (by omega) w cs (by omega))
      rw [← ha] at CA
      rw [← hb] at CB
      have t2 : (v.o == 2) = false := by simp; omega
      have CIR := Lib.hid (fun W' (h : Below W0.heap.size W0 W') => hA0.below h)
      have TAB := Lib.hid (fun W' (h : Below W0.heap.size W0 W') => hT0.next h)
      have NB := Lib.hid (show w.heap.size ≠ Bb from fun e => by
        have : Bb < w.heap.size := by rcases hM.b with h | h <;> exact h.lt
        omega)
      have n0 := aW.cell 0; have n1 := aW.cell 1; have n2 := aW.cell 2; have f0 := MW.f.cell 0
      simp at n0 n1 n2 f0
      by_cases h3 : v.o = 3
      · have t3 : (v.o == 3) = true := by simpa using h3
        have HV := Lib.hid h3
        have HO := Lib.hid (show Cx.opB v.o = Cx.plusB by unfold Cx.opB; rw [if_pos h3])
        clear  h3 h2 ha hb hR hlr e1
        go_enter Tryd.func44, Tryd.ntmps44
        go_wp2_with fail
        rw [← HW.out]
        refine (wbyte_any B Bb (Lib.byteCells cs) 40 _ MW.b (by rw [bytes_len]; omega) MW.le).mono ?_
        rintro e w1 ⟨rfl, h1, b1, k1⟩
        have M1 : TMem w1 B Bc Bb Bf (some ⟨g, o, none⟩) c l (cs ++ [40]) := MW.wrote (by rw [bytes_app]; exact Or.inr h1) b1 k1 (CIR.out _ ((hW0.trans (bW.mono hW0.size)).trans (b1.mono hB0))) (TAB.out _ ((hW0.trans (bW.mono hW0.size)).trans (b1.mono hB0)))
        have W1 := (hW0.trans (bW.mono hW0.size)).trans (b1.mono hB0)
        have a1 := aW.others k1 (by decide) NB.out
        clear n0 n1 n2 f0
        have n0 := a1.cell 0; have n1 := a1.cell 1; have n2 := a1.cell 2; have f0 := M1.f.cell 0
        simp at n0 n1 n2 f0
        go_wp2_with fail
        refine (CA.out w1 (cs ++ [40]) (by simp; omega) M1 W1).mono ?_
        rintro e w2 ⟨rfl, h2, b2, k2⟩
        have W2 := W1.trans (b2.mono hB0)
        have M2 : TMem w2 B Bc Bb Bf (some ⟨g, o, none⟩) c l (cs ++ [40] ++ Cx.textAt l a) := M1.wrote h2 b2 k2 (CIR.out _ W2) (TAB.out _ W2)
        have a2 := a1.others k2 (by decide) NB.out
        clear n0 n1 n2 f0
        have n0 := a2.cell 0; have n1 := a2.cell 1; have n2 := a2.cell 2
        simp at n0 n1 n2
        have q1 := FMap.made w2 Tryd.prog 3 (plainElem Tryd.prog 9) ival sdat
        obtain ⟨w3, r1, q2, g2⟩ := q1.update int_enc str_enc Tryd.underlying79 (by unfold maxLen; omega) (3 : Int) (i64_nat (k := 3) (by omega)) ssPlus
        obtain ⟨w4, r2, q3, g3⟩ := q2.update int_enc str_enc Tryd.underlying79 (by unfold maxLen; omega) (4 : Int) (i64_nat (k := 4) (by omega)) ssTimes
        have q4 := q3.look int_enc str_enc Tryd.underlying79 (a0 := ssEmpty) (zero_str _) v.o hgood.1
        rw [show ((fun y : Int => if y = 4 then some ssTimes else if y = 3 then some ssPlus else none) v.o).getD ssEmpty = ssPlus from by rw [HV.out]; rfl] at q4
        simp only [ival, smk, ssPlus, ssTimes] at r1 r2 q4
        have b4 : Below w2.heap.size w2 w4 := (((Below.refl _ _).alloc (Nat.le_refl _) _).trans (below_of_grown g2 (Nat.le_refl _) (by simp))).trans (below_of_grown g3 (Nat.le_refl _) (by have := g2.size; simp at this; omega))
        have M4 := M2.below b4
        have W4 := W2.trans (b4.mono W2.size)
        have a4 := a2.next b4
        clear n0 n1 n2
        have n0 := a4.cell 0; have n1 := a4.cell 1; have n2 := a4.cell 2
        simp at n0 n1 n2
        have hmm := @run_makeMap Tryd.prog
        go_wp2_with fail
        refine (wstr_any B Bb (Lib.byteCells (cs ++ [40] ++ Cx.textAt l a)) ⟨#[32, 43, 32]⟩ _ M4.b (by rw [bytes_len]; simp only [List.length_append, List.length_cons, List.length_nil]; have : (⟨#[32, 43, 32]⟩ : ByteArray).size = 3 := rfl; omega) M4.le).mono ?_
        rintro e w5 ⟨rfl, h5', b5, k5⟩
        clear r1 r2 q4 q1 q2 q3 hmm n0 n1 n2
        have W5 := W4.trans (b5.mono hB0)
        have M5 : TMem w5 B Bc Bb Bf (some ⟨g, o, none⟩) c l (cs ++ [40] ++ Cx.textAt l a ++ Cx.plusB) := M4.wrote (by rw [bytes_app]; exact Or.inr h5') b5 k5 (CIR.out _ W5) (TAB.out _ W5)
        have a5 := a4.others k5 (by decide) NB.out
        have n0 := a5.cell 0; have n1 := a5.cell 1; have n2 := a5.cell 2; have f0 := M5.f.cell 0
        simp at n0 n1 n2 f0
        go_wp2_with fail
        refine (CB.out w5 (cs ++ [40] ++ Cx.textAt l a ++ Cx.plusB) (by simp only [List.length_append, List.length_cons, List.length_nil]; have : (Cx.plusB).length = 3 := rfl; omega) M5 W5).mono ?_
        rintro e w6 ⟨rfl, h6', b6, k6⟩
        go_wp2_with fail
        refine (wbyte_any B Bb _ 41 _ h6' (by rw [bytes_len]; simp only [List.length_append, List.length_cons, List.length_nil]; have : (Cx.plusB).length = 3 := rfl; omega) (Nat.le_trans M5.le b6.size)).mono ?_
        rintro e w7 ⟨rfl, h7, b7, k7⟩
        go_wp2_with fail
        go_end0
        refine ⟨rfl, ?_, (((((bB.trans b1).trans b2).trans (b4.mono M2.le)).trans b5).trans b6).trans b7, (((((kB.trans k1).trans k2).trans (others_of_below b4)).trans k5).trans k6).trans k7⟩
        rw [HR.out, HO.out, show cs ++ (40 :: Cx.textAt l a ++ Cx.plusB ++ Cx.textAt l b ++ [41]) = cs ++ [40] ++ Cx.textAt l a ++ Cx.plusB ++ Cx.textAt l b ++ [41] from by simp, bytes_app]
        exact Or.inr h7
      · have t3 : (v.o == 3) = false := by simpa using h3
        have h4 : v.o = 4 := by omega
        have t4 : (v.o == 4) = true := by simpa using h4
        have HV := Lib.hid h4
        have HO := Lib.hid (show Cx.opB v.o = Cx.timesB by unfold Cx.opB; rw [if_neg h3])
        clear h4 h3 h2 ha hb hR hlr e1
        go_enter Tryd.func44, Tryd.ntmps44
        go_wp2_with fail
        rw [← HW.out]
        refine (wbyte_any B Bb (Lib.byteCells cs) 40 _ MW.b (by rw [bytes_len]; omega) MW.le).mono ?_
        rintro e w1 ⟨rfl, h1, b1, k1⟩
        have M1 : TMem w1 B Bc Bb Bf (some ⟨g, o, none⟩) c l (cs ++ [40]) := MW.wrote (by rw [bytes_app]; exact Or.inr h1) b1 k1 (CIR.out _ ((hW0.trans (bW.mono hW0.size)).trans (b1.mono hB0))) (TAB.out _ ((hW0.trans (bW.mono hW0.size)).trans (b1.mono hB0)))
        have W1 := (hW0.trans (bW.mono hW0.size)).trans (b1.mono hB0)
        have a1 := aW.others k1 (by decide) NB.out
        clear n0 n1 n2 f0
        have n0 := a1.cell 0; have n1 := a1.cell 1; have n2 := a1.cell 2; have f0 := M1.f.cell 0
        simp at n0 n1 n2 f0
        go_wp2_with fail
        refine (CA.out w1 (cs ++ [40]) (by simp; omega) M1 W1).mono ?_
        rintro e w2 ⟨rfl, h2, b2, k2⟩
        have W2 := W1.trans (b2.mono hB0)
        have M2 : TMem w2 B Bc Bb Bf (some ⟨g, o, none⟩) c l (cs ++ [40] ++ Cx.textAt l a) := M1.wrote h2 b2 k2 (CIR.out _ W2) (TAB.out _ W2)
        have a2 := a1.others k2 (by decide) NB.out
        clear n0 n1 n2 f0
        have n0 := a2.cell 0; have n1 := a2.cell 1; have n2 := a2.cell 2
        simp at n0 n1 n2
        have q1 := FMap.made w2 Tryd.prog 3 (plainElem Tryd.prog 9) ival sdat
        obtain ⟨w3, r1, q2, g2⟩ := q1.update int_enc str_enc Tryd.underlying79 (by unfold maxLen; omega) (3 : Int) (i64_nat (k := 3) (by omega)) ssPlus
        obtain ⟨w4, r2, q3, g3⟩ := q2.update int_enc str_enc Tryd.underlying79 (by unfold maxLen; omega) (4 : Int) (i64_nat (k := 4) (by omega)) ssTimes
        have q4 := q3.look int_enc str_enc Tryd.underlying79 (a0 := ssEmpty) (zero_str _) v.o hgood.1
        rw [show ((fun y : Int => if y = 4 then some ssTimes else if y = 3 then some ssPlus else none) v.o).getD ssEmpty = ssTimes from by rw [HV.out]; rfl] at q4
        simp only [ival, smk, ssPlus, ssTimes] at r1 r2 q4
        have b4 : Below w2.heap.size w2 w4 := (((Below.refl _ _).alloc (Nat.le_refl _) _).trans (below_of_grown g2 (Nat.le_refl _) (by simp))).trans (below_of_grown g3 (Nat.le_refl _) (by have := g2.size; simp at this; omega))
        have M4 := M2.below b4
        have W4 := W2.trans (b4.mono W2.size)
        have a4 := a2.next b4
        clear n0 n1 n2
        have n0 := a4.cell 0; have n1 := a4.cell 1; have n2 := a4.cell 2
        simp at n0 n1 n2
        have hmm := @run_makeMap Tryd.prog
        go_wp2_with fail
        refine (wstr_any B Bb (Lib.byteCells (cs ++ [40] ++ Cx.textAt l a)) ⟨#[32, 42, 32]⟩ _ M4.b (by rw [bytes_len]; simp only [List.length_append, List.length_cons, List.length_nil]; have : (⟨#[32, 42, 32]⟩ : ByteArray).size = 3 := rfl; omega) M4.le).mono ?_
        rintro e w5 ⟨rfl, h5', b5, k5⟩
        clear r1 r2 q4 q1 q2 q3 hmm n0 n1 n2
        have W5 := W4.trans (b5.mono hB0)
        have M5 : TMem w5 B Bc Bb Bf (some ⟨g, o, none⟩) c l (cs ++ [40] ++ Cx.textAt l a ++ Cx.timesB) := M4.wrote (by rw [bytes_app]; exact Or.inr h5') b5 k5 (CIR.out _ W5) (TAB.out _ W5)
        have a5 := a4.others k5 (by decide) NB.out
        have n0 := a5.cell 0; have n1 := a5.cell 1; have n2 := a5.cell 2; have f0 := M5.f.cell 0
        simp at n0 n1 n2 f0
        go_wp2_with fail
        refine (CB.out w5 (cs ++ [40] ++ Cx.textAt l a ++ Cx.timesB) (by simp only [List.length_append, List.length_cons, List.length_nil]; have : (Cx.timesB).length = 3 := rfl; omega) M5 W5).mono ?_
        rintro e w6 ⟨rfl, h6', b6, k6⟩
        go_wp2_with fail
        refine (wbyte_any B Bb _ 41 _ h6' (by rw [bytes_len]; simp only [List.length_append, List.length_cons, List.length_nil]; have : (Cx.timesB).length = 3 := rfl; omega) (Nat.le_trans M5.le b6.size)).mono ?_
        rintro e w7 ⟨rfl, h7, b7, k7⟩
        go_wp2_with fail
        go_end0
        refine ⟨rfl, ?_, (((((bB.trans b1).trans b2).trans (b4.mono M2.le)).trans b5).trans b6).trans b7, (((((kB.trans k1).trans k2).trans (others_of_below b4)).trans k5).trans k6).trans k7⟩
        rw [HR.out, HO.out, show cs ++ (40 :: Cx.textAt l a ++ Cx.timesB ++ Cx.textAt l b ++ [41]) = cs ++ [40] ++ Cx.textAt l a ++ Cx.timesB ++ Cx.textAt l b ++ [41] from by simp, bytes_app]
        exact Or.inr h7
end Go.Proofs.YtigcmjnjcaoolaaDoor
