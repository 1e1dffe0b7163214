/- The walk of the law SemiringMatchesReference. -/
import Derived.Test.YtphmicbpkljmfaaGreatSLaw0
import Derived.Test.YtphmicbpkljmfaaGreatSRe
namespace Go.Proofs.YtphmicbpkljmfaaGreat
set_option linter.unusedVariables false
set_option linter.unusedSimpArgs false
open Go.RowKit
open Cx (N fam Few)
theorem SetV.eq {w : World} {v : Value} {s : List Int} (h : SetV w v s) : ∃ B c, v = .slice B s.length c ∧ s.length ≤ 9223372036854775807 ∧ Nums w B s := by
  obtain ⟨B, c, e, h1, h2, _, h3⟩ := h
  exact ⟨B, c, e, by unfold maxLen at h2; omega, h3⟩
theorem FamV.eq {w : World} {v : Value} {F : List (List Int)} (h : FamV w v F) : ∃ B c, v = .slice B F.length c ∧ F.length ≤ 9223372036854775807 ∧ Sets w B F := by
  obtain ⟨B, c, e, h1, h2, _, h3⟩ := h
  exact ⟨B, c, e, by unfold maxLen at h2; omega, h3⟩
theorem NumsOwn.eq {xs : List Int} {w w' : World} {e : Ending} (h : NumsOwn xs w e w') : ∃ B c, e = .returned (.slice B xs.length c) ∧ xs.length ≤ 9223372036854775807 ∧ Nums w' B xs ∧ Below w.heap.size w w' := by
  obtain ⟨v, rfl, ho, hb⟩ := h
  obtain ⟨B, c, rfl, hn⟩ := ns_of_own ho
  have h1 := hn.le
  have h2 := hn.cap
  exact ⟨B, c, rfl, by unfold maxLen at h2; omega, hn.nums, hb⟩
set_option maxHeartbeats 4000000 in
set_option maxRecDepth 100000 in
theorem match_law (A : Option Addr) (c : Nat) (l : List N) (n : Int) (B : Option Addr) (d : Nat) (ts : List Int) (E : Option Addr) (f : Nat) (ws : List Int) (w : World) (hl : l.length ≤ 140737488351232) (hF : ∀ n ∈ l, NGood n) (hA : Cir w A c l)
    (hts : ts.length ≤ 140737488351232) (hI : ∀ t ∈ ts, I64 t) (hB : Nums w B ts) (hws : ws.length ≤ 140737488351232) (hJ : ∀ t ∈ ws, I64 t) (hE : Nums w E ws) :
    Calls Tryz.prog 3 #[.slice A l.length c, .int .i64 n, .slice B ts.length d, .slice E ws.length f] w fun e w' => e = .returned (.bool true) ∧ Below w.heap.size w w' := by
  have HSM := Lib.hid (fun W => small_any A c l W (by omega))
  by_cases h0 : 40 < l.length
  · have HH := Lib.hid (show decide (l.length ≤ 40) = false from decide_eq_false (by omega))
    clear h0
    go_enter Tryz.func3, Tryz.ntmps3
    go_wp2_with fail
    refine (head_any w).mono ?_
    rintro e w0 ⟨rfl, bw⟩
    go_wp2_with fail
    refine (HSM.out _).mono ?_
    rintro e w1 ⟨rfl, rfl⟩
    rw [HH.out]
    go_wp2_with fail
    go_ret
    exact ⟨rfl, bw⟩
  have HH := Lib.hid (show decide (l.length ≤ 40) = true from decide_eq_true (by omega))
  by_cases h1 : 60 < ts.length
  · have d1 : decide ((60 : Int) < (ts.length : Int)) = true := by simp; omega
    have d1' : decide (60 < ts.length) = true := by simp; omega
    go_enter Tryz.func3, Tryz.ntmps3
    go_wp2_with fail
    refine (head_any w).mono ?_
    rintro e w0 ⟨rfl, bw⟩
    go_wp2_with fail
    refine (HSM.out _).mono ?_
    rintro e w1 ⟨rfl, rfl⟩
    rw [HH.out]
    go_wp2_with fail
    go_ret
    exact ⟨rfl, bw⟩
  have d1 : decide ((60 : Int) < (ts.length : Int)) = false := by simp; omega
  have d1' : decide (60 < ts.length) = false := by simp; omega
  by_cases h2 : 60 < ws.length
  · have d2 : decide ((60 : Int) < (ws.length : Int)) = true := by simp; omega
    have d2' : decide (60 < ws.length) = true := by simp; omega
    go_enter Tryz.func3, Tryz.ntmps3
    go_wp2_with fail
    refine (head_any w).mono ?_
    rintro e w0 ⟨rfl, bw⟩
    go_wp2_with fail
    refine (HSM.out _).mono ?_
    rintro e w1 ⟨rfl, rfl⟩
    rw [HH.out]
    go_wp2_with fail
    go_ret
    exact ⟨rfl, bw⟩
  have d2 : decide ((60 : Int) < (ws.length : Int)) = false := by simp; omega
  have d2' : decide (60 < ws.length) = false := by simp; omega
  have hl2 : l.length ≤ 20000 := by omega
  have HTR := Lib.hid (fun W (bw : Below w.heap.size w W) => trust_any A c l n B d ts W hl2 hF (hA.below bw) (by omega) hI (hB.below bw))
  have HTS := Lib.hid (fun W (bw : Below w.heap.size w W) => trust29_any A c l n B d ts W hl2 hF (hA.circ.below bw) (by omega) (hB.below bw))
  have HCR := Lib.hid (fun W (bw : Below w.heap.size w W) => critical_any A c l n W hl2 hF (hA.below bw))
  have HCS := Lib.hid (fun W (bw : Below w.heap.size w W) => critical29_any A c l n W hl2 hF (hA.circ.below bw))
  have HWR := Lib.hid (fun W (bw : Below w.heap.size w W) => cWitnesses_any A c l n W hl2 hF (hA.below bw))
  have HWS := Lib.hid (fun W (bw : Below w.heap.size w W) => wit29_any A c l n W hl2 hF (hA.circ.below bw))
  have HGR := Lib.hid (fun W (bw : Below w.heap.size w W) => cheapest_any A c l n E f ws W hl2 hF (hA.below bw) (by omega) (hE.below bw))
  have HGS := Lib.hid (fun W (bw : Below w.heap.size w W) => cheap29_any A c l n E f ws W hl2 hF (hA.circ.below bw) (by omega) (hE.below bw))
  clear hl hl2 hF hA hB hE hts hws hI hJ
  obtain ⟨b, hb⟩ : ∃ b, trustP l n ts = b := ⟨_, rfl⟩
  rw [hb] at HTR HTS
  obtain ⟨C, hC⟩ : ∃ C, critP l n = C := ⟨_, rfl⟩
  rw [hC] at HCR HCS
  obtain ⟨F, hFF⟩ : ∃ F, wlist l n = F := ⟨_, rfl⟩
  obtain ⟨z, hz⟩ : ∃ z, wcode l n = z := ⟨_, rfl⟩
  unfold WitOut at HWR
  unfold W29Out at HWS
  rw [hFF, hz] at HWR HWS
  obtain ⟨cs, hcs⟩ : ∃ cs, cset l n ws = cs := ⟨_, rfl⟩
  obtain ⟨cw, hcw⟩ : ∃ cw, cweight l n ws = cw := ⟨_, rfl⟩
  obtain ⟨cc, hcc⟩ : ∃ cc, ccode l n ws = cc := ⟨_, rfl⟩
  unfold CheapOut at HGR HGS
  rw [hcs, hcw, hcc] at HGR HGS
  have q1 : (z == z) = true := by simp
  have q2 : (cw == cw) = true := by simp
  have q3 : (cc == cc) = true := by simp
  have q4 : (b != b) = false := by simp
  clear hb hcs hcw hcc hC hFF hz
  go_enter Tryz.func3, Tryz.ntmps3
  go_wp2_with fail
  refine (head_any w).mono ?_
  rintro e w0 ⟨rfl, bw⟩
  go_wp2_with fail
  refine (HSM.out _).mono ?_
  rintro e w1 ⟨rfl, rfl⟩
  rw [HH.out]
  go_wp2_with fail
  refine (HTR.out _ bw).mono ?_
  rintro e w1 ⟨rfl, b1⟩
  replace bw := bw.trans (b1.mono bw.size)
  clear b1
  go_wp2_with fail
  refine (HTS.out _ bw).mono ?_
  rintro e w2 ⟨rfl, b1⟩
  replace bw := bw.trans (b1.mono bw.size)
  clear b1
  go_wp2_with fail
  refine (HCR.out _ bw).mono ?_
  intro e w3 h3
  obtain ⟨K1, k1, rfl, hl1, hn1, b1⟩ := h3.eq
  replace bw := bw.trans (b1.mono bw.size)
  clear b1 h3
  go_wp2_with fail
  refine (HCS.out _ bw).mono ?_
  intro e w4 h3
  obtain ⟨K2, k2, rfl, _, hn2, b1⟩ := h3.eq
  replace bw := bw.trans (b1.mono bw.size)
  have HIN := Lib.hid (show Calls Tryz.prog 9 #[.slice K1 C.length k1, .slice K2 C.length k2] w4 (fun e w' => e = .returned (.bool true) ∧ Below w4.heap.size w4 w') by
    have h := ints29_any K1 k1 C K2 k2 C w4 hl1 hl1 (hn1.below b1) hn2
    rw [decide_eq_true (rfl : C = C)] at h; exact h)
  clear b1 h3 hn1 hn2
  go_wp2_with fail
  refine HIN.out.mono ?_
  rintro e w5 ⟨rfl, b1⟩
  replace bw := bw.trans (b1.mono bw.size)
  clear b1 HIN
  go_wp2_with fail
  refine (HWR.out _ bw).mono ?_
  rintro e w6 ⟨v1, rfl, hf1, b1⟩
  obtain ⟨V1, c1, rfl, hz1, hs1⟩ := hf1.mem.eq
  replace bw := bw.trans (b1.mono bw.size)
  clear b1 hf1
  go_wp2_with fail
  refine (HWS.out _ bw).mono ?_
  rintro e w7 ⟨v2, rfl, hf2, b2⟩
  obtain ⟨V2, c2, rfl, _, hs2⟩ := hf2.eq
  replace bw := bw.trans (b2.mono bw.size)
  replace hs1 := hs1.below b2
  clear b2 hf2
  go_wp2_with fail
  refine (HGR.out _ bw).mono ?_
  rintro e w8 ⟨v3, rfl, hf3, b3⟩
  obtain ⟨V3, c3, rfl, hz3, hs3⟩ := hf3.eq
  replace bw := bw.trans (b3.mono bw.size)
  replace hs1 := hs1.below b3
  replace hs2 := hs2.below b3
  clear b3 hf3
  go_wp2_with fail
  refine (HGS.out _ bw).mono ?_
  rintro e w9 ⟨v4, rfl, hf4, b4⟩
  obtain ⟨V4, c4, rfl, _, hs4⟩ := hf4.eq
  replace bw := bw.trans (b4.mono bw.size)
  have HSA := Lib.hid (show Calls Tryz.prog 16 #[.slice V1 F.length c1, .slice V2 F.length c2] w9 (fun e w' => e = .returned (.bool true) ∧ Below w9.heap.size w9 w') by
    have h := same29_any V1 c1 F V2 c2 F w9 hz1 hz1 (hs1.below b4) (hs2.below b4)
    rw [decide_eq_true (rfl : F = F)] at h; exact h)
  have HS3 := Lib.hid (hs3.below b4)
  have HS4 := Lib.hid hs4
  clear b4 hf4 hs1 hs2 hs3 hs4
  go_wp2_with fail
  refine HSA.out.mono ?_
  rintro e w10 ⟨rfl, b1⟩
  have HIN := Lib.hid (show Calls Tryz.prog 9 #[.slice V3 cs.length c3, .slice V4 cs.length c4] w10 (fun e w' => e = .returned (.bool true) ∧ Below w10.heap.size w10 w') by
    have h := ints29_any V3 c3 cs V4 c4 cs w10 hz3 hz3 (HS3.out.below b1) (HS4.out.below b1)
    rw [decide_eq_true (rfl : cs = cs)] at h; exact h)
  replace bw := bw.trans (b1.mono bw.size)
  clear b1
  go_wp2_with fail
  refine HIN.out.mono ?_
  rintro e w11 ⟨rfl, b1⟩
  replace bw := bw.trans (b1.mono bw.size)
  clear b1
  go_wp2_with fail
  go_ret
  exact ⟨rfl, bw⟩
end Go.Proofs.YtphmicbpkljmfaaGreat
