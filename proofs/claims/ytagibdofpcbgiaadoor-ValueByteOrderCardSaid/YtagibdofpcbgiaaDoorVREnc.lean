/- The walk of the reference's Encode. -/
import Derived.Test.YtagibdofpcbgiaaDoorVRef2
namespace Go.Proofs.YtagibdofpcbgiaaDoor
set_option linter.unusedVariables false
set_option linter.unusedSimpArgs false
open Go.RowKit Go.Shelf
theorem one1 {a : Value} (ha : a.oneCell' = true) : ∀ u ∈ [a], u.oneCell' = true := by
  intro u hu; simp at hu; subst hu; exact ha
theorem take_more {α : Type} {l : List α} {k : Nat} {x : α} (h : l[k]? = some x) : l.take (k + 1) = l.take k ++ [x] := by rw [List.take_add_one, h]; rfl
theorem byteCells_snoc (l : List UInt8) (b : UInt8) : byteCells (l ++ [b]) = byteCells l ++ [.int .u8 (b.toNat : Int)] := by simp [byteCells]
/-- What is there while a symbol is written. -/
def SymAt (ds s : List UInt8) (q : Nat) (es : List UInt8) : Prop := es = ds ++ 2 :: s.take q
theorem SymAt.start (ds s : List UInt8) : SymAt ds s 0 (ds ++ [2]) := rfl
theorem SymAt.more {ds s es : List UInt8} {q : Nat} {c : UInt8} (h : SymAt ds s q es) (hc : s[q]? = some c) : SymAt ds s (q + 1) (es ++ [c]) := by
  unfold SymAt at *; rw [h, take_more hc]; simp
theorem SymAt.done {ds es : List UInt8} {x : Vx.V} (h : SymAt ds x.s x.s.length es) (ht : ¬ x.t = 1) : es ++ [0] = ds ++ Vx.encV x := by
  unfold SymAt at h; rw [h, List.take_length]; unfold Vx.encV; rw [if_neg ht]; simp
set_option maxHeartbeats 2000000 in
set_option maxRecDepth 100000 in
theorem rencode_any (A : Option Addr) (c : Nat) (xs : List Vx.V) (w : World) (hx : xs.length ≤ 1000000) (hA : Tup w A xs) (fx : Fits xs) :
    Calls Tryd.prog 26 #[.slice A xs.length c] w fun e w' => (∃ v, e = .returned v ∧ w'.ownsRow w.heap.size 5 1 v (Vx.encode xs).length (byteCells (Vx.encode xs))) ∧ Below w.heap.size w w' := by
  obtain ⟨i0, hi, hz0, hz1, hz2⟩ := info_parts byte_info
  cases hall : xs.all Vx.valid
  · have HV := Lib.hid hall
    have hE := Lib.hid (show Vx.encode xs = [] by unfold Vx.encode; rw [hall]; rfl)
    clear hall
    go_enter Tryd.func26, Tryd.ntmps26
    go_wp2_with (go_at_call 45; refine (vtuple_any A c xs _ (by omega) hA fx).mono ?_; rintro e w' ⟨rfl, hb⟩; rw [HV.out])
    go_ret
    exact ⟨⟨_, rfl, by rw [hE.out]; exact World.ownsRow_nil _ _ _ _⟩, hb⟩
  · have HV := Lib.hid hall
    have hok : ∀ v ∈ xs, Vx.valid v = true := List.all_eq_true.1 hall
    have HOK := Lib.hid hok
    clear hall hok
    go_enter Tryd.func26, Tryd.ntmps26
    go_wp2_with (go_at_call 45; refine (vtuple_any A c xs _ (by omega) hA fx).mono ?_; rintro e w' ⟨rfl, hb⟩; rw [HV.out])
    go_loopw [4, 5] (fun v i wr => ∃ (k : Nat) (ds : List UInt8), k ≤ xs.length ∧ i = .int .i64 k ∧ Hid (EncAt xs k ds) ∧ ds.length ≤ 18 * k ∧ wr.ownsRow w.heap.size 5 1 v ds.length (byteCells ds) ∧ Below w.heap.size w wr) (fun _ i _ => xs.length - (intOf i).toNat)
    case atStart => exact ⟨0, [], by omega, rfl, Lib.hid ⟨rfl, rfl, by simp⟩, by simp, World.ownsRow_nil _ _ _ _, hb⟩
    case round =>
      obtain ⟨k, ds, hk, rfl, HE, hdl, hown, hbw⟩ := hrel
      clear hb
      obtain ⟨wo, rfl⟩ : ∃ wo : World, wo = wr := ⟨_, rfl⟩
      by_cases h1 : k < xs.length
      · have d1 : decide ((k : Int) < (xs.length : Int)) = true := by simp; omega
        have HA := Lib.hid hA
        obtain ⟨g, o, rfl, hg, a0, a1, a2⟩ := (hA.below hbw).at h1
        have e1 := List.getElem?_eq_getElem h1
        have F1 := Lib.hid (fx _ (List.getElem_mem h1))
        have hv := HOK.out _ (List.getElem_mem h1)
        have HCE := Lib.hid (show ∀ W, Below w.heap.size w W → W.cell? ⟨g, o + k * 3 + 2, none⟩ = some (.string ⟨xs[k].s.toArray⟩) from fun W hb => by
          obtain ⟨g', o', e', _, _, _, r⟩ := (hA.below hb).at h1
          simp at e'
          obtain ⟨rfl, rfl⟩ := e'
          exact r)
        have HC1 := Lib.hid (show ∀ W, Below w.heap.size w W → W.cell? ⟨g, o + k * 3 + 1, none⟩ = some (.int .i64 xs[k].n) from fun W hb => by
          obtain ⟨g', o', e', _, _, r, _⟩ := (hA.below hb).at h1
          simp at e'
          obtain ⟨rfl, rfl⟩ := e'
          exact r)
        generalize xs[k] = x at *
        obtain ⟨a, cp, rfl⟩ := own_len hown
        have HM := Lib.hid (HE.out.more e1 hv)
        have hsl := valid_len hv
        have hwo := hbw.size
        have i0' : (0 : Int) ≤ (k : Int) := by omega
        have i1' : (k : Int) < (xs.length : Int) := by omega
        have ht0 : (k : Int).toNat = k := by simp
        clear e1 hA
        by_cases ht : x.t = 1
        · have hn : 0 ≤ x.n ∧ x.n ≤ 9999 := valid_int (t := x.t) (n := x.n) (l := x.s) hv ht
          have d2 : (x.t == 1) = true := beq_iff_eq.2 ht
          have HT := Lib.hid ht
          have q1 : IntKind.i64.wrap (x.n.tdiv 256) = x.n / 256 := by rw [Int.tdiv_eq_ediv_of_nonneg hn.1]; exact IntWalk.i64_in _ (by omega)
          have q2 : x.n.tmod 256 = x.n % 256 := Int.tmod_eq_emod_of_nonneg hn.1
          have q3 : IntKind.u8.wrap (x.n / 256) = x.n / 256 := by show (x.n / 256) % 256 = _; omega
          have q4 : IntKind.u8.wrap (x.n % 256) = x.n % 256 := by show (x.n % 256) % 256 = _; omega
          clear hv ht
          go_wp2_with (fail)
          go_region_held_law (fun w' => w'.cell? ⟨g, o + k * 3 + 1, none⟩ = some (.int .i64 x.n)) (first | assumption | go_keep)
            ((first
              | (refine step_append_lies _ (by rfl) (.tmp 23) (.tmp 38) 25 (by rfl) w.heap.size 5 i0 _ 1 1 Tryd.underlying25 hi hz0 hz1 hz2 (by rfl) (by omega) (.slice a ds.length cp) ds.length (byteCells ds) (by rfl) (show World.ownsRow (World.drew _) _ _ _ _ _ _ from hown.alloc _) ⟨wo.heap.size, 0, none⟩ 3 3 [.int .u8 1, .int .u8 (x.n / 256), .int .u8 (x.n % 256)] (by rfl) (by rfl) (At.news (At.drew (At.new _ _ _))) (one3 rfl rfl rfl) (by omega) (by unfold maxLen; omega) (by omega) (by simp; omega) _ rfl ?_
                 intro g2 cap2 w2 hown2 hgrow2 hat2 hlt2
                 have hbw2 : Below w.heap.size w w2 := Below.grown ((hbw.alloc hbw.size _).drew) hgrow2 (by simp; omega) (fun q hq => (own_lt hown hq).1)
                 have c2d : w2.cell? ⟨g, o + k * 3 + 1, none⟩ = some (.int .i64 x.n) := HC1.out _ hbw2)))
          all_goals
            go_wp2
            have hEnc := enc_int (x := x) HT.out hn
            go_roundw
            case rel => exact ⟨k + 1, ds ++ Vx.encV x, by omega, by go_num, HM, by have := HM.out.2.2; omega, by rw [byteCells_app, List.length_append, hEnc.1, hEnc.2]; exact hown2, hbw2⟩
            case measure => simp [intOf]; omega
        · have d2 : (x.t == 1) = false := beq_eq_false_iff_ne.2 ht
          have HT := Lib.hid ht
          generalize hS : (⟨x.s.toArray⟩ : ByteArray) = S at *
          have HSD := Lib.hid (show S.data.toList = x.s by rw [← hS])
          have hsz : S.size = x.s.length := by rw [← size_len, HSD.out]
          have HSZ := Lib.hid hsz
          have hs16 : S.size ≤ 16 := by omega
          have hds : ds.length ≤ 18000000 := by omega
          clear hv ht hS hsz
          go_wp2_with (first
            | (at_builtin; refine wpList_append_lies _ rfl (.tmp 40) (.tmp 41) 25 rfl w.heap.size 5 i0 _ 1 1 Tryd.underlying25 hi hz0 hz1 hz2 rfl (by omega) (.slice a ds.length cp) ds.length (byteCells ds) rfl (hown.alloc _) ⟨wo.heap.size, 0, none⟩ 1 1 [.int .u8 2] rfl rfl (At.news (At.new _ _ _)) (one1 rfl) (by omega) (by unfold maxLen; omega) (by omega) (by simp; omega) (wo.heap.size + 1) (by simp) ?_; intro g2 cap2 w2 hown2 hgrow2 hat2 hlt2))
          have hbw2 : Below w.heap.size w w2 := (hbw.alloc hbw.size _).grown hgrow2 (by simp; omega) (fun q hq => (own_lt hown hq).1)
          have hown2' : w2.ownsRow w.heap.size 5 1 (.slice (some ⟨g2, 0, none⟩) (ds.length + 1) cap2) (ds ++ [2]).length (byteCells (ds ++ [2])) := by rw [byteCells_snoc, List.length_append]; exact hown2
          clear hown2 hgrow2 hat2 hlt2
          go_loopw [4, 6] (fun v j wi => ∃ (q : Nat) (es : List UInt8), q ≤ S.size ∧ j = .int .i64 q ∧ Hid (SymAt ds x.s q es) ∧ es.length ≤ ds.length + 1 + q ∧ wi.ownsRow w.heap.size 5 1 v es.length (byteCells es) ∧ Below w.heap.size w wi) (fun _ j _ => S.size - (intOf j).toNat)
          case atStart => exact ⟨0, ds ++ [2], by omega, rfl, Lib.hid (SymAt.start _ _), by simp, hown2', hbw2⟩
          case round =>
            obtain ⟨q, es, hq, rfl, HQ, hel, hown3, hbw3⟩ := hrel
            clear hown2' hbw2 hown hbw a0 a1 a2
            obtain ⟨a3, cp3, rfl⟩ := own_len hown3
            have hw3 := hbw3.size
            have b2 := HCE.out _ hbw3
            by_cases hlt : q < S.size
            · have d3 : decide ((q : Int) < (S.size : Int)) = true := by simp; omega
              have HN := Lib.hid (HQ.out.more (c := S[q]) (by rw [← HSD.out]; exact byte_get S q hlt))
              go_wp2_with (first
                | (at_builtin; refine wpList_append_lies _ rfl (.tmp 53) (.tmp 61) 25 rfl w.heap.size 5 i0 _ 1 1 Tryd.underlying25 hi hz0 hz1 hz2 rfl (by omega) (.slice a3 es.length cp3) es.length (byteCells es) rfl (hown3.alloc _) ⟨wr.heap.size, 0, none⟩ 1 1 [.int .u8 (S[q].toNat : Int)] rfl rfl (At.news (At.new _ _ _)) (one1 rfl) (by omega) (by unfold maxLen; omega) (by omega) (by simp; omega) (wr.heap.size + 1) (by simp) ?_; intro g4 cap4 w4 hown4 hgrow4 hat4 hlt4))
              have hbw4 : Below w.heap.size w w4 := (hbw3.alloc hbw3.size _).grown hgrow4 (by simp; omega) (fun z hz => (own_lt hown3 hz).1)
              go_roundw
              case rel => exact ⟨q + 1, es ++ [S[q]], by omega, by go_num, HN, by simp; omega, by rw [byteCells_snoc, List.length_append]; exact hown4, hbw4⟩
              case measure => simp [intOf]; omega
            · have d3 : decide ((q : Int) < (S.size : Int)) = false := by simp; omega
              obtain rfl : q = S.size := by omega
              have HN := Lib.hid (show es ++ [0] = ds ++ Vx.encV x from by have h := HQ.out; rw [HSZ.out] at h; exact h.done HT.out)
              go_wp2_with (first
                | (at_builtin; refine wpList_append_lies _ rfl (.tmp 63) (.tmp 64) 25 rfl w.heap.size 5 i0 _ 1 1 Tryd.underlying25 hi hz0 hz1 hz2 rfl (by omega) (.slice a3 es.length cp3) es.length (byteCells es) rfl (hown3.alloc _) ⟨wr.heap.size, 0, none⟩ 1 1 [.int .u8 0] rfl rfl (At.news (At.new _ _ _)) (one1 rfl) (by omega) (by unfold maxLen; omega) (by omega) (by simp; omega) (wr.heap.size + 1) (by simp) ?_; intro g4 cap4 w4 hown4 hgrow4 hat4 hlt4))
              have hbw4 : Below w.heap.size w w4 := (hbw3.alloc hbw3.size _).grown hgrow4 (by simp; omega) (fun z hz => (own_lt hown3 hz).1)
              have hf : w4.ownsRow w.heap.size 5 1 (.slice (some ⟨g4, 0, none⟩) (es.length + 1) cap4) (ds ++ Vx.encV x).length (byteCells (ds ++ Vx.encV x)) := by rw [← HN.out, byteCells_snoc, List.length_append]; exact hown4
              go_roundw
              case rel => exact ⟨k + 1, ds ++ Vx.encV x, by omega, by go_num, HM, by have := HM.out.2.2; omega, hf, hbw4⟩
              case measure => simp [intOf]; omega
      · have d1 : decide ((k : Int) < (xs.length : Int)) = false := by simp; omega
        obtain rfl : k = xs.length := by omega
        have hR := Lib.hid HE.out.done
        go_wp2
        go_ret
        exact ⟨⟨_, rfl, by rw [hR.out]; exact hown⟩, hbw⟩
end Go.Proofs.YtagibdofpcbgiaaDoor
