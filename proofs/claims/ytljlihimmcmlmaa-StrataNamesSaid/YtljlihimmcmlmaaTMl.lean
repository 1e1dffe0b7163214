/- The walk of StrataMatchesReference. -/
import Derived.Test.YtljlihimmcmlmaaTEsa
import Derived.Test.YtljlihimmcmlmaaTHd
namespace Go.Proofs.Ytljlihimmcmlmaa
set_option linter.unusedVariables false
set_option linter.unusedSimpArgs false
open Go.RowKit
def LsV (L : List (List Nat)) : Value → World → Prop := fun v W => ∃ A c, v = .slice A L.length c ∧ LsAt W A L
theorem lsV_on {J : World → Prop} {L : List (List Nat)} : Lasting J Onward (LsV L) := fun v w w' _ hb ⟨A, c, e, h⟩ => ⟨A, c, e, h.below hb⟩
def DgV (D : List (Int × Int)) : Value → World → Prop := fun v W => ∃ A c, v = .slice A D.length c ∧ DgAt W A D
theorem dgV_on {J : World → Prop} {D : List (Int × Int)} : Lasting J Onward (DgV D) := fun v w w' _ hb ⟨A, c, e, h⟩ => ⟨A, c, e, h.below hb⟩
theorem ord_len (g : Tj.G) (n : Nat) : ∀ (f : Nat) (d : List Nat), (Tj.ord g n f d).length ≤ f
  | 0, d => by unfold Tj.ord; simp
  | f + 1, d => by
    unfold Tj.ord
    split
    · simp
    · have := ord_len g n f; simp [this]
theorem ord_rows (g : Tj.G) (n : Nat) : ∀ (f : Nat) (d : List Nat), ∀ c ∈ Tj.ord g n f d, c.length ≤ n
  | 0, d, c, hc => by unfold Tj.ord at hc; cases hc
  | f + 1, d, c, hc => by
    unfold Tj.ord at hc
    split at hc
    · cases hc
    · rcases List.mem_cons.1 hc with rfl | hc
      · unfold Tj.compOf
        exact Nat.le_trans (List.length_filter_le _ _) (by simp)
      · exact ord_rows g n f _ c hc
theorem bads_len (p : Pg) (T : Nat → Nat → Bool) : (bads p T).length ≤ 20 := by unfold bads; rw [List.length_take]; omega
theorem ins_rec {p : Pg} {n : Nat} (hf : PgFine p n) (x : Int) : (ins p x && Tj.mget (Tj.depends n (edges p)) x.toNat x.toNat) = (ins p x && srec (edges p) n x.toNat) := by
  cases hi : ins p x with
  | false => rfl
  | true =>
    obtain ⟨k, hk, rfl⟩ := ins_iff.1 hi
    rw [hf.hn] at hk
    rw [Int.toNat_natCast, srec_eq hf hk]
theorem ins_pos {p : Pg} {n : Nat} (hf : PgFine p n) (x : Int) : (ins p x && posA p (sees (Tj.depends n (edges p)) x.toNat) && posE p (sees (Tj.depends n (edges p)) x.toNat)) = (ins p x && spos p x.toNat) := by
  cases hi : ins p x with
  | false => rfl
  | true =>
    obtain ⟨k, hk, rfl⟩ := ins_iff.1 hi
    rw [hf.hn] at hk
    rw [Int.toNat_natCast, spos_eq hf hk, Bool.true_and, Bool.true_and]
set_option maxHeartbeats 4000000 in
set_option maxRecDepth 100000 in
theorem match_law (p : Pg) (x : Int) (w : World) (hp : PgOk w p) : Calls Try.prog 3 #[p.v, .int .i64 x] w fun e w' => e = .returned (.bool true) ∧ Below w.heap.size w w' := by
  have HH := Lib.hid (fun W => head_any W)
  have HS := Lib.hid (fun W (h : Below w.heap.size w W) => small_any p W (hp.below h))
  have HAT := Lib.hid (At.new w 27 p.vs)
  cases hsm : smallP p
  · rw [hsm] at HS
    unfold Pg.v at HS ⊢
    unfold Pg.vs at HAT
    clear hsm hp
    generalize p.ra = ra at *
    generalize p.pa = pa at *
    go_enter Try.func3, Try.ntmps3
    go_wp2_with (first
      | (go_at_call 10; refine (HH.out _).mono ?_; rintro e w2 ⟨rfl, hb2⟩; have hat2 := HAT.out.next hb2; have hbw2 : Below w.heap.size w w2 := (below1 _ _).trans (hb2.mono (by simp)); obtain ⟨p0, p1, p2, p3⟩ := pg_cells hat2)
      | (go_at_call 11; refine (HS.out _ hbw2).mono ?_; rintro e w3 ⟨rfl, hb3⟩; have hbw3 := hbw2.trans (hb3.mono hbw2.size)))
    go_ret
    exact ⟨rfl, hbw3⟩
  · rw [hsm] at HS
    obtain ⟨s1, s2, s3⟩ := smallP_iff.1 hsm
    obtain ⟨n, hn⟩ : ∃ n, p.prs.length = n := ⟨_, rfl⟩
    have hf := pgFine (p := p) (by omega) (by omega) (fun r hr => by have := s3 r hr; omega)
    rw [hn] at hf s1
    clear hsm s2 s3
    have HE := Lib.hid (fun W (h : Below w.heap.size w W) => edges_at p n W (hp.below h) hf)
    have HRE := Lib.hid (fun W (h : Below w.heap.size w W) => redges_at p n W (hp.below h) hf)
    have HC0 := Lib.hid (fun W (h : Below w.heap.size w W) => components_any p n W (hp.below h) hf)
    have HRC0 := Lib.hid (fun W (h : Below w.heap.size w W) => rcomponents_any p n W (hp.below h) hf.hn hf.n1 hf.rs hf.ls hf.el hf.es)
    have HR0 := Lib.hid (fun W (h : Below w.heap.size w W) => recursive_any p n x W (hp.below h) hf)
    have HRR0 := Lib.hid (fun W (h : Below w.heap.size w W) => rrecursive_any p n x W (hp.below h) hf)
    have HK10 := Lib.hid (fun W (h : Below w.heap.size w W) => check_any p n W (hp.below h) hf)
    have HK20 := Lib.hid (fun W (h : Below w.heap.size w W) => rcheck_any p n W (hp.below h) hf)
    have HP0 := Lib.hid (fun W (h : Below w.heap.size w W) => positive_any p n x W (hp.below h) hf)
    have HRP0 := Lib.hid (fun W (h : Below w.heap.size w W) => rpositive_any p n x W (hp.below h) hf)
    rw [comps_eq hf] at HRC0
    rw [ins_rec hf] at HRR0
    rw [ins_pos hf] at HRP0
    rw [← bads_eq hf] at HK20
    have hel := hf.el
    have hln := ord_len (Tj.next (edges p)) n n []
    have hrn := ord_rows (Tj.next (edges p)) n n []
    have hdn := bads_len p (sameC (Tj.whole (Tj.next (edges p)) n).of)
    generalize bads p (sameC (Tj.whole (Tj.next (edges p)) n).of) = D at *
    generalize Tj.ord (Tj.next (edges p)) n n [] = L at *
    generalize (ins p x && srec (edges p) n x.toNat) = r1 at *
    generalize (ins p x && spos p x.toNat) = r2 at *
    obtain ⟨es, hes0⟩ : ∃ es, edges p = es := ⟨_, rfl⟩
    rw [hes0] at HE HRE hel
    have HSM := Lib.hid (fun W A c B d (h1 : LsAt W A L) (h2 : LsAt W B L) => show Calls Try.prog 14 #[.slice A L.length c, .slice B L.length d] W (fun e w' => e = .returned (.bool true) ∧ Below W.heap.size W w') from by
      have := same_any A c L B d L W (by omega) (by omega) (fun r hr => by have := hrn r hr; omega) (fun r hr => by have := hrn r hr; omega) h1 h2
      rw [decide_eq_true rfl] at this
      exact this)
    have HSD := Lib.hid (fun W A c B d (h1 : DgAt W A D) (h2 : DgAt W B D) => show Calls Try.prog 19 #[.slice A D.length c, .slice B D.length d] W (fun e w' => e = .returned (.bool true) ∧ Below W.heap.size W w') from by
      have := sameDiags_any A c D B d D W (by omega) (by omega) h1 h2
      rw [decide_eq_true rfl] at this
      exact this)
    clear hes0 hf hp hrn hln hdn
    unfold Pg.v at HS HE HRE HC0 HRC0 HR0 HRR0 HK10 HK20 HP0 HRP0 ⊢
    unfold Pg.vs at HAT
    generalize p.ra = ra at *
    generalize p.pa = pa at *
    rw [hn] at HS HE HRE HC0 HRC0 HR0 HRR0 HK10 HK20 HP0 HRP0 HAT ⊢
    clear hn
    go_enter Try.func3, Try.ntmps3
    go_wp2_with (first
      | (go_at_call 10; refine (HH.out _).mono ?_; rintro e w2 ⟨rfl, hb2⟩; have hat2 := HAT.out.next hb2; have hbw2 : Below w.heap.size w w2 := (below1 _ _).trans (hb2.mono (by simp)); obtain ⟨p0, p1, p2, p3⟩ := pg_cells hat2)
      | (go_at_call 11; refine (HS.out _ hbw2).mono ?_; rintro e w3a ⟨rfl, hb3⟩; have hbw3 := hbw2.trans (hb3.mono hbw2.size); have hat3 := hat2.next hb3; clear p0 p1 p2 p3; obtain ⟨p0, p1, p2, p3⟩ := pg_cells hat3)
      | (go_at_call 12; refine (HE.out _ hbw3).mono ?_; rintro e w4 ⟨va, vc, ua, uc, rfl, hea, hb4⟩; have hbw4 := hbw3.trans (hb4.mono hbw3.size); have hat4 := hat3.next hb4; clear p0 p1 p2 p3; obtain ⟨p0, p1, p2, p3⟩ := pg_cells hat4)
      | (go_at_call 13; refine (HRE.out _ hbw4).mono ?_; rintro e w5 ⟨va', vc', ua', uc', rfl, hea', hb5⟩; have hbw5 := hbw4.trans (hb5.mono hbw4.size); have hat5 := hat4.next hb5; have hea5 := hea.below hb5))
    clear p0 p1 p2 p3 hb2 hbw2 hat2 hb3 hbw3 hat3 hb4 hbw4 hat4 hb5 hea HE HS HH HRE HAT
    have hlt5 := hat5.lt
    have HATX := Lib.hid (fun W (h : Below w5.heap.size w5 W) => pg_cells (hat5.next h))
    have HEA := Lib.hid (fun W (h : Below w5.heap.size w5 W) => hea5.below h)
    have HEB := Lib.hid (fun W (h : Below w5.heap.size w5 W) => hea'.below h)
    clear hea5 hea' hat5
    have t0 : ((es.length : Int) != (es.length : Int)) = false := by simp
    go_wp2_with fail
    go_loopw [10] (fun i wr => ∃ k : Nat, k ≤ es.length ∧ i = .int .i64 k ∧ Below w5.heap.size w5 wr) (fun i _ => es.length - (intOf i).toNat)
    case atStart => exact ⟨0, by omega, rfl, Below.refl _ _⟩
    case round =>
      clear t0
      obtain ⟨k, hk, rfl, hb⟩ := hrel
      by_cases h1 : k < es.length
      · have d1 : decide ((k : Int) < (es.length : Int)) = true := by simp; omega
        obtain ⟨e, he⟩ : ∃ e, es[k]? = some e := ⟨_, List.getElem?_eq_getElem h1⟩
        obtain ⟨g1, g2, rfl, rfl, hg1, hg2, y0, y1, y2⟩ := HEA.out _ hb k e he
        obtain ⟨g3, g4, rfl, rfl, hg3, hg4, y3, y4, y5⟩ := HEB.out _ hb k e he
        have i0 : (0 : Int) ≤ (k : Int) := by omega
        have i1 : (k : Int) < (es.length : Int) := by omega
        have tq : ∀ W, (Op.equalIn 10000 34 (.agg #[.int .i64 (e.a : Int), .int .i64 (e.b : Int)]) (.agg #[.int .i64 (e.a : Int), .int .i64 (e.b : Int)])).run Try.prog W = .ok true W := fun W => by
          rw [eq_pair]; simp
        have f0 : ∀ z : Held wr.heap.size wr, z.w.cell? ⟨g1, k * 2, none⟩ = some (.int .i64 (e.a : Int)) := fun z => z.cell hg1 y0
        have f1 : ∀ z : Held wr.heap.size wr, z.w.cell? ⟨g1, k * 2 + 1, none⟩ = some (.int .i64 (e.b : Int)) := fun z => z.cell hg1 y1
        have f2 : ∀ z : Held wr.heap.size wr, z.w.cell? ⟨g2, k, none⟩ = some (.bool e.g) := fun z => z.cell hg2 y2
        have f3 : ∀ z : Held wr.heap.size wr, z.w.cell? ⟨g3, k * 2, none⟩ = some (.int .i64 (e.a : Int)) := fun z => z.cell hg3 y3
        have f4 : ∀ z : Held wr.heap.size wr, z.w.cell? ⟨g3, k * 2 + 1, none⟩ = some (.int .i64 (e.b : Int)) := fun z => z.cell hg3 y4
        have f5 : ∀ z : Held wr.heap.size wr, z.w.cell? ⟨g4, k, none⟩ = some (.bool e.g) := fun z => z.cell hg4 y5
        clear he y0 y1 y2 y3 y4 y5
        generalize e.g = z at *
        cases z
        · go_wp2_with fail
          refine wp_region_held wr.heap.size wr (Below.refl _ _) (by kernel_rfl) (by kernel_rfl) ?_
          repeat (go_big_quiet_step (fail))
          refine wpQuiet_nil ?_
          rintro wt ⟨⟨_, bt⟩, rfl⟩
          have hb := hb.trans (bt.mono hb.size)
          go_wp2_with fail
          go_roundw
          case rel => exact ⟨k + 1, by omega, by go_num, hb⟩
          case measure => simp [intOf]; omega
        · go_wp2_with fail
          refine wp_region_held wr.heap.size wr (Below.refl _ _) (by kernel_rfl) (by kernel_rfl) ?_
          repeat (go_big_quiet_step (fail))
          refine wpQuiet_nil ?_
          rintro wt ⟨⟨_, bt⟩, rfl⟩
          have hb := hb.trans (bt.mono hb.size)
          go_wp2_with fail
          go_roundw
          case rel => exact ⟨k + 1, by omega, by go_num, hb⟩
          case measure => simp [intOf]; omega
      · have d1 : decide ((k : Int) < (es.length : Int)) = false := by simp; omega
        obtain ⟨wv, hwv⟩ : ∃ wv, wv = wr := ⟨_, rfl⟩
        subst hwv
        have hbv := hbw5.trans (hb.mono hbw5.size)
        have HCX := Lib.hid (fun W (h : Below wv.heap.size wv W) => HATX.out W (hb.trans (h.mono hb.size)))
        have HC := Lib.hid (fun W (h : Below wv.heap.size wv W) => HC0.out W (hbv.trans (h.mono hbv.size)))
        have HRC := Lib.hid (fun W (h : Below wv.heap.size wv W) => HRC0.out W (hbv.trans (h.mono hbv.size)))
        have HR := Lib.hid (fun W (h : Below wv.heap.size wv W) => HR0.out W (hbv.trans (h.mono hbv.size)))
        have HRR := Lib.hid (fun W (h : Below wv.heap.size wv W) => HRR0.out W (hbv.trans (h.mono hbv.size)))
        have HK1 := Lib.hid (fun W (h : Below wv.heap.size wv W) => HK10.out W (hbv.trans (h.mono hbv.size)))
        have HK2 := Lib.hid (fun W (h : Below wv.heap.size wv W) => HK20.out W (hbv.trans (h.mono hbv.size)))
        have HP := Lib.hid (fun W (h : Below wv.heap.size wv W) => HP0.out W (hbv.trans (h.mono hbv.size)))
        have HRP := Lib.hid (fun W (h : Below wv.heap.size wv W) => HRP0.out W (hbv.trans (h.mono hbv.size)))
        clear HC0 HRC0 HR0 HRR0 HK10 HK20 HP0 HRP0 HATX HEA HEB hb
        have b1 : (r1 == r1) = true := by simp
        have b2 : (r2 == r2) = true := by simp
        go_wp2_with fail
        refine' wp_region_each _ (Below wv.heap.size wv) (Onward) (Vl :: Vl :: Vl :: LsV L :: Vl :: LsV L :: Vl :: Vl :: Vl :: Vl :: Vl :: Vl :: Vl :: Vl :: Vl :: Vl :: Vl :: Vl :: Vl :: DgV D :: Vl :: DgV D :: Vl :: Vl :: Vl :: Vl :: Vl :: Vl :: Vl :: Vl :: Vl :: Vl :: Vl :: Vl :: []) ?hF (by kernel_rfl) (by kernel_rfl) (by kernel_rfl) ((Below.refl _ _).drew) (lasting_cons (lasting_vl) (lasting_cons (lasting_vl) (lasting_cons (lasting_vl) (lasting_cons (lsV_on) (lasting_cons (lasting_vl) (lasting_cons (lsV_on) (lasting_cons (lasting_vl) (lasting_cons (lasting_vl) (lasting_cons (lasting_vl) (lasting_cons (lasting_vl) (lasting_cons (lasting_vl) (lasting_cons (lasting_vl) (lasting_cons (lasting_vl) (lasting_cons (lasting_vl) (lasting_cons (lasting_vl) (lasting_cons (lasting_vl) (lasting_cons (lasting_vl) (lasting_cons (lasting_vl) (lasting_cons (lasting_vl) (lasting_cons (dgV_on) (lasting_cons (lasting_vl) (lasting_cons (dgV_on) (lasting_cons (lasting_vl) (lasting_cons (lasting_vl) (lasting_cons (lasting_vl) (lasting_cons (lasting_vl) (lasting_cons (lasting_vl) (lasting_cons (lasting_vl) (lasting_cons (lasting_vl) (lasting_cons (lasting_vl) (lasting_cons (lasting_vl) (lasting_cons (lasting_vl) (lasting_cons (lasting_vl) (lasting_cons (lasting_vl) (lasting_none))))))))))))))))))))))))))))))))))) ?hops ?hend
        case hF => (intro v; simp only [over, Act.put, List.setIfInBounds_toArray, List.set_cons_zero, List.set_cons_succ, Nat.zero_add, Nat.reduceAdd]; exact rfl)
        case hops =>
          refine ⟨?_, ?_⟩
          · intro v w' hj hd hs K hK
            have hk := hK.out
            simp only [Act.put, List.setIfInBounds_toArray, List.set_cons_zero, List.set_cons_succ] at hk
            have HK := Lib.hid hk
            clear hd hs hk hK
            go_simp
            exact HK.out _ _ hj.out (Below.refl _ _) (show _ = _ from rfl)
          refine ⟨?_, ?_⟩
          · intro v w' hj hd hs K hK
            have t0 : v 0 = _ := hd.out 0 (by kernel_rfl)
            have hk := hK.out
            simp only [t0, Act.put, List.setIfInBounds_toArray, List.set_cons_zero, List.set_cons_succ] at hk
            have HK := Lib.hid hk
            clear hd hs hk hK
            go_simp
            exact HK.out _ _ hj.out (Below.refl _ _) (show _ = _ from rfl)
          refine ⟨?_, ?_⟩
          · intro v w' hj hd hs K hK
            have t1 : v 1 = _ := hd.out 1 (by kernel_rfl)
            obtain ⟨p0, p1, p2, p3⟩ := HCX.out _ hj.out
            have hk := hK.out
            simp only [t1, Act.put, List.setIfInBounds_toArray, List.set_cons_zero, List.set_cons_succ] at hk
            have HK := Lib.hid hk
            clear hd hs hk hK
            go_simp
            exact HK.out _ _ hj.out (Below.refl _ _) (show _ = _ from rfl)
          refine ⟨?_, ?_⟩
          · intro v w' hj hd hs K hK
            have t1 : v 1 = _ := hd.out 1 (by kernel_rfl)
            have t2 : v 2 = _ := hd.out 2 (by kernel_rfl)
            have hk := hK.out
            simp only [t1, t2, Act.put, List.setIfInBounds_toArray, List.set_cons_zero, List.set_cons_succ] at hk
            have HK := Lib.hid hk
            clear hd hs hk hK
            go_simp
            refine (HC.out w' hj.out).mono ?_
            rintro e w5 ⟨A, c, rfl, hA, hb⟩
            exact HK.out _ _ (hj.out.trans (hb.mono hj.out.size)) hb ⟨A, c, rfl, hA⟩
          refine ⟨?_, ?_⟩
          · intro v w' hj hd hs K hK
            have t1 : v 1 = _ := hd.out 1 (by kernel_rfl)
            obtain ⟨p0, p1, p2, p3⟩ := HCX.out _ hj.out
            have hk := hK.out
            simp only [t1, Act.put, List.setIfInBounds_toArray, List.set_cons_zero, List.set_cons_succ] at hk
            have HK := Lib.hid hk
            clear hd hs hk hK
            go_simp
            exact HK.out _ _ hj.out (Below.refl _ _) (show _ = _ from rfl)
          refine ⟨?_, ?_⟩
          · intro v w' hj hd hs K hK
            have t1 : v 1 = _ := hd.out 1 (by kernel_rfl)
            have t4 : v 4 = _ := hd.out 4 (by kernel_rfl)
            have hk := hK.out
            simp only [t1, t4, Act.put, List.setIfInBounds_toArray, List.set_cons_zero, List.set_cons_succ] at hk
            have HK := Lib.hid hk
            clear hd hs hk hK
            go_simp
            refine (HRC.out w' hj.out).mono ?_
            rintro e w5 ⟨A, c, rfl, hA, hb⟩
            exact HK.out _ _ (hj.out.trans (hb.mono hj.out.size)) hb ⟨A, c, rfl, hA⟩
          refine ⟨?_, ?_⟩
          · intro v w' hj hd hs K hK
            have t1 : v 1 = _ := hd.out 1 (by kernel_rfl)
            obtain ⟨A3, c3, t3, hA3⟩ := hd.out 3 (by kernel_rfl)
            obtain ⟨A5, c5, t5, hA5⟩ := hd.out 5 (by kernel_rfl)
            have hk := hK.out
            simp only [t1, t3, t5, Act.put, List.setIfInBounds_toArray, List.set_cons_zero, List.set_cons_succ] at hk
            have HK := Lib.hid hk
            clear hd hs hk hK
            go_simp
            refine (HSM.out w' _ _ _ _ hA3 hA5).mono ?_
            rintro e w5 ⟨rfl, hb⟩
            exact HK.out _ _ (hj.out.trans (hb.mono hj.out.size)) hb (show _ = _ from rfl)
          refine ⟨?_, ?_⟩
          · intro v w' hj hd hs K hK
            have t1 : v 1 = _ := hd.out 1 (by kernel_rfl)
            have t6 : v 6 = _ := hd.out 6 (by kernel_rfl)
            have hk := hK.out
            simp only [t1, t6, Act.put, List.setIfInBounds_toArray, List.set_cons_zero, List.set_cons_succ] at hk
            have HK := Lib.hid hk
            clear hd hs hk hK
            go_simp
            exact HK.out _ _ hj.out (Below.refl _ _) (show _ = _ from rfl)
          refine ⟨?_, ?_⟩
          · intro v w' hj hd hs K hK
            have t7 : v 7 = _ := hd.out 7 (by kernel_rfl)
            have hk := hK.out
            simp only [t7, Act.put, List.setIfInBounds_toArray, List.set_cons_zero, List.set_cons_succ] at hk
            have HK := Lib.hid hk
            clear hd hs hk hK
            go_simp
            exact HK.out _ _ hj.out (Below.refl _ _) (show _ = _ from rfl)
          refine ⟨?_, ?_⟩
          · intro v w' hj hd hs K hK
            have t8 : v 8 = _ := hd.out 8 (by kernel_rfl)
            obtain ⟨p0, p1, p2, p3⟩ := HCX.out _ hj.out
            have hk := hK.out
            simp only [t8, Act.put, List.setIfInBounds_toArray, List.set_cons_zero, List.set_cons_succ] at hk
            have HK := Lib.hid hk
            clear hd hs hk hK
            go_simp
            exact HK.out _ _ hj.out (Below.refl _ _) (show _ = _ from rfl)
          refine ⟨?_, ?_⟩
          · intro v w' hj hd hs K hK
            have t8 : v 8 = _ := hd.out 8 (by kernel_rfl)
            have hk := hK.out
            simp only [t8, Act.put, List.setIfInBounds_toArray, List.set_cons_zero, List.set_cons_succ] at hk
            have HK := Lib.hid hk
            clear hd hs hk hK
            go_simp
            exact HK.out _ _ hj.out (Below.refl _ _) (show _ = _ from rfl)
          refine ⟨?_, ?_⟩
          · intro v w' hj hd hs K hK
            have t8 : v 8 = _ := hd.out 8 (by kernel_rfl)
            have t9 : v 9 = _ := hd.out 9 (by kernel_rfl)
            have t10 : v 10 = _ := hd.out 10 (by kernel_rfl)
            have hk := hK.out
            simp only [t8, t9, t10, Act.put, List.setIfInBounds_toArray, List.set_cons_zero, List.set_cons_succ] at hk
            have HK := Lib.hid hk
            clear hd hs hk hK
            go_simp
            refine (HR.out w' hj.out).mono ?_
            rintro e w5 ⟨rfl, hb⟩
            exact HK.out _ _ (hj.out.trans (hb.mono hj.out.size)) hb (show _ = _ from rfl)
          refine ⟨?_, ?_⟩
          · intro v w' hj hd hs K hK
            have t8 : v 8 = _ := hd.out 8 (by kernel_rfl)
            obtain ⟨p0, p1, p2, p3⟩ := HCX.out _ hj.out
            have hk := hK.out
            simp only [t8, Act.put, List.setIfInBounds_toArray, List.set_cons_zero, List.set_cons_succ] at hk
            have HK := Lib.hid hk
            clear hd hs hk hK
            go_simp
            exact HK.out _ _ hj.out (Below.refl _ _) (show _ = _ from rfl)
          refine ⟨?_, ?_⟩
          · intro v w' hj hd hs K hK
            have t8 : v 8 = _ := hd.out 8 (by kernel_rfl)
            have hk := hK.out
            simp only [t8, Act.put, List.setIfInBounds_toArray, List.set_cons_zero, List.set_cons_succ] at hk
            have HK := Lib.hid hk
            clear hd hs hk hK
            go_simp
            exact HK.out _ _ hj.out (Below.refl _ _) (show _ = _ from rfl)
          refine ⟨?_, ?_⟩
          · intro v w' hj hd hs K hK
            have t8 : v 8 = _ := hd.out 8 (by kernel_rfl)
            have t12 : v 12 = _ := hd.out 12 (by kernel_rfl)
            have t13 : v 13 = _ := hd.out 13 (by kernel_rfl)
            have hk := hK.out
            simp only [t8, t12, t13, Act.put, List.setIfInBounds_toArray, List.set_cons_zero, List.set_cons_succ] at hk
            have HK := Lib.hid hk
            clear hd hs hk hK
            go_simp
            refine (HRR.out w' hj.out).mono ?_
            rintro e w5 ⟨rfl, hb⟩
            exact HK.out _ _ (hj.out.trans (hb.mono hj.out.size)) hb (show _ = _ from rfl)
          refine ⟨?_, ?_⟩
          · intro v w' hj hd hs K hK
            have t8 : v 8 = _ := hd.out 8 (by kernel_rfl)
            have t11 : v 11 = _ := hd.out 11 (by kernel_rfl)
            have t14 : v 14 = _ := hd.out 14 (by kernel_rfl)
            have hk := hK.out
            simp only [t8, t11, t14, Act.put, List.setIfInBounds_toArray, List.set_cons_zero, List.set_cons_succ] at hk
            have HK := Lib.hid hk
            clear hd hs hk hK
            go_simp
            exact HK.out _ _ hj.out (Below.refl _ _) (show _ = _ from rfl)
          refine ⟨?_, ?_⟩
          · intro v w' hj hd hs K hK
            have t8 : v 8 = _ := hd.out 8 (by kernel_rfl)
            have t15 : v 15 = _ := hd.out 15 (by kernel_rfl)
            have hk := hK.out
            simp only [t8, t15, Act.put, List.setIfInBounds_toArray, List.set_cons_zero, List.set_cons_succ] at hk
            have HK := Lib.hid hk
            clear hd hs hk hK
            go_simp
            exact HK.out _ _ hj.out (Below.refl _ _) (show _ = _ from rfl)
          refine ⟨?_, ?_⟩
          · intro v w' hj hd hs K hK
            have t16 : v 16 = _ := hd.out 16 (by kernel_rfl)
            have hk := hK.out
            simp only [t16, Act.put, List.setIfInBounds_toArray, List.set_cons_zero, List.set_cons_succ] at hk
            have HK := Lib.hid hk
            clear hd hs hk hK
            go_simp
            exact HK.out _ _ hj.out (Below.refl _ _) (show _ = _ from rfl)
          refine ⟨?_, ?_⟩
          · intro v w' hj hd hs K hK
            have t17 : v 17 = _ := hd.out 17 (by kernel_rfl)
            obtain ⟨p0, p1, p2, p3⟩ := HCX.out _ hj.out
            have hk := hK.out
            simp only [t17, Act.put, List.setIfInBounds_toArray, List.set_cons_zero, List.set_cons_succ] at hk
            have HK := Lib.hid hk
            clear hd hs hk hK
            go_simp
            exact HK.out _ _ hj.out (Below.refl _ _) (show _ = _ from rfl)
          refine ⟨?_, ?_⟩
          · intro v w' hj hd hs K hK
            have t17 : v 17 = _ := hd.out 17 (by kernel_rfl)
            have t18 : v 18 = _ := hd.out 18 (by kernel_rfl)
            have hk := hK.out
            simp only [t17, t18, Act.put, List.setIfInBounds_toArray, List.set_cons_zero, List.set_cons_succ] at hk
            have HK := Lib.hid hk
            clear hd hs hk hK
            go_simp
            refine (HK1.out w' hj.out).mono ?_
            rintro e w5 ⟨A, c, rfl, hA, hb⟩
            exact HK.out _ _ (hj.out.trans (hb.mono hj.out.size)) hb ⟨A, c, rfl, hA⟩
          refine ⟨?_, ?_⟩
          · intro v w' hj hd hs K hK
            have t17 : v 17 = _ := hd.out 17 (by kernel_rfl)
            obtain ⟨p0, p1, p2, p3⟩ := HCX.out _ hj.out
            have hk := hK.out
            simp only [t17, Act.put, List.setIfInBounds_toArray, List.set_cons_zero, List.set_cons_succ] at hk
            have HK := Lib.hid hk
            clear hd hs hk hK
            go_simp
            exact HK.out _ _ hj.out (Below.refl _ _) (show _ = _ from rfl)
          refine ⟨?_, ?_⟩
          · intro v w' hj hd hs K hK
            have t17 : v 17 = _ := hd.out 17 (by kernel_rfl)
            have t20 : v 20 = _ := hd.out 20 (by kernel_rfl)
            have hk := hK.out
            simp only [t17, t20, Act.put, List.setIfInBounds_toArray, List.set_cons_zero, List.set_cons_succ] at hk
            have HK := Lib.hid hk
            clear hd hs hk hK
            go_simp
            refine (HK2.out w' hj.out).mono ?_
            rintro e w5 ⟨A, c, rfl, hA, hb⟩
            exact HK.out _ _ (hj.out.trans (hb.mono hj.out.size)) hb ⟨A, c, rfl, hA⟩
          refine ⟨?_, ?_⟩
          · intro v w' hj hd hs K hK
            have t17 : v 17 = _ := hd.out 17 (by kernel_rfl)
            obtain ⟨A19, c19, t19, hA19⟩ := hd.out 19 (by kernel_rfl)
            obtain ⟨A21, c21, t21, hA21⟩ := hd.out 21 (by kernel_rfl)
            have hk := hK.out
            simp only [t17, t19, t21, Act.put, List.setIfInBounds_toArray, List.set_cons_zero, List.set_cons_succ] at hk
            have HK := Lib.hid hk
            clear hd hs hk hK
            go_simp
            refine (HSD.out w' _ _ _ _ hA19 hA21).mono ?_
            rintro e w5 ⟨rfl, hb⟩
            exact HK.out _ _ (hj.out.trans (hb.mono hj.out.size)) hb (show _ = _ from rfl)
          refine ⟨?_, ?_⟩
          · intro v w' hj hd hs K hK
            have t17 : v 17 = _ := hd.out 17 (by kernel_rfl)
            have t22 : v 22 = _ := hd.out 22 (by kernel_rfl)
            have hk := hK.out
            simp only [t17, t22, Act.put, List.setIfInBounds_toArray, List.set_cons_zero, List.set_cons_succ] at hk
            have HK := Lib.hid hk
            clear hd hs hk hK
            go_simp
            exact HK.out _ _ hj.out (Below.refl _ _) (show _ = _ from rfl)
          refine ⟨?_, ?_⟩
          · intro v w' hj hd hs K hK
            have t23 : v 23 = _ := hd.out 23 (by kernel_rfl)
            have hk := hK.out
            simp only [t23, Act.put, List.setIfInBounds_toArray, List.set_cons_zero, List.set_cons_succ] at hk
            have HK := Lib.hid hk
            clear hd hs hk hK
            go_simp
            exact HK.out _ _ hj.out (Below.refl _ _) (show _ = _ from rfl)
          refine ⟨?_, ?_⟩
          · intro v w' hj hd hs K hK
            have t24 : v 24 = _ := hd.out 24 (by kernel_rfl)
            obtain ⟨p0, p1, p2, p3⟩ := HCX.out _ hj.out
            have hk := hK.out
            simp only [t24, Act.put, List.setIfInBounds_toArray, List.set_cons_zero, List.set_cons_succ] at hk
            have HK := Lib.hid hk
            clear hd hs hk hK
            go_simp
            exact HK.out _ _ hj.out (Below.refl _ _) (show _ = _ from rfl)
          refine ⟨?_, ?_⟩
          · intro v w' hj hd hs K hK
            have t24 : v 24 = _ := hd.out 24 (by kernel_rfl)
            have hk := hK.out
            simp only [t24, Act.put, List.setIfInBounds_toArray, List.set_cons_zero, List.set_cons_succ] at hk
            have HK := Lib.hid hk
            clear hd hs hk hK
            go_simp
            exact HK.out _ _ hj.out (Below.refl _ _) (show _ = _ from rfl)
          refine ⟨?_, ?_⟩
          · intro v w' hj hd hs K hK
            have t24 : v 24 = _ := hd.out 24 (by kernel_rfl)
            have t25 : v 25 = _ := hd.out 25 (by kernel_rfl)
            have t26 : v 26 = _ := hd.out 26 (by kernel_rfl)
            have hk := hK.out
            simp only [t24, t25, t26, Act.put, List.setIfInBounds_toArray, List.set_cons_zero, List.set_cons_succ] at hk
            have HK := Lib.hid hk
            clear hd hs hk hK
            go_simp
            refine (HP.out w' hj.out).mono ?_
            rintro e w5 ⟨rfl, hb⟩
            exact HK.out _ _ (hj.out.trans (hb.mono hj.out.size)) hb (show _ = _ from rfl)
          refine ⟨?_, ?_⟩
          · intro v w' hj hd hs K hK
            have t24 : v 24 = _ := hd.out 24 (by kernel_rfl)
            obtain ⟨p0, p1, p2, p3⟩ := HCX.out _ hj.out
            have hk := hK.out
            simp only [t24, Act.put, List.setIfInBounds_toArray, List.set_cons_zero, List.set_cons_succ] at hk
            have HK := Lib.hid hk
            clear hd hs hk hK
            go_simp
            exact HK.out _ _ hj.out (Below.refl _ _) (show _ = _ from rfl)
          refine ⟨?_, ?_⟩
          · intro v w' hj hd hs K hK
            have t24 : v 24 = _ := hd.out 24 (by kernel_rfl)
            have hk := hK.out
            simp only [t24, Act.put, List.setIfInBounds_toArray, List.set_cons_zero, List.set_cons_succ] at hk
            have HK := Lib.hid hk
            clear hd hs hk hK
            go_simp
            exact HK.out _ _ hj.out (Below.refl _ _) (show _ = _ from rfl)
          refine ⟨?_, ?_⟩
          · intro v w' hj hd hs K hK
            have t24 : v 24 = _ := hd.out 24 (by kernel_rfl)
            have t28 : v 28 = _ := hd.out 28 (by kernel_rfl)
            have t29 : v 29 = _ := hd.out 29 (by kernel_rfl)
            have hk := hK.out
            simp only [t24, t28, t29, Act.put, List.setIfInBounds_toArray, List.set_cons_zero, List.set_cons_succ] at hk
            have HK := Lib.hid hk
            clear hd hs hk hK
            go_simp
            refine (HRP.out w' hj.out).mono ?_
            rintro e w5 ⟨rfl, hb⟩
            exact HK.out _ _ (hj.out.trans (hb.mono hj.out.size)) hb (show _ = _ from rfl)
          refine ⟨?_, ?_⟩
          · intro v w' hj hd hs K hK
            have t24 : v 24 = _ := hd.out 24 (by kernel_rfl)
            have t27 : v 27 = _ := hd.out 27 (by kernel_rfl)
            have t30 : v 30 = _ := hd.out 30 (by kernel_rfl)
            have hk := hK.out
            simp only [t24, t27, t30, Act.put, List.setIfInBounds_toArray, List.set_cons_zero, List.set_cons_succ] at hk
            have HK := Lib.hid hk
            clear hd hs hk hK
            go_simp
            exact HK.out _ _ hj.out (Below.refl _ _) (show _ = _ from rfl)
          refine ⟨?_, ?_⟩
          · intro v w' hj hd hs K hK
            have t24 : v 24 = _ := hd.out 24 (by kernel_rfl)
            have t31 : v 31 = _ := hd.out 31 (by kernel_rfl)
            have hk := hK.out
            simp only [t24, t31, Act.put, List.setIfInBounds_toArray, List.set_cons_zero, List.set_cons_succ] at hk
            have HK := Lib.hid hk
            clear hd hs hk hK
            go_simp
            exact HK.out _ _ hj.out (Below.refl _ _) (show _ = _ from rfl)
          refine ⟨?_, ?_⟩
          · intro v w' hj hd hs K hK
            have t32 : v 32 = _ := hd.out 32 (by kernel_rfl)
            have hk := hK.out
            simp only [t32, Act.put, List.setIfInBounds_toArray, List.set_cons_zero, List.set_cons_succ] at hk
            have HK := Lib.hid hk
            clear hd hs hk hK
            go_simp
            exact HK.out _ _ hj.out (Below.refl _ _) (show _ = _ from rfl)
          trivial
        case hend =>
          intro v w7 hj hd
          have t33 : v 33 = _ := hd.out 33 (of_decide_eq_true (by kernel_rfl))
          simp only [t33]
          have hb7 := hbv.trans (hj.out.mono hbv.size)
          clear hj hd t33
          go_wp2_with fail
          go_ret
          exact ⟨rfl, hb7⟩
end Go.Proofs.Ytljlihimmcmlmaa
