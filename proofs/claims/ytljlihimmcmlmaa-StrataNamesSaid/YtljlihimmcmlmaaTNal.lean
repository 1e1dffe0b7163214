/- The walk of StrataNames. -/
import Derived.Test.YtljlihimmcmlmaaTTuw
import Derived.Test.YtljlihimmcmlmaaTRea
import Derived.Test.YtljlihimmcmlmaaTNum
namespace Go.Proofs.Ytljlihimmcmlmaa
set_option linter.unusedVariables false
set_option linter.unusedSimpArgs false
open Go.RowKit
def NumV (n : Nat) (M : List Nat) : Value → World → Prop := fun v W => ∃ b, v = .slice (some ⟨b, 0, none⟩) n n ∧ At W b 3 (ncells M).toArray
theorem numV_on {J : World → Prop} {n : Nat} {M : List Nat} : Lasting J Onward (NumV n M) := fun v w w' _ hb ⟨b, e, h⟩ => ⟨b, e, h.next hb⟩
def TupV (n : Nat) (M : List Nat) : Value → World → Prop := fun v W => ∃ b, v = .tuple #[.slice (some ⟨b, 0, none⟩) n n, .bool true] ∧ At W b 3 (ncells M).toArray
theorem tupV_on {J : World → Prop} {n : Nat} {M : List Nat} : Lasting J Onward (TupV n M) := fun v w w' _ hb ⟨b, e, h⟩ => ⟨b, e, h.next hb⟩
theorem nat_ins {p : Pg} {n a : Nat} (hn : p.prs.length = n) (ha : a < n) : ins p (a : Int) = true := by
  unfold ins; rw [hn]; simp; omega
set_option maxHeartbeats 4000000 in
set_option maxRecDepth 100000 in
theorem names_law (p : Pg) (x1 : Int) (w : World) (hp : PgOk w p) (hnil : NilOk p) (hx1 : ∃ a : Nat, x1 = (a : Int) ∧ a < 256) : Calls Try.prog 8 #[p.v, .int .u8 x1] w fun e w' => e = .returned (.bool true) ∧ Below w.heap.size w w' := by
  obtain ⟨tn, rfl, htn⟩ := hx1
  have HH := Lib.hid (fun W => head_any W)
  have HS := Lib.hid (fun W (h : Below w.heap.size w W) => small_any p W (hp.below h))
  have HAT := Lib.hid (At.new w 27 p.vs)
  cases hsm : smallP p
  · rw [hsm] at HS
    unfold Pg.v at HS ⊢
    unfold Pg.vs at HAT
    clear hsm hp hnil
    generalize p.ra = ra at *
    generalize p.pa = pa at *
    go_enter Try.func8, Try.ntmps8
    go_wp2_with (first
      | (go_at_call 10; refine (HH.out _).mono ?_; rintro e w2 ⟨rfl, hb2⟩; have hat2 := HAT.out.next hb2; have hbw2 : Below w.heap.size w w2 := (below1 _ _).trans (hb2.mono (by simp)); obtain ⟨p0, p1, p2, p3⟩ := pg_cells hat2)
      | (go_at_call 11; refine (HS.out _ hbw2).mono ?_; rintro e w3 ⟨rfl, hb3⟩; have hbw3 := hbw2.trans (hb3.mono hbw2.size)))
    go_ret
    exact ⟨rfl, hbw3⟩
  · rw [hsm] at HS
    obtain ⟨n, hn⟩ : ∃ n, p.prs.length = n := ⟨_, rfl⟩
    rcases Nat.eq_zero_or_pos n with hn0 | hn0
    · subst hn0
      unfold Pg.v at HS ⊢
      unfold Pg.vs at HAT
      clear hsm hp hnil
      generalize p.ra = ra at *
      generalize p.pa = pa at *
      rw [hn] at HS HAT ⊢
      go_enter Try.func8, Try.ntmps8
      go_wp2_with (first
        | (go_at_call 10; refine (HH.out _).mono ?_; rintro e w2 ⟨rfl, hb2⟩; have hat2 := HAT.out.next hb2; have hbw2 : Below w.heap.size w w2 := (below1 _ _).trans (hb2.mono (by simp)); obtain ⟨p0, p1, p2, p3⟩ := pg_cells hat2)
        | (go_at_call 11; refine (HS.out _ hbw2).mono ?_; rintro e w3 ⟨rfl, hb3⟩; have hbw3 := hbw2.trans (hb3.mono hbw2.size)))
      go_ret
      exact ⟨rfl, hbw3⟩
    · obtain ⟨s1, s2, s3⟩ := smallP_iff.1 hsm
      have hf := pgFine (p := p) (by omega) (by omega) (fun r hr => by have := s3 r hr; omega)
      rw [hn] at hf s1
      clear hsm s3
      have hkn : tn % n < n := Nat.mod_lt _ hn0
      obtain ⟨k, hk⟩ : ∃ k, tn % n = k := ⟨_, rfl⟩
      rw [hk] at hkn
      have hrk : Int.tmod (tn : Int) (n : Int) = (k : Int) := by
        rw [← hk, Int.tmod_eq_emod_of_nonneg (by omega)]; exact (Int.natCast_emod _ _).symm
      have HTU := Lib.hid (fun W (h : Below w.heap.size w W) => turned_any p n k W (hp.below h) hnil hn hkn hf.n1 hf.rs hf.ls)
      have HC0 := Lib.hid (fun W (h : Below w.heap.size w W) => components_any p n W (hp.below h) hf)
      have hLY : Tj.Lay (Tj.next (edges p)) n (Tj.ord (Tj.next (edges p)) n n []) := Tj.ord_lay0
      have HN0 := Lib.hid (fun W A c (hA : LsAt W A (Tj.ord (Tj.next (edges p)) n n [])) => number_any p n A c _ W hn (by omega) hA hLY)
      have HK10 := Lib.hid (fun W (h : Below w.heap.size w W) => check_any p n W (hp.below h) hf)
      have HR10 := Lib.hid (fun W (h : Below w.heap.size w W) (a : Nat) (ha : a < n) => show Calls Try.prog 17 #[p.v, .int .i64 (a : Int)] W (fun e w' => e = .returned (.bool (srec (edges p) n a)) ∧ Below W.heap.size W w') from by
        have h2 := recursive_any p n (a : Int) W (hp.below h) hf
        rw [nat_ins hn ha, Bool.true_and, Int.toNat_natCast] at h2
        exact h2)
      have HP10 := Lib.hid (fun W (h : Below w.heap.size w W) (a : Nat) (ha : a < n) => show Calls Try.prog 22 #[p.v, .int .i64 (a : Int)] W (fun e w' => e = .returned (.bool (spos p a)) ∧ Below W.heap.size W w') from by
        have h2 := positive_any p n (a : Int) W (hp.below h) hf
        rw [nat_ins hn ha, Bool.true_and, Int.toNat_natCast] at h2
        exact h2)
      have hdl := bads_len p (sameC (Tj.whole (Tj.next (edges p)) n).of)
      have HF := Lib.hid hf
      have HLY := Lib.hid hLY
      have HQQ := Lib.hid (fun (q : Pg) (ht : Turn p q n k) => (⟨ht.fine hf, ht.bads hf, fun a ha => ht.srec hf ha, fun a ha => ht.spos hf ha, fun M (hM : Tj.Lay (Tj.next (edges q)) n M) x y hx hy => ht.rows hf hLY hM hx hy⟩ : PgFine q n ∧ bads q (sameC (Tj.whole (Tj.next (edges q)) n).of) = bads p (sameC (Tj.whole (Tj.next (edges p)) n).of) ∧ (∀ a, a < n → srec (edges q) n (rot n k a) = srec (edges p) n a) ∧ (∀ a, a < n → spos q (rot n k a) = spos p a) ∧ (∀ M, Tj.Lay (Tj.next (edges q)) n M → ∀ x y, x < n → y < n → (Tj.rowOf M (rot n k x) = Tj.rowOf M (rot n k y) ↔ Tj.rowOf (Tj.ord (Tj.next (edges p)) n n []) x = Tj.rowOf (Tj.ord (Tj.next (edges p)) n n []) y))))
      generalize bads p (sameC (Tj.whole (Tj.next (edges p)) n).of) = D at *
      have HSD := Lib.hid (fun W A c B d (h1 : DgAt W A D) (h2 : DgAt W B D) => show Calls Try.prog 19 #[.slice A D.length c, .slice B D.length d] W (fun e w' => e = .returned (.bool true) ∧ Below W.heap.size W w') from by
        have := sameDiags_any A c D B d D W (by omega) (by omega) h1 h2
        rw [decide_eq_true rfl] at this
        exact this)
      generalize Tj.ord (Tj.next (edges p)) n n [] = L at *
      generalize srec (edges p) n = rec at *
      generalize spos p = pos at *
      clear hf hp hnil hLY hdl
      have t0 : ((n : Int) == 0) = false := by rw [beq_eq_false_iff_ne]; omega
      have t0' : ¬ n = 0 := by omega
      have jt : IntKind.i64.wrap (tn : Int) = (tn : Int) := by rw [IntKind.wrap_i64]; omega
      unfold Pg.v at HS HTU HC0 HN0 HK10 HR10 HP10 ⊢
      unfold Pg.vs at HAT
      generalize p.ra = ra at *
      generalize p.pa = pa at *
      rw [hn] at HS HTU HC0 HN0 HK10 HR10 HP10 HAT ⊢
      go_enter Try.func8, Try.ntmps8
      go_wp2_with (first
        | (go_at_call 10; refine (HH.out _).mono ?_; rintro e w2 ⟨rfl, hb2⟩; have hat2 := HAT.out.next hb2; have hbw2 : Below w.heap.size w w2 := (below1 _ _).trans (hb2.mono (by simp)); obtain ⟨p0, p1, p2, p3⟩ := pg_cells hat2)
        | (go_at_call 11; refine (HS.out _ hbw2).mono ?_; rintro e w3 ⟨rfl, hb3⟩; have hbw3 := hbw2.trans (hb3.mono hbw2.size); have hat3 := hat2.next hb3; clear p0 p1 p2 p3; obtain ⟨p0, p1, p2, p3⟩ := pg_cells hat3)
        | (go_at_call 27; refine (HTU.out _ hbw3).mono ?_; rintro e w4 ⟨q, he, hqo, hqt, hb4⟩; replace he : e = .returned (.agg #[.slice q.lat.a q.lat.n q.lat.c, .slice q.fns.a q.fns.n q.fns.c, .slice q.pa q.prs.length q.pc, .slice q.ra q.rus.length q.rc]) := he; subst he; have hbw4 := hbw3.trans (hb4.mono hbw3.size); have hat4 := hat3.next hb4))
      obtain ⟨hfq, hbq, hsq, hpq, hrq⟩ := HQQ.out q hqt
      have hnq := hqt.qn
      have hMY : Tj.Lay (Tj.next (edges q)) n (Tj.ord (Tj.next (edges q)) n n []) := Tj.ord_lay0
      have hrows := hrq _ hMY
      rw [hnq]
      have hz4 := below1 w4 (.cells #[.slice q.lat.a q.lat.n q.lat.c, .slice q.fns.a q.fns.n q.fns.c, .slice q.pa n q.pc, .slice q.ra q.rus.length q.rc] 27)
      have hqz := At.new w4 27 #[.slice q.lat.a q.lat.n q.lat.c, .slice q.fns.a q.fns.n q.fns.c, .slice q.pa n q.pc, .slice q.ra q.rus.length q.rc]
      have hbz := hbw4.trans (hz4.mono hbw4.size)
      have hatz := hat4.next hz4
      have hqoz := hqo.below hz4
      generalize w4.alloc (.cells #[.slice q.lat.a q.lat.n q.lat.c, .slice q.fns.a q.fns.n q.fns.c, .slice q.pa n q.pc, .slice q.ra q.rus.length q.rc] 27) = wz at *
      have HCQ := Lib.hid (fun W (h : Below wz.heap.size wz W) => components_any q n W (hqoz.below h) hfq)
      have HNQ := Lib.hid (fun W (h : Below wz.heap.size wz W) A c (hA : LsAt W A (Tj.ord (Tj.next (edges q)) n n [])) => number_any q n A c _ W hnq (by omega) hA hMY)
      have HK2 := Lib.hid (fun W (h : Below wz.heap.size wz W) => show Calls Try.prog 20 #[q.v] W (fun e w' => ∃ A c, e = .returned (.slice A D.length c) ∧ DgAt w' A D ∧ Below W.heap.size W w') from by
        have h1 := check_any q n W (hqoz.below h) hfq
        rw [hbq] at h1
        exact h1)
      have HRQ := Lib.hid (fun W (h : Below wz.heap.size wz W) (a : Nat) (ha : a < n) => show Calls Try.prog 17 #[q.v, .int .i64 ((rot n k a : Nat) : Int)] W (fun e w' => e = .returned (.bool (rec a)) ∧ Below W.heap.size W w') from by
        have h2 := recursive_any q n ((rot n k a : Nat) : Int) W (hqoz.below h) hfq
        rw [nat_ins hnq (rot_lt ha), Bool.true_and, Int.toNat_natCast, hsq a ha] at h2
        exact h2)
      have HPQ := Lib.hid (fun W (h : Below wz.heap.size wz W) (a : Nat) (ha : a < n) => show Calls Try.prog 22 #[q.v, .int .i64 ((rot n k a : Nat) : Int)] W (fun e w' => e = .returned (.bool (pos a)) ∧ Below W.heap.size W w') from by
        have h2 := positive_any q n ((rot n k a : Nat) : Int) W (hqoz.below h) hfq
        rw [nat_ins hnq (rot_lt ha), Bool.true_and, Int.toNat_natCast, hpq a ha] at h2
        exact h2)
      have HRW := Lib.hid hrows
      unfold Pg.v at HCQ HNQ HK2 HRQ HPQ
      rw [hnq] at HCQ HNQ HK2 HRQ HPQ
      clear hnq hn
      generalize Tj.ord (Tj.next (edges q)) n n [] = M at *
      have hlz : w.heap.size < wz.heap.size := hatz.lt
      have hlq := hqz.lt
      have HPX := Lib.hid (fun W (h : Below wz.heap.size wz W) => pg_cells (hatz.next h))
      have HQX := Lib.hid (fun W (h : Below wz.heap.size wz W) => pg_cells (hqz.next h))
      have HC := Lib.hid (fun W (h : Below wz.heap.size wz W) => HC0.out W (hbz.trans (h.mono hbz.size)))
      have HN := Lib.hid (fun W (h : Below wz.heap.size wz W) A c hA => HN0.out W A c hA)
      have HK1 := Lib.hid (fun W (h : Below wz.heap.size wz W) => HK10.out W (hbz.trans (h.mono hbz.size)))
      have HRP := Lib.hid (fun W (h : Below wz.heap.size wz W) => HR10.out W (hbz.trans (h.mono hbz.size)))
      have HPP := Lib.hid (fun W (h : Below wz.heap.size wz W) => HP10.out W (hbz.trans (h.mono hbz.size)))
      clear hfq hbq hsq hpq hrq hqt hMY hrows hz4 hqz hatz hqoz hqo hat4 hbw4 hb4 hat3 hbw3 hb3 hat2 hbw2 hb2 p0 p1 p2 p3 HC0 HN0 HK10 HR10 HP10 HQQ HTU HAT HS HH
      go_wp2_with fail
      refine' wp_region_each _ (Below wz.heap.size wz) (Onward) (Vl :: Vl :: LsV L :: TupV n ((List.range n).map (Tj.rowOf L)) :: TupV n ((List.range n).map (Tj.rowOf L)) :: NumV n ((List.range n).map (Tj.rowOf L)) :: Vl :: NumV n ((List.range n).map (Tj.rowOf L)) :: Vl :: []) ?hF (by kernel_rfl) (by kernel_rfl) (by kernel_rfl) ((Below.refl _ _).drew) (lasting_cons (lasting_vl) (lasting_cons (lasting_vl) (lasting_cons (lsV_on) (lasting_cons (tupV_on) (lasting_cons (tupV_on) (lasting_cons (numV_on) (lasting_cons (lasting_vl) (lasting_cons (numV_on) (lasting_cons (lasting_vl) (lasting_none)))))))))) ?hops ?hend
      case hF => (intro v; simp only [over, Act.put, List.setIfInBounds_toArray, List.set_cons_zero, List.set_cons_succ, Nat.zero_add, Nat.reduceAdd]; exact rfl)
      case hops =>
        refine ⟨?_, ?_⟩
        · intro v w' hj hd hs K hK
          obtain ⟨p0, p1, p2, p3⟩ := HPX.out _ hj.out
          have hk := hK.out
          simp only [Act.put, List.setIfInBounds_toArray, List.set_cons_zero, List.set_cons_succ] at hk
          have HK := Lib.hid hk
          clear hd hs hk hK
          go_simp
          exact HK.out _ _ hj.out (Below.refl _ _) (show _ = _ from rfl)
        refine ⟨?_, ?_⟩
        · intro v w' hj hd hs K hK
          obtain ⟨p0, p1, p2, p3⟩ := HPX.out _ hj.out
          have hk := hK.out
          simp only [Act.put, List.setIfInBounds_toArray, List.set_cons_zero, List.set_cons_succ] at hk
          have HK := Lib.hid hk
          clear hd hs hk hK
          go_simp
          exact HK.out _ _ hj.out (Below.refl _ _) (show _ = _ from rfl)
        refine ⟨?_, ?_⟩
        · intro v w' hj hd hs K hK
          have t1 : v 1 = _ := hd.out 1 (by kernel_rfl)
          have hk := hK.out
          simp only [t1, Act.put, List.setIfInBounds_toArray, List.set_cons_zero, List.set_cons_succ] at hk
          have HK := Lib.hid hk
          clear hd hs hk hK
          go_simp
          refine (HC.out w' hj.out).mono ?_
          rintro e w5 ⟨A, c, rfl, hA, hb⟩
          exact HK.out _ _ (hj.out.trans (hb.mono hj.out.size)) hb ⟨A, c, rfl, hA⟩
        refine ⟨?_, ?_⟩
        · intro v w' hj hd hs K hK
          have t0 : v 0 = _ := hd.out 0 (by kernel_rfl)
          obtain ⟨A2, c2, t2, hA2⟩ := hd.out 2 (by kernel_rfl)
          have hk := hK.out
          simp only [t0, t2, Act.put, List.setIfInBounds_toArray, List.set_cons_zero, List.set_cons_succ] at hk
          have HK := Lib.hid hk
          clear hd hs hk hK
          go_simp
          refine (HN.out w' hj.out _ _ hA2).mono ?_
          rintro e w5 ⟨b, rfl, hN, hb⟩
          exact HK.out _ _ (hj.out.trans (hb.mono hj.out.size)) hb ⟨b, rfl, hN⟩
        refine ⟨?_, ?_⟩
        · intro v w' hj hd hs K hK
          obtain ⟨g3, t3, hN3⟩ := hd.out 3 (by kernel_rfl)
          have hk := hK.out
          simp only [t3, Act.put, List.setIfInBounds_toArray, List.set_cons_zero, List.set_cons_succ] at hk
          have HK := Lib.hid hk
          clear hd hs hk hK
          go_simp
          exact HK.out _ _ hj.out (Below.refl _ _) ⟨g3, rfl, hN3⟩
        refine ⟨?_, ?_⟩
        · intro v w' hj hd hs K hK
          obtain ⟨g4, t4, hN4⟩ := hd.out 4 (by kernel_rfl)
          have hk := hK.out
          simp only [t4, Act.put, List.setIfInBounds_toArray, List.set_cons_zero, List.set_cons_succ] at hk
          have HK := Lib.hid hk
          clear hd hs hk hK
          go_simp
          exact HK.out _ _ hj.out (Below.refl _ _) ⟨g4, rfl, hN4⟩
        refine ⟨?_, ?_⟩
        · intro v w' hj hd hs K hK
          obtain ⟨g4, t4, hN4⟩ := hd.out 4 (by kernel_rfl)
          have hk := hK.out
          simp only [t4, Act.put, List.setIfInBounds_toArray, List.set_cons_zero, List.set_cons_succ] at hk
          have HK := Lib.hid hk
          clear hd hs hk hK
          go_simp
          exact HK.out _ _ hj.out (Below.refl _ _) (show _ = _ from rfl)
        refine ⟨?_, ?_⟩
        · intro v w' hj hd hs K hK
          obtain ⟨g5, t5, hN5⟩ := hd.out 5 (by kernel_rfl)
          have hk := hK.out
          simp only [t5, Act.put, List.setIfInBounds_toArray, List.set_cons_zero, List.set_cons_succ] at hk
          have HK := Lib.hid hk
          clear hd hs hk hK
          go_simp
          exact HK.out _ _ hj.out (Below.refl _ _) ⟨g5, rfl, hN5⟩
        refine ⟨?_, ?_⟩
        · intro v w' hj hd hs K hK
          have t6 : v 6 = _ := hd.out 6 (by kernel_rfl)
          have hk := hK.out
          simp only [t6, Act.put, List.setIfInBounds_toArray, List.set_cons_zero, List.set_cons_succ] at hk
          have HK := Lib.hid hk
          clear hd hs hk hK
          go_simp
          exact HK.out _ _ hj.out (Below.refl _ _) (show _ = _ from rfl)
        trivial
      case hend =>
        intro v w7 hj hd
        obtain ⟨ga, t7, hNa⟩ := hd.out 7 (of_decide_eq_true (by kernel_rfl))
        have t8 : v 8 = _ := hd.out 8 (of_decide_eq_true (by kernel_rfl))
        simp only [t7, t8]
        have hb7 := hj.out
        clear hj hd t7 t8
        go_wp2_with fail
        have HQX7 := Lib.hid (fun W (h : Below w7.heap.size w7 W) => HQX.out W (hb7.trans (h.mono hb7.size)))
        have HCQ7 := Lib.hid (fun W (h : Below w7.heap.size w7 W) => HCQ.out W (hb7.trans (h.mono hb7.size)))
        have HNQ7 := Lib.hid (fun W (h : Below w7.heap.size w7 W) => HNQ.out W (hb7.trans (h.mono hb7.size)))
        refine' wp_region_each _ (Below w7.heap.size w7) (Onward) (Vl :: Vl :: LsV M :: TupV n ((List.range n).map (Tj.rowOf M)) :: TupV n ((List.range n).map (Tj.rowOf M)) :: NumV n ((List.range n).map (Tj.rowOf M)) :: Vl :: NumV n ((List.range n).map (Tj.rowOf M)) :: Vl :: []) ?hF (by kernel_rfl) (by kernel_rfl) (by kernel_rfl) ((Below.refl _ _).drew) (lasting_cons (lasting_vl) (lasting_cons (lasting_vl) (lasting_cons (lsV_on) (lasting_cons (tupV_on) (lasting_cons (tupV_on) (lasting_cons (numV_on) (lasting_cons (lasting_vl) (lasting_cons (numV_on) (lasting_cons (lasting_vl) (lasting_none)))))))))) ?hops ?hend
        case hF => (intro v; simp only [over, Act.put, List.setIfInBounds_toArray, List.set_cons_zero, List.set_cons_succ, Nat.zero_add, Nat.reduceAdd]; exact rfl)
        case hops =>
          refine ⟨?_, ?_⟩
          · intro v w' hj hd hs K hK
            obtain ⟨p0, p1, p2, p3⟩ := HQX7.out _ hj.out
            have hk := hK.out
            simp only [Act.put, List.setIfInBounds_toArray, List.set_cons_zero, List.set_cons_succ] at hk
            have HK := Lib.hid hk
            clear hd hs hk hK
            go_simp
            exact HK.out _ _ hj.out (Below.refl _ _) (show _ = _ from rfl)
          refine ⟨?_, ?_⟩
          · intro v w' hj hd hs K hK
            obtain ⟨p0, p1, p2, p3⟩ := HQX7.out _ hj.out
            have hk := hK.out
            simp only [Act.put, List.setIfInBounds_toArray, List.set_cons_zero, List.set_cons_succ] at hk
            have HK := Lib.hid hk
            clear hd hs hk hK
            go_simp
            exact HK.out _ _ hj.out (Below.refl _ _) (show _ = _ from rfl)
          refine ⟨?_, ?_⟩
          · intro v w' hj hd hs K hK
            have t1 : v 1 = _ := hd.out 1 (by kernel_rfl)
            have hk := hK.out
            simp only [t1, Act.put, List.setIfInBounds_toArray, List.set_cons_zero, List.set_cons_succ] at hk
            have HK := Lib.hid hk
            clear hd hs hk hK
            go_simp
            refine (HCQ7.out w' hj.out).mono ?_
            rintro e w5 ⟨A, c, rfl, hA, hb⟩
            exact HK.out _ _ (hj.out.trans (hb.mono hj.out.size)) hb ⟨A, c, rfl, hA⟩
          refine ⟨?_, ?_⟩
          · intro v w' hj hd hs K hK
            have t0 : v 0 = _ := hd.out 0 (by kernel_rfl)
            obtain ⟨A2, c2, t2, hA2⟩ := hd.out 2 (by kernel_rfl)
            have hk := hK.out
            simp only [t0, t2, Act.put, List.setIfInBounds_toArray, List.set_cons_zero, List.set_cons_succ] at hk
            have HK := Lib.hid hk
            clear hd hs hk hK
            go_simp
            refine (HNQ7.out w' hj.out _ _ hA2).mono ?_
            rintro e w5 ⟨b, rfl, hN, hb⟩
            exact HK.out _ _ (hj.out.trans (hb.mono hj.out.size)) hb ⟨b, rfl, hN⟩
          refine ⟨?_, ?_⟩
          · intro v w' hj hd hs K hK
            obtain ⟨g3, t3, hN3⟩ := hd.out 3 (by kernel_rfl)
            have hk := hK.out
            simp only [t3, Act.put, List.setIfInBounds_toArray, List.set_cons_zero, List.set_cons_succ] at hk
            have HK := Lib.hid hk
            clear hd hs hk hK
            go_simp
            exact HK.out _ _ hj.out (Below.refl _ _) ⟨g3, rfl, hN3⟩
          refine ⟨?_, ?_⟩
          · intro v w' hj hd hs K hK
            obtain ⟨g4, t4, hN4⟩ := hd.out 4 (by kernel_rfl)
            have hk := hK.out
            simp only [t4, Act.put, List.setIfInBounds_toArray, List.set_cons_zero, List.set_cons_succ] at hk
            have HK := Lib.hid hk
            clear hd hs hk hK
            go_simp
            exact HK.out _ _ hj.out (Below.refl _ _) ⟨g4, rfl, hN4⟩
          refine ⟨?_, ?_⟩
          · intro v w' hj hd hs K hK
            obtain ⟨g4, t4, hN4⟩ := hd.out 4 (by kernel_rfl)
            have hk := hK.out
            simp only [t4, Act.put, List.setIfInBounds_toArray, List.set_cons_zero, List.set_cons_succ] at hk
            have HK := Lib.hid hk
            clear hd hs hk hK
            go_simp
            exact HK.out _ _ hj.out (Below.refl _ _) (show _ = _ from rfl)
          refine ⟨?_, ?_⟩
          · intro v w' hj hd hs K hK
            obtain ⟨g5, t5, hN5⟩ := hd.out 5 (by kernel_rfl)
            have hk := hK.out
            simp only [t5, Act.put, List.setIfInBounds_toArray, List.set_cons_zero, List.set_cons_succ] at hk
            have HK := Lib.hid hk
            clear hd hs hk hK
            go_simp
            exact HK.out _ _ hj.out (Below.refl _ _) ⟨g5, rfl, hN5⟩
          refine ⟨?_, ?_⟩
          · intro v w' hj hd hs K hK
            have t6 : v 6 = _ := hd.out 6 (by kernel_rfl)
            have hk := hK.out
            simp only [t6, Act.put, List.setIfInBounds_toArray, List.set_cons_zero, List.set_cons_succ] at hk
            have HK := Lib.hid hk
            clear hd hs hk hK
            go_simp
            exact HK.out _ _ hj.out (Below.refl _ _) (show _ = _ from rfl)
          trivial
        case hend =>
          intro v w8 hj hd
          obtain ⟨gb, t7, hNb⟩ := hd.out 7 (of_decide_eq_true (by kernel_rfl))
          have t8 : v 8 = _ := hd.out 8 (of_decide_eq_true (by kernel_rfl))
          simp only [t7, t8]
          have hb78 := hj.out
          have hb8 := hb7.trans (hb78.mono hb7.size)
          have hNa8 := hNa.next hb78
          clear hj hd t7 t8 HC HCQ HN HNQ HQX7 HCQ7 HNQ7 hNa hb7 hb78
          have HPX8 := Lib.hid (fun W (h : Below w8.heap.size w8 W) => HPX.out W (hb8.trans (h.mono hb8.size)))
          have HQX8 := Lib.hid (fun W (h : Below w8.heap.size w8 W) => HQX.out W (hb8.trans (h.mono hb8.size)))
          have HK18 := Lib.hid (fun W (h : Below w8.heap.size w8 W) => HK1.out W (hb8.trans (h.mono hb8.size)))
          have HK28 := Lib.hid (fun W (h : Below w8.heap.size w8 W) => HK2.out W (hb8.trans (h.mono hb8.size)))
          have HRP8 := Lib.hid (fun W (h : Below w8.heap.size w8 W) => HRP.out W (hb8.trans (h.mono hb8.size)))
          have HPP8 := Lib.hid (fun W (h : Below w8.heap.size w8 W) => HPP.out W (hb8.trans (h.mono hb8.size)))
          have HRQ8 := Lib.hid (fun W (h : Below w8.heap.size w8 W) => HRQ.out W (hb8.trans (h.mono hb8.size)))
          have HPQ8 := Lib.hid (fun W (h : Below w8.heap.size w8 W) => HPQ.out W (hb8.trans (h.mono hb8.size)))
          have HNA := Lib.hid (fun W (h : Below w8.heap.size w8 W) => hNa8.next h)
          have HNB := Lib.hid (fun W (h : Below w8.heap.size w8 W) => hNb.next h)
          have HB8 := Lib.hid (hbz.trans (hb8.mono hbz.size))
          have hl8 : w.heap.size < w8.heap.size := Nat.lt_of_lt_of_le hlz hb8.size
          have hl9 : w4.heap.size < w8.heap.size := Nat.lt_of_lt_of_le hlq hb8.size
          clear HPX HQX HK1 HK2 HRP HPP HRQ HPQ hNa8 hNb hb8 hbz hlz hlq
          go_wp2_with fail
          refine' wp_region_each _ (Below w8.heap.size w8) (Onward) (Vl :: Vl :: Vl :: Vl :: Vl :: Vl :: Vl :: Vl :: DgV D :: Vl :: DgV D :: Vl :: Vl :: Vl :: []) ?hF (by kernel_rfl) (by kernel_rfl) (by kernel_rfl) ((Below.refl _ _).drew) (lasting_cons (lasting_vl) (lasting_cons (lasting_vl) (lasting_cons (lasting_vl) (lasting_cons (lasting_vl) (lasting_cons (lasting_vl) (lasting_cons (lasting_vl) (lasting_cons (lasting_vl) (lasting_cons (lasting_vl) (lasting_cons (dgV_on) (lasting_cons (lasting_vl) (lasting_cons (dgV_on) (lasting_cons (lasting_vl) (lasting_cons (lasting_vl) (lasting_cons (lasting_vl) (lasting_none))))))))))))))) ?hops ?hend
          case hF => (intro v; simp only [over, Act.put, List.setIfInBounds_toArray, List.set_cons_zero, List.set_cons_succ, Nat.zero_add, Nat.reduceAdd]; exact rfl)
          case hops =>
            refine ⟨?_, ?_⟩
            · intro v w' hj hd hs K hK
              have hk := hK.out
              simp only [Act.put, List.setIfInBounds_toArray, List.set_cons_zero, List.set_cons_succ] at hk
              have HK := Lib.hid hk
              clear hd hs hk hK
              go_simp
              exact HK.out _ _ hj.out (Below.refl _ _) (show _ = _ from rfl)
            refine ⟨?_, ?_⟩
            · intro v w' hj hd hs K hK
              have t0 : v 0 = _ := hd.out 0 (by kernel_rfl)
              have hk := hK.out
              simp only [t0, Act.put, List.setIfInBounds_toArray, List.set_cons_zero, List.set_cons_succ] at hk
              have HK := Lib.hid hk
              clear hd hs hk hK
              go_simp
              exact HK.out _ _ hj.out (Below.refl _ _) (show _ = _ from rfl)
            refine ⟨?_, ?_⟩
            · intro v w' hj hd hs K hK
              have t1 : v 1 = _ := hd.out 1 (by kernel_rfl)
              have hk := hK.out
              simp only [t1, Act.put, List.setIfInBounds_toArray, List.set_cons_zero, List.set_cons_succ] at hk
              have HK := Lib.hid hk
              clear hd hs hk hK
              go_simp
              exact HK.out _ _ hj.out (Below.refl _ _) (show _ = _ from rfl)
            refine ⟨?_, ?_⟩
            · intro v w' hj hd hs K hK
              have t2 : v 2 = _ := hd.out 2 (by kernel_rfl)
              have hk := hK.out
              simp only [t2, Act.put, List.setIfInBounds_toArray, List.set_cons_zero, List.set_cons_succ] at hk
              have HK := Lib.hid hk
              clear hd hs hk hK
              go_simp
              exact HK.out _ _ hj.out (Below.refl _ _) (show _ = _ from rfl)
            refine ⟨?_, ?_⟩
            · intro v w' hj hd hs K hK
              have t2 : v 2 = _ := hd.out 2 (by kernel_rfl)
              have t3 : v 3 = _ := hd.out 3 (by kernel_rfl)
              have hk := hK.out
              simp only [t2, t3, Act.put, List.setIfInBounds_toArray, List.set_cons_zero, List.set_cons_succ] at hk
              have HK := Lib.hid hk
              clear hd hs hk hK
              go_simp
              exact HK.out _ _ hj.out (Below.refl _ _) (show _ = _ from rfl)
            refine ⟨?_, ?_⟩
            · intro v w' hj hd hs K hK
              have t2 : v 2 = _ := hd.out 2 (by kernel_rfl)
              have t4 : v 4 = _ := hd.out 4 (by kernel_rfl)
              have hk := hK.out
              simp only [t2, t4, Act.put, List.setIfInBounds_toArray, List.set_cons_zero, List.set_cons_succ] at hk
              have HK := Lib.hid hk
              clear hd hs hk hK
              go_simp
              exact HK.out _ _ hj.out (Below.refl _ _) (show _ = _ from rfl)
            refine ⟨?_, ?_⟩
            · intro v w' hj hd hs K hK
              have t5 : v 5 = _ := hd.out 5 (by kernel_rfl)
              have hk := hK.out
              simp only [t5, Act.put, List.setIfInBounds_toArray, List.set_cons_zero, List.set_cons_succ] at hk
              have HK := Lib.hid hk
              clear hd hs hk hK
              go_simp
              exact HK.out _ _ hj.out (Below.refl _ _) (show _ = _ from rfl)
            refine ⟨?_, ?_⟩
            · intro v w' hj hd hs K hK
              have t6 : v 6 = _ := hd.out 6 (by kernel_rfl)
              obtain ⟨p0, p1, p2, p3⟩ := HPX8.out _ hj.out
              have hk := hK.out
              simp only [t6, Act.put, List.setIfInBounds_toArray, List.set_cons_zero, List.set_cons_succ] at hk
              have HK := Lib.hid hk
              clear hd hs hk hK
              go_simp
              exact HK.out _ _ hj.out (Below.refl _ _) (show _ = _ from rfl)
            refine ⟨?_, ?_⟩
            · intro v w' hj hd hs K hK
              have t6 : v 6 = _ := hd.out 6 (by kernel_rfl)
              have t7 : v 7 = _ := hd.out 7 (by kernel_rfl)
              have hk := hK.out
              simp only [t6, t7, Act.put, List.setIfInBounds_toArray, List.set_cons_zero, List.set_cons_succ] at hk
              have HK := Lib.hid hk
              clear hd hs hk hK
              go_simp
              refine (HK18.out w' hj.out).mono ?_
              rintro e w5 ⟨A, c, rfl, hA, hb⟩
              exact HK.out _ _ (hj.out.trans (hb.mono hj.out.size)) hb ⟨A, c, rfl, hA⟩
            refine ⟨?_, ?_⟩
            · intro v w' hj hd hs K hK
              have t6 : v 6 = _ := hd.out 6 (by kernel_rfl)
              obtain ⟨p0, p1, p2, p3⟩ := HQX8.out _ hj.out
              have hk := hK.out
              simp only [t6, Act.put, List.setIfInBounds_toArray, List.set_cons_zero, List.set_cons_succ] at hk
              have HK := Lib.hid hk
              clear hd hs hk hK
              go_simp
              exact HK.out _ _ hj.out (Below.refl _ _) (show _ = _ from rfl)
            refine ⟨?_, ?_⟩
            · intro v w' hj hd hs K hK
              have t6 : v 6 = _ := hd.out 6 (by kernel_rfl)
              have t9 : v 9 = _ := hd.out 9 (by kernel_rfl)
              have hk := hK.out
              simp only [t6, t9, Act.put, List.setIfInBounds_toArray, List.set_cons_zero, List.set_cons_succ] at hk
              have HK := Lib.hid hk
              clear hd hs hk hK
              go_simp
              refine (HK28.out w' hj.out).mono ?_
              rintro e w5 ⟨A, c, rfl, hA, hb⟩
              exact HK.out _ _ (hj.out.trans (hb.mono hj.out.size)) hb ⟨A, c, rfl, hA⟩
            refine ⟨?_, ?_⟩
            · intro v w' hj hd hs K hK
              have t6 : v 6 = _ := hd.out 6 (by kernel_rfl)
              obtain ⟨A8, c8, t8, hA8⟩ := hd.out 8 (by kernel_rfl)
              obtain ⟨A10, c10, t10, hA10⟩ := hd.out 10 (by kernel_rfl)
              have hk := hK.out
              simp only [t6, t8, t10, Act.put, List.setIfInBounds_toArray, List.set_cons_zero, List.set_cons_succ] at hk
              have HK := Lib.hid hk
              clear hd hs hk hK
              go_simp
              refine (HSD.out w' _ _ _ _ hA8 hA10).mono ?_
              rintro e w5 ⟨rfl, hb⟩
              exact HK.out _ _ (hj.out.trans (hb.mono hj.out.size)) hb (show _ = _ from rfl)
            refine ⟨?_, ?_⟩
            · intro v w' hj hd hs K hK
              have t6 : v 6 = _ := hd.out 6 (by kernel_rfl)
              have t11 : v 11 = _ := hd.out 11 (by kernel_rfl)
              have hk := hK.out
              simp only [t6, t11, Act.put, List.setIfInBounds_toArray, List.set_cons_zero, List.set_cons_succ] at hk
              have HK := Lib.hid hk
              clear hd hs hk hK
              go_simp
              exact HK.out _ _ hj.out (Below.refl _ _) (show _ = _ from rfl)
            refine ⟨?_, ?_⟩
            · intro v w' hj hd hs K hK
              have t6 : v 6 = _ := hd.out 6 (by kernel_rfl)
              have t12 : v 12 = _ := hd.out 12 (by kernel_rfl)
              have hk := hK.out
              simp only [t6, t12, Act.put, List.setIfInBounds_toArray, List.set_cons_zero, List.set_cons_succ] at hk
              have HK := Lib.hid hk
              clear hd hs hk hK
              go_simp
              exact HK.out _ _ hj.out (Below.refl _ _) (show _ = _ from rfl)
            trivial
          case hend =>
            intro v w9 hj hd
            have t13 : v 13 = _ := hd.out 13 (of_decide_eq_true (by kernel_rfl))
            simp only [t13]
            have hb9 := hj.out
            clear hj hd t13 HK18 HK28 HSD
            go_wp2_with fail
            go_loopw [13, 14] (fun i _ wr => ∃ x : Nat, x ≤ n ∧ i = .int .i64 x ∧ Below w8.heap.size w8 wr) (fun i _ _ => n - (intOf i).toNat)
            case atStart => exact ⟨0, by omega, rfl, hb9⟩
            case round =>
              clear hb9
              obtain ⟨x, hx, rfl, hb⟩ := hrel
              by_cases h1 : x < n
              · have d1 : decide ((x : Int) < (n : Int)) = true := by simp; omega
                go_wp2_with fail
                go_loopw [14] (fun i wr => ∃ y : Nat, y ≤ n ∧ i = .int .i64 y ∧ Below w8.heap.size w8 wr) (fun i _ => n - (intOf i).toNat)
                case atStart => exact ⟨0, by omega, rfl, hb⟩
                case round =>
                  clear hb d1
                  obtain ⟨y, hy, rfl, hb⟩ := hrel
                  have jwx : IntKind.i64.wrap ((x : Int) + (k : Int)) = (x : Int) + (k : Int) := by rw [IntKind.wrap_i64]; omega
                  have hqx : Int.tmod ((x : Int) + (k : Int)) (n : Int) = ((rot n k x : Nat) : Int) := rem_rot n k x
                  have hrx := rot_lt (n := n) (k := k) h1
                  by_cases h2 : y < n
                  · have d2 : decide ((y : Int) < (n : Int)) = true := by simp; omega
                    have jwy : IntKind.i64.wrap ((y : Int) + (k : Int)) = (y : Int) + (k : Int) := by rw [IntKind.wrap_i64]; omega
                    have hqy : Int.tmod ((y : Int) + (k : Int)) (n : Int) = ((rot n k y : Nat) : Int) := rem_rot n k y
                    have hry := rot_lt (n := n) (k := k) h2
                    have hrw := HRW.out x y h1 h2
                    have y0 := ncell (HNA.out _ hb) (j := x) (by simp; omega)
                    have y1 := ncell (HNA.out _ hb) (j := y) (by simp; omega)
                    have y2 := ncell (HNB.out _ hb) (j := rot n k x) (by simp; omega)
                    have y3 := ncell (HNB.out _ hb) (j := rot n k y) (by simp; omega)
                    rw [Tj.getD_at (show ((List.range n).map (Tj.rowOf L))[x]? = some (Tj.rowOf L x) by simp [h1])] at y0
                    rw [Tj.getD_at (show ((List.range n).map (Tj.rowOf L))[y]? = some (Tj.rowOf L y) by simp [h2])] at y1
                    rw [Tj.getD_at (show ((List.range n).map (Tj.rowOf M))[rot n k x]? = some (Tj.rowOf M (rot n k x)) by simp [hrx])] at y2
                    rw [Tj.getD_at (show ((List.range n).map (Tj.rowOf M))[rot n k y]? = some (Tj.rowOf M (rot n k y)) by simp [hry])] at y3
                    generalize Tj.rowOf L x = lx at *
                    generalize Tj.rowOf L y = ly at *
                    generalize Tj.rowOf M (rot n k x) = mx at *
                    generalize Tj.rowOf M (rot n k y) = my at *
                    generalize rot n k x = rx at *
                    generalize rot n k y = ry at *
                    have f0 : ∀ z : Held wr.heap.size wr, z.w.cell? ⟨ga, x, none⟩ = some (.int .i64 (lx : Int)) := fun z => z.cell (HNA.out _ hb).lt y0
                    have f1 : ∀ z : Held wr.heap.size wr, z.w.cell? ⟨ga, y, none⟩ = some (.int .i64 (ly : Int)) := fun z => z.cell (HNA.out _ hb).lt y1
                    have f2 : ∀ z : Held wr.heap.size wr, z.w.cell? ⟨gb, rx, none⟩ = some (.int .i64 (mx : Int)) := fun z => z.cell (HNB.out _ hb).lt y2
                    have f3 : ∀ z : Held wr.heap.size wr, z.w.cell? ⟨gb, ry, none⟩ = some (.int .i64 (my : Int)) := fun z => z.cell (HNB.out _ hb).lt y3
                    have i0 : (0 : Int) ≤ (x : Int) := by omega
                    have i1 : (x : Int) < (n : Int) := by omega
                    have i2 : (0 : Int) ≤ (y : Int) := by omega
                    have i3 : (y : Int) < (n : Int) := by omega
                    have i4 : (0 : Int) ≤ (rx : Int) := by omega
                    have i5 : (rx : Int) < (n : Int) := by omega
                    have i6 : (0 : Int) ≤ (ry : Int) := by omega
                    have i7 : (ry : Int) < (n : Int) := by omega
                    clear y0 y1 y2 y3
                    by_cases he : lx = ly
                    · have t1 : ((lx : Int) == (ly : Int)) = true := by rw [beq_iff_eq]; omega
                      have t2 : ((mx : Int) == (my : Int)) = true := by rw [beq_iff_eq]; have := hrw.2 he; omega
                      clear hrw he
                      go_wp2_with fail
                      refine wp_region_held wr.heap.size wr (Below.refl _ _) (by kernel_rfl) (by kernel_rfl) ?_
                      repeat (go_big_quiet_step (fail))
                      refine wpQuiet_nil ?_
                      rintro wt ⟨⟨_, bt⟩, rfl⟩
                      have hbt := hb.trans (bt.mono hb.size)
                      go_wp2_with fail
                      go_roundw
                      case rel => exact ⟨y + 1, by omega, by go_num, hbt⟩
                      case measure => simp [intOf]; omega
                    · have t1 : ((lx : Int) == (ly : Int)) = false := by rw [beq_eq_false_iff_ne]; omega
                      have t2 : ((mx : Int) == (my : Int)) = false := by rw [beq_eq_false_iff_ne]; intro h; exact he (hrw.1 (by omega))
                      clear hrw he
                      go_wp2_with fail
                      refine wp_region_held wr.heap.size wr (Below.refl _ _) (by kernel_rfl) (by kernel_rfl) ?_
                      repeat (go_big_quiet_step (fail))
                      refine wpQuiet_nil ?_
                      rintro wt ⟨⟨_, bt⟩, rfl⟩
                      have hbt := hb.trans (bt.mono hb.size)
                      go_wp2_with fail
                      go_roundw
                      case rel => exact ⟨y + 1, by omega, by go_num, hbt⟩
                      case measure => simp [intOf]; omega
                  · have d2 : decide ((y : Int) < (n : Int)) = false := by simp; omega
                    obtain ⟨wv, hwv⟩ : ∃ wv, wv = wr := ⟨_, rfl⟩
                    subst hwv
                    have HPX2 := Lib.hid (fun W (h : Below wv.heap.size wv W) => HPX8.out W (hb.trans (h.mono hb.size)))
                    have HQX2 := Lib.hid (fun W (h : Below wv.heap.size wv W) => HQX8.out W (hb.trans (h.mono hb.size)))
                    have HR1 := Lib.hid (fun W (h : Below wv.heap.size wv W) => HRP8.out W (hb.trans (h.mono hb.size)) x h1)
                    have HR2 := Lib.hid (fun W (h : Below wv.heap.size wv W) => HRQ8.out W (hb.trans (h.mono hb.size)) x h1)
                    have HP1 := Lib.hid (fun W (h : Below wv.heap.size wv W) => HPP8.out W (hb.trans (h.mono hb.size)) x h1)
                    have HP2 := Lib.hid (fun W (h : Below wv.heap.size wv W) => HPQ8.out W (hb.trans (h.mono hb.size)) x h1)
                    generalize rot n k x = rx at *
                    generalize rec x = r1 at *
                    generalize pos x = r2 at *
                    have b1 : (r1 != r1) = false := by simp
                    have b2 : (r2 != r2) = false := by simp
                    go_wp2_with fail
                    refine' wp_region_each _ (Below wv.heap.size wv) (Onward) (Vl :: Vl :: Vl :: Vl :: Vl :: Vl :: Vl :: Vl :: Vl :: Vl :: Vl :: Vl :: Vl :: Vl :: Vl :: Vl :: Vl :: Vl :: Vl :: Vl :: Vl :: Vl :: Vl :: Vl :: []) ?hF (by kernel_rfl) (by kernel_rfl) (by kernel_rfl) ((Below.refl _ _).drew) (lasting_cons (lasting_vl) (lasting_cons (lasting_vl) (lasting_cons (lasting_vl) (lasting_cons (lasting_vl) (lasting_cons (lasting_vl) (lasting_cons (lasting_vl) (lasting_cons (lasting_vl) (lasting_cons (lasting_vl) (lasting_cons (lasting_vl) (lasting_cons (lasting_vl) (lasting_cons (lasting_vl) (lasting_cons (lasting_vl) (lasting_cons (lasting_vl) (lasting_cons (lasting_vl) (lasting_cons (lasting_vl) (lasting_cons (lasting_vl) (lasting_cons (lasting_vl) (lasting_cons (lasting_vl) (lasting_cons (lasting_vl) (lasting_cons (lasting_vl) (lasting_cons (lasting_vl) (lasting_cons (lasting_vl) (lasting_cons (lasting_vl) (lasting_cons (lasting_vl) (lasting_none))))))))))))))))))))))))) ?hops ?hend
                    case hF => (intro v; simp only [over, Act.put, List.setIfInBounds_toArray, List.set_cons_zero, List.set_cons_succ, Nat.zero_add, Nat.reduceAdd]; exact rfl)
                    case hops =>
                      refine ⟨?_, ?_⟩
                      · intro v w' hj hd hs K hK
                        obtain ⟨p0, p1, p2, p3⟩ := HPX2.out _ hj.out
                        have hk := hK.out
                        simp only [Act.put, List.setIfInBounds_toArray, List.set_cons_zero, List.set_cons_succ] at hk
                        have HK := Lib.hid hk
                        clear hd hs hk hK
                        go_simp
                        exact HK.out _ _ hj.out (Below.refl _ _) (show _ = _ from rfl)
                      refine ⟨?_, ?_⟩
                      · intro v w' hj hd hs K hK
                        have hk := hK.out
                        simp only [Act.put, List.setIfInBounds_toArray, List.set_cons_zero, List.set_cons_succ] at hk
                        have HK := Lib.hid hk
                        clear hd hs hk hK
                        go_simp
                        exact HK.out _ _ hj.out (Below.refl _ _) (show _ = _ from rfl)
                      refine ⟨?_, ?_⟩
                      · intro v w' hj hd hs K hK
                        have t0 : v 0 = _ := hd.out 0 (by kernel_rfl)
                        have t1 : v 1 = _ := hd.out 1 (by kernel_rfl)
                        have hk := hK.out
                        simp only [t0, t1, Act.put, List.setIfInBounds_toArray, List.set_cons_zero, List.set_cons_succ] at hk
                        have HK := Lib.hid hk
                        clear hd hs hk hK
                        go_simp
                        refine (HR1.out w' hj.out).mono ?_
                        rintro e w5 ⟨rfl, hb⟩
                        exact HK.out _ _ (hj.out.trans (hb.mono hj.out.size)) hb (show _ = _ from rfl)
                      refine ⟨?_, ?_⟩
                      · intro v w' hj hd hs K hK
                        obtain ⟨p0, p1, p2, p3⟩ := HQX2.out _ hj.out
                        have hk := hK.out
                        simp only [Act.put, List.setIfInBounds_toArray, List.set_cons_zero, List.set_cons_succ] at hk
                        have HK := Lib.hid hk
                        clear hd hs hk hK
                        go_simp
                        exact HK.out _ _ hj.out (Below.refl _ _) (show _ = _ from rfl)
                      refine ⟨?_, ?_⟩
                      · intro v w' hj hd hs K hK
                        have hk := hK.out
                        simp only [Act.put, List.setIfInBounds_toArray, List.set_cons_zero, List.set_cons_succ] at hk
                        have HK := Lib.hid hk
                        clear hd hs hk hK
                        go_simp
                        exact HK.out _ _ hj.out (Below.refl _ _) (show _ = _ from rfl)
                      refine ⟨?_, ?_⟩
                      · intro v w' hj hd hs K hK
                        have hk := hK.out
                        simp only [Act.put, List.setIfInBounds_toArray, List.set_cons_zero, List.set_cons_succ] at hk
                        have HK := Lib.hid hk
                        clear hd hs hk hK
                        go_simp
                        exact HK.out _ _ hj.out (Below.refl _ _) (show _ = _ from rfl)
                      refine ⟨?_, ?_⟩
                      · intro v w' hj hd hs K hK
                        have t4 : v 4 = _ := hd.out 4 (by kernel_rfl)
                        have t5 : v 5 = _ := hd.out 5 (by kernel_rfl)
                        have hk := hK.out
                        simp only [t4, t5, Act.put, List.setIfInBounds_toArray, List.set_cons_zero, List.set_cons_succ] at hk
                        have HK := Lib.hid hk
                        clear hd hs hk hK
                        go_simp
                        exact HK.out _ _ hj.out (Below.refl _ _) (show _ = _ from rfl)
                      refine ⟨?_, ?_⟩
                      · intro v w' hj hd hs K hK
                        have hk := hK.out
                        simp only [Act.put, List.setIfInBounds_toArray, List.set_cons_zero, List.set_cons_succ] at hk
                        have HK := Lib.hid hk
                        clear hd hs hk hK
                        go_simp
                        exact HK.out _ _ hj.out (Below.refl _ _) (show _ = _ from rfl)
                      refine ⟨?_, ?_⟩
                      · intro v w' hj hd hs K hK
                        have t6 : v 6 = _ := hd.out 6 (by kernel_rfl)
                        have t7 : v 7 = _ := hd.out 7 (by kernel_rfl)
                        have hk := hK.out
                        simp only [t6, t7, Act.put, List.setIfInBounds_toArray, List.set_cons_zero, List.set_cons_succ] at hk
                        have HK := Lib.hid hk
                        clear hd hs hk hK
                        go_simp
                        exact HK.out _ _ hj.out (Below.refl _ _) (show _ = _ from rfl)
                      refine ⟨?_, ?_⟩
                      · intro v w' hj hd hs K hK
                        have t3 : v 3 = _ := hd.out 3 (by kernel_rfl)
                        have t8 : v 8 = _ := hd.out 8 (by kernel_rfl)
                        have hk := hK.out
                        simp only [t3, t8, Act.put, List.setIfInBounds_toArray, List.set_cons_zero, List.set_cons_succ] at hk
                        have HK := Lib.hid hk
                        clear hd hs hk hK
                        go_simp
                        refine (HR2.out w' hj.out).mono ?_
                        rintro e w5 ⟨rfl, hb⟩
                        exact HK.out _ _ (hj.out.trans (hb.mono hj.out.size)) hb (show _ = _ from rfl)
                      refine ⟨?_, ?_⟩
                      · intro v w' hj hd hs K hK
                        have t2 : v 2 = _ := hd.out 2 (by kernel_rfl)
                        have t9 : v 9 = _ := hd.out 9 (by kernel_rfl)
                        have hk := hK.out
                        simp only [t2, t9, Act.put, List.setIfInBounds_toArray, List.set_cons_zero, List.set_cons_succ] at hk
                        have HK := Lib.hid hk
                        clear hd hs hk hK
                        go_simp
                        exact HK.out _ _ hj.out (Below.refl _ _) (show _ = _ from rfl)
                      refine ⟨?_, ?_⟩
                      · intro v w' hj hd hs K hK
                        have t10 : v 10 = _ := hd.out 10 (by kernel_rfl)
                        have hk := hK.out
                        simp only [t10, Act.put, List.setIfInBounds_toArray, List.set_cons_zero, List.set_cons_succ] at hk
                        have HK := Lib.hid hk
                        clear hd hs hk hK
                        go_simp
                        exact HK.out _ _ hj.out (Below.refl _ _) (show _ = _ from rfl)
                      refine ⟨?_, ?_⟩
                      · intro v w' hj hd hs K hK
                        have t11 : v 11 = _ := hd.out 11 (by kernel_rfl)
                        obtain ⟨p0, p1, p2, p3⟩ := HPX2.out _ hj.out
                        have hk := hK.out
                        simp only [t11, Act.put, List.setIfInBounds_toArray, List.set_cons_zero, List.set_cons_succ] at hk
                        have HK := Lib.hid hk
                        clear hd hs hk hK
                        go_simp
                        exact HK.out _ _ hj.out (Below.refl _ _) (show _ = _ from rfl)
                      refine ⟨?_, ?_⟩
                      · intro v w' hj hd hs K hK
                        have t11 : v 11 = _ := hd.out 11 (by kernel_rfl)
                        have hk := hK.out
                        simp only [t11, Act.put, List.setIfInBounds_toArray, List.set_cons_zero, List.set_cons_succ] at hk
                        have HK := Lib.hid hk
                        clear hd hs hk hK
                        go_simp
                        exact HK.out _ _ hj.out (Below.refl _ _) (show _ = _ from rfl)
                      refine ⟨?_, ?_⟩
                      · intro v w' hj hd hs K hK
                        have t11 : v 11 = _ := hd.out 11 (by kernel_rfl)
                        have t12 : v 12 = _ := hd.out 12 (by kernel_rfl)
                        have t13 : v 13 = _ := hd.out 13 (by kernel_rfl)
                        have hk := hK.out
                        simp only [t11, t12, t13, Act.put, List.setIfInBounds_toArray, List.set_cons_zero, List.set_cons_succ] at hk
                        have HK := Lib.hid hk
                        clear hd hs hk hK
                        go_simp
                        refine (HP1.out w' hj.out).mono ?_
                        rintro e w5 ⟨rfl, hb⟩
                        exact HK.out _ _ (hj.out.trans (hb.mono hj.out.size)) hb (show _ = _ from rfl)
                      refine ⟨?_, ?_⟩
                      · intro v w' hj hd hs K hK
                        have t11 : v 11 = _ := hd.out 11 (by kernel_rfl)
                        obtain ⟨p0, p1, p2, p3⟩ := HQX2.out _ hj.out
                        have hk := hK.out
                        simp only [t11, Act.put, List.setIfInBounds_toArray, List.set_cons_zero, List.set_cons_succ] at hk
                        have HK := Lib.hid hk
                        clear hd hs hk hK
                        go_simp
                        exact HK.out _ _ hj.out (Below.refl _ _) (show _ = _ from rfl)
                      refine ⟨?_, ?_⟩
                      · intro v w' hj hd hs K hK
                        have t11 : v 11 = _ := hd.out 11 (by kernel_rfl)
                        have hk := hK.out
                        simp only [t11, Act.put, List.setIfInBounds_toArray, List.set_cons_zero, List.set_cons_succ] at hk
                        have HK := Lib.hid hk
                        clear hd hs hk hK
                        go_simp
                        exact HK.out _ _ hj.out (Below.refl _ _) (show _ = _ from rfl)
                      refine ⟨?_, ?_⟩
                      · intro v w' hj hd hs K hK
                        have t11 : v 11 = _ := hd.out 11 (by kernel_rfl)
                        have hk := hK.out
                        simp only [t11, Act.put, List.setIfInBounds_toArray, List.set_cons_zero, List.set_cons_succ] at hk
                        have HK := Lib.hid hk
                        clear hd hs hk hK
                        go_simp
                        exact HK.out _ _ hj.out (Below.refl _ _) (show _ = _ from rfl)
                      refine ⟨?_, ?_⟩
                      · intro v w' hj hd hs K hK
                        have t11 : v 11 = _ := hd.out 11 (by kernel_rfl)
                        have t16 : v 16 = _ := hd.out 16 (by kernel_rfl)
                        have t17 : v 17 = _ := hd.out 17 (by kernel_rfl)
                        have hk := hK.out
                        simp only [t11, t16, t17, Act.put, List.setIfInBounds_toArray, List.set_cons_zero, List.set_cons_succ] at hk
                        have HK := Lib.hid hk
                        clear hd hs hk hK
                        go_simp
                        exact HK.out _ _ hj.out (Below.refl _ _) (show _ = _ from rfl)
                      refine ⟨?_, ?_⟩
                      · intro v w' hj hd hs K hK
                        have t11 : v 11 = _ := hd.out 11 (by kernel_rfl)
                        have hk := hK.out
                        simp only [t11, Act.put, List.setIfInBounds_toArray, List.set_cons_zero, List.set_cons_succ] at hk
                        have HK := Lib.hid hk
                        clear hd hs hk hK
                        go_simp
                        exact HK.out _ _ hj.out (Below.refl _ _) (show _ = _ from rfl)
                      refine ⟨?_, ?_⟩
                      · intro v w' hj hd hs K hK
                        have t11 : v 11 = _ := hd.out 11 (by kernel_rfl)
                        have t18 : v 18 = _ := hd.out 18 (by kernel_rfl)
                        have t19 : v 19 = _ := hd.out 19 (by kernel_rfl)
                        have hk := hK.out
                        simp only [t11, t18, t19, Act.put, List.setIfInBounds_toArray, List.set_cons_zero, List.set_cons_succ] at hk
                        have HK := Lib.hid hk
                        clear hd hs hk hK
                        go_simp
                        exact HK.out _ _ hj.out (Below.refl _ _) (show _ = _ from rfl)
                      refine ⟨?_, ?_⟩
                      · intro v w' hj hd hs K hK
                        have t11 : v 11 = _ := hd.out 11 (by kernel_rfl)
                        have t15 : v 15 = _ := hd.out 15 (by kernel_rfl)
                        have t20 : v 20 = _ := hd.out 20 (by kernel_rfl)
                        have hk := hK.out
                        simp only [t11, t15, t20, Act.put, List.setIfInBounds_toArray, List.set_cons_zero, List.set_cons_succ] at hk
                        have HK := Lib.hid hk
                        clear hd hs hk hK
                        go_simp
                        refine (HP2.out w' hj.out).mono ?_
                        rintro e w5 ⟨rfl, hb⟩
                        exact HK.out _ _ (hj.out.trans (hb.mono hj.out.size)) hb (show _ = _ from rfl)
                      refine ⟨?_, ?_⟩
                      · intro v w' hj hd hs K hK
                        have t11 : v 11 = _ := hd.out 11 (by kernel_rfl)
                        have t14 : v 14 = _ := hd.out 14 (by kernel_rfl)
                        have t21 : v 21 = _ := hd.out 21 (by kernel_rfl)
                        have hk := hK.out
                        simp only [t11, t14, t21, Act.put, List.setIfInBounds_toArray, List.set_cons_zero, List.set_cons_succ] at hk
                        have HK := Lib.hid hk
                        clear hd hs hk hK
                        go_simp
                        exact HK.out _ _ hj.out (Below.refl _ _) (show _ = _ from rfl)
                      refine ⟨?_, ?_⟩
                      · intro v w' hj hd hs K hK
                        have t11 : v 11 = _ := hd.out 11 (by kernel_rfl)
                        have t22 : v 22 = _ := hd.out 22 (by kernel_rfl)
                        have hk := hK.out
                        simp only [t11, t22, Act.put, List.setIfInBounds_toArray, List.set_cons_zero, List.set_cons_succ] at hk
                        have HK := Lib.hid hk
                        clear hd hs hk hK
                        go_simp
                        exact HK.out _ _ hj.out (Below.refl _ _) (show _ = _ from rfl)
                      trivial
                    case hend =>
                      intro v w11 hj hd
                      have t23 : v 23 = _ := hd.out 23 (of_decide_eq_true (by kernel_rfl))
                      simp only [t23]
                      have hb11 := hb.trans (hj.out.mono hb.size)
                      clear hj hd t23
                      go_wp2_with fail
                      go_roundw
                      case rel => exact ⟨x + 1, by omega, by go_num, hb11⟩
                      case measure => simp [intOf]; omega
              · have d1 : decide ((x : Int) < (n : Int)) = false := by simp; omega
                go_wp2_with fail
                go_ret
                exact ⟨rfl, HB8.out.trans (hb.mono HB8.out.size)⟩
end Go.Proofs.Ytljlihimmcmlmaa
