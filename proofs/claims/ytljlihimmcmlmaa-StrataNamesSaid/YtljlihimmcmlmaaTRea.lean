/- The walk of the laws' reach. -/
import Derived.Test.YtljlihimmcmlmaaTEsa
import Derived.Test.YtljlihimmcmlmaaTLev
namespace Go.Proofs.Ytljlihimmcmlmaa
set_option linter.unusedVariables false
set_option linter.unusedSimpArgs false
open Go.RowKit
set_option maxHeartbeats 2000000 in
set_option maxRecDepth 100000 in
theorem reach_any (p : Pg) (n x : Nat) (w : World) (hp : PgOk w p) (hf : PgFine p n) :
    Calls Try.prog 25 #[p.v, .int .i64 (x : Int)] w fun e w' => ∃ (g : Nat) (m : List Bool), e = .returned (.slice (some ⟨g, 0, none⟩) n n) ∧ m.length = n ∧ At w' g 4 (bcells m) ∧ (∀ b, m.getD b false = true ↔ Tj.Dep (Tj.next (edges p)) x b) ∧ Below w.heap.size w w' := by
  have HG := Lib.hid (fun W (h : Below w.heap.size w W) => edges_at p n W (hp.below h) hf)
  have HES := Lib.hid hf.es
  have hel := hf.el
  have hn := hf.hn
  have hn1 := hf.n1
  obtain ⟨es, hes0⟩ : ∃ es, edges p = es := ⟨_, rfl⟩
  rw [hes0] at HES hel HG ⊢
  clear hes0 hf hp
  unfold Pg.v at HG ⊢
  generalize p.ra = ra at *
  generalize p.pa = pa at *
  rw [hn] at HG ⊢
  clear hn
  obtain ⟨i0, hi0, hz0, hz1, hz2⟩ := info_of bool_info
  obtain ⟨iI, hi2, hx0, hx1, hx2⟩ := info_of int_info
  have HAT := Lib.hid (At.new w 27 #[.slice p.lat.a p.lat.n p.lat.c, .slice p.fns.a p.fns.n p.fns.c, .slice pa n p.pc, .slice ra p.rus.length p.rc])
  go_enter Try.func25, Try.ntmps25
  go_wp2_with (go_at_call 12; refine (HG.out _ (below1 _ _)).mono ?_; rintro e w2 ⟨va, vc, ua, uc, rfl, hE, hb2⟩; obtain ⟨p0, p1, p2, p3⟩ := pg_cells (HAT.out.next hb2))
  have HB2 := Lib.hid ((below1 w (.cells #[.slice p.lat.a p.lat.n p.lat.c, .slice p.fns.a p.fns.n p.fns.c, .slice pa n p.pc, .slice ra p.rus.length p.rc] 27)).trans (hb2.mono (by simp)))
  have q0 := run_make_one w2 Try.underlying31 hi0 hz0 hz1 (by rw [hz2]; decide) rfl n (by omega)
  have HE := Lib.hid (fun W (h : Below w2.heap.size w2 W) => hE.below h)
  have hlt2 := (HAT.out.next hb2).lt
  clear hE hb2 HG
  go_wp2_with fail
  rw [q0]
  go_wp2_with fail
  clear q0 p0 p1 p2 p3
  go_loopw [8, 9, 10, 11] (fun l i _ _ wr => ∃ (k : Nat) (s : List Bool × List Nat), i = .int .i64 k ∧ k ≤ s.2.length ∧ Hid (Tj.RI es n x k 0 s) ∧ s.1.length = n ∧ s.2.length ≤ n + 1 ∧ At wr w2.heap.size 4 (bcells s.1) ∧ wr.ownsRow (w2.heap.size + 1) 3 1 l s.2.length (ncells s.2) ∧ Below w2.heap.size w2 wr) (fun _ i _ _ _ => n + 1 - (intOf i).toNat)
  case atStart =>
    refine ⟨0, (List.replicate n false, [x]), rfl, by simp, Lib.hid (Tj.RI.start es n x), by simp, by simp, ?_, ?_, (below1 _ _).alloc (by simp) _⟩
    · have h := (At.new w2 4 (Array.replicate n (.bool false))).alloc (.cells #[.int .i64 (x : Int)] 3)
      unfold bcells; simpa using h
    · refine ⟨by simp [ncells], Or.inr ⟨w2.heap.size + 1, 1, #[.int .i64 (x : Int)], rfl, Nat.le_refl _, ?_, by simp, by simp [maxLen], by simp, by simp [ncells]⟩⟩
      have h := At.newAt (w := w2.alloc (.cells (Array.replicate n (.bool false)) 4)) (g := w2.heap.size + 1) (by simp) 3 #[.int .i64 (x : Int)]
      exact h
  case round =>
    obtain ⟨k, s, rfl, hk, HR, hs1, hs2, hat, hrow, hbw⟩ := hrel
    obtain ⟨la, lc, rfl⟩ := own_len hrow
    by_cases h1 : k < s.2.length
    · have d1 : decide ((k : Int) < (s.2.length : Int)) = true := by simp; omega
      obtain ⟨y, hy⟩ : ∃ y, s.2[k]? = some y := ⟨_, List.getElem?_eq_getElem h1⟩
      go_wp2_with fail
      go_loopw [8, 10, 11] (fun l j _ wr => ∃ (m : Nat) (s : List Bool × List Nat), j = .int .i64 m ∧ m ≤ es.length ∧ k < s.2.length ∧ s.2[k]? = some y ∧ Hid (Tj.RI es n x k m s) ∧ s.1.length = n ∧ s.2.length ≤ n + 1 ∧ At wr w2.heap.size 4 (bcells s.1) ∧ wr.ownsRow (w2.heap.size + 1) 3 1 l s.2.length (ncells s.2) ∧ Below w2.heap.size w2 wr) (fun _ j _ _ => es.length - (intOf j).toNat)
      case atStart => exact ⟨0, s, rfl, by omega, h1, hy, HR, hs1, hs2, hat, hrow, hbw⟩
      case round =>
        clear HR hs1 hs2 hat hrow hbw hy d1 h1 hk
        obtain ⟨m, s, rfl, hm, h1, hy, HR, hs1, hs2, hat, hrow, hbw⟩ := hrel
        obtain ⟨la, lc, rfl⟩ := own_len hrow
        by_cases h2 : m < es.length
        · have d2 : decide ((m : Int) < (es.length : Int)) = true := by simp; omega
          obtain ⟨e, he⟩ : ∃ e, es[m]? = some e := ⟨_, List.getElem?_eq_getElem h2⟩
          obtain ⟨hea, heb⟩ := HES.out e (List.mem_of_getElem? he)
          obtain ⟨ge, gu, rfl, rfl, hge, _, y0, y1, _⟩ := HE.out wr hbw m e he
          obtain ⟨gl, rfl, hgl, y2⟩ := own_num hrow hy
          have y3 := bcell hat (j := e.b) (by omega)
          have f1 : ∀ z : Held wr.heap.size wr, z.w.cell? ⟨ge, m * 2, none⟩ = some (.int .i64 (e.a : Int)) := fun z => z.cell hge y0
          have f2 : ∀ z : Held wr.heap.size wr, z.w.cell? ⟨gl, k, none⟩ = some (.int .i64 (y : Int)) := fun z => z.cell hgl y2
          have f3 : ∀ z : Held wr.heap.size wr, z.w.cell? ⟨w2.heap.size, e.b, none⟩ = some (.bool (s.1.getD e.b false)) := fun z => z.cell hat.lt y3
          obtain ⟨HS, hsy⟩ := HR.out.step HES.out hy he
          replace HS := Lib.hid HS
          have HSY := Lib.hid hsy
          have HST := Lib.hid (show Tj.rstep y s e = if e.a = y ∧ s.1.getD e.b false = false then (s.1.set e.b true, s.2 ++ [e.b]) else s from rfl)
          have i0 : (0 : Int) ≤ (m : Int) := by omega
          have i1 : (m : Int) < (es.length : Int) := by omega
          have i2 : (0 : Int) ≤ (k : Int) := by omega
          have i3 : (k : Int) < (s.2.length : Int) := by omega
          have i4 : (0 : Int) ≤ (e.b : Int) := by omega
          have i5 : (e.b : Int) < (n : Int) := by omega
          have d4 : decide ((0 : Int) ≤ (e.b : Int)) = true := by simp
          have d5 : decide ((e.b : Int) < (n : Int)) = true := by simp; omega
          clear he hy hsy HR
          by_cases h3 : e.a = y
          · have t1 : ((e.a : Int) == (y : Int)) = true := by rw [beq_iff_eq]; omega
            obtain ⟨z, hz⟩ : ∃ z, s.1.getD e.b false = z := ⟨_, rfl⟩
            rw [hz] at f3 HST
            clear hz
            cases z
            · have HST2 := Lib.hid (show Tj.rstep y s e = (s.1.set e.b true, s.2 ++ [e.b]) by rw [HST.out, if_pos ⟨h3, rfl⟩])
              clear h3 HST y0 y2 y3
              go_wp2_with fail
              refine wp_region_held wr.heap.size wr (Below.refl _ _) (by kernel_rfl) (by kernel_rfl) ?_
              repeat (go_big_quiet_step (fail))
              refine wpQuiet_nil ?_
              rintro wt ⟨⟨_, bt⟩, rfl⟩
              have hat := hat.next bt
              have hrow := own_below hrow bt
              have hbw := hbw.trans (bt.mono hbw.size)
              clear bt f1 f2 f3
              have yf : wt.frozen? ⟨w2.heap.size, e.b, none⟩ = false := hat.frozen _
              have yc : wt.cell? ⟨w2.heap.size, e.b, none⟩ = some (.bool (s.1.getD e.b false)) := bcell hat (j := e.b) (by omega)
              have hat1 := bput hat e.b true
              have hrow1 := own_putne (p := ⟨w2.heap.size, e.b, none⟩) hrow (own_far hrow hat (by decide)) (.bool true)
              have hbw1 := hbw.setCell (p := ⟨w2.heap.size, e.b, none⟩) (Nat.le_refl _) (.bool true)
              have hlt := hat.lt
              have hsz := hbw.size
              go_wp2_with (at_builtin; refine wpList_append_own _ rfl _ _ 42 rfl (w2.heap.size + 1) 3 iI (.int .i64 0) 1 8 Try.underlying42 hi2 hx0 hx1 hx2 rfl (by decide) _ _ _ rfl (hrow1.alloc _) ⟨wt.heap.size, 0, none⟩ 1 1 [.int .i64 (e.b : Int)] rfl rfl ?c1 ?c2 ?c3 ?c4 ?c5 ?_)
              case c1 => exact At.news (xs := [.int .i64 (e.b : Int)]) (At.newAt (by simp) _ _)
              case c2 => exact one1 rfl
              case c3 => simp [maxLen]; omega
              case c4 => omega
              case c5 => simp; omega
              intro v3 w3 o3 g3 _
              have hat3 := (hat1.alloc (.cells #[.int .i64 (e.b : Int)] 3)).grown g3 (own_far hrow1 hat1 (by decide))
              have hbw3 := (hbw1.alloc hbw1.size (.cells #[.int .i64 (e.b : Int)] 3)).grown g3 (by simp; omega) (fun q hq => by have := (own_lt hrow1 hq).1; omega)
              clear hat1 hrow1 hbw1 g3
              go_wp2_with fail
              go_roundw
              case rel =>
                have hb := HS.out
                have hy := HSY.out
                rw [HST2.out] at hb hy
                have hbd := hb.bound
                dsimp only at hbd
                refine ⟨m + 1, _, by go_num, by omega, ?_, hy, Lib.hid hb, ?_, hbd, hat3, ?_, hbw3⟩
                · dsimp only; rw [List.length_append]; omega
                · simp [hs1]
                · rw [ncells_snoc, List.length_append]; exact o3
              case measure => simp [intOf]; omega
            · have HST2 := Lib.hid (show Tj.rstep y s e = s by rw [HST.out, if_neg (fun h => by cases h.2)])
              clear h3 HST y0 y2 y3
              go_wp2_with fail
              refine wp_region_held wr.heap.size wr (Below.refl _ _) (by kernel_rfl) (by kernel_rfl) ?_
              repeat (go_big_quiet_step (fail))
              refine wpQuiet_nil ?_
              rintro wt ⟨⟨_, bt⟩, rfl⟩
              have hat := hat.next bt
              have hrow := own_below hrow bt
              have hbw := hbw.trans (bt.mono hbw.size)
              clear bt f1 f2 f3
              go_wp2_with fail
              go_roundw
              case rel =>
                have hb := HS.out
                have hy := HSY.out
                rw [HST2.out] at hb hy
                exact ⟨m + 1, s, by go_num, by omega, h1, hy, Lib.hid hb, hs1, hs2, hat, hrow, hbw⟩
              case measure => simp [intOf]; omega
          · have t1 : ((e.a : Int) == (y : Int)) = false := by rw [beq_eq_false_iff_ne]; omega
            have HST2 := Lib.hid (show Tj.rstep y s e = s by rw [HST.out, if_neg (fun h => h3 h.1)])
            clear h3 HST y0 y2 y3
            go_wp2_with fail
            refine wp_region_held wr.heap.size wr (Below.refl _ _) (by kernel_rfl) (by kernel_rfl) ?_
            repeat (go_big_quiet_step (fail))
            refine wpQuiet_nil ?_
            rintro wt ⟨⟨_, bt⟩, rfl⟩
            have hat := hat.next bt
            have hrow := own_below hrow bt
            have hbw := hbw.trans (bt.mono hbw.size)
            clear bt f1 f2 f3
            go_wp2_with fail
            go_roundw
            case rel =>
              have hb := HS.out
              have hy := HSY.out
              rw [HST2.out] at hb hy
              exact ⟨m + 1, s, by go_num, by omega, h1, hy, Lib.hid hb, hs1, hs2, hat, hrow, hbw⟩
            case measure => simp [intOf]; omega
        · have d2 : decide ((m : Int) < (es.length : Int)) = false := by simp; omega
          have HN := Lib.hid (HR.out.next (by omega))
          go_wp2_with fail
          go_roundw
          case rel => exact ⟨k + 1, s, by go_num, by omega, HN, hs1, hs2, hat, hrow, hbw⟩
          case measure => simp [intOf]; omega
    · have d1 : decide ((k : Int) < (s.2.length : Int)) = false := by simp; omega
      have HO := Lib.hid (HR.out.out (by omega))
      go_wp2_with fail
      go_ret
      exact ⟨w2.heap.size, s.1, rfl, hs1, hat, HO.out, HB2.out.trans (hbw.mono HB2.out.size)⟩
end Go.Proofs.Ytljlihimmcmlmaa
