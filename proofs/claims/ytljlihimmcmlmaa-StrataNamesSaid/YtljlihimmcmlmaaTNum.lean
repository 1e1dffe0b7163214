/- The walk of the laws' number. -/
import Derived.Test.YtljlihimmcmlmaaTEsa
import Derived.Test.YtljlihimmcmlmaaTLev
namespace Go.Proofs.Ytljlihimmcmlmaa
set_option linter.unusedVariables false
set_option linter.unusedSimpArgs false
open Go.RowKit
set_option maxHeartbeats 2000000 in
set_option maxRecDepth 100000 in
theorem number_any (p : Pg) (n : Nat) (A : Option Addr) (c : Nat) (L : List (List Nat)) (w : World) {g : Tj.G} (hn : p.prs.length = n) (hn1 : n ≤ 1000) (hL : LsAt w A L) (hlay : Tj.Lay g n L) :
    Calls Try.prog 24 #[p.v, .slice A L.length c] w fun e w' => ∃ b, e = .returned (.tuple #[.slice (some ⟨b, 0, none⟩) n n, .bool true]) ∧ At w' b 3 (ncells ((List.range n).map (Tj.rowOf L))).toArray ∧ Below w.heap.size w w' := by
  obtain ⟨i0, hi0, hz0, hz1, hz2⟩ := info_of bool_info
  obtain ⟨i2, hi2, hx0, hx1, hx2⟩ := info_of int_info
  have HL := Lib.hid (fun W (h : Below w.heap.size w W) => hL.below h)
  have HY := Lib.hid hlay
  have hLn := hlay.len
  clear hL hlay
  unfold Pg.v
  generalize p.pa = pa at *
  generalize p.ra = ra at *
  rw [hn]
  clear hn
  obtain ⟨w1, hw1⟩ : ∃ w1, w1 = w.alloc (.cells #[.slice p.lat.a p.lat.n p.lat.c, .slice p.fns.a p.fns.n p.fns.c, .slice pa n p.pc, .slice ra p.rus.length p.rc] 27) := ⟨_, rfl⟩
  have q0 := run_make_one w1 Try.underlying42 hi2 hx0 hx1 (by rw [hx2]; decide) rfl n (by omega)
  have q1 := run_make_one (w1.alloc (.cells (Array.replicate n (.int .i64 0)) 3)) Try.underlying31 hi0 hz0 hz1 (by rw [hz2]; decide) rfl n (by omega)
  have hb1 : Below w.heap.size w w1 := by rw [hw1]; exact below1 _ _
  have hat1 : At w1 w.heap.size 27 #[.slice p.lat.a p.lat.n p.lat.c, .slice p.fns.a p.fns.n p.fns.c, .slice pa n p.pc, .slice ra p.rus.length p.rc] := by rw [hw1]; exact At.new _ _ _
  have hs1 : w1.heap.size = w.heap.size + 1 := by rw [hw1]; simp
  rw [hw1] at q0 q1
  go_enter Try.func24, Try.ntmps24
  go_wp2_with fail
  have hA0 : At ((w1.alloc (.cells (Array.replicate n (.int .i64 0)) 3)).alloc (.cells (Array.replicate n (.bool false)) 4)) (w.heap.size + 1) 3 (ncells (Tj.numL n L [])).toArray := by
    have h := (At.newAt (w := w1) hs1 3 (Array.replicate n (.int .i64 0))).alloc (.cells (Array.replicate n (.bool false)) 4)
    have e : (ncells (Tj.numL n L [])).toArray = Array.replicate n (.int .i64 0) := by
      unfold ncells Tj.numL
      apply Array.ext
      · simp
      · intro i h1 h2; simp
    rw [e]; exact h
  have hA1 : At ((w1.alloc (.cells (Array.replicate n (.int .i64 0)) 3)).alloc (.cells (Array.replicate n (.bool false)) 4)) (w.heap.size + 2) 4 (bcells (Tj.seenL n [])) := by
    have h := At.newAt (w := w1.alloc (.cells (Array.replicate n (.int .i64 0)) 3)) (g := w.heap.size + 2) (by simp [hs1]) 4 (Array.replicate n (.bool false))
    have e : bcells (Tj.seenL n []) = Array.replicate n (.bool false) := by
      unfold bcells Tj.seenL
      apply Array.ext
      · simp
      · intro i h1 h2; simp
    rw [e]; exact h
  have hbA : Below w.heap.size w ((w1.alloc (.cells (Array.replicate n (.int .i64 0)) 3)).alloc (.cells (Array.replicate n (.bool false)) 4)) := (hb1.alloc (by omega) _).alloc (by simp; omega) _
  rw [hw1] at hA0 hA1 hbA
  clear q0 q1 hb1 hat1 hs1 hw1
  go_loopw [8, 9, 10, 11] (fun q i _ _ wr => ∃ k : Nat, k ≤ L.length ∧ i = .int .i64 k ∧ q = .int .i64 ((Tj.sofar L k 0).length : Nat) ∧ At wr (w.heap.size + 1) 3 (ncells (Tj.numL n L (Tj.sofar L k 0))).toArray ∧ At wr (w.heap.size + 2) 4 (bcells (Tj.seenL n (Tj.sofar L k 0))) ∧ Below w.heap.size w wr) (fun _ i _ _ _ => L.length - (intOf i).toNat)
  case atStart => exact ⟨0, by omega, rfl, by rw [Tj.sofar_zero]; rfl, by rw [Tj.sofar_zero]; exact hA0, by rw [Tj.sofar_zero]; exact hA1, hbA⟩
  case round =>
    clear hA0 hA1 hbA
    obtain ⟨k, hk, rfl, rfl, hn, hs, hb⟩ := hrel
    by_cases h1 : k < L.length
    · have d1 : decide ((k : Int) < (L.length : Int)) = true := by simp; omega
      obtain ⟨cr, hcr⟩ : ∃ x, L[k]? = some x := ⟨_, List.getElem?_eq_getElem h1⟩
      have hcl := HY.out.rlen hcr
      go_wp2_with fail
      go_loopw [8, 10, 11] (fun q i _ wr => ∃ m : Nat, m ≤ cr.length ∧ i = .int .i64 m ∧ q = .int .i64 ((Tj.sofar L k m).length : Nat) ∧ At wr (w.heap.size + 1) 3 (ncells (Tj.numL n L (Tj.sofar L k m))).toArray ∧ At wr (w.heap.size + 2) 4 (bcells (Tj.seenL n (Tj.sofar L k m))) ∧ Below w.heap.size w wr) (fun _ i _ _ => cr.length - (intOf i).toNat)
      case atStart => exact ⟨0, by omega, rfl, rfl, hn, hs, hb⟩
      case round =>
        clear hn hs hb d1
        obtain ⟨m, hm, rfl, rfl, hn, hs, hb⟩ := hrel
        obtain ⟨g0, o, B, cb, hA, hg, c0, hB⟩ := (HL.out wr hb).at hcr
        subst hA
        have j0 : (0 : Int) ≤ (k : Int) := by omega
        have j1 : (k : Int) < (L.length : Int) := by omega
        by_cases h2 : m < cr.length
        · have d2 : decide ((m : Int) < (cr.length : Int)) = true := by simp; omega
          obtain ⟨a, ha⟩ : ∃ x, cr[m]? = some x := ⟨_, List.getElem?_eq_getElem h2⟩
          obtain ⟨han, hna, hra, hlt⟩ := HY.out.num hcr ha
          have hsl := Tj.sofar_len HY.out hcr (k := m) (by omega)
          have hsn := Tj.sofar_snoc hcr ha
          have y0 := bcell hs (j := a) (by rw [Tj.seenL_len]; exact han)
          rw [Tj.seenL_get han, decide_eq_false hna] at y0
          have hs2 := bput hs a true
          have hn2 := nput hn a k
          rw [Tj.seenL_step] at hs2
          rw [Tj.numL_step HY.out hra] at hn2
          have HSN := Lib.hid hsn
          rw [← hsn] at hs2 hn2
          have hlen2 : (Tj.sofar L k (m + 1)).length = (Tj.sofar L k m).length + 1 := by rw [hsn]; simp
          generalize (Tj.sofar L k m).length = q at *
          have HLEN := Lib.hid hlen2
          have yf1 : wr.frozen? ⟨w.heap.size + 2, a, none⟩ = false := hs.frozen _
          have hsB := hs.put a (.bool true)
          have hnB := hn.far (p := ⟨w.heap.size + 2, a, none⟩) (by simp) (.bool true)
          have yf2 : (wr.setCell ⟨w.heap.size + 2, a, none⟩ (.bool true)).frozen? ⟨w.heap.size + 1, a, none⟩ = false := hnB.frozen _
          have y2 := ncell hnB (j := a) (by rw [Tj.numL_len]; exact han)
          have hn3 := (nput hnB a k)
          rw [Tj.numL_step HY.out hra, ← hsn] at hn3
          have hs3 := hs2.far (p := ⟨w.heap.size + 1, a, none⟩) (by simp) (.int .i64 (k : Int))
          have hb3 := (hb.setCell (p := ⟨w.heap.size + 2, a, none⟩) (by simp) (.bool true)).setCell (p := ⟨w.heap.size + 1, a, none⟩) (by simp) (.int .i64 (k : Int))
          have hlt1 := hs.lt
          have hlt2 := hn.lt
          obtain ⟨gB, oB, rfl, hgB, z0⟩ := hB.at ha
          have i0 : (0 : Int) ≤ (m : Int) := by omega
          have i1 : (m : Int) < (cr.length : Int) := by omega
          have i2 : (0 : Int) ≤ (a : Int) := by omega
          have i3 : (a : Int) < (n : Int) := by omega
          have e1 : decide ((a : Int) < 0) = false := by simp
          have e2 : decide ((n : Int) ≤ (a : Int)) = false := by simp; omega
          have e2' : decide (n ≤ a) = false := by simp; omega
          clear hsn hlen2 hn2 hs2 hsB hnB hna
          rcases Nat.eq_zero_or_pos m with hm0 | hm0
          · subst hm0
            have e3 : decide ((0 : Int) < 0) = false := rfl
            rw [Nat.add_zero] at z0
            clear hlt ha hcr
            go_wp2_with fail
            go_roundw
            case rel => exact ⟨1, by omega, by go_num, by rw [HLEN.out]; go_num, hn3, hs3, hb3⟩
            case measure => simp [intOf]; omega
          · obtain ⟨q', hq'⟩ : ∃ q', m = q' + 1 := ⟨m - 1, by omega⟩
            obtain ⟨b, hbq⟩ : ∃ b, cr[q']? = some b := ⟨_, List.getElem?_eq_getElem (by omega)⟩
            have hba := hlt b q' hq' hbq
            obtain ⟨gB', oB', eB, hgB', z1⟩ := hB.at hbq
            obtain ⟨rfl, rfl⟩ := addr_inj eB
            have n1 : IntKind.i64.wrap ((m : Int) - 1) = (q' : Int) := by rw [IntKind.wrap_i64]; omega
            have e3 : decide ((0 : Int) < (m : Int)) = true := by simp; omega
            have e4 : decide ((a : Int) ≤ (b : Int)) = false := by simp; omega
            have e4' : decide (a ≤ b) = false := by simp; omega
            have e3' : decide (0 < m) = true := by simp; omega
            have i4 : (0 : Int) ≤ (q' : Int) := by omega
            have i5 : (q' : Int) < (cr.length : Int) := by omega
            clear hlt ha hcr eB hbq hB hba hq' hm0
            go_wp2_with fail
            go_roundw
            case rel => exact ⟨m + 1, by omega, by go_num, by rw [HLEN.out]; go_num, hn3, hs3, hb3⟩
            case measure => simp [intOf]; omega
        · have d2 : decide ((m : Int) < (cr.length : Int)) = false := by simp; omega
          have HSX := Lib.hid (Tj.sofar_next hcr (k := m) (by omega))
          rw [HSX.out] at hn hs
          have HN2 := Lib.hid hn
          have HS2 := Lib.hid hs
          clear hn hs
          go_wp2_with fail
          go_roundw
          case rel => exact ⟨k + 1, by omega, by go_num, by rw [← HSX.out], HN2.out, HS2.out, hb⟩
          case measure => simp [intOf]; omega
    · have d1 : decide ((k : Int) < (L.length : Int)) = false := by simp; omega
      have hall := Tj.sofar_all (L := L) (i := k) (by omega)
      rw [hall, Tj.numL_all HY.out] at hn
      have hq : (Tj.sofar L k 0).length = n := by rw [hall]; exact HY.out.count
      rw [hq]
      have HN := Lib.hid hn
      have t1 : ((n : Int) == (n : Int)) = true := by simp
      clear hall hq hn hs
      go_wp2_with fail
      go_ret2
      exact ⟨w.heap.size + 1, rfl, HN.out, hb⟩
end Go.Proofs.Ytljlihimmcmlmaa
