/- Matrices in memory; the walk of Together. -/
import Derived.Test.YtljlihimmcmlmaaTRCm
import Derived.Test.YtljlihimmcmlmaaTSmall
import Derived.Test.YtljlihimmcmlmaaTInfo
namespace Go.Proofs.Ytljlihimmcmlmaa
set_option linter.unusedVariables false
set_option linter.unusedSimpArgs false
open Go.RowKit
/-- A slice's cells are headers of slices that hold these truth values. -/
def MxAt (w : World) (A : Option Addr) (M : Tj.Mx) : Prop := M ≠ [] → ∃ g o, A = some ⟨g, o, none⟩ ∧ g < w.heap.size ∧ ∀ (a : Nat) (row : List Bool), M[a]? = some row → ∃ b c, w.cell? ⟨g, o + a, none⟩ = some (.slice (some ⟨b, 0, none⟩) row.length c) ∧ b < w.heap.size ∧ ∀ (j : Nat) (x : Bool), row[j]? = some x → w.cell? ⟨b, j, none⟩ = some (.bool x)
theorem MxAt.below {w w' : World} {A : Option Addr} {M : Tj.Mx} (h : MxAt w A M) (hb : Below w.heap.size w w') : MxAt w' A M := fun hn => by
  obtain ⟨g, o, e, hg, hc⟩ := h hn
  refine ⟨g, o, e, Nat.lt_of_lt_of_le hg hb.size, fun a row ha => ?_⟩
  obtain ⟨b, c, h1, h2, h3⟩ := hc a row ha
  exact ⟨b, c, (hb.cell hg).trans h1, Nat.lt_of_lt_of_le h2 hb.size, fun j x hx => (hb.cell h2).trans (h3 j x hx)⟩
theorem MxAt.get {w : World} {A : Option Addr} {M : Tj.Mx} {n : Nat} (h : MxAt w A M) (hs : Tj.Sq n M) {a : Nat} (ha : a < n) : ∃ g o b c, A = some ⟨g, o, none⟩ ∧ g < w.heap.size ∧ w.cell? ⟨g, o + a, none⟩ = some (.slice (some ⟨b, 0, none⟩) n c) ∧ b < w.heap.size ∧ ∀ j < n, w.cell? ⟨b, j, none⟩ = some (.bool (Tj.mget M a j)) := by
  have hl : a < M.length := by rw [hs.rows]; exact ha
  obtain ⟨g, o, e, hg, hc⟩ := h (by intro e; rw [e] at hl; simp at hl)
  obtain ⟨b, c, h1, h2, h3⟩ := hc a _ (List.getElem?_eq_getElem hl)
  have hr : M[a].length = n := hs.cols _ (List.getElem_mem _)
  rw [hr] at h1
  refine ⟨g, o, b, c, e, hg, h1, h2, fun j hj => ?_⟩
  rw [h3 j _ (List.getElem?_eq_getElem (show j < M[a].length by omega))]
  unfold Tj.mget
  rw [List.getD_eq_getElem?_getD (i := a), List.getElem?_eq_getElem hl, Option.getD_some, List.getD_eq_getElem?_getD, List.getElem?_eq_getElem (show j < M[a].length by omega)]; rfl
theorem together_any (A : Option Addr) (c n : Nat) (M : Tj.Mx) (a b : Nat) (w : World) (hM : MxAt w A M) (hs : Tj.Sq n M) (ha : a < n) (hb : b < n) (hn : n ≤ 1000000) :
    Calls Try.prog 37 #[.slice A n c, .int .i64 (a : Int), .int .i64 (b : Int)] w fun e w' => e = .returned (.bool (Tj.tog M a b)) ∧ w = w' := by
  obtain ⟨R, hR⟩ : ∃ R, Tj.tog M a b = R := ⟨_, rfl⟩
  rw [hR]
  unfold Tj.tog at hR
  by_cases h1 : a = b
  · have t1 : ((a : Int) == (b : Int)) = true := by rw [beq_iff_eq]; omega
    have HR := Lib.hid (show R = true by rw [← hR, decide_eq_true h1]; rfl)
    clear hR h1
    go_enter Try.func37, Try.ntmps37
    go_wp2_with fail
    go_ret
    exact ⟨by rw [HR.out]; rfl, rfl⟩
  · have t1 : ((a : Int) == (b : Int)) = false := by rw [beq_eq_false_iff_ne]; omega
    rw [decide_eq_false h1, Bool.false_or] at hR
    obtain ⟨g, o, ba, ca, rfl, hg, c0, hba, cr⟩ := hM.get hs ha
    obtain ⟨g', o', bb, cb, e, hg', c1, hbb, cr'⟩ := hM.get hs hb
    obtain ⟨e1, e2⟩ : g' = g ∧ o' = o := by injection e with e; injection e with e1 e2; exact ⟨e1.symm, e2.symm⟩
    subst e1; subst e2
    have x0 := cr b hb
    have x1 := cr' a ha
    have i0 : (0 : Int) ≤ (a : Int) := by omega
    have i1 : (a : Int) < (n : Int) := by omega
    have i2 : (0 : Int) ≤ (b : Int) := by omega
    have i3 : (b : Int) < (n : Int) := by omega
    generalize Tj.mget M a b = x at *
    generalize Tj.mget M b a = y at *
    have HR := Lib.hid hR.symm
    clear hR h1 e cr cr'
    cases x
    · go_enter Try.func37, Try.ntmps37
      go_wp2_with fail
      go_ret
      exact ⟨by rw [HR.out]; rfl, rfl⟩
    · go_enter Try.func37, Try.ntmps37
      go_wp2_with fail
      go_ret
      exact ⟨by rw [HR.out]; rfl, rfl⟩
end Go.Proofs.Ytljlihimmcmlmaa
namespace Go.Proofs.Ytljlihimmcmlmaa
set_option linter.unusedVariables false
set_option linter.unusedSimpArgs false
open Go.RowKit
def NumsN (w : World) (B : Option Addr) (row : List Nat) : Prop := row ≠ [] → ∃ g o, B = some ⟨g, o, none⟩ ∧ g < w.heap.size ∧ ∀ (j : Nat) (x : Nat), row[j]? = some x → w.cell? ⟨g, o + j, none⟩ = some (.int .i64 (x : Int))
theorem NumsN.below {w w' : World} {B : Option Addr} {row : List Nat} (h : NumsN w B row) (hb : Below w.heap.size w w') : NumsN w' B row := fun hn => by
  obtain ⟨g, o, e, hg, hc⟩ := h hn
  exact ⟨g, o, e, Nat.lt_of_lt_of_le hg hb.size, fun j x hx => (hb.cell hg).trans (hc j x hx)⟩
theorem NumsN.at {w : World} {B : Option Addr} {row : List Nat} (h : NumsN w B row) {j x : Nat} (hj : row[j]? = some x) : ∃ g o, B = some ⟨g, o, none⟩ ∧ g < w.heap.size ∧ w.cell? ⟨g, o + j, none⟩ = some (.int .i64 (x : Int)) := by
  obtain ⟨g, o, e, hg, hc⟩ := h (by intro e; rw [e] at hj; simp at hj)
  exact ⟨g, o, e, hg, hc j x hj⟩
def LsAt (w : World) (A : Option Addr) (F : List (List Nat)) : Prop := F ≠ [] → ∃ g o, A = some ⟨g, o, none⟩ ∧ g < w.heap.size ∧ ∀ (a : Nat) (row : List Nat), F[a]? = some row → ∃ B c, w.cell? ⟨g, o + a, none⟩ = some (.slice B row.length c) ∧ NumsN w B row
theorem LsAt.below {w w' : World} {A : Option Addr} {F : List (List Nat)} (h : LsAt w A F) (hb : Below w.heap.size w w') : LsAt w' A F := fun hn => by
  obtain ⟨g, o, e, hg, hc⟩ := h hn
  refine ⟨g, o, e, Nat.lt_of_lt_of_le hg hb.size, fun a row ha => ?_⟩
  obtain ⟨B, c, h1, h2⟩ := hc a row ha
  exact ⟨B, c, (hb.cell hg).trans h1, h2.below hb⟩
theorem LsAt.at {w : World} {A : Option Addr} {F : List (List Nat)} (h : LsAt w A F) {a : Nat} {row : List Nat} (ha : F[a]? = some row) : ∃ g o B c, A = some ⟨g, o, none⟩ ∧ g < w.heap.size ∧ w.cell? ⟨g, o + a, none⟩ = some (.slice B row.length c) ∧ NumsN w B row := by
  obtain ⟨g, o, e, hg, hc⟩ := h (by intro e; rw [e] at ha; simp at ha)
  obtain ⟨B, c, h1, h2⟩ := hc a row ha
  exact ⟨g, o, B, c, e, hg, h1, h2⟩
theorem ext_upto {α : Type} {F G : List α} (hl : F.length = G.length) {k : Nat} (h : ∀ j, j < k → F[j]? = G[j]?) (hk : F.length ≤ k) : F = G := by
  apply List.ext_getElem?
  intro j
  by_cases hj : j < F.length
  · exact h j (by omega)
  · rw [List.getElem?_eq_none (by omega), List.getElem?_eq_none (by omega)]
set_option maxHeartbeats 1000000 in
set_option maxRecDepth 100000 in
theorem same_any (A : Option Addr) (c : Nat) (F : List (List Nat)) (B : Option Addr) (d : Nat) (G : List (List Nat)) (w : World) (hF : F.length ≤ 1000000) (hG : G.length ≤ 1000000) (hFr : ∀ r ∈ F, r.length ≤ 1000000) (hGr : ∀ r ∈ G, r.length ≤ 1000000) (hA : LsAt w A F) (hB : LsAt w B G) :
    Calls Try.prog 14 #[.slice A F.length c, .slice B G.length d] w fun e w' => e = .returned (.bool (decide (F = G))) ∧ Below w.heap.size w w' := by
  by_cases hlen : F.length = G.length
  · have t1 : ((F.length : Int) == (G.length : Int)) = true := by rw [beq_iff_eq]; omega
    have t2 : ((F.length : Int) != (G.length : Int)) = false := by rw [bne, t1]; rfl
    have HLEN := Lib.hid hlen
    clear hlen
    go_enter Try.func14, Try.ntmps14
    go_wp2_with fail
    go_loopw [5, 6] (fun i _ wr => ∃ k : Nat, k ≤ F.length ∧ Hid (∀ j, j < k → F[j]? = G[j]?) ∧ i = .int .i64 k ∧ Below w.heap.size w wr) (fun i _ _ => F.length - (intOf i).toNat)
    case atStart => exact ⟨0, by omega, Lib.hid (fun j hj => by omega), rfl, Below.refl _ _⟩
    case round =>
      obtain ⟨k, hk, HN, rfl, hbw⟩ := hrel
      by_cases h1 : k < F.length
      · have d1 : decide ((k : Int) < (F.length : Int)) = true := by simp; omega
        obtain ⟨x, hx⟩ : ∃ x, F[k]? = some x := ⟨_, List.getElem?_eq_getElem h1⟩
        obtain ⟨y, hy⟩ : ∃ y, G[k]? = some y := ⟨_, List.getElem?_eq_getElem (by have := HLEN.out; omega)⟩
        obtain ⟨g, o, X, cx, rfl, hg, c0, nx⟩ := hA.at hx
        obtain ⟨g', o', Y, cy, rfl, hg', c1, ny⟩ := hB.at hy
        have hxl := hFr x (List.mem_of_getElem? hx)
        have hyl := hGr y (List.mem_of_getElem? hy)
        have i0 : (0 : Int) ≤ (k : Int) := by omega
        have i1 : (k : Int) < (F.length : Int) := by omega
        have i2 : (k : Int) < (G.length : Int) := by have := HLEN.out; omega
        have f0 : ∀ z : Held wr.heap.size wr, z.w.cell? ⟨g, o + k, none⟩ = some (.slice X x.length cx) := fun z => z.cell (Nat.lt_of_lt_of_le hg hbw.size) ((hbw.cell hg).trans c0)
        have f1 : ∀ z : Held wr.heap.size wr, z.w.cell? ⟨g', o' + k, none⟩ = some (.slice Y y.length cy) := fun z => z.cell (Nat.lt_of_lt_of_le hg' hbw.size) ((hbw.cell hg').trans c1)
        have HX := Lib.hid hx
        have HY := Lib.hid hy
        clear hx hy
        by_cases hl2 : x.length = y.length
        · have u1 : ((x.length : Int) == (y.length : Int)) = true := by rw [beq_iff_eq]; omega
          have u2 : ((x.length : Int) != (y.length : Int)) = false := by rw [bne, u1]; rfl
          have HL2 := Lib.hid hl2
          clear hl2 t1 t2
          go_wp2_with fail
          refine wp_region_held wr.heap.size wr (Below.refl _ _) (by kernel_rfl) (by kernel_rfl) ?_
          repeat (go_big_quiet_step (fail))
          refine wpQuiet_nil ?_
          rintro wt ⟨⟨_, bt⟩, rfl⟩
          have bwt := hbw.trans (bt.mono hbw.size)
          clear f0 f1 bt hbw
          go_wp2_with fail
          go_loopw [6] (fun j wr => ∃ m : Nat, m ≤ x.length ∧ Hid (∀ j, j < m → x[j]? = y[j]?) ∧ j = .int .i64 m ∧ Below w.heap.size w wr) (fun j _ => x.length - (intOf j).toNat)
          case atStart => exact ⟨0, by omega, Lib.hid (fun j hj => by omega), rfl, bwt⟩
          case round =>
            clear bwt
            obtain ⟨m, hm, HM, rfl, hbw⟩ := hrel
            have e0 := (hbw.cell hg).trans c0
            have e1 := (hbw.cell hg').trans c1
            by_cases h2 : m < x.length
            · have d2 : decide ((m : Int) < (x.length : Int)) = true := by simp; omega
              obtain ⟨u, hu⟩ : ∃ u, x[m]? = some u := ⟨_, List.getElem?_eq_getElem h2⟩
              obtain ⟨v, hv⟩ : ∃ v, y[m]? = some v := ⟨_, List.getElem?_eq_getElem (by have := HL2.out; omega)⟩
              obtain ⟨gx, ox, rfl, hgx, cu⟩ := nx.at hu
              obtain ⟨gy, oy, rfl, hgy, cv⟩ := ny.at hv
              have j0 : (0 : Int) ≤ (m : Int) := by omega
              have j1 : (m : Int) < (x.length : Int) := by omega
              have j2 : (m : Int) < (y.length : Int) := by have := HL2.out; omega
              have f0 : ∀ z : Held wr.heap.size wr, z.w.cell? ⟨g, o + k, none⟩ = some (.slice (some ⟨gx, ox, none⟩) x.length cx) := fun z => z.cell (Nat.lt_of_lt_of_le hg hbw.size) e0
              have f1 : ∀ z : Held wr.heap.size wr, z.w.cell? ⟨g', o' + k, none⟩ = some (.slice (some ⟨gy, oy, none⟩) y.length cy) := fun z => z.cell (Nat.lt_of_lt_of_le hg' hbw.size) e1
              have f2 : ∀ z : Held wr.heap.size wr, z.w.cell? ⟨gx, ox + m, none⟩ = some (.int .i64 (u : Int)) := fun z => z.cell (Nat.lt_of_lt_of_le hgx hbw.size) ((hbw.cell hgx).trans cu)
              have f3 : ∀ z : Held wr.heap.size wr, z.w.cell? ⟨gy, oy + m, none⟩ = some (.int .i64 (v : Int)) := fun z => z.cell (Nat.lt_of_lt_of_le hgy hbw.size) ((hbw.cell hgy).trans cv)
              by_cases huv : u = v
              · have v1 : ((u : Int) == (v : Int)) = true := by rw [beq_iff_eq]; omega
                have v2 : ((u : Int) != (v : Int)) = false := by rw [bne, v1]; rfl
                have HE := Lib.hid (show ∀ j, j < m + 1 → x[j]? = y[j]? from fun j hj => by
                  by_cases e : j = m
                  · rw [e, hu, hv, huv]
                  · exact HM.out j (by omega))
                clear hu hv huv
                go_wp2_with fail
                refine wp_region_held wr.heap.size wr (Below.refl _ _) (by kernel_rfl) (by kernel_rfl) ?_
                repeat (go_big_quiet_step (fail))
                refine wpQuiet_nil ?_
                rintro wt ⟨⟨_, bt⟩, rfl⟩
                go_wp2_with fail
                go_roundw
                case rel => exact ⟨m + 1, by omega, HE, by go_num, hbw.trans (bt.mono hbw.size)⟩
                case measure => simp [intOf]; omega
              · have v1 : ((u : Int) == (v : Int)) = false := by rw [beq_eq_false_iff_ne]; omega
                have v2 : ((u : Int) != (v : Int)) = true := by rw [bne, v1]; rfl
                have HE := Lib.hid (show decide (F = G) = false from decide_eq_false (fun e => huv (by
                  have h5 := HX.out; have h6 := HY.out; rw [e, h6] at h5
                  obtain rfl := Option.some.inj h5
                  rw [hu] at hv; exact Option.some.inj hv)))
                clear hu hv huv
                go_wp2_with fail
                refine wp_region_held wr.heap.size wr (Below.refl _ _) (by kernel_rfl) (by kernel_rfl) ?_
                repeat (go_big_quiet_step (fail))
                refine wpQuiet_nil ?_
                rintro wt ⟨⟨_, bt⟩, rfl⟩
                go_wp2_with fail
                go_ret
                exact ⟨by rw [HE.out]; rfl, hbw.trans (bt.mono hbw.size)⟩
            · have d2 : decide ((m : Int) < (x.length : Int)) = false := by simp; omega
              have HE := Lib.hid (show ∀ j, j < k + 1 → F[j]? = G[j]? from fun j hj => by
                by_cases e : j = k
                · rw [e, HX.out, HY.out, ext_upto HL2.out HM.out (by omega)]
                · exact HN.out j (by omega))
              go_wp2_with fail
              go_roundw
              case rel => exact ⟨k + 1, by omega, HE, by go_num, hbw⟩
              case measure => simp [intOf]; omega
        · have u1 : ((x.length : Int) == (y.length : Int)) = false := by rw [beq_eq_false_iff_ne]; omega
          have u2 : ((x.length : Int) != (y.length : Int)) = true := by rw [bne, u1]; rfl
          have HE := Lib.hid (show decide (F = G) = false from decide_eq_false (fun e => hl2 (by
            have h5 := HX.out; have h6 := HY.out; rw [e, h6] at h5
            rw [Option.some.inj h5])))
          clear hl2 t1 t2
          go_wp2_with fail
          refine wp_region_held wr.heap.size wr (Below.refl _ _) (by kernel_rfl) (by kernel_rfl) ?_
          repeat (go_big_quiet_step (fail))
          refine wpQuiet_nil ?_
          rintro wt ⟨⟨_, bt⟩, rfl⟩
          go_wp2_with fail
          go_ret
          exact ⟨by rw [HE.out]; rfl, hbw.trans (bt.mono hbw.size)⟩
      · have d1 : decide ((k : Int) < (F.length : Int)) = false := by simp; omega
        have HE := Lib.hid (show decide (F = G) = true from decide_eq_true (ext_upto HLEN.out HN.out (by omega)))
        go_wp2_with fail
        go_ret
        exact ⟨by rw [HE.out]; rfl, hbw⟩
  · have t1 : ((F.length : Int) == (G.length : Int)) = false := by rw [beq_eq_false_iff_ne]; omega
    have t2 : ((F.length : Int) != (G.length : Int)) = true := by rw [bne, t1]; rfl
    have HE := Lib.hid (show decide (F = G) = false from decide_eq_false (fun e => hlen (by rw [e])))
    clear hlen
    go_enter Try.func14, Try.ntmps14
    go_wp2_with fail
    go_ret
    exact ⟨by rw [HE.out]; rfl, Below.refl _ _⟩
end Go.Proofs.Ytljlihimmcmlmaa
namespace Go.Proofs.Ytljlihimmcmlmaa
set_option linter.unusedVariables false
set_option linter.unusedSimpArgs false
open Go.RowKit
/-- A list of diagnostics in memory: error's number and position. -/
def DgAt (w : World) (A : Option Addr) (D : List (Int × Int)) : Prop := Str w A 2 (D.map fun d => [Value.int .i64 d.1, Value.int .i64 d.2])
theorem DgAt.below {w w' : World} {A : Option Addr} {D : List (Int × Int)} (h : DgAt w A D) (hb : Below w.heap.size w w') : DgAt w' A D := Str.below h hb
theorem DgAt.at {w : World} {A : Option Addr} {D : List (Int × Int)} (h : DgAt w A D) {k : Nat} {d : Int × Int} (hk : D[k]? = some d) : ∃ g o, A = some ⟨g, o, none⟩ ∧ g < w.heap.size ∧ w.cell? ⟨g, o + k * 2, none⟩ = some (.int .i64 d.1) ∧ w.cell? ⟨g, o + k * 2 + 1, none⟩ = some (.int .i64 d.2) := by
  obtain ⟨g, o, e, hg, hc⟩ := Str.at h (show (D.map fun d => [Value.int .i64 d.1, Value.int .i64 d.2])[k]? = some [Value.int .i64 d.1, Value.int .i64 d.2] by simp [hk])
  exact ⟨g, o, e, hg, hc 0 _ rfl, hc 1 _ rfl⟩
set_option maxHeartbeats 1000000 in
set_option maxRecDepth 100000 in
theorem sameDiags_any (A : Option Addr) (c : Nat) (F : List (Int × Int)) (B : Option Addr) (d : Nat) (G : List (Int × Int)) (w : World) (hF : F.length ≤ 1000000) (hG : G.length ≤ 1000000) (hA : DgAt w A F) (hB : DgAt w B G) :
    Calls Try.prog 19 #[.slice A F.length c, .slice B G.length d] w fun e w' => e = .returned (.bool (decide (F = G))) ∧ Below w.heap.size w w' := by
  by_cases hlen : F.length = G.length
  · have t1 : ((F.length : Int) == (G.length : Int)) = true := by rw [beq_iff_eq]; omega
    have t2 : ((F.length : Int) != (G.length : Int)) = false := by rw [bne, t1]; rfl
    have HLEN := Lib.hid hlen
    clear hlen
    go_enter Try.func19, Try.ntmps19
    go_wp2_with fail
    go_loopw [5] (fun i wr => ∃ k : Nat, k ≤ F.length ∧ Hid (∀ j, j < k → F[j]? = G[j]?) ∧ i = .int .i64 k ∧ Below w.heap.size w wr) (fun i _ => F.length - (intOf i).toNat)
    case atStart => exact ⟨0, by omega, Lib.hid (fun j hj => by omega), rfl, Below.refl _ _⟩
    case round =>
      obtain ⟨k, hk, HN, rfl, hbw⟩ := hrel
      by_cases h1 : k < F.length
      · have d1 : decide ((k : Int) < (F.length : Int)) = true := by simp; omega
        obtain ⟨x, hx⟩ : ∃ x, F[k]? = some x := ⟨_, List.getElem?_eq_getElem h1⟩
        obtain ⟨y, hy⟩ : ∃ y, G[k]? = some y := ⟨_, List.getElem?_eq_getElem (by have := HLEN.out; omega)⟩
        obtain ⟨g, o, rfl, hg, c0, c0'⟩ := hA.at hx
        obtain ⟨g', o', rfl, hg', c1, c1'⟩ := hB.at hy
        have i0 : (0 : Int) ≤ (k : Int) := by omega
        have i1 : (k : Int) < (F.length : Int) := by omega
        have i2 : (k : Int) < (G.length : Int) := by have := HLEN.out; omega
        have f0 : ∀ z : Held wr.heap.size wr, z.w.cell? ⟨g, o + k * 2, none⟩ = some (.int .i64 x.1) := fun z => z.cell (Nat.lt_of_lt_of_le hg hbw.size) ((hbw.cell hg).trans c0)
        have f0' : ∀ z : Held wr.heap.size wr, z.w.cell? ⟨g, o + k * 2 + 1, none⟩ = some (.int .i64 x.2) := fun z => z.cell (Nat.lt_of_lt_of_le hg hbw.size) ((hbw.cell hg).trans c0')
        have f1 : ∀ z : Held wr.heap.size wr, z.w.cell? ⟨g', o' + k * 2, none⟩ = some (.int .i64 y.1) := fun z => z.cell (Nat.lt_of_lt_of_le hg' hbw.size) ((hbw.cell hg').trans c1)
        have f1' : ∀ z : Held wr.heap.size wr, z.w.cell? ⟨g', o' + k * 2 + 1, none⟩ = some (.int .i64 y.2) := fun z => z.cell (Nat.lt_of_lt_of_le hg' hbw.size) ((hbw.cell hg').trans c1')
        clear c0 c0' c1 c1'
        cases q : ((x.1 == y.1) && (x.2 == y.2)) with
        | true =>
          have HE := Lib.hid (show ∀ j, j < k + 1 → F[j]? = G[j]? from fun j hj => by
            have q2 := q
            simp only [Bool.and_eq_true, beq_iff_eq] at q2
            by_cases e : j = k
            · rw [e, hx, hy, Prod.ext q2.1 q2.2]
            · exact HN.out j (by omega))
          have q1 := q
          rw [Bool.and_eq_true] at q1
          obtain ⟨v1, v2⟩ := q1
          clear hx hy t1 t2
          go_wp2_with fail
          refine wp_region_held wr.heap.size wr (Below.refl _ _) (by kernel_rfl) (by kernel_rfl) ?_
          repeat (go_big_quiet_step (fail))
          refine wpQuiet_nil ?_
          rintro wt ⟨⟨_, bt⟩, rfl⟩
          go_wp2_with fail
          go_roundw
          case rel => exact ⟨k + 1, by omega, HE, by go_num, hbw.trans (bt.mono hbw.size)⟩
          case measure => simp [intOf]; omega
        | false =>
          have HE := Lib.hid (show decide (F = G) = false from decide_eq_false (fun e => by
            rw [e, hy] at hx
            obtain rfl := Option.some.inj hx
            simp at q))
          have hv : ((x.1 == y.1) = false) ∨ ((x.1 == y.1) = true ∧ (x.2 == y.2) = false) := by
            cases v1 : (x.1 == y.1) with
            | false => exact .inl rfl
            | true => exact .inr ⟨rfl, by rw [v1] at q; exact q⟩
          clear hx hy t1 t2 q
          rcases hv with v1 | ⟨v1, v2⟩
          all_goals
            go_wp2_with fail
            refine wp_region_held wr.heap.size wr (Below.refl _ _) (by kernel_rfl) (by kernel_rfl) ?_
            repeat (go_big_quiet_step (fail))
            refine wpQuiet_nil ?_
            rintro wt ⟨⟨_, bt⟩, rfl⟩
            go_wp2_with fail
            go_ret
            exact ⟨by rw [HE.out]; rfl, hbw.trans (bt.mono hbw.size)⟩
      · have d1 : decide ((k : Int) < (F.length : Int)) = false := by simp; omega
        have HE := Lib.hid (show decide (F = G) = true from decide_eq_true (ext_upto HLEN.out HN.out (by omega)))
        go_wp2_with fail
        go_ret
        exact ⟨by rw [HE.out]; rfl, hbw⟩
  · have t1 : ((F.length : Int) == (G.length : Int)) = false := by rw [beq_eq_false_iff_ne]; omega
    have t2 : ((F.length : Int) != (G.length : Int)) = true := by rw [bne, t1]; rfl
    have HE := Lib.hid (show decide (F = G) = false from decide_eq_false (fun e => hlen (by rw [e])))
    clear hlen
    go_enter Try.func19, Try.ntmps19
    go_wp2_with fail
    go_ret
    exact ⟨by rw [HE.out]; rfl, Below.refl _ _⟩
end Go.Proofs.Ytljlihimmcmlmaa
namespace Go.Proofs.Ytljlihimmcmlmaa
set_option linter.unusedVariables false
set_option linter.unusedSimpArgs false
open Go.RowKit
/-- The header of row b. -/
def hdr (n b : Nat) : Value := .slice (some ⟨b, 0, none⟩) n n
structure MxOwn (w : World) (B : Nat) (v : Value) (n : Nat) (bs : List Nat) (M : Tj.Mx) : Prop where
  own : w.ownsRow B 31 1 v M.length (bs.map (hdr n))
  len : bs.length = M.length
  nodup : bs.Nodup
  low : ∀ b ∈ bs, B ≤ b
  rows : ∀ (a b : Nat) (row : List Bool), bs[a]? = some b → M[a]? = some row → row.length = n ∧ At w b 4 (row.map Value.bool).toArray
theorem MxOwn.below {w w' : World} {B : Nat} {v : Value} {n : Nat} {bs : List Nat} {M : Tj.Mx} (h : MxOwn w B v n bs M) (hb : Below w.heap.size w w') : MxOwn w' B v n bs M :=
  ⟨own_below h.own hb, h.len, h.nodup, h.low, fun a b row h1 h2 => ⟨(h.rows a b row h1 h2).1, (h.rows a b row h1 h2).2.next hb⟩⟩
theorem MxOwn.drew {w : World} {B : Nat} {v : Value} {n : Nat} {bs : List Nat} {M : Tj.Mx} (h : MxOwn w B v n bs M) : MxOwn w.drew B v n bs M :=
  ⟨h.own, h.len, h.nodup, h.low, fun a b row h1 h2 => ⟨(h.rows a b row h1 h2).1, (h.rows a b row h1 h2).2.drew⟩⟩
theorem MxOwn.put {w : World} {B : Nat} {v : Value} {n : Nat} {bs : List Nat} {M : Tj.Mx} (h : MxOwn w B v n bs M) {a b : Nat} (ha : bs[a]? = some b) (j : Nat) (x : Bool) : MxOwn (w.setCell ⟨b, j, none⟩ (.bool x)) B v n bs (Tj.mset M a j x) := by
  have hla : a < M.length := by rw [← h.len]; exact (List.getElem?_eq_some_iff.1 ha).1
  have hM : M[a]? = some (M.getD a []) := by rw [List.getD_eq_getElem?_getD, List.getElem?_eq_getElem hla]; rfl
  obtain ⟨hl, hat⟩ := h.rows a b _ ha hM
  refine ⟨?_, by simp [Tj.mset, h.len], h.nodup, h.low, fun a' b' row h1 h2 => ?_⟩
  · have := own_putne (p := ⟨b, j, none⟩) h.own (own_far h.own hat (by decide)) (.bool x)
    simpa [Tj.mset] using this
  · unfold Tj.mset at h2
    by_cases e : a = a'
    · subst e
      rw [ha] at h1
      obtain rfl := Option.some.inj h1
      rw [List.getElem?_set_self hla] at h2
      obtain rfl := Option.some.inj h2
      refine ⟨by rw [List.length_set]; exact hl, ?_⟩
      have := hat.put j (.bool x)
      rw [List.map_set, ← List.setIfInBounds_toArray]
      exact this
    · rw [List.getElem?_set_ne e] at h2
      refine ⟨(h.rows a' b' row h1 h2).1, (h.rows a' b' row h1 h2).2.far (fun e2 => e ?_) _⟩
      change b' = b at e2
      subst e2
      obtain ⟨l1, e1⟩ := List.getElem?_eq_some_iff.1 ha
      obtain ⟨l2, e2⟩ := List.getElem?_eq_some_iff.1 h1
      exact (List.getElem_inj h.nodup).1 (e1.trans e2.symm)
theorem MxOwn.at {w : World} {B : Nat} {v : Value} {n : Nat} {bs : List Nat} {M : Tj.Mx} (h : MxOwn w B v n bs M) (hn : M ≠ []) : ∃ g c, v = .slice (some ⟨g, 0, none⟩) M.length c ∧ B ≤ g ∧ g < w.heap.size ∧ (∀ (a b : Nat), bs[a]? = some b → w.cell? ⟨g, a, none⟩ = some (hdr n b)) := by
  obtain ⟨A, c, rfl, _, _, h2⟩ := own_cells h.own
  rcases h2 with h2 | ⟨g, rfl, h3, h4, h5⟩
  · exact absurd (List.eq_nil_of_length_eq_zero h2) hn
  · exact ⟨g, c, rfl, h3, h4, fun a b hb => h5 a _ (by simp [hb])⟩
theorem MxOwn.row {w : World} {B : Nat} {v : Value} {n : Nat} {bs : List Nat} {M : Tj.Mx} (h : MxOwn w B v n bs M) {a b : Nat} (ha : bs[a]? = some b) : b < w.heap.size ∧ ∀ j < n, w.cell? ⟨b, j, none⟩ = some (.bool (Tj.mget M a j)) := by
  have hla : a < M.length := by rw [← h.len]; exact (List.getElem?_eq_some_iff.1 ha).1
  have hM : M[a]? = some (M.getD a []) := by rw [List.getD_eq_getElem?_getD, List.getElem?_eq_getElem hla]; rfl
  obtain ⟨hl, hat⟩ := h.rows a b _ ha hM
  refine ⟨hat.lt, fun j hj => ?_⟩
  rw [hat.cell j]
  unfold Tj.mget
  generalize M.getD a [] = r at hl ⊢
  simp [List.getElem?_eq_getElem (show j < r.length by omega)]
theorem MxOwn.mx {w : World} {B : Nat} {v : Value} {n : Nat} {bs : List Nat} {M : Tj.Mx} (h : MxOwn w B v n bs M) : ∃ A c, v = .slice A M.length c ∧ MxAt w A M := by
  obtain ⟨A, c, rfl, _, _, h2⟩ := own_cells h.own
  refine ⟨A, c, rfl, fun hn => ?_⟩
  rcases h2 with h2 | ⟨g, rfl, h3, h4, h5⟩
  · exact absurd (List.eq_nil_of_length_eq_zero h2) hn
  · refine ⟨g, 0, rfl, h4, fun a row ha => ?_⟩
    have hla : a < bs.length := by rw [h.len]; exact (List.getElem?_eq_some_iff.1 ha).1
    have hb : bs[a]? = some bs[a] := List.getElem?_eq_getElem hla
    obtain ⟨hl, hat⟩ := h.rows a _ row hb ha
    refine ⟨bs[a], n, ?_, hat.lt, fun j x hx => ?_⟩
    · have := h5 a (hdr n bs[a]) (by simp [hb])
      rw [hl, Nat.zero_add]; exact this
    · rw [hat.cell j]; simp [hx]
theorem MxOwn.snoc {w w' : World} {B : Nat} {v v' : Value} {n : Nat} {bs : List Nat} {M : Tj.Mx} (h : MxOwn w B v n bs M) {b : Nat} {row : List Bool} (hl : row.length = n) (hat : At w b 4 (row.map Value.bool).toArray) (hB : B ≤ b) (hnew : b ∉ bs)
    (hown : w'.ownsRow B 31 1 v' (M.length + 1) (bs.map (hdr n) ++ [hdr n b])) (hg : w.grownBy w' v.ownBlock) : MxOwn w' B v' n (bs ++ [b]) (M ++ [row]) := by
  refine ⟨by simpa using hown, by simp [h.len], ?_, ?_, ?_⟩
  · rw [List.nodup_append]; exact ⟨h.nodup, by simp, fun x hx y hy => by simp at hy; subst hy; exact fun e => hnew (e ▸ hx)⟩
  · intro x hx; simp at hx; exact hx.elim (h.low x) (fun e => e ▸ hB)
  · intro a x r h1 h2
    by_cases ha : a < bs.length
    · rw [List.getElem?_append_left ha] at h1
      rw [List.getElem?_append_left (by rw [← h.len]; exact ha)] at h2
      obtain ⟨r1, r2⟩ := h.rows a x r h1 h2
      exact ⟨r1, r2.grown hg (own_far h.own r2 (by decide))⟩
    · rw [List.getElem?_append_right (by omega)] at h1
      rw [List.getElem?_append_right (by rw [← h.len]; omega), ← h.len] at h2
      obtain ⟨e1, rfl⟩ : a - bs.length = 0 ∧ x = b := by
        cases hq : a - bs.length with
        | zero => rw [hq] at h1; simp at h1; exact ⟨rfl, h1.symm⟩
        | succ k => rw [hq] at h1; simp at h1
      rw [e1] at h2
      obtain rfl : row = r := by simpa using h2
      exact ⟨hl, hat.grown hg (own_far h.own hat (by decide))⟩
end Go.Proofs.Ytljlihimmcmlmaa
