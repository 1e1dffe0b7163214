/- The walk of the program's scan. -/
import Derived.Test.YtoficnfpoeaccaaDoorKCost1
namespace Go.Proofs.YtoficnfpoeaccaaDoor
set_option linter.unusedVariables false
set_option linter.unusedSimpArgs false
open Go.RowKit
theorem up_le {a b A : Nat} (h : a ≤ A) : Ko.up a b ≤ A := by
  unfold Ko.up
  obtain ⟨m, hm⟩ : ∃ m, max b 1 = m := ⟨_, rfl⟩
  rw [hm]
  have hm1 : 1 ≤ m := by omega
  refine Nat.le_trans ?_ h
  rw [Nat.div_le_iff_le_mul (by omega)]
  have : a ≤ a * m := Nat.le_mul_of_pos_right a hm1
  omega
theorem prod_le (a b : Nat) : Ko.prod a b ≤ 1000000000 := by unfold Ko.prod Ko.most; omega
/-- What scan has after some of the arguments. -/
def scanM (s : Sta) (ts : List Tm) (B : Ko.Bd) (m : Nat) (k : Nat) : Nat := Ko.scan s (ts.take k) 0 B m
theorem scan_snoc (s : Sta) (x : Tm) : ∀ (ts : List Tm) (i : Nat) (B : Ko.Bd) (m : Nat), Ko.scan s (ts ++ [x]) i B m = if Ko.known (Ko.bindL B ts) x then Ko.up (Ko.scan s ts i B m) (s.dist.getD (i + ts.length) 0).toNat else Ko.scan s ts i B m
  | [], i, B, m => by simp [Ko.scan, Ko.bindL]
  | t :: ts, i, B, m => by
    show Ko.scan s (ts ++ [x]) (i + 1) (Ko.bindT B t) _ = _
    rw [scan_snoc s x ts]
    show (if Ko.known (Ko.bindL (Ko.bindT B t) ts) x = true then _ else _) = _
    rw [show i + 1 + ts.length = i + (t :: ts).length by simp; omega]
    rfl
theorem scan_more {s : Sta} {ts : List Tm} {B : Ko.Bd} {m k : Nat} {x : Tm} (h : ts[k]? = some x) : scanM s ts B m (k + 1) = if Ko.known (Ko.bindL B (ts.take k)) x then Ko.up (scanM s ts B m k) (s.dist.getD k 0).toNat else scanM s ts B m k := by
  unfold scanM
  rw [take_more h, scan_snoc]
  have hk : k < ts.length := (List.getElem?_eq_some_iff.1 h).1
  have : (ts.take k).length = k := by simp; omega
  rw [this, Nat.zero_add]
theorem scanM_le {s : Sta} {ts : List Tm} {B : Ko.Bd} {m : Nat} (k : Nat) {M : Nat} (h : m ≤ M) : scanM s ts B m k ≤ M := by
  unfold scanM
  generalize ts.take k = us
  generalize 0 = i
  induction us generalizing i B m with
  | nil => exact h
  | cons t us ih =>
    show Ko.scan s us (i + 1) _ _ ≤ M
    apply ih
    split
    · exact up_le h
    · exact h
theorem BSet.bind {w' : World} {b n n' : Nat} {B : Ko.Bd} {f : ByteArray → Option Bool} {x : Tm} (hf : ∀ x : ByteArray, x.data.toList ≠ [] → (f x).getD false = B x) (h : BMap w' b n' (fun y => if y = x.v then some true else f y)) (hn : n' ≤ n) : BSet w' b n (Ko.bindT B x) := by
  refine ⟨_, h.mono hn, fun y hy => ?_⟩
  by_cases hv : x.v.toList = []
  · rw [bindT_const hv, ← hf y hy]
    have : y ≠ x.v := fun e => by rw [e, ← Lib.toList_data] at hy; exact hy hv
    simp [this]
  · rw [bindT_var hv, ← hf y hy]
    by_cases e : y = x.v
    · subst e; simp
    · simp [e, Ne.symm e]
theorem BSet.same {w : World} {b n : Nat} {B : Ko.Bd} {x : Tm} (h : BSet w b n B) (hk : Ko.known B x = true) : BSet w b n (Ko.bindT B x) := by
  obtain ⟨f, hm, hf⟩ := h
  refine ⟨f, hm, fun y hy => ?_⟩
  by_cases hv : x.v.toList = []
  · rw [bindT_const hv]; exact hf y hy
  · rw [bindT_var hv, hf y hy]
    rw [known_name, decide_eq_false hv, Bool.false_or] at hk
    by_cases e : x.v = y
    · subst e; simp [hk]
    · simp [e]
theorem product_max (a b : Nat) (w : World) (ha : a ≤ 10000000000) (hb : b ≤ 1000000000) : Calls Tryd.prog 57 #[.int .i64 (a : Int), .int .i64 (max (b : Int) 1)] w fun e w' => e = .returned (.int .i64 ((Ko.prod a (max b 1) : Nat) : Int)) ∧ w = w' := by
  have e : max (b : Int) 1 = ((max b 1 : Nat) : Int) := by omega
  rw [e]
  exact product_any a (max b 1) w ha (by omega)
set_option maxHeartbeats 1000000 in
set_option maxRecDepth 100000 in
theorem scan_any (sb b n N C : Nat) (B : Ko.Bd) (s : Sta) (t : Lt) (B0 : Nat) (w : World) (h : StAt w sb b n N C B) (ht : LtOk w t) (hs : StaOk w s) (hlen : s.dist.length = t.args.length) (hn8 : t.args.length ≤ 8) (hfm : Ko.formed s = true) (hz : ∀ x ∈ t.args, FitS x.v) (hn : n ≤ 1000) (hN : N ≤ 1000000000) (hC : C ≤ 1000000000) (hsb : B0 ≤ sb) (hbb : B0 ≤ b) (hB0 : B0 ≤ w.heap.size)
    (hT : ∀ W, Below B0 w W → Str W t.aa 4 (t.args.map Tm.fs)) (hD : ∀ W, Below B0 w W → Str W s.da 1 (s.dist.map fun x => [.int .i64 x])) :
    Calls Tryd.prog 33 #[.pointer (some ⟨sb, 0, none⟩), s.v, t.v] w fun e w' => e = .returned (.tuple #[]) ∧ StAt w' sb b (n + 8) (Ko.prod N (Ko.scan s t.args 0 B s.rows.toNat)) (min (C + Ko.prod N (max (Ko.scan s t.args 0 B s.rows.toNat) 1)) Ko.most) (Ko.bindL B t.args) ∧ Below B0 w w' ∧ ∀ (g : Nat) (ty : TypeId) (cs : Array Value), g ≠ sb → At w g ty cs → At w' g ty cs := by
  obtain ⟨kind, name, pred, aa, ac, args, bind, elem, least, op, pos⟩ := t
  obtain ⟨rows, da, dc, dist⟩ := s
  have HT := Lib.hid hT
  have HD := Lib.hid hD
  have HZ := Lib.hid hz
  have hrow : 0 ≤ rows ∧ rows ≤ 1000000 := by
    unfold Ko.formed at hfm
    simp at hfm
    exact hfm.1
  have HDI := Lib.hid (show ∀ x ∈ dist, 0 ≤ x ∧ x ≤ 1000000 by
    unfold Ko.formed at hfm
    simp at hfm
    exact hfm.2)
  obtain ⟨rn, rfl⟩ : ∃ rn : Nat, rows = (rn : Int) := ⟨rows.toNat, by omega⟩
  have hrn : rn ≤ 1000000 := by omega
  unfold Lt.v Sta.v
  dsimp only at *
  obtain ⟨dl, hdl⟩ : ∃ dl, dist.length = dl := ⟨_, rfl⟩
  have HDL := Lib.hid hdl
  rw [hdl] at hlen ⊢
  have HLEN := Lib.hid hlen
  clear ht hs hT hD hz hfm hlen hdl hrow
  rw [Int.toNat_natCast]
  have hat0 : At ((w.alloc (.cells #[.int .i64 (rn : Int), .slice da dl dc] 46)).alloc (.cells #[.int .i64 kind, .string name, .int .i64 pred, .slice aa args.length ac, .string bind, .string elem, .int .i64 least, .int .i64 op, .int .i64 pos] 60)) w.heap.size 46 #[.int .i64 (rn : Int), .slice da dl dc] := (At.new w _ _).alloc _
  obtain ⟨s0, hs0⟩ : ∃ s0 : Sta, (⟨(rn : Int), da, dc, dist⟩ : Sta) = s0 := ⟨_, rfl⟩
  have HSD := Lib.hid (show s0.dist = dist by rw [← hs0])
  have HFIN := Lib.hid (show Ko.scan s0 args 0 B rn = scanM s0 args B rn args.length by unfold scanM; rw [List.take_of_length_le (Nat.le_refl _)])
  rw [hs0]
  clear hs0
  obtain ⟨fin, hfin⟩ : ∃ fin, Ko.scan s0 args 0 B rn = fin := ⟨_, rfl⟩
  rw [hfin] at HFIN ⊢
  clear hfin
  go_enter Tryd.func33, Tryd.ntmps33
  go_wp2_with fail
  go_loopw [6, 7, 8, 14] (fun m _ _ i wr => ∃ k : Nat, k ≤ args.length ∧ i = .int .i64 k ∧ m = .int .i64 ((scanM s0 args B rn k : Nat) : Int) ∧ StAt wr sb b (n + k) N C (Ko.bindL B (args.take k)) ∧ At wr w.heap.size 46 #[.int .i64 (rn : Int), .slice da dl dc] ∧ Below B0 w wr ∧ w.heap.size < wr.heap.size ∧ Hid (∀ (g : Nat) (ty : TypeId) (cs : Array Value), g ≠ sb → At w g ty cs → At wr g ty cs)) (fun _ _ _ i _ => args.length - (intOf i).toNat)
  case atStart => exact ⟨0, by omega, rfl, rfl, (h.alloc _).alloc _, hat0, ((Below.refl B0 w).alloc hB0 _).alloc (by simp; omega) _, by simp; omega, Lib.hid (fun g ty cs _ ha => (ha.alloc _).alloc _)⟩
  case round =>
    clear hat0 h
    obtain ⟨k, hk, rfl, rfl, h, hat, hw, hsz, HF⟩ := hrel
    have hM := scanM_le (s := s0) (ts := args) (B := B) (m := rn) k hrn
    by_cases h1 : k < args.length
    · have d1 : decide ((k : Int) < (args.length : Int)) = true := by simp; omega
      obtain ⟨x, hx⟩ : ∃ x, args[k]? = some x := ⟨_, List.getElem?_eq_getElem h1⟩
      obtain ⟨v, hv⟩ : ∃ v, dist[k]? = some v := ⟨_, List.getElem?_eq_getElem (by have := HDL.out; have := HLEN.out; omega)⟩
      obtain ⟨g, o, rfl, hg, x0, x1, x2, x3⟩ := tm_cells (HT.out wr hw) hx
      have hv0 := HDI.out v (List.mem_of_getElem? hv)
      obtain ⟨u, rfl⟩ : ∃ u : Nat, v = (u : Int) := ⟨v.toNat, by omega⟩
      have HMO := Lib.hid (scan_more (s := s0) (B := B) (m := rn) hx)
      have HBM := Lib.hid (bindL_more (B := B) hx)
      have HU := Lib.hid (show (s0.dist.getD k 0).toNat = u by rw [HSD.out, List.getD_eq_getElem?_getD, hv]; rfl)
      have HV := Lib.hid hv
      have hfx := HZ.out x (List.mem_of_getElem? hx)
      have i0 : (0 : Int) ≤ (k : Int) := by omega
      have i1 : (k : Int) < (args.length : Int) := by omega
      have i2 : (k : Int) < (dl : Int) := by have := HLEN.out; omega
      have HFR := Lib.hid (free_any sb b (n + k) N C (Ko.bindL B (args.take k)) x _ (h.alloc (.cells #[.string x.v, .int .i64 x.t, .int .i64 x.n, .string x.s] 64)) hfx)
      obtain ⟨m, hm⟩ : ∃ m, scanM s0 args B rn k = m := ⟨_, rfl⟩
      rw [hm] at hM HMO ⊢
      clear hm hx hv
      have hw1 : Below B0 w (wr.alloc (.cells #[.string x.v, .int .i64 x.t, .int .i64 x.n, .string x.s] 64)) := hw.alloc (by omega) _
      cases hkn : Ko.known (Ko.bindL B (args.take k)) x
      · rw [hkn] at HFR HMO
        have HMO2 := Lib.hid (show scanM s0 args B rn (k + 1) = m by rw [HMO.out]; rfl)
        clear hkn HMO
        go_wp2_with (go_at_call 32; refine HFR.out.mono ?_; rintro e w2 ⟨rfl, hb2⟩)
        have hst2 := (h.alloc (.cells #[.string x.v, .int .i64 x.t, .int .i64 x.n, .string x.s] 64)).next hb2
        have hat2 := (hat.alloc (.cells #[.string x.v, .int .i64 x.t, .int .i64 x.n, .string x.s] 64)).next hb2
        have htm2 := (At.new wr 64 #[.string x.v, .int .i64 x.t, .int .i64 x.n, .string x.s]).next hb2
        have hs2 := hb2.size
        have hw2 : Below B0 w w2 := hw1.trans (hb2.mono (by simp; omega))
        have HF2 := Lib.hid (fun (g : Nat) (ty : TypeId) (cs : Array Value) hg ha => ((HF.out g ty cs hg ha).alloc (.cells #[.string x.v, .int .i64 x.t, .int .i64 x.n, .string x.s] 64)).next hb2)
        have c2 := hst2.c2
        have y0 : w2.cell? ⟨wr.heap.size, 0, none⟩ = some (.string x.v) := htm2.cell 0
        have hlt2 := hst2.lt
        have hset := hst2.set.drew
        have HST := Lib.hid hst2
        obtain ⟨es, ec, hob⟩ := hset.obj
        have HOB := Lib.hid hob
        obtain ⟨f, hm, hf⟩ := hset
        have HFF := Lib.hid hf
        clear hst2 hf hob
        go_still_tail 6, (by kernel_rfl)
        change wpList _ _ _ _ _ w2.drew
        go_wp2_with (at_mapUpdate; refine wpList_fmap_update _ rfl _ _ _ 83 rfl hm str_enc0 bool_enc Tryd.underlying83 (by unfold maxLen; omega) rfl x.v rfl hfx true rfl ?_; intro w9 hk9 g9)
        go_roundw
        case rel => exact ⟨k + 1, by omega, by go_num, by rw [HMO2.out], ⟨HST.out.cell.drew.grown g9 (HST.out.cell.drew.not_map HOB.out), by rw [HBM.out]; exact BSet.bind HFF.out hk9 (by omega)⟩, hat2.drew.grown g9 (hat2.drew.not_map HOB.out), hw2.drew.trans (below_of_grown g9 hbb (by have := hw2.size; simp; omega)), by have := g9.size; simp at this hs2; omega, Lib.hid (fun g ty cs hg ha => (HF2.out g ty cs hg ha).drew.grown g9 ((HF2.out g ty cs hg ha).drew.not_map HOB.out))⟩
        case measure => simp [intOf]; omega
      · have HKN := Lib.hid hkn
        rw [hkn, if_pos rfl, HU.out] at HMO
        rw [hkn] at HFR
        clear hkn
        go_wp2_with first
          | (go_at_call 36; refine (up_any m u _ (by omega) (by omega)).mono ?_; rintro e w3 ⟨rfl, rfl⟩)
          | (go_at_call 32; refine HFR.out.mono ?_; rintro e w2 ⟨rfl, hb2⟩; have hst2 := (h.alloc (.cells #[.string x.v, .int .i64 x.t, .int .i64 x.n, .string x.s] 64)).next hb2; have hat2 := (hat.alloc (.cells #[.string x.v, .int .i64 x.t, .int .i64 x.n, .string x.s] 64)).next hb2; have hs2 := hb2.size; have hw2 : Below B0 w w2 := hw1.trans (hb2.mono (by simp; omega)); have y1 := hat2.cell 1; replace y1 : w2.cell? ⟨w.heap.size, 1, none⟩ = some (.slice da dl dc) := y1; obtain ⟨gd, od, rfl, hgd, z0⟩ := int_cells (HD.out w2 hw2) HV.out)
        go_roundw
        case rel => exact ⟨k + 1, by omega, by go_num, by rw [HMO.out], ⟨hst2.cell, by rw [HBM.out]; exact (hst2.set.same HKN.out).mono (by omega)⟩, hat2, hw2, by simp at hs2; omega, Lib.hid (fun g ty cs hg ha => ((HF.out g ty cs hg ha).alloc (.cells #[.string x.v, .int .i64 x.t, .int .i64 x.n, .string x.s] 64)).next hb2)⟩
        case measure => simp [intOf]; omega
    · have d1 : decide ((k : Int) < (args.length : Int)) = false := by simp; omega
      obtain rfl : k = args.length := by omega
      rw [← HFIN.out] at hM ⊢
      clear HFIN
      rw [List.take_of_length_le (Nat.le_refl _)] at h
      have HST := Lib.hid h
      have c0 := h.c0
      have yf := h.cell.frozen 0
      have hlt := h.lt
      have hne := h.ne
      clear h
      obtain ⟨mx, hmx⟩ : ∃ mx, max fin 1 = mx := ⟨_, rfl⟩
      have HPM := Lib.hid (product_max N fin wr (by omega) (by omega))
      have HMX := Lib.hid hmx
      rw [hmx] at HPM
      clear hmx
      have hcn := HST.out.putC (min (C + Ko.prod N mx) Ko.most)
      have c0' := hcn.c0
      have yf' := hcn.cell.frozen 0
      have hpl := prod_le N mx
      have hfl := prod_le N fin
      have HCN := Lib.hid hcn
      clear hcn
      go_wp2_with first
        | (go_at_call 35; refine (pay_any sb b _ N C (Ko.prod N mx) _ wr HST.out (by omega) (by omega)).mono ?_; rintro e w4 ⟨rfl, rfl⟩)
        | (go_at_call 57; with_reducible refine HPM.out.mono ?_; rintro e w3 ⟨rfl, rfl⟩)
        | (go_at_call 57; refine (product_any N fin _ (by omega) (by omega)).mono ?_; rintro e w3 ⟨rfl, rfl⟩)
      go_end0
      exact ⟨rfl, by rw [HMX.out]; exact (HCN.out.putN _).mono (by omega), (hw.setCell (p := ⟨sb, 1, none⟩) hsb _).setCell (p := ⟨sb, 0, none⟩) hsb _, fun g ty cs hg ha => ((HF.out g ty cs hg ha).far (p := ⟨sb, 1, none⟩) hg _).far (p := ⟨sb, 0, none⟩) hg _⟩
end Go.Proofs.YtoficnfpoeaccaaDoor
