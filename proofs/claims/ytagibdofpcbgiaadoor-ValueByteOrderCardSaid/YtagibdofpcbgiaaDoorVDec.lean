/- The walk of Decode of value. -/
import Derived.Test.YtagibdofpcbgiaaDoorVEnc
import Derived.Test.YtagibdofpcbgiaaDoorVIdx
import Derived.Test.YtagibdofpcbgiaaDoorVOr
namespace Go.Proofs.YtagibdofpcbgiaaDoor
set_option linter.unusedVariables false
set_option linter.unusedSimpArgs false
open Go.RowKit Go.Shelf
theorem value_info : (Tryd.prog.info? 23).map (fun i => (i.zero, i.size, i.bytes)) = some (some (.agg #[.int .i64 0, .int .i64 0, .string ⟨#[]⟩]), 3, 32) := by kernel_rfl
def vcells (l : List Vx.V) : List Value := l.flatMap fun v => [.int .i64 v.t, .int .i64 v.n, .string ⟨v.s.toArray⟩]
theorem vcells_snoc (l : List Vx.V) (v : Vx.V) : vcells (l ++ [v]) = vcells l ++ [.int .i64 v.t, .int .i64 v.n, .string ⟨v.s.toArray⟩] := by simp [vcells]
theorem Bytes.drop {w : World} {g o : Nat} {xs : List UInt8} (h : Bytes w (some ⟨g, o, none⟩) xs) (k : Nat) (A' : Option Addr) (hA : k < xs.length → A' = some ⟨g, o + k, none⟩) : Bytes w A' (xs.drop k) := fun hn => by
  have hk : k < xs.length := by
    rcases Nat.lt_or_ge k xs.length with h' | h'
    · exact h'
    · exact absurd (List.drop_eq_nil_of_le h') hn
  obtain ⟨g', o', e, hg, hc⟩ := h (by intro e; rw [e] at hk; simp at hk)
  simp at e
  obtain ⟨rfl, rfl⟩ := e
  refine ⟨g, o + k, hA hk, hg, fun j x hx => ?_⟩
  rw [List.getElem?_drop] at hx
  have := hc _ _ hx
  rwa [Nat.add_assoc]
theorem Bytes.grow {w w' : World} {A : Option Addr} {xs : List UInt8} (h : Bytes w A xs) (hb : Below w.heap.size w w') : Bytes w' A xs := h.below hb
/-- What has been decoded, and what is left. -/
def DecAt (b : List UInt8) (ds : List Vx.V) (rest : List UInt8) : Prop := Vx.decode b = (Vx.decode rest).map (fun l => ds ++ l)
theorem DecAt.start (b : List UInt8) : DecAt b [] b := by unfold DecAt; simp
theorem DecAt.done {b : List UInt8} {ds : List Vx.V} (h : DecAt b ds []) : Vx.decode b = some ds := by unfold DecAt at h; rw [h, Vx.decode_nil]; simp
theorem DecAt.stop {b : List UInt8} {ds : List Vx.V} {c : UInt8} {r : List UInt8} (h : DecAt b ds (c :: r)) (hv : Vx.valid (Vx.take1 (c :: r)).1 = false) : Vx.decode b = none := by
  unfold DecAt at h; rw [h, Vx.decode_cons, hv]; rfl
theorem DecAt.more {b : List UInt8} {ds : List Vx.V} {c : UInt8} {r : List UInt8} (h : DecAt b ds (c :: r)) (hv : Vx.valid (Vx.take1 (c :: r)).1 = true) : DecAt b (ds ++ [(Vx.take1 (c :: r)).1]) (Vx.take1 (c :: r)).2 := by
  unfold DecAt at *
  rw [h, Vx.decode_cons, if_pos hv, Option.map_map]
  congr 1
  funext l
  simp
theorem own_put {w : World} {B : Nat} {e : TypeId} {size n : Nat} {v : Value} {xs : List Value} (h : w.ownsRow B e size v n xs) {p : Addr} (hp : p.block < B) (u : Value) : (w.setCell p u).ownsRow B e size v n xs := by
  obtain ⟨h1, h2⟩ := h
  refine ⟨h1, ?_⟩
  rcases h2 with h2 | ⟨g, cap, cur, hv, hg, hh, r⟩
  · exact Or.inl h2
  · exact Or.inr ⟨g, cap, cur, hv, hg, (Below.heap_setCell w p u g (by omega)).trans hh, r⟩
theorem own_putne {w : World} {B : Nat} {e : TypeId} {size n : Nat} {v : Value} {xs : List Value} (h : w.ownsRow B e size v n xs) {p : Addr} (hp : some p.block ≠ v.ownBlock) (u : Value) : (w.setCell p u).ownsRow B e size v n xs := by
  obtain ⟨h1, h2⟩ := h
  refine ⟨h1, ?_⟩
  rcases h2 with h2 | ⟨g, cap, cur, rfl, hg, hh, r⟩
  · exact Or.inl h2
  · exact Or.inr ⟨g, cap, cur, rfl, hg, (Below.heap_setCell w p u g (fun e => hp (by rw [← e]; rfl))).trans hh, r⟩
theorem take_zero_lt {r : List UInt8} (h : 0 ∈ r) : (r.takeWhile (fun x => x != 0)).length < r.length := by
  induction r with
  | nil => simp at h
  | cons c r ih =>
    rw [List.takeWhile_cons]
    split
    · rename_i hc
      have : 0 ∈ r := by
        rcases List.mem_cons.1 h with e | e
        · rw [← e] at hc; simp at hc
        · exact e
      simp only [List.length_cons]
      have := ih this
      omega
    · simp
theorem idx0_two {r : List UInt8} (h : 0 ∈ r) : idx0 (2 :: r) = (((r.takeWhile (fun x => x != 0)).length + 1 : Nat) : Int) := by
  unfold idx0
  rw [if_pos (List.mem_cons_of_mem _ h), List.takeWhile_cons, if_pos (by decide)]
  rfl
theorem drop_zero {r : List UInt8} (h : 0 ∈ r) : (r.dropWhile (fun x => x != 0)).drop 1 = r.drop ((r.takeWhile (fun x => x != 0)).length + 1) := by
  have e : r.dropWhile (fun x => x != 0) = r.drop (r.takeWhile (fun x => x != 0)).length := by
    induction r with
    | nil => rfl
    | cons c r ih =>
      rw [List.takeWhile_cons, List.dropWhile_cons]
      split
      · rename_i hc
        have : 0 ∈ r := by
          rcases List.mem_cons.1 h with e | e
          · rw [← e] at hc; simp at hc
          · exact e
        rw [List.length_cons, List.drop_succ_cons]; exact ih this
      · rfl
  rw [e, List.drop_drop]
theorem take_get {r : List UInt8} {p : UInt8 → Bool} {k : Nat} {x : UInt8} (h : (r.takeWhile p)[k]? = some x) : r[k]? = some x := by
  obtain ⟨t, ht⟩ := List.takeWhile_prefix (l := r) p
  have hk : k < (r.takeWhile p).length := (List.getElem?_eq_some_iff.1 h).1
  rw [← ht, List.getElem?_append_left hk]; exact h
theorem or_bytes (a b : UInt8) : bits BinOp.or IntKind.i64 (IntKind.i64.wrap (IntKind.i64.wrap ((a.toNat : Nat) : Int) * 256)) (IntKind.i64.wrap ((b.toNat : Nat) : Int)) = ((256 * a.toNat + b.toNat : Nat) : Int) := by
  have h1 := a.toNat_lt
  have h2 := b.toNat_lt
  rw [IntWalk.i64_in ((b.toNat : Nat) : Int) (by omega), IntWalk.i64_in ((a.toNat : Nat) : Int) (by omega), IntWalk.i64_in _ (by omega)]
  exact or_b _ _ (by omega) (by omega)
def decErr (b : List UInt8) : Int := if (Vx.decode b).isSome then 0 else 270
set_option maxHeartbeats 600000 in
set_option maxRecDepth 100000 in
theorem decode_any (A : Option Addr) (c : Nat) (xs : List UInt8) (w : World) (hx : xs.length ≤ 1000000) (hxc : xs.length ≤ c) (hc : c ≤ 9223372036854775807) (hA : Bytes w A xs) (hw : Words w) :
    Calls Tryd.prog 21 #[.slice A xs.length c] w fun e w' => (∃ v, e = .returned (.tuple #[v, .int .i64 (decErr xs)]) ∧ w'.ownsRow w.heap.size 23 3 v ((Vx.decode xs).getD []).length (vcells ((Vx.decode xs).getD []))) ∧ Below w.heap.size w w' := by
  obtain ⟨i0, hi, hz0, hz1, hz2⟩ := info_parts value_info
  go_enter Tryd.func21, Tryd.ntmps21
  go_wp2
  go_loopw [4] (fun v wr => ∃ (rest : List UInt8) (ds : List Vx.V) (B : Option Addr) (d : Nat), rest.length ≤ d ∧ d ≤ c ∧ rest.length ≤ xs.length ∧ ds.length + rest.length ≤ xs.length ∧ Hid (DecAt xs ds rest) ∧ Bytes w B rest ∧ At wr w.heap.size 25 #[.slice B rest.length d] ∧ wr.ownsRow (w.heap.size + 1) 23 3 v ds.length (vcells ds) ∧ Below w.heap.size w wr) (fun _ wr => match wr.cell? ⟨w.heap.size, 0, none⟩ with | some (.slice _ n _) => n | _ => 0)
  case atStart => exact ⟨xs, [], A, c, hxc, Nat.le_refl _, Nat.le_refl _, by simp, Lib.hid (DecAt.start xs), hA, At.new _ _ _, World.ownsRow_nil _ _ _ _, below1 _ _⟩
  case round =>
    obtain ⟨rest, ds, B, d, hd, hdc, hrl, hdl, HD, hB, hat, hown, hbw⟩ := hrel
    have q0 : wr.cell? ⟨w.heap.size, 0, none⟩ = some (.slice B rest.length d) := hat.cell 0
    have Q00 := Lib.hid q0
    by_cases h1 : 0 < rest.length
    · have d1 : decide ((0 : Int) < (rest.length : Int)) = true := by simp; omega
      obtain ⟨ch, r, hcr⟩ : ∃ ch r, rest = ch :: r := by
        cases rest with
        | nil => simp at h1
        | cons a b => exact ⟨a, b, rfl⟩
      have hBw := Lib.hid hB
      obtain ⟨g, o, rfl, hg, hcell⟩ := hB (by intro h; rw [h] at h1; simp at h1)
      have w0 := (hbw.cell (p := ⟨g, o + 0, none⟩) hg).trans (hcell 0 ch (by rw [hcr]; rfl))
      rw [Nat.add_zero] at w0
      have hlt := hat.lt
      have hB1 := (Bytes.grow hB hbw)
      have hown1 := own_below hown (below1 wr (.cells #[.int .i64 0, .int .i64 0, .string ⟨#[]⟩] 23))
      have hb1 : Below w.heap.size w (wr.alloc (.cells #[.int .i64 0, .int .i64 0, .string ⟨#[]⟩] 23)) := hbw.alloc hbw.size _
      have hbb1 := hat.alloc (.cells #[.int .i64 0, .int .i64 0, .string ⟨#[]⟩] 23)
      have hv1 := At.new wr 23 #[.int .i64 0, .int .i64 0, .string ⟨#[]⟩]
      have hBy := Lib.hid (Bytes.grow hB hb1)
      have p1 : (0 : Int) < (rest.length : Int) := by omega
      obtain ⟨W1, hW1⟩ : ∃ W1, W1 = wr.alloc (.cells #[.int .i64 0, .int .i64 0, .string ⟨#[]⟩] 23) := ⟨_, rfl⟩
      have w1 := (hb1.cell (p := ⟨g, o + 0, none⟩) hg).trans (hcell 0 ch (by rw [hcr]; rfl))
      rw [Nat.add_zero] at w1
      have HCR := Lib.hid hcr
      by_cases hc1 : ch = 1 ∧ 2 ≤ r.length
      · obtain ⟨hc1, hc2⟩ := hc1
        subst hc1
        have hl3 : 3 ≤ rest.length := by have hlen : rest.length = r.length + 1 := by (rw [hcr]; rfl)
                                         omega
        have y1 : ∃ z, rest[1]? = some z := ⟨rest[1], List.getElem?_eq_getElem (by omega)⟩
        have y2 : ∃ z, rest[2]? = some z := ⟨rest[2], List.getElem?_eq_getElem (by omega)⟩
        obtain ⟨z1, hz1'⟩ := y1
        obtain ⟨z2, hz2'⟩ := y2
        have d3 : decide ((3 : Int) ≤ (rest.length : Int)) = true := decide_eq_true (by omega)
        have ec : (((1 : UInt8).toNat : Nat) : Int) = 1 := rfl
        rw [ec] at w0 w1
        have q1 : (wr.alloc (.cells #[.int .i64 0, .int .i64 0, .string ⟨#[]⟩] 23)).cell? ⟨w.heap.size, 0, none⟩ = some (.slice (some ⟨g, o, none⟩) rest.length d) := hbb1.cell 0
        clear hc2 hcr hcell hB hB1
        go_wp2_with (first
          | (go_at_call 44; refine (index_any (some ⟨g, o, none⟩) d rest _ (by omega) hBy.out).mono ?_; rintro e w' ⟨rfl, rfl⟩)
          | (go_at_call 43; refine (cut_any (some ⟨g, o, none⟩) rest.length d 3 w.heap.size _ (by omega) hd (by omega) hbb1 (fun _ => ⟨g, o, rfl⟩)).mono ?_; rintro e w2 ⟨rfl, A2, hA2, hw2⟩))
        clear hw2
        obtain ⟨W2, hW2⟩ : ∃ W2, W2 = (wr.setCell ⟨w.heap.size, 0, none⟩ (.slice A2 (rest.length - 3) (d - 3))).alloc (.cells #[.int .i64 0, .int .i64 0, .string ⟨#[]⟩] 23) := ⟨_, rfl⟩
        have hszs : (wr.setCell ⟨w.heap.size, 0, none⟩ (.slice A2 (rest.length - 3) (d - 3))).heap.size = wr.heap.size := by simp [World.setCell]
        have hb2 : Below w.heap.size w W2 := by rw [hW2]; exact (hbw.setCell (by simp) _).alloc (by rw [hszs]; exact hbw.size) _
        have hbb2 : At W2 w.heap.size 25 #[.slice A2 (rest.length - 3) (d - 3)] := by rw [hW2]; exact (hat.put 0 _).alloc _
        have hv2 : At W2 wr.heap.size 23 #[.int .i64 0, .int .i64 0, .string ⟨#[]⟩] := by rw [hW2]; exact At.newAt hszs _ _
        have hown2 : W2.ownsRow (w.heap.size + 1) 23 3 u4 ds.length (vcells ds) := by rw [hW2]; exact (own_put hown (by simp) _).alloc _
        have hz2s : W2.heap.size = wr.heap.size + 1 := by rw [hW2]; simp [World.setCell]
        obtain ⟨hB2⟩ : Nonempty (Bytes W2 (some ⟨g, o, none⟩) rest) := ⟨hBw.out.below hb2⟩
        obtain ⟨g', o', e', hg', hcell2⟩ := hB2 (by intro h; rw [h] at hl3; simp at hl3)
        simp at e'
        obtain ⟨rfl, rfl⟩ := e'
        have x1 : W2.cell? ⟨g, o + 1, none⟩ = some (.int .u8 (z1.toNat : Int)) := hcell2 1 z1 hz1'
        have x2 : W2.cell? ⟨g, o + 2, none⟩ = some (.int .u8 (z2.toNat : Int)) := hcell2 2 z2 hz2'
        have f0 := hv2.frozen 0; have f1 := hv2.frozen 1; have f2 := hv2.frozen 2
        have b0 := hv2.cell 0; have b1 := hv2.cell 1; have b2 := hv2.cell 2
        rw [← hW2]
        clear q0 q1 w0 w1 hcell2 hW2 hbb1 hv1 hat hb1 hown1
        have hne1 : ¬ g = wr.heap.size := by omega
        have hne2 : ¬ wr.heap.size = g := by omega
        go_region_held_law (fun w' => w'.cell? ⟨g, o + 1, none⟩ = some (.int .u8 (z1.toNat : Int)) ∧ w'.cell? ⟨g, o + 2, none⟩ = some (.int .u8 (z2.toNat : Int))) (first | go_keep | (go_split_ands; exact ⟨by simp [*], by simp [*]⟩)) (fail)
        clear x1 x2 f0 f1 f2 b0 b1 b2
        rw [or_bytes]
        have HV := Lib.hid (show Vx.take1 rest = (⟨1, ((256 * z1.toNat + z2.toNat : Nat) : Int), []⟩, rest.drop 3) from by
          have e := HCR.out
          rw [e] at hz1' hz2' ⊢
          simp only [Vx.take1]
          rw [if_pos ⟨trivial, by rw [e] at hl3; simp at hl3; omega⟩]
          simp at hz1' hz2'
          rw [List.getD_eq_getElem?_getD, List.getD_eq_getElem?_getD, hz1', hz2']
          rfl)
        obtain ⟨n3, hn3⟩ : ∃ n3 : Int, n3 = ((256 * z1.toNat + z2.toNat : Nat) : Int) := ⟨_, rfl⟩
        rw [← hn3] at HV
        rw [← hn3]
        clear hn3
        obtain ⟨W3, hW3⟩ : ∃ W3, W3 = (((W2.setCell ⟨wr.heap.size, 0, none⟩ (.int .i64 1)).setCell ⟨wr.heap.size, 1, none⟩ (.int .i64 n3)).setCell ⟨wr.heap.size, 2, none⟩ (.string ⟨#[]⟩)).drew := ⟨_, rfl⟩
        have hwb : w.heap.size ≤ wr.heap.size := hbw.size
        have hb3 : Below w.heap.size w W3 := by rw [hW3]; exact (((hb2.setCell hwb _).setCell hwb _).setCell hwb _).drew
        have hv3 : At W3 wr.heap.size 23 #[.int .i64 1, .int .i64 n3, .string ⟨#[]⟩] := by rw [hW3]; exact ((hv2.put 0 _).put 1 _).put 2 _
        have hbb3 : At W3 w.heap.size 25 #[.slice A2 (rest.length - 3) (d - 3)] := by
          have hq : w.heap.size ≠ wr.heap.size := by omega
          rw [hW3]; exact ((hbb2.far (p := ⟨wr.heap.size, 0, none⟩) hq _).far (p := ⟨wr.heap.size, 1, none⟩) hq _).far (p := ⟨wr.heap.size, 2, none⟩) hq _
        have hown3 : W3.ownsRow (w.heap.size + 1) 23 3 u4 ds.length (vcells ds) := by
          rw [hW3]
          have hfar : some wr.heap.size ≠ Value.ownBlock u4 := fun e => by have := own_lt hown e.symm; omega
          exact own_putne (own_putne (own_putne hown2 (p := ⟨wr.heap.size, 0, none⟩) hfar _) (p := ⟨wr.heap.size, 1, none⟩) hfar _) (p := ⟨wr.heap.size, 2, none⟩) hfar _
        have b0 := hv3.cell 0; have b1 := hv3.cell 1; have b2 := hv3.cell 2
        simp at b0 b1 b2
        have hlt3 := hv3.lt
        have hbl3 := hbb3.lt
        rw [← hW3]
        clear hW3 hv2 hbb2 hown2
        obtain ⟨a4, cp4, rfl⟩ := own_len hown3
        cases hval : Vx.valid ⟨1, n3, []⟩
        · have hR := Lib.hid (show Vx.decode xs = none from by have h := HD.out; rw [HCR.out] at h; exact h.stop (by rw [← HCR.out, HV.out]; exact hval))
          have HVAL := Lib.hid hval
          clear hval
          go_wp2_with (go_at_call 11; refine (vvalid_any ⟨1, n3, []⟩ _ (hw.next hb3) (by simp)).mono ?_; rintro e w4 ⟨rfl, hb4⟩; rw [HVAL.out])
          go_ret2
          exact ⟨⟨_, by unfold decErr; rw [hR.out]; rfl, by rw [hR.out]; exact World.ownsRow_nil _ _ _ _⟩, hb3.trans (hb4.mono hb3.size)⟩
        · have HM := Lib.hid (show DecAt xs (ds ++ [⟨1, n3, []⟩]) (rest.drop 3) from by
            have h := HD.out
            rw [HCR.out] at h
            have h' := h.more (by rw [← HCR.out, HV.out]; exact hval)
            rw [← HCR.out, HV.out] at h'
            exact h')
          have HVAL := Lib.hid hval
          clear hval
          have hdn : ds.length ≤ 1000000 := by omega
          go_wp2_with (first
            | (go_at_call 11; refine (vvalid_any ⟨1, n3, []⟩ _ (hw.next hb3) (by simp)).mono ?_; rintro e w4 ⟨rfl, hb4⟩; rw [HVAL.out]
               have hv4 := hv3.below hb4 hlt3
               have hbb4 := hbb3.below hb4 hbl3
               have hown4 := own_below hown3 hb4
               have hbw4 := hb3.trans (hb4.mono hb3.size)
               have y0 := hv4.cell 0; have y1 := hv4.cell 1; have y2 := hv4.cell 2
               simp at y0 y1 y2)
            | (at_builtin; refine wpList_append_lies _ rfl (.tmp 61) (.tmp 63) 24 rfl (w.heap.size + 1) 23 i0 _ 3 32 Tryd.underlying24 hi hz0 hz1 hz2 rfl (by omega) (.slice a4 ds.length cp4) ds.length (vcells ds) rfl (hown4.alloc _) ⟨w4.heap.size, 0, none⟩ 1 1 [.int .i64 1, .int .i64 n3, .string ⟨#[]⟩] rfl rfl (At.news (At.new _ _ _)) (one3 rfl rfl rfl) (by omega) (by unfold maxLen; omega) (by omega) (by have := hbw4.size; have := hb4.size; simp; omega) (w4.heap.size + 1) (by simp) ?_; intro g5 cap5 w5 hown5 hgrow5 hat5 hlt5))
          have hbw5 : Below w.heap.size w w5 := (hbw4.alloc hbw4.size _).grown hgrow5 (by have := hbw4.size; simp; omega) (fun q hq => by have := (own_lt hown4 hq).1; omega)
          have hbb5 : At w5 w.heap.size 25 #[.slice A2 (rest.length - 3) (d - 3)] := (hbb4.alloc _).grown hgrow5 (fun e => by have := (own_lt hown4 e.symm).1; omega)
          have hl4 : (rest.drop 3).length = rest.length - 3 := by simp
          go_roundw
          case rel => exact ⟨rest.drop 3, ds ++ [⟨1, n3, []⟩], A2, d - 3, by omega, by omega, by omega, by simp; omega, HM, hBw.out.drop 3 A2 (fun h => hA2 _ _ rfl h), by rw [hl4]; exact hbb5, by rw [vcells_snoc, List.length_append]; exact hown5, hbw5⟩
          case measure =>
            have m0 : w5.cell? ⟨w.heap.size, 0, none⟩ = some (.slice A2 (rest.length - 3) (d - 3)) := hbb5.cell 0
            have q00 := Q00.out
            simp only [m0, q00]
            omega
      · by_cases hc2 : ch = 2 ∧ 0 ∈ r
        · obtain ⟨hch, hz0r⟩ := hc2
          subst hch
          obtain ⟨sy, hsy⟩ : ∃ sy, sy = r.takeWhile (fun x => x != 0) := ⟨_, rfl⟩
          obtain ⟨E, hE⟩ : ∃ E, E = sy.length + 1 := ⟨_, rfl⟩
          have hlen : rest.length = r.length + 1 := by rw [hcr]; rfl
          have hsl : sy.length < r.length := by rw [hsy]; exact take_zero_lt hz0r
          have HI := Lib.hid (show idx0 rest = ((E : Nat) : Int) from by rw [hcr, hE, hsy]; exact idx0_two hz0r)
          have HV := Lib.hid (show Vx.take1 rest = (⟨2, 0, sy⟩, rest.drop (E + 1)) from by
            rw [hcr]
            simp only [Vx.take1]
            rw [if_neg (fun h => absurd h.1 (by decide)), if_pos ⟨trivial, hz0r⟩, hE, hsy, drop_zero hz0r]
            rfl)
          have HSY := Lib.hid (show ∀ (k : Nat) (x : UInt8), sy[k]? = some x → rest[1 + k]? = some x from fun k x hx => by
            rw [hcr, Nat.add_comm]
            show r[k]? = some x
            rw [hsy] at hx
            exact take_get hx)
          have hE1 : 1 ≤ E := by omega
          have hE2 : E + 1 ≤ rest.length := by omega
          have HE := Lib.hid (show sy.length = E - 1 from by omega)
          have hsfit : sy.length ≤ 281474976710656 := by omega
          have HSF := Lib.hid hsfit
          have d4 : decide ((0 : Int) < ((E : Nat) : Int)) = true := decide_eq_true (by omega)
          have j1 : (1 : Int) ≤ (E : Int) := by omega
          have j2 : (E : Int) ≤ (d : Int) := by omega
          have j3 : ¬ d = 1 := by omega
          have ec : (((2 : UInt8).toNat : Nat) : Int) = 2 := rfl
          rw [ec] at w0 w1
          have q1 : (wr.alloc (.cells #[.int .i64 0, .int .i64 0, .string ⟨#[]⟩] 23)).cell? ⟨w.heap.size, 0, none⟩ = some (.slice (some ⟨g, o, none⟩) rest.length d) := hbb1.cell 0
          have hwb : w.heap.size ≤ wr.heap.size := hbw.size
          have hqq : wr.heap.size ≠ w.heap.size := by omega
          clear hc1 hcr hcell hB hB1 hlen hsy hE hsl hz0r hsfit
          have hcut := cut_any (some ⟨g, o, none⟩) rest.length d (E + 1) w.heap.size _ hE2 hd (by omega) hbb1 (fun _ => ⟨g, o, rfl⟩)
          rw [show (((E + 1 : Nat)) : Int) = (E : Int) + 1 from by omega] at hcut
          have HCUT := Lib.hid hcut
          clear hcut
          go_wp2_with (first
            | (go_at_call 44; refine (index_any (some ⟨g, o, none⟩) d rest _ (by omega) hBy.out).mono ?_; rintro e w' ⟨rfl, rfl⟩; rw [HI.out]))
          refine HCUT.out.mono ?_
          rintro e w2 ⟨rfl, A2, hA2, hw2⟩
          have HA2 := Lib.hid hA2
          have hb2 : Below w.heap.size w w2 := by rw [hw2]; exact hb1.setCell (by simp) _
          have hbb2 : At w2 w.heap.size 25 #[.slice A2 (rest.length - (E + 1)) (d - (E + 1))] := by rw [hw2]; exact hbb1.put 0 _
          have hv2 : At w2 wr.heap.size 23 #[.int .i64 0, .int .i64 0, .string ⟨#[]⟩] := by rw [hw2]; exact hv1.far (p := ⟨w.heap.size, 0, none⟩) hqq _
          have hown2 : w2.ownsRow (w.heap.size + 1) 23 3 u4 ds.length (vcells ds) := by rw [hw2]; exact own_put hown1 (by simp) _
          have hB2 : Bytes w2 (some ⟨g, o, none⟩) rest := hBw.out.below hb2
          have hconv : (convert 25 9 (.slice (some ⟨g, o + 1, none⟩) (E - 1) (d - 1))).run Tryd.prog w2 = .ok (.string ⟨sy.toArray⟩) w2 := by
            rw [← HE.out]
            refine str_of w2 g (o + 1) (d - 1) sy (fun k x hx => ?_)
            obtain ⟨g', o', e', hg', hcell2⟩ := hB2 (by intro h; rw [h] at h1; simp at h1)
            simp at e'
            obtain ⟨rfl, rfl⟩ := e'
            rw [Nat.add_assoc]
            exact hcell2 _ _ (HSY.out k x hx)
          have f0 := hv2.frozen 0; have f1 := hv2.frozen 1; have f2 := hv2.frozen 2
          have b0 := hv2.cell 0; have b1 := hv2.cell 1; have b2 := hv2.cell 2
          simp at b0 b1 b2
          have HW2 := Lib.hid hw2
          clear hw2 hA2 q0 q1 w0 w1 hbb1 hv1 hat hb1 hown1
          go_wp2_with (fail)
          obtain ⟨W3, hW3⟩ : ∃ W3, W3 = ((w2.setCell ⟨wr.heap.size, 0, none⟩ (.int .i64 2)).setCell ⟨wr.heap.size, 1, none⟩ (.int .i64 0)).setCell ⟨wr.heap.size, 2, none⟩ (.string ⟨sy.toArray⟩) := ⟨_, rfl⟩
          have hb3 : Below w.heap.size w W3 := by rw [hW3]; exact ((hb2.setCell hwb _).setCell hwb _).setCell hwb _
          have hv3 : At W3 wr.heap.size 23 #[.int .i64 2, .int .i64 0, .string ⟨sy.toArray⟩] := by rw [hW3]; exact ((hv2.put 0 _).put 1 _).put 2 _
          have hbb3 : At W3 w.heap.size 25 #[.slice A2 (rest.length - (E + 1)) (d - (E + 1))] := by
            have hq : w.heap.size ≠ wr.heap.size := by omega
            rw [hW3]; exact ((hbb2.far (p := ⟨wr.heap.size, 0, none⟩) hq _).far (p := ⟨wr.heap.size, 1, none⟩) hq _).far (p := ⟨wr.heap.size, 2, none⟩) hq _
          have hown3 : W3.ownsRow (w.heap.size + 1) 23 3 u4 ds.length (vcells ds) := by
            rw [hW3]
            have hfar : some wr.heap.size ≠ Value.ownBlock u4 := fun e => by have := own_lt hown e.symm; omega
            exact own_putne (own_putne (own_putne hown2 (p := ⟨wr.heap.size, 0, none⟩) hfar _) (p := ⟨wr.heap.size, 1, none⟩) hfar _) (p := ⟨wr.heap.size, 2, none⟩) hfar _
          clear b0 b1 b2 f0 f1 f2
          have b0 := hv3.cell 0; have b1 := hv3.cell 1; have b2 := hv3.cell 2
          simp at b0 b1 b2
          have hlt3 := hv3.lt
          have hbl3 := hbb3.lt
          rw [← hW3]
          clear hW3 hv2 hbb2 hown2
          obtain ⟨a4, cp4, rfl⟩ := own_len hown3
          cases hval : Vx.valid ⟨2, 0, sy⟩
          · have hR := Lib.hid (show Vx.decode xs = none from by have h := HD.out; rw [HCR.out] at h; exact h.stop (by rw [← HCR.out, HV.out]; exact hval))
            have HVAL := Lib.hid hval
            clear hval
            refine (vvalid_any ⟨2, 0, sy⟩ _ (hw.next hb3) HSF.out).mono ?_
            rintro e w4 ⟨rfl, hb4⟩
            rw [HVAL.out]
            go_wp2_with (fail)
            go_ret2
            exact ⟨⟨_, by unfold decErr; rw [hR.out]; rfl, by rw [hR.out]; exact World.ownsRow_nil _ _ _ _⟩, hb3.trans (hb4.mono hb3.size)⟩
          · have HM := Lib.hid (show DecAt xs (ds ++ [⟨2, 0, sy⟩]) (rest.drop (E + 1)) from by
              have h := HD.out
              rw [HCR.out] at h
              have h' := h.more (by rw [← HCR.out, HV.out]; exact hval)
              rw [← HCR.out, HV.out] at h'
              exact h')
            have HVAL := Lib.hid hval
            clear hval
            have hdn : ds.length ≤ 1000000 := by omega
            refine (vvalid_any ⟨2, 0, sy⟩ _ (hw.next hb3) HSF.out).mono ?_
            rintro e w4 ⟨rfl, hb4⟩
            rw [HVAL.out]
            have hv4 := hv3.below hb4 hlt3
            have hbb4 := hbb3.below hb4 hbl3
            have hown4 := own_below hown3 hb4
            have hbw4 := hb3.trans (hb4.mono hb3.size)
            have y0 := hv4.cell 0; have y1 := hv4.cell 1; have y2 := hv4.cell 2
            simp at y0 y1 y2
            clear b0 b1 b2
            go_wp2_with (first
              | (at_builtin; refine wpList_append_lies _ rfl (.tmp 61) (.tmp 63) 24 rfl (w.heap.size + 1) 23 i0 _ 3 32 Tryd.underlying24 hi hz0 hz1 hz2 rfl (by omega) (.slice a4 ds.length cp4) ds.length (vcells ds) rfl (hown4.alloc _) ⟨w4.heap.size, 0, none⟩ 1 1 [.int .i64 2, .int .i64 0, .string ⟨sy.toArray⟩] rfl rfl (At.news (At.new _ _ _)) (one3 rfl rfl rfl) (by omega) (by unfold maxLen; omega) (by omega) (by have := hbw4.size; have := hb4.size; simp; omega) (w4.heap.size + 1) (by simp) ?_; intro g5 cap5 w5 hown5 hgrow5 hat5 hlt5))
            have hbw5 : Below w.heap.size w w5 := (hbw4.alloc hbw4.size _).grown hgrow5 (by have := hbw4.size; simp; omega) (fun q hq => by have := (own_lt hown4 hq).1; omega)
            have hbb5 : At w5 w.heap.size 25 #[.slice A2 (rest.length - (E + 1)) (d - (E + 1))] := (hbb4.alloc _).grown hgrow5 (fun e => by have := (own_lt hown4 e.symm).1; omega)
            have hl4 : (rest.drop (E + 1)).length = rest.length - (E + 1) := by simp
            go_roundw
            case rel => exact ⟨rest.drop (E + 1), ds ++ [⟨2, 0, sy⟩], A2, d - (E + 1), by omega, by omega, by omega, by simp; omega, HM, hBw.out.drop (E + 1) A2 (fun h => HA2.out _ _ rfl h), by rw [hl4]; exact hbb5, by rw [vcells_snoc, List.length_append]; exact hown5, hbw5⟩
            case measure =>
              have m0 : w5.cell? ⟨w.heap.size, 0, none⟩ = some (.slice A2 (rest.length - (E + 1)) (d - (E + 1))) := hbb5.cell 0
              have q00 := Q00.out
              simp only [m0, q00]
              omega
        · have HV := Lib.hid (show (Vx.take1 rest).1 = ⟨0, 0, []⟩ from by
            rw [HCR.out]
            simp only [Vx.take1]
            rw [if_neg hc1, if_neg hc2])
          have hR := Lib.hid (show Vx.decode xs = none from by have h := HD.out; rw [HCR.out] at h; exact h.stop (by rw [← HCR.out, HV.out]; decide))
          have HVAL := Lib.hid (show Vx.valid ⟨0, 0, []⟩ = false from by decide)
          have hlen : rest.length = r.length + 1 := by rw [hcr]; rfl
          have q1 : (wr.alloc (.cells #[.int .i64 0, .int .i64 0, .string ⟨#[]⟩] 23)).cell? ⟨w.heap.size, 0, none⟩ = some (.slice (some ⟨g, o, none⟩) rest.length d) := hbb1.cell 0
          have tests : ∃ b1 b2 b3 b4 : Bool, (((ch.toNat : Nat) : Int) == 1) = b1 ∧ decide ((3 : Int) ≤ (rest.length : Int)) = b2 ∧ (b1 && b2) = false ∧ (((ch.toNat : Nat) : Int) == 2) = b3 ∧ decide ((0 : Int) < idx0 rest) = b4 ∧ (b3 && b4) = false := by
            refine ⟨_, _, _, _, rfl, rfl, ?_, rfl, rfl, ?_⟩
            · rw [Bool.eq_false_iff]; intro h
              simp only [Bool.and_eq_true, beq_iff_eq, decide_eq_true_eq] at h
              exact hc1 ⟨UInt8.toNat_inj.1 (by have : (1 : UInt8).toNat = 1 := rfl; omega), by omega⟩
            · rw [Bool.eq_false_iff]; intro h
              simp only [Bool.and_eq_true, beq_iff_eq, decide_eq_true_eq] at h
              have hch : ch = 2 := UInt8.toNat_inj.1 (by have : (2 : UInt8).toNat = 2 := rfl; omega)
              subst hch
              apply hc2
              refine ⟨rfl, ?_⟩
              have hp := h.2
              unfold idx0 at hp
              split at hp
              · rename_i hm; rw [hcr] at hm; simpa using hm
              · omega
          obtain ⟨b1, b2, b3, b4, t1, t2, t12, t3, t4, t34⟩ := tests
          clear hc1 hc2 hcr hcell hB hB1 hlen
          cases b1 <;> cases b2 <;> cases b3 <;> cases b4 <;> (try (exact absurd t12 (by decide))) <;> (try (exact absurd t34 (by decide)))
          all_goals
            clear t12 t34
            go_wp2_with (first
              | (go_at_call 44; refine (index_any (some ⟨g, o, none⟩) d rest _ (by omega) hBy.out).mono ?_; rintro e w' ⟨rfl, rfl⟩)
              | (go_at_call 11; refine (vvalid_any ⟨0, 0, []⟩ _ (hw.next hb1) (by simp)).mono ?_; rintro e w4 ⟨rfl, hb4⟩; rw [HVAL.out]))
            go_ret2
            exact ⟨⟨_, by unfold decErr; rw [hR.out]; rfl, by rw [hR.out]; exact World.ownsRow_nil _ _ _ _⟩, hb1.trans (hb4.mono hb1.size)⟩
    · have d1 : decide ((0 : Int) < (rest.length : Int)) = false := decide_eq_false (by omega)
      have hr0 : rest = [] := List.length_eq_zero_iff.1 (show rest.length = 0 by omega)
      have hR := Lib.hid (show Vx.decode xs = some ds from by have := HD.out; rw [hr0] at this; exact this.done)
      clear hr0
      go_wp2
      go_ret2
      exact ⟨⟨_, by unfold decErr; rw [hR.out]; rfl, by rw [hR.out]; exact own_mono hown (Nat.le_succ _)⟩, hbw⟩
end Go.Proofs.YtagibdofpcbgiaaDoor
