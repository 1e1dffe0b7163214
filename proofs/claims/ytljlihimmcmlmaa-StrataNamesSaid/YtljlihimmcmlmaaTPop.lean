/- container/heap at the heap of groups: the methods Push and Pop. -/
import Derived.Test.YtljlihimmcmlmaaTDwn
import Derived.Test.YtljlihimmcmlmaaInv5
namespace Go.Proofs.Ytljlihimmcmlmaa
set_option linter.unusedVariables false
set_option linter.unusedSimpArgs false
open Go.RowKit
/-- Nothing but the heap's cell and its row turns. -/
structure Fr (H : Nat) (v : Value) (W W' : World) : Prop where
  os : W'.os = W.os
  tape : W'.tape = W.tape
  output : W'.output = W.output
  size : W.heap.size ≤ W'.heap.size
  block : ∀ q, q < W.heap.size → q ≠ H → v.ownBlock ≠ some q → W'.heap[q]? = W.heap[q]?
theorem Fr.refl (H : Nat) (v : Value) (W : World) : Fr H v W W := ⟨rfl, rfl, rfl, Nat.le_refl _, fun _ _ _ _ => rfl⟩
theorem Fr.of_grown {H : Nat} {v : Value} {W W' : World} (h : W.grownBy W' v.ownBlock) : Fr H v W W' := ⟨h.os, h.tape, h.output, h.size, fun q hq _ hv => h.block q hq (fun e => hv e.symm)⟩
theorem Fr.trans {H : Nat} {v v' : Value} {W W' W2 : World} (h : Fr H v W W') (k : Fr H v' W' W2) (hv : ∀ q, v'.ownBlock = some q → v.ownBlock = some q ∨ W.heap.size ≤ q) : Fr H v W W2 :=
  ⟨k.os.trans h.os, k.tape.trans h.tape, k.output.trans h.output, Nat.le_trans h.size k.size, fun q hq hH hvq => (k.block q (Nat.lt_of_lt_of_le hq h.size) hH (fun e => (hv q e).elim hvq (fun h2 => by omega))).trans (h.block q hq hH hvq)⟩
theorem Fr.below {H : Nat} {v : Value} {W W' W2 : World} (h : Fr H v W W') (hb : Below W'.heap.size W' W2) : Fr H v W W2 :=
  ⟨hb.os.trans h.os, hb.tape.trans h.tape, hb.output.trans h.output, Nat.le_trans h.size hb.size, fun q hq hH hv => (hb.block q (Nat.lt_of_lt_of_le hq h.size)).trans (h.block q hq hH hv)⟩
theorem Fr.grew {H : Nat} {v : Value} {W W' W2 : World} (h : Fr H v W W') (k : W'.grownBy W2 v.ownBlock) : Fr H v W W2 := h.trans (Fr.of_grown k) (fun q hq => Or.inl hq)
theorem Fr.store {H : Nat} {v : Value} {W W' : World} (h : Fr H v W W') (x : Value) : Fr H v W (W'.setCell ⟨H, 0, none⟩ x) :=
  ⟨h.os, h.tape, h.output, by simpa using h.size, fun q hq hH hv => (Below.heap_setCell W' ⟨H, 0, none⟩ x q hH).trans (h.block q hq hH hv)⟩
/-- On the way through the statement that appends. -/
structure HJ (w w0 : World) (B H : Nat) (v : Value) (hs : List Value) (F : List (List Nat)) (W : World) : Prop where
  hp : HpAt w0 B H v hs F W
  fr : Fr H v w W
def OwnW (B n : Nat) (xs : List Value) (v : Value) (S : Nat) : Value → World → Prop := fun x W => W.ownsRow B 42 1 x n xs ∧ ∀ q, x.ownBlock = some q → v.ownBlock = some q ∨ S ≤ q
section
variable {w w0 W W' : World} {B H : Nat} {v : Value} {hs : List Value} {F : List (List Nat)}
theorem HJ.next (h : HJ w w0 B H v hs F W) (hb : Below W.heap.size W W') : HJ w w0 B H v hs F W' := ⟨h.hp.next hb, h.fr.below hb⟩
theorem HJ.grew (h : HJ w w0 B H v hs F W) (ho : W'.ownsRow B 42 1 v F.length hs) (hg : W.grownBy W' v.ownBlock) : HJ w w0 B H v hs F W' :=
  ⟨hp_grown h.hp rfl (h.hp.cell.grown hg (own_far h.hp.own h.hp.cell (by decide))) ho hg (fun i u row h1 h2 => ⟨i, h1, h2⟩), h.fr.grew hg⟩
theorem HJ.push (h : HJ w w0 B H v hs F W) (hHB : w0.heap.size ≤ H) {u v' : Value} {row : List Nat} (hr : row ≠ [] ∧ ∃ A c, u = .slice A row.length c ∧ NumsN w0 A row) (ho : W.ownsRow B 42 1 v' (F.length + 1) (hs ++ [u])) : HpAt w0 B H v' (hs ++ [u]) (F ++ [row]) (W.setCell ⟨H, 0, none⟩ v') := by
  have hl := h.hp.len
  have hfar := own_far ho h.hp.cell (by decide)
  refine ⟨by have := h.hp.cell.put 0 v'; simpa using this, by rw [List.length_append]; exact own_putne (p := ⟨H, 0, none⟩) ho hfar v', fun i x r h1 h2 => ?_, h.hp.below.setCell (p := ⟨H, 0, none⟩) hHB v', h.hp.base, by simpa using h.hp.size⟩
  by_cases hi : i < hs.length
  · rw [List.getElem?_append_left hi] at h1
    rw [List.getElem?_append_left (by omega)] at h2
    exact h.hp.rows i x r h1 h2
  · rw [List.getElem?_append_right (by omega)] at h1
    rw [List.getElem?_append_right (by omega), ← hl] at h2
    obtain ⟨e1, rfl⟩ : i - hs.length = 0 ∧ x = u := by
      cases hq : i - hs.length with
      | zero => rw [hq] at h1; simp at h1; exact ⟨rfl, h1.symm⟩
      | succ k => rw [hq] at h1; simp at h1
    rw [e1] at h2
    obtain rfl : row = r := by simpa using h2
    exact hr
end
set_option maxHeartbeats 1000000 in
set_option maxRecDepth 100000 in
theorem pushm_any (w0 : World) (B H : Nat) (v : Value) (hs : List Value) (F : List (List Nat)) (w : World) (h : HpAt w0 B H v hs F w) (hHB : w0.heap.size ≤ H) (hl : F.length ≤ 100000) (A : Option Addr) (c : Nat) (row : List Nat) (hrow : row ≠ []) (hnr : NumsN w0 A row) :
    Calls Try.prog 89 #[.pointer (some ⟨H, 0, none⟩), .iface 42 (.slice A row.length c)] w fun e w' => e = .returned (.tuple #[]) ∧ ∃ v', HpAt w0 B H v' (hs ++ [.slice A row.length c]) (F ++ [row]) w' ∧ Fr H v w w' ∧ ∀ q, v'.ownBlock = some q → v.ownBlock = some q ∨ w.heap.size ≤ q := by
  obtain ⟨in1, hi1, hy0, hy1, hy2⟩ := info_of ints_info
  obtain ⟨va, vc, rfl⟩ := own_len h.own
  obtain ⟨u, hu⟩ : ∃ u, u = Value.slice A row.length c := ⟨_, rfl⟩
  have HU1 := Lib.hid (show ∀ x ∈ [u], x.oneCell' = true from fun x hx => by simp at hx; subst hx; rw [hu]; rfl)
  have HR1 := Lib.hid (show row ≠ [] ∧ ∃ A c, u = .slice A row.length c ∧ NumsN w0 A row from ⟨hrow, A, c, hu, hnr⟩)
  have HHB := Lib.hid hHB
  have hHJ : HJ w w0 B H (.slice va F.length vc) hs F w := ⟨h, Fr.refl _ _ _⟩
  have HHJ := Lib.hid hHJ
  have hz : w.cell? ⟨H, 0, none⟩ = some (.slice va F.length vc) := h.cell.cell 0
  clear hHJ h hHB hnr hrow
  subst hu
  go_enter Try.func89, Try.ntmps89
  go_wp2_with fail
  obtain ⟨u, hu⟩ : ∃ u, u = Value.slice A row.length c := ⟨_, rfl⟩
  have E6 : ∀ i, i ≠ 6 → Lasting (HJ w w0 B H (.slice va F.length vc) hs F) ((fun i => if i = 7 then Grows (.slice va F.length vc) else Onward) i) (NewSl 42 1 [.slice A row.length c] (Value.ownBlock (.slice va F.length vc))) := fun i _ => by
    show Lasting _ (if i = 7 then _ else _) _
    split
    · exact newSl_self
    · exact newSl_on _ _ _ _
  have E7 : ∀ i, i ≠ 7 → Lasting (HJ w w0 B H (.slice va F.length vc) hs F) ((fun i => if i = 7 then Grows (.slice va F.length vc) else Onward) i) (OwnW B (F.length + 1) (hs ++ [.slice A row.length c]) (.slice va F.length vc) w.heap.size) := fun i hne => by
    show Lasting _ (if i = 7 then _ else _) _
    rw [if_neg hne]
    exact fun x W W' _ hb hh => ⟨own_below hh.1 hb, hh.2⟩
  clear u hu
  refine' wp_region_rely_last 9 _ _ (HJ w w0 B H (.slice va F.length vc) hs F) (fun i => if i = 7 then Grows (.slice va F.length vc) else Onward) (Vl :: Vl :: Vl :: Vl :: Vl :: Vl :: NewSl 42 1 [.slice A row.length c] (Value.ownBlock (.slice va F.length vc)) :: OwnW B (F.length + 1) (hs ++ [.slice A row.length c]) (.slice va F.length vc) w.heap.size :: Vl :: []) ?hF (by kernel_rfl) (by kernel_rfl) (by kernel_rfl) (by rfl) (by rfl) (by rfl) (by kernel_rfl) (HHJ.out.next ((Below.refl _ _).drew)) (⟨fun i _ _ => lasting_vl, ⟨fun i _ _ => lasting_vl, ⟨fun i _ _ => lasting_vl, ⟨fun i _ _ => lasting_vl, ⟨fun i _ _ => lasting_vl, ⟨fun i _ _ => lasting_vl, ⟨fun i hne _ => E6 i hne, ⟨fun i hne _ => E7 i hne, ⟨fun i _ _ => lasting_vl, trivial⟩⟩⟩⟩⟩⟩⟩⟩⟩) ?hops ?hlast
  case hF => (intro v; simp only [over, Act.put, List.setIfInBounds_toArray, List.set_cons_zero, List.set_cons_succ, Nat.zero_add, Nat.reduceAdd]; exact rfl)
  case hops =>
    refine ⟨?_, ?_⟩
    · intro v w' hj hd hs K hK
      have hk := hK.out
      simp only [Act.put, List.setIfInBounds_toArray, List.set_cons_zero, List.set_cons_succ] at hk
      have HK := Lib.hid hk
      clear hd hs hk hK
      go_simp
      exact HK.out _ _ hj.out (Below.refl _ _) (show _ = _ from rfl)
    refine ⟨?_, ?_⟩
    · intro v w' hj hd hs K hK
      have hk := hK.out
      simp only [Act.put, List.setIfInBounds_toArray, List.set_cons_zero, List.set_cons_succ] at hk
      have HK := Lib.hid hk
      clear hd hs hk hK
      go_simp
      exact HK.out _ _ hj.out (Below.refl _ _) (show _ = _ from rfl)
    refine ⟨?_, ?_⟩
    · intro v w' hj hd hs K hK
      have t1 : v 1 = _ := hd.out 1 (by kernel_rfl)
      have hk := hK.out
      simp only [t1, Act.put, List.setIfInBounds_toArray, List.set_cons_zero, List.set_cons_succ] at hk
      have HK := Lib.hid hk
      clear hd hs hk hK
      go_simp
      exact HK.out _ _ hj.out (Below.refl _ _) (show _ = _ from rfl)
    refine ⟨?_, ?_⟩
    · intro v w' hj hd hs K hK
      have t2 : v 2 = _ := hd.out 2 (by kernel_rfl)
      have yc : w'.cell? ⟨H, 0, none⟩ = some (.slice va F.length vc) := hj.out.hp.cell.cell 0
      have hk := hK.out
      simp only [t2, Act.put, List.setIfInBounds_toArray, List.set_cons_zero, List.set_cons_succ] at hk
      have HK := Lib.hid hk
      clear hd hs hk hK
      go_simp
      exact HK.out _ _ hj.out (Below.refl _ _) (show _ = _ from rfl)
    refine ⟨?_, ?_⟩
    · intro v w' hj hd hs K hK
      have hk := hK.out
      simp only [Act.put, List.setIfInBounds_toArray, List.set_cons_zero, List.set_cons_succ] at hk
      have HK := Lib.hid hk
      clear hd hs hk hK
      go_simp
      exact HK.out _ _ hj.out (Below.refl _ _) (show _ = _ from rfl)
    refine ⟨?_, ?_⟩
    · intro v w' hj hd hs K hK
      have t4 : v 4 = _ := hd.out 4 (by kernel_rfl)
      have hk := hK.out
      simp only [t4, Act.put, List.setIfInBounds_toArray, List.set_cons_zero, List.set_cons_succ] at hk
      have HK := Lib.hid hk
      clear hd hs hk hK
      go_simp
      exact HK.out _ _ hj.out (Below.refl _ _) (show _ = _ from rfl)
    refine ⟨?_, ?_⟩
    · intro v w' hj hd hs K hK
      have t5 : v 5 = _ := hd.out 5 (by kernel_rfl)
      have hk := hK.out
      simp only [t5, Act.put, List.setIfInBounds_toArray, List.set_cons_zero, List.set_cons_succ] at hk
      have HK := Lib.hid hk
      clear hd hs hk hK
      go_simp
      exact HK.out _ _ (hj.out.next (below1 _ _)) (below1 _ _) ⟨_, rfl, At.new _ _ _, fun h => by have := (own_lt hj.out.hp.own h).2; omega⟩
    refine ⟨?_, ?_⟩
    · intro v w' hj hd hs K hK
      have t3 : v 3 = _ := hd.out 3 (by kernel_rfl)
      obtain ⟨g6, t6, a6, n6⟩ : NewSl 42 1 [.slice A row.length c] (Value.ownBlock (.slice va F.length vc)) (v 6) w' := hd.out 6 (by kernel_rfl)
      have hk := hK.out
      rw [if_pos (show Region.wanted _ _ = true from rfl)]
      simp only [t3, t6] at hk ⊢
      have HK := Lib.hid hk
      clear hd hs hk hK
      refine wp_append_where (.tmp 7) (.tmp 10) 68 rfl B 42 in1 _ 1 24 Try.underlying68 hi1 hy0 hy1 hy2 rfl (by omega) (.slice va F.length vc) F.length hs rfl hj.out.hp.own ⟨g6, 0, none⟩ 1 1 [.slice A row.length c] rfl rfl (At.news a6) HU1.out (by unfold maxLen; omega) (by omega) hj.out.hp.size fun v2 w2 o1 o2 g2 hwh => ?_
      exact HK.out _ _ (hj.out.grew o2 g2) g2 ⟨o1, fun q hq => (hwh q hq).imp id (fun h => Nat.le_trans hj.out.fr.size h)⟩
    refine ⟨?_, ?_⟩
    · intro v w' hj hd hs K hK
      have t0 : v 0 = _ := hd.out 0 (by kernel_rfl)
      have hk := hK.out
      simp only [t0, Act.put, List.setIfInBounds_toArray, List.set_cons_zero, List.set_cons_succ] at hk
      have HK := Lib.hid hk
      clear hd hs hk hK
      go_simp
      exact HK.out _ _ hj.out (Below.refl _ _) (show _ = _ from rfl)
    trivial
  case hlast =>
    intro v w' hj hd K hK
    have t7 : OwnW B (F.length + 1) (hs ++ [.slice A row.length c]) (.slice va F.length vc) w.heap.size (v 7) w' := hd.out 7 (of_decide_eq_true (by kernel_rfl))
    have t8 : v 8 = _ := hd.out 8 (of_decide_eq_true (by kernel_rfl))
    obtain ⟨vb, vd, hvb⟩ := own_len t7.1
    have yc : w'.cell? ⟨H, 0, none⟩ = some (.slice va F.length vc) := hj.out.hp.cell.cell 0
    have yf := hj.out.hp.cell.frozen 0
    have hk := hK.out
    simp only [t7, t8, Act.put, List.setIfInBounds_toArray, List.set_cons_zero, List.set_cons_succ] at hk
    simp only [hvb] at hk
    have HK := Lib.hid hk
    clear hd hk hK
    go_simp
    refine HK.out _ ?_
    have e6 := hj.out
    rw [hvb] at t7
    have hp2 := e6.push HHB.out HR1.out t7.1
    have fr2 := e6.fr.store (H := H) (.slice vb (F.length + 1) vd)
    have t72 := t7.2
    clear t7 t8 hvb hj yc yf HK e6
    go_wp2_with fail
    go_end0
    exact ⟨rfl, _, hp2, fr2, t72⟩
end Go.Proofs.Ytljlihimmcmlmaa
namespace Go.Proofs.Ytljlihimmcmlmaa
set_option linter.unusedVariables false
set_option linter.unusedSimpArgs false
open Go.RowKit
theorem own_take {w : World} {B : Nat} {e : TypeId} {g n c m : Nat} {xs : List Value} (h : w.ownsRow B e 1 (.slice (some ⟨g, 0, none⟩) n c) n xs) (hm : m ≤ n) : w.ownsRow B e 1 (.slice (some ⟨g, 0, none⟩) m c) m (xs.take m) := by
  have hl := h.1
  obtain ⟨d, rfl⟩ := Nat.exists_eq_add_of_le hm
  have e : xs = xs.take m ++ xs.drop m := (List.take_append_drop _ _).symm
  rw [e] at h
  exact own_shorter h (by rw [List.length_take]; omega)
set_option maxHeartbeats 1000000 in
set_option maxRecDepth 100000 in
theorem popm_any (w0 : World) (B H : Nat) (v : Value) (hs : List Value) (F : List (List Nat)) (w : World) (h : HpAt w0 B H v hs F w) (hHB : w0.heap.size ≤ H) (hl : F.length ≤ 100000) (h0 : 0 < F.length) :
    Calls Try.prog 88 #[.pointer (some ⟨H, 0, none⟩)] w fun e w' => ∃ u v', hs[F.length - 1]? = some u ∧ e = .returned (.iface 42 u) ∧ HpAt w0 B H v' (hs.take (F.length - 1)) (F.take (F.length - 1)) w' ∧ Fr H v w w' ∧ ∀ q, v'.ownBlock = some q → v.ownBlock = some q := by
  have hlen := h.len
  obtain ⟨A, c, e, hc1, hc2, h2⟩ := own_cells h.own
  rcases h2 with h2 | ⟨g, rfl, hgB, hg, hc⟩
  · omega
  subst e
  obtain ⟨m, hm⟩ : ∃ m, F.length = m + 1 := ⟨F.length - 1, by omega⟩
  rw [hm] at h hc1 h0 hl ⊢
  have e0 : m + 1 - 1 = m := by omega
  rw [e0]
  have hx : hs[m]? = some hs[m] := List.getElem?_eq_getElem (by omega)
  obtain ⟨hne, A', c', hu, hn⟩ := h.rows m _ _ hx (List.getElem?_eq_getElem (show m < F.length by omega))
  rw [hu] at hx
  have y0 := hc m _ hx
  have y1 : w.cell? ⟨H, 0, none⟩ = some (.slice (some ⟨g, 0, none⟩) (m + 1) c) := h.cell.cell 0
  have yf := h.cell.frozen 0
  have i0 : (0 : Int) ≤ (m : Int) := by omega
  have i1 : (m : Int) < ((m + 1 : Nat) : Int) := by omega
  have i2 : (m : Int) ≤ (c : Int) := by omega
  generalize (F[m]'(by omega)).length = rl at *
  have hT : HpAt w0 B H (.slice (some ⟨g, 0, none⟩) m c) (hs.take m) (F.take m) (w.setCell ⟨H, 0, none⟩ (.slice (some ⟨g, 0, none⟩) m c)) := by
    have ho := h.own
    rw [hm] at ho
    have ht := own_take ho (m := m) (by omega)
    refine ⟨by have := h.cell.put 0 (.slice (some ⟨g, 0, none⟩) m c); simpa using this, ?_, fun i x r h1 h2 => ?_, h.below.setCell (p := ⟨H, 0, none⟩) hHB _, h.base, by simpa using h.size⟩
    · rw [List.length_take, Nat.min_eq_left (by omega)]
      exact own_putne (p := ⟨H, 0, none⟩) ht (own_far ht h.cell (by decide)) _
    · rw [List.getElem?_take] at h1 h2
      split at h1
      · rename_i hi; rw [if_pos hi] at h2; exact h.rows i x r h1 h2
      · cases h1
  have HT := Lib.hid hT
  have HFR := Lib.hid ((Fr.refl H (.slice (some ⟨g, 0, none⟩) (m + 1) c) w).store (.slice (some ⟨g, 0, none⟩) m c))
  have HX := Lib.hid hx
  clear hT h hHB hc hx hu hn hne e0 hm hlen h0
  go_enter Try.func88, Try.ntmps88
  go_wp2_with fail
  go_ret
  exact ⟨_, _, HX.out, rfl, HT.out, HFR.out, fun q hq => hq⟩
set_option maxHeartbeats 1000000 in
set_option maxRecDepth 100000 in
theorem push_any (w0 : World) (B H : Nat) (v : Value) (hs : List Value) (F : List (List Nat)) (w : World) (h : HpAt w0 B H v hs F w) (hHB : w0.heap.size ≤ H) (hl : F.length ≤ 10000) (A : Option Addr) (c : Nat) (row : List Nat) (hrow : row ≠ []) (hnr : NumsN w0 A row) :
    Calls Try.prog 33 #[hif H, .iface 42 (.slice A row.length c)] w fun e w' => e = .returned (.tuple #[]) ∧ ∃ v' hs', HpAt w0 B H v' hs' (Hp.push Tj.key F row) w' ∧ Fr H v w w' ∧ ∀ q, v'.ownBlock = some q → v.ownBlock = some q ∨ w.heap.size ≤ q := by
  have hm := method_push H w
  have HP := Lib.hid (pushm_any w0 B H v hs F w h hHB (by omega) A c row hrow hnr)
  unfold hif
  go_enter Try.func33, Try.ntmps33
  go_wp2_with fail
  refine HP.out.mono ?_
  rintro e w2 ⟨rfl, v2, h2, fr2, hv2⟩
  have hm2 := method_len H v2 w2 (h2.cell.cell 0)
  have hln : (F ++ [row]).length = F.length + 1 := by simp
  obtain ⟨A2, c2, rfl⟩ := own_len h2.own
  have HL := Lib.hid (len_any A2 (F ++ [row]).length c2 w2)
  have HU := Lib.hid (up_any w0 B H _ _ _ w2 h2 F.length (F.length + 1) (by omega) (by omega) (by omega))
  unfold hif at HU
  rw [hln] at HL hm2
  go_wp2_with fail
  refine HL.out.mono ?_
  rintro e w3 ⟨rfl, rfl⟩
  go_wp2_with fail
  refine HU.out.mono ?_
  rintro e w4 ⟨rfl, hs4, h4, hg4⟩
  go_wp2_with fail
  go_end0
  exact ⟨rfl, _, hs4, h4, fr2.trans (Fr.of_grown hg4) hv2, hv2⟩
set_option maxHeartbeats 1000000 in
set_option maxRecDepth 100000 in
theorem pop_any (w0 : World) (B H : Nat) (v : Value) (hs : List Value) (F : List (List Nat)) (w : World) (h : HpAt w0 B H v hs F w) (hHB : w0.heap.size ≤ H) (hl : F.length ≤ 10000) (x : List Nat) (hx : F[0]? = some x) (hh : Hp.Heap Tj.key F F.length) :
    Calls Try.prog 35 #[hif H] w fun e w' => ∃ A c v' hs', e = .returned (.iface 42 (.slice A x.length c)) ∧ x ≠ [] ∧ NumsN w0 A x ∧ HpAt w0 B H v' hs' (Hp.pop Tj.key F) w' ∧ Fr H v w w' ∧ ∀ q, v'.ownBlock = some q → v.ownBlock = some q := by
  obtain ⟨k1, k2, k3, k4, k5⟩ := Hp.pop_ok hh hx
  have h0 : 0 < F.length := (List.getElem?_eq_some_iff.1 hx).1
  have hpop : Hp.pop Tj.key F = (Hp.down Tj.key (F.length - 1) (F.length - 1) (Hp.swp F 0 (F.length - 1)) 0).take (F.length - 1) := rfl
  obtain ⟨D, hD⟩ : ∃ D, Hp.down Tj.key (F.length - 1) (F.length - 1) (Hp.swp F 0 (F.length - 1)) 0 = D := ⟨_, rfl⟩
  rw [hD] at k1 k2 hpop
  obtain ⟨R, hR⟩ : ∃ R, Hp.pop Tj.key F = R := ⟨_, rfl⟩
  rw [hR] at hpop ⊢
  have hm := method_len H v w (h.cell.cell 0)
  have hm2 := method_swap H v w (h.cell.cell 0)
  obtain ⟨A2, c2, rfl⟩ := own_len h.own
  have HL := Lib.hid (len_any A2 F.length c2 w)
  have HS := Lib.hid (swap_any w0 B H _ hs F w h 0 (F.length - 1) h0 (by omega))
  obtain ⟨m, hmm⟩ : ∃ m, F.length - 1 = m := ⟨_, rfl⟩
  rw [hmm] at HS hD k1 hpop
  have e1 : (F.length : Int) - 1 = (m : Int) := by omega
  have HPOP := Lib.hid hpop
  have HK1 := Lib.hid k1
  have HD := Lib.hid hD
  have HMM := Lib.hid hmm
  clear hh k3 k4 k5 hR hpop k1 hD h hx hmm
  unfold hif
  go_enter Try.func35, Try.ntmps35
  go_wp2_with fail
  refine HL.out.mono ?_
  rintro e w3 ⟨rfl, rfl⟩
  go_wp2_with fail
  refine HS.out.mono ?_
  rintro e w4 ⟨rfl, h4, hg4⟩
  have hlen4 : (Hp.swp F 0 m).length = F.length := Hp.swp_len _ _ _
  have HDn := Lib.hid (down_any w0 B H _ _ _ w4 h4 0 m m (by have := HMM.out; omega) (by omega) (by omega) (by omega))
  unfold hif at HDn
  rw [HD.out] at HDn
  go_wp2_with fail
  refine HDn.out.mono ?_
  rintro e w5 ⟨⟨b, rfl⟩, hs5, h5, hg5⟩
  have hm5 := method_pop H w5
  have HPM := Lib.hid (popm_any w0 B H _ hs5 D w5 h5 hHB (by omega) (by omega))
  go_wp2_with fail
  refine HPM.out.mono ?_
  rintro e w6 ⟨u, v6, hu, rfl, h6, fr6, hv6⟩
  rw [k2, HMM.out] at hu h6
  obtain ⟨hne, A, c, rfl, hn⟩ := h5.rows m _ _ hu HK1.out
  rw [← HPOP.out] at h6
  go_wp2_with fail
  go_ret
  exact ⟨A, c, v6, _, rfl, hne, hn, h6, ((Fr.of_grown hg4).trans (Fr.of_grown hg5) (fun q hq => Or.inl hq)).trans fr6 (fun q hq => Or.inl hq), hv6⟩
end Go.Proofs.Ytljlihimmcmlmaa
