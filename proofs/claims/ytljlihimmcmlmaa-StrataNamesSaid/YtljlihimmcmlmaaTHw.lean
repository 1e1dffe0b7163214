/- The methods of the heap of groups. -/
import Derived.Test.YtljlihimmcmlmaaTGrp
import Derived.Test.YtljlihimmcmlmaaTRCm
namespace Go.Proofs.Ytljlihimmcmlmaa
set_option linter.unusedVariables false
set_option linter.unusedSimpArgs false
open Go.RowKit
theorem find_of {α β : Type} {o : Option α} {f : α → β} {b : β} (h : o.map f = some b) : ∃ m, o = some m ∧ f m = b := by
  cases o with
  | none => cases h
  | some m => exact ⟨m, rfl, by simpa using h⟩
set_option maxHeartbeats 1000000 in
set_option maxRecDepth 100000 in
theorem method_less (H : Nat) (v : Value) (W : World) (h : W.cell? ⟨H, 0, none⟩ = some v) : (method 239 67 (.pointer (some ⟨H, 0, none⟩)) "Less").run Try.prog W = .ok (87, v) W := by
  obtain ⟨m, hm, e⟩ := find_of (show ((Try.t67.methods).find? (fun x => x.name == "Less")).map (fun m => (m.path, m.func)) = some (#[], some (87, false)) by kernel_rfl)
  have e1 : m.path = #[] := congrArg Prod.fst e
  have e2 : m.func = some (87, false) := congrArg Prod.snd e
  have u1 := Try.underlying67
  have u2 := Try.underlying68
  have hw : ∀ (a : Addr) (s r : String) (ts : Array TypeId) (ty : TypeId), Builtin.ssaWrapNilChk_ ts ty #[.pointer (some a), strVal s, strVal r] = pure (.pointer (some a)) := fun _ _ _ _ _ => rfl
  unfold method
  go_simp
  unfold follow
  go_simp
  unfold receiverAt
  go_simp
  unfold Place.get
  go_simp
set_option maxHeartbeats 1000000 in
set_option maxRecDepth 100000 in
theorem method_len (H : Nat) (v : Value) (W : World) (h : W.cell? ⟨H, 0, none⟩ = some v) : (method 239 67 (.pointer (some ⟨H, 0, none⟩)) "Len").run Try.prog W = .ok (34, v) W := by
  obtain ⟨m, hm, e⟩ := find_of (show ((Try.t67.methods).find? (fun x => x.name == "Len")).map (fun m => (m.path, m.func)) = some (#[], some (34, false)) by kernel_rfl)
  have e1 : m.path = #[] := congrArg Prod.fst e
  have e2 : m.func = some (34, false) := congrArg Prod.snd e
  have u1 := Try.underlying67
  have u2 := Try.underlying68
  have hw : ∀ (a : Addr) (s r : String) (ts : Array TypeId) (ty : TypeId), Builtin.ssaWrapNilChk_ ts ty #[.pointer (some a), strVal s, strVal r] = pure (.pointer (some a)) := fun _ _ _ _ _ => rfl
  unfold method
  go_simp
  unfold follow
  go_simp
  unfold receiverAt
  go_simp
  unfold Place.get
  go_simp
set_option maxHeartbeats 1000000 in
set_option maxRecDepth 100000 in
theorem method_swap (H : Nat) (v : Value) (W : World) (h : W.cell? ⟨H, 0, none⟩ = some v) : (method 239 67 (.pointer (some ⟨H, 0, none⟩)) "Swap").run Try.prog W = .ok (90, v) W := by
  obtain ⟨m, hm, e⟩ := find_of (show ((Try.t67.methods).find? (fun x => x.name == "Swap")).map (fun m => (m.path, m.func)) = some (#[], some (90, false)) by kernel_rfl)
  have e1 : m.path = #[] := congrArg Prod.fst e
  have e2 : m.func = some (90, false) := congrArg Prod.snd e
  have u1 := Try.underlying67
  have u2 := Try.underlying68
  have hw : ∀ (a : Addr) (s r : String) (ts : Array TypeId) (ty : TypeId), Builtin.ssaWrapNilChk_ ts ty #[.pointer (some a), strVal s, strVal r] = pure (.pointer (some a)) := fun _ _ _ _ _ => rfl
  unfold method
  go_simp
  unfold follow
  go_simp
  unfold receiverAt
  go_simp
  unfold Place.get
  go_simp
set_option maxHeartbeats 1000000 in
set_option maxRecDepth 100000 in
theorem method_push (H : Nat) (W : World) : (method 239 67 (.pointer (some ⟨H, 0, none⟩)) "Push").run Try.prog W = .ok (89, .pointer (some ⟨H, 0, none⟩)) W := by
  obtain ⟨m, hm, e⟩ := find_of (show ((Try.t67.methods).find? (fun x => x.name == "Push")).map (fun m => (m.path, m.func)) = some (#[], some (89, true)) by kernel_rfl)
  have e1 : m.path = #[] := congrArg Prod.fst e
  have e2 : m.func = some (89, true) := congrArg Prod.snd e
  have u1 := Try.underlying67
  have u2 := Try.underlying68
  unfold method
  go_simp
  unfold follow
  go_simp
  unfold receiverAt
  go_simp
  unfold Place.get
  go_simp
set_option maxHeartbeats 1000000 in
set_option maxRecDepth 100000 in
theorem method_pop (H : Nat) (W : World) : (method 239 67 (.pointer (some ⟨H, 0, none⟩)) "Pop").run Try.prog W = .ok (88, .pointer (some ⟨H, 0, none⟩)) W := by
  obtain ⟨m, hm, e⟩ := find_of (show ((Try.t67.methods).find? (fun x => x.name == "Pop")).map (fun m => (m.path, m.func)) = some (#[], some (88, true)) by kernel_rfl)
  have e1 : m.path = #[] := congrArg Prod.fst e
  have e2 : m.func = some (88, true) := congrArg Prod.snd e
  have u1 := Try.underlying67
  have u2 := Try.underlying68
  unfold method
  go_simp
  unfold follow
  go_simp
  unfold receiverAt
  go_simp
  unfold Place.get
  go_simp
end Go.Proofs.Ytljlihimmcmlmaa
namespace Go.Proofs.Ytljlihimmcmlmaa
set_option linter.unusedVariables false
set_option linter.unusedSimpArgs false
open Go.RowKit
/-- The heap in memory: rows that lie in the old world. -/
structure HpAt (w0 : World) (B H : Nat) (v : Value) (hs : List Value) (F : List (List Nat)) (W : World) : Prop where
  cell : At W H 68 #[v]
  own : W.ownsRow B 42 1 v F.length hs
  rows : ∀ (i : Nat) (u : Value) (row : List Nat), hs[i]? = some u → F[i]? = some row → row ≠ [] ∧ ∃ A c, u = .slice A row.length c ∧ NumsN w0 A row
  below : Below w0.heap.size w0 W
  base : w0.heap.size ≤ B
  size : B ≤ W.heap.size
def hif (H : Nat) : Value := .iface 67 (.pointer (some ⟨H, 0, none⟩))
section
variable {w0 W W' : World} {B H : Nat} {v : Value} {hs : List Value} {F : List (List Nat)}
theorem HpAt.next (h : HpAt w0 B H v hs F W) (hb : Below W.heap.size W W') : HpAt w0 B H v hs F W' :=
  ⟨h.cell.next hb, own_below h.own hb, h.rows, h.below.trans (hb.mono h.below.size), h.base, Nat.le_trans h.size hb.size⟩
theorem HpAt.len (h : HpAt w0 B H v hs F W) : hs.length = F.length := by have := h.own.1; omega
/-- The heap's slice and an element's key. -/
theorem HpAt.get (h : HpAt w0 B H v hs F W) {i : Nat} (hi : i < F.length) : ∃ g c, v = .slice (some ⟨g, 0, none⟩) F.length c ∧ g < W.heap.size ∧ ∃ gi oi m ci, hs[i]? = some (.slice (some ⟨gi, oi, none⟩) m ci) ∧ W.cell? ⟨g, i, none⟩ = some (.slice (some ⟨gi, oi, none⟩) m ci) ∧ gi < W.heap.size ∧ W.cell? ⟨gi, oi, none⟩ = some (.int .i64 ((Hp.K Tj.key F i : Nat) : Int)) ∧ 0 < m := by
  obtain ⟨A, c, e, _, _, h2⟩ := own_cells h.own
  rcases h2 with h2 | ⟨g, rfl, _, hg, hc⟩
  · omega
  have hl := h.len
  have h1 : hs[i]? = some hs[i] := List.getElem?_eq_getElem (by omega)
  have h3 : F[i]? = some F[i] := List.getElem?_eq_getElem hi
  obtain ⟨hne, A, ci, hu, hn⟩ := h.rows i _ _ h1 h3
  obtain ⟨x, r, hx⟩ : ∃ x r, F[i] = x :: r := by
    cases hF : F[i] with
    | nil => exact absurd hF hne
    | cons x r => exact ⟨x, r, rfl⟩
  have hk : Hp.K Tj.key F i = x := by unfold Hp.K; rw [h3, hx]; rfl
  obtain ⟨gi, oi, rfl, hgi, hci⟩ := hn.at (j := 0) (x := x) (by rw [hx]; rfl)
  rw [hu] at h1
  refine ⟨g, c, e, hg, gi, oi, _, ci, h1, hc i _ h1, Nat.lt_of_lt_of_le hgi h.below.size, ?_, by rw [hx]; simp⟩
  rw [hk]
  exact (h.below.cell hgi).trans hci
end
set_option maxHeartbeats 1000000 in
set_option maxRecDepth 100000 in
theorem len_any (A : Option Addr) (n c : Nat) (w : World) : Calls Try.prog 34 #[.slice A n c] w fun e w' => e = .returned (.int .i64 (n : Int)) ∧ w = w' := by
  go_enter Try.func34, Try.ntmps34
  go_wp2_with fail
  go_ret
  exact ⟨rfl, rfl⟩
set_option maxHeartbeats 1000000 in
set_option maxRecDepth 100000 in
theorem less_any (w0 : World) (B H : Nat) (v : Value) (hs : List Value) (F : List (List Nat)) (w : World) (h : HpAt w0 B H v hs F w) (i j : Nat) (hi : i < F.length) (hj : j < F.length) :
    Calls Try.prog 87 #[v, .int .i64 (i : Int), .int .i64 (j : Int)] w fun e w' => e = .returned (.bool (decide (Hp.K Tj.key F i < Hp.K Tj.key F j))) ∧ Below w.heap.size w w' := by
  obtain ⟨g, c, rfl, hg, gi, oi, mi, ci, _, x1, x2, x3, x4⟩ := h.get hi
  obtain ⟨g', c', e, hg', gj, oj, mj, cj, _, y1, y2, y3, y4⟩ := h.get hj
  obtain rfl : g = g' := by injection e with e; injection e with e; injection e
  clear e
  generalize Hp.K Tj.key F i = a at *
  generalize Hp.K Tj.key F j = b at *
  have f0 : ∀ z : Held w.heap.size w, z.w.cell? ⟨g, i, none⟩ = some (.slice (some ⟨gi, oi, none⟩) mi ci) := fun z => z.cell hg x1
  have f1 : ∀ z : Held w.heap.size w, z.w.cell? ⟨g, j, none⟩ = some (.slice (some ⟨gj, oj, none⟩) mj cj) := fun z => z.cell hg y1
  have f2 : ∀ z : Held w.heap.size w, z.w.cell? ⟨gi, oi, none⟩ = some (.int .i64 (a : Int)) := fun z => z.cell x2 x3
  have f3 : ∀ z : Held w.heap.size w, z.w.cell? ⟨gj, oj, none⟩ = some (.int .i64 (b : Int)) := fun z => z.cell y2 y3
  have i0 : (0 : Int) ≤ (i : Int) := by omega
  have i1 : (i : Int) < (F.length : Int) := by omega
  have i2 : (0 : Int) ≤ (j : Int) := by omega
  have i3 : (j : Int) < (F.length : Int) := by omega
  have i4 : (0 : Int) < (mi : Int) := by omega
  have i5 : (0 : Int) < (mj : Int) := by omega
  clear h hg hg' x1 x2 x3 x4 y1 y2 y3 y4
  obtain ⟨tv, htv⟩ : ∃ tv, decide ((a : Int) < (b : Int)) = tv := ⟨_, rfl⟩
  have HTV := Lib.hid (show decide (a < b) = tv by rw [← htv]; simp)
  go_enter Try.func87, Try.ntmps87
  go_wp2_with fail
  refine wp_region_held w.heap.size w (Below.refl _ _) (by kernel_rfl) (by kernel_rfl) ?_
  repeat (go_big_quiet_step (fail))
  refine wpQuiet_nil ?_
  rintro wt ⟨⟨_, bt⟩, rfl⟩
  go_wp2_with fail
  go_ret
  exact ⟨by rw [HTV.out]; rfl, bt⟩
end Go.Proofs.Ytljlihimmcmlmaa
