/- The walks of the reference's Same and Alike at slices of equal (alike) tokens. -/
import Derived.Test.YtgoplhlbcmfocaaDoorRefLex
import Derived.Test.YtgoplhlbcmfocaaDoorHeld
import Derived.Deep.QuietTactic
import Derived.BigQuiet
import Derived.Deep.Draws
namespace Go.Proofs.YtgoplhlbcmfocaaDoor
set_option linter.unusedVariables false
set_option linter.unusedSimpArgs false
open Go.RowKit
/-- The slice value v reads as the cells xs, n elements of three cells each. -/
def Reads3 (w : World) (A : Option Addr) (n : Nat) (xs : List Value) : Prop :=
  0 < n → ∃ g o, A = some ⟨g, o, none⟩ ∧ g < w.heap.size ∧ ∀ (j : Nat) (u : Value), xs[j]? = some u → w.cell? ⟨g, o + j, none⟩ = some u
theorem Reads3.below {w w' : World} {A : Option Addr} {n : Nat} {xs : List Value} (h : Reads3 w A n xs) (hb : Below w.heap.size w w') : Reads3 w' A n xs := fun hn => by
  obtain ⟨g, o, e, hg, hc⟩ := h hn
  exact ⟨g, o, e, Nat.lt_of_lt_of_le hg hb.size, fun j u hu => (hb.cell (p := ⟨g, o + j, none⟩) hg).trans (hc j u hu)⟩
theorem Reads3.own {w : World} {B : Nat} {e : TypeId} {n c : Nat} {A : Option Addr} {xs : List Value} (h : w.ownsRow B e 3 (.slice A n c) n xs) : Reads3 w A n xs := fun hn => by
  rcases h.2 with ⟨_, h0⟩ | ⟨g, cap, cur, hv, hg, hh, h1, h2, h3, h4⟩
  · omega
  · simp only [Value.slice.injEq, true_and] at hv
    obtain ⟨rfl, rfl⟩ := hv
    refine ⟨g, 0, rfl, (Array.getElem?_eq_some_iff.1 hh).1, fun j u hu => ?_⟩
    rw [cell_of_row w g (0 + j) cur e (0, 0) hh, Nat.zero_add]
    rw [← h4] at hu
    rw [List.getElem?_take] at hu
    split at hu
    · simpa using hu
    · cases hu
theorem tokCells_at {ts : List Lx.Tok} {k : Nat} {t : Lx.Tok} (h : ts[k]? = some t) :
    (tokCells ts)[k * 3]? = some (.int .i64 t.kind) ∧ (tokCells ts)[k * 3 + 1]? = some (.string ⟨t.text.toArray⟩) ∧ (tokCells ts)[k * 3 + 2]? = some (.int .i64 t.pos) := by
  induction ts generalizing k with
  | nil => simp at h
  | cons a r ih =>
    have e : tokCells (a :: r) = .int .i64 a.kind :: .string ⟨a.text.toArray⟩ :: .int .i64 a.pos :: tokCells r := rfl
    rw [e]
    cases k with
    | zero => simp at h; subst h; exact ⟨rfl, rfl, rfl⟩
    | succ k =>
      have := ih (k := k) (by simpa using h)
      have e3 : (k + 1) * 3 = k * 3 + 3 := by omega
      rw [e3]
      exact this
theorem Reads3.tok {w : World} {A : Option Addr} {ts : List Lx.Tok} {k : Nat} (h : Reads3 w A ts.length (tokCells ts)) (hk : k < ts.length) :
    ∃ g o, A = some ⟨g, o, none⟩ ∧ g < w.heap.size ∧ w.cell? ⟨g, o + k * 3, none⟩ = some (.int .i64 ts[k].kind) ∧ w.cell? ⟨g, o + k * 3 + 1, none⟩ = some (.string ⟨ts[k].text.toArray⟩) ∧ w.cell? ⟨g, o + k * 3 + 2, none⟩ = some (.int .i64 ts[k].pos) := by
  obtain ⟨g, o, e, hg, hc⟩ := h (by omega)
  obtain ⟨a0, a1, a2⟩ := tokCells_at (List.getElem?_eq_getElem hk)
  exact ⟨g, o, e, hg, hc _ _ a0, hc _ _ a1, hc _ _ a2⟩
set_option maxHeartbeats 1000000 in
set_option maxRecDepth 100000 in
theorem same_eq (A A' : Option Addr) (c c' : Nat) (ts : List Lx.Tok) (w : World) (hl : ts.length ≤ 1000000) (h : Reads3 w A ts.length (tokCells ts)) (h' : Reads3 w A' ts.length (tokCells ts)) :
    Calls Tryd.prog 14 #[.slice A ts.length c, .slice A' ts.length c'] w fun e w' => e = .returned (.bool true) ∧ Below w.heap.size w w' := by
  go_enter Tryd.func14, Tryd.ntmps14
  go_wp2
  go_loopw [5] (fun i wr => ∃ (k nq : Nat), k ≤ ts.length ∧ i = .int .i64 k ∧ wr = w.drewN nq) (fun i _ => ts.length - (intOf i).toNat)
  case atStart => exact ⟨0, 0, by omega, rfl, rfl⟩
  case round =>
    obtain ⟨k, nq, hk, rfl, rfl⟩ := hrel
    by_cases hlt : k < ts.length
    · obtain ⟨g, o, rfl, hg, c0, c1, c2⟩ := h.tok hlt
      obtain ⟨g', o', rfl, hg', d0, d1, d2⟩ := h'.tok hlt
      generalize ts[k] = t at *
      clear h h'
      go_wp2
      go_quiet (fail)
      go_wp2
      go_roundw
      case rel => exact ⟨k + 1, _, by omega, by go_num, rfl⟩
      case measure => simp [intOf]; omega
    · go_wp2
      go_ret
      exact ⟨rfl, below_drewN (Below.refl _ _) _⟩
set_option maxHeartbeats 1000000 in
set_option maxRecDepth 100000 in
theorem alike_eq (A A' : Option Addr) (c c' : Nat) (ts us : List Lx.Tok) (w : World) (hl : ts.length ≤ 1000000) (hlen : us.length = ts.length) (h : Reads3 w A ts.length (tokCells ts)) (h' : Reads3 w A' us.length (tokCells us))
    (heq : ∀ (k : Nat) (h1 : k < ts.length) (h2 : k < us.length), ts[k].kind = us[k].kind ∧ ts[k].text = us[k].text) :
    Calls Tryd.prog 18 #[.slice A ts.length c, .slice A' us.length c'] w fun e w' => e = .returned (.bool true) ∧ Below w.heap.size w w' := by
  have HL := Lib.hid hlen
  have HEQ := Lib.hid heq
  rw [hlen]
  clear hlen heq
  go_enter Tryd.func18, Tryd.ntmps18
  go_wp2
  go_loopw [5] (fun i wr => ∃ (k nq : Nat), k ≤ ts.length ∧ i = .int .i64 k ∧ wr = w.drewN nq) (fun i _ => ts.length - (intOf i).toNat)
  case atStart => exact ⟨0, 0, by omega, rfl, rfl⟩
  case round =>
    obtain ⟨k, nq, hk, rfl, rfl⟩ := hrel
    by_cases hlt : k < ts.length
    · obtain ⟨g, o, rfl, hg, c0, c1, c2⟩ := h.tok hlt
      obtain ⟨g', o', rfl, hg', d0, d1, d2⟩ := h'.tok (by rw [HL.out]; exact hlt)
      obtain ⟨e1, e2⟩ := HEQ.out k hlt (by rw [HL.out]; exact hlt)
      rw [← e1] at d0
      rw [← e2] at d1
      clear h h' e1 e2 d2 c2
      generalize ts[k] = t at *
      have n1 : ((t.kind : Int) != (t.kind : Int)) = false := by simp
      have n2 : ((⟨t.text.toArray⟩ : ByteArray).toList != (⟨t.text.toArray⟩ : ByteArray).toList) = false := by simp
      go_wp2
      go_quiet (fail)
      go_wp2
      go_roundw
      case rel => exact ⟨k + 1, _, by omega, by go_num, rfl⟩
      case measure => simp [intOf]; omega
    · go_wp2
      go_ret
      exact ⟨rfl, below_drewN (Below.refl _ _) _⟩
end Go.Proofs.YtgoplhlbcmfocaaDoor
