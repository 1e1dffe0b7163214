/- The walks of slices.IndexFunc and ContainsFunc over terms, with a method value of whose calls a contract is known. -/
import Derived.Test.YtoficnfpoeaccaaDoorKSet
import Derived.Shelf.GgClosure.Gives
import Derived.Laws.EntriesVeiled
namespace Go.Proofs.YtoficnfpoeaccaaDoor
set_option linter.unusedVariables false
set_option linter.unusedSimpArgs false
open Go.RowKit
def Tm.agg (x : Tm) : Value := .agg #[.string x.v, .int .i64 x.t, .int .i64 x.n, .string x.s]
/-- What is known of a method value's calls. -/
def FnOk (g : Nat) (bv : Value) (p : Tm → Bool) (ts : List Tm) (w : World) : Prop :=
  ∀ W x, x ∈ ts → Below w.heap.size w W → Calls Tryd.prog g #[bv, .agg #[.string x.v, .int .i64 x.t, .int .i64 x.n, .string x.s]] W fun e w' => e = .returned (.bool (p x)) ∧ Below W.heap.size W w'
theorem any_more {p : Tm → Bool} {l : List Tm} {k : Nat} {x : Tm} (h : l[k]? = some x) : (l.take (k + 1)).any p = ((l.take k).any p || p x) := by
  rw [List.take_add_one, h, List.any_append]
  simp
set_option maxRecDepth 100000 in
theorem indexfn_any (g : Nat) (bv : Value) (eg : ∀ args w, (callFunc g args).run Tryd.prog w = .ok (.enter g args) w) (p : Tm → Bool) (A : Option Addr) (c : Nat) (ts : List Tm) (w : World) (hA : Str w A 4 (ts.map Tm.fs)) (hl : ts.length ≤ 1000000) (hcl : FnOk g bv p ts w) :
    Calls Tryd.prog 58 #[.slice A ts.length c, .func (.func g) #[bv] #[]] w fun e w' => (∃ i : Int, e = .returned (.int .i64 i) ∧ decide (0 ≤ i) = ts.any p ∧ -1 ≤ i ∧ i < 1000001) ∧ Below w.heap.size w w' := by
  have HA := Lib.hid (fun W (h : Below w.heap.size w W) => hA.below h)
  have HC := Lib.hid hcl
  clear hA hcl
  go_enter Tryd.func58, Tryd.ntmps58
  go_wp2_with fail
  go_loopw [5, 8] (fun _ i wr => ∃ k : Nat, k ≤ ts.length ∧ i = .int .i64 k ∧ Hid ((ts.take k).any p = false) ∧ Below w.heap.size w wr) (fun _ i _ => ts.length - (intOf i).toNat)
  case atStart => exact ⟨0, by omega, rfl, Lib.hid rfl, Below.refl _ _⟩
  case round =>
    obtain ⟨k, hk, rfl, HK, hw⟩ := hrel
    by_cases h1 : k < ts.length
    · have d1 : decide ((k : Int) < (ts.length : Int)) = true := by simp; omega
      obtain ⟨x, hx⟩ : ∃ x, ts[k]? = some x := ⟨_, List.getElem?_eq_getElem h1⟩
      obtain ⟨ga, o, rfl, hg, x0, x1, x2, x3⟩ := tm_cells (HA.out wr hw) hx
      have i0 : (0 : Int) ≤ (k : Int) := by omega
      have i1 : (k : Int) < (ts.length : Int) := by omega
      have HM := Lib.hid (any_more (p := p) hx)
      have HCX := Lib.hid (HC.out wr x (List.mem_of_getElem? hx) hw)
      have HG := Lib.hid (show p x = true → ts.any p = true from fun h => List.any_eq_true.2 ⟨x, List.mem_of_getElem? hx, h⟩)
      clear hx
      cases hz : p x
      · have HN := Lib.hid (show (ts.take (k + 1)).any p = false by rw [HM.out, HK.out, hz]; rfl)
        rw [hz] at HCX
        clear hz
        go_wp2_with (go_at_fn g; refine HCX.out.mono ?_; rintro e w2 ⟨rfl, hb2⟩)
        go_roundw
        case rel => exact ⟨k + 1, by omega, by go_num, HN, hw.trans (hb2.mono hw.size)⟩
        case measure => simp [intOf]; omega
      · have HR := Lib.hid (HG.out hz)
        rw [hz] at HCX
        clear hz
        go_wp2_with (go_at_fn g; refine HCX.out.mono ?_; rintro e w2 ⟨rfl, hb2⟩)
        go_ret
        exact ⟨⟨(k : Int), rfl, by rw [HR.out]; exact decide_eq_true (by omega), by omega, by omega⟩, hw.trans (hb2.mono hw.size)⟩
    · have d1 : decide ((k : Int) < (ts.length : Int)) = false := by simp; omega
      have HR := Lib.hid (show ts.any p = false by rw [← HK.out, List.take_of_length_le (by omega)])
      go_wp2_with fail
      go_ret
      exact ⟨⟨-1, rfl, by rw [HR.out]; rfl, by omega, by omega⟩, hw⟩
set_option maxRecDepth 100000 in
theorem containsfn_any (g : Nat) (bv : Value) (eg : ∀ args w, (callFunc g args).run Tryd.prog w = .ok (.enter g args) w) (p : Tm → Bool) (A : Option Addr) (c : Nat) (ts : List Tm) (w : World) (hA : Str w A 4 (ts.map Tm.fs)) (hl : ts.length ≤ 1000000) (hcl : FnOk g bv p ts w) :
    Calls Tryd.prog 34 #[.slice A ts.length c, .func (.func g) #[bv] #[]] w fun e w' => e = .returned (.bool (ts.any p)) ∧ Below w.heap.size w w' := by
  have HC := Lib.hid (indexfn_any g bv eg p A c ts w hA hl hcl)
  clear hA hcl
  obtain ⟨z, hz⟩ : ∃ z, ts.any p = z := ⟨_, rfl⟩
  rw [hz] at HC ⊢
  clear hz
  go_enter Tryd.func34, Tryd.ntmps34
  go_wp2_with (go_at_call 58; refine HC.out.mono ?_; rintro e w2 ⟨⟨i, rfl, hi, hlo, hup⟩, hb2⟩)
  go_ret
  exact ⟨by rw [← hi]; rfl, hb2⟩
end Go.Proofs.YtoficnfpoeaccaaDoor
