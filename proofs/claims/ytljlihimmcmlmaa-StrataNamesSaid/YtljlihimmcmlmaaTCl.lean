/- The memory of Components. -/
import Derived.Test.YtljlihimmcmlmaaTPop
import Derived.Test.YtljlihimmcmlmaaTKst
import Derived.Test.YtljlihimmcmlmaaTKey
import Derived.Test.YtljlihimmcmlmaaTUse
namespace Go.Proofs.Ytljlihimmcmlmaa
set_option linter.unusedVariables false
set_option linter.unusedSimpArgs false
open Go.RowKit
/-- While the edges are counted. S: the block of the counts. -/
structure CJ (w1 : World) (S nc : Nat) (need : List Nat) (us : List (List Nat)) (hs : List Value) (nn : Nat) (f : Pr2 → Option Bool) (ev : Value) (es : List Tj.Ed) (W : World) : Prop where
  need : At W S 3 (ncells need).toArray
  users : Fan W (S + 1) (S + 1) hs us
  seen : PMap W (S + 2) nn f
  es : W.ownsRow (S + 3) 34 2 ev es.length (ecells es)
  below : Below w1.heap.size w1 W
  low : w1.heap.size ≤ S
section
variable {w1 W W' : World} {S nc : Nat} {need : List Nat} {us : List (List Nat)} {hs : List Value} {nn : Nat} {f : Pr2 → Option Bool} {ev : Value} {es : List Tj.Ed}
theorem CJ.next (h : CJ w1 S nc need us hs nn f ev es W) (hb : Below W.heap.size W W') : CJ w1 S nc need us hs nn f ev es W' :=
  ⟨h.need.next hb, h.users.below hb, h.seen.next hb, own_below h.es hb, h.below.trans (hb.mono h.below.size), h.low⟩
theorem Fan.grownFar {w w' : World} {B g : Nat} {hs : List Value} {F : List (List Nat)} (h : Fan w B g hs F) {row : Option Nat} (hg : w.grownBy w' row) (h1 : some g ≠ row) (h2 : ∀ u ∈ hs, ∀ q, u.ownBlock = some q → row ≠ some q) : Fan w' B g hs F :=
  ⟨h.cells.grown hg h1, h.low, h.len, fun a u r e1 e2 => own_grown (h.rows a u r e1 e2) hg (h2 u (List.mem_of_getElem? e1)), h.apart⟩
theorem CJ.mark (h : CJ w1 S nc need us hs nn f ev es W) {nn' : Nat} {f' : Pr2 → Option Bool} (hg : W.grownBy W' (some (S + 2))) (hm : PMap W' (S + 2) nn' f') : CJ w1 S nc need us hs nn' f' ev es W' := by
  obtain ⟨m, k, hob⟩ := h.seen.obj
  have hl := h.users.len
  refine ⟨h.need.grown hg (h.need.not_map hob), h.users.grownFar hg (h.users.cells.not_map hob) (fun u hu q hq => ?_), hm, own_grown h.es hg (own_not_map h.es hob), h.below.grown hg h.below.size (fun q hq => by injection hq with hq; have := h.low; omega), h.low⟩
  obtain ⟨j, hj⟩ := List.getElem?_of_mem hu
  have hlt := (List.getElem?_eq_some_iff.1 hj).1
  exact own_not_map (h.users.rows j u _ hj (List.getElem?_eq_getElem (show j < us.length by omega))) hob q hq
theorem Fan.putFar {w : World} {B g b o : Nat} {x : Value} {hs : List Value} {F : List (List Nat)} (h : Fan w B g hs F) (hb : b < B) : Fan (w.setCell ⟨b, o, none⟩ x) B g hs F :=
  ⟨h.cells.far (p := ⟨b, o, none⟩) (fun e => by have := h.low; simp at e; omega) x, h.low, h.len, fun a u r e1 e2 => own_put (p := ⟨b, o, none⟩) (h.rows a u r e1 e2) hb x, h.apart⟩
theorem CJ.count (h : CJ w1 S nc need us hs nn f ev es W) (a x : Nat) : CJ w1 S nc (need.set a x) us hs nn f ev es (W.setCell ⟨S, a, none⟩ (.int .i64 (x : Int))) :=
  ⟨nput h.need a x, h.users.putFar (by omega), h.seen.setCell (by simp) _, own_put (p := ⟨S, a, none⟩) h.es (by simp) _, h.below.setCell (p := ⟨S, a, none⟩) h.low _, h.low⟩
/-- A user put behind the others. -/
theorem CJ.user (h : CJ w1 S nc need us hs nn f ev es W) {b : Nat} {u v : Value} {row : List Nat} {x : Nat} (hu : hs[b]? = some u) (hr : us[b]? = some row) (ho : W'.ownsRow (S + 1) 3 1 v (row.length + 1) (ncells row ++ [.int .i64 (x : Int)])) (hkeep : W'.ownsRow (S + 1) 3 1 u row.length (ncells row)) (hg : W.grownBy W' u.ownBlock) (hw : ∀ q, v.ownBlock = some q → u.ownBlock = some q ∨ W.heap.size ≤ q) :
    CJ w1 S nc need us hs nn f ev es W' ∧ CJ w1 S nc need (us.set b (row ++ [x])) (hs.set b v) nn f ev es (W'.setCell ⟨S + 1, b, none⟩ v) := by
  obtain ⟨m, k, hob⟩ := h.seen.obj
  have h0 := h.users.rows b u row hu hr
  have hlt := (List.getElem?_eq_some_iff.1 hr).1
  have h1 : CJ w1 S nc need us hs nn f ev es W' := ⟨h.need.grown hg (fun e => by have := (own_lt h0 e.symm).1; omega), h.users.grew hu hr hkeep hg, h.seen.kept hg (fun e => by
      have := own_not_map h0 hob (S + 2) e.symm
      exact this rfl), own_grown h.es hg (own_apart h.es h0 (by decide)), h.below.grown hg h.below.size (fun q hq => by have := (own_lt h0 hq).1; have := h.low; omega), h.low⟩
  have h2 := h1.users.put (a := b) (v := v) (row := row ++ [x]) hlt (by rw [ncells_snoc, List.length_append]; exact ho) (h.users.newApart hu hw)
  exact ⟨h1, ⟨h1.need.far (p := ⟨S + 1, b, none⟩) (by simp) v, h2, h1.seen.setCell (by simp) v, own_put (p := ⟨S + 1, b, none⟩) h1.es (by simp) v, h1.below.setCell (p := ⟨S + 1, b, none⟩) (by have := h.low; simp; omega) v, h.low⟩⟩
end
/-- While the components come out: the counts and the users, all in blocks below B. -/
structure CK (S B : Nat) (need : List Nat) (us : List (List Nat)) (hs : List Value) (W : World) : Prop where
  need : At W S 3 (ncells need).toArray
  users : Fan W (S + 1) (S + 1) hs us
  tops : Tops hs B
  fit : S + 1 < B
section
variable {S B : Nat} {need : List Nat} {us : List (List Nat)} {hs : List Value} {W W' : World}
theorem CK.below (h : CK S B need us hs W) (hb : Below B W W') : CK S B need us hs W' := by
  have hl := h.users.len
  refine ⟨h.need.below hb (by have := h.fit; omega), ⟨h.users.cells.below hb h.fit, h.users.low, h.users.len, fun a u row h1 h2 => ?_, h.users.apart⟩, h.tops, h.fit⟩
  have h3 := h.users.rows a u row h1 h2
  refine ⟨h3.1, ?_⟩
  rcases h3.2 with h4 | ⟨g, cap, cur, rfl, hB, hh, r⟩
  · exact Or.inl h4
  · exact Or.inr ⟨g, cap, cur, rfl, hB, (hb.block g (h.tops _ (List.mem_of_getElem? h1) g rfl)).trans hh, r⟩
theorem CK.count (h : CK S B need us hs W) (a x : Nat) : CK S B (need.set a x) us hs (W.setCell ⟨S, a, none⟩ (.int .i64 (x : Int))) :=
  ⟨nput h.need a x, h.users.putFar (by omega), h.tops, h.fit⟩
theorem CJ.ck {w1 : World} {nc nn : Nat} {f : Pr2 → Option Bool} {ev : Value} {es : List Tj.Ed} (h : CJ w1 S nc need us hs nn f ev es W) : CK S W.heap.size need us hs W :=
  ⟨h.need, h.users, fun u hu q hq => by obtain ⟨j, hj⟩ := List.getElem?_of_mem hu; exact h.users.lt hj hq, h.users.cells.lt⟩
theorem Fr.toBelow {H : Nat} {v : Value} (h : Fr H v W W') (hH : B ≤ H) (hv : ∀ q, v.ownBlock = some q → B ≤ q) (hB : B ≤ W.heap.size) : Below B W W' :=
  ⟨h.os, h.tape, h.output, h.size, fun q hq => h.block q (by omega) (by omega) (fun e => by have := hv q e; omega)⟩
theorem own_fr {H : Nat} {v : Value} {B' size m : Nat} {e : TypeId} {x : Value} {xs : List Value} (ho : W.ownsRow B' e size x m xs) (h : Fr H v W W') (h1 : x.ownBlock ≠ some H) (h2 : ∀ q, x.ownBlock = some q → v.ownBlock ≠ some q) : W'.ownsRow B' e size x m xs := by
  refine ⟨ho.1, ?_⟩
  rcases ho.2 with h4 | ⟨g, cap, cur, rfl, hB, hh, r⟩
  · exact Or.inl h4
  · exact Or.inr ⟨g, cap, cur, rfl, hB, (h.block g (Array.getElem?_eq_some_iff.1 hh).1 (fun e => h1 (by rw [e]; rfl)) (h2 g rfl)).trans hh, r⟩
end
end Go.Proofs.Ytljlihimmcmlmaa
namespace Go.Proofs.Ytljlihimmcmlmaa
set_option linter.unusedVariables false
set_option linter.unusedSimpArgs false
open Go.RowKit
def lenOf : Value → Nat
  | .slice _ n _ => n
  | _ => 0
/-- Headers of rows that lie in the old world. -/
def ORows (w1 : World) (ohs : List Value) (out : List (List Nat)) : Prop := ∀ (i : Nat) (u : Value) (row : List Nat), ohs[i]? = some u → out[i]? = some row → ∃ A c, u = .slice A row.length c ∧ NumsN w1 A row
theorem ORows.snoc {w1 : World} {ohs : List Value} {out : List (List Nat)} {A : Option Addr} {c : Nat} {row : List Nat} (h : ORows w1 ohs out) (hl : ohs.length = out.length) (hn : NumsN w1 A row) : ORows w1 (ohs ++ [.slice A row.length c]) (out ++ [row]) := fun i x r h1 h2 => by
  by_cases hi : i < ohs.length
  · rw [List.getElem?_append_left hi] at h1
    rw [List.getElem?_append_left (by omega)] at h2
    exact h i x r h1 h2
  · rw [List.getElem?_append_right (by omega)] at h1
    rw [List.getElem?_append_right (by omega), ← hl] at h2
    obtain ⟨e1, rfl⟩ : i - ohs.length = 0 ∧ x = .slice A row.length c := by
      cases hq : i - ohs.length with
      | zero => rw [hq] at h1; simp at h1; exact ⟨rfl, h1.symm⟩
      | succ k => rw [hq] at h1; simp at h1
    rw [e1] at h2
    obtain rfl : row = r := by simpa using h2
    exact ⟨A, c, rfl, hn⟩
theorem ls_headers {w1 W : World} {B : Nat} {v : Value} {ohs : List Value} {out : List (List Nat)} (ho : W.ownsRow B 42 1 v out.length ohs) (hr : ORows w1 ohs out) (hb : Below w1.heap.size w1 W) : ∃ A c, v = .slice A out.length c ∧ LsAt W A out := by
  obtain ⟨A, c, rfl, _, _, h2⟩ := own_cells ho
  refine ⟨A, c, rfl, fun hn => ?_⟩
  rcases h2 with h2 | ⟨g, rfl, h3, h4, h5⟩
  · exact absurd (List.eq_nil_of_length_eq_zero h2) hn
  · refine ⟨g, 0, rfl, h4, fun a row ha => ?_⟩
    have hl := ho.1
    have hla : a < ohs.length := by have := (List.getElem?_eq_some_iff.1 ha).1; omega
    have hb' : ohs[a]? = some ohs[a] := List.getElem?_eq_getElem hla
    obtain ⟨A', c', e, hn'⟩ := hr a _ row hb' ha
    refine ⟨A', c', ?_, hn'.below hb⟩
    rw [Nat.zero_add, h5 a _ hb', e]
/-- The heap while another row grows. -/
theorem HpAt.far {w0 W W' : World} {B H m : Nat} {v x : Value} {hs xs : List Value} {F : List (List Nat)} (h : HpAt w0 B H v hs F W) (hx : W.ownsRow B 42 1 x m xs) (hg : W.grownBy W' x.ownBlock) (hap : ∀ q, x.ownBlock = some q → v.ownBlock ≠ some q) : HpAt w0 B H v hs F W' :=
  ⟨h.cell.grown hg (own_far hx h.cell (by decide)), own_grown h.own hg (fun q hq e => hap q e hq), h.rows, h.below.grown hg h.below.size (fun q hq => Nat.le_trans h.base (own_lt hx hq).1), h.base, Nat.le_trans h.size hg.size⟩
theorem below_own {W W' : World} {B m size : Nat} {e : TypeId} {x : Value} {xs : List Value} (hx : W.ownsRow B e size x m xs) (hg : W.grownBy W' x.ownBlock) (hB : B ≤ W.heap.size) : Below B W W' :=
  (Below.refl B W).grown hg hB (fun q hq => (own_lt hx hq).1)
theorem HpAt.count {w0 W : World} {B H S : Nat} {v : Value} {hs : List Value} {F : List (List Nat)} (h : HpAt w0 B H v hs F W) (hS : w0.heap.size ≤ S ∧ S < B) (hSH : S ≠ H) (a : Nat) (x : Value) : HpAt w0 B H v hs F (W.setCell ⟨S, a, none⟩ x) :=
  ⟨h.cell.far (p := ⟨S, a, none⟩) (fun e => hSH e.symm) x, own_put (p := ⟨S, a, none⟩) h.own hS.2 x, h.rows, h.below.setCell (p := ⟨S, a, none⟩) hS.1 x, h.base, by simpa using h.size⟩
end Go.Proofs.Ytljlihimmcmlmaa
