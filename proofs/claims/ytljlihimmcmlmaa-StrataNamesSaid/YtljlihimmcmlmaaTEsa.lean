/- Edges and their marks as they stand in memory. -/
import Derived.Test.YtljlihimmcmlmaaTLnk
namespace Go.Proofs.Ytljlihimmcmlmaa
set_option linter.unusedVariables false
set_option linter.unusedSimpArgs false
open Go.RowKit
/-- Edges and their marks in memory. -/
def EsAt (W : World) (va ua : Option Addr) (es : List Tj.Ed) : Prop := ∀ (k : Nat) (e : Tj.Ed), es[k]? = some e → ∃ g h, va = some ⟨g, 0, none⟩ ∧ ua = some ⟨h, 0, none⟩ ∧ g < W.heap.size ∧ h < W.heap.size ∧ W.cell? ⟨g, k * 2, none⟩ = some (.int .i64 (e.a : Int)) ∧ W.cell? ⟨g, k * 2 + 1, none⟩ = some (.int .i64 (e.b : Int)) ∧ W.cell? ⟨h, k, none⟩ = some (.bool e.g)
theorem EsAt.below {w w' : World} {va ua : Option Addr} {es : List Tj.Ed} (h : EsAt w va ua es) (hb : Below w.heap.size w w') : EsAt w' va ua es := fun k e he => by
  obtain ⟨g, h', e1, e2, h1, h2, h3, h4, h5⟩ := h k e he
  exact ⟨g, h', e1, e2, Nat.lt_of_lt_of_le h1 hb.size, Nat.lt_of_lt_of_le h2 hb.size, (hb.cell h1).trans h3, (hb.cell h1).trans h4, (hb.cell h2).trans h5⟩
theorem EsAt.of {w : World} {B B' : Nat} {va ua : Option Addr} {vc uc : Nat} {es : List Tj.Ed} (h1 : w.ownsRow B 34 2 (.slice va es.length vc) es.length (ecells es)) (h2 : w.ownsRow B' 4 1 (.slice ua es.length uc) es.length (mcells es)) : EsAt w va ua es := fun k e he => by
  have hl := (List.getElem?_eq_some_iff.1 he).1
  obtain ⟨A, c, e1, _, _, h3⟩ := own_cells h1
  obtain ⟨A', c', e2, _, _, h4⟩ := own_cells h2
  injection e1 with e1 _ e3
  injection e2 with e2 _ e4
  subst e1 e2
  rcases h3 with h3 | ⟨g, rfl, _, hg, hc⟩
  · omega
  rcases h4 with h4 | ⟨g', rfl, _, hg', hc'⟩
  · omega
  obtain ⟨z0, z1⟩ := ecells_get es k e he
  exact ⟨g, g', rfl, rfl, hg, hg', hc _ _ z0, hc _ _ z1, hc' _ _ (mcells_get he)⟩
theorem edges_at (p : Pg) (n : Nat) (w : World) (hp : PgOk w p) (hf : PgFine p n) : Calls Try.prog 12 #[p.v] w fun e w' => ∃ va vc ua uc, e = .returned (.tuple #[.slice va (edges p).length vc, .slice ua (edges p).length uc]) ∧ EsAt w' va ua (edges p) ∧ Below w.heap.size w w' := by
  refine (edges_any p w hp hf.rs hf.ls).mono ?_
  rintro e w' ⟨v, u, rfl, h1, h2, h3⟩
  obtain ⟨va, vc, rfl⟩ := own_len h1
  obtain ⟨ua, uc, rfl⟩ := own_len h2
  exact ⟨va, vc, ua, uc, rfl, EsAt.of h1 h2, h3⟩
theorem redges_at (p : Pg) (n : Nat) (w : World) (hp : PgOk w p) (hf : PgFine p n) : Calls Try.prog 13 #[p.v] w fun e w' => ∃ va vc ua uc, e = .returned (.tuple #[.slice va (edges p).length vc, .slice ua (edges p).length uc]) ∧ EsAt w' va ua (edges p) ∧ Below w.heap.size w w' := by
  refine (redges_any p w hp hf.rs hf.ls).mono ?_
  rintro e w' ⟨v, u, rfl, h1, h2, h3⟩
  obtain ⟨va, vc, rfl⟩ := own_len h1
  obtain ⟨ua, uc, rfl⟩ := own_len h2
  exact ⟨va, vc, ua, uc, rfl, EsAt.of h1 h2, h3⟩
/-- A row of numbers of the call's own, its cell. -/
theorem own_num {w : World} {B c : Nat} {A : Option Addr} {l : List Nat} (h : w.ownsRow B 3 1 (.slice A l.length c) l.length (ncells l)) {k x : Nat} (hk : l[k]? = some x) : ∃ g, A = some ⟨g, 0, none⟩ ∧ g < w.heap.size ∧ w.cell? ⟨g, k, none⟩ = some (.int .i64 (x : Int)) := by
  have hl := (List.getElem?_eq_some_iff.1 hk).1
  obtain ⟨A', c', e1, _, _, h3⟩ := own_cells h
  injection e1 with e1 _ e3
  subst e1
  rcases h3 with h3 | ⟨g, rfl, _, hg, hc⟩
  · omega
  · exact ⟨g, rfl, hg, hc _ _ (by simp [ncells, hk])⟩
end Go.Proofs.Ytljlihimmcmlmaa
