/- Positive predicates: along edges, and in a program with fewer rules; no walk. -/
import Derived.Test.YtljlihimmcmlmaaTBad
namespace Go.Proofs.Ytljlihimmcmlmaa
set_option linter.unusedVariables false
set_option linter.unusedSimpArgs false
open Go.RowKit
theorem pos_edge {p : Pg} {e : Tj.Ed} (he : e ∈ edges p) (h : spos p e.a = true) : e.g = false ∧ spos p e.b = true := by
  rw [spos_iff] at h ⊢
  have hr : Tj.Reach (Tj.next (edges p)) e.a e.b := Tj.Reach.one (Tj.mem_next.2 ⟨e, he, rfl, rfl⟩)
  refine ⟨?_, fun v hv => h.1 v (hr.trans hv), fun f hf hg hb => h.2 f hf hg (hr.trans hb)⟩
  cases hg : e.g with
  | false => rfl
  | true => exact absurd Tj.Reach.refl (h.2 e he hg)
theorem pos_of {p : Pg} {a : Nat} (h : spos p a = true) : (p.prs.map Pr.of).getD a (-1) = -1 := (spos_iff p a).1 h |>.1 a Tj.Reach.refl
def ordin (p : Pg) (x : Int) : Bool := decide (0 ≤ x) && decide (x < p.prs.length) && decide ((p.prs.map Pr.of).getD x.toNat (-1) = -1)
def keepR (p : Pg) (r : Ru) : Bool := ordin p r.pred && r.lits.all fun l => !neg l
def cutP (p : Pg) (A : Option Addr) (c : Nat) : Pg := { p with ra := A, rc := c, rus := p.rus.filter (keepR p) }
theorem cut_edges {p : Pg} {A : Option Addr} {c : Nat} {e : Tj.Ed} (h : e ∈ edges (cutP p A c)) : e ∈ edges p := by
  obtain ⟨r, hr, l, hl, hk, rfl⟩ := mem_edges.1 h
  exact mem_edges.2 ⟨r, (List.mem_filter.1 hr).1, l, hl, hk, rfl⟩
theorem next_mono {es fs : List Tj.Ed} (h : ∀ e ∈ es, e ∈ fs) {a b : Nat} (hr : Tj.Reach (Tj.next es) a b) : Tj.Reach (Tj.next fs) a b := by
  induction hr with
  | refl => exact Tj.Reach.refl
  | @step x y z hy _ ih =>
    obtain ⟨e, he, h1, h2⟩ := Tj.mem_next.1 hy
    exact Tj.Reach.step (Tj.mem_next.2 ⟨e, h e he, h1, h2⟩) ih
theorem cut_pos {p : Pg} {A : Option Addr} {c a : Nat} (h : spos p a = true) : spos (cutP p A c) a = true := by
  rw [spos_iff] at h ⊢
  refine ⟨fun v hv => h.1 v (next_mono (fun e he => cut_edges he) hv), fun e he hg hr => h.2 e (cut_edges he) hg (next_mono (fun e he => cut_edges he) hr)⟩
theorem all_snoc {l : List Lit9} {m : Nat} {x : Lit9} (h : l[m]? = some x) : ((l.take (m + 1)).all fun l => !neg l) = (((l.take m).all fun l => !neg l) && !neg x) := by
  rw [List.take_add_one, h, List.all_append]; simp
theorem keep_snoc {p : Pg} {k : Nat} {r : Ru} (h : p.rus[k]? = some r) : (p.rus.take (k + 1)).filter (keepR p) = (p.rus.take k).filter (keepR p) ++ if keepR p r = true then [r] else [] := by
  rw [List.take_add_one, h, List.filter_append]
  congr 1
  show [r].filter (keepR p) = _
  cases hk : keepR p r <;> simp [hk]
theorem filter_len_le {α : Type} (q : α → Bool) (l : List α) (k : Nat) : ((l.take k).filter q).length ≤ k := Nat.le_trans (List.length_filter_le _ _) (by rw [List.length_take]; omega)
end Go.Proofs.Ytljlihimmcmlmaa
