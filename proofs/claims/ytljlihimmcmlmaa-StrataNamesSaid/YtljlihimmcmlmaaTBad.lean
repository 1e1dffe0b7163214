/- Edges of a program, and when Check says something; no walk. -/
import Derived.Test.YtljlihimmcmlmaaTLnk
import Derived.Test.YtljlihimmcmlmaaTLev
namespace Go.Proofs.Ytljlihimmcmlmaa
set_option linter.unusedVariables false
set_option linter.unusedSimpArgs false
open Go.RowKit
theorem mem_edges {p : Pg} {e : Tj.Ed} : e ∈ edges p ↔ ∃ r ∈ p.rus, ∃ l ∈ r.lits, lnk p r l = true ∧ e = ⟨r.pred.toNat, l.pred.toNat, neg l⟩ := by
  unfold edges ruEdges
  rw [List.mem_flatMap]
  constructor
  · rintro ⟨r, hr, h⟩
    rw [List.mem_filterMap] at h
    obtain ⟨l, hl, h⟩ := h
    split at h
    · rename_i hk
      exact ⟨r, hr, l, hl, hk, (Option.some.inj h).symm⟩
    · cases h
  · rintro ⟨r, hr, l, hl, hk, rfl⟩
    exact ⟨r, hr, List.mem_filterMap.2 ⟨l, hl, by rw [if_pos hk]⟩⟩
theorem bads_ne {p : Pg} {T : Nat → Nat → Bool} : bads p T ≠ [] ↔ ∃ r ∈ p.rus, ∃ l ∈ r.lits, badLit p T r l = true := by
  unfold bads
  rw [← List.length_pos_iff, List.length_take, show (0 < min 20 (p.rus.filterMap (badRu p T)).length) = (0 < (p.rus.filterMap (badRu p T)).length) by rw [eq_iff_iff]; omega, List.length_pos_iff_exists_mem]
  constructor
  · rintro ⟨d, hd⟩
    obtain ⟨r, hr, h⟩ := List.mem_filterMap.1 hd
    unfold badRu at h
    rw [Option.map_eq_some_iff] at h
    obtain ⟨l, hl, _⟩ := h
    exact ⟨r, hr, l, List.mem_of_find?_eq_some hl, List.find?_some hl⟩
  · rintro ⟨r, hr, l, hl, hb⟩
    cases hq : r.lits.find? (badLit p T r) with
    | none => exact absurd hb (by have := List.find?_eq_none.1 hq l hl; exact this)
    | some m => exact ⟨(90, m.pos), List.mem_filterMap.2 ⟨r, hr, by unfold badRu; rw [hq]; rfl⟩⟩
theorem bads_iff {p : Pg} {n : Nat} (hf : PgFine p n) : bads p (sameC (Tj.whole (Tj.next (edges p)) n).of) ≠ [] ↔ Tj.Bad (edges p) := by
  rw [bads_eq hf, bads_ne]
  unfold Tj.Bad
  constructor
  · rintro ⟨r, hr, l, hl, hb⟩
    unfold badLit at hb
    simp only [Bool.and_eq_true] at hb
    obtain ⟨⟨h1, h2⟩, h3⟩ := hb
    have hm : (⟨r.pred.toNat, l.pred.toNat, neg l⟩ : Tj.Ed) ∈ edges p := mem_edges.2 ⟨r, hr, l, hl, h1, rfl⟩
    obtain ⟨ha, hb⟩ := hf.es _ hm
    exact ⟨_, hm, h2, ((Tj.tog_iff (fine_iff hf) ha hb).1 h3).2⟩
  · rintro ⟨e, he, hg, hr⟩
    obtain ⟨ha, hb⟩ := hf.es _ he
    obtain ⟨r, hr', l, hl, hk, rfl⟩ := mem_edges.1 he
    refine ⟨r, hr', l, hl, ?_⟩
    unfold badLit
    simp only [Bool.and_eq_true]
    exact ⟨⟨hk, hg⟩, (Tj.tog_iff (fine_iff hf) ha hb).2 ⟨Tj.Reach.one (Tj.mem_next.2 ⟨_, he, rfl, rfl⟩), hr⟩⟩
end Go.Proofs.Ytljlihimmcmlmaa
