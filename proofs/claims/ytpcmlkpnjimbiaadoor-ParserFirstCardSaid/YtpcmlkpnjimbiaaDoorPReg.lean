/- A region that draws its order, reads a text and stores the program in a new variable. -/
import Derived.Test.YtpcmlkpnjimbiaaDoorPParse
import Derived.Test.YtpcmlkpnjimbiaaDoorPDiags
import Derived.Test.YtpcmlkpnjimbiaaDoorInv4
namespace Go.Proofs.YtpcmlkpnjimbiaaDoor
set_option linter.unusedVariables false
set_option linter.unusedSimpArgs false
open Go.RowKit
/-- A slice of some row. -/
def SlV (v : Value) : Prop := ∃ A n c, v = .slice A n c
/-- What may happen meanwhile: new blocks, and stores into variables that hold programs. -/
def RP (W W' : World) : Prop := W.heap.size ≤ W'.heap.size ∧ (∀ (g : Nat) (ob : Obj), W.heap[g]? = some ob → (∀ cs, ob ≠ .cells cs 34 (0, 0)) → W'.heap[g]? = some ob) ∧
  ∀ b y0 y1 y2 y3, At W b 34 #[y0, y1, y2, y3] → ∃ z0 z1 z2 z3, At W' b 34 #[z0, z1, z2, z3]
theorem RP.below {W W' : World} (h : Below W.heap.size W W') : RP W W' :=
  ⟨h.size, fun g ob h1 _ => (h.block g (Array.getElem?_eq_some_iff.1 h1).1).trans h1, fun b y0 y1 y2 y3 ha => ⟨y0, y1, y2, y3, ha.next h⟩⟩
theorem RP.refl (W : World) : RP W W := RP.below (Below.refl _ _)
theorem RP.kept {W W' : World} (h : RP W W') {e : TypeId} (he : e ≠ 34) : Kept e W W' := fun g cur fr hh => h.2.1 g _ hh fun cs hq => by
  injection hq with _ h2 _
  exact he h2
theorem RP.keptAll {W W' : World} (h : RP W W') : KeptAll W W' := fun e he => h.kept (by
  intro h0
  subst h0
  revert he
  decide)
def PsT (Pg : Ap.Pg) (ds : List (Int × Int)) : Value → World → Prop := fun x W => ∃ l f p r d, x = .tuple #[.agg #[l, f, p, r], d] ∧ PgR W l f p r Pg ∧ DgR W d ds
def PaT (Pg : Ap.Pg) : Value → World → Prop := fun x W => ∃ l f p r, x = .agg #[l, f, p, r] ∧ PgR W l f p r Pg
def DsT (ds : List (Int × Int)) : Value → World → Prop := fun x W => DgR W x ds
def BxT (B : Nat) : Value → World → Prop := fun x W => ∃ b, x = .pointer (some ⟨b, 0, none⟩) ∧ B ≤ b ∧ ∃ y0 y1 y2 y3, At W b 34 #[y0, y1, y2, y3]
theorem psT_on {J : World → Prop} (Pg : Ap.Pg) (ds : List (Int × Int)) : Lasting J RP (PsT Pg ds) := fun x w w' _ hr ⟨l, f, p, r, d, e, h1, h2⟩ => ⟨l, f, p, r, d, e, h1.kept hr.keptAll, TRow.kept h2 (hr.kept (by decide))⟩
theorem paT_on {J : World → Prop} (Pg : Ap.Pg) : Lasting J RP (PaT Pg) := fun x w w' _ hr ⟨l, f, p, r, e, h1⟩ => ⟨l, f, p, r, e, h1.kept hr.keptAll⟩
theorem dsT_on {J : World → Prop} (ds : List (Int × Int)) : Lasting J RP (DsT ds) := fun x w w' _ hr h2 => TRow.kept h2 (hr.kept (by decide))
theorem bxT_on {J : World → Prop} (B : Nat) : Lasting J RP (BxT B) := fun x w w' _ hr ⟨b, e, hb, y0, y1, y2, y3, ha⟩ => ⟨b, e, hb, hr.2.2 b y0 y1 y2 y3 ha⟩
theorem pg_put4 {W0 w' : World} {b : Nat} {y0 y1 y2 y3 : Value} (x0 x1 x2 x3 : Value) (h : At w' b 34 #[y0, y1, y2, y3]) (hl : W0.heap.size ≤ b) (hb : Below W0.heap.size W0 w') :
    At ((((w'.setCell ⟨b, 0, none⟩ x0).setCell ⟨b, 1, none⟩ x1).setCell ⟨b, 2, none⟩ x2).setCell ⟨b, 3, none⟩ x3) b 34 #[x0, x1, x2, x3] ∧
    Below W0.heap.size W0 ((((w'.setCell ⟨b, 0, none⟩ x0).setCell ⟨b, 1, none⟩ x1).setCell ⟨b, 2, none⟩ x2).setCell ⟨b, 3, none⟩ x3) ∧
    RP w' ((((w'.setCell ⟨b, 0, none⟩ x0).setCell ⟨b, 1, none⟩ x1).setCell ⟨b, 2, none⟩ x2).setCell ⟨b, 3, none⟩ x3) := by
  have h4 := (((h.put 0 x0).put 1 x1).put 2 x2).put 3 x3
  simp only [List.setIfInBounds_toArray, List.set_cons_zero, List.set_cons_succ] at h4
  refine ⟨h4, (((hb.setCell (p := ⟨b, 0, none⟩) hl _).setCell (p := ⟨b, 1, none⟩) hl _).setCell (p := ⟨b, 2, none⟩) hl _).setCell (p := ⟨b, 3, none⟩) hl _, ?_, ?_, ?_⟩
  · simp [World.setCell]
  · intro g ob hg hne
    have hgb : g ≠ b := by
      rintro rfl
      unfold At at h
      rw [h] at hg
      injection hg with hg
      exact hne _ hg.symm
    rw [Below.heap_setCell _ ⟨b, 3, none⟩ _ _ hgb, Below.heap_setCell _ ⟨b, 2, none⟩ _ _ hgb, Below.heap_setCell _ ⟨b, 1, none⟩ _ _ hgb, Below.heap_setCell _ ⟨b, 0, none⟩ _ _ hgb]
    exact hg
  · intro b' a0 a1 a2 a3 ha
    by_cases hbb : b' = b
    · subst hbb
      exact ⟨_, _, _, _, h4⟩
    · refine ⟨a0, a1, a2, a3, ?_⟩
      unfold At at ha ⊢
      rw [Below.heap_setCell _ ⟨b, 3, none⟩ _ _ hbb, Below.heap_setCell _ ⟨b, 2, none⟩ _ _ hbb, Below.heap_setCell _ ⟨b, 1, none⟩ _ _ hbb, Below.heap_setCell _ ⟨b, 0, none⟩ _ _ hbb]
      exact ha
end Go.Proofs.YtpcmlkpnjimbiaaDoor
