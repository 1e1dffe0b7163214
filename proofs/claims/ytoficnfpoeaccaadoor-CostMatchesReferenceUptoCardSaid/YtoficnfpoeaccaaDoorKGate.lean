/- What the laws on estimates share: an input in memory, the three tests, the plain laws. -/
import Derived.Test.YtoficnfpoeaccaaDoorKHead
import Derived.Test.YtoficnfpoeaccaaDoorKRef7
import Derived.Test.YtoficnfpoeaccaaDoorKRef8
import Derived.Test.YtoficnfpoeaccaaDoorKMono
namespace Go.Proofs.YtoficnfpoeaccaaDoor
set_option linter.unusedVariables false
set_option linter.unusedSimpArgs false
open Go.RowKit
theorem NmAt.news {w : World} {A : Option Addr} {l : List ByteArray} (h : NmAt w A l) : ∀ ad, A = some ad → ∀ (j : Nat) (u : Value), (ncs l)[j]? = some u → w.cell? (ad.add j) = some u := by
  intro ad had j u hu
  rw [List.getElem?_map] at hu
  cases hx : l[j]? with
  | none => rw [hx] at hu; cases hu
  | some x =>
    rw [hx] at hu
    obtain rfl : Value.string x = u := Option.some.inj hu
    obtain ⟨g, o, e, hg, hc⟩ := h.at hx
    rw [had] at e
    obtain rfl := Option.some.inj e
    rw [add_offs]
    exact hc
theorem NmAt.none {w : World} {A : Option Addr} {l : List ByteArray} {c : Nat} (h : NmAt w A l) (hn : A = none → c = 0) : A = none → l.length = 0 ∧ c = 0 := by
  intro hz
  refine ⟨?_, hn hz⟩
  by_cases e : l = []
  · rw [e]; rfl
  · obtain ⟨g, o, e2, _⟩ := h e
    rw [hz] at e2
    cases e2
/-- Whether all is few. -/
def fewB (ss : List Sta) (r : Rl) (bn on : Nat) : Bool := decide (ss.length ≤ 30 ∧ r.body.length ≤ 8 ∧ r.args.n ≤ 8 ∧ bn ≤ 20 ∧ on ≤ 10) && ((r.body.all fun l => decide (l.args.length ≤ 8)) && ss.all fun s => decide (s.dist.length ≤ 8))
theorem few_call (SA : Option Addr) (sc : Nat) (ss : List Sta) (r : Rl) (ba : Option Addr) (bn bc : Nat) (oa : Option Addr) (on oc : Nat) (w : World) (hS : Str w SA 2 (ss.map Sta.fs)) (hB : Str w r.ba 9 (r.body.map Lt.fs)) :
    Calls Tryd.prog 12 #[.slice SA ss.length sc, r.v, .slice ba bn bc, .slice oa on oc] w fun e w' => e = .returned (.bool (fewB ss r bn on)) ∧ Below w.heap.size w w' := by
  by_cases h : ss.length ≤ 30 ∧ r.body.length ≤ 8 ∧ r.args.n ≤ 8 ∧ bn ≤ 20 ∧ on ≤ 10
  · unfold fewB
    rw [decide_eq_true h, Bool.true_and]
    exact few_any SA sc ss r ba bn bc oa on oc w h.1 h.2.1 h.2.2.1 h.2.2.2.1 h.2.2.2.2 hS hB
  · unfold fewB
    rw [decide_eq_false h, Bool.false_and]
    exact few_big SA sc ss r ba bn bc oa on oc w h
/-- An input in the memory. -/
structure Ar (w : World) (SA : Option Addr) (ss : List Sta) (r : Rl) (A : Option Addr) (c : Nat) (bd : List ByteArray) (O : Option Addr) (order : List Int) : Prop where
  env : Env w SA ss
  rl : RlOk w r
  nm : NmAt w A bd
  nil : A = none → c = 0
  od : Str w O 1 (order.map fun x => [.int .i64 x])
  zb : ∀ s ∈ bd, FitS s
  zt : ∀ l ∈ r.body, ∀ t ∈ l.args, FitS t.v
theorem Ar.below {w w' : World} {SA : Option Addr} {ss : List Sta} {r : Rl} {A : Option Addr} {c : Nat} {bd : List ByteArray} {O : Option Addr} {order : List Int} (h : Ar w SA ss r A c bd O order) (hb : Below w.heap.size w w') : Ar w' SA ss r A c bd O order :=
  ⟨h.env.below hb, h.rl.below hb, h.nm.below hb, h.nil, h.od.below hb, h.zb, h.zt⟩
theorem sm_of {ss : List Sta} {r : Rl} {bd : List ByteArray} {order : List Int} (h : fewB ss r bd.length order.length = true) (hz : ∀ s ∈ bd, FitS s) (ht : ∀ l ∈ r.body, ∀ t ∈ l.args, FitS t.v) : Sm ss r bd order := by
  unfold fewB at h
  simp only [Bool.and_eq_true, decide_eq_true_eq, List.all_eq_true] at h
  obtain ⟨⟨h1, h2, h3, h4, h5⟩, h6, h7⟩ := h
  exact ⟨h6, h2, h7, h1, h4, h5, hz, ht⟩
theorem few_less {ss : List Sta} {r : Rl} {m n on : Nat} (h : fewB ss r n on = true) (hm : m ≤ n) : fewB ss r m on = true := by
  unfold fewB at h ⊢
  simp only [Bool.and_eq_true, decide_eq_true_eq] at h ⊢
  exact ⟨⟨h.1.1, h.1.2.1, h.1.2.2.1, by omega, h.1.2.2.2.2⟩, h.2⟩
section
variable {w : World} {SA : Option Addr} {sc : Nat} {ss : List Sta} {r : Rl} {A : Option Addr} {c : Nat} {bd : List ByteArray} {O : Option Addr} {oc : Nat} {order : List Int}
theorem Ar.few (h : Ar w SA ss r A c bd O order) (ba : Option Addr) (bn bc : Nat) : Calls Tryd.prog 12 #[.slice SA ss.length sc, r.v, .slice ba bn bc, .slice O order.length oc] w fun e w' => e = .returned (.bool (fewB ss r bn order.length)) ∧ Below w.heap.size w w' :=
  few_call SA sc ss r ba bn bc O order.length oc w h.env.s h.rl.body
theorem Ar.fits (h : Ar w SA ss r A c bd O order) {m : Nat} (hf : fewB ss r m order.length = true) : Calls Tryd.prog 18 #[.slice SA ss.length sc, r.v] w fun e w' => e = .returned (.bool (Ko.fits ss r.body)) ∧ Below w.heap.size w w' := by
  have hs := sm_of (bd := []) (order := order) (few_less hf (Nat.zero_le _)) (fun s h => by cases h) h.zt
  exact fits16_any SA sc ss r w h.rl h.env.s h.env.o hs.h8 hs.hb8 hs.hs8 hs.hsl
theorem Ar.eval (h : Ar w SA ss r A c bd O order) (hf : fewB ss r bd.length order.length = true) : Calls Tryd.prog 19 #[r.v, .slice A bd.length c, .slice O order.length oc] w fun e w' => e = .returned (.bool (Ko.evaluable r.body bd order)) ∧ Below w.heap.size w w' := by
  have hs := sm_of hf h.zb h.zt
  exact evaluable08_any r A c bd O oc order w h.rl h.nm h.nil h.od hs.h8 hs.hb8 hs.hbd
theorem Ar.est (h : Ar w SA ss r A c bd O order) (hf : fewB ss r bd.length order.length = true) : Calls Tryd.prog 16 #[.slice SA ss.length sc, r.v, .slice A bd.length c, .slice O order.length oc] w fun e w' => e = .returned (.int .i64 (Ko.estimate ss r bd order)) ∧ Below w.heap.size w w' :=
  est_call h.env h.rl h.nm h.od (sm_of hf h.zb h.zt)
end
/-- The cost where all can be evaluated. -/
def costN (ss : List Sta) (r : Rl) (bd : List ByteArray) (order : List Int) : Nat := Ko.est ss r.body order (fun x => bd.contains x) ⟨1, 0⟩
theorem est_ok {ss : List Sta} {r : Rl} {bd : List ByteArray} {order : List Int} (hf : Ko.fits ss r.body = true) (he : Ko.evaluable r.body bd order = true) : Ko.estimate ss r bd order = (costN ss r bd order : Nat) := by
  unfold Ko.estimate costN
  rw [hf, he]; rfl
theorem cost_le (ss : List Sta) (r : Rl) (bd : List ByteArray) (order : List Int) : costN ss r bd order ≤ 1000000000 := Ko.est_cap order (Nat.zero_le _)
theorem sub_more (bd more : List ByteArray) : Ko.Sub (fun x => bd.contains x) (fun x => (bd ++ more).contains x) := fun x h => by
  have h1 : (bd ++ more).contains x = (bd.contains x || more.contains x) := by simp [List.contains_eq_any_beq]
  show (bd ++ more).contains x = true
  rw [h1, show bd.contains x = true from h]
  rfl
theorem eval_more {r : Rl} {bd more : List ByteArray} {order : List Int} (he : Ko.evaluable r.body bd order = true) : Ko.evaluable r.body (bd ++ more) order = true := by
  unfold Ko.evaluable at he ⊢
  rw [Bool.and_eq_true] at he ⊢
  exact ⟨he.1, Ko.runs_sub _ _ (sub_more bd more) he.2⟩
theorem cost_more (ss : List Sta) (r : Rl) (bd more : List ByteArray) (order : List Int) : costN ss r (bd ++ more) order ≤ costN ss r bd order :=
  Ko.est_mono (fun i => ⟨Int.le_refl _, fun j => Nat.le_refl _⟩) r.body order (sub_more bd more) ⟨Nat.le_refl _, Nat.le_refl _⟩
end Go.Proofs.YtoficnfpoeaccaaDoor
