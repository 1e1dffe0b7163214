/- Helpers for the walk of head. -/
import Derived.Test.YtoficnfpoeaccaaDoorKAtom
import Derived.Test.YtoficnfpoeaccaaDoorKCost3
import Derived.Test.YtoficnfpoeaccaaDoorKRef5
namespace Go.Proofs.YtoficnfpoeaccaaDoor
set_option linter.unusedVariables false
set_option linter.unusedSimpArgs false
open Go.RowKit
theorem flat_get {k : Nat} : ∀ {xs : List (List Value)} (h : ∀ f ∈ xs, f.length = k) {i : Nat} {fs : List Value} {j : Nat} {v : Value}, xs[i]? = some fs → fs[j]? = some v → xs.flatten[i * k + j]? = some v
  | [], _, i, fs, j, v, hi, _ => by simp at hi
  | a :: xs, h, i, fs, j, v, hi, hj => by
    have ha := h a (by simp)
    show (a ++ xs.flatten)[i * k + j]? = _
    cases i with
    | zero =>
      obtain rfl : a = fs := by simpa using hi
      have hjl := (List.getElem?_eq_some_iff.1 hj).1
      rw [List.getElem?_append_left (by omega), Nat.zero_mul, Nat.zero_add]
      exact hj
    | succ i =>
      have e : (i + 1) * k + j = k + (i * k + j) := by rw [Nat.add_mul]; omega
      rw [e, List.getElem?_append_right (by omega), ha, Nat.add_sub_cancel_left]
      exact flat_get (fun f hf => h f (List.mem_cons_of_mem _ hf)) (by simpa using hi) hj
theorem Str.ofAt {w : World} {g k : Nat} {t : TypeId} {xs : List (List Value)} (h : At w g t xs.flatten.toArray) (hk : ∀ f ∈ xs, f.length = k) : Str w (some ⟨g, 0, none⟩) k xs :=
  fun _ => ⟨g, 0, rfl, h.lt, fun i fs hi j v hj => by
    rw [Nat.zero_add]
    exact (h.cell _).trans (by rw [List.getElem?_toArray]; exact flat_get hk hi hj)⟩
theorem NmAt.ofAt {w : World} {g : Nat} {t : TypeId} {l : List ByteArray} (h : At w g t (l.map Value.string).toArray) : NmAt w (some ⟨g, 0, none⟩) l :=
  fun _ => ⟨g, 0, rfl, h.lt, fun i s hi => by
    rw [Nat.zero_add]
    exact (h.cell i).trans (by rw [List.getElem?_toArray, List.getElem?_map, hi]; rfl)⟩
theorem ints_flat : ∀ l : List Int, (l.map fun x => [Value.int .i64 x]).flatten = l.map (Value.int .i64)
  | [] => rfl
  | a :: l => by
    rw [List.map_cons, List.flatten_cons, ints_flat l]
    rfl
theorem ints_ofAt {w : World} {g : Nat} {t : TypeId} {l : List Int} (h : At w g t (l.map (Value.int .i64)).toArray) : Str w (some ⟨g, 0, none⟩) 1 (l.map fun x => [.int .i64 x]) :=
  Str.ofAt (t := t) (by rw [ints_flat]; exact h) (by intro f hf; obtain ⟨x, _, rfl⟩ := List.mem_map.1 hf; rfl)
structure Env (w : World) (SA : Option Addr) (ss : List Sta) : Prop where
  s : Str w SA 2 (ss.map Sta.fs)
  o : ∀ s ∈ ss, StaOk w s
theorem Env.below {w w' : World} {SA : Option Addr} {ss : List Sta} (h : Env w SA ss) (hb : Below w.heap.size w w') : Env w' SA ss := ⟨h.s.below hb, fun s hs => (h.o s hs).below hb⟩
/-- Small enough for the walks. -/
structure Sm (ss : List Sta) (r : Rl) (bd : List ByteArray) (order : List Int) : Prop where
  h8 : ∀ l ∈ r.body, l.args.length ≤ 8
  hb8 : r.body.length ≤ 8
  hs8 : ∀ s ∈ ss, s.dist.length ≤ 8
  hsl : ss.length ≤ 30
  hbd : bd.length ≤ 20
  hol : order.length ≤ 10
  hzb : ∀ s ∈ bd, FitS s
  hzt : ∀ l ∈ r.body, ∀ t ∈ l.args, FitS t.v
theorem est_call {w : World} {SA : Option Addr} {sc : Nat} {ss : List Sta} {r : Rl} {A : Option Addr} {c : Nat} {bd : List ByteArray} {O : Option Addr} {oc : Nat} {order : List Int} (hE : Env w SA ss) (hr : RlOk w r) (hA : NmAt w A bd) (hO : Str w O 1 (order.map fun x => [.int .i64 x])) (hs : Sm ss r bd order) :
    Calls Tryd.prog 16 #[.slice SA ss.length sc, r.v, .slice A bd.length c, .slice O order.length oc] w fun e w' => e = .returned (.int .i64 (Ko.estimate ss r bd order)) ∧ Below w.heap.size w w' :=
  estimate_any SA sc ss r A c bd O oc order w hr hE.s hE.o hA hO hs.h8 hs.hb8 hs.hs8 hs.hsl hs.hbd hs.hol hs.hzb hs.hzt
end Go.Proofs.YtoficnfpoeaccaaDoor
