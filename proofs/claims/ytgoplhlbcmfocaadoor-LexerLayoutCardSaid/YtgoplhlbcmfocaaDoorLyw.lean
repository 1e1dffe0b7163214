/- The walk of LexerLayout. -/
import Derived.Test.YtgoplhlbcmfocaaDoorFew
import Derived.Test.YtgoplhlbcmfocaaDoorPlain6
import Derived.OpenShut
namespace Go.Proofs.YtgoplhlbcmfocaaDoor.lexerLayout
set_option linter.unusedVariables false
set_option linter.unusedSimpArgs false
open Go.RowKit
open lexerFirstError (app_data app_size)
/-- What the walk is told of a slice of integers that came in: it is nil, or it leads to a row of its numbers. -/
def IsRow (k : IntKind) (w : World) (a : Option Addr) (len cap : Nat) (zs : List Int) : Prop :=
  (a = none ∧ len = 0 ∧ cap = 0 ∧ zs = []) ∨
  ∃ x, a = some x ∧ len ≤ cap ∧ cap ≤ maxLen ∧ zs.length = cap ∧ (∀ i, i < zs.length → w.cell? (x.add i) = some (.int k (zs.getD i 0))) ∧ ∀ n ∈ zs, (Lit.int k n).wf = true
/-- .. in the form that a round reads. -/
def Bytes (w : World) (a : Option Addr) (len : Nat) (zs : List Int) : Prop :=
  ∀ i, i < len → ∃ g o, a = some ⟨g, o, none⟩ ∧ g < w.heap.size ∧ w.cell? ⟨g, o + i, none⟩ = some (.int .u8 ((zs.getD i 0).toNat : Int)) ∧ (zs.getD i 0).toNat ≤ 255
theorem bytes_of {w : World} {a : Option Addr} {len cap : Nat} {zs : List Int} (h : IsRow .u8 w a len cap zs) : len ≤ 9223372036854775807 ∧ Bytes w a len zs := by
  rcases h with ⟨rfl, rfl, rfl, rfl⟩ | ⟨x, rfl, hl, hm, hz, hc, hwf⟩
  · exact ⟨by omega, fun i h => by omega⟩
  · refine ⟨by unfold maxLen at hm; omega, fun i hi => ?_⟩
    have h1 := hc i (by omega)
    obtain ⟨g, o, sp⟩ := x
    have hsp : sp = none := by
      have h0 := hc 0 (by omega)
      simpa [Addr.add] using World.cell?_spot h0
    subst hsp
    have hb := bounds_u8 (hwf (zs.getD i 0) (by rw [List.getD_eq_getElem?_getD, List.getElem?_eq_getElem (by omega)]; exact List.getElem_mem _))
    have e : (⟨g, o, none⟩ : Addr).add i = ⟨g, o + i, none⟩ := by unfold Addr.add; split <;> simp_all
    rw [e] at h1
    refine ⟨g, o, rfl, ?_, by rw [h1]; congr 2; omega, by omega⟩
    rcases Nat.lt_or_ge g w.heap.size with hh | hh
    · exact hh
    · simp [World.cell?, Array.getElem?_eq_none hh] at h1
def gapsA : Array Value := (Lx.gapsL.map fun l => Value.string ⟨l.toArray⟩).toArray
theorem gapsA_get (k : Nat) (h : k < 6) : gapsA[k]? = some (.string ⟨(Lx.gapsL.getD k []).toArray⟩) := by
  rcases (by omega : k = 0 ∨ k = 1 ∨ k = 2 ∨ k = 3 ∨ k = 4 ∨ k = 5) with rfl | rfl | rfl | rfl | rfl | rfl <;> rfl
theorem gaps_any (w : World) : Calls Tryd.prog 17 #[] w fun e w' => e = .returned (.slice (some ⟨w.heap.size, 0, none⟩) 6 6) ∧ w.alloc (.cells gapsA 9) = w' := by
  go_enter Tryd.func17, Tryd.ntmps17
  go_wp2
  go_ret
  exact ⟨rfl, rfl⟩
/-- The number of the gap before token i. -/
def num (len : Nat) (zs : List Int) (i : Nat) : Nat := if i < len then (zs.getD i 0).toNat else i
def gp (len : Nat) (zs : List Int) (i : Nat) : List UInt8 := Lx.gapsL.getD (num len zs i % 6) []
theorem gp_closed (len : Nat) (zs : List Int) (i : Nat) : Lx.Closed (gp len zs i) := Lx.gaps_closed _ (Nat.mod_lt _ (by omega))
theorem int_info : (Tryd.prog.info? 3).map (fun i => (i.zero, i.size, i.bytes)) = some (some (.int .i64 0), 1, 8) := by kernel_rfl
def posCells (ts : List Lx.Tok) : List Value := ts.map fun t => Value.int .i64 t.pos
theorem one1 {a : Value} (ha : a.oneCell' = true) : ∀ u ∈ [a], u.oneCell' = true := by
  intro u hu; simp at hu; subst hu; exact ha
/-- One round of the joining. -/
theorem lay_step {len : Nat} {zs : List Int} {ts : List Lx.Tok} {k : Nat} (hk : k < ts.length) {T G X : ByteArray} (hT : T.data.toList = Lx.layT (gp len zs) 0 (ts.take k)) (hG : G.data.toList = gp len zs k) (hX : X.data.toList = ts[k].text) :
    (T ++ G ++ X).data.toList = Lx.layT (gp len zs) 0 (ts.take (k + 1)) ∧ posCells (Lx.rep (gp len zs) 0 0 (ts.take (k + 1))) = posCells (Lx.rep (gp len zs) 0 0 (ts.take k)) ++ [.int .i64 ((T.size : Int) + (G.size : Int))] := by
  have e : ts.take (k + 1) = ts.take k ++ [ts[k]] := List.take_succ_eq_append_getElem hk
  have hl : (ts.take k).length = k := by rw [List.length_take]; omega
  rw [e, Lx.layT_snoc, Lx.rep_snoc, hl]
  refine ⟨by rw [app_data, app_data, hT, hG, hX, Nat.zero_add], ?_⟩
  unfold posCells
  rw [List.map_append]
  congr 1
  simp only [List.map_cons, List.map_nil, Nat.zero_add]
  rw [← size_len T, ← size_len G, hT, hG]; simp
theorem own_read1 {w : World} {B : Nat} {e : TypeId} {n c : Nat} {A : Option Addr} {xs : List Value} (h : w.ownsRow B e 1 (.slice A n c) n xs) (hn : 0 < n) :
    ∃ g, A = some ⟨g, 0, none⟩ ∧ g < w.heap.size ∧ ∀ (j : Nat) (u : Value), xs[j]? = some u → w.cell? ⟨g, j, none⟩ = some u := by
  rcases h.2 with ⟨_, h0⟩ | ⟨g, cap, cur, hv, hg, hh, h1, h2, h3, h4⟩
  · omega
  · simp only [Value.slice.injEq, true_and] at hv
    obtain ⟨rfl, rfl⟩ := hv
    refine ⟨g, rfl, (Array.getElem?_eq_some_iff.1 hh).1, fun j u hu => ?_⟩
    rw [cell_of_row w g j cur e (0, 0) hh]
    rw [← h4, List.getElem?_take] at hu
    split at hu
    · simpa using hu
    · cases hu
end Go.Proofs.YtgoplhlbcmfocaaDoor.lexerLayout
