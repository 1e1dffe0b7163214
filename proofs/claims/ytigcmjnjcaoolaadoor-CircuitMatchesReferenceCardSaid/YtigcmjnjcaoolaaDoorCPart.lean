/- Plain laws of a walk through a circuit that keeps a stack; no program in sight. -/
import Derived.Test.YtigcmjnjcaoolaaDoorCPlain
namespace Go.Proofs.YtigcmjnjcaoolaaDoor
set_option linter.unusedVariables false
set_option linter.unusedSimpArgs false
namespace Cx
/-- A walk whose last node k has had the first j of its operands looked at. -/
structure Part (l : List N) (n : Nat) (done open_ : List Nat) (k : Nat) (ks : List Nat) (j : Nat) : Prop where
  nd : (done ++ open_).Nodup
  here : n ∈ done ++ open_
  sound : ∀ i ∈ done ++ open_, Reach l n i
  closed : ∀ i v, i ∈ done → i ≠ k → l[i]? = some v → (v.o = 3 ∨ v.o = 4) → v.a.toNat ∈ done ++ open_ ∧ v.b.toNat ∈ done ++ open_
  kids : ∀ i x, i < j → ks[i]? = some x → x ∈ done ++ open_
theorem Seen.pop {l : List N} {n k : Nat} {done open_ : List Nat} (h : Seen l n done (open_ ++ [k])) (ks : List Nat) : Part l n (done ++ [k]) open_ k ks 0 := by
  have hp : (done ++ (open_ ++ [k])).Perm (done ++ [k] ++ open_) := by
    rw [List.append_assoc]
    exact List.Perm.append_left _ List.perm_append_comm
  refine ⟨hp.nodup_iff.1 h.nd, hp.mem_iff.1 h.here, fun i hi => h.sound i (hp.mem_iff.2 hi), fun i v hi hne hv h2 => ?_, fun i x hi => absurd hi (by omega)⟩
  have hi' : i ∈ done := by
    rcases List.mem_append.1 hi with h | h
    · exact h
    · simp at h; exact absurd h hne
  have := h.closed i v hi' hv h2
  exact ⟨hp.mem_iff.1 this.1, hp.mem_iff.1 this.2⟩
theorem Part.leaf {l : List N} {n k : Nat} {done open_ ks : List Nat} {j : Nat} {v : N} (h : Part l n done open_ k ks j) (hv : l[k]? = some v) (h2 : ¬ (v.o = 3 ∨ v.o = 4)) : Seen l n done open_ := by
  refine ⟨h.nd, h.here, h.sound, fun i v' hi hv' h2' => ?_⟩
  by_cases e : i = k
  · subst e; rw [hv] at hv'; obtain rfl := Option.some.inj hv'; exact absurd h2' h2
  · exact h.closed i v' hi e hv' h2'
theorem Part.full {l : List N} {n k a b : Nat} {done open_ : List Nat} {v : N} (h : Part l n done open_ k [a, b] 2) (hv : l[k]? = some v) (ha : v.a = a) (hb : v.b = b) : Seen l n done open_ := by
  refine ⟨h.nd, h.here, h.sound, fun i v' hi hv' h2' => ?_⟩
  by_cases e : i = k
  · subst e
    rw [hv] at hv'; obtain rfl := Option.some.inj hv'
    rw [ha, hb, Int.toNat_natCast, Int.toNat_natCast]
    exact ⟨h.kids 0 a (by omega) rfl, h.kids 1 b (by omega) rfl⟩
  · exact h.closed i v' hi e hv' h2'
theorem Part.have_ {l : List N} {n k x : Nat} {done open_ ks : List Nat} {j : Nat} (h : Part l n done open_ k ks j) (hx : ks[j]? = some x) (hm : x ∈ done ++ open_) : Part l n done open_ k ks (j + 1) :=
  ⟨h.nd, h.here, h.sound, h.closed, fun i y hi hy => by
    by_cases e : i = j
    · subst e; rw [hx] at hy; obtain rfl := Option.some.inj hy; exact hm
    · exact h.kids i y (by omega) hy⟩
theorem Part.push {l : List N} {n k x : Nat} {done open_ ks : List Nat} {j : Nat} (h : Part l n done open_ k ks j) (hx : ks[j]? = some x) (hm : x ∉ done ++ open_) (hr : Reach l n x) : Part l n done (open_ ++ [x]) k ks (j + 1) := by
  have e : done ++ (open_ ++ [x]) = done ++ open_ ++ [x] := (List.append_assoc _ _ _).symm
  refine ⟨?_, ?_, fun i hi => ?_, fun i v hi hne hv h2 => ?_, fun i y hi hy => ?_⟩
  · rw [e, List.nodup_append]
    exact ⟨h.nd, by simp, fun a ha b hb heq => by simp at hb; subst hb; subst heq; exact hm ha⟩
  · rw [e]; exact List.mem_append_left _ h.here
  · rw [e] at hi
    rcases List.mem_append.1 hi with hi | hi
    · exact h.sound i hi
    · simp at hi; subst hi; exact hr
  · rw [e]
    have := h.closed i v hi hne hv h2
    exact ⟨List.mem_append_left _ this.1, List.mem_append_left _ this.2⟩
  · rw [e]
    by_cases e' : i = j
    · subst e'; rw [hx] at hy; obtain rfl := Option.some.inj hy; simp
    · exact List.mem_append_left _ (h.kids i y (by omega) hy)
/-- A list of different nodes is not longer than the circuit. -/
theorem nodup_le {L : List Nat} {m : Nat} (h : L.Nodup) (hb : ∀ i ∈ L, i < m) : L.length ≤ m := by
  induction m generalizing L with
  | zero =>
    cases L with
    | nil => simp
    | cons a r => have := hb a (by simp); omega
  | succ m ih =>
    have h1 := ih (h.erase m) (fun i hi => by
      have hm := List.mem_of_mem_erase hi
      have := hb i hm
      have hne : i ≠ m := fun e => by subst e; exact (h.not_mem_erase) hi
      omega)
    have h2 := List.length_erase (a := m) (l := L)
    split at h2 <;> omega
theorem filterMap_snoc {α β : Type} (f : α → Option β) (l : List α) (x : α) : (l ++ [x]).filterMap f = l.filterMap f ++ (f x).toList := by
  rw [List.filterMap_append]
  cases h : f x <;> simp [h]
end Cx
/-- A set of numbers as a function on the machine's numbers. -/
def Marks (S : List Nat) (f : Int → Option Bool) : Prop := ∀ y : Nat, (f y).getD false = S.contains y
theorem Marks.more {S : List Nat} {f : Int → Option Bool} (h : Marks S f) (x : Nat) : Marks (S ++ [x]) (fun y => if y = (x : Int) then some true else f y) := by
  intro y
  show (if (y : Int) = (x : Int) then some true else f y).getD false = _
  by_cases e : y = x
  · subst e; simp
  · rw [if_neg (by omega), h y]; simp [e]
theorem Marks.perm {S T : List Nat} {f : Int → Option Bool} (h : Marks S f) (hp : S.Perm T) : Marks T f := by
  intro y
  rw [h y, Bool.eq_iff_iff]
  simp [hp.mem_iff]
end Go.Proofs.YtigcmjnjcaoolaaDoor
