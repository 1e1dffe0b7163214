/- Rows of the call's own that grow beside one another; loops of the parser. -/
import Derived.Test.YtpcmlkpnjimbiaaDoorPEl0
import Derived.Test.YtpcmlkpnjimbiaaDoorInv8
namespace Go.Proofs.YtpcmlkpnjimbiaaDoor
set_option linter.unusedVariables false
set_option linter.unusedSimpArgs false
open Go.RowKit
/-- append to a row of the call's own, or to nil: the old row stays readable, and the new one lies in its block or in a new one. -/
theorem wp_append_where {P : Program} {w : World} {o : Oper} {a : Act} {K : Act → World → Prop} {Q : Exit → Act → World → Prop} (s x : Operand) (t : TypeId)
  (ho : o.op = .call { callee := .builtin .append, args := #[s, x], argTypes := #[t, t] })
  (base : Nat) (e : TypeId) (i : TypeInfo) (z : Value) (size bytes : Nat) (ht : P.underlying t = some (.slice e)) (hi : P.info? e = some i) (hz : i.zero = some z)
  (hsize : i.size = size) (hby : i.bytes = bytes) (hzs : z.cells.size = size) (hsz : 0 < size)
  (v : Value) (n : Nat) (xs : List Value) (hs : a.eval s = v) (hown : w.ownsRow base e size v n xs)
  (ad : Addr) (m c : Nat) (news : List Value) (hx : a.eval x = .slice (some ad) m c) (hl : news.length = m * size) (hnews : ∀ j u, news[j]? = some u → w.cell? (ad.add j) = some u) (h1 : ∀ u ∈ news, u.oneCell' = true)
  (h63 : n + m ≤ maxLen) (hbytes : (n + m) * bytes ≤ 140737488355328) (hbase : base ≤ w.heap.size)
  (h : ∀ v' w', w'.ownsRow base e size v' (n + m) (xs ++ news) → w'.ownsRow base e size v n xs → w.grownBy w' v.ownBlock → (∀ q, v'.ownBlock = some q → v.ownBlock = some q ∨ w.heap.size ≤ q) → K (a.put o.dst v') w') : o.wp P a w K Q := by
 rcases hown.2 with ⟨rfl, rfl⟩ | ⟨g, cap, cur, rfl, hB, hh, r⟩
 ·have hx0 : xs = [] := List.eq_nil_of_length_eq_zero (by simpa using hown.1)
  subst hx0
  exact wp_append_own w s x t ho w.heap.size e i z size bytes ht hi hz hsize hby hzs hsz _ 0 [] hs (World.ownsRow_nil _ _ _ _) ad m c news hx hl hnews h1 h63 hbytes (Nat.le_refl _) fun v' w' h2 h3 _ => h v' w' (own_mono h2 hbase) (World.ownsRow_nil _ _ _ _) h3 (fun q hq => Or.inr (own_lt h2 hq).1)
 ·refine wp_append_two (P := P) (Q := Q) s x t ho base e i z size bytes ht hi hz hsize hby hzs g n cap xs hs hown ad m c news hx hl hnews h1 h63 hbytes hbase fun g' cap' w' h2 h3 => ?_
  rcases h3 with ⟨rfl, rfl, h3⟩ | ⟨rfl, h3⟩
  ·exact h _ w' h2 (own_shorter h2 hown.1) h3 (fun q hq => Or.inl hq)
  ·refine h _ w' h2 (own_grown hown h3 (fun b _ e => by cases e)) ⟨h3.os, h3.tape, h3.output, h3.size, fun k hk _ => h3.block k hk (by simp)⟩ (fun q hq => Or.inr (by simp [Value.ownBlock] at hq; omega))
/-- Two slices do not lie in one block. -/
def Apart (v v' : Value) : Prop := ∀ q, v.ownBlock = some q → v'.ownBlock ≠ some q
theorem Apart.symm {v v' : Value} (h : Apart v v') : Apart v' v := fun q h1 h2 => h q h2 h1
theorem Apart.nil (v : Value) (n c : Nat) : Apart (.slice none n c) v := fun q h => by simp [Value.ownBlock] at h
theorem Apart.grown {w : World} {v v' u : Value} {B n size : Nat} {e : TypeId} {xs : List Value} {S : Nat} (h : Apart v u) (ho : w.ownsRow B e size u n xs) (hS : w.heap.size ≤ S) (hw : ∀ q, v'.ownBlock = some q → v.ownBlock = some q ∨ S ≤ q) : Apart v' u := fun q h1 h2 => by
 rcases hw q h1 with h3 | h3
 ·exact h q h3 h2
 ·have := (own_lt ho h2).2
  omega
theorem own_besides {w w' : World} {v u : Value} {B n size : Nat} {e : TypeId} {xs : List Value} (ho : w.ownsRow B e size u n xs) (hg : w.grownBy w' v.ownBlock) (h : Apart v u) : w'.ownsRow B e size u n xs :=
 own_grown ho hg (fun b hb hv => h b hv hb)
theorem kts_len (ts : List Lx.Tok) : (Px.kts ts).length = ts.length := by unfold Px.kts; rw [List.length_map]
namespace Px
theorem word_next {ts : List Kt} {k i j : Nat} {s : List UInt8} (h : word k ts i = .ok s j) : j = i + 1 := by
 unfold word at h
 split at h
 ·injection h with _ h; omega
 ·cases h
theorem need_next {t : List UInt8} {ts : List Kt} {i j : Nat} {u : Unit} (h : need t ts i = .ok u j) : j = i + 1 := by
 unfold need at h
 split at h
 ·injection h with _ h; omega
 ·cases h
theorem bind_at {α β : Type} {p p' : P α} {f : α → P β} {ts : List Kt} {i : Nat} (h : p ts i = p' ts i) : bind p f ts i = bind p' f ts i := by unfold bind; rw [h]
end Px
end Go.Proofs.YtpcmlkpnjimbiaaDoor
