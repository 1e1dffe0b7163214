/- Small lemmas on worlds, strings and lists; no program in sight. -/
import Derived.WalkKit
import Derived.Laws.Rows
import Derived.Lib.Strings
import Derived.Lib.Hide
import Derived.Deep.QuietTactic
import Derived.BigQuiet
import Derived.Deep.Draws
import Derived.Laws.AppendOwnNone
import Derived.Deep.AppendLies
import Derived.SizedLaws
import Derived.Calls
import Derived.Orders
import Derived.Below
import Derived.Maps.OwnSet
import Derived.DeepKeys4
import Derived.Laws.MakeOwn
namespace Go.Proofs.YtphmicbpkljmfaaGreat
set_option linter.unusedVariables false
set_option linter.unusedSimpArgs false
open Go.RowKit
/-- Block g is just these cells, none of them frozen. -/
def At (w : World) (g : Nat) (t : TypeId) (cs : Array Value) : Prop := w.heap[g]? = some (.cells cs t (0, 0))
theorem At.cell {w : World} {g : Nat} {t : TypeId} {cs : Array Value} (h : At w g t cs) (i : Nat) : w.cell? ⟨g, i, none⟩ = cs[i]? := cell_of_row w g i cs t (0, 0) h
theorem At.frozen {w : World} {g : Nat} {t : TypeId} {cs : Array Value} (h : At w g t cs) (i : Nat) : w.frozen? ⟨g, i, none⟩ = false := by
  unfold At at h; simp [World.frozen?, h]
theorem At.lt {w : World} {g : Nat} {t : TypeId} {cs : Array Value} (h : At w g t cs) : g < w.heap.size := by
  unfold At at h; exact (Array.getElem?_eq_some_iff.1 h).1
theorem At.new (w : World) (t : TypeId) (cs : Array Value) : At (w.alloc (.cells cs t)) w.heap.size t cs := heap_alloc_new w _
theorem At.alloc {w : World} {g : Nat} {t : TypeId} {cs : Array Value} (h : At w g t cs) (o : Obj) : At (w.alloc o) g t cs := (Below.heap_alloc w o g h.lt).trans h
theorem At.below {w w' : World} {g B : Nat} {t : TypeId} {cs : Array Value} (h : At w g t cs) (hb : Below B w w') (hg : g < B) : At w' g t cs := (hb.block g hg).trans h
theorem At.drew {w : World} {g : Nat} {t : TypeId} {cs : Array Value} (h : At w g t cs) : At w.drew g t cs := h
theorem At.put {w : World} {g : Nat} {t : TypeId} {cs : Array Value} (h : At w g t cs) (i : Nat) (u : Value) : At (w.setCell ⟨g, i, none⟩ u) g t (cs.setIfInBounds i u) := by
  unfold At at h ⊢; simp [World.setCell, Array.getElem?_modify, h]
theorem At.far {w : World} {g : Nat} {t : TypeId} {cs : Array Value} (h : At w g t cs) {p : Addr} (hp : g ≠ p.block) (u : Value) : At (w.setCell p u) g t cs := (Below.heap_setCell w p u g hp).trans h
theorem At.grown {w w' : World} {g : Nat} {t : TypeId} {cs : Array Value} {row : Option Nat} (h : At w g t cs) (hb : w.grownBy w' row) (hg : some g ≠ row) : At w' g t cs := (hb.block g h.lt hg).trans h
theorem At.ne {w : World} {g g' : Nat} {t t' : TypeId} {cs cs' : Array Value} (h : At w g t cs) (h' : At w g' t' cs') (hne : t ≠ t') : g ≠ g' := by
  rintro rfl
  unfold At at h h'
  rw [h] at h'
  simp at h'
  exact hne h'.2
theorem str_empty {t : ByteArray} (h : t.data.toList = []) : t = ⟨#[]⟩ := by
  apply ByteArray.ext; apply Array.toList_inj.1; rw [h]
theorem str_mk (t : ByteArray) : (⟨t.data.toList.toArray⟩ : ByteArray) = t := Lib.mk_data t
theorem byte_get (s : ByteArray) (k : Nat) (h : k < s.size) : s.data.toList[k]? = some s[k] := by
  rw [List.getElem?_eq_getElem (by simpa using h)]; rfl
theorem drop_cons (s : ByteArray) (k : Nat) (h : k < s.size) : s.data.toList.drop k = s[k] :: s.data.toList.drop (k + 1) := by
  rw [List.drop_eq_getElem_cons (by simpa using h)]; rfl
theorem size_len (s : ByteArray) : s.data.toList.length = s.size := by rw [Array.length_toList]; rfl
theorem u8_eq (c d : UInt8) : (c == d) = (((c.toNat : Nat) : Int) == ((d.toNat : Nat) : Int)) := by
  rw [Bool.eq_iff_iff, beq_iff_eq, beq_iff_eq, ← UInt8.toNat_inj]; omega
theorem ext_drop (s : ByteArray) (k : Nat) : (s.extract k s.size).data.toList = s.data.toList.drop k := by
  rw [Lib.extract_data, List.take_of_length_le (by rw [List.length_drop, size_len]; omega)]
theorem ext_take (s : ByteArray) (n : Nat) : (s.extract 0 n).data.toList = s.data.toList.take n := by rw [Lib.extract_data]; simp
theorem At.newAt {w : World} {g : Nat} (hg : w.heap.size = g) (t : TypeId) (cs : Array Value) : At (w.alloc (.cells cs t)) g t cs := by subst hg; exact At.new w t cs
theorem add_off (g j : Nat) : ((⟨g, 0, none⟩ : Addr).add j) = ⟨g, j, none⟩ := by
  unfold Addr.add; split
  · rename_i h; subst h; rfl
  · simp
theorem At.news {w : World} {g : Nat} {t : TypeId} {xs : List Value} (h : At w g t xs.toArray) : ∀ (j : Nat) (u : Value), xs[j]? = some u → w.cell? ((⟨g, 0, none⟩ : Addr).add j) = some u := by
  intro j u hu
  rw [add_off, h.cell, List.getElem?_toArray, hu]
theorem one3 {a b c : Value} (ha : a.oneCell' = true) (hb : b.oneCell' = true) (hc : c.oneCell' = true) : ∀ u ∈ [a, b, c], u.oneCell' = true := by
  intro u hu; simp at hu; rcases hu with rfl | rfl | rfl <;> assumption
theorem own_below {w w' : World} {B : Nat} {e : TypeId} {size n : Nat} {v : Value} {xs : List Value} (h : w.ownsRow B e size v n xs) (hb : Below w.heap.size w w') : w'.ownsRow B e size v n xs := by
  obtain ⟨h1, h2⟩ := h
  refine ⟨h1, ?_⟩
  rcases h2 with h2 | ⟨g, cap, cur, hv, hg, hh, r⟩
  · exact Or.inl h2
  · exact Or.inr ⟨g, cap, cur, hv, hg, (hb.block g (Array.getElem?_eq_some_iff.1 hh).1).trans hh, r⟩
theorem own_lt {w : World} {B : Nat} {e : TypeId} {size n : Nat} {v : Value} {xs : List Value} (h : w.ownsRow B e size v n xs) {g : Nat} (hg : v.ownBlock = some g) : B ≤ g ∧ g < w.heap.size := by
  rcases h.2 with ⟨rfl, _⟩ | ⟨g', cap, cur, rfl, hB, hh, _⟩
  · simp [Value.ownBlock] at hg
  · have : g' = g := by simpa [Value.ownBlock] using hg
    subst this
    exact ⟨hB, (Array.getElem?_eq_some_iff.1 hh).1⟩
theorem own_len {w : World} {B : Nat} {e : TypeId} {size n : Nat} {v : Value} {xs : List Value} (h : w.ownsRow B e size v n xs) : ∃ a c, v = .slice a n c := by
  rcases h.2 with ⟨rfl, rfl⟩ | ⟨g', cap, cur, rfl, _⟩
  · exact ⟨_, _, rfl⟩
  · exact ⟨_, _, rfl⟩
theorem own_mono {w : World} {B B' : Nat} {e : TypeId} {size n : Nat} {v : Value} {xs : List Value} (h : w.ownsRow B e size v n xs) (hB : B' ≤ B) : w.ownsRow B' e size v n xs := by
  obtain ⟨h1, h2⟩ := h
  refine ⟨h1, ?_⟩
  rcases h2 with h2 | ⟨g, cap, cur, hv, hg, r⟩
  · exact Or.inl h2
  · exact Or.inr ⟨g, cap, cur, hv, by omega, r⟩
end Go.Proofs.YtphmicbpkljmfaaGreat
namespace Go.Proofs.YtphmicbpkljmfaaGreat
set_option linter.unusedVariables false
set_option linter.unusedSimpArgs false
open Go.RowKit
/-- A world that is as W below block B. -/
structure Held (B : Nat) (W : World) where
  w : World
  ok : Below B W w
instance heldNonempty (B : Nat) (W : World) : Nonempty (Held B W) := ⟨⟨W, Below.refl B W⟩⟩
theorem wp_region_held {P : Program} {id : Nat} {Q : Exit → Act → World → Prop} {a : Act} {w : World} {l : List Oper} (B : Nat) (W : World) (hb : Below B W w) (hm : P.follows .mixedOrders = true) (hB : Region.lexB .any l.toArray = true)
    (h : wpQuiet P l.toArray (fun w' => ∃ x : Held B W, w' = x.w) (fun a' => ∀ w', (∃ x : Held B W, w' = x.w) → Q .normal a' w') l a) : (Code.region id l.toArray true).wp P Q a w :=
  wp_region_quiet (C := fun w' => ∃ x : Held B W, w' = x.w) hm hB ⟨⟨_, hb.drew⟩, rfl⟩ (by simpa using h)
theorem held_call {P : Program} {f : FuncId} {args : Array Value} {v : Value} {B : Nat} {W : World} (x : Held B W) (hB : B ≤ W.heap.size) (h : Calls P f args x.w fun e w' => e = .returned v ∧ Below x.w.heap.size x.w w') :
    Calls P f args x.w fun e w'' => e = .returned v ∧ ∃ y : Held B W, w'' = y.w :=
  h.mono fun _ w' ⟨he, hb⟩ => ⟨he, ⟨w', x.ok.trans (hb.mono (Nat.le_trans hB x.ok.size))⟩, rfl⟩
theorem held_same {P : Program} {f : FuncId} {args : Array Value} {v : Value} {B : Nat} {W : World} (x : Held B W) (h : Calls P f args x.w fun e w' => e = .returned v ∧ x.w = w') :
    Calls P f args x.w fun e w'' => e = .returned v ∧ ∃ y : Held B W, w'' = y.w :=
  h.mono fun _ w' ⟨he, hb⟩ => ⟨he, x, hb.symm⟩
theorem Held.cell {B : Nat} {W : World} {p : Addr} {v : Value} (x : Held B W) (hp : p.block < B) (h : W.cell? p = some v) : x.w.cell? p = some v := (x.ok.cell hp).trans h
theorem below_drewN {B : Nat} {a w : World} (h : Below B a w) (n : Nat) : Below B a (w.drewN n) := ⟨h.os, h.tape, h.output, h.size, h.block⟩
end Go.Proofs.YtphmicbpkljmfaaGreat
namespace Go.Proofs.YtphmicbpkljmfaaGreat
set_option linter.unusedVariables false
set_option linter.unusedSimpArgs false
open Go.RowKit
theorem below1 (w : World) (o : Obj) : Below w.heap.size w (w.alloc o) := (Below.refl _ w).alloc (Nat.le_refl _) _
/-- append to a slice of the call's own, from any slice that holds known cells. -/
theorem wpList_append_from {P : Program} {w : World} {ops : Array Oper} {rest : List Oper} {o : Oper} {a : Act} {Q : Exit → Act → World → Prop} (hgd : o.guard = none) (s x : Operand) (t : TypeId)
    (ho : o.op = .call { callee := .builtin .append, args := #[s, x], argTypes := #[t, t] })
    (base : Nat) (e : TypeId) (i : TypeInfo) (z : Value) (size bytes : Nat) (ht : P.underlying t = some (.slice e)) (hi : P.info? e = some i) (hz : i.zero = some z)
    (hsize : i.size = size) (hby : i.bytes = bytes) (hzs : z.cells.size = size) (hsz : 0 < size)
    (v : Value) (n : Nat) (xs : List Value) (hs : a.eval s = v) (hown : w.ownsRow base e size v n xs)
    (A : Option Addr) (m c : Nat) (news : List Value) (hx : a.eval x = .slice A m c) (hl : news.length = m * size) (hnone : A = none → m = 0 ∧ c = 0) (hnews : ∀ ad, A = some ad → ∀ j u, news[j]? = some u → w.cell? (ad.add j) = some u) (h1 : ∀ u ∈ news, u.oneCell' = true)
    (h63 : n + m ≤ maxLen) (hbytes : (n + m) * bytes ≤ 140737488355328) (hbase : base ≤ w.heap.size)
    (h : ∀ v' w', w'.ownsRow base e size v' (n + m) (xs ++ news) → w.grownBy w' v.ownBlock → wpList P ops Q rest (a.put o.dst v') w') : wpList P ops Q (o :: rest) a w := by
  cases A with
  | some ad => exact wpList_append_own w hgd s x t ho base e i z size bytes ht hi hz hsize hby hzs hsz v n xs hs hown ad m c news hx hl (hnews ad rfl) h1 h63 hbytes hbase fun v' w' h2 h3 _ => h v' w' h2 h3
  | none =>
    obtain ⟨rfl, rfl⟩ := hnone rfl
    have hn : news = [] := List.eq_nil_of_length_eq_zero (by simpa using hl)
    subst hn
    refine wpList_append_own_none hgd s x t ho base e i size ht hi v n xs hs hown hx ?_
    refine h v w (by simpa using hown) ?_
    exact ⟨rfl, rfl, rfl, Nat.le_refl _, fun k hk _ => rfl⟩
theorem own_empty (w : World) (t : TypeId) (size : Nat) (B : Nat) (hB : B ≤ w.heap.size) : (w.alloc (.cells #[] t)).ownsRow B t size (.slice (some ⟨w.heap.size, 0, none⟩) 0 0) 0 [] :=
  ⟨by simp, Or.inr ⟨w.heap.size, 0, #[], rfl, hB, heap_alloc_new w _, Nat.le_refl _, by unfold maxLen; omega, by simp, by simp⟩⟩
theorem own_cells {w : World} {B : Nat} {e : TypeId} {size n : Nat} {v : Value} {xs : List Value} (h : w.ownsRow B e size v n xs) :
    ∃ A c, v = .slice A n c ∧ n ≤ c ∧ c ≤ maxLen ∧ (n = 0 ∨ ∃ g, A = some ⟨g, 0, none⟩ ∧ B ≤ g ∧ g < w.heap.size ∧ ∀ (j : Nat) (u : Value), xs[j]? = some u → w.cell? ⟨g, j, none⟩ = some u) := by
  rcases h.2 with ⟨rfl, rfl⟩ | ⟨g, cap, cur, rfl, hg, hh, h1, h2, h3, h4⟩
  · exact ⟨none, 0, rfl, Nat.le_refl _, by unfold maxLen; omega, Or.inl rfl⟩
  · refine ⟨_, cap, rfl, h1, h2, Or.inr ⟨g, rfl, hg, (Array.getElem?_eq_some_iff.1 hh).1, fun j u hu => ?_⟩⟩
    rw [cell_of_row w g j cur _ (0, 0) hh]
    rw [← h4, List.getElem?_take] at hu
    split at hu
    · simpa using hu
    · cases hu
theorem own_far {w : World} {B g : Nat} {e t : TypeId} {size n : Nat} {v : Value} {xs : List Value} {cs : Array Value} (h : w.ownsRow B e size v n xs) (ha : At w g t cs) (hne : t ≠ e) : some g ≠ v.ownBlock := by
  rcases h.2 with ⟨rfl, _⟩ | ⟨g', cap, cur, rfl, _, hh, _⟩
  · simp [Value.ownBlock]
  · intro he
    have : g = g' := by simpa [Value.ownBlock] using he
    subst this
    unfold At at ha
    rw [ha] at hh
    simp at hh
    exact hne hh.2
theorem own_put {w : World} {B : Nat} {e : TypeId} {size n : Nat} {v : Value} {xs : List Value} (h : w.ownsRow B e size v n xs) {p : Addr} (hp : p.block < B) (u : Value) : (w.setCell p u).ownsRow B e size v n xs := by
  obtain ⟨h1, h2⟩ := h
  refine ⟨h1, ?_⟩
  rcases h2 with h2 | ⟨g, cap, cur, hv, hg, hh, r⟩
  · exact Or.inl h2
  · exact Or.inr ⟨g, cap, cur, hv, hg, (Below.heap_setCell w p u g (by omega)).trans hh, r⟩
theorem own_putne {w : World} {B : Nat} {e : TypeId} {size n : Nat} {v : Value} {xs : List Value} (h : w.ownsRow B e size v n xs) {p : Addr} (hp : some p.block ≠ v.ownBlock) (u : Value) : (w.setCell p u).ownsRow B e size v n xs := by
  obtain ⟨h1, h2⟩ := h
  refine ⟨h1, ?_⟩
  rcases h2 with h2 | ⟨g, cap, cur, rfl, hg, hh, r⟩
  · exact Or.inl h2
  · exact Or.inr ⟨g, cap, cur, rfl, hg, (Below.heap_setCell w p u g (fun e => hp (by rw [← e]; rfl))).trans hh, r⟩
theorem one1 {a : Value} (ha : a.oneCell' = true) : ∀ u ∈ [a], u.oneCell' = true := by
  intro u hu; simp at hu; subst hu; exact ha
theorem take_more {α : Type} {l : List α} {k : Nat} {x : α} (h : l[k]? = some x) : l.take (k + 1) = l.take k ++ [x] := by rw [List.take_add_one, h]; rfl
theorem bstep {B : Nat} {w w1 w2 : World} {o : Obj} (h : Below B w w1) (hB : B ≤ w.heap.size) (h2 : Below (w1.alloc o).heap.size (w1.alloc o) w2) : Below B w w2 :=
  (h.alloc (Nat.le_trans hB h.size) o).trans (h2.mono (by have := h.size; simp; omega))
theorem At.bstep {w1 w2 : World} {g : Nat} {t : TypeId} {cs : Array Value} {o : Obj} (h : At w1 g t cs) (h2 : Below (w1.alloc o).heap.size (w1.alloc o) w2) : At w2 g t cs :=
  (h.alloc o).below h2 (h.alloc o).lt
theorem At.next {w w' : World} {g : Nat} {t : TypeId} {cs : Array Value} (h : At w g t cs) (hb : Below w.heap.size w w') : At w' g t cs := h.below hb h.lt
theorem held3 {w : World} {g : Nat} {t : TypeId} {a b c : Value} (h : At w g t #[a, b, c]) : (∀ z : Held w.heap.size w, z.w.cell? ⟨g, 0, none⟩ = some a) ∧ (∀ z : Held w.heap.size w, z.w.cell? ⟨g, 1, none⟩ = some b) ∧ (∀ z : Held w.heap.size w, z.w.cell? ⟨g, 2, none⟩ = some c) :=
  ⟨fun z => z.cell h.lt (h.cell 0), fun z => z.cell h.lt (h.cell 1), fun z => z.cell h.lt (h.cell 2)⟩
theorem below_drew {w w' : World} (h : Below w.drew.heap.size w.drew w') : Below w.heap.size w w' := ((Below.refl w.heap.size w).drew).trans h
theorem list_of {α : Type} {P : Nat → α → Prop} : ∀ (n : Nat), (∀ i, i < n → ∃ v, P i v) → ∃ l : List α, l.length = n ∧ ∀ (k : Nat) (v : α), l[k]? = some v → P k v
  | 0, _ => ⟨[], rfl, fun k v h => by simp at h⟩
  | n + 1, h => by
    obtain ⟨l, hl, hp⟩ := list_of n (fun i hi => h i (by omega))
    obtain ⟨v, hv⟩ := h n (by omega)
    refine ⟨l ++ [v], by simp [hl], fun k x hx => ?_⟩
    rcases Nat.lt_or_ge k n with hk | hk
    · rw [List.getElem?_append_left (by omega)] at hx; exact hp k x hx
    · rw [List.getElem?_append_right (by omega)] at hx
      have : k - l.length = 0 := by
        rcases Nat.eq_zero_or_pos (k - l.length) with e | e
        · exact e
        · rw [List.getElem?_eq_none (by simp; omega)] at hx; cases hx
      rw [this] at hx
      simp at hx
      subst hx
      have : k = n := by omega
      rw [this]; exact hv
theorem spot_none {w : World} {a : Addr} {v : Value} (h : w.cell? a = some v) : a.spot = none := by simpa using World.cell?_spot h
theorem cell_lt {w : World} {a : Addr} {v : Value} (h : w.cell? a = some v) : a.block < w.heap.size := by
  rcases Nat.lt_or_ge a.block w.heap.size with hh | hh
  · exact hh
  · simp [World.cell?, Array.getElem?_eq_none hh] at h
theorem weightsAll_mem {H : Type} {P : Program} {e : TypeId} : ∀ {l : List (DataW H)} {d : DataW H}, d ∈ l → ∀ n ∈ d.weights P e, n ∈ DataW.weightsAll P e l
  | d' :: r, d, hd, n, hn => by
    simp only [DataW.weightsAll, List.mem_append]
    rcases List.mem_cons.1 hd with rfl | h
    · exact Or.inl hn
    · exact Or.inr (weightsAll_mem h n hn)
theorem reach_at {H : Type} {P : Program} {ts : List TypeId} {ds : List (DataW H)} (h : (DataW.weightsEach P ts ds).all (· ≤ reachBytes) = true) (j : Nat) {t : TypeId} {d : DataW H} (ht : ts[j]? = some t) (hd : ds[j]? = some d) : ∀ n ∈ d.weights P t, n ≤ 140737488351232 := fun n hn => by
  exact of_decide_eq_true (List.all_eq_true.1 h _ (DataW.weights_mem_each ht hd n hn))
theorem add_at (g o j : Nat) : ((⟨g, o, none⟩ : Addr).add j) = ⟨g, o + j, none⟩ := by
  unfold Addr.add; split
  · rename_i h; subst h; rfl
  · simp
end Go.Proofs.YtphmicbpkljmfaaGreat
namespace Go.Proofs.YtphmicbpkljmfaaGreat
set_option linter.unusedVariables false
set_option linter.unusedSimpArgs false
open Go.RowKit
section
variable {P : Program} {ops : Array Oper} {Q : Exit → Act → World → Prop}
/-- Operation i waits for operation j. -/
def waits (ops : Array Oper) (i j : Nat) : Bool := ((ops[i]?).map fun o => o.after.any fun e => Region.binds .any e && e.on == j).getD false
/-- Every operation waits for earlier ones alone. -/
def tidy (ops : Array Oper) : Bool := (List.range ops.size).all fun i => ((ops[i]?).map fun o => o.after.all fun e => !Region.binds .any e || decide (e.on < i)).getD true
/-- Operation i waits, through others too, for operation j. -/
def behind (ops : Array Oper) : Nat → Nat → Nat → Bool
  | 0, _, _ => false
  | f + 1, i, j => waits ops i j || (List.range i).any fun k => waits ops i k && behind ops f k j
theorem waits_iff {i j : Nat} {o : Oper} (ho : ops[i]? = some o) : waits ops i j = true ↔ ∃ e ∈ o.after, Region.binds .any e = true ∧ e.on = j := by
  unfold waits
  rw [ho]
  simp only [Option.map_some, Option.getD_some, Array.any_eq_true, Bool.and_eq_true, beq_iff_eq]
  constructor
  · rintro ⟨i, hi, h1, h2⟩; exact ⟨_, Array.getElem_mem hi, h1, h2⟩
  · rintro ⟨e, he, h1, h2⟩
    obtain ⟨i, hi, rfl⟩ := Array.mem_iff_getElem.1 he
    exact ⟨i, hi, h1, h2⟩
theorem waits_lt (ht : tidy ops = true) {i j : Nat} (h : waits ops i j = true) : j < i ∧ i < ops.size := by
  cases ho : ops[i]? with
  | none => unfold waits at h; rw [ho] at h; cases h
  | some o =>
    have hi := (Array.getElem?_eq_some_iff.1 ho).1
    unfold tidy at ht
    rw [List.all_eq_true] at ht
    have := ht i (List.mem_range.2 hi)
    rw [ho] at this
    obtain ⟨e, he, hb, rfl⟩ := (waits_iff ho).1 h
    simp only [Option.map_some, Option.getD_some] at this
    rw [Array.all_eq_true_iff_forall_mem] at this
    have := this e he
    rw [hb] at this
    exact ⟨by simpa using this, hi⟩
/-- Which operations have come up. -/
structure Listed (ops : Array Oper) (L : Nat → Bool) : Prop where
  down : ∀ i j, L i = true → waits ops i j = true → L j = true
theorem Listed.behind {L : Nat → Bool} (h : Listed ops L) : ∀ (f i j : Nat), (∀ k, waits ops i k = true → L k = true) → Go.Proofs.YtphmicbpkljmfaaGreat.behind ops f i j = true → L j = true
  | 0, _, _, _, hb => by cases hb
  | f + 1, i, j, hi, hb => by
    unfold Go.Proofs.YtphmicbpkljmfaaGreat.behind at hb
    rw [Bool.or_eq_true] at hb
    rcases hb with hb | hb
    · exact hi j hb
    · rw [List.any_eq_true] at hb
      obtain ⟨k, _, hk⟩ := hb
      rw [Bool.and_eq_true] at hk
      exact h.behind f k j (fun m hm => h.down k m (hi k hk.1) hm) hk.2
def mark (L : Nat → Bool) (i : Nat) : Nat → Bool := fun j => L j || decide (j = i)
/-- A region's orders, one operation at a time. -/
theorem wpAny_each (ht : tidy ops = true) (I : (Nat → Bool) → Act → World → Prop)
    (hstep : ∀ i L a w, i < ops.size → Listed ops L → L i = false → (∀ j, behind ops ops.size i j = true → L j = true) → I L a w → wpOp P ops Q i (I (mark L i)) a w)
    (hend : ∀ L a w, (∀ i, i < ops.size → L i = true) → I L a w → Q .normal a w) :
    ∀ (fuel : Nat) (listed : Array Bool) (a : Act) (w : World), listed.size = ops.size → Listed ops (fun i => listed.getD i true) → ((List.range ops.size).filter fun i => !listed.getD i true).length ≤ fuel →
      I (fun i => listed.getD i true) a w → wpAny P .any ops Q fuel listed a w := by
  have key : ∀ (listed : Array Bool), listed.size = ops.size → Region.ready .any ops listed = [] → ∀ i, i < ops.size → listed.getD i true = true := by
    intro listed hsz hr i
    induction i using Nat.strongRecOn with
    | ind i ih =>
      intro hi
      cases hL : listed.getD i true with
      | true => rfl
      | false =>
        exfalso
        have ho := Array.getElem?_eq_getElem hi
        have : i ∈ Region.ready .any ops listed := mem_ready.2 ⟨hL, _, ho, fun e he hb => by
          have hw : waits ops i e.on = true := (waits_iff ho).2 ⟨e, he, hb, rfl⟩
          obtain ⟨h1, _⟩ := waits_lt ht hw
          have := ih e.on h1 (by omega)
          have hs : e.on < listed.size := by omega
          simpa [Array.getD, hs] using this⟩
        rw [hr] at this
        cases this
  intro fuel
  induction fuel with
  | zero =>
    intro listed a w hsz hd hf hI
    have hall : ∀ i, i < ops.size → listed.getD i true = true := by
      intro i hi
      have := List.length_eq_zero_iff.1 (Nat.le_zero.1 hf)
      rw [List.filter_eq_nil_iff] at this
      have := this i (List.mem_range.2 hi)
      simpa using this
    refine ⟨?_, hend _ _ _ hall hI⟩
    cases hr : Region.ready .any ops listed with
    | nil => rfl
    | cons x xs =>
      exfalso
      have hx : x ∈ Region.ready .any ops listed := by rw [hr]; simp
      obtain ⟨h0, o, ho, _⟩ := mem_ready.1 hx
      rw [hall x (Array.getElem?_eq_some_iff.1 ho).1] at h0
      cases h0
  | succ fuel ih =>
    intro listed a w hsz hd hf hI
    refine ⟨fun hr => hend _ _ _ (key listed hsz hr) hI, fun i hi => ?_⟩
    obtain ⟨h0, o, ho, hall⟩ := mem_ready.1 hi
    have hlt := (Array.getElem?_eq_some_iff.1 ho).1
    have hdeps : ∀ k, waits ops i k = true → (fun i => listed.getD i true) k = true := by
      intro k hk
      obtain ⟨e, he, hb, rfl⟩ := (waits_iff ho).1 hk
      have := hall e he hb
      have hs : e.on < listed.size := by
        have := (waits_lt ht hk).1
        omega
      simpa [Array.getD, hs] using this
    refine wpOp_mono (fun a' w' h => ?_) (hstep i _ a w hlt hd h0 (fun j hj => hd.behind _ i j hdeps hj) hI)
    have e : (fun j => (listed.setIfInBounds i true).getD j true) = mark (fun i => listed.getD i true) i := by
      funext j
      unfold mark
      by_cases hj : j = i
      · subst hj
        have hs : j < listed.size := by omega
        simp [Array.getD, hs]
      · have hne : ¬ i = j := fun h => hj h.symm
        by_cases hs : j < listed.size
        · simp [Array.getD, hs, hj, hne, Array.getElem_setIfInBounds]
        · simp [Array.getD, hs, hj]
    refine ih _ _ _ (by simpa using hsz) ?_ ?_ (by rw [e]; exact h)
    · rw [e]
      refine ⟨fun m j hm hw => ?_⟩
      unfold mark at hm ⊢
      rw [Bool.or_eq_true] at hm ⊢
      rcases hm with hm | hm
      · exact Or.inl (hd.down m j hm hw)
      · have : m = i := by simpa using hm
        subst this
        exact Or.inl (hdeps j hw)
    · have hsub : ((List.range ops.size).filter fun j => !(listed.setIfInBounds i true).getD j true).length < ((List.range ops.size).filter fun j => !listed.getD j true).length := by
        have e' : ∀ j, (listed.setIfInBounds i true).getD j true = mark (fun i => listed.getD i true) i j := fun j => congrFun e j
        simp only [e']
        have hgen : ∀ (l : List Nat), l.Nodup → i ∈ l → (l.filter fun j => !mark (fun i => listed.getD i true) i j).length < (l.filter fun j => !listed.getD j true).length := by
          intro l hnd hmem
          have h1 : (l.filter fun j => !mark (fun i => listed.getD i true) i j) = ((l.filter fun j => !listed.getD j true).filter fun j => !decide (j = i)) := by
            rw [List.filter_filter]
            congr 1
            funext j
            show (!(listed.getD j true || decide (j = i))) = _
            cases listed.getD j true <;> cases decide (j = i) <;> rfl
          rw [h1]
          have hmem' : i ∈ (l.filter fun j => !listed.getD j true) := by rw [List.mem_filter]; exact ⟨hmem, by rw [h0]; rfl⟩
          have := List.length_filter_lt_length_iff_exists (p := fun j => !decide (j = i)) (l := (l.filter fun j => !listed.getD j true))
          exact this.2 ⟨i, hmem', by simp⟩
        exact hgen _ List.nodup_range (List.mem_range.2 hlt)
      omega
/-- The values of a region's operations laid over a frame. -/
def over (a : Act) : List Oper → Nat → (Nat → Value) → Act
  | [], _, _ => a
  | o :: r, k, v => (over a r (k + 1) v).put o.dst (v k)
/-- No two operations write one slot. -/
def apartDst : List Oper → Bool
  | [] => true
  | o :: r => r.all (fun o' => match o.dst, o'.dst with | some d, some d' => decide (d ≠ d') | _, _ => true) && apartDst r
def vset (v : Nat → Value) (i : Nat) (x : Value) : Nat → Value := fun j => if j = i then x else v j
theorem put_put (a : Act) (d : Option Tmp) (x y : Value) : (a.put d x).put d y = a.put d y := by
  cases d with
  | none => rfl
  | some d => simp [Act.put]
theorem over_far (a : Act) : ∀ (l : List Oper) (k : Nat) (v : Nat → Value) (i : Nat) (x : Value), i < k → over a l k (vset v i x) = over a l k v
  | [], _, _, _, _, _ => rfl
  | o :: r, k, v, i, x, h => by
    unfold over
    rw [over_far a r (k + 1) v i x (by omega)]
    congr 1
    unfold vset; rw [if_neg (by omega)]
theorem over_put (a : Act) : ∀ (l : List Oper) (k : Nat) (v : Nat → Value) (i : Nat) (o : Oper) (x : Value), apartDst l = true → l[i]? = some o → (over a l k v).put o.dst x = over a l k (vset v (k + i) x)
  | [], _, _, _, _, _, _, h => by simp at h
  | o :: r, k, v, 0, o', x, _, h => by
    simp at h; subst h
    unfold over
    rw [put_put, show k + 0 = k from rfl, over_far a r (k + 1) v k x (by omega)]
    have e : vset v k x k = x := if_pos rfl
    rw [e]
  | o :: r, k, v, i + 1, o', x, hd, h => by
    unfold apartDst at hd
    rw [Bool.and_eq_true, List.all_eq_true] at hd
    have hr : r[i]? = some o' := by simpa using h
    have hm : o' ∈ r := List.mem_of_getElem? hr
    have hne := hd.1 o' hm
    unfold over
    rw [Act.put_comm _ (v k) x (fun d e e' => by rw [e, e'] at hne; simp at hne), over_put a r (k + 1) v i o' x hd.2 hr]
    rw [show k + 1 + i = k + (i + 1) by omega]
    congr 1
    unfold vset; rw [if_neg (by omega)]
theorem put_same (a : Act) (d : Option Tmp) : a.put d (match d with | some d => a.tmps.getD d undef | none => undef) = a := by
  cases d with
  | none => rfl
  | some d =>
    simp only [Act.put]
    congr 1
    apply Array.ext_getElem?
    intro i
    rw [Array.getElem?_setIfInBounds]
    split
    · rename_i h; subst h
      split
      · rename_i h; simp [Array.getD, h]
      · rename_i h; rw [Array.getElem?_eq_none (by omega)]
    · rfl
theorem over_start (a : Act) : ∀ (l : List Oper) (k : Nat) (v : Nat → Value), (∀ i o, l[i]? = some o → v (k + i) = match o.dst with | some d => a.tmps.getD d undef | none => undef) → over a l k v = a
  | [], _, _, _ => rfl
  | o :: r, k, v, h => by
    unfold over
    rw [over_start a r (k + 1) v (fun i o ho => by have := h (i + 1) o (by simpa using ho); rw [← this]; congr 1; omega)]
    have := h 0 o (by simp)
    rw [Nat.add_zero] at this
    rw [this]
    exact put_same a o.dst
/-- What holds of an operation's value stays true when other operations come up. -/
def Lasting (J : World → Prop) (R : World → World → Prop) (T : Value → World → Prop) : Prop := ∀ x w w', J w → R w w' → T x w → T x w'
/-- The value is this one. -/
def Pin (c : Value) : Value → World → Prop := fun x _ => x = c
theorem lasting_pin {J : World → Prop} {R : World → World → Prop} (c : Value) : Lasting J R (Pin c) := fun _ _ _ _ _ h => h
/-- The value is one that the walk finds. -/
def Vl {c : Value} : Value → World → Prop := fun x _ => x = c
theorem lasting_vl {J : World → Prop} {R : World → World → Prop} {c : Value} : Lasting J R (Vl (c := c)) := fun _ _ _ _ _ h => h
def Free : Value → World → Prop := fun _ _ => True
theorem lasting_free {J : World → Prop} {R : World → World → Prop} : Lasting J R Free := fun _ _ _ _ _ h => h
/-- What holds of operation i's value. -/
def tok (Ts : List (Value → World → Prop)) (i : Nat) : Value → World → Prop := Ts.getD i Free
/-- What an operation's slot holds when the region begins. -/
def startOf (a : Act) (l : List Oper) (i : Nat) : Value := match (l[i]?).bind (·.dst) with | some d => a.tmps.getD d undef | none => undef
/-- What is asked at each operation. -/
def asksAll (P : Program) (ops : Array Oper) (Q : Exit → Act → World → Prop) (F : (Nat → Value) → Act) (S : Nat → Value) (Ts : List (Value → World → Prop)) (J : World → Prop) (R : World → World → Prop) : List Oper → Nat → Prop
  | [], _ => True
  | o :: r, i => (∀ v w, Hid (J w) → Hid (∀ j, behind ops ops.size i j = true → tok Ts j (v j) w) → Hid (∀ j, behind ops ops.size j i = true → v j = S j) → ∀ K : Act → World → Prop, Hid (∀ x w', J w' → R w w' → tok Ts i x w' → K ((F v).put o.dst x) w') →
      if Region.wanted o (yielded ops (F v).tmps) then o.wp P (F v) w K Q else K ((F v).put o.dst undef) w) ∧ asksAll P ops Q F S Ts J R r (i + 1)
theorem asksAll_at {F : (Nat → Value) → Act} {S : Nat → Value} {Ts : List (Value → World → Prop)} {J : World → Prop} {R : World → World → Prop} : ∀ {l : List Oper} {i : Nat} {k : Nat} {o : Oper}, asksAll P ops Q F S Ts J R l i → l[k]? = some o →
    (∀ v w, Hid (J w) → Hid (∀ j, behind ops ops.size (i + k) j = true → tok Ts j (v j) w) → Hid (∀ j, behind ops ops.size j (i + k) = true → v j = S j) → ∀ K : Act → World → Prop, Hid (∀ x w', J w' → R w w' → tok Ts (i + k) x w' → K ((F v).put o.dst x) w') →
      if Region.wanted o (yielded ops (F v).tmps) then o.wp P (F v) w K Q else K ((F v).put o.dst undef) w)
  | [], _, _, _, _, h => by simp at h
  | o :: r, i, 0, o', ha, h => by simp at h; subst h; exact ha.1
  | o :: r, i, k + 1, o', ha, h => by
    have := asksAll_at (l := r) (i := i + 1) (k := k) ha.2 (by simpa using h)
    rw [show i + 1 + k = i + (k + 1) by omega] at this
    exact this
theorem behind_lt (ht : tidy ops = true) : ∀ (f i j : Nat), behind ops f i j = true → j < ops.size := by
  intro f
  induction f with
  | zero => intro i j h; cases h
  | succ f ih =>
    intro i j h
    unfold behind at h
    rw [Bool.or_eq_true] at h
    rcases h with h | h
    · have := waits_lt ht h; omega
    · rw [List.any_eq_true] at h
      obtain ⟨k, _, hk⟩ := h
      rw [Bool.and_eq_true] at hk
      exact ih k j hk.2
theorem behind_lt' (ht : tidy ops = true) : ∀ (f i j : Nat), behind ops f i j = true → i < ops.size := by
  intro f
  induction f with
  | zero => intro i j h; cases h
  | succ f ih =>
    intro i j h
    unfold behind at h
    rw [Bool.or_eq_true] at h
    rcases h with h | h
    · exact (waits_lt ht h).2
    · rw [List.any_eq_true] at h
      obtain ⟨k, _, hk⟩ := h
      rw [Bool.and_eq_true] at hk
      exact (waits_lt ht hk.1).2
/-- A region that draws its order: each operation once. J holds of all worlds on the way; R holds of the worlds before and behind an operation. -/
theorem wp_region_each {id : Nat} {a : Act} {w : World} {l : List Oper} (F : (Nat → Value) → Act) (J : World → Prop) (R : World → World → Prop) (Ts : List (Value → World → Prop))
    (hF : ∀ v, over a l 0 v = F v) (hm : P.follows .mixedOrders = true) (ht : tidy l.toArray = true) (hd : apartDst l = true) (hJ : J w.drew) (hT : ∀ T ∈ Ts, Lasting J R T)
    (hops : asksAll P l.toArray Q F (startOf a l) Ts J R l 0)
    (hend : ∀ v w, Hid (J w) → Hid (∀ i, i < l.length → tok Ts i (v i) w) → Q .normal (F v) w) : (Code.region id l.toArray true).wp P Q a w := by
  have hT' : ∀ i, Lasting J R (tok Ts i) := by
    intro i
    unfold tok
    rw [List.getD_eq_getElem?_getD]
    cases h : Ts[i]? with
    | none => exact lasting_free
    | some T => exact hT T (List.mem_of_getElem? h)
  refine wp_region_any hm ?_
  refine wpAny_each ht (fun L a' w' => J w' ∧ ∃ v, a' = F v ∧ (∀ i, i < l.length → L i = true → tok Ts i (v i) w') ∧ ∀ i, i < l.length → L i = false → v i = startOf a l i) ?_ ?_ _ _ _ _ (by simp) ⟨fun i j h => ?_⟩ ?_ ?_
  · rintro i L a' w' hi hL hLi hdep ⟨hb', v, rfl, hv, hs⟩
    have hil : i < l.length := by simpa using hi
    have ho : l[i]? = some l[i] := List.getElem?_eq_getElem hil
    have ho' : l.toArray[i]? = some l[i] := by simp
    unfold wpOp
    rw [ho']
    simp only
    have hstep := asksAll_at hops ho v w' hb' (fun j hj => by
      rw [Nat.zero_add] at hj
      exact hv j (by have := behind_lt ht _ _ _ hj; simpa using this) (hdep j hj)) (fun j hj => by
      rw [Nat.zero_add] at hj
      have hjl := behind_lt' ht _ _ _ hj
      refine hs j (by simpa using hjl) ?_
      cases hLj : L j with
      | false => rfl
      | true =>
        have := hL.behind _ j i (fun k hk => hL.down j k hLj hk) hj
        rw [hLi] at this; cases this) (fun a2 w2 => J w2 ∧ ∃ v, a2 = F v ∧ (∀ k, k < l.length → mark L i k = true → tok Ts k (v k) w2) ∧ ∀ k, k < l.length → mark L i k = false → v k = startOf a l k) (fun x w2 hJ2 hb2 hx => by
        refine ⟨hJ2, vset v i x, ?_, ?_, ?_⟩
        · rw [← hF, ← hF, over_put a l 0 v i _ x hd ho, Nat.zero_add]
        · intro k hk hmk
          unfold vset
          by_cases e : k = i
          · rw [if_pos e, e]; rw [Nat.zero_add] at hx; exact hx
          · rw [if_neg e]
            unfold mark at hmk
            rw [Bool.or_eq_true] at hmk
            rcases hmk with h | h
            · exact hT' k _ _ _ hb' hb2 (hv k hk h)
            · exact absurd (by simpa using h) e
        · intro k hk hmk
          unfold mark at hmk
          rw [Bool.or_eq_false_iff] at hmk
          unfold vset
          rw [if_neg (by simpa using hmk.2)]
          exact hs k hk hmk.1)
    split
    · rename_i hw; rw [if_pos hw] at hstep; exact Or.inl hstep
    · rename_i hw; rw [if_neg hw] at hstep; exact hstep
  · rintro L a' w' hall ⟨hb', v, rfl, hv, _⟩
    exact hend v w' hb' (fun i hi => hv i hi (hall i (by simpa using hi)))
  · intro hw
    have h1 := (waits_lt ht hw)
    exfalso
    have : (Array.replicate l.toArray.size false).getD i true = false := by
      have := h1.2
      simp [Array.getD] at this ⊢
      omega
    rw [this] at h
    cases h
  · have := List.length_filter_le (fun i => !(Array.replicate l.toArray.size false).getD i true) (List.range l.toArray.size)
    simpa using this
  · refine ⟨hJ, startOf a l, ?_, ?_, fun i _ _ => rfl⟩
    · rw [← hF, over_start]
      intro i o ho
      unfold startOf
      rw [Nat.zero_add, ho]
      rfl
    · intro i hi h
      exfalso
      simp [Array.getD, hi] at h
/-- A law of a step, at the operation itself. -/
theorem wp_of_step {o : Oper} {a : Act} {w : World} {K : Act → World → Prop} {E : Prop} (hg : o.guard = none) (h : if Region.wanted o (yielded ops a.tmps) = true then Oper.wp P o a w K Q else E) : Oper.wp P o a w K Q := by
  have hw : Region.wanted o (yielded ops a.tmps) = true := by simp [Region.wanted, hg]
  rwa [if_pos hw] at h
/-- Operations that leave the world below block B as it was. -/
def Onward (w w' : World) : Prop := Below w.heap.size w w'
theorem lasting_none {J : World → Prop} {R : World → World → Prop} : ∀ T ∈ ([] : List (Value → World → Prop)), Lasting J R T := fun _ h => by cases h
theorem lasting_cons {J : World → Prop} {R : World → World → Prop} {T : Value → World → Prop} {Ts : List (Value → World → Prop)} (h : Lasting J R T) (hs : ∀ T ∈ Ts, Lasting J R T) : ∀ T' ∈ T :: Ts, Lasting J R T' := by
  intro T' hT'
  rcases List.mem_cons.1 hT' with rfl | h'
  · exact h
  · exact hs _ h'
end
end Go.Proofs.YtphmicbpkljmfaaGreat
namespace Go.Proofs.YtphmicbpkljmfaaGreat
set_option linter.unusedVariables false
set_option linter.unusedSimpArgs false
open Go.RowKit
open Go.Maps (Keyed)
/-- The keys of a map, as elements of a plain type. -/
structure KEnc {κ : Type} (P : Program) (k : TypeId) (val : κ → Value) (good : κ → Prop) : Prop where
  keyed : Keyed P k
  reads : ∀ x, good x → ∃ l, keyOf P k (val x) = some l
  inj : ∀ x y, val x = val y → x = y
/-- The elements of a map, as elements of a plain type. -/
structure EEnc {α : Type} (R : Value → Option (DataW Unit × List MemPlace)) (mk : α → Value) (dat : α → DataW Unit) : Prop where
  reads : ∀ a, R (mk a) = some (dat a, [])
  inv : ∀ v a ps, R v = some (dat a, ps) → v = mk a
theorem eenc_bool {P : Program} {e : TypeId} (he : P.underlying e = some .bool) : EEnc (plainElem P e) (fun x : Bool => .bool x) (fun x => .lit (.bool x)) := by
  refine ⟨fun a => plainElem_bool he a, fun v a ps h => ?_⟩
  unfold plainElem at h
  rw [he] at h
  cases v <;> simp at h
  obtain ⟨h, _⟩ := h
  simpa using h
theorem eenc_unit : EEnc unitElem (fun _ : Unit => .agg #[]) (fun _ => .agg []) :=
  ⟨fun a => unitElem_mk, fun v a ps h => (unitElem_inv h).1⟩
/-- Block b is a map that holds f, of at most n entries. -/
def FMap {κ α : Type} (w : World) (P : Program) (k : TypeId) (R : Value → Option (DataW Unit × List MemPlace)) (val : κ → Value) (dat : α → DataW Unit) (b n : Nat) (f : κ → Option α) : Prop :=
  ∃ D, w.ownsMap P k R b n D ∧ ∀ x l, keyOf P k (val x) = some l → ∀ z, D.atKey l z = ((f x).map dat).getD z
section
variable {κ α : Type} {w : World} {P : Program} {k : TypeId} {R : Value → Option (DataW Unit × List MemPlace)} {val : κ → Value} {good : κ → Prop} {mk : α → Value} {dat : α → DataW Unit} {b n : Nat} {f : κ → Option α}
theorem FMap.made (w : World) (P : Program) (k : TypeId) (R : Value → Option (DataW Unit × List MemPlace)) (val : κ → Value) (dat : α → DataW Unit) : FMap (w.alloc (.map #[] 0)) P k R val dat w.heap.size 0 (fun _ => none) :=
  ⟨_, World.ownsMap_made w P k R, fun x l hl z => rfl⟩
theorem FMap.lt (h : FMap w P k R val dat b n f) : b < w.heap.size := by obtain ⟨D, h, _⟩ := h; exact h.lt
theorem FMap.kept {w' : World} {row : Option Nat} (h : FMap w P k R val dat b n f) (hg : w.grownBy w' row) (hne : some b ≠ row) : FMap w' P k R val dat b n f := by
  obtain ⟨D, h, r⟩ := h; exact ⟨D, h.kept hg hne, r⟩
theorem FMap.alloc (h : FMap w P k R val dat b n f) (o : Obj) : FMap (w.alloc o) P k R val dat b n f := by
  obtain ⟨D, h, r⟩ := h; exact ⟨D, h.alloc o, r⟩
theorem FMap.drew (h : FMap w P k R val dat b n f) : FMap w.drew P k R val dat b n f := by
  obtain ⟨D, h, r⟩ := h; exact ⟨D, h.drew, r⟩
theorem FMap.setCell (h : FMap w P k R val dat b n f) {a : Addr} (ha : b ≠ a.block) (u : Value) : FMap (w.setCell a u) P k R val dat b n f := by
  obtain ⟨D, h, r⟩ := h; exact ⟨D, h.setCell ha u, r⟩
theorem FMap.mono (h : FMap w P k R val dat b n f) {n' : Nat} (hn : n ≤ n') : FMap w P k R val dat b n' f := by
  obtain ⟨D, h, r⟩ := h; exact ⟨D, h.mono hn, r⟩
theorem FMap.below {w' : World} {B : Nat} (h : FMap w P k R val dat b n f) (hb : Below B w w') (hB : b < B) : FMap w' P k R val dat b n f := by
  obtain ⟨D, ⟨es, clock, h1, h2⟩, r⟩ := h
  exact ⟨D, ⟨es, clock, (hb.block b hB).trans h1, h2⟩, r⟩
theorem FMap.next {w' : World} (h : FMap w P k R val dat b n f) (hb : Below w.heap.size w w') : FMap w' P k R val dat b n f := h.below hb h.lt
theorem FMap.look_ok (h : FMap w P k R val dat b n f) (K : KEnc P k val good) (E : EEnc R mk dat) {t e : TypeId} (ht : P.underlying t = some (.map k e)) {a0 : α} (hz : (zeroValue e).run P w = .ok (mk a0) w) (x : κ) (hx : good x) :
    (Instr.lookup t (.map (some b)) (val x) true).run P w = .ok (.tuple #[mk ((f x).getD a0), .bool (f x).isSome]) w := by
  obtain ⟨D, h, r⟩ := h
  obtain ⟨l, hl⟩ := K.reads x hx
  obtain ⟨v, ps, hrun, hv⟩ := h.look_ok K.keyed ht hz (E.reads a0) hl
  rw [r x l hl] at hv
  have hh : Maps.has D l = (f x).isSome := by
    cases hf : f x with
    | none => exact Maps.has_false_of_atKey (fun z => by rw [r x l hl, hf]; rfl)
    | some a => exact Maps.has_true_of_atKey (y := dat a) (fun z => by rw [r x l hl, hf]; rfl)
  have hv' : R v = some (dat ((f x).getD a0), ps) := by
    rw [hv]
    cases f x <;> rfl
  rw [hrun, hh, E.inv v _ ps hv']
theorem FMap.look (h : FMap w P k R val dat b n f) (K : KEnc P k val good) (E : EEnc R mk dat) {t e : TypeId} (ht : P.underlying t = some (.map k e)) {a0 : α} (hz : (zeroValue e).run P w = .ok (mk a0) w) (x : κ) (hx : good x) :
    (Instr.lookup t (.map (some b)) (val x) false).run P w = .ok (mk ((f x).getD a0)) w := by
  obtain ⟨D, h, r⟩ := h
  obtain ⟨l, hl⟩ := K.reads x hx
  obtain ⟨v, ps, hrun, hv⟩ := h.lookup K.keyed ht hz (E.reads a0) hl
  rw [r x l hl] at hv
  have hv' : R v = some (dat ((f x).getD a0), ps) := by
    rw [hv]
    cases f x <;> rfl
  rw [hrun, E.inv v _ ps hv']
theorem FMap.update [DecidableEq κ] (h : FMap w P k R val dat b n f) (K : KEnc P k val good) (E : EEnc R mk dat) {t e : TypeId} (ht : P.underlying t = some (.map k e)) (hn : n < maxLen) (x : κ) (hx : good x) (a : α) :
    ∃ w', (Instr.mapUpdate t (.map (some b)) (val x) (mk a)).run P w = .ok () w' ∧ FMap w' P k R val dat b (n + 1) (fun y => if y = x then some a else f y) ∧ w.grownBy w' (some b) := by
  obtain ⟨D, h, r⟩ := h
  obtain ⟨l, hl⟩ := K.reads x hx
  obtain ⟨w', hrun, h', g⟩ := h.update K.keyed ht hn hl (E.reads a)
  refine ⟨w', hrun, ⟨_, h', fun y l' hl' z => ?_⟩, g⟩
  by_cases e : y = x
  · subst e
    rw [hl] at hl'
    obtain rfl := Option.some.inj hl'
    rw [Maps.atKey_put_same h.isMap (K.keyed.key hl)]; simp
  · have hne : l' ≠ l := fun el => e (K.inj _ _ (K.keyed.inj hl' (by rw [el]; exact hl)))
    rw [Maps.atKey_put_other hne, r y l' hl']; simp [e]
end
/-- A store into the map at the operation. -/
theorem wpList_fmap_update {κ α : Type} [DecidableEq κ] {P : Program} (w : World) {ops : Array Oper} {rest : List Oper} {o : Oper} {a : Act} {Q : Exit → Act → World → Prop}
    (hg : o.guard = none) (m x v : Operand) (t : TypeId) (hop : o.op = Op.mapUpdate t m x v)
    {k e : TypeId} {R : Value → Option (DataW Unit × List MemPlace)} {val : κ → Value} {good : κ → Prop} {mk : α → Value} {dat : α → DataW Unit} {b n : Nat} {f : κ → Option α}
    (hown : FMap w P k R val dat b n f) (K : KEnc P k val good) (E : EEnc R mk dat) (ht : P.underlying t = some (.map k e)) (hn : n < maxLen)
    (hm : a.eval m = .map (some b)) (key : κ) (hx : a.eval x = val key) (hk : good key) (el : α) (hv : a.eval v = mk el)
    (hK : ∀ w', FMap w' P k R val dat b (n + 1) (fun y => if y = key then some el else f y) → w.grownBy w' (some b) → wpList P ops Q rest (a.put o.dst undef) w') :
    wpList P ops Q (o :: rest) a w := by
  refine wpList_plain hg fun K' hK' => ?_
  obtain ⟨w', hrun, r1, r2⟩ := hown.update K E ht hn key hk el
  unfold Oper.wp
  simp [execOp, hop, hm, hx, hv, hrun, Result.andThen]
  exact hK' _ _ (hK w' r1 r2)
/-- An entry of a map that is written out. -/
theorem wpList_fmap_insert {κ α : Type} [DecidableEq κ] {P : Program} (w : World) {ops : Array Oper} {rest : List Oper} {o : Oper} {a : Act} {Q : Exit → Act → World → Prop}
    (hg : o.guard = none) (m x v : Operand) (t : TypeId) (hop : o.op = Op.insert t m x v)
    {k e : TypeId} {R : Value → Option (DataW Unit × List MemPlace)} {val : κ → Value} {good : κ → Prop} {mk : α → Value} {dat : α → DataW Unit} {b n : Nat} {f : κ → Option α}
    (hown : FMap w P k R val dat b n f) (K : KEnc P k val good) (E : EEnc R mk dat) (ht : P.underlying t = some (.map k e)) (hn : n < maxLen)
    (hm : a.eval m = .map (some b)) (key : κ) (hx : a.eval x = val key) (hk : good key) (el : α) (hv : a.eval v = mk el)
    (hK : ∀ w', FMap w' P k R val dat b (n + 1) (fun y => if y = key then some el else f y) → w.grownBy w' (some b) → wpList P ops Q rest (a.put o.dst undef) w') :
    wpList P ops Q (o :: rest) a w := by
  refine wpList_plain hg fun K' hK' => ?_
  obtain ⟨w', hrun, r1, r2⟩ := hown.update K E ht hn key hk el
  unfold Oper.wp
  simp [execOp, hop, hm, hx, hv, hrun, Result.andThen]
  exact hK' _ _ (hK w' r1 r2)
theorem grown_refl (w : World) (row : Option Nat) : w.grownBy w row := ⟨rfl, rfl, rfl, Nat.le_refl _, fun _ _ _ => rfl⟩
theorem grown_trans {a b c : World} {row : Option Nat} (h : a.grownBy b row) (k : b.grownBy c row) : a.grownBy c row :=
  ⟨k.os.trans h.os, k.tape.trans h.tape, k.output.trans h.output, Nat.le_trans h.size k.size, fun i hi hr => (k.block i (Nat.lt_of_lt_of_le hi h.size) hr).trans (h.block i hi hr)⟩
theorem grown_drew {a b : World} {row : Option Nat} (h : a.grownBy b row) : a.grownBy b.drew row := ⟨h.os, h.tape, h.output, h.size, h.block⟩
theorem grown_of_below {a b : World} (h : Below a.heap.size a b) (row : Option Nat) : a.grownBy b row := ⟨h.os, h.tape, h.output, h.size, fun i hi _ => h.block i hi⟩
theorem below_of_grown {a b : World} {r B : Nat} (h : a.grownBy b (some r)) (hB : B ≤ r) (hs : B ≤ a.heap.size) : Below B a b :=
  ⟨h.os, h.tape, h.output, h.size, fun i hi => h.block i (by omega) (fun e => by injection e with e; omega)⟩
end Go.Proofs.YtphmicbpkljmfaaGreat
namespace Go.Proofs.YtphmicbpkljmfaaGreat
set_option linter.unusedVariables false
set_option linter.unusedSimpArgs false
open Go.RowKit
theorem made_one (z : Value) (n : Nat) (h : z.cells = #[z]) : madeCells z.cells (n * 1) = (List.replicate n z).toArray := by
  rw [h]
  apply Array.ext
  · simp [madeCells]
  · intro i h1 h2
    simp [madeCells, Nat.mod_one]
theorem run_make_one {P : Program} (w : World) {t e : TypeId} {i : TypeInfo} {z : Value} (ht : P.underlying t = some (.slice e)) (hi : P.info? e = some i) (hz : i.zero = some z) (h1 : i.size = 1) (hb : i.bytes ≤ 8) (hc : z.cells = #[z]) (n : Nat) (hn : n ≤ 1000000) :
    (Instr.makeSlice t (.int .i64 (n : Int)) (.int .i64 (n : Int))).run P w = .ok (.slice (some ⟨w.heap.size, 0, none⟩) n n) (w.alloc (.cells (List.replicate n z).toArray e)) := by
  have hbb : i.bytes * n ≤ 8 * 1000000 := Nat.mul_le_mul hb hn
  have hb' : (i.bytes : Int) * (n : Int) ≤ 281474976710656 := by
    have h : ((i.bytes * n : Nat) : Int) ≤ 281474976710656 := by omega
    rwa [Int.natCast_mul] at h
  rw [run_makeSlice w t e i z ht hi hz .i64 .i64 n n (by omega) (by omega) (by rw [h1]; simp; omega) hb' (by omega)]
  rw [h1, Int.toNat_natCast, made_one z n hc]
end Go.Proofs.YtphmicbpkljmfaaGreat
namespace Go.Proofs.YtphmicbpkljmfaaGreat
set_option linter.unusedVariables false
set_option linter.unusedSimpArgs false
open Go.RowKit
theorem run_append_two {P : Program} (w : World) (t ty : TypeId) (base : Nat) (e : TypeId) (i : TypeInfo) (z : Value) (size bytes : Nat) (ht : P.underlying t = some (.slice e)) (hi : P.info? e = some i) (hz : i.zero = some z)
    (hsize : i.size = size) (hby : i.bytes = bytes) (hzs : z.cells.size = size)
    (g n cap : Nat) (xs : List Value) (hown : w.ownsRow base e size (.slice (some ⟨g, 0, none⟩) n cap) n xs)
    (ad : Addr) (m c : Nat) (news : List Value) (hl : news.length = m * size) (hnews : ∀ j u, news[j]? = some u → w.cell? (ad.add j) = some u) (h1 : ∀ u ∈ news, u.oneCell' = true)
    (h63 : n + m ≤ maxLen) (hbytes : (n + m) * bytes ≤ 140737488355328) (hbase : base ≤ w.heap.size) :
    ∃ g' cap' w', (Builtin.append_ #[t, t] ty #[.slice (some ⟨g, 0, none⟩) n cap, .slice (some ad) m c]).run P w = .ok (.slice (some ⟨g', 0, none⟩) (n + m) cap') w' ∧
      w'.ownsRow base e size (.slice (some ⟨g', 0, none⟩) (n + m) cap') (n + m) (xs ++ news) ∧ ((g' = g ∧ cap' = cap ∧ w.grownBy w' (some g)) ∨ (g' = w.heap.size ∧ w.grownBy w' none)) := by
  subst hsize
  subst hby
  have hsmall : n + m ≤ 9223372036854775807 := by simp only [maxLen] at h63; omega
  have hlen : (xs ++ news).length = (n + m) * i.size := by rw [List.length_append, hown.1, hl, Nat.add_mul]
  rcases hown.2 with ⟨h, _⟩ | ⟨g', cap', cur, hv, hbg, hg, hnc, hcm, hcs, htake⟩
  · cases h
  injection hv with hv1 _ hv3
  injection hv1 with hv1
  injection hv1 with hv1 _ _
  subst hv1; subst hv3
  by_cases hroom : n + m ≤ cap
  · have hfit : n * i.size + news.length ≤ cur.size := by rw [hl, hcs, ← Nat.add_mul]; exact Nat.mul_le_mul_right _ hroom
    have hr := run_append_room (P := P) w t ty e i ht hi g n cap cur hg ad m c news hl hnews h1 hroom hfit
    refine ⟨g, cap, _, hr, ⟨hlen, .inr ⟨g, cap, _, rfl, hbg, setRow_heap w g cur _ e _ hg, hroom, hcm, ?_, ?_⟩⟩, Or.inl ⟨rfl, rfl, ⟨rfl, rfl, rfl, by simp, fun k _ hk => setRow_other w g k _ (fun e => hk (by rw [e]))⟩⟩⟩
    · simp only [List.size_toArray, List.length_append, List.length_take, List.length_drop, Array.length_toList]
      omega
    · rw [htake, ← hlen]
      exact List.take_left
  · have holds : ∀ j u, xs[j]? = some u → w.cell? ((⟨g, 0, none⟩ : Addr).add j) = some u := hown.cells (g := g) rfl
    have hr := run_append_grow (P := P) w t ty e i z ht hi hz ⟨g, 0, none⟩ n cap xs hown.1 holds ad m c news hl hnews (by omega) (by omega) (growslice_fits (by omega) hbytes)
    have hge := grownCap_ge w (n + m) cap e
    have hcm := grownCap_le_maxLen w (n + m) cap e h63
    refine ⟨w.heap.size, _, _, hr, ⟨hlen, .inr ⟨w.heap.size, _, _, rfl, hbase, heap_alloc_new w.drew _, hge, hcm, ?_, ?_⟩⟩, Or.inr ⟨rfl, ⟨rfl, rfl, rfl, by simp, fun k hk _ => Below.heap_alloc w.drew _ k hk⟩⟩⟩
    · simp only [Array.size_append, List.size_toArray, size_zeroCells, hzs, hown.1, hl, ← Nat.add_mul]
      congr 1
      omega
    · simp only [Array.toList_append, List.append_assoc]
      rw [← List.append_assoc, ← hlen]
      exact List.take_left
theorem wp_append_two {P : Program} {w : World} {o : Oper} {a : Act} {K : Act → World → Prop} {Q : Exit → Act → World → Prop} (s x : Operand) (t : TypeId)
    (ho : o.op = .call { callee := .builtin .append, args := #[s, x], argTypes := #[t, t] })
    (base : Nat) (e : TypeId) (i : TypeInfo) (z : Value) (size bytes : Nat) (ht : P.underlying t = some (.slice e)) (hi : P.info? e = some i) (hz : i.zero = some z)
    (hsize : i.size = size) (hby : i.bytes = bytes) (hzs : z.cells.size = size)
    (g n cap : Nat) (xs : List Value) (hs : a.eval s = .slice (some ⟨g, 0, none⟩) n cap) (hown : w.ownsRow base e size (.slice (some ⟨g, 0, none⟩) n cap) n xs)
    (ad : Addr) (m c : Nat) (news : List Value) (hx : a.eval x = .slice (some ad) m c) (hl : news.length = m * size) (hnews : ∀ j u, news[j]? = some u → w.cell? (ad.add j) = some u) (h1 : ∀ u ∈ news, u.oneCell' = true)
    (h63 : n + m ≤ maxLen) (hbytes : (n + m) * bytes ≤ 140737488355328) (hbase : base ≤ w.heap.size)
    (h : ∀ g' cap' w', w'.ownsRow base e size (.slice (some ⟨g', 0, none⟩) (n + m) cap') (n + m) (xs ++ news) → ((g' = g ∧ cap' = cap ∧ w.grownBy w' (some g)) ∨ (g' = w.heap.size ∧ w.grownBy w' none)) → K (a.put o.dst (.slice (some ⟨g', 0, none⟩) (n + m) cap')) w') : o.wp P a w K Q := by
  obtain ⟨g', cap', w', hr, h2, h3⟩ := run_append_two (P := P) w t o.type base e i z size bytes ht hi hz hsize hby hzs g n cap xs hown ad m c news hl hnews h1 h63 hbytes hbase
  unfold Oper.wp execOp
  simp only [ho, resolve, invoke, builtin, Sem.run_bind, Sem.run_pure, Result.andThen_ok, List.map_toArray, List.map_cons, List.map_nil, hs, hx, hr]
  exact h g' cap' w' h2 h3
end Go.Proofs.YtphmicbpkljmfaaGreat
