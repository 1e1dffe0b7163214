/- A region that draws its order: each operation shown once, from what holds of the values that it waits for; no order is walked. No program in sight. -/
import Derived.Calls
import Derived.Orders
import Derived.Below
import Derived.Lib.Hide
namespace Go.Proofs.YtpcmlkpnjimbiaaDoor
set_option linter.unusedVariables false
set_option linter.unusedSimpArgs false
open Go.RowKit
section
variable {P : Program} {ops : Array Oper} {Q : Exit → Act → World → Prop}
/-- Operation i waits for operation j. -/
def waits (ops : Array Oper) (i j : Nat) : Bool := ((ops[i]?).map fun o => o.after.any fun e => Region.binds .any e && e.on == j).getD false
/-- Every operation waits for earlier ones alone. -/
def tidy (ops : Array Oper) : Bool := (List.range ops.size).all fun i => ((ops[i]?).map fun o => o.after.all fun e => !Region.binds .any e || decide (e.on < i)).getD true
/-- Operation i waits, through others too, for operation j. -/
def behind (ops : Array Oper) : Nat → Nat → Nat → Bool
 | 0, _, _ => false
 | f + 1, i, j => waits ops i j || (List.range i).any fun k => waits ops i k && behind ops f k j
theorem waits_iff {i j : Nat} {o : Oper} (ho : ops[i]? = some o) : waits ops i j = true ↔ ∃ e ∈ o.after, Region.binds .any e = true ∧ e.on = j := by
 unfold waits
 rw [ho]
 simp only [Option.map_some, Option.getD_some, Array.any_eq_true, Bool.and_eq_true, beq_iff_eq]
 constructor
 ·rintro ⟨i, hi, h1, h2⟩; exact ⟨_, Array.getElem_mem hi, h1, h2⟩
 ·rintro ⟨e, he, h1, h2⟩
  obtain ⟨i, hi, rfl⟩ := Array.mem_iff_getElem.1 he
  exact ⟨i, hi, h1, h2⟩
theorem waits_lt (ht : tidy ops = true) {i j : Nat} (h : waits ops i j = true) : j < i ∧ i < ops.size := by
 cases ho : ops[i]? with
 | none => unfold waits at h; rw [ho] at h; cases h
 | some o =>
  have hi := (Array.getElem?_eq_some_iff.1 ho).1
  unfold tidy at ht
  rw [List.all_eq_true] at ht
  have := ht i (List.mem_range.2 hi)
  rw [ho] at this
  obtain ⟨e, he, hb, rfl⟩ := (waits_iff ho).1 h
  simp only [Option.map_some, Option.getD_some] at this
  rw [Array.all_eq_true_iff_forall_mem] at this
  have := this e he
  rw [hb] at this
  exact ⟨by simpa using this, hi⟩
/-- Which operations have come up. -/
structure Listed (ops : Array Oper) (L : Nat → Bool) : Prop where
 down : ∀ i j, L i = true → waits ops i j = true → L j = true
theorem Listed.behind {L : Nat → Bool} (h : Listed ops L) : ∀ (f i j : Nat), (∀ k, waits ops i k = true → L k = true) → Go.Proofs.YtpcmlkpnjimbiaaDoor.behind ops f i j = true → L j = true
 | 0, _, _, _, hb => by cases hb
 | f + 1, i, j, hi, hb => by
  unfold Go.Proofs.YtpcmlkpnjimbiaaDoor.behind at hb
  rw [Bool.or_eq_true] at hb
  rcases hb with hb | hb
  ·exact hi j hb
  ·rw [List.any_eq_true] at hb
   obtain ⟨k, _, hk⟩ := hb
   rw [Bool.and_eq_true] at hk
   exact h.behind f k j (fun m hm => h.down k m (hi k hk.1) hm) hk.2
def mark (L : Nat → Bool) (i : Nat) : Nat → Bool := fun j => L j || decide (j = i)
/-- A region's orders, one operation at a time. -/
theorem wpAny_each (ht : tidy ops = true) (I : (Nat → Bool) → Act → World → Prop)
  (hstep : ∀ i L a w, i < ops.size → Listed ops L → L i = false → (∀ j, behind ops ops.size i j = true → L j = true) → I L a w → wpOp P ops Q i (I (mark L i)) a w)
  (hend : ∀ L a w, (∀ i, i < ops.size → L i = true) → I L a w → Q .normal a w) :
  ∀ (fuel : Nat) (listed : Array Bool) (a : Act) (w : World), listed.size = ops.size → Listed ops (fun i => listed.getD i true) → ((List.range ops.size).filter fun i => !listed.getD i true).length ≤ fuel →
   I (fun i => listed.getD i true) a w → wpAny P .any ops Q fuel listed a w := by
 have key : ∀ (listed : Array Bool), listed.size = ops.size → Region.ready .any ops listed = [] → ∀ i, i < ops.size → listed.getD i true = true := by
  intro listed hsz hr i
  induction i using Nat.strongRecOn with
  | ind i ih =>
   intro hi
   cases hL : listed.getD i true with
   | true => rfl
   | false =>
    exfalso
    have ho := Array.getElem?_eq_getElem hi
    have : i ∈ Region.ready .any ops listed := mem_ready.2 ⟨hL, _, ho, fun e he hb => by
     have hw : waits ops i e.on = true := (waits_iff ho).2 ⟨e, he, hb, rfl⟩
     obtain ⟨h1, _⟩ := waits_lt ht hw
     have := ih e.on h1 (by omega)
     have hs : e.on < listed.size := by omega
     simpa [Array.getD, hs] using this⟩
    rw [hr] at this
    cases this
 intro fuel
 induction fuel with
 | zero =>
  intro listed a w hsz hd hf hI
  have hall : ∀ i, i < ops.size → listed.getD i true = true := by
   intro i hi
   have := List.length_eq_zero_iff.1 (Nat.le_zero.1 hf)
   rw [List.filter_eq_nil_iff] at this
   have := this i (List.mem_range.2 hi)
   simpa using this
  refine ⟨?_, hend _ _ _ hall hI⟩
  cases hr : Region.ready .any ops listed with
  | nil => rfl
  | cons x xs =>
   exfalso
   have hx : x ∈ Region.ready .any ops listed := by rw [hr]; simp
   obtain ⟨h0, o, ho, _⟩ := mem_ready.1 hx
   rw [hall x (Array.getElem?_eq_some_iff.1 ho).1] at h0
   cases h0
 | succ fuel ih =>
  intro listed a w hsz hd hf hI
  refine ⟨fun hr => hend _ _ _ (key listed hsz hr) hI, fun i hi => ?_⟩
  obtain ⟨h0, o, ho, hall⟩ := mem_ready.1 hi
  have hlt := (Array.getElem?_eq_some_iff.1 ho).1
  have hdeps : ∀ k, waits ops i k = true → (fun i => listed.getD i true) k = true := by
   intro k hk
   obtain ⟨e, he, hb, rfl⟩ := (waits_iff ho).1 hk
   have := hall e he hb
   have hs : e.on < listed.size := by
    have := (waits_lt ht hk).1
    omega
   simpa [Array.getD, hs] using this
  refine wpOp_mono (fun a' w' h => ?_) (hstep i _ a w hlt hd h0 (fun j hj => hd.behind _ i j hdeps hj) hI)
  have e : (fun j => (listed.setIfInBounds i true).getD j true) = mark (fun i => listed.getD i true) i := by
   funext j
   unfold mark
   by_cases hj : j = i
   ·subst hj
    have hs : j < listed.size := by omega
    simp [Array.getD, hs]
   ·have hne : ¬ i = j := fun h => hj h.symm
    by_cases hs : j < listed.size
    ·simp [Array.getD, hs, hj, hne, Array.getElem_setIfInBounds]
    ·simp [Array.getD, hs, hj]
  refine ih _ _ _ (by simpa using hsz) ?_ ?_ (by rw [e]; exact h)
  ·rw [e]
   refine ⟨fun m j hm hw => ?_⟩
   unfold mark at hm ⊢
   rw [Bool.or_eq_true] at hm ⊢
   rcases hm with hm | hm
   ·exact Or.inl (hd.down m j hm hw)
   ·have : m = i := by simpa using hm
    subst this
    exact Or.inl (hdeps j hw)
  ·have hsub : ((List.range ops.size).filter fun j => !(listed.setIfInBounds i true).getD j true).length < ((List.range ops.size).filter fun j => !listed.getD j true).length := by
    have e' : ∀ j, (listed.setIfInBounds i true).getD j true = mark (fun i => listed.getD i true) i j := fun j => congrFun e j
    simp only [e']
    have hgen : ∀ (l : List Nat), l.Nodup → i ∈ l → (l.filter fun j => !mark (fun i => listed.getD i true) i j).length < (l.filter fun j => !listed.getD j true).length := by
     intro l hnd hmem
     have h1 : (l.filter fun j => !mark (fun i => listed.getD i true) i j) = ((l.filter fun j => !listed.getD j true).filter fun j => !decide (j = i)) := by
      rw [List.filter_filter]
      congr 1
      funext j
      show (!(listed.getD j true || decide (j = i))) = _
      cases listed.getD j true <;> cases decide (j = i) <;> rfl
     rw [h1]
     have hmem' : i ∈ (l.filter fun j => !listed.getD j true) := by rw [List.mem_filter]; exact ⟨hmem, by rw [h0]; rfl⟩
     have := List.length_filter_lt_length_iff_exists (p := fun j => !decide (j = i)) (l := (l.filter fun j => !listed.getD j true))
     exact this.2 ⟨i, hmem', by simp⟩
    exact hgen _ List.nodup_range (List.mem_range.2 hlt)
   omega
/-- The values of a region's operations laid over a frame. -/
def over (a : Act) : List Oper → Nat → (Nat → Value) → Act
 | [], _, _ => a
 | o :: r, k, v => (over a r (k + 1) v).put o.dst (v k)
/-- No two operations write one slot. -/
def apartDst : List Oper → Bool
 | [] => true
 | o :: r => r.all (fun o' => match o.dst, o'.dst with | some d, some d' => decide (d ≠ d') | _, _ => true) && apartDst r
def vset (v : Nat → Value) (i : Nat) (x : Value) : Nat → Value := fun j => if j = i then x else v j
theorem put_put (a : Act) (d : Option Tmp) (x y : Value) : (a.put d x).put d y = a.put d y := by
 cases d with
 | none => rfl
 | some d => simp [Act.put]
theorem over_far (a : Act) : ∀ (l : List Oper) (k : Nat) (v : Nat → Value) (i : Nat) (x : Value), i < k → over a l k (vset v i x) = over a l k v
 | [], _, _, _, _, _ => rfl
 | o :: r, k, v, i, x, h => by
  unfold over
  rw [over_far a r (k + 1) v i x (by omega)]
  congr 1
  unfold vset; rw [if_neg (by omega)]
theorem over_put (a : Act) : ∀ (l : List Oper) (k : Nat) (v : Nat → Value) (i : Nat) (o : Oper) (x : Value), apartDst l = true → l[i]? = some o → (over a l k v).put o.dst x = over a l k (vset v (k + i) x)
 | [], _, _, _, _, _, _, h => by simp at h
 | o :: r, k, v, 0, o', x, _, h => by
  simp at h; subst h
  unfold over
  rw [put_put, show k + 0 = k from rfl, over_far a r (k + 1) v k x (by omega)]
  have e : vset v k x k = x := if_pos rfl
  rw [e]
 | o :: r, k, v, i + 1, o', x, hd, h => by
  unfold apartDst at hd
  rw [Bool.and_eq_true, List.all_eq_true] at hd
  have hr : r[i]? = some o' := by simpa using h
  have hm : o' ∈ r := List.mem_of_getElem? hr
  have hne := hd.1 o' hm
  unfold over
  rw [Act.put_comm _ (v k) x (fun d e e' => by rw [e, e'] at hne; simp at hne), over_put a r (k + 1) v i o' x hd.2 hr]
  rw [show k + 1 + i = k + (i + 1) by omega]
  congr 1
  unfold vset; rw [if_neg (by omega)]
theorem put_same (a : Act) (d : Option Tmp) : a.put d (match d with | some d => a.tmps.getD d undef | none => undef) = a := by
 cases d with
 | none => rfl
 | some d =>
  simp only [Act.put]
  congr 1
  apply Array.ext_getElem?
  intro i
  rw [Array.getElem?_setIfInBounds]
  split
  ·rename_i h; subst h
   split
   ·rename_i h; simp [Array.getD, h]
   ·rename_i h; rw [Array.getElem?_eq_none (by omega)]
  ·rfl
theorem over_start (a : Act) : ∀ (l : List Oper) (k : Nat) (v : Nat → Value), (∀ i o, l[i]? = some o → v (k + i) = match o.dst with | some d => a.tmps.getD d undef | none => undef) → over a l k v = a
 | [], _, _, _ => rfl
 | o :: r, k, v, h => by
  unfold over
  rw [over_start a r (k + 1) v (fun i o ho => by have := h (i + 1) o (by simpa using ho); rw [← this]; congr 1; omega)]
  have := h 0 o (by simp)
  rw [Nat.add_zero] at this
  rw [this]
  exact put_same a o.dst
/-- What holds of an operation's value stays true when other operations come up. -/
def Lasting (J : World → Prop) (R : World → World → Prop) (T : Value → World → Prop) : Prop := ∀ x w w', J w → R w w' → T x w → T x w'
/-- The value is this one. -/
def Pin (c : Value) : Value → World → Prop := fun x _ => x = c
/-- The value is one that the walk finds. -/
def Vl {c : Value} : Value → World → Prop := fun x _ => x = c
theorem lasting_vl {J : World → Prop} {R : World → World → Prop} {c : Value} : Lasting J R (Vl (c := c)) := fun _ _ _ _ _ h => h
def Free : Value → World → Prop := fun _ _ => True
theorem lasting_free {J : World → Prop} {R : World → World → Prop} : Lasting J R Free := fun _ _ _ _ _ h => h
/-- What holds of operation i's value. -/
def tok (Ts : List (Value → World → Prop)) (i : Nat) : Value → World → Prop := Ts.getD i Free
/-- What an operation's slot holds when the region begins. -/
def startOf (a : Act) (l : List Oper) (i : Nat) : Value := match (l[i]?).bind (·.dst) with | some d => a.tmps.getD d undef | none => undef
/-- What is asked at each operation. -/
def asksAll (P : Program) (ops : Array Oper) (Q : Exit → Act → World → Prop) (F : (Nat → Value) → Act) (S : Nat → Value) (Ts : List (Value → World → Prop)) (J : World → Prop) (R : World → World → Prop) : List Oper → Nat → Prop
 | [], _ => True
 | o :: r, i => (∀ v w, Hid (J w) → Hid (∀ j, behind ops ops.size i j = true → tok Ts j (v j) w) → Hid (∀ j, behind ops ops.size j i = true → v j = S j) → ∀ K : Act → World → Prop, Hid (∀ x w', J w' → R w w' → tok Ts i x w' → K ((F v).put o.dst x) w') →
   if Region.wanted o (yielded ops (F v).tmps) then o.wp P (F v) w K Q else K ((F v).put o.dst undef) w) ∧ asksAll P ops Q F S Ts J R r (i + 1)
theorem asksAll_at {F : (Nat → Value) → Act} {S : Nat → Value} {Ts : List (Value → World → Prop)} {J : World → Prop} {R : World → World → Prop} : ∀ {l : List Oper} {i : Nat} {k : Nat} {o : Oper}, asksAll P ops Q F S Ts J R l i → l[k]? = some o →
  (∀ v w, Hid (J w) → Hid (∀ j, behind ops ops.size (i + k) j = true → tok Ts j (v j) w) → Hid (∀ j, behind ops ops.size j (i + k) = true → v j = S j) → ∀ K : Act → World → Prop, Hid (∀ x w', J w' → R w w' → tok Ts (i + k) x w' → K ((F v).put o.dst x) w') →
   if Region.wanted o (yielded ops (F v).tmps) then o.wp P (F v) w K Q else K ((F v).put o.dst undef) w)
 | [], _, _, _, _, h => by simp at h
 | o :: r, i, 0, o', ha, h => by simp at h; subst h; exact ha.1
 | o :: r, i, k + 1, o', ha, h => by
  have := asksAll_at (l := r) (i := i + 1) (k := k) ha.2 (by simpa using h)
  rw [show i + 1 + k = i + (k + 1) by omega] at this
  exact this
theorem behind_lt (ht : tidy ops = true) : ∀ (f i j : Nat), behind ops f i j = true → j < ops.size := by
 intro f
 induction f with
 | zero => intro i j h; cases h
 | succ f ih =>
  intro i j h
  unfold behind at h
  rw [Bool.or_eq_true] at h
  rcases h with h | h
  ·have := waits_lt ht h; omega
  ·rw [List.any_eq_true] at h
   obtain ⟨k, _, hk⟩ := h
   rw [Bool.and_eq_true] at hk
   exact ih k j hk.2
theorem behind_lt' (ht : tidy ops = true) : ∀ (f i j : Nat), behind ops f i j = true → i < ops.size := by
 intro f
 induction f with
 | zero => intro i j h; cases h
 | succ f ih =>
  intro i j h
  unfold behind at h
  rw [Bool.or_eq_true] at h
  rcases h with h | h
  ·exact (waits_lt ht h).2
  ·rw [List.any_eq_true] at h
   obtain ⟨k, _, hk⟩ := h
   rw [Bool.and_eq_true] at hk
   exact (waits_lt ht hk.1).2
/-- A region that draws its order: each operation once. J holds of all worlds on the way; R holds of the worlds before and behind an operation. -/
theorem wp_region_each {id : Nat} {a : Act} {w : World} {l : List Oper} (F : (Nat → Value) → Act) (J : World → Prop) (R : World → World → Prop) (Ts : List (Value → World → Prop))
  (hF : ∀ v, over a l 0 v = F v) (hm : P.follows .mixedOrders = true) (ht : tidy l.toArray = true) (hd : apartDst l = true) (hJ : J w.drew) (hT : ∀ T ∈ Ts, Lasting J R T)
  (hops : asksAll P l.toArray Q F (startOf a l) Ts J R l 0)
  (hend : ∀ v w, Hid (J w) → Hid (∀ i, i < l.length → tok Ts i (v i) w) → Q .normal (F v) w) : (Code.region id l.toArray true).wp P Q a w := by
 have hT' : ∀ i, Lasting J R (tok Ts i) := by
  intro i
  unfold tok
  rw [List.getD_eq_getElem?_getD]
  cases h : Ts[i]? with
  | none => exact lasting_free
  | some T => exact hT T (List.mem_of_getElem? h)
 refine wp_region_any hm ?_
 refine wpAny_each ht (fun L a' w' => J w' ∧ ∃ v, a' = F v ∧ (∀ i, i < l.length → L i = true → tok Ts i (v i) w') ∧ ∀ i, i < l.length → L i = false → v i = startOf a l i) ?_ ?_ _ _ _ _ (by simp) ⟨fun i j h => ?_⟩ ?_ ?_
 ·rintro i L a' w' hi hL hLi hdep ⟨hb', v, rfl, hv, hs⟩
  have hil : i < l.length := by simpa using hi
  have ho : l[i]? = some l[i] := List.getElem?_eq_getElem hil
  have ho' : l.toArray[i]? = some l[i] := by simp
  unfold wpOp
  rw [ho']
  simp only
  have hstep := asksAll_at hops ho v w' hb' (fun j hj => by
   rw [Nat.zero_add] at hj
   exact hv j (by have := behind_lt ht _ _ _ hj; simpa using this) (hdep j hj)) (fun j hj => by
   rw [Nat.zero_add] at hj
   have hjl := behind_lt' ht _ _ _ hj
   refine hs j (by simpa using hjl) ?_
   cases hLj : L j with
   | false => rfl
   | true =>
    have := hL.behind _ j i (fun k hk => hL.down j k hLj hk) hj
    rw [hLi] at this; cases this) (fun a2 w2 => J w2 ∧ ∃ v, a2 = F v ∧ (∀ k, k < l.length → mark L i k = true → tok Ts k (v k) w2) ∧ ∀ k, k < l.length → mark L i k = false → v k = startOf a l k) (fun x w2 hJ2 hb2 hx => by
    refine ⟨hJ2, vset v i x, ?_, ?_, ?_⟩
    ·rw [← hF, ← hF, over_put a l 0 v i _ x hd ho, Nat.zero_add]
    ·intro k hk hmk
     unfold vset
     by_cases e : k = i
     ·rw [if_pos e, e]; rw [Nat.zero_add] at hx; exact hx
     ·rw [if_neg e]
      unfold mark at hmk
      rw [Bool.or_eq_true] at hmk
      rcases hmk with h | h
      ·exact hT' k _ _ _ hb' hb2 (hv k hk h)
      ·exact absurd (by simpa using h) e
    ·intro k hk hmk
     unfold mark at hmk
     rw [Bool.or_eq_false_iff] at hmk
     unfold vset
     rw [if_neg (by simpa using hmk.2)]
     exact hs k hk hmk.1)
  split
  ·rename_i hw; rw [if_pos hw] at hstep; exact Or.inl hstep
  ·rename_i hw; rw [if_neg hw] at hstep; exact hstep
 ·rintro L a' w' hall ⟨hb', v, rfl, hv, _⟩
  exact hend v w' hb' (fun i hi => hv i hi (hall i (by simpa using hi)))
 ·intro hw
  have h1 := (waits_lt ht hw)
  exfalso
  have : (Array.replicate l.toArray.size false).getD i true = false := by
   have := h1.2
   simp [Array.getD] at this ⊢
   omega
  rw [this] at h
  cases h
 ·have := List.length_filter_le (fun i => !(Array.replicate l.toArray.size false).getD i true) (List.range l.toArray.size)
  simpa using this
 ·refine ⟨hJ, startOf a l, ?_, ?_, fun i _ _ => rfl⟩
  ·rw [← hF, over_start]
   intro i o ho
   unfold startOf
   rw [Nat.zero_add, ho]
   rfl
  ·intro i hi h
   exfalso
   simp [Array.getD, hi] at h
/-- Operations that leave the world below block B as it was. -/
def Onward (w w' : World) : Prop := Below w.heap.size w w'
theorem lasting_none {J : World → Prop} {R : World → World → Prop} : ∀ T ∈ ([] : List (Value → World → Prop)), Lasting J R T := fun _ h => by cases h
theorem lasting_cons {J : World → Prop} {R : World → World → Prop} {T : Value → World → Prop} {Ts : List (Value → World → Prop)} (h : Lasting J R T) (hs : ∀ T ∈ Ts, Lasting J R T) : ∀ T' ∈ T :: Ts, Lasting J R T' := by
 intro T' hT'
 rcases List.mem_cons.1 hT' with rfl | h'
 ·exact h
 ·exact hs _ h'
end
end Go.Proofs.YtpcmlkpnjimbiaaDoor
namespace Go.Proofs.YtpcmlkpnjimbiaaDoor
set_option linter.unusedVariables false
set_option linter.unusedSimpArgs false
open Go.RowKit
theorem behind_less {ops : Array Oper} (ht : tidy ops = true) : ∀ (f i j : Nat), behind ops f i j = true → j < i := by
 intro f
 induction f with
 | zero => intro i j h; cases h
 | succ f ih =>
  intro i j h
  unfold behind at h
  rw [Bool.or_eq_true] at h
  rcases h with h | h
  ·exact (waits_lt ht h).1
  ·rw [List.any_eq_true] at h
   obtain ⟨k, _, hk⟩ := h
   rw [Bool.and_eq_true] at hk
   have h1 := (waits_lt ht hk.1).1
   have h2 := ih k j hk.2
   omega
theorem wp_region_last {P : Program} {Q : Exit → Act → World → Prop} {id : Nat} {a : Act} {w : World} {l : List Oper} (m : Nat) (o : Oper) (F : (Nat → Value) → Act) (J : World → Prop) (R : World → World → Prop) (Ts : List (Value → World → Prop))
  (hF : ∀ v, over a l 0 v = F v) (hm : P.follows .mixedOrders = true) (ht : tidy l.toArray = true) (hd : apartDst l = true) (hlen : l.length = m + 1) (ho : l[m]? = some o) (hdst : o.dst = none) (hall : ((List.range m).all fun j => behind l.toArray l.toArray.size m j) = true)
  (hJ : J w.drew) (hT : ∀ T ∈ Ts, Lasting J R T)
  (hops : asksAll P l.toArray Q F (startOf a l) Ts J R (l.take m) 0)
  (hlast : ∀ v w, Hid (J w) → Hid (∀ i, i < m → tok Ts i (v i) w) → ∀ K : Act → World → Prop, Hid (∀ w', Q .normal (F v) w' → K (F v) w') → if Region.wanted o (yielded l.toArray (F v).tmps) then o.wp P (F v) w K Q else K (F v) w) : (Code.region id l.toArray true).wp P Q a w := by
 have hT' : ∀ i, Lasting J R (tok Ts i) := by
  intro i
  unfold tok
  rw [List.getD_eq_getElem?_getD]
  cases h : Ts[i]? with
  | none => exact lasting_free
  | some T => exact hT T (List.mem_of_getElem? h)
 have hbm : ∀ j, j < m → behind l.toArray l.toArray.size m j = true := fun j hj => by
  rw [List.all_eq_true] at hall; exact hall j (List.mem_range.2 hj)
 have hsz : l.toArray.size = m + 1 := by simpa using hlen
 refine wp_region_any hm ?_
 refine wpAny_each ht (fun L a' w' => (L m = false ∧ J w' ∧ ∃ v, a' = F v ∧ (∀ i, i < m → L i = true → tok Ts i (v i) w') ∧ ∀ i, i < l.length → L i = false → v i = startOf a l i) ∨ (L m = true ∧ Q .normal a' w')) ?_ ?_ _ _ _ _ (by simp) ⟨fun i j h => ?_⟩ ?_ ?_
 ·rintro i L a' w' hi hL hLi hdep hI
  have hil : i < l.length := by simpa using hi
  have ho1 : l[i]? = some l[i] := List.getElem?_eq_getElem hil
  have ho' : l.toArray[i]? = some l[i] := by simp
  unfold wpOp
  rw [ho']
  simp only
  rcases hI with ⟨hLm, hb', v, rfl, hv, hs⟩ | ⟨hLm, hq⟩
  ·by_cases him : i = m
   ·subst him
    have e : l[i] = o := by rw [ho1] at ho; exact Option.some.inj ho
    have hst := hlast v w' hb' (fun j hj => hv j hj (hdep j (hbm j hj))) (fun a2 w2 => Q .normal a2 w2) (fun w2 h => h)
    rw [e]
    split
    ·rename_i hw
     rw [if_pos hw] at hst
     refine Or.inl (Oper.wp_mono (fun a2 w2 h => Or.inr ⟨?_, h⟩) hst)
     unfold mark; simp
    ·rename_i hw
     rw [if_neg hw] at hst
     refine Or.inr ⟨by unfold mark; simp, ?_⟩
     rw [hdst]; exact hst
   ·have him' : i < m := by omega
    have hot : (l.take m)[i]? = some l[i] := by rw [List.getElem?_take, if_pos him']; exact ho1
    have hstep := asksAll_at hops hot v w' hb' (fun j hj => by
     rw [Nat.zero_add] at hj
     have h1 : j < i := by
      have := behind_less ht _ _ _ hj
      exact this
     exact hv j (by omega) (hdep j hj)) (fun j hj => by
     rw [Nat.zero_add] at hj
     have hjl := behind_lt' ht _ _ _ hj
     refine hs j (by simpa using hjl) ?_
     cases hLj : L j with
     | false => rfl
     | true =>
      have := hL.behind _ j i (fun k hk => hL.down j k hLj hk) hj
      rw [hLi] at this; cases this) (fun a2 w2 => (mark L i m = false ∧ J w2 ∧ ∃ v, a2 = F v ∧ (∀ k, k < m → mark L i k = true → tok Ts k (v k) w2) ∧ ∀ k, k < l.length → mark L i k = false → v k = startOf a l k) ∨ (mark L i m = true ∧ Q .normal a2 w2)) (fun x w2 hJ2 hb2 hx => by
     refine Or.inl ⟨?_, hJ2, vset v i x, ?_, ?_, ?_⟩
     ·unfold mark; rw [hLm, Bool.false_or]; exact decide_eq_false (by omega)
     ·rw [← hF, ← hF, over_put a l 0 v i _ x hd ho1, Nat.zero_add]
     ·intro k hk hmk
      unfold vset
      by_cases e : k = i
      ·rw [if_pos e, e]; rw [Nat.zero_add] at hx; exact hx
      ·rw [if_neg e]
       unfold mark at hmk
       rw [Bool.or_eq_true] at hmk
       rcases hmk with h | h
       ·exact hT' k _ _ _ hb' hb2 (hv k hk h)
       ·exact absurd (by simpa using h) e
     ·intro k hk hmk
      unfold mark at hmk
      rw [Bool.or_eq_false_iff] at hmk
      unfold vset
      rw [if_neg (by simpa using hmk.2)]
      exact hs k hk hmk.1)
    split
    ·rename_i hw; rw [if_pos hw] at hstep; exact Or.inl hstep
    ·rename_i hw; rw [if_neg hw] at hstep; exact hstep
  ·exfalso
   by_cases him : i = m
   ·subst him; rw [hLi] at hLm; cases hLm
   ·have := hL.behind _ m i (fun k hk => hL.down m k hLm hk) (hbm i (by omega))
    rw [hLi] at this; cases this
 ·rintro L a' w' hall hI
  rcases hI with ⟨hLm, _⟩ | ⟨_, hq⟩
  ·have := hall m (by omega)
   rw [hLm] at this; cases this
  ·exact hq
 ·intro hw
  have h1 := (waits_lt ht hw)
  exfalso
  have : (Array.replicate l.toArray.size false).getD i true = false := by
   have := h1.2
   simp [Array.getD] at this ⊢
   omega
  rw [this] at h
  cases h
 ·have := List.length_filter_le (fun i => !(Array.replicate l.toArray.size false).getD i true) (List.range l.toArray.size)
  simpa using this
 ·refine Or.inl ⟨?_, hJ, startOf a l, ?_, ?_, fun i _ _ => rfl⟩
  ·simp [Array.getD]; omega
  ·rw [← hF, over_start]
   intro i o ho
   unfold startOf
   rw [Nat.zero_add, ho]
   rfl
  ·intro i hi h
   exfalso
   simp [Array.getD, show i < l.length by omega] at h
end Go.Proofs.YtpcmlkpnjimbiaaDoor
namespace Go.Proofs.YtpcmlkpnjimbiaaDoor
set_option linter.unusedVariables false
set_option linter.unusedSimpArgs false
open Go.RowKit
section
variable {P : Program} {ops : Array Oper} {Q : Exit → Act → World → Prop}
/-- What is asked at each operation. -/
def asksRely (P : Program) (ops : Array Oper) (Q : Exit → Act → World → Prop) (F : (Nat → Value) → Act) (S : Nat → Value) (Ts : List (Value → World → Prop)) (J : World → Prop) (R : Nat → World → World → Prop) : List Oper → Nat → Prop
 | [], _ => True
 | o :: r, i => (∀ v w, Hid (J w) → Hid (∀ j, behind ops ops.size i j = true → tok Ts j (v j) w) → Hid (∀ j, behind ops ops.size j i = true → v j = S j) → ∀ K : Act → World → Prop, Hid (∀ x w', J w' → R i w w' → tok Ts i x w' → K ((F v).put o.dst x) w') →
   if Region.wanted o (yielded ops (F v).tmps) then o.wp P (F v) w K Q else K ((F v).put o.dst undef) w) ∧ asksRely P ops Q F S Ts J R r (i + 1)
/-- What holds of an operation's value stays true when an operation comes up behind it. -/
def RelyOk (ops : Array Oper) (J : World → Prop) (R : Nat → World → World → Prop) : List (Value → World → Prop) → Nat → Prop
 | [], _ => True
 | T :: Ts, j => (∀ i, i ≠ j → behind ops ops.size j i = false → Lasting J (R i) T) ∧ RelyOk ops J R Ts (j + 1)
end
end Go.Proofs.YtpcmlkpnjimbiaaDoor
namespace Go.Proofs.YtpcmlkpnjimbiaaDoor
set_option linter.unusedVariables false
set_option linter.unusedSimpArgs false
open Go.RowKit
end Go.Proofs.YtpcmlkpnjimbiaaDoor
