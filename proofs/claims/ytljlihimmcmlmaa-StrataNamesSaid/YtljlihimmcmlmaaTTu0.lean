/- Programs whose predicates are renumbered by a rotation: the same components, recursion, positivity, and diagnostics; no walk. -/
import Derived.Test.YtljlihimmcmlmaaTRl0
import Derived.Test.YtljlihimmcmlmaaTPs0
namespace Go.Proofs.Ytljlihimmcmlmaa
set_option linter.unusedVariables false
set_option linter.unusedSimpArgs false
open Go.RowKit
def rot (n k i : Nat) : Nat := (i + k) % n
theorem rot_eq {n k i : Nat} (hi : i < n) (hk : k < n) : rot n k i = if i + k < n then i + k else i + k - n := by
  unfold rot
  split
  · rename_i h; exact Nat.mod_eq_of_lt h
  · rename_i h
    rw [Nat.mod_eq_sub_mod (by omega), Nat.mod_eq_of_lt (by omega)]
theorem rot_lt {n k i : Nat} (hi : i < n) : rot n k i < n := Nat.mod_lt _ (by omega)
theorem rot_inj {n k i j : Nat} (hi : i < n) (hj : j < n) (hk : k < n) (h : rot n k i = rot n k j) : i = j := by
  rw [rot_eq hi hk, rot_eq hj hk] at h
  split at h <;> split at h <;> omega
theorem rot_sur {n k v : Nat} (hv : v < n) (hk : k < n) : ∃ i, i < n ∧ rot n k i = v := by
  by_cases h : k ≤ v
  · exact ⟨v - k, by omega, by rw [rot_eq (by omega) hk]; split <;> omega⟩
  · exact ⟨v + n - k, by omega, by rw [rot_eq (by omega) hk]; split <;> omega⟩
def rotX (n k : Nat) (x : Int) : Int := if 0 ≤ x ∧ x < n then ((rot n k x.toNat : Nat) : Int) else x
def rotL (n k : Nat) (l : Lit9) : Lit9 := { l with pred := rotX n k l.pred }
def rotC (n k : Nat) (c : Int × List Lit9) : Int × List Lit9 := (rotX n k c.1, c.2.map (rotL n k))
theorem rotX_in {n k : Nat} {x : Int} : (0 ≤ rotX n k x ∧ rotX n k x < n) ↔ (0 ≤ x ∧ x < n) := by
  unfold rotX
  split
  · rename_i h
    have := rot_lt (n := n) (k := k) (i := x.toNat) (by omega)
    exact ⟨fun _ => h, fun _ => ⟨by omega, by omega⟩⟩
  · exact Iff.rfl
theorem rotX_nat {n k : Nat} {x : Int} (h : 0 ≤ x ∧ x < n) : (rotX n k x).toNat = rot n k x.toNat := by
  unfold rotX
  rw [if_pos h, Int.toNat_natCast]
structure Turn (p q : Pg) (n k : Nat) : Prop where
  pn : p.prs.length = n
  qn : q.prs.length = n
  kn : k < n
  of : ∀ i < n, (q.prs.map Pr.of).getD (rot n k i) (-1) = (p.prs.map Pr.of).getD i (-1)
  rus : q.rus.map coreR = (p.rus.map coreR).map (rotC n k)
section
variable {p q : Pg} {n k : Nat}
theorem edgeC_rot (c : Int × List Lit9) (l : Lit9) : edgeC n (rotC n k c) (rotL n k l) = edgeC n c l := by
  have h1 : (decide (0 ≤ rotX n k c.1) && decide (rotX n k c.1 < n)) = (decide (0 ≤ c.1) && decide (c.1 < n)) := by
    rw [Bool.eq_iff_iff]; simp only [Bool.and_eq_true, decide_eq_true_eq]; exact rotX_in
  have h2 : (decide (0 ≤ rotX n k l.pred) && decide (rotX n k l.pred < n)) = (decide (0 ≤ l.pred) && decide (l.pred < n)) := by
    rw [Bool.eq_iff_iff]; simp only [Bool.and_eq_true, decide_eq_true_eq]; exact rotX_in
  unfold edgeC rotC rotL
  dsimp only
  rw [h1, h2]
theorem edgeC_in {c : Int × List Lit9} {l : Lit9} (h : edgeC n c l = true) : (0 ≤ c.1 ∧ c.1 < n) ∧ (0 ≤ l.pred ∧ l.pred < n) := by
  unfold edgeC at h
  simp only [Bool.and_eq_true, decide_eq_true_eq] at h
  exact ⟨h.1.2, h.2⟩
theorem Turn.edges (h : Turn p q n k) (e : Tj.Ed) : e ∈ edges q ↔ ∃ f ∈ edges p, e = ⟨rot n k f.a, rot n k f.b, f.g⟩ := by
  rw [mem_edgesC, h.rus, h.qn]
  constructor
  · rintro ⟨c, hc, l, hl, hk, rfl⟩
    obtain ⟨d, hd, rfl⟩ := List.mem_map.1 hc
    obtain ⟨m, hm, rfl⟩ := List.mem_map.1 hl
    rw [edgeC_rot] at hk
    obtain ⟨h1, h2⟩ := edgeC_in hk
    refine ⟨⟨d.1.toNat, m.pred.toNat, neg m⟩, mem_edgesC.2 ⟨d, hd, m, hm, by rw [h.pn]; exact hk, rfl⟩, ?_⟩
    unfold rotC rotL
    dsimp only
    rw [rotX_nat h1, rotX_nat h2]
    rfl
  · rintro ⟨f, hf, rfl⟩
    obtain ⟨d, hd, m, hm, hk, rfl⟩ := mem_edgesC.1 hf
    rw [h.pn] at hk
    obtain ⟨h1, h2⟩ := edgeC_in hk
    refine ⟨rotC n k d, List.mem_map_of_mem hd, rotL n k m, List.mem_map_of_mem hm, by rw [edgeC_rot]; exact hk, ?_⟩
    unfold rotC rotL
    dsimp only
    rw [rotX_nat h1, rotX_nat h2]
    rfl
theorem Turn.fine (h : Turn p q n k) (hf : PgFine p n) : PgFine q n := by
  have hlen : q.rus.length = p.rus.length := by have := congrArg List.length h.rus; simpa using this
  have := pgFine (p := q) (by rw [h.qn]; exact hf.n1) (by rw [hlen]; exact hf.rs) (fun r hr => by
    have hm : coreR r ∈ q.rus.map coreR := List.mem_map_of_mem hr
    rw [h.rus] at hm
    obtain ⟨d, hd, e⟩ := List.mem_map.1 hm
    obtain ⟨s, hs, rfl⟩ := List.mem_map.1 hd
    have h2 : r.lits = s.lits.map (rotL n k) := (congrArg Prod.snd e).symm
    rw [h2, List.length_map]
    exact hf.ls s hs)
  rw [h.qn] at this
  exact this
theorem Turn.next (h : Turn p q n k) (hf : PgFine p n) {a y : Nat} (ha : a < n) : y ∈ Tj.next (Go.Proofs.Ytljlihimmcmlmaa.edges q) (rot n k a) ↔ ∃ b, b < n ∧ y = rot n k b ∧ b ∈ Tj.next (Go.Proofs.Ytljlihimmcmlmaa.edges p) a := by
  rw [Tj.mem_next]
  constructor
  · rintro ⟨e, he, h1, rfl⟩
    obtain ⟨f, hfm, rfl⟩ := (h.edges e).1 he
    obtain ⟨h2, h3⟩ := hf.es f hfm
    have := rot_inj h2 ha h.kn h1
    exact ⟨f.b, h3, rfl, Tj.mem_next.2 ⟨f, hfm, this, rfl⟩⟩
  · rintro ⟨b, hb, rfl, hm⟩
    obtain ⟨f, hfm, rfl, rfl⟩ := Tj.mem_next.1 hm
    exact ⟨_, (h.edges _).2 ⟨f, hfm, rfl⟩, rfl, rfl⟩
theorem Turn.reach1 (h : Turn p q n k) (hf : PgFine p n) {x y : Nat} (hr : Tj.Reach (Tj.next (Go.Proofs.Ytljlihimmcmlmaa.edges q)) x y) : ∀ a, a < n → x = rot n k a → ∃ b, b < n ∧ y = rot n k b ∧ Tj.Reach (Tj.next (Go.Proofs.Ytljlihimmcmlmaa.edges p)) a b := by
  induction hr with
  | refl => exact fun a ha hx => ⟨a, ha, hx, Tj.Reach.refl⟩
  | @step x y z hy _ ih =>
    intro a ha hx
    subst hx
    obtain ⟨b, hb, rfl, hm⟩ := (h.next hf ha).1 hy
    obtain ⟨c, hc, hz, hr⟩ := ih b hb rfl
    exact ⟨c, hc, hz, Tj.Reach.step hm hr⟩
theorem Turn.reach2 (h : Turn p q n k) (hf : PgFine p n) {a b : Nat} (hr : Tj.Reach (Tj.next (Go.Proofs.Ytljlihimmcmlmaa.edges p)) a b) : a < n → Tj.Reach (Tj.next (Go.Proofs.Ytljlihimmcmlmaa.edges q)) (rot n k a) (rot n k b) := by
  induction hr with
  | refl => exact fun _ => Tj.Reach.refl
  | @step x y z hy _ ih =>
    intro hx
    obtain ⟨f, hfm, rfl, rfl⟩ := Tj.mem_next.1 hy
    obtain ⟨h2, h3⟩ := hf.es f hfm
    exact Tj.Reach.step ((h.next hf h2).2 ⟨f.b, h3, rfl, hy⟩) (ih h3)
theorem Turn.reach (h : Turn p q n k) (hf : PgFine p n) {a b : Nat} (ha : a < n) (hb : b < n) : Tj.Reach (Tj.next (Go.Proofs.Ytljlihimmcmlmaa.edges q)) (rot n k a) (rot n k b) ↔ Tj.Reach (Tj.next (Go.Proofs.Ytljlihimmcmlmaa.edges p)) a b := by
  constructor
  · intro hr
    obtain ⟨c, hc, e, hr⟩ := h.reach1 hf hr a ha rfl
    rw [rot_inj hb hc h.kn e]
    exact hr
  · exact fun hr => h.reach2 hf hr ha
theorem Turn.eqv (h : Turn p q n k) (hf : PgFine p n) {a b : Nat} (ha : a < n) (hb : b < n) : Tj.Eqv (Tj.next (Go.Proofs.Ytljlihimmcmlmaa.edges q)) (rot n k a) (rot n k b) ↔ Tj.Eqv (Tj.next (Go.Proofs.Ytljlihimmcmlmaa.edges p)) a b := by
  unfold Tj.Eqv
  rw [h.reach hf ha hb, h.reach hf hb ha]
theorem Turn.dep (h : Turn p q n k) (hf : PgFine p n) {a b : Nat} (ha : a < n) (hb : b < n) : Tj.Dep (Tj.next (Go.Proofs.Ytljlihimmcmlmaa.edges q)) (rot n k a) (rot n k b) ↔ Tj.Dep (Tj.next (Go.Proofs.Ytljlihimmcmlmaa.edges p)) a b := by
  unfold Tj.Dep
  constructor
  · rintro ⟨c, hc, hr⟩
    obtain ⟨d, hd, rfl, hm⟩ := (h.next hf ha).1 hc
    exact ⟨d, hm, (h.reach hf hd hb).1 hr⟩
  · rintro ⟨c, hc, hr⟩
    have hcn : c < n := next_in hf.es a ha c hc
    exact ⟨rot n k c, (h.next hf ha).2 ⟨c, hcn, rfl, hc⟩, (h.reach hf hcn hb).2 hr⟩
theorem Turn.srec (h : Turn p q n k) (hf : PgFine p n) {a : Nat} (ha : a < n) : srec (Go.Proofs.Ytljlihimmcmlmaa.edges q) n (rot n k a) = Go.Proofs.Ytljlihimmcmlmaa.srec (Go.Proofs.Ytljlihimmcmlmaa.edges p) n a := by
  have hq := h.fine hf
  rw [srec_eq hq (rot_lt ha), srec_eq hf ha, Bool.eq_iff_iff, fine_iff hq _ _ (rot_lt ha) (rot_lt ha), fine_iff hf _ _ ha ha]
  exact h.dep hf ha ha
theorem Turn.spos (h : Turn p q n k) (hf : PgFine p n) {a : Nat} (ha : a < n) : spos q (rot n k a) = Go.Proofs.Ytljlihimmcmlmaa.spos p a := by
  rw [Bool.eq_iff_iff, spos_iff, spos_iff]
  constructor
  · rintro ⟨h1, h2⟩
    refine ⟨fun v hv => ?_, fun e he hg hr => ?_⟩
    · have hvn := reach_in hf hv ha
      rw [← h.of v hvn]
      exact h1 _ (h.reach2 hf hv ha)
    · exact h2 _ ((h.edges _).2 ⟨e, he, rfl⟩) hg (h.reach2 hf hr ha)
  · rintro ⟨h1, h2⟩
    refine ⟨fun v hv => ?_, fun e he hg hr => ?_⟩
    · obtain ⟨b, hb, rfl, hr⟩ := h.reach1 hf hv a ha rfl
      rw [h.of b hb]
      exact h1 b hr
    · obtain ⟨f, hfm, rfl⟩ := (h.edges e).1 he
      exact h2 f hfm hg ((h.reach hf ha (hf.es f hfm).1).1 hr)
theorem find_map_eq {α β : Type} {f : α → β} {P : α → Bool} {Q : β → Bool} : ∀ {l : List α}, (∀ x ∈ l, Q (f x) = P x) → (l.map f).find? Q = (l.find? P).map f
  | [], _ => rfl
  | x :: l, h => by
    rw [List.map_cons, List.find?_cons, List.find?_cons, h x (by simp)]
    cases P x with
    | true => rfl
    | false => exact find_map_eq fun y hy => h y (List.mem_cons_of_mem _ hy)
theorem Turn.bads (h : Turn p q n k) (hf : PgFine p n) : bads q (sameC (Tj.whole (Tj.next (Go.Proofs.Ytljlihimmcmlmaa.edges q)) n).of) = Go.Proofs.Ytljlihimmcmlmaa.bads p (sameC (Tj.whole (Tj.next (Go.Proofs.Ytljlihimmcmlmaa.edges p)) n).of) := by
  have hq := h.fine hf
  rw [bads_eq hq, bads_eq hf]
  unfold Go.Proofs.Ytljlihimmcmlmaa.bads
  congr 1
  have key : ∀ (c : Int × List Lit9) (l : Lit9), (edgeC n (rotC n k c) (rotL n k l) && neg (rotL n k l) && Tj.tog (Tj.depends n (Go.Proofs.Ytljlihimmcmlmaa.edges q)) (rotC n k c).1.toNat (rotL n k l).pred.toNat) = (edgeC n c l && neg l && Tj.tog (Tj.depends n (Go.Proofs.Ytljlihimmcmlmaa.edges p)) c.1.toNat l.pred.toNat) := fun c l => by
    rw [edgeC_rot, show neg (rotL n k l) = neg l from rfl]
    cases hk : edgeC n c l with
    | false => rfl
    | true =>
      obtain ⟨h1, h2⟩ := edgeC_in hk
      have e1 : (rotC n k c).1.toNat = rot n k c.1.toNat := rotX_nat h1
      have e2 : (rotL n k l).pred.toNat = rot n k l.pred.toNat := rotX_nat h2
      have i1 : c.1.toNat < n := by omega
      have i2 : l.pred.toNat < n := by omega
      rw [e1, e2]
      congr 1
      rw [Bool.eq_iff_iff, Tj.tog_iff (fine_iff hq) (rot_lt i1) (rot_lt i2), Tj.tog_iff (fine_iff hf) i1 i2]
      exact h.eqv hf i1 i2
  -- what a rule says, by its core
  have core : ∀ (s : Pg) (hs : s.prs.length = n) (M : Tj.Mx), s.rus.filterMap (badRu s (Tj.tog M)) = (s.rus.map coreR).filterMap fun c => (c.2.find? fun l => edgeC n c l && neg l && Tj.tog M c.1.toNat l.pred.toNat).map fun l => ((90 : Int), l.pos) := fun s hs M => by
    rw [List.filterMap_map]
    congr 1
    funext r
    show badRu s (Tj.tog M) r = _
    unfold badRu
    subst hs
    rfl
  rw [core q h.qn, core p h.pn, h.rus, List.filterMap_map]
  congr 1
  funext c
  show ((c.2.map (rotL n k)).find? _).map _ = _
  rw [find_map_eq (P := fun l => edgeC n c l && neg l && Tj.tog (Tj.depends n (Go.Proofs.Ytljlihimmcmlmaa.edges p)) c.1.toNat l.pred.toNat) (fun l _ => key c l), Option.map_map]
  rfl
theorem Turn.rows (h : Turn p q n k) (hf : PgFine p n) {L M : List (List Nat)} (hL : Tj.Lay (Tj.next (Go.Proofs.Ytljlihimmcmlmaa.edges p)) n L) (hM : Tj.Lay (Tj.next (Go.Proofs.Ytljlihimmcmlmaa.edges q)) n M) {x y : Nat} (hx : x < n) (hy : y < n) : Tj.rowOf M (rot n k x) = Tj.rowOf M (rot n k y) ↔ Tj.rowOf L x = Tj.rowOf L y := by
  rw [hM.same (rot_lt hx) (rot_lt hy), hL.same hx hy]
  exact h.eqv hf hx hy
end
end Go.Proofs.Ytljlihimmcmlmaa
