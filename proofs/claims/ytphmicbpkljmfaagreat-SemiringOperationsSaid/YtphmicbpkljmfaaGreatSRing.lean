/- The walks of the methods of families: zero, one, variable, plus. -/
import Derived.Test.YtphmicbpkljmfaaGreatSOps
import Derived.Test.YtphmicbpkljmfaaGreatSCirc
namespace Go.Proofs.YtphmicbpkljmfaaGreat
set_option linter.unusedVariables false
set_option linter.unusedSimpArgs false
open Go.RowKit Go.Sort
/-- A set of numbers out of X, in order. -/
def Ok (X s : List Int) : Prop := Fm.Inc s ∧ s ⊆ X
theorem Ok.len {X s : List Int} (h : Ok X s) : s.length ≤ X.length := h.1.nodup.length_le_of_subset h.2
/-- A family in memory, of few sets out of X. -/
structure FamS (w : World) (v : Value) (F : List (List Int)) (X : List Int) : Prop where
  mem : FamV w v F
  few : F.length ≤ 200
  ok : ∀ s ∈ F, Ok X s
theorem FamS.below {w w' : World} {v : Value} {F : List (List Int)} {X : List Int} (h : FamS w v F X) (hb : Below w.heap.size w w') : FamS w' v F X := ⟨h.mem.below hb, h.few, h.ok⟩
theorem FamS.apart {S : List Nat} {w w' : World} {v : Value} {F : List (List Int)} {X : List Int} (h : FamS w v F X) (ha : Apart w.heap.size S w w') (hS : OddAll w S) : FamS w' v F X := ⟨h.mem.apart ha hS, h.few, h.ok⟩
/-- What an operation of the ring leaves: a family that says U, or the mark that one was too large. -/
def RingOut (bf : Nat) (fl : Bool) (X : List Int) (U : List Int → Prop) (w : World) (e : Ending) (w' : World) : Prop :=
  ∃ v' K fl', e = .returned v' ∧ FamS w' v' K X ∧ At w' bf 82 #[.bool fl'] ∧ (fl = true → fl' = true) ∧ (fl' = false → Fm.Fam K ∧ ∀ ts, Fm.Up K ts ↔ U ts) ∧ (fl' = true → fl = true ∨ ∃ L, Fm.Fam L ∧ (∀ ts, Fm.Up L ts ↔ U ts) ∧ 200 < L.length) ∧ Apart w.heap.size [bf] w w'
theorem zero_fam (bf : Nat) (w : World) : Calls Tryz.prog 111 #[.pointer (some ⟨bf, 0, none⟩)] w fun e w' => e = .returned (.slice none 0 0) ∧ w = w' := by
  go_enter Tryz.func111, Tryz.ntmps111
  go_wp2_with fail
  go_ret
  exact ⟨rfl, rfl⟩
theorem famV_one {w : World} {g p : Nat} (hp : At w p 3 #[]) (hg : At w g 53 #[.slice (some ⟨p, 0, none⟩) 0 0]) : FamV w (.slice (some ⟨g, 0, none⟩) 1 1) [[]] :=
  ⟨_, 1, rfl, Nat.le_refl _, by unfold maxLen; omega, ⟨(fun h => by cases h), fun ad e => by injection e with e; subst e; rfl⟩, fun _ => ⟨g, 0, [.slice (some ⟨p, 0, none⟩) 0 0], rfl, hg.lt, hdrs_one ⟨_, 0, rfl, Nat.le_refl _, by unfold maxLen; omega, (fun h => by cases h), fun h => absurd rfl h⟩, fun k v hk => by
    cases k with
    | zero => simp at hk; subst hk; have := hg.cell 0; simpa using this
    | succ k => simp at hk⟩⟩
theorem one_fam (bf : Nat) (X : List Int) (w : World) : Calls Tryz.prog 107 #[.pointer (some ⟨bf, 0, none⟩)] w fun e w' => ∃ v, e = .returned v ∧ FamS w' v [[]] X ∧ Below w.heap.size w w' := by
  have h1 : At ((w.alloc (.cells #[] 3)).alloc (.cells #[.slice (some ⟨w.heap.size, 0, none⟩) 0 0] 53)) w.heap.size 3 #[] := (At.new _ _ _).alloc _
  have h2 : At ((w.alloc (.cells #[] 3)).alloc (.cells #[.slice (some ⟨w.heap.size, 0, none⟩) 0 0] 53)) (w.heap.size + 1) 53 #[.slice (some ⟨w.heap.size, 0, none⟩) 0 0] := At.newAt (by simp) _ _
  have H := Lib.hid (famV_one h1 h2)
  clear h1 h2
  go_enter Tryz.func107, Tryz.ntmps107
  go_wp2_with fail
  go_ret
  exact ⟨_, rfl, ⟨H.out, by simp, fun s hs => by simp at hs; subst hs; exact ⟨by simp, by simp⟩⟩, (below1 w _).alloc (by simp) _⟩
theorem famV_var {w : World} {g p : Nat} {n : Int} (hp : At w p 3 #[.int .i64 n]) (hg : At w g 53 #[.slice (some ⟨p, 0, none⟩) 1 1]) : FamV w (.slice (some ⟨g, 0, none⟩) 1 1) [[n]] :=
  ⟨_, 1, rfl, Nat.le_refl _, by unfold maxLen; omega, ⟨(fun h => by cases h), fun ad e => by injection e with e; subst e; rfl⟩, fun _ => ⟨g, 0, [.slice (some ⟨p, 0, none⟩) 1 1], rfl, hg.lt, hdrs_one ⟨_, 1, rfl, Nat.le_refl _, by unfold maxLen; omega, (fun h => by cases h), fun _ => ⟨p, 0, rfl, hp.lt, fun k x hk => by
      cases k with
      | zero => simp at hk; subst hk; have := hp.cell 0; simpa using this
      | succ k => simp at hk⟩⟩, fun k v hk => by
    cases k with
    | zero => simp at hk; subst hk; have := hg.cell 0; simpa using this
    | succ k => simp at hk⟩⟩
theorem variable_fam (bf : Nat) (X : List Int) (n : Int) (hn : n ∈ X) (w : World) : Calls Tryz.prog 110 #[.pointer (some ⟨bf, 0, none⟩), .int .i64 n] w fun e w' => ∃ v, e = .returned v ∧ FamS w' v [[n]] X ∧ Below w.heap.size w w' := by
  have h1 : At ((w.alloc (.cells #[.int .i64 n] 3)).alloc (.cells #[.slice (some ⟨w.heap.size, 0, none⟩) 1 1] 53)) w.heap.size 3 #[.int .i64 n] := (At.new _ _ _).alloc _
  have h2 : At ((w.alloc (.cells #[.int .i64 n] 3)).alloc (.cells #[.slice (some ⟨w.heap.size, 0, none⟩) 1 1] 53)) (w.heap.size + 1) 53 #[.slice (some ⟨w.heap.size, 0, none⟩) 1 1] := At.newAt (by simp) _ _
  have H := Lib.hid (famV_var h1 h2)
  clear h1 h2
  go_enter Tryz.func110, Tryz.ntmps110
  go_wp2_with fail
  go_ret
  exact ⟨_, rfl, ⟨H.out, by simp, fun s hs => by simp at hs; subst hs; exact ⟨by simp, by simpa using hn⟩⟩, (below1 w _).alloc (by simp) _⟩
theorem ring_of_min {bf : Nat} {fl : Bool} {X : List Int} {L : List (List Int)} {U : List Int → Prop} {w w1 w' : World} {e : Ending} (hb : Below w.heap.size w w1) (hL : ∀ s ∈ L, Ok X s) (hU : ∀ ts, Fm.Up L ts ↔ U ts) (h : MinOut w.heap.size bf fl L w1 e w') : RingOut bf fl X U w e w' := by
  obtain ⟨v', K, fl', h1, h2, h3, h4, h5, h6, h7, h8, h9⟩ := h
  refine ⟨v', K, fl', h1, ⟨h2, h3, fun s hs => hL s (h4 s hs)⟩, h5, h6, fun h => ?_, fun h => ?_, (apart_of_below hb _).trans h9⟩
  · obtain ⟨a, b⟩ := h7 h
    exact ⟨a, fun ts => (b ts).trans (hU ts)⟩
  · rcases h8 h with h | ⟨M, a, b, c⟩
    · exact Or.inl h
    · exact Or.inr ⟨M, a, fun ts => (b ts).trans (hU ts), c⟩
set_option maxHeartbeats 1000000 in
theorem plus_fam (bf : Nat) (fl : Bool) (X : List Int) (va vb : Value) (F G : List (List Int)) (w : World) (hX : X.length ≤ 20000) (hF : FamS w va F X) (hG : FamS w vb G X) (hf : At w bf 82 #[.bool fl]) :
    Calls Tryz.prog 108 #[.pointer (some ⟨bf, 0, none⟩), va, vb] w (RingOut bf fl X (fun ts => Fm.Up (F ++ G) ts) w) := by
  obtain ⟨in0, hi0, hz0, hz1, hz2⟩ := info_parts set_info
  obtain ⟨⟨A, c, rfl, a1, a2, a3, a4⟩, a5, a6⟩ := hF
  obtain ⟨⟨B, d, rfl, b1, b2, b3, b4⟩, b5, b6⟩ := hG
  have HC := Lib.hid (clonefam_any A c F w (by omega) a3.1 a4)
  have hlt := hf.lt
  go_enter Tryz.func108, Tryz.ntmps108
  go_wp2_with fail
  refine HC.out.mono ?_
  rintro e w1 ⟨v1, rfl, vs1, o1, hd1, bw1⟩
  obtain ⟨vs2, hd2, hn2'⟩ := b4.news
  have hn2 : ∀ ad, B = some ad → ∀ j u, vs2[j]? = some u → w1.cell? (ad.add j) = some u := fun ad he j u hu => (bw1.cell (cell_lt (hn2' ad he j u hu))).trans (hn2' ad he j u hu)
  have hone := hd2.one
  have hl2 := hd2.1
  have HD := Lib.hid (hd1.append hd2)
  clear hd1 hd2 HC hn2'
  go_wp2_with (first
    | (at_builtin; go_loud (refine wpList_append_from rfl (.tmp 9) (.tmp 10) 50 rfl w.heap.size 53 in0 _ 1 24 Tryz.underlying50 hi0 hz0 hz1 hz2 rfl (by omega) v1 F.length vs1 rfl o1 B G.length d vs2 rfl (by omega) b3.1 hn2 hone (by unfold maxLen; omega) (by omega) bw1.size ?_); intro v2 w2 o2 g2))
  have bw2 : Below w.heap.size w w2 := bw1.grown g2 bw1.size (fun z hz => (own_lt o1 hz).1)
  have hdw : Hdrs w2 (vs1 ++ vs2) (F ++ G) := HD.out.below bw2
  refine (minimal_any w.heap.size bf fl v2 (vs1 ++ vs2) (F ++ G) w2 (by rw [List.length_append]; exact o2) hdw (fun s hs => (List.mem_append.1 hs).elim (fun h => (a6 s h).1) fun h => (b6 s h).1) (fun s hs => by
    have : Ok X s := (List.mem_append.1 hs).elim (a6 s) (b6 s)
    have := this.len; omega) bw2.size (by simp; omega) (hf.below bw2 hlt)).mono ?_
  intro e w3 hM
  have hR := ring_of_min bw2 (fun s hs => (List.mem_append.1 hs).elim (a6 s) (b6 s)) (fun ts => Iff.rfl) hM
  obtain ⟨v', K, fl', rfl, r⟩ := hR
  go_wp2_with fail
  go_ret
  exact ⟨v', K, fl', rfl, r⟩
theorem prods_take {F G : List (List Int)} {i : Nat} {x : List Int} (h : F[i]? = some x) : Fm.prods (F.take (i + 1)) G = Fm.prods (F.take i) G ++ G.map fun y => Fm.uni x y := by
  rw [take_more h]; unfold Fm.prods; rw [List.flatMap_append]; simp
theorem map_take {x : List Int} {G : List (List Int)} {k : Nat} {y : List Int} (h : G[k]? = some y) : (G.take (k + 1)).map (fun y => Fm.uni x y) = (G.take k).map (fun y => Fm.uni x y) ++ [Fm.uni x y] := by
  rw [take_more h]; simp
theorem prods_len (F G : List (List Int)) : (Fm.prods F G).length = F.length * G.length := by
  unfold Fm.prods
  induction F with
  | nil => simp
  | cons a r ih => simp only [List.flatMap_cons, List.length_append, List.length_map, ih, List.length_cons]; rw [Nat.add_mul]; omega
theorem prods_ok {F G : List (List Int)} {X : List Int} (hF : ∀ s ∈ F, Ok X s) (hG : ∀ s ∈ G, Ok X s) : ∀ s ∈ Fm.prods F G, Ok X s := by
  intro s h
  refine ⟨Fm.prods_inc (fun s h => (hF s h).1) (fun s h => (hG s h).1) s h, ?_⟩
  obtain ⟨a, ha, h⟩ := List.mem_flatMap.1 h
  obtain ⟨b, hb, rfl⟩ := List.mem_map.1 h
  exact Fm.uni_sub.2 ⟨(hF a ha).2, (hG b hb).2⟩
theorem uni_is {x y : List Int} (hx : Fm.Inc x) (hy : Fm.Inc y) : Lib.compact (sorted (x ++ y)) = Fm.uni x y := by
  obtain ⟨h1, h2⟩ := compact_inc (sorted_le (x ++ y))
  exact hx.uni hy h1 fun z => by rw [h2, (sorted_perm _).mem_iff, List.mem_append]
/-- Headers whose blocks hold numbers. -/
def HdrsT (w : World) (t : TypeId) (vs : List Value) (F : List (List Int)) : Prop := Hdrs w vs F ∧ ∀ v ∈ vs, Typ w t v
theorem HdrsT.below {w w' : World} {t : TypeId} {vs : List Value} {F : List (List Int)} (h : HdrsT w t vs F) (hb : Below w.heap.size w w') : HdrsT w' t vs F := ⟨h.1.below hb, fun v hv => (h.2 v hv).below hb⟩
theorem HdrsT.grown {w w' : World} {t : TypeId} {vs : List Value} {F : List (List Int)} {r : Option Nat} (h : HdrsT w t vs F) (hg : w.grownBy w' r) (hr : ∀ k cs fr, r = some k → w.heap[k]? ≠ some (.cells cs t fr)) : HdrsT w' t vs F :=
  ⟨⟨h.1.1, fun k v s h1 h2 => (h.1.2 k v s h1 h2).grownT (h.2 v (List.mem_of_getElem? h1)) hg hr⟩, fun v hv => (h.2 v hv).grown hg hr⟩
theorem HdrsT.snoc {w : World} {t : TypeId} {vs : List Value} {F : List (List Int)} {v : Value} {s : List Int} (h : HdrsT w t vs F) (h1 : SetV w v s) (h2 : Typ w t v) : HdrsT w t (vs ++ [v]) (F ++ [s]) :=
  ⟨h.1.snoc h1, fun u hu => by
    rcases List.mem_append.1 hu with h' | h'
    · exact h.2 u h'
    · simp at h'; subst h'; exact h2⟩
theorem hdrsT_nil (w : World) (t : TypeId) : HdrsT w t [] [] := ⟨hdrs_nil w, fun v hv => by cases hv⟩
end Go.Proofs.YtphmicbpkljmfaaGreat
