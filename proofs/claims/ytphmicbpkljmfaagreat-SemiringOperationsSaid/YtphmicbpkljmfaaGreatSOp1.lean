/- The plain laws of sums and products of nodes; the walk of equal. -/
import Derived.Test.YtphmicbpkljmfaaGreatSRe
import Derived.Test.YtphmicbpkljmfaaGreatSLaw0
namespace Go.Proofs.YtphmicbpkljmfaaGreat
set_option linter.unusedVariables false
set_option linter.unusedSimpArgs false
open Go.RowKit
open Cx (N fam Few)
theorem grow_get {l m : List N} (h : Cx.Grow l m) {j : Nat} (hj : j < l.length) : m[j]? = l[j]? := by
  obtain ⟨t, rfl⟩ := h.ext
  rw [List.getElem?_append_left hj]
theorem grow_fam {l m : List N} (hl : Cx.Good l) (h : Cx.Grow l m) {j : Nat} (hj : j < l.length) : fam m j = fam l j := by
  have hm : j < m.length := Nat.lt_of_lt_of_le hj h.le
  refine ((Cx.fam_is h.good hm).fam).eq (Cx.fam_is hl hj).fam fun ts => ?_
  rw [← Cx.eval_fam h.good hm, ← Cx.eval_fam hl hj, h.eval hj]
theorem grow_reach {l m : List N} (hl : Cx.Good l) (h : Cx.Grow l m) {j : Nat} (hj : j < l.length) {i : Nat} (hr : Cx.Reach m j i) : Cx.Reach l j i ∧ i ≤ j := by
  induction hr with
  | refl => exact ⟨Cx.Reach.refl, Nat.le_refl _⟩
  | @left k u hr hu h2 ih =>
    rw [grow_get h (by omega)] at hu
    have := hl.kids hu h2
    exact ⟨ih.1.left hu h2, by omega⟩
  | @right k u hr hu h2 ih =>
    rw [grow_get h (by omega)] at hu
    have := hl.kids hu h2
    exact ⟨ih.1.right hu h2, by omega⟩
theorem grow_few {l m : List N} (hl : Cx.Good l) (h : Cx.Grow l m) {j : Nat} (hj : j < l.length) (hf : Few l j) : Few m j := fun i hr => by
  obtain ⟨h1, h2⟩ := grow_reach hl h hj hr
  rw [grow_fam hl h (by omega)]
  exact hf i h1
theorem two_few {l : List N} (h : Cx.Good l) (hl : l.length < 20000) {a b : Nat} (ha : a < l.length) (hb : b < l.length) {op z o : Int} (hop : op = 3 ∧ z = 0 ∧ o = 1 ∨ op = 4 ∧ z = 1 ∧ o = 0) (fa : Few l a) (fb : Few l b) :
    ∀ k : Nat, (Cx.two l op a b z o).2 = (k : Int) → (fam (Cx.two l op a b z o).1 k).length ≤ 200 → Few (Cx.two l op a b z o).1 k := by
  intro k
  have hgr := (Cx.two_val h hl ha hb hop).1
  unfold Cx.two at hgr ⊢
  rw [if_neg (by simp [Cx.isIn_nat ha, Cx.isIn_nat hb])] at hgr ⊢
  split
  · rename_i hc
    intro hk _
    have hk : o = (k : Int) := hk
    rcases hop with ⟨rfl, rfl, rfl⟩ | ⟨rfl, rfl, rfl⟩
    · obtain rfl : k = 1 := by omega
      exact Cx.few_leaf h h.o (by simp [Cx.one])
    · obtain rfl : k = 0 := by omega
      exact Cx.few_leaf h h.z (by simp [Cx.zero])
  · rename_i hc
    rw [if_neg hc] at hgr
    split
    · intro hk _
      have hk : (a : Int) = (k : Int) := hk
      obtain rfl : a = k := by omega
      exact fa
    · rename_i hd
      rw [if_neg hd] at hgr
      split
      · intro hk _
        have hk : (b : Int) = (k : Int) := hk
        obtain rfl : b = k := by omega
        exact fb
      · rename_i he
        rw [if_neg he] at hgr
        intro hk hlen
        have hn : Cx.okB ⟨op, min (a : Int) b, max (a : Int) b⟩ l.length = true := by
          unfold Cx.okB Cx.leafB Cx.binary
          rcases hop with ⟨rfl, rfl, rfl⟩ | ⟨rfl, rfl, rfl⟩ <;> simp <;> omega
        obtain ⟨h1, k', h2, h3, _⟩ := Cx.put_val h hl hn
        obtain rfl : k' = k := by rw [h2] at hk; omega
        have h34 : op = 3 ∨ op = 4 := by rcases hop with ⟨h, _⟩ | ⟨h, _⟩ <;> simp [h]
        refine (Cx.few_two h3 h34 (a := min a b) (b := max a b) (by simp; omega) (by simp; omega)).2 ⟨hlen, ?_, ?_⟩
        · rcases Nat.lt_or_ge a b with hab | hab
          · rw [show min a b = a by omega]; exact grow_few h h1 ha fa
          · rw [show min a b = b by omega]; exact grow_few h h1 hb fb
        · rcases Nat.lt_or_ge a b with hab | hab
          · rw [show max a b = b by omega]; exact grow_few h h1 hb fb
          · rw [show max a b = a by omega]; exact grow_few h h1 ha fa
theorem two_mem {l : List N} {op a b z o : Int} {n : N} (h : n ∈ (Cx.two l op a b z o).1) : n ∈ l ∨ n = ⟨op, min a b, max a b⟩ := by
  unfold Cx.two at h
  split at h
  · exact Or.inl h
  · split at h
    · exact Or.inl h
    · split at h
      · exact Or.inl h
      · split at h
        · exact Or.inl h
        · unfold Cx.put at h
          split at h
          · exact Or.inl h
          · split at h
            · rcases List.mem_append.1 h with h | h
              · exact Or.inl h
              · simp at h; exact Or.inr h
            · exact Or.inl h
theorem two_ngood {l : List N} (hF : ∀ n ∈ l, NGood n) {op z o : Int} {a b : Nat} (ha : a < l.length) (hb : b < l.length) (hl : l.length ≤ 20000) (hop : op = 3 ∨ op = 4) : ∀ n ∈ (Cx.two l op a b z o).1, NGood n := fun n hn => by
  rcases two_mem hn with h | h
  · exact hF n h
  · subst h
    unfold NGood I64
    rcases hop with rfl | rfl <;> simp <;> omega
/-- What the reference makes of two families, and what stands at the new node. -/
theorem op_perm {l m : List N} (hl : Cx.Good l) (h : Cx.Good m) {a b k : Nat} (ha : a < l.length) (hb : b < l.length) (hk : k < m.length) {o : Int} (he : ∀ ts, Cx.eval m (k : Int) ts = if o = 3 then (Cx.eval l (a : Int) ts || Cx.eval l (b : Int) ts) else (Cx.eval l (a : Int) ts && Cx.eval l (b : Int) ts)) : (rTwo o (fam l a) (fam l b)).Perm (fam m k) := by
  have iF := (Cx.fam_is hl ha).fam.inc
  have iG := (Cx.fam_is hl hb).fam.inc
  unfold rTwo
  by_cases h3 : o = 3
  · rw [if_pos h3]
    obtain ⟨k1, u1⟩ := Fm.adds_all (fam l a) [] Fm.anti_nil iF
    obtain ⟨k2, u2⟩ := Fm.adds_all (fam l b) _ k1 iG
    refine k2.perm (Cx.fam_is h hk).fam.is_anti fun ts => ?_
    rw [u2, u1, ← Cx.eval_fam h hk, he ts, if_pos h3, Bool.or_eq_true, Cx.eval_fam hl ha, Cx.eval_fam hl hb]
    simp only [Fm.up_nil, false_or]
  · rw [if_neg h3]
    obtain ⟨k1, u1⟩ := Fm.adds_all (Fm.prods (fam l a) (fam l b)) [] Fm.anti_nil (Fm.prods_inc iF iG)
    refine k1.perm (Cx.fam_is h hk).fam.is_anti fun ts => ?_
    rw [u1, Fm.up_prods, ← Cx.eval_fam h hk, he ts, if_neg h3, Bool.and_eq_true, Cx.eval_fam hl ha, Cx.eval_fam hl hb]
    simp only [Fm.up_nil, false_or]
theorem cnt_more {G : List (List Int)} {j : Nat} {x y : List Int} (h : G[j]? = some y) : (G.take (j + 1)).count x = if x = y then (G.take j).count x + 1 else (G.take j).count x := by
  rw [take_more h, List.count_append]
  by_cases e : x = y
  · subst e; simp
  · rw [if_neg e, List.count_singleton, if_neg (by simpa using fun h => e h.symm)]; rfl
theorem count_le (G : List (List Int)) (j : Nat) (x : List Int) : (G.take j).count x ≤ j := Nat.le_trans (List.count_le_length) (by simp; omega)
set_option maxHeartbeats 1000000 in
set_option maxRecDepth 100000 in
theorem equal29_any (A : Option Addr) (c : Nat) (F : List (List Int)) (B : Option Addr) (d : Nat) (G : List (List Int)) (w : World) (hF : F.length ≤ 1000000) (hp : G.Perm F) (hn : F.Nodup) (hA : Sets w A F) (hB : Sets w B G) :
    Calls Tryz.prog 21 #[.slice A F.length c, .slice B G.length d] w fun e w' => e = .returned (.bool true) ∧ Below w.heap.size w w' := by
  have hlen := hp.length_eq
  have t1 : ((F.length : Int) == (G.length : Int)) = true := by rw [beq_iff_eq]; omega
  have t2 : ((F.length : Int) != (G.length : Int)) = false := by rw [bne, t1]; rfl
  have HC := Lib.hid (show ∀ x ∈ F, G.count x = 1 from fun x hx => by
    rw [hp.count_eq]
    have h1 := List.nodup_iff_count.1 hn x
    have h2 := List.count_pos_iff.2 hx
    omega)
  have HL := Lib.hid hlen
  have hG : G.length ≤ 1000000 := by omega
  clear hp hn hlen
  go_enter Tryz.func21, Tryz.ntmps21
  go_wp2_with fail
  go_loopw [5] (fun i wr => ∃ k : Nat, k ≤ F.length ∧ i = .int .i64 k ∧ Below w.heap.size w wr) (fun i _ => F.length - (intOf i).toNat)
  case atStart => exact ⟨0, by omega, rfl, Below.refl _ _⟩
  case round =>
    clear t1 t2
    obtain ⟨i, hi, rfl, hbw⟩ := hrel
    by_cases h1 : i < F.length
    · have d1 : decide ((i : Int) < (F.length : Int)) = true := by simp; omega
      obtain ⟨x, hx⟩ : ∃ x, F[i]? = some x := ⟨_, List.getElem?_eq_getElem h1⟩
      obtain ⟨g, o, C, cc, rfl, hg, c0, q1, q2, q3, q4⟩ := hA.at hx
      have HX := Lib.hid q4
      have z1 : x.length ≤ 9223372036854775807 := by unfold maxLen at q2; omega
      have i0 : (0 : Int) ≤ (i : Int) := by omega
      have i1 : (i : Int) < (F.length : Int) := by omega
      have HCX := Lib.hid (HC.out x (List.mem_of_getElem? hx))
      clear hx q1 q2 q3 q4
      go_wp2_with fail
      go_loopw [6, 7] (fun n k wr => ∃ (j m : Nat), j ≤ G.length ∧ m ≤ j ∧ Hid (m = (G.take j).count x) ∧ n = .int .i64 m ∧ k = .int .i64 j ∧ Below w.heap.size w wr) (fun _ k _ => G.length - (intOf k).toNat)
      case atStart => exact ⟨0, 0, by omega, by omega, Lib.hid (by simp), rfl, rfl, hbw⟩
      case round =>
        clear hbw d1
        obtain ⟨j, m, hj, hm, HM, rfl, rfl, hbw⟩ := hrel
        by_cases h2 : j < G.length
        · have d1 : decide ((j : Int) < (G.length : Int)) = true := by simp; omega
          obtain ⟨y, hy⟩ : ∃ y, G[j]? = some y := ⟨_, List.getElem?_eq_getElem h2⟩
          obtain ⟨g', o', C', cc', rfl, hg', c0', p1, p2, p3, p4⟩ := (hB.below hbw).at hy
          have z2 : y.length ≤ 9223372036854775807 := by unfold maxLen at p2; omega
          have f0 : ∀ z : Held wr.heap.size wr, z.w.cell? ⟨g, o + i, none⟩ = some (.slice C x.length cc) := fun z => z.cell (Nat.lt_of_lt_of_le hg hbw.size) ((hbw.cell hg).trans c0)
          have f1 : ∀ z : Held wr.heap.size wr, z.w.cell? ⟨g', o' + j, none⟩ = some (.slice C' y.length cc') := fun z => z.cell hg' c0'
          have CA : ∀ z : Held wr.heap.size wr, Calls Tryz.prog 9 #[.slice C x.length cc, .slice C' y.length cc'] z.w fun e w' => e = .returned (.bool (decide (x = y))) ∧ Below z.w.heap.size z.w w' := fun z => ints29_any _ _ _ _ _ _ _ z1 z2 ((HX.out.below hbw).below z.ok) (p4.below z.ok)
          have hcm := cnt_more (x := x) hy
          rw [← HM.out] at hcm
          have HY := Lib.hid hcm
          have j0 : (0 : Int) ≤ (j : Int) := by omega
          have j1 : (j : Int) < (G.length : Int) := by omega
          have jm : IntKind.i64.wrap ((m : Int) + 1) = (m : Int) + 1 := by rw [IntKind.wrap_i64]; omega
          clear hcm
          by_cases e : x = y
          · rw [if_pos e] at HY
            rw [decide_eq_true e] at CA
            have HCA := Lib.hid CA
            clear e hy p1 p2 p3 p4 CA c0'
            go_wp2_with fail
            refine wp_region_held wr.heap.size wr (Below.refl _ _) (by kernel_rfl) (by kernel_rfl) ?_
            repeat (go_big_quiet_step ((go_at_call 9; exact held_call _ (Nat.le_refl _) (HCA.out _))))
            refine wpQuiet_nil ?_
            rintro wt ⟨⟨_, bt⟩, rfl⟩
            go_wp2_with fail
            go_roundw
            case rel => exact ⟨j + 1, m + 1, by omega, by omega, Lib.hid HY.out.symm, by go_num, by go_num, hbw.trans (bt.mono hbw.size)⟩
            case measure => simp [intOf]; omega
          · rw [if_neg e] at HY
            rw [decide_eq_false e] at CA
            have HCA := Lib.hid CA
            clear e hy p1 p2 p3 p4 CA c0'
            go_wp2_with fail
            refine wp_region_held wr.heap.size wr (Below.refl _ _) (by kernel_rfl) (by kernel_rfl) ?_
            repeat (go_big_quiet_step ((go_at_call 9; exact held_call _ (Nat.le_refl _) (HCA.out _))))
            refine wpQuiet_nil ?_
            rintro wt ⟨⟨_, bt⟩, rfl⟩
            go_wp2_with fail
            go_roundw
            case rel => exact ⟨j + 1, m, by omega, by omega, Lib.hid HY.out.symm, rfl, by go_num, hbw.trans (bt.mono hbw.size)⟩
            case measure => simp [intOf]; omega
        · have d1 : decide ((j : Int) < (G.length : Int)) = false := by simp; omega
          have hm1 : m = 1 := by rw [HM.out, List.take_of_length_le (by omega), HCX.out]
          subst hm1
          have t3 : (((1 : Nat) : Int) == 1) = true := rfl
          have t4 : (((1 : Nat) : Int) != 1) = false := rfl
          go_wp2_with fail
          go_roundw
          case rel => exact ⟨i + 1, by omega, by go_num, hbw⟩
          case measure => simp [intOf]; omega
    · have d1 : decide ((i : Int) < (F.length : Int)) = false := by simp; omega
      go_wp2_with fail
      go_ret
      exact ⟨rfl, hbw⟩
end Go.Proofs.YtphmicbpkljmfaaGreat
