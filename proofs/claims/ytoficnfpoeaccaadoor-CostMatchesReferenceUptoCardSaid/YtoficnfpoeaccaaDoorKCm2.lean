/- More of what the walk of cost.Stats needs. -/
import Derived.Test.YtoficnfpoeaccaaDoorKCm
import Derived.Lib.Join
namespace Go.Proofs.YtoficnfpoeaccaaDoor
set_option linter.unusedVariables false
set_option linter.unusedSimpArgs false
open Go.RowKit
theorem own_kept {w w' : World} {B n size : Nat} {e : TypeId} {v : Value} {xs : List Value} {row : Option Nat} (h : w.ownsRow B e size v n xs) (hg : w.grownBy w' row) (hne : ∀ q, v.ownBlock = some q → some q ≠ row) : w'.ownsRow B e size v n xs := by
  obtain ⟨h1, h2⟩ := h
  refine ⟨h1, ?_⟩
  rcases h2 with h2 | ⟨g, cap, cur, rfl, hgB, hh, r⟩
  · exact Or.inl h2
  · exact Or.inr ⟨g, cap, cur, rfl, hgB, (hg.block g (Array.getElem?_eq_some_iff.1 hh).1 (hne g rfl)).trans hh, r⟩
theorem own_keptMap {w w' : World} {B n size b : Nat} {e : TypeId} {v : Value} {xs : List Value} {es : Array MapEntry} {c : Nat} (h : w.ownsRow B e size v n xs) (hm : w.heap[b]? = some (.map es c)) (hg : w.grownBy w' (some b)) : w'.ownsRow B e size v n xs :=
  own_kept h hg fun q hq e => own_not_map h q hq es c (by injection e with e; rw [e]; exact hm)
theorem own_blocks {w : World} {B n m size size' : Nat} {e e' : TypeId} {v v' : Value} {xs xs' : List Value} (h : w.ownsRow B e size v n xs) (h' : w.ownsRow B e' size' v' m xs') (hne : e ≠ e') : ∀ q, v.ownBlock = some q → some q ≠ v'.ownBlock := by
  intro q hq hq'
  rcases h.2 with ⟨rfl, _⟩ | ⟨g, cap, cur, rfl, _, hh, _⟩
  · simp [Value.ownBlock] at hq
  · rcases h'.2 with ⟨rfl, _⟩ | ⟨g', cap', cur', rfl, _, hh', _⟩
    · simp [Value.ownBlock] at hq'
    · have e1 : g = q := by simpa [Value.ownBlock] using hq
      have e2 : q = g' := by simpa [Value.ownBlock] using hq'
      subst e1; subst e2
      rw [hh] at hh'
      simp at hh'
      exact hne hh'.2
theorem At.mapGrown {w w' : World} {g b : Nat} {t : TypeId} {cs : Array Value} {es : Array MapEntry} {c : Nat} (h : At w g t cs) (hm : w.heap[b]? = some (.map es c)) (hg : w.grownBy w' (some b)) : At w' g t cs := h.grown hg (h.not_map hm)
/-- The slice of the columns' maps. -/
def vcells (n : Nat) (mb : List Nat) : Array Value := (mb.map (fun b => Value.map (some b)) ++ List.replicate (n - mb.length) (Value.map none)).toArray
theorem vcells_nil (n : Nat) : (List.replicate n (Value.map none)).toArray = vcells n [] := by simp [vcells]
theorem vcells_get {n i b : Nat} {mb : List Nat} (h : mb[i]? = some b) : (vcells n mb)[i]? = some (.map (some b)) := by
  unfold vcells
  have hi := (List.getElem?_eq_some_iff.1 h).1
  rw [List.getElem?_toArray, List.getElem?_append_left (by simpa using hi), List.getElem?_map, h]
  rfl
theorem vcells_put {n b : Nat} {mb : List Nat} (h : mb.length < n) : (vcells n mb).setIfInBounds mb.length (.map (some b)) = vcells n (mb ++ [b]) := by
  unfold vcells
  rw [List.setIfInBounds_toArray]
  congr 1
  rw [List.set_append, if_neg (by simp), List.map_append, List.append_assoc]
  congr 1
  simp only [List.length_map, Nat.sub_self]
  obtain ⟨k, hk⟩ : ∃ k, n - mb.length = k + 1 := ⟨n - mb.length - 1, by omega⟩
  rw [hk, List.replicate_succ, List.set_cons_zero, List.length_append, show n - (mb.length + [b].length) = k by simp; omega]
  rfl
theorem run_make_maps {P : Program} (w : World) {t e : TypeId} {i : TypeInfo} {z : Value} (ht : P.underlying t = some (.slice e)) (hi : P.info? e = some i) (hz : i.zero = some z) (h1 : i.size = 1) (hb : i.bytes ≤ 64) (hc : z.cells = #[z]) (n : Nat) (hn : n ≤ 4000000) :
    (Instr.makeSlice t (.int .i64 (n : Int)) (.int .i64 (n : Int))).run P w = .ok (.slice (some ⟨w.heap.size, 0, none⟩) n n) (w.alloc (.cells (List.replicate n z).toArray e)) := by
  have hbb : i.bytes * n ≤ 64 * 4000000 := Nat.mul_le_mul hb hn
  have hb' : (i.bytes : Int) * (n : Int) ≤ 281474976710656 := by
    have h : ((i.bytes * n : Nat) : Int) ≤ 281474976710656 := by omega
    rwa [Int.natCast_mul] at h
  rw [run_makeSlice w t e i z ht hi hz .i64 .i64 n n (by omega) (by omega) (by rw [h1]; simp; omega) hb' (by omega)]
  rw [h1, Int.toNat_natCast, made_one z n hc]
theorem map_info : (Tryd.prog.info? 83).map (fun i => (i.zero, i.size, i.bytes)) = some (some (.map none), 1, 8) := by kernel_rfl
/-- What tells a map, a slice of maps: fresh. -/
def NewMp (B : Nat) : Value → World → Prop := fun x w => ∃ b, x = .map (some b) ∧ B ≤ b ∧ CMap w b []
theorem newMp_on {J : World → Prop} (B : Nat) : Lasting J Onward (NewMp B) := fun x w w' _ hb ⟨b, e, h, h'⟩ => ⟨b, e, h, h'.next hb⟩
def NewVs (B n : Nat) : Value → World → Prop := fun x w => ∃ g, x = .slice (some ⟨g, 0, none⟩) n n ∧ B ≤ g ∧ At w g 83 (vcells n [])
theorem newVs_on {J : World → Prop} (B n : Nat) : Lasting J Onward (NewVs B n) := fun x w w' _ hb ⟨g, e, h, h'⟩ => ⟨g, e, h, h'.next hb⟩
theorem joinTail_B (v : Qu.Vl3) : ∀ l : List Qu.Vl3, Qu.joinB PT (v :: l) = Qu.keyB PT v ++ Lib.joinTail [44] (l.map (Qu.keyB PT))
  | [] => by simp [Qu.joinB, Lib.joinTail]
  | w :: l => by
    unfold Qu.joinB
    rw [joinTail_B w l]
    simp [Lib.joinTail]
theorem join_B : ∀ l : List Qu.Vl3, Lib.join (l.map (Qu.keyB PT)) [44] = Qu.joinB PT l
  | [] => rfl
  | v :: l => by
    rw [List.map_cons, Lib.join_cons, joinTail_B]
theorem keys_data (l : List Qu.Vl3) : (l.map keyS).map (·.data.toList) = l.map (Qu.keyB PT) := by
  rw [List.map_map]
  apply List.map_congr_left
  intro v _
  simp [keyS]
theorem joinB_len (l : List Qu.Vl3) (h : ∀ v ∈ l, I64 v.t ∧ I64 v.n ∧ v.s.size ≤ 1000000000000) : (Qu.joinB PT l).length ≤ l.length * 10000000000044 := by
  induction l with
  | nil => simp [Qu.joinB]
  | cons v l ih =>
    have h1 := h v (by simp)
    have h2 := keyB_len h1.1 h1.2.1
    have h3 := ih fun x hx => h x (List.mem_cons_of_mem _ hx)
    cases l with
    | nil => simp only [Qu.joinB, List.length_cons, List.length_nil]; omega
    | cons x l =>
      unfold Qu.joinB
      rw [List.length_append, List.length_cons, List.length_cons]
      omega
theorem scells_one (l : List ByteArray) : ∀ u ∈ ncs l, u.oneCell' = true := by
  intro u hu; obtain ⟨x, _, rfl⟩ := List.mem_map.1 hu; rfl
theorem join_any (w : World) (B : Nat) (v : Value) (l : List Qu.Vl3) (ho : w.ownsRow B 9 1 v l.length (ncs (l.map keyS))) (h : ∀ v ∈ l, I64 v.t ∧ I64 v.n ∧ v.s.size ≤ 1000000000000) (h8 : l.length ≤ 8) :
    Calls Tryd.prog 28 #[v, .string ⟨#[44]⟩] w fun e w' => e = .returned (.string (joinS l)) ∧ Below w.heap.size w w' := by
  obtain ⟨A, c, rfl, hc, hm, h0⟩ := own_cells ho
  rcases h0 with h0 | ⟨g, rfl, _, hg, hcell⟩
  · obtain rfl : l = [] := List.eq_nil_of_length_eq_zero h0
    refine (Tryd.strings_Join_none A c ⟨#[44]⟩ w).mono ?_
    rintro e w' ⟨rfl, rfl⟩
    exact ⟨rfl, Below.refl _ _⟩
  · have hl : (Lib.join ((l.map keyS).map (·.data.toList)) [44]).length ≤ 140737488355328 := by
      rw [keys_data, join_B]
      have := joinB_len l h
      omega
    have hJ := Tryd.strings_Join g 0 c (l.map keyS) ⟨#[44]⟩ w (fun j x hj => by
      rw [Nat.zero_add]
      exact hcell j (.string x) (by rw [List.getElem?_map, hj]; rfl)) hg (by simp; omega) (by simpa using hc) hl
    rw [List.length_map] at hJ
    refine hJ.mono ?_
    rintro e w' ⟨rfl, hb⟩
    refine ⟨?_, hb⟩
    rw [show (⟨#[44]⟩ : ByteArray).data.toList = [44] from rfl, keys_data, join_B]
    rfl
end Go.Proofs.YtoficnfpoeaccaaDoor
