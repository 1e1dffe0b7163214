/- The lattice's list of elements: a name's place, and the name added where it is new. -/
import Derived.Test.YtpcmlkpnjimbiaaDoorPItem0
import Derived.Test.YtpcmlkpnjimbiaaDoorTOwn
namespace Go.Proofs.YtpcmlkpnjimbiaaDoor
set_option linter.unusedVariables false
set_option linter.unusedSimpArgs false
open Go.RowKit
theorem sCells_snoc (l : List (List UInt8)) (s : List UInt8) : sCells (l ++ [s]) = sCells l ++ [.string (bs s)] := by simp [sCells]
theorem cvCells_snoc (l : List (Int × Int)) (c : Int × Int) : cvCells (l ++ [c]) = cvCells l ++ [.int .i64 c.1, .int .i64 c.2] := by simp [cvCells]
theorem bs_inj {a b : List UInt8} (h : bs a = bs b) : a = b := by
 have := congrArg ByteArray.toList h
 rwa [bs_list, bs_list] at this
theorem getD_bs (l : List (List UInt8)) (j : Nat) (s : List UInt8) (h : l[j]? = some s) : (l.map bs).getD j ByteArray.empty = bs s := by
 rw [List.getD_eq_getElem?_getD, List.getElem?_map, h]
 rfl
theorem idx_hit (l : List (List UInt8)) (s : List UInt8) (k : Nat) (h : l.findIdx? (· == s) = some k) : Lib.idxOfS ((l.map bs).take l.length) (bs s) = (k : Int) := by
 rw [List.findIdx?_eq_some_iff_getElem] at h
 obtain ⟨hk, h1, h2⟩ := h
 refine Lib.idxOfS_hit _ _ k _ hk (by simp) ?_ fun j hj => ?_
 ·rw [getD_bs l k l[k] (List.getElem?_eq_getElem hk)]
  rw [show l[k] = s by simpa using h1]
 ·rw [getD_bs l j l[j] (List.getElem?_eq_getElem (by omega))]
  intro e
  have := bs_inj e
  have h3 := h2 j hj
  simp at h3
  exact h3 this
theorem idx_miss (l : List (List UInt8)) (s : List UInt8) (h : l.findIdx? (· == s) = none) : Lib.idxOfS ((l.map bs).take l.length) (bs s) = -1 := by
 rw [List.findIdx?_eq_none_iff] at h
 refine Lib.idxOfS_miss _ _ _ fun j hj => ?_
 rw [getD_bs l j l[j] (List.getElem?_eq_getElem hj)]
 intro e
 have := bs_inj e
 have h3 := h l[j] (List.getElem_mem hj)
 simp at h3
 exact h3 this
theorem addE_hit {l : List (List UInt8)} {s : List UInt8} {k : Nat} (h : l.findIdx? (· == s) = some k) : Px.addE l s = (l, k) := by unfold Px.addE; rw [h]
theorem addE_miss {l : List (List UInt8)} {s : List UInt8} (h : l.findIdx? (· == s) = none) : Px.addE l s = (l ++ [s], l.length) := by unfold Px.addE; rw [h]
theorem find_lt {l : List (List UInt8)} {s : List UInt8} {k : Nat} (h : l.findIdx? (· == s) = some k) : k < l.length := by
 rw [List.findIdx?_eq_some_iff_getElem] at h
 exact h.1
theorem str_info : (Tryd.prog.info? 9).map (fun i => (i.zero, i.size, i.bytes)) = some (some (.string ⟨#[]⟩), 1, 16) := by kernel_rfl
theorem own_keptT {w w' : World} {B n size : Nat} {e : TypeId} {v : Value} {xs : List Value} (h : w.ownsRow B e size v n xs) (hk : Kept e w w') : w'.ownsRow B e size v n xs := by
 obtain ⟨h1, h2⟩ := h
 refine ⟨h1, ?_⟩
 rcases h2 with h2 | ⟨g, cap, cur, hv, hg, hh, r⟩
 ·exact Or.inl h2
 ·exact Or.inr ⟨g, cap, cur, hv, hg, hk g cur _ hh, r⟩
/-- What a call may turn in a lattice that is being read. -/
def ElemPost (w : World) (B Bx : Nat) (nm cv ps : Value) (es' : List (List UInt8)) (k : Nat) (e : Ending) (w' : World) : Prop :=
 e = .returned (.int .i64 (k : Int)) ∧ Below B w w' ∧ (∃ A c, At w' Bx 77 #[nm, .slice A es'.length c, cv, ps] ∧ w'.ownsRow B 9 1 (.slice A es'.length c) es'.length (sCells es')) ∧ ∀ e, e ≠ 77 → e ≠ 9 → Kept e w w'
set_option maxHeartbeats 1000000 in
set_option maxRecDepth 100000 in
theorem elem_any {w : World} {B Bx : Nat} {nm cv ps : Value} {A : Option Addr} {c : Nat} {es : List (List UInt8)} (hat : At w Bx 77 #[nm, .slice A es.length c, cv, ps]) (ho : w.ownsRow B 9 1 (.slice A es.length c) es.length (sCells es)) (hB : B ≤ Bx) (hBs : B ≤ w.heap.size) (hl : es.length ≤ 100000) (s : List UInt8) :
  Calls Tryd.prog 79 #[.pointer (some ⟨Bx, 0, none⟩), .string (bs s)] w (ElemPost w B Bx nm cv ps (Px.addE es s).1 (Px.addE es s).2) := by
 have HO := Lib.hid ho
 have HAT := Lib.hid hat
 have yx := hat.cell 1
 have yf := hat.frozen 1
 have yl := hat.lt
 have hidx : ∃ x, x = Lib.idxOfS ((es.map bs).take es.length) (bs s) := ⟨_, rfl⟩
 obtain ⟨x, hx⟩ := hidx
 obtain ⟨n, hn⟩ : ∃ n, es.length = n := ⟨_, rfl⟩
 have HN := Lib.hid hn
 simp only [List.getElem?_toArray, List.getElem?_cons_zero, List.getElem?_cons_succ] at yx
 have HI : Hid (Calls Tryd.prog 82 #[.slice A n c, .string (bs s)] w fun e w' => e = .returned (.int .i64 x) ∧ w' = w) := by
  refine Lib.hid ?_
  rw [hx]
  rcases Nat.eq_zero_or_pos n with h0 | h0
  ·subst h0
   have : es = [] := List.eq_nil_of_length_eq_zero hn
   subst this
   exact Tryd.slices_Index_string_empty A c (bs s) w
  ·obtain ⟨A', c', e, h1, h2, h3⟩ := own_cells ho
   injection e with e1 _ e3
   subst e1; subst e3
   rcases h3 with h3 | ⟨g, rfl, _, hg, hc⟩
   ·omega
   ·rw [hn]
    refine Tryd.slices_Index_string g 0 n c (es.map bs) (bs s) w (by simp; omega) (by omega) fun j hj => ?_
    obtain ⟨t, ht⟩ : ∃ t, es[j]? = some t := ⟨_, List.getElem?_eq_getElem (by simpa using hj)⟩
    rw [getD_bs es j t ht, Nat.zero_add]
    exact hc j _ (by unfold sCells; rw [List.getElem?_map, ht]; rfl)
 rw [hn] at yx
 cases hf : es.findIdx? (· == s) with
 | some k =>
  rw [addE_hit hf]
  rw [idx_hit es s k hf] at hx
  subst hx
  have hk : k < n := by rw [← hn]; exact find_lt hf
  have d1 : decide ((0 : Int) ≤ (k : Int)) = true := decide_eq_true (by omega)
  have d2 : decide ((k : Int) ≥ 0) = true := decide_eq_true (by omega)
  clear hf hat ho hn
  go_enter Tryd.func79, Tryd.ntmps79
  go_wp2_with (go_at_call 82; refine (HI.out).mono ?_; rintro e w2 ⟨rfl, hw2⟩; subst w2; clear HI)
  go_ret
  exact ⟨rfl, Below.refl _ _, ⟨A, c, HAT.out, HO.out⟩, fun e _ _ => Kept.refl e _⟩
 | none =>
  rw [addE_miss hf]
  rw [idx_miss es s hf] at hx
  subst hx
  obtain ⟨iT, hi0, hi1, hi2, hi3⟩ := info_parts str_info
  have hoA := ho.alloc (.cells #[.string (bs s)] 9)
  rw [hn] at hoA
  have HOA := Lib.hid hoA
  have w0 : IntKind.i64.wrap (n : Int) = (n : Int) := IntWalk.i64_in _ (by omega)
  have w1 : IntKind.i64.wrap ((n : Int) + 1) = (n : Int) + 1 := IntWalk.i64_in _ (by omega)
  have hn100 : n ≤ 100000 := by omega
  clear hf hat ho hn hoA
  go_enter Tryd.func79, Tryd.ntmps79
  go_wp2_with first
   | (at_builtin; refine wpList_append_own _ rfl _ _ 74 rfl B 9 iT (.string ⟨#[]⟩) 1 16 Tryd.underlying74 hi0 hi1 hi2 hi3 rfl (by decide) _ _ _ rfl HOA.out ⟨w.heap.size, 0, none⟩ 1 1 [.string (bs s)] rfl rfl ?c1 ?c2 ?c3 ?c4 ?c5 ?_)
   | (go_at_call 82; refine (HI.out).mono ?_; rintro e w2 ⟨rfl, hw2⟩; subst w2; clear HI)
  case c1 => exact At.news (xs := [.string (bs s)]) (At.newAt (by simp) _ _)
  case c2 => exact one1 rfl
  case c3 => simp [maxLen]; omega
  case c4 => omega
  case c5 => simp; omega
  intro v5 w5 o5 g5 _
  obtain ⟨A5, c5, rfl⟩ := own_len o5
  have hatA := HAT.out.alloc (.cells #[.string (bs s)] 9)
  have hat5 := hatA.grown g5 (own_far HOA.out hatA (by decide))
  have y5 := hat5.cell 1
  have f5 := hat5.frozen 1
  have l5 := hat5.lt
  simp only [List.getElem?_toArray, List.getElem?_cons_zero, List.getElem?_cons_succ] at y5
  go_wp2_with fail
  go_ret
  have hat6 := hat5.put 1 (.slice A5 (n + 1) c5)
  simp only [List.setIfInBounds_toArray, List.set_cons_zero, List.set_cons_succ] at hat6
  have hb5 : Below B w w5 := ((Below.refl B w).alloc hBs _).trans (below_grown HOA.out g5 (by simp; omega) (Nat.le_refl _))
  refine ⟨by rw [HN.out]; rfl, hb5.setCell (p := ⟨Bx, 1, none⟩) hB _, ⟨A5, c5, ?_, ?_⟩, fun e he1 he2 => ?_⟩
  ·rw [List.length_append]; rw [HN.out]; exact hat6
  ·rw [List.length_append, sCells_snoc, HN.out]
   exact own_putne o5 (own_far o5 hat5 (by decide)) _
  ·exact (Kept.alloc _ _ _).trans ((Kept.grown HOA.out g5 (fun h => he2 h.symm)).trans (Kept.put hat5 1 _ (fun h => he1 h.symm)))
end Go.Proofs.YtpcmlkpnjimbiaaDoor
