/- The walk of the reference's Bind. -/
import Derived.Test.YtoficnfpoeaccaaDoorKRef9
namespace Go.Proofs.YtoficnfpoeaccaaDoor
set_option linter.unusedVariables false
set_option linter.unusedSimpArgs false
open Go.RowKit
def bindN (l : List ByteArray) (ts : List Tm) : List ByteArray := ts.foldl (fun l t => addN l t.v) l
theorem bindN_more {l : List ByteArray} {ts : List Tm} {k : Nat} {x : Tm} (h : ts[k]? = some x) : bindN l (ts.take (k + 1)) = addN (bindN l (ts.take k)) x.v := by
  unfold bindN
  rw [List.take_add_one, h, List.foldl_append]
  rfl
theorem addN_len (l : List ByteArray) (s : ByteArray) : (addN l s).length ≤ l.length + 1 := by
  unfold addN
  split
  · omega
  · simp
theorem bindN_len (ts : List Tm) : ∀ l : List ByteArray, (bindN l ts).length ≤ l.length + ts.length := by
  induction ts with
  | nil => intro l; simp [bindN]
  | cons t ts ih =>
    intro l
    have h1 := ih (addN l t.v)
    have h2 := addN_len l t.v
    show (bindN (addN l t.v) ts).length ≤ _
    simp only [List.length_cons]
    omega
theorem hasN_addN (l : List ByteArray) (s x : ByteArray) : hasN (addN l s) x = (hasN l x || (decide (s.data.toList ≠ []) && decide (s = x))) := by
  unfold addN
  split
  · rename_i h
    rcases h with h | h
    · rw [Lib.toList_data] at h
      simp [h]
    · by_cases hx : s = x
      · subst hx; simp [h]
      · simp [hx]
  · rename_i h
    have h1 : s.data.toList ≠ [] := fun e => h (.inl (by rw [Lib.toList_data]; exact e))
    unfold hasN
    rw [List.any_append]
    simp [h1]
theorem bdN_bindN (ts : List Tm) : ∀ l : List ByteArray, bdN (bindN l ts) = Ko.bindL (bdN l) ts := by
  induction ts with
  | nil => intro l; rfl
  | cons t ts ih =>
    intro l
    show bdN (bindN (addN l t.v) ts) = Ko.bindL (Ko.bindT (bdN l) t) ts
    rw [ih]
    congr 1
    funext x
    exact hasN_addN l t.v x
set_option maxHeartbeats 600000 in
set_option maxRecDepth 100000 in
theorem bind_any (A : Option Addr) (c : Nat) (l : List ByteArray) (t : Lt) (B : Nat) (w : World) (hB : B ≤ w.heap.size) (ho : w.ownsRow B 9 1 (.slice A l.length c) l.length (ncs l)) (hT : ∀ W, Below B w W → Str W t.aa 4 (t.args.map Tm.fs)) (hl : l.length + t.args.length ≤ 900000) :
    Calls Tryd.prog 45 #[.slice A l.length c, t.v] w fun e w' => (∃ v, e = .returned v ∧ w'.ownsRow B 9 1 v (bindN l t.args).length (ncs (bindN l t.args))) ∧ Below B w w' ∧ w.heap.size ≤ w'.heap.size ∧ ∀ (g : Nat) (t : TypeId) (cs : Array Value), t ≠ 9 → At w g t cs → At w' g t cs := by
  obtain ⟨kind, name, pred, aa, ac, args, bind, elem, least, op, pos⟩ := t
  have HT := Lib.hid hT
  unfold Lt.v
  dsimp only at *
  clear hT
  have hat0 : At (w.alloc (.cells #[.int .i64 kind, .string name, .int .i64 pred, .slice aa args.length ac, .string bind, .string elem, .int .i64 least, .int .i64 op, .int .i64 pos] 60)) w.heap.size 60 #[.int .i64 kind, .string name, .int .i64 pred, .slice aa args.length ac, .string bind, .string elem, .int .i64 least, .int .i64 op, .int .i64 pos] := At.new w _ _
  go_enter Tryd.func45, Tryd.ntmps45
  go_wp2_with fail
  go_loopw [0, 5] (fun v i wr => ∃ (k : Nat) (A : Option Addr) (c : Nat), k ≤ args.length ∧ i = .int .i64 k ∧ v = .slice A (bindN l (args.take k)).length c ∧ wr.ownsRow B 9 1 (.slice A (bindN l (args.take k)).length c) (bindN l (args.take k)).length (ncs (bindN l (args.take k))) ∧ Below B w wr ∧ w.heap.size ≤ wr.heap.size ∧ At wr w.heap.size 60 #[.int .i64 kind, .string name, .int .i64 pred, .slice aa args.length ac, .string bind, .string elem, .int .i64 least, .int .i64 op, .int .i64 pos] ∧ Hid (∀ (g : Nat) (t : TypeId) (cs : Array Value), t ≠ 9 → At w g t cs → At wr g t cs)) (fun _ i _ => args.length - (intOf i).toNat)
  case atStart => exact ⟨0, A, c, by omega, rfl, rfl, ho.alloc _, (Below.refl B w).alloc hB _, by simp, hat0, Lib.hid (fun g t cs _ h => h.alloc _)⟩
  case round =>
    obtain ⟨k, A1, c1, hk, rfl, rfl, ho1, hb, hsz, hat, HF⟩ := hrel
    have c3 : wr.cell? ⟨w.heap.size, 3, none⟩ = some (.slice aa args.length ac) := hat.cell 3
    by_cases h1 : k < args.length
    · have d1 : decide ((k : Int) < (args.length : Int)) = true := by simp; omega
      obtain ⟨x, hx⟩ : ∃ x, args[k]? = some x := ⟨_, List.getElem?_eq_getElem h1⟩
      obtain ⟨g, o, rfl, hg, x0, x1, x2, x3⟩ := tm_cells (HT.out wr hb) hx
      have i0 : (0 : Int) ≤ (k : Int) := by omega
      have i1 : (k : Int) < (args.length : Int) := by omega
      have HM := Lib.hid (bindN_more (l := l) hx)
      have hlen := bindN_len (args.take k) l
      have htk : (args.take k).length ≤ args.length := by simp; omega
      have HC := Lib.hid (add_any A1 c1 (bindN l (args.take k)) x.v B wr (by omega) ho1 (by omega))
      clear hx
      go_wp2_with (go_at_call 61; refine HC.out.mono ?_; rintro e w2 ⟨⟨v2, rfl, ho2⟩, hb2, hs2, hf2⟩; rw [← HM.out] at ho2; obtain ⟨A2, c2, rfl⟩ := own_len ho2)
      go_roundw
      case rel => exact ⟨k + 1, A2, c2, by omega, by go_num, rfl, ho2, hb.trans (hb2.mono (Nat.le_refl _)), by omega, hf2 _ _ _ (by decide) hat, Lib.hid (fun g t cs ht h => hf2 _ _ _ ht (HF.out g t cs ht h))⟩
      case measure => simp [intOf]; omega
    · have d1 : decide ((k : Int) < (args.length : Int)) = false := by simp; omega
      have HO := Lib.hid (show wr.ownsRow B 9 1 (.slice A1 (bindN l (args.take k)).length c1) (bindN l args).length (ncs (bindN l args)) by
        have e : bindN l (args.take k) = bindN l args := by rw [List.take_of_length_le (by omega)]
        have h := ho1
        rw [e] at h
        rw [e]
        exact h)
      go_wp2_with fail
      go_ret
      exact ⟨⟨_, rfl, HO.out⟩, hb, hsz, HF.out⟩
end Go.Proofs.YtoficnfpoeaccaaDoor
