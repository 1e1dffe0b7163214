/- The walks of the reference's Values and Eval. -/
import Derived.Test.YtphmicbpkljmfaaGreatCMisc
import Derived.Test.YtphmicbpkljmfaaGreatCLaw
namespace Go.Proofs.YtphmicbpkljmfaaGreat
set_option linter.unusedVariables false
set_option linter.unusedSimpArgs false
open Go.RowKit
open Cx (N)
def bcells (l : List Bool) : List Value := l.map (fun x => .bool x)
theorem bcells_app (l r : List Bool) : bcells (l ++ r) = bcells l ++ bcells r := by simp [bcells]
theorem bcells_len (l : List Bool) : (bcells l).length = l.length := by simp [bcells]
theorem bool_info : (Tryz.prog.info? 4).map (fun i => (i.zero, i.size, i.bytes)) = some (some (.bool false), 1, 1) := by kernel_rfl
theorem bcell_at {w : World} {B : Nat} {v : Value} {l : List Bool} (h : w.ownsRow B 4 1 v l.length (bcells l)) (h0 : 0 < l.length) : ∃ g c, v = .slice (some ⟨g, 0, none⟩) l.length c ∧ B ≤ g ∧ g < w.heap.size ∧ ∀ (j : Nat) (x : Bool), l[j]? = some x → w.cell? ⟨g, j, none⟩ = some (.bool x) := by
  obtain ⟨A, c, hv, h1, h2, h3⟩ := own_cells h
  rcases h3 with h3 | ⟨g, rfl, hB, hg, hc⟩
  · omega
  · exact ⟨g, c, hv, hB, hg, fun j x hx => hc _ _ (by simp [bcells, hx])⟩
/-- The values of the first k nodes. -/
def ValsAt (ts : List Int) (l : List N) (k : Nat) (vs : List Bool) : Prop := vs = Cx.values ts (l.take k)
theorem ValsAt.more {ts : List Int} {l : List N} {k : Nat} {vs : List Bool} {n : N} (h : ValsAt ts l k vs) (hn : l[k]? = some n) : ValsAt ts l (k + 1) (vs ++ [Cx.valStep ts vs n]) := by
  unfold ValsAt at *
  rw [take_more hn, Cx.values_snoc, h]
theorem valStep_1 {ts : List Int} {vs : List Bool} {n : N} (h : n.o = 1) : Cx.valStep ts vs n = true := by unfold Cx.valStep; rw [if_pos h]
theorem valStep_2 {ts : List Int} {vs : List Bool} {n : N} (h : n.o = 2) : Cx.valStep ts vs n = ts.contains n.a := by unfold Cx.valStep; rw [if_neg (by omega), if_pos h]
theorem valStep_3 {ts : List Int} {vs : List Bool} {n : N} {a b : Nat} {x y : Bool} (h : n.o = 3) (ha : n.a = a) (hb : n.b = b) (hx : vs[a]? = some x) (hy : vs[b]? = some y) : Cx.valStep ts vs n = (x || y) := by
  unfold Cx.valStep; rw [if_neg (by omega), if_neg (by omega), if_pos h, ha, hb]; simp [List.getD, hx, hy]
theorem valStep_4 {ts : List Int} {vs : List Bool} {n : N} {a b : Nat} {x y : Bool} (h : n.o = 4) (ha : n.a = a) (hb : n.b = b) (hx : vs[a]? = some x) (hy : vs[b]? = some y) : Cx.valStep ts vs n = (x && y) := by
  unfold Cx.valStep; rw [if_neg (by omega), if_neg (by omega), if_neg (by omega), if_pos h, ha, hb]; simp [List.getD, hx, hy]
theorem valStep_0 {ts : List Int} {vs : List Bool} {n : N} (h1 : n.o ≠ 1) (h2 : n.o ≠ 2) (h3 : n.o ≠ 3) (h4 : n.o ≠ 4) : Cx.valStep ts vs n = false := by
  unfold Cx.valStep; rw [if_neg h1, if_neg h2, if_neg h3, if_neg h4]
set_option maxHeartbeats 4000000 in
set_option maxRecDepth 100000 in
theorem values_any (A : Option Addr) (c : Nat) (l : List N) (T : Option Addr) (d : Nat) (ts : List Int) (w : World) (hl : l.length ≤ 1000000) (ht : ts.length ≤ 9223372036854775807) (hG : Cx.Good l) (hA : Circ w A l) (hT : Nums w T ts) :
    Calls Tryz.prog 52 #[.slice A l.length c, .slice T ts.length d] w fun e w' => (∃ v, e = .returned v ∧ w'.ownsRow w.heap.size 4 1 v l.length (bcells (Cx.values ts l))) ∧ Below w.heap.size w w' := by
  obtain ⟨i0, hi, hz0, hz1, hz2⟩ := info_parts bool_info
  have o0 := own_empty w 4 1 w.heap.size (Nat.le_refl _)
  have bw0 := below1 w (.cells #[] 4)
  go_enter Tryz.func52, Tryz.ntmps52
  go_wp2_with fail
  go_loopw [5, 6] (fun v i wr => ∃ (k : Nat) (vs : List Bool), k ≤ l.length ∧ vs.length = k ∧ Hid (ValsAt ts l k vs) ∧ i = .int .i64 k ∧ wr.ownsRow w.heap.size 4 1 v vs.length (bcells vs) ∧ Below w.heap.size w wr) (fun _ i _ => l.length - (intOf i).toNat)
  case atStart => exact ⟨0, [], by omega, rfl, Lib.hid rfl, rfl, o0, bw0⟩
  case round =>
    obtain ⟨k, vs, hk, hlk, HL, rfl, hown, hbw⟩ := hrel
    clear o0 bw0
    obtain ⟨va, vc, rfl⟩ := own_len hown
    by_cases h1 : k < l.length
    · have d1 : decide ((k : Int) < (l.length : Int)) = true := by simp; omega
      obtain ⟨g, o, rfl, hg, c0, c1, c2⟩ := (hA.below hbw).at h1
      have hTr := hT.below hbw
      have hN := HL.out.more (getElem_of h1)
      have hbin := fun h => hG.bin (getElem_of h1) h
      have hget := Lib.hid (getElem_of h1)
      generalize l[k] = n at *
      have i0' : (0 : Int) ≤ (k : Int) := by omega
      have i1 : (k : Int) < (l.length : Int) := by omega
      have LL := Lib.hid (bcells_len vs)
      by_cases q1 : n.o = 1
      · have t1 : (n.o == 1) = true := by simpa using q1
        rw [valStep_1 q1] at hN
        have HN := Lib.hid hN
        clear hN hbin q1
        go_wp2_with (first
          | (at_builtin; refine wpList_append_from rfl (.tmp 71) (.tmp 73) 54 rfl w.heap.size 4 i0 _ 1 1 Tryz.underlying54 hi hz0 hz1 hz2 rfl (by omega) (.slice va vs.length vc) vs.length (bcells vs) rfl (hown.alloc _) (some ⟨wr.heap.size, 0, none⟩) 1 1 [.bool true] rfl rfl (fun h => by cases h) (fun ad h => by obtain rfl := Option.some.inj h; exact At.news (At.new _ _ _)) (one1 rfl) (by unfold maxLen; omega) (by omega) (by have := hbw.size; simp; omega) ?_; intro v2 w2 o2 g2))
        have bw2 : Below w.heap.size w w2 := (hbw.alloc hbw.size _).grown g2 (by have := hbw.size; simp; omega) (fun q hq => (own_lt hown hq).1)
        go_roundw
        case rel => exact ⟨k + 1, vs ++ [true], by omega, by simp [hlk], HN, by go_num, by rw [bcells_app, List.length_append]; exact o2, bw2⟩
        case measure => simp [intOf]; omega
      · have t1 : (n.o == 1) = false := by simpa using q1
        by_cases q2 : n.o = 2
        · have t2 : (n.o == 2) = true := by simpa using q2
          rw [valStep_2 q2] at hN
          have HN := Lib.hid hN
          clear hN hbin q1 q2
          go_wp2_with fail
          refine (has_any T d ts n.a _ ht hTr).mono ?_
          rintro e w1 ⟨rfl, rfl⟩
          rw [hlk] at hown
          generalize ts.contains n.a = bb at *
          go_wp2_with (first
            | (at_builtin; refine wpList_append_from rfl (.tmp 71) (.tmp 73) 54 rfl w.heap.size 4 i0 _ 1 1 Tryz.underlying54 hi hz0 hz1 hz2 rfl (by omega) (.slice va k vc) k (bcells vs) rfl (hown.alloc _) (some ⟨wr.heap.size, 0, none⟩) 1 1 [.bool bb] rfl rfl (fun h => by cases h) (fun ad h => by obtain rfl := Option.some.inj h; exact At.news (At.new _ _ _)) (one1 rfl) (by unfold maxLen; omega) (by omega) (by have := hbw.size; simp; omega) ?_; intro v2 w2 o2 g2))
          have bw2 : Below w.heap.size w w2 := (hbw.alloc hbw.size _).grown g2 (by have := hbw.size; simp; omega) (fun q hq => (own_lt hown hq).1)
          go_roundw
          case rel => exact ⟨k + 1, vs ++ [bb], by omega, by simp [hlk], HN, by go_num, by rw [bcells_app, List.length_append, hlk]; exact o2, bw2⟩
          case measure => simp [intOf]; omega
        · have t2 : (n.o == 2) = false := by simpa using q2
          by_cases q34 : n.o = 3 ∨ n.o = 4
          · obtain ⟨p1, p2, p3⟩ := hbin q34
            obtain ⟨a, ha⟩ : ∃ a : Nat, n.a = a := ⟨n.a.toNat, by omega⟩
            obtain ⟨b, hb⟩ : ∃ b : Nat, n.b = b := ⟨n.b.toNat, by omega⟩
            obtain ⟨x, hx⟩ : ∃ x, vs[a]? = some x := ⟨_, getElem_of (show a < vs.length by omega)⟩
            obtain ⟨y, hy⟩ : ∃ y, vs[b]? = some y := ⟨_, getElem_of (show b < vs.length by omega)⟩
            obtain ⟨gv, cv, ev, hgv, _, hcv⟩ := bcell_at hown (by omega)
            injection ev with ev1 _ ev2
            subst ev1; subst ev2
            have hx' := hcv _ _ hx
            have hy' := hcv _ _ hy
            have ia0 : (0 : Int) ≤ (a : Int) := by omega
            have ia1 : (a : Int) < (vs.length : Int) := by omega
            have ib0 : (0 : Int) ≤ (b : Int) := by omega
            have ib1 : (b : Int) < (vs.length : Int) := by omega
            rcases q34 with q3 | q4
            · have t3 : (n.o == 3) = true := by simpa using q3
              rw [valStep_3 q3 ha hb hx hy] at hN
              have HN := Lib.hid hN
              rw [ha] at c1
              rw [hb] at c2
              clear hN hbin q1 q2 q3 ha hb hx hy hcv p1 p2 p3
              cases x
              all_goals
                go_wp2_with (first
                  | (at_builtin; refine wpList_append_from rfl (.tmp 71) (.tmp 73) 54 rfl w.heap.size 4 i0 _ 1 1 Tryz.underlying54 hi hz0 hz1 hz2 rfl (by omega) (.slice (some ⟨gv, 0, none⟩) vs.length vc) vs.length (bcells vs) rfl (hown.alloc _) (some ⟨wr.heap.size, 0, none⟩) 1 1 [.bool _] rfl rfl (fun h => by cases h) (fun ad h => by obtain rfl := Option.some.inj h; exact At.news (At.new _ _ _)) (one1 rfl) (by unfold maxLen; omega) (by omega) (by have := hbw.size; simp; omega) ?_; intro v2 w2 o2 g2))
                have bw2 : Below w.heap.size w w2 := (hbw.alloc hbw.size _).grown g2 (by have := hbw.size; simp; omega) (fun q hq => (own_lt hown hq).1)
                go_roundw
                case rel => exact ⟨k + 1, _, by omega, by simp [hlk], HN, by go_num, by rw [bcells_app, List.length_append]; exact o2, bw2⟩
                case measure => simp [intOf]; omega
            · have t3 : (n.o == 3) = false := by rw [q4]; rfl
              have t4 : (n.o == 4) = true := by simpa using q4
              rw [valStep_4 q4 ha hb hx hy] at hN
              have HN := Lib.hid hN
              rw [ha] at c1
              rw [hb] at c2
              clear hN hbin q1 q2 q4 ha hb hx hy hcv p1 p2 p3
              cases x
              all_goals
                go_wp2_with (first
                  | (at_builtin; refine wpList_append_from rfl (.tmp 71) (.tmp 73) 54 rfl w.heap.size 4 i0 _ 1 1 Tryz.underlying54 hi hz0 hz1 hz2 rfl (by omega) (.slice (some ⟨gv, 0, none⟩) vs.length vc) vs.length (bcells vs) rfl (hown.alloc _) (some ⟨wr.heap.size, 0, none⟩) 1 1 [.bool _] rfl rfl (fun h => by cases h) (fun ad h => by obtain rfl := Option.some.inj h; exact At.news (At.new _ _ _)) (one1 rfl) (by unfold maxLen; omega) (by omega) (by have := hbw.size; simp; omega) ?_; intro v2 w2 o2 g2))
                have bw2 : Below w.heap.size w w2 := (hbw.alloc hbw.size _).grown g2 (by have := hbw.size; simp; omega) (fun q hq => (own_lt hown hq).1)
                go_roundw
                case rel => exact ⟨k + 1, _, by omega, by simp [hlk], HN, by go_num, by rw [bcells_app, List.length_append]; exact o2, bw2⟩
                case measure => simp [intOf]; omega
          · have q3 : n.o ≠ 3 := fun e => q34 (Or.inl e)
            have q4 : n.o ≠ 4 := fun e => q34 (Or.inr e)
            have t3 : (n.o == 3) = false := by simpa using q3
            have t4 : (n.o == 4) = false := by simpa using q4
            rw [valStep_0 q1 q2 q3 q4] at hN
            have HN := Lib.hid hN
            clear hN hbin q1 q2 q34 q3 q4
            go_wp2_with (first
              | (at_builtin; refine wpList_append_from rfl (.tmp 71) (.tmp 73) 54 rfl w.heap.size 4 i0 _ 1 1 Tryz.underlying54 hi hz0 hz1 hz2 rfl (by omega) (.slice va vs.length vc) vs.length (bcells vs) rfl (hown.alloc _) (some ⟨wr.heap.size, 0, none⟩) 1 1 [.bool false] rfl rfl (fun h => by cases h) (fun ad h => by obtain rfl := Option.some.inj h; exact At.news (At.new _ _ _)) (one1 rfl) (by unfold maxLen; omega) (by omega) (by have := hbw.size; simp; omega) ?_; intro v2 w2 o2 g2))
            have bw2 : Below w.heap.size w w2 := (hbw.alloc hbw.size _).grown g2 (by have := hbw.size; simp; omega) (fun q hq => (own_lt hown hq).1)
            go_roundw
            case rel => exact ⟨k + 1, vs ++ [false], by omega, by simp [hlk], HN, by go_num, by rw [bcells_app, List.length_append]; exact o2, bw2⟩
            case measure => simp [intOf]; omega
    · have d1 : decide ((k : Int) < (l.length : Int)) = false := by simp; omega
      have HE := Lib.hid (show vs = Cx.values ts l by rw [HL.out, List.take_of_length_le (by omega)])
      have hkl : vs.length = l.length := by omega
      go_wp2_with fail
      go_ret
      exact ⟨⟨_, rfl, by rw [← HE.out, ← hkl]; exact hown⟩, hbw⟩
end Go.Proofs.YtphmicbpkljmfaaGreat
