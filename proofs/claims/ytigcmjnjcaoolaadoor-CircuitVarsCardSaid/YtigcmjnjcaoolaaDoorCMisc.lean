/- The walks of ok, numbers, begins. -/
import Derived.Test.YtigcmjnjcaoolaaDoorCSame
namespace Go.Proofs.YtigcmjnjcaoolaaDoor
set_option linter.unusedVariables false
set_option linter.unusedSimpArgs false
open Go.RowKit
open Cx (N)
theorem ok_cases (n : N) (i : Int) : Cx.okB n i = if n.o = 2 then decide (0 ≤ n.a) && (n.b == 0) else if n.o = 3 ∨ n.o = 4 then decide (2 ≤ n.a) && decide (n.a < n.b) && decide (n.b < i) else false := by
  unfold Cx.okB Cx.leafB Cx.binary
  by_cases h2 : n.o = 2
  · have h3 : ¬ n.o = 3 := by omega
    have h4 : ¬ n.o = 4 := by omega
    rw [if_pos h2, decide_eq_true h2, decide_eq_false h3, decide_eq_false h4, Bool.eq_iff_iff]
    simp
  · by_cases h3 : n.o = 3
    · rw [if_neg h2, if_pos (Or.inl h3), decide_eq_false h2, decide_eq_true h3]; simp
    · by_cases h4 : n.o = 4
      · rw [if_neg h2, if_pos (Or.inr h4), decide_eq_false h2, decide_eq_true h4]; simp
      · rw [if_neg h2, if_neg (by omega), decide_eq_false h2, decide_eq_false h3, decide_eq_false h4]; simp
set_option maxHeartbeats 1000000 in
theorem ok_any (n : N) (i : Int) (w : World) : Calls Tryd.prog 37 #[.agg #[.int .i64 n.o, .int .i64 n.a, .int .i64 n.b], .int .i64 i] w fun e w' => e = .returned (.bool (Cx.okB n i)) ∧ Below w.heap.size w w' := by
  have hE := ok_cases n i
  obtain ⟨R, hR⟩ : ∃ R, R = Cx.okB n i := ⟨_, rfl⟩
  rw [← hR] at hE ⊢
  have HE := Lib.hid hE
  clear hR hE
  by_cases h2 : n.o = 2
  · have t2 : (n.o == 2) = true := by simpa using h2
    have HR := Lib.hid (show R = (decide (0 ≤ n.a) && (n.b == 0)) by rw [HE.out, if_pos h2])
    clear h2
    cases h3 : decide (0 ≤ n.a) <;> cases h4 : (n.b == 0)
    all_goals
      go_enter Tryd.func37, Tryd.ntmps37
      go_wp2_with fail
      go_ret
      exact ⟨by rw [HR.out, h3, h4]; rfl, below1 _ _⟩
  · have t2 : (n.o == 2) = false := by simpa using h2
    by_cases h3 : n.o = 3
    · have t3 : (n.o == 3) = true := by simpa using h3
      have HR := Lib.hid (show R = (decide (2 ≤ n.a) && decide (n.a < n.b) && decide (n.b < i)) by rw [HE.out, if_neg h2, if_pos (Or.inl h3)])
      clear h2 h3
      cases h4 : decide (2 ≤ n.a) <;> cases h5 : decide (n.a < n.b) <;> cases h6 : decide (n.b < i)
      all_goals
        go_enter Tryd.func37, Tryd.ntmps37
        go_wp2_with fail
        go_ret
        exact ⟨by rw [HR.out, h4, h5, h6]; rfl, below1 _ _⟩
    · have t3 : (n.o == 3) = false := by simpa using h3
      by_cases h4 : n.o = 4
      · have t4 : (n.o == 4) = true := by simpa using h4
        have HR := Lib.hid (show R = (decide (2 ≤ n.a) && decide (n.a < n.b) && decide (n.b < i)) by rw [HE.out, if_neg h2, if_pos (Or.inr h4)])
        clear h2 h3 h4
        cases h4 : decide (2 ≤ n.a) <;> cases h5 : decide (n.a < n.b) <;> cases h6 : decide (n.b < i)
        all_goals
          go_enter Tryd.func37, Tryd.ntmps37
          go_wp2_with fail
          go_ret
          exact ⟨by rw [HR.out, h4, h5, h6]; rfl, below1 _ _⟩
      · have t4 : (n.o == 4) = false := by simpa using h4
        have HR := Lib.hid (show R = false by rw [HE.out, if_neg h2, if_neg (by omega)])
        clear h2 h3 h4
        go_enter Tryd.func37, Tryd.ntmps37
        go_wp2_with fail
        go_ret
        exact ⟨by rw [HR.out]; rfl, below1 _ _⟩
def icells (l : List Int) : List Value := l.map (fun x => .int .i64 x)
theorem icells_app (l r : List Int) : icells (l ++ r) = icells l ++ icells r := by simp [icells]
theorem icells_len (l : List Int) : (icells l).length = l.length := by simp [icells]
theorem icells_one (l : List Int) : ∀ u ∈ icells l, u.oneCell' = true := by
  intro u hu; simp [icells] at hu; obtain ⟨x, _, rfl⟩ := hu; rfl
theorem int_info : (Tryd.prog.info? 3).map (fun i => (i.zero, i.size, i.bytes)) = some (some (.int .i64 0), 1, 8) := by kernel_rfl
/-- Numbers as a slice. -/
structure Ns (w : World) (A : Option Addr) (c : Nat) (l : List Int) : Prop where
  nums : Nums w A l
  le : l.length ≤ c
  cap : c ≤ maxLen
  none : A = none → l.length = 0 ∧ c = 0
theorem Ns.below {w w' : World} {A : Option Addr} {c : Nat} {l : List Int} (h : Ns w A c l) (hb : Below w.heap.size w w') : Ns w' A c l := ⟨h.nums.below hb, h.le, h.cap, h.none⟩
theorem nums_news {w : World} {A : Option Addr} {l : List Int} (h : Nums w A l) : ∀ ad, A = some ad → ∀ j u, (icells l)[j]? = some u → w.cell? (ad.add j) = some u := by
  intro ad hA j u hu
  simp only [icells, List.getElem?_map, Option.map_eq_some_iff] at hu
  obtain ⟨x, hx, rfl⟩ := hu
  obtain ⟨g, o, e, hg, hc⟩ := h (by intro e; rw [e] at hx; simp at hx)
  rw [hA] at e
  obtain rfl := Option.some.inj e
  rw [add_at]
  exact hc _ _ hx
theorem ns_of_own {w : World} {B : Nat} {v : Value} {l : List Int} (h : w.ownsRow B 3 1 v l.length (icells l)) : ∃ A c, v = .slice A l.length c ∧ Ns w A c l := by
  obtain ⟨A, c, hv, h1, h2, h3⟩ := own_cells h
  refine ⟨A, c, hv, ⟨fun hn => ?_, h1, h2, fun hA => ?_⟩⟩
  · rcases h3 with h3 | ⟨g, rfl, hB, hg, hc⟩
    · exact absurd (List.length_eq_zero_iff.1 h3) hn
    · refine ⟨g, 0, rfl, hg, fun k x hx => ?_⟩
      rw [Nat.zero_add]
      refine hc _ _ ?_
      simp [icells, hx]
  · subst hA
    rcases h.2 with ⟨e, hz⟩ | ⟨g, cap, cur, e, _⟩
    · rw [hv] at e; injection e with _ h4 h5; exact ⟨h4, h5⟩
    · rw [hv] at e; injection e with h4 _ _; cases h4
/-- Numbers in memory. -/
def NumsOut (l : List Int) (w : World) (e : Ending) (w' : World) : Prop := ∃ A c, e = .returned (.slice A l.length c) ∧ Ns w' A c l ∧ Below w.heap.size w w'
/-- A slice's cells hold these bytes. -/
def Raws (w : World) (A : Option Addr) (xs : List UInt8) : Prop :=
  xs ≠ [] → ∃ g o, A = some ⟨g, o, none⟩ ∧ g < w.heap.size ∧ ∀ (k : Nat) (x : UInt8), xs[k]? = some x → w.cell? ⟨g, o + k, none⟩ = some (.int .u8 (x.toNat : Int))
theorem Raws.below {w w' : World} {A : Option Addr} {xs : List UInt8} (h : Raws w A xs) (hb : Below w.heap.size w w') : Raws w' A xs := fun hn => by
  obtain ⟨g, o, e, hg, hc⟩ := h hn
  exact ⟨g, o, e, Nat.lt_of_lt_of_le hg hb.size, fun k x hx => (hb.cell hg).trans (hc k x hx)⟩
theorem Raws.at {w : World} {A : Option Addr} {xs : List UInt8} (h : Raws w A xs) {k : Nat} (hk : k < xs.length) : ∃ g o, A = some ⟨g, o, none⟩ ∧ g < w.heap.size ∧ w.cell? ⟨g, o + k, none⟩ = some (.int .u8 (xs[k].toNat : Int)) := by
  obtain ⟨g, o, e, hg, hc⟩ := h (by intro h; rw [h] at hk; simp at hk)
  exact ⟨g, o, e, hg, hc _ _ (List.getElem?_eq_getElem hk)⟩
def ints (xs : List UInt8) : List Int := xs.map (fun x => (x.toNat : Int))
theorem ints_len (xs : List UInt8) : (ints xs).length = xs.length := by simp [ints]
/-- The first k of the numbers. -/
def IntsAt (xs : List UInt8) (k : Nat) (l : List Int) : Prop := l = ints (xs.take k)
theorem IntsAt.more {xs : List UInt8} {k : Nat} {l : List Int} {x : UInt8} (h : IntsAt xs k l) (hx : xs[k]? = some x) : IntsAt xs (k + 1) (l ++ [(x.toNat : Int)]) := by
  unfold IntsAt at *
  rw [take_more hx, h]; simp [ints]
set_option maxHeartbeats 2000000 in
set_option maxRecDepth 100000 in
theorem numbers_any (A : Option Addr) (c : Nat) (xs : List UInt8) (w : World) (hx : xs.length ≤ 1000000) (hA : Raws w A xs) :
    Calls Tryd.prog 30 #[.slice A xs.length c] w (NumsOut (ints xs) w) := by
  obtain ⟨i0, hi, hz0, hz1, hz2⟩ := info_parts int_info
  have o0 := own_empty w 3 1 w.heap.size (Nat.le_refl _)
  have bw0 := below1 w (.cells #[] 3)
  go_enter Tryd.func30, Tryd.ntmps30
  go_wp2_with fail
  go_loopw [3, 4] (fun v i wr => ∃ (k : Nat) (l : List Int), k ≤ xs.length ∧ l.length = k ∧ Hid (IntsAt xs k l) ∧ i = .int .i64 k ∧ wr.ownsRow w.heap.size 3 1 v l.length (icells l) ∧ Below w.heap.size w wr) (fun _ i _ => xs.length - (intOf i).toNat)
  case atStart => exact ⟨0, [], by omega, rfl, Lib.hid rfl, rfl, o0, bw0⟩
  case round =>
    obtain ⟨k, l, hk, hlk, HL, rfl, hown, hbw⟩ := hrel
    clear o0 bw0
    obtain ⟨va, vc, rfl⟩ := own_len hown
    by_cases h1 : k < xs.length
    · have d1 : decide ((k : Int) < (xs.length : Int)) = true := by simp; omega
      obtain ⟨g, o, rfl, hg, c0⟩ := (hA.below hbw).at h1
      have HN := Lib.hid (HL.out.more (getElem_of h1))
      generalize xs[k] = x at *
      have i0' : (0 : Int) ≤ (k : Int) := by omega
      have i1 : (k : Int) < (xs.length : Int) := by omega
      have y0 : (0 : Int) ≤ (x.toNat : Int) := by omega
      have y1 : (x.toNat : Int) < 256 := by have := x.toNat_lt; omega
      have LL := Lib.hid (icells_len l)
      go_wp2_with (first
        | (at_builtin; go_loud (refine wpList_append_from rfl (.tmp 12) (.tmp 18) 25 rfl w.heap.size 3 i0 _ 1 8 Tryd.underlying25 hi hz0 hz1 hz2 rfl (by omega) (.slice va l.length vc) l.length (icells l) rfl (hown.alloc _) (some ⟨wr.heap.size, 0, none⟩) 1 1 [.int .i64 (x.toNat : Int)] rfl rfl (fun h => by cases h) (fun ad h => by obtain rfl := Option.some.inj h; exact At.news (At.new _ _ _)) (one1 rfl) (by unfold maxLen; omega) (by omega) (by have := hbw.size; simp; omega) ?_); intro v2 w2 o2 g2))
      have bw2 : Below w.heap.size w w2 := (hbw.alloc hbw.size _).grown g2 (by have := hbw.size; simp; omega) (fun q hq => (own_lt hown hq).1)
      go_roundw
      case rel => exact ⟨k + 1, l ++ [(x.toNat : Int)], by omega, by simp [hlk], HN, by go_num, by rw [icells_app, List.length_append]; exact o2, bw2⟩
      case measure => simp [intOf]; omega
    · have d1 : decide ((k : Int) < (xs.length : Int)) = false := by simp; omega
      have HE := Lib.hid (show l = ints xs by rw [HL.out, List.take_of_length_le (by omega)])
      go_wp2_with fail
      go_ret
      obtain ⟨A3, c3, e3, h3⟩ := ns_of_own hown
      exact ⟨A3, c3, by rw [← HE.out, ← e3]; rfl, by rw [← HE.out]; exact h3, hbw⟩
def beginsB (l m : List N) : Bool := decide (l.length ≤ m.length) && decide (m.length ≤ l.length + 1) && decide (l = m.take l.length)
set_option maxHeartbeats 1000000 in
theorem begins_any (A : Option Addr) (c : Nat) (l : List N) (B : Option Addr) (d : Nat) (m : List N) (w : World) (hl : l.length ≤ 1000000) (hm : m.length ≤ 1000000) (hA : Cir w A c l) (hB : Cir w B d m) :
    Calls Tryd.prog 29 #[.slice A l.length c, .slice B m.length d] w fun e w' => e = .returned (.bool (beginsB l m)) ∧ Below w.heap.size w w' := by
  obtain ⟨R, hR⟩ : ∃ R, R = beginsB l m := ⟨_, rfl⟩
  rw [← hR]
  unfold beginsB at hR
  have HR := Lib.hid hR
  clear hR
  by_cases h1 : l.length ≤ m.length
  · have d1 : decide ((l.length : Int) ≤ (m.length : Int)) = true := by simp; omega
    have d1' : decide (l.length ≤ m.length) = true := by simp; omega
    by_cases h2 : m.length ≤ l.length + 1
    · have d2 : decide ((m.length : Int) ≤ (l.length : Int) + 1) = true := by simp; omega
      have d2' : decide (m.length ≤ l.length + 1) = true := by simp; omega
      have mn : min (l.length : Int) (m.length : Int) = (l.length : Int) := by omega
      have cl := hB.le
      have cm := hB.cap
      have ht : (m.take l.length).length = l.length := by rw [List.length_take]; omega
      have hT : Circ w B (m.take l.length) := fun hn => by
        obtain ⟨g, o, e, hg, hc⟩ := hB.circ (by intro e; rw [e] at hn; simp at hn)
        refine ⟨g, o, e, hg, fun k v hv => hc k v ?_⟩
        rw [List.getElem?_take] at hv
        split at hv
        · exact hv
        · cases hv
      have S := same_any A c l B d (m.take l.length) w (by omega) (by omega) hA.circ hT
      rw [ht] at S
      have HF := Lib.hid (show R = decide (l = m.take l.length) by rw [HR.out, d1', d2']; rfl)
      clear ht hT
      go_enter Tryd.func29, Tryd.ntmps29
      go_wp2_with fail
      refine S.mono ?_
      rintro e w1 ⟨rfl, b1⟩
      go_wp2_with fail
      go_ret
      exact ⟨by rw [HF.out]; rfl, b1⟩
    · have d2 : decide ((m.length : Int) ≤ (l.length : Int) + 1) = false := by simp; omega
      have d2' : decide (m.length ≤ l.length + 1) = false := by simp; omega
      have HF := Lib.hid (show R = false by rw [HR.out, d1', d2']; rfl)
      go_enter Tryd.func29, Tryd.ntmps29
      go_wp2_with fail
      go_ret
      exact ⟨by rw [HF.out]; rfl, Below.refl _ _⟩
  · have d1 : decide ((l.length : Int) ≤ (m.length : Int)) = false := by simp; omega
    have d1' : decide (l.length ≤ m.length) = false := by simp; omega
    have HF := Lib.hid (show R = false by rw [HR.out, d1']; rfl)
    go_enter Tryd.func29, Tryd.ntmps29
    go_wp2_with fail
    go_ret
    exact ⟨by rw [HF.out]; rfl, Below.refl _ _⟩
end Go.Proofs.YtigcmjnjcaoolaaDoor
