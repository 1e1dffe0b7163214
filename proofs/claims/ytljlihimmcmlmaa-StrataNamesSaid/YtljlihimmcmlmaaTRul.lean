/- Programs that a law builds from lists of numbers; no walk. -/
import Derived.Test.YtljlihimmcmlmaaTRpo
namespace Go.Proofs.Ytljlihimmcmlmaa
set_option linter.unusedVariables false
set_option linter.unusedSimpArgs false
open Go.RowKit
def NumsI (w : World) (B : Option Addr) (row : List Int) : Prop := row ≠ [] → ∃ g o, B = some ⟨g, o, none⟩ ∧ g < w.heap.size ∧ ∀ (j : Nat) (x : Int), row[j]? = some x → w.cell? ⟨g, o + j, none⟩ = some (.int .i64 x)
theorem NumsI.below {w w' : World} {B : Option Addr} {row : List Int} (h : NumsI w B row) (hb : Below w.heap.size w w') : NumsI w' B row := fun hn => by
  obtain ⟨g, o, e, hg, hc⟩ := h hn
  exact ⟨g, o, e, Nat.lt_of_lt_of_le hg hb.size, fun j x hx => (hb.cell hg).trans (hc j x hx)⟩
theorem NumsI.at {w : World} {B : Option Addr} {row : List Int} (h : NumsI w B row) {j : Nat} {x : Int} (hj : row[j]? = some x) : ∃ g o, B = some ⟨g, o, none⟩ ∧ g < w.heap.size ∧ w.cell? ⟨g, o + j, none⟩ = some (.int .i64 x) := by
  obtain ⟨g, o, e, hg, hc⟩ := h (by intro e; rw [e] at hj; simp at hj)
  exact ⟨g, o, e, hg, hc j x hj⟩
def LsI (w : World) (A : Option Addr) (F : List (List Int)) : Prop := F ≠ [] → ∃ g o, A = some ⟨g, o, none⟩ ∧ g < w.heap.size ∧ ∀ (a : Nat) (row : List Int), F[a]? = some row → ∃ B c, w.cell? ⟨g, o + a, none⟩ = some (.slice B row.length c) ∧ NumsI w B row
theorem LsI.below {w w' : World} {A : Option Addr} {F : List (List Int)} (h : LsI w A F) (hb : Below w.heap.size w w') : LsI w' A F := fun hn => by
  obtain ⟨g, o, e, hg, hc⟩ := h hn
  refine ⟨g, o, e, Nat.lt_of_lt_of_le hg hb.size, fun a row ha => ?_⟩
  obtain ⟨B, c, h1, h2⟩ := hc a row ha
  exact ⟨B, c, (hb.cell hg).trans h1, h2.below hb⟩
theorem LsI.at {w : World} {A : Option Addr} {F : List (List Int)} (h : LsI w A F) {a : Nat} {row : List Int} (ha : F[a]? = some row) : ∃ g o B c, A = some ⟨g, o, none⟩ ∧ g < w.heap.size ∧ w.cell? ⟨g, o + a, none⟩ = some (.slice B row.length c) ∧ NumsI w B row := by
  obtain ⟨g, o, e, hg, hc⟩ := h (by intro e; rw [e] at ha; simp at ha)
  obtain ⟨B, c, h1, h2⟩ := hc a row ha
  exact ⟨g, o, B, c, e, hg, h1, h2⟩
theorem pred_info : (Try.prog.info? 53).map (fun i => (i.zero, i.size, i.bytes)) = some (some (.agg #[.string ⟨#[]⟩, .slice none 0 0, .string ⟨#[]⟩, .int .i64 0, .bool false, .int .i64 0, .int .i64 0]), 7, 88) := by kernel_rfl
theorem lit_info : (Try.prog.info? 56).map (fun i => (i.zero, i.size, i.bytes)) = some (some (.agg #[.int .i64 0, .string ⟨#[]⟩, .int .i64 0, .slice none 0 0, .string ⟨#[]⟩, .string ⟨#[]⟩, .int .i64 0, .int .i64 0, .int .i64 0]), 9, 112) := by kernel_rfl
theorem rule_info : (Try.prog.info? 51).map (fun i => (i.zero, i.size, i.bytes)) = some (some (.agg #[.string ⟨#[]⟩, .int .i64 0, .slice none 0 0, .int .i64 0, .string ⟨#[]⟩, .string ⟨#[]⟩, .int .i64 0, .slice none 0 0, .int .i64 0]), 9, 128) := by kernel_rfl
def blankP : Pr := ⟨⟨#[]⟩, ⟨none, 0, 0⟩, ⟨#[]⟩, -1, false, 0, 0⟩
def litOf (i k : Nat) (x : Int) : Lit9 := ⟨if x < 0 then 2 else 1, ⟨#[]⟩, if x < 0 then -1 - x else x, ⟨none, 0, 0⟩, ⟨#[]⟩, ⟨#[]⟩, 0, 0, 10 * i + k⟩
def litsOf (i : Nat) (row : List Int) : List Lit9 := row.tail.mapIdx fun j x => litOf i (j + 1) x
def ruleOf (i : Nat) (row : List Int) : Int × List Lit9 := (row.headD 0, litsOf i row)
def rulesOf (F : List (List Int)) : List (Int × List Lit9) := F.mapIdx ruleOf
def coreR (r : Ru) : Int × List Lit9 := (r.pred, r.lits)
def pcells (ps : List Pr) : List Value := ps.flatMap Pr.fs
def rcells (rs : List Ru) : List Value := rs.flatMap Ru.fs
def lcells (ls : List Lit9) : List Value := ls.flatMap Lit9.fs
theorem pcells_snoc (ps : List Pr) (p : Pr) : pcells (ps ++ [p]) = pcells ps ++ p.fs := by simp [pcells]
theorem rcells_snoc (ps : List Ru) (p : Ru) : rcells (ps ++ [p]) = rcells ps ++ p.fs := by simp [rcells]
theorem lcells_snoc (ps : List Lit9) (p : Lit9) : lcells (ps ++ [p]) = lcells ps ++ p.fs := by simp [lcells]
theorem flat_at {α β : Type} {f : α → List β} {k : Nat} (hf : ∀ x, (f x).length = k) : ∀ (l : List α) (i : Nat) (x : α) (j : Nat) (v : β), l[i]? = some x → (f x)[j]? = some v → (l.flatMap f)[i * k + j]? = some v
  | [], i, x, j, v, h, _ => by simp at h
  | y :: l, 0, x, j, v, h, hv => by
    obtain rfl : y = x := by simpa using h
    rw [List.flatMap_cons, Nat.zero_mul, Nat.zero_add, List.getElem?_append_left (List.getElem?_eq_some_iff.1 hv).1]; exact hv
  | y :: l, i + 1, x, j, v, h, hv => by
    rw [List.flatMap_cons, List.getElem?_append_right (by rw [hf, Nat.add_mul]; omega), hf, show (i + 1) * k + j - k = i * k + j by rw [Nat.add_mul]; omega]
    exact flat_at hf l i x j v (by simpa using h) hv
theorem str_own {α : Type} {f : α → List Value} {k : Nat} (hf : ∀ x, (f x).length = k) {w : World} {B : Nat} {T : TypeId} {A : Option Addr} {n c : Nat} {l : List α} (h : w.ownsRow B T k (.slice A n c) n (l.flatMap f)) (hn : l.length = n) : Str w A k (l.map f) ∧ n ≤ c ∧ c ≤ maxLen := by
  obtain ⟨A', c', e, h1, h2, h3⟩ := own_cells h
  injection e with e1 _ e3
  subst e1; subst e3
  refine ⟨fun hne => ?_, h1, h2⟩
  rcases h3 with h3 | ⟨g, rfl, _, hg, hc⟩
  · subst hn
    exact absurd (by rw [List.eq_nil_of_length_eq_zero h3]; rfl) hne
  · refine ⟨g, 0, rfl, hg, fun i fs hi j v hv => ?_⟩
    rw [List.getElem?_map, Option.map_eq_some_iff] at hi
    obtain ⟨x, hx, rfl⟩ := hi
    rw [Nat.zero_add]
    exact hc _ _ (flat_at hf l i x j v hx hv)
/-- A rule whose body is a row of the call's own. -/
def RuOwn (w : World) (B : Nat) (r : Ru) : Prop := w.ownsRow B 56 9 (.slice r.ba r.lits.length r.bc) r.lits.length (lcells r.lits)
theorem RuOwn.below {w w' : World} {B : Nat} {r : Ru} (h : RuOwn w B r) (hb : Below w.heap.size w w') : RuOwn w' B r := own_below h hb
theorem RuOwn.ok {w : World} {B : Nat} {r : Ru} (h : RuOwn w B r) (hi : I64 r.pred ∧ ∀ l ∈ r.lits, I64 l.kind ∧ I64 l.pred ∧ I64 l.pos) : RuOk w r := by
  obtain ⟨h1, h2, h3⟩ := str_own (f := Lit9.fs) (fun _ => rfl) h rfl
  exact ⟨h1, ⟨h2, h3⟩, hi⟩
theorem rulesOf_at {F : List (List Int)} {k : Nat} {row : List Int} (h : F[k]? = some row) : (rulesOf F)[k]? = some (ruleOf k row) := by
  unfold rulesOf
  rw [List.getElem?_mapIdx, h]; rfl
theorem litsOf_at {i : Nat} {row : List Int} {m : Nat} {x : Int} (h : row[m + 1]? = some x) : (litsOf i row)[m]? = some (litOf i (m + 1) x) := by
  unfold litsOf
  rw [List.getElem?_mapIdx, List.getElem?_tail, h]; rfl
theorem litsOf_len (i : Nat) (row : List Int) : (litsOf i row).length = row.length - 1 := by unfold litsOf; simp
theorem rulesOf_len (F : List (List Int)) : (rulesOf F).length = F.length := by unfold rulesOf; simp
theorem rulesOf_i64 {F : List (List Int)} (hR : ∀ r ∈ F, r ≠ [] ∧ r.length ≤ 100 ∧ ∀ x ∈ r, -1000 ≤ x ∧ x ≤ 1000) (hF : F.length ≤ 1000) {c : Int × List Lit9} (h : c ∈ rulesOf F) : I64 c.1 ∧ ∀ l ∈ c.2, I64 l.kind ∧ I64 l.pred ∧ I64 l.pos := by
  obtain ⟨i, hi⟩ := List.mem_iff_getElem?.1 h
  unfold rulesOf at hi
  rw [List.getElem?_mapIdx, Option.map_eq_some_iff] at hi
  obtain ⟨row, hr, rfl⟩ := hi
  have hil := (List.getElem?_eq_some_iff.1 hr).1
  obtain ⟨h0, h1, h2⟩ := hR row (List.mem_of_getElem? hr)
  unfold ruleOf
  refine ⟨?_, fun l hl => ?_⟩
  · cases row with
    | nil => exact absurd rfl h0
    | cons a b => have := h2 a (by simp); simp only [List.headD_cons]; unfold I64; omega
  · obtain ⟨j, hj⟩ := List.mem_iff_getElem?.1 hl
    simp only [litsOf] at hj
    rw [List.getElem?_mapIdx, Option.map_eq_some_iff] at hj
    obtain ⟨x, hx, rfl⟩ := hj
    have hjl := (List.getElem?_eq_some_iff.1 hx).1
    rw [List.length_tail] at hjl
    have hm := h2 x (List.mem_of_mem_tail (List.mem_of_getElem? hx))
    unfold litOf I64
    dsimp only
    refine ⟨?_, ?_, ?_⟩ <;> (try split) <;> omega
end Go.Proofs.Ytljlihimmcmlmaa
namespace Go.Proofs.Ytljlihimmcmlmaa
set_option linter.unusedVariables false
set_option linter.unusedSimpArgs false
open Go.RowKit
set_option maxHeartbeats 1000000 in
set_option maxRecDepth 100000 in
theorem rules_any (n : Nat) (A : Option Addr) (c : Nat) (F : List (List Int)) (w : World) (hn : n ≤ 1000) (hF : F.length ≤ 1000) (hR : ∀ r ∈ F, r ≠ [] ∧ r.length ≤ 100 ∧ ∀ x ∈ r, -1000 ≤ x ∧ x ≤ 1000) (hA : LsI w A F) :
    Calls Try.prog 28 #[.int .i64 n, .slice A F.length c] w fun e w' => ∃ p : Pg, e = .returned p.v ∧ PgOk w' p ∧ p.prs = List.replicate n blankP ∧ p.rus.map coreR = rulesOf F ∧ Below w.heap.size w w' := by
  obtain ⟨ip, hip, hzp0, hzp1, hzp2⟩ := info_of pred_info
  obtain ⟨il, hil, hzl0, hzl1, hzl2⟩ := info_of lit_info
  obtain ⟨ir, hir, hzr0, hzr1, hzr2⟩ := info_of rule_info
  have HR := Lib.hid hR
  clear hR
  have HA := Lib.hid (fun W (h : Below w.heap.size w W) => hA.below h)
  clear hA
  go_enter Try.func28, Try.ntmps28
  go_wp2_with fail
  go_loopw [6] (fun i wr => ∃ (k : Nat) (v : Value), k ≤ n ∧ i = .int .i64 k ∧ At wr (w.heap.size + 1) 27 #[.slice none 0 0, .slice none 0 0, v, .slice none 0 0] ∧ At wr w.heap.size 27 #[.slice none 0 0, .slice none 0 0, .slice none 0 0, .slice none 0 0] ∧ wr.ownsRow (w.heap.size + 2) 53 7 v k (pcells (List.replicate k blankP)) ∧ Below w.heap.size w wr) (fun i _ => n - (intOf i).toNat)
  case atStart => exact ⟨0, .slice none 0 0, by omega, rfl, At.newAt (by simp) _ _, (At.new w _ _).alloc _, World.ownsRow_nil _ _ _ _, (below1 _ _).trans ((below1 _ _).mono (by simp))⟩
  case round =>
    obtain ⟨k, v, hk, rfl, hp, hr, hown, hb⟩ := hrel
    by_cases h1 : k < n
    · have d1 : decide ((k : Int) < (n : Int)) = true := by simp; omega
      obtain ⟨va, vc, rfl⟩ := own_len hown
      have p2 := hp.cell 2
      have hz := hb.size
      have hlt := hp.lt
      have HN := Lib.hid (show pcells (List.replicate (k + 1) blankP) = pcells (List.replicate k blankP) ++ blankP.fs by rw [List.replicate_succ', pcells_snoc])
      go_wp2_with (at_builtin; refine wpList_append_own _ rfl _ _ 24 rfl (w.heap.size + 2) 53 ip _ 7 88 Try.underlying24 hip hzp0 hzp1 hzp2 rfl (by decide) _ _ _ rfl (hown.alloc _) ⟨wr.heap.size, 0, none⟩ 1 1 blankP.fs rfl rfl (At.news (xs := blankP.fs) (At.new wr 53 _)) (fun u hu => by unfold blankP Pr.fs at hu; simp at hu; rcases hu with rfl | rfl | rfl | rfl | rfl | rfl | rfl <;> rfl) (by unfold maxLen; omega) (by omega) (by simp; omega) ?_; intro v9 w9 o9 g9 _; obtain ⟨va9, vc9, rfl⟩ := own_len o9; have hp9 := (hp.alloc (.cells blankP.fs.toArray 53)).grown g9 (own_far hown hp (by decide)); have q2 := hp9.cell 2; have qf := hp9.frozen 2; have hb9 := (hb.alloc hb.size (.cells blankP.fs.toArray 53)).grown g9 (by simp; omega) (fun q hq => by have := (own_lt hown hq).1; omega))
      go_roundw
      case rel =>
        exact ⟨k + 1, _, by omega, by go_num, hp9.put 2 _, (((hr.alloc _).grown g9 (own_far hown hr (by decide))).far (by simp) _), own_putne (by rw [HN.out]; exact o9) (own_far o9 hp9 (by decide)) _, hb9.setCell (by simp) _⟩
      case measure => simp [intOf]; omega
    · have d1 : decide ((k : Int) < (n : Int)) = false := by simp; omega
      obtain rfl : k = n := by omega
      obtain ⟨va, vc, rfl⟩ := own_len hown
      have hz0 := hb.size
      have hlt := hp.lt
      go_wp2_with fail
      clear hlt hz0
      obtain ⟨w1, rfl⟩ : ∃ w1, w1 = wr := ⟨_, rfl⟩
      go_loopw [7, 8, 9, 10] (fun i _ _ _ wr => ∃ (m : Nat) (u : Value) (rs : List Ru), m ≤ F.length ∧ i = .int .i64 m ∧ rs.map coreR = (rulesOf F).take m ∧ At wr (w.heap.size + 1) 27 #[.slice none 0 0, .slice none 0 0, .slice va k vc, u] ∧ At wr w.heap.size 27 #[.slice none 0 0, .slice none 0 0, .slice none 0 0, .slice none 0 0] ∧ wr.ownsRow (w.heap.size + 2) 53 7 (.slice va k vc) k (pcells (List.replicate k blankP)) ∧ wr.ownsRow (w.heap.size + 2) 51 9 u m (rcells rs) ∧ (∀ r ∈ rs, RuOwn wr (w.heap.size + 2) r) ∧ Below w.heap.size w wr) (fun i _ _ _ _ => F.length - (intOf i).toNat)
      case atStart => exact ⟨0, .slice none 0 0, [], by omega, rfl, rfl, hp, hr, hown, World.ownsRow_nil _ _ _ _, fun r hr => by simp at hr, hb⟩
      case round =>
        clear hp hr hown hb
        obtain ⟨m, u, rs, hm, rfl, hrs, hp, hr, hown, hou, hro, hb⟩ := hrel
        obtain ⟨ua, uc, rfl⟩ := own_len hou
        have hrl : rs.length = m := by have := congrArg List.length hrs; rw [List.length_map, List.length_take, rulesOf_len] at this; omega
        have hz := hb.size
        have hlt := hp.lt
        by_cases h2 : m < F.length
        · have d2 : decide ((m : Int) < (F.length : Int)) = true := by simp; omega
          obtain ⟨row, hrow⟩ : ∃ x, F[m]? = some x := ⟨_, List.getElem?_eq_getElem h2⟩
          obtain ⟨hne, hrl2, hrx⟩ := HR.out row (List.mem_of_getElem? hrow)
          obtain ⟨x0, tl, hrw⟩ : ∃ x0 tl, row = x0 :: tl := by cases row with | nil => exact absurd rfl hne | cons a b => exact ⟨a, b, rfl⟩
          have hrow0 : row[0]? = some x0 := by rw [hrw]; rfl
          obtain ⟨g, o, B, cb, hAe, hg, c0, hB⟩ := (HA.out wr hb).at hrow
          obtain ⟨gB, oB, rfl, hgB, cx0⟩ := hB.at hrow0
          have i0 : (0 : Int) ≤ (m : Int) := by omega
          have i1 : (m : Int) < (F.length : Int) := by omega
          have i2 : (0 : Int) < (row.length : Int) := by rw [hrw]; simp
          have HROW := Lib.hid hrow
          clear hrow hrw hne
          rw [Nat.add_zero] at cx0
          subst hAe
          have HP := Lib.hid hp
          have HRR := Lib.hid hr
          have HOWN := Lib.hid hown
          have HOU := Lib.hid hou
          have HRO := Lib.hid hro
          have HB := Lib.hid hb
          go_wp2_with fail
          have hbo := At.new wr 51 #[.string ⟨#[]⟩, .int .i64 x0, .slice none 0 0, .int .i64 0, .string ⟨#[]⟩, .string ⟨#[]⟩, .int .i64 0, .slice none 0 0, .int .i64 0]
          have hb1 := below1 wr (.cells #[.string ⟨#[]⟩, .int .i64 x0, .slice none 0 0, .int .i64 0, .string ⟨#[]⟩, .string ⟨#[]⟩, .int .i64 0, .slice none 0 0, .int .i64 0] 51)
          clear hp hr hown hou hro hb hz hlt
          obtain ⟨W, rfl⟩ : ∃ W, W = wr := ⟨_, rfl⟩
          obtain ⟨R, hR⟩ : ∃ R, R = W.heap.size := ⟨_, rfl⟩
          have HRW := Lib.hid hR
          rw [← hR] at hbo hb1 hg hgB ⊢
          go_loopw [9, 10] (fun i _ wr => ∃ (j t : Nat) (bv : Value), Hid (j = t + 1) ∧ t < row.length ∧ i = .int .i64 j ∧ At wr R 51 #[.string ⟨#[]⟩, .int .i64 x0, .slice none 0 0, .int .i64 0, .string ⟨#[]⟩, .string ⟨#[]⟩, .int .i64 0, bv, .int .i64 0] ∧ wr.ownsRow (R + 1) 56 9 bv t (lcells ((litsOf m row).take t)) ∧ Below R W wr) (fun i _ _ => row.length - (intOf i).toNat)
          case atStart => exact ⟨1, 0, .slice none 0 0, Lib.hid rfl, by have := i2; omega, rfl, hbo, World.ownsRow_nil _ _ _ _, hb1⟩
          case round =>
            clear hbo hb1 hR
            obtain ⟨j, t, bv, HT, hj, rfl, hbo, how, hb⟩ := hrel
            obtain ⟨ba, bc, rfl⟩ := own_len how
            have e0 := (hb.cell hg).trans c0
            by_cases h3 : j < row.length
            · have d3 : decide ((j : Int) < (row.length : Int)) = true := by simp; omega
              obtain ⟨x, hx⟩ : ∃ x, row[j]? = some x := ⟨_, List.getElem?_eq_getElem h3⟩
              obtain ⟨hx0, hx1⟩ := hrx x (List.mem_of_getElem? hx)
              obtain ⟨gB', oB', eB, hgB', cx⟩ := hB.at hx
              obtain ⟨rfl, rfl⟩ : gB = gB' ∧ oB = oB' := by simpa using eB
              have e1 := (hb.cell hgB).trans cx
              have p7 := hbo.cell 7
              have HX := Lib.hid (show (litsOf m row).take (t + 1) = (litsOf m row).take t ++ [litOf m j x] by rw [HT.out] at hx ⊢; exact take_more (litsOf_at hx))
              have k0 : (0 : Int) ≤ (j : Int) := by omega
              have k1 : (j : Int) < (row.length : Int) := by omega
              have hz := hb.size
              have hlt := hbo.lt
              have ht : t ≤ 100 := by omega
              clear hx eB hgB'
              by_cases h4 : x < 0
              · have d4 : decide (x < 0) = true := by simp; omega
                have HL := Lib.hid (show (litOf m j x).fs = [.int .i64 2, .string ⟨#[]⟩, .int .i64 (-1 - x), .slice none 0 0, .string ⟨#[]⟩, .string ⟨#[]⟩, .int .i64 0, .int .i64 0, .int .i64 (10 * (m : Int) + (j : Int))] by unfold litOf Lit9.fs; simp only [if_pos h4])
                clear h4
                go_wp2_with (at_builtin; refine wpList_append_own _ rfl _ _ 49 rfl (R + 1) 56 il _ 9 112 Try.underlying49 hil hzl0 hzl1 hzl2 rfl (by decide) _ _ _ rfl ((how.alloc _).alloc _) ⟨wr.heap.size + 1, 0, none⟩ 1 1 [.int .i64 2, .string ⟨#[]⟩, .int .i64 (-1 - x), .slice none 0 0, .string ⟨#[]⟩, .string ⟨#[]⟩, .int .i64 0, .int .i64 0, .int .i64 (10 * (m : Int) + (j : Int))] rfl rfl (At.news (xs := [.int .i64 2, .string ⟨#[]⟩, .int .i64 (-1 - x), .slice none 0 0, .string ⟨#[]⟩, .string ⟨#[]⟩, .int .i64 0, .int .i64 0, .int .i64 (10 * (m : Int) + (j : Int))]) (At.newAt (by simp) 56 _)) (fun u hu => by simp at hu; rcases hu with rfl | rfl | rfl | rfl | rfl | rfl | rfl <;> rfl) (by unfold maxLen; omega) (by omega) (by simp; omega) ?_; intro v9 w9 o9 g9 _; obtain ⟨va9, vc9, rfl⟩ := own_len o9; have hp9 := ((hbo.alloc _).alloc _).grown g9 (own_far how hbo (by decide)); have q7 := hp9.cell 7; have qf := hp9.frozen 7; have hb9 := (((hb.alloc (by omega) _).alloc (by simp; omega) _)).grown g9 (by simp; omega) (fun q hq => by have := (own_lt how hq).1; omega))
                go_roundw
                case rel => exact ⟨j + 1, t + 1, _, Lib.hid (by rw [HT.out]), by have := HT.out; omega, by go_num, hp9.put 7 _, own_putne (by rw [HX.out, lcells_snoc, HL.out]; exact o9) (own_far o9 hp9 (by decide)) _, hb9.setCell (by simp) _⟩
                case measure => simp [intOf]; omega
              · have d4 : decide (x < 0) = false := by simp; omega
                have HL := Lib.hid (show (litOf m j x).fs = [.int .i64 1, .string ⟨#[]⟩, .int .i64 x, .slice none 0 0, .string ⟨#[]⟩, .string ⟨#[]⟩, .int .i64 0, .int .i64 0, .int .i64 (10 * (m : Int) + (j : Int))] by unfold litOf Lit9.fs; simp only [if_neg h4])
                clear h4
                go_wp2_with (at_builtin; refine wpList_append_own _ rfl _ _ 49 rfl (R + 1) 56 il _ 9 112 Try.underlying49 hil hzl0 hzl1 hzl2 rfl (by decide) _ _ _ rfl ((how.alloc _).alloc _) ⟨wr.heap.size + 1, 0, none⟩ 1 1 [.int .i64 1, .string ⟨#[]⟩, .int .i64 x, .slice none 0 0, .string ⟨#[]⟩, .string ⟨#[]⟩, .int .i64 0, .int .i64 0, .int .i64 (10 * (m : Int) + (j : Int))] rfl rfl (At.news (xs := [.int .i64 1, .string ⟨#[]⟩, .int .i64 x, .slice none 0 0, .string ⟨#[]⟩, .string ⟨#[]⟩, .int .i64 0, .int .i64 0, .int .i64 (10 * (m : Int) + (j : Int))]) (At.newAt (by simp) 56 _)) (fun u hu => by simp at hu; rcases hu with rfl | rfl | rfl | rfl | rfl | rfl | rfl <;> rfl) (by unfold maxLen; omega) (by omega) (by simp; omega) ?_; intro v9 w9 o9 g9 _; obtain ⟨va9, vc9, rfl⟩ := own_len o9; have hp9 := ((hbo.alloc _).alloc _).grown g9 (own_far how hbo (by decide)); have q7 := hp9.cell 7; have qf := hp9.frozen 7; have hb9 := (((hb.alloc (by omega) _).alloc (by simp; omega) _)).grown g9 (by simp; omega) (fun q hq => by have := (own_lt how hq).1; omega))
                go_roundw
                case rel => exact ⟨j + 1, t + 1, _, Lib.hid (by rw [HT.out]), by have := HT.out; omega, by go_num, hp9.put 7 _, own_putne (by rw [HX.out, lcells_snoc, HL.out]; exact o9) (own_far o9 hp9 (by decide)) _, hb9.setCell (by simp) _⟩
                case measure => simp [intOf]; omega
            · have d3 : decide ((j : Int) < (row.length : Int)) = false := by simp; omega
              have hbW : Below W.heap.size W wr := HRW.out ▸ hb
              have hp := HP.out.next hbW
              have hr := HRR.out.next hbW
              have hown := own_below HOWN.out hbW
              have hou := own_below HOU.out hbW
              have hro := fun r h => (HRO.out r h).below hbW
              have hbw := HB.out.trans (hbW.mono HB.out.size)
              have HT2 := Lib.hid (show t = (litsOf m row).length by rw [litsOf_len]; have := HT.out; omega)
              obtain ⟨nr, hnr⟩ : ∃ nr : Ru, nr = ⟨⟨#[]⟩, x0, ⟨none, 0, 0⟩, 0, ⟨#[]⟩, ⟨#[]⟩, 0, ba, bc, litsOf m row, 0⟩ := ⟨_, rfl⟩
              have HNR := Lib.hid (show nr.fs = [.string ⟨#[]⟩, .int .i64 x0, .slice none 0 0, .int .i64 0, .string ⟨#[]⟩, .string ⟨#[]⟩, .int .i64 0, .slice ba t bc, .int .i64 0] by rw [hnr, HT2.out]; rfl)
              have HCR := Lib.hid (show coreR nr = ruleOf m row by rw [hnr]; unfold coreR ruleOf; cases row with | nil => simp at hrow0 | cons a b => simp at hrow0; subst hrow0; rfl)
              have HRO2 := Lib.hid (show RuOwn wr (w.heap.size + 2) nr by
                unfold RuOwn
                rw [hnr]
                have h8 := how
                rw [HT2.out, List.take_length] at h8
                exact own_mono h8 (by have := HB.out.size; have := HP.out.lt; have := HRW.out; omega))
              obtain ⟨q0, q1, q2, q3, q4, q5, q6, q7, q8⟩ : wr.cell? ⟨R, 0, none⟩ = some (.string ⟨#[]⟩) ∧ wr.cell? ⟨R, 1, none⟩ = some (.int .i64 x0) ∧ wr.cell? ⟨R, 2, none⟩ = some (.slice none 0 0) ∧ wr.cell? ⟨R, 3, none⟩ = some (.int .i64 0) ∧ wr.cell? ⟨R, 4, none⟩ = some (.string ⟨#[]⟩) ∧ wr.cell? ⟨R, 5, none⟩ = some (.string ⟨#[]⟩) ∧ wr.cell? ⟨R, 6, none⟩ = some (.int .i64 0) ∧ wr.cell? ⟨R, 7, none⟩ = some (.slice ba t bc) ∧ wr.cell? ⟨R, 8, none⟩ = some (.int .i64 0) := ⟨hbo.cell 0, hbo.cell 1, hbo.cell 2, hbo.cell 3, hbo.cell 4, hbo.cell 5, hbo.cell 6, hbo.cell 7, hbo.cell 8⟩
              have p3 := hp.cell 3
              have hlt := hp.lt
              have hlt2 := hbo.lt
              have hz := hbw.size
              have HRX := Lib.hid (show (rs ++ [nr]).map coreR = (rulesOf F).take (m + 1) by rw [List.map_append, hrs, take_more (rulesOf_at HROW.out)]; simp [HCR.out])
              clear hnr
              go_wp2_with (at_builtin; go_loud (refine wpList_append_own _ rfl _ _ 25 rfl (w.heap.size + 2) 51 ir _ 9 128 Try.underlying25 hir hzr0 hzr1 hzr2 rfl (by decide) _ _ _ rfl (hou.alloc _) ⟨wr.heap.size, 0, none⟩ 1 1 [.string ⟨#[]⟩, .int .i64 x0, .slice none 0 0, .int .i64 0, .string ⟨#[]⟩, .string ⟨#[]⟩, .int .i64 0, .slice ba t bc, .int .i64 0] rfl rfl (At.news (xs := [.string ⟨#[]⟩, .int .i64 x0, .slice none 0 0, .int .i64 0, .string ⟨#[]⟩, .string ⟨#[]⟩, .int .i64 0, .slice ba t bc, .int .i64 0]) (At.newAt rfl 51 _)) (fun u hu => by simp at hu; rcases hu with rfl | rfl | rfl | rfl | rfl | rfl | rfl | rfl <;> rfl) (by unfold maxLen; omega) (by omega) (by simp; omega) ?_); intro v9 w9 o9 g9 _; obtain ⟨va9, vc9, rfl⟩ := own_len o9; have hp9 := (hp.alloc _).grown g9 (own_far hou hp (by decide)); have z3 := hp9.cell 3; have qf := hp9.frozen 3; have hb9 := ((hbw.alloc (by omega) _)).grown g9 (by simp; omega) (fun q hq => by have := (own_lt hou hq).1; omega))
              go_roundw
              case rel => exact ⟨m + 1, _, rs ++ [nr], by omega, by go_num, HRX.out, hp9.put 3 _, (((hr.alloc _).grown g9 (own_far hou hr (by decide))).far (by simp) _), own_put (own_grown (hown.alloc _) g9 (own_apart hown hou (by decide))) (by simp) _, own_putne (by rw [rcells_snoc, HNR.out]; exact o9) (own_far o9 hp9 (by decide)) _, fun r h => by
                rcases List.mem_append.1 h with h | h
                · exact own_put (own_grown ((hro r h).alloc _) g9 (own_apart (hro r h) hou (by decide))) (by simp) _
                · obtain rfl : r = nr := by simpa using h
                  exact own_put (own_grown (HRO2.out.alloc _) g9 (own_apart HRO2.out hou (by decide))) (by simp) _, hb9.setCell (by simp) _⟩
              case measure => simp [intOf]; omega
        · have d2 : decide ((m : Int) < (F.length : Int)) = false := by simp; omega
          obtain ⟨p0, p1, p2, p3⟩ : wr.cell? ⟨w.heap.size + 1, 0, none⟩ = some (.slice none 0 0) ∧ wr.cell? ⟨w.heap.size + 1, 1, none⟩ = some (.slice none 0 0) ∧ wr.cell? ⟨w.heap.size + 1, 2, none⟩ = some (.slice va k vc) ∧ wr.cell? ⟨w.heap.size + 1, 3, none⟩ = some (.slice ua m uc) := ⟨hp.cell 0, hp.cell 1, hp.cell 2, hp.cell 3⟩
          obtain ⟨r0, r1, r2, r3⟩ : wr.cell? ⟨w.heap.size, 0, none⟩ = some (.slice none 0 0) ∧ wr.cell? ⟨w.heap.size, 1, none⟩ = some (.slice none 0 0) ∧ wr.cell? ⟨w.heap.size, 2, none⟩ = some (.slice none 0 0) ∧ wr.cell? ⟨w.heap.size, 3, none⟩ = some (.slice none 0 0) := ⟨hr.cell 0, hr.cell 1, hr.cell 2, hr.cell 3⟩
          have f0 := hr.frozen 0
          have f1 := hr.frozen 1
          have f2 := hr.frozen 2
          have f3 := hr.frozen 3
          go_wp2_with fail
          have hrF := (((hr.put 0 (.slice none 0 0)).put 1 (.slice none 0 0)).put 2 (.slice va k vc)).put 3 (.slice ua m uc)
          have hbF := (((hb.setCell (p := ⟨w.heap.size, 0, none⟩) (Nat.le_refl _) (.slice none 0 0)).setCell (p := ⟨w.heap.size, 1, none⟩) (Nat.le_refl _) (.slice none 0 0)).setCell (p := ⟨w.heap.size, 2, none⟩) (Nat.le_refl _) (.slice va k vc)).setCell (p := ⟨w.heap.size, 3, none⟩) (Nat.le_refl _) (.slice ua m uc)
          have hown2 := own_put (own_put (own_put (own_put hown (p := ⟨w.heap.size, 0, none⟩) (by simp) (.slice none 0 0)) (p := ⟨w.heap.size, 1, none⟩) (by simp) (.slice none 0 0)) (p := ⟨w.heap.size, 2, none⟩) (by simp) (.slice va k vc)) (p := ⟨w.heap.size, 3, none⟩) (by simp) (.slice ua m uc)
          have hou2 := own_put (own_put (own_put (own_put hou (p := ⟨w.heap.size, 0, none⟩) (by simp) (.slice none 0 0)) (p := ⟨w.heap.size, 1, none⟩) (by simp) (.slice none 0 0)) (p := ⟨w.heap.size, 2, none⟩) (by simp) (.slice va k vc)) (p := ⟨w.heap.size, 3, none⟩) (by simp) (.slice ua m uc)
          have hro2 : ∀ r ∈ rs, RuOwn _ _ r := fun r h => own_put (own_put (own_put (own_put (hro r h) (p := ⟨w.heap.size, 0, none⟩) (by simp) (.slice none 0 0)) (p := ⟨w.heap.size, 1, none⟩) (by simp) (.slice none 0 0)) (p := ⟨w.heap.size, 2, none⟩) (by simp) (.slice va k vc)) (p := ⟨w.heap.size, 3, none⟩) (by simp) (.slice ua m uc)
          generalize (((wr.setCell ⟨w.heap.size, 0, none⟩ (.slice none 0 0)).setCell ⟨w.heap.size, 1, none⟩ (.slice none 0 0)).setCell ⟨w.heap.size, 2, none⟩ (.slice va k vc)).setCell ⟨w.heap.size, 3, none⟩ (.slice ua m uc) = Wf at *
          obtain ⟨s0, s1, s2, s3⟩ : Wf.cell? ⟨w.heap.size, 0, none⟩ = some (.slice none 0 0) ∧ Wf.cell? ⟨w.heap.size, 1, none⟩ = some (.slice none 0 0) ∧ Wf.cell? ⟨w.heap.size, 2, none⟩ = some (.slice va k vc) ∧ Wf.cell? ⟨w.heap.size, 3, none⟩ = some (.slice ua m uc) := ⟨hrF.cell 0, hrF.cell 1, hrF.cell 2, hrF.cell 3⟩
          rw [List.take_of_length_le (by rw [rulesOf_len]; omega)] at hrs
          have HX := Lib.hid hrl
          clear hrl
          (try simp only [Exit.inBlock, Exit.then])
          refine bodyPost_ret (v := .agg #[.slice none 0 0, .slice none 0 0, .slice va k vc, .slice ua m uc]) (by simp [results, Try.func28, go_sem, s0, s1, s2, s3]; try rfl) rfl ?_
          have hrl := HX.out
          refine ⟨⟨⟨none, 0, 0⟩, ⟨none, 0, 0⟩, va, vc, List.replicate k blankP, ua, uc, rs⟩, ?_, ?_, rfl, hrs, hbF⟩
          · unfold Pg.v; simp only [List.length_replicate, hrl]
          · obtain ⟨h5, h6, h7⟩ := str_own (f := Pr.fs) (fun _ => rfl) hown2 (by simp)
            obtain ⟨h8, h9, h10⟩ := str_own (f := Ru.fs) (fun _ => rfl) hou2 hrl
            refine ⟨h5, ⟨by simpa using h6, h7⟩, h8, ⟨by simpa [hrl] using h9, h10⟩, fun r h => (hro2 r h).ok ?_⟩
            exact rulesOf_i64 HR.out hF (by rw [← hrs]; exact List.mem_map_of_mem (f := coreR) h)
end Go.Proofs.Ytljlihimmcmlmaa
