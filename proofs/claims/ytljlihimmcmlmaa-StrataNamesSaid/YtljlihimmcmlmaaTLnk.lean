/- The walks of slices.IndexFunc over literals and of Check. -/
import Derived.Test.YtljlihimmcmlmaaTChk
namespace Go.Proofs.Ytljlihimmcmlmaa
set_option linter.unusedVariables false
set_option linter.unusedSimpArgs false
open Go.RowKit
/-- The first that holds. -/
def Idx (q : Lit9 → Bool) (ls : List Lit9) (i : Int) : Prop := (i = -1 ∧ ls.find? q = none) ∨ ∃ (m : Nat) (l : Lit9), i = (m : Int) ∧ ls[m]? = some l ∧ (ls.take m).find? q = none ∧ q l = true
set_option maxHeartbeats 1000000 in
set_option maxRecDepth 100000 in
theorem idxfn_any (r : Ru) (q : Lit9 → Bool) (bp br bo : Nat) (w : World) (hok : RuOk w r) (hl : r.lits.length ≤ 1000)
    (hcl : ∀ W, Below w.heap.size w W → ∀ l ∈ r.lits, Calls Try.prog 43 #[l.v, .pointer (some ⟨bp, 0, none⟩), .pointer (some ⟨br, 0, none⟩), .pointer (some ⟨bo, 0, none⟩)] W fun e w' => e = .returned (.bool (q l)) ∧ Below W.heap.size W w') :
    Calls Try.prog 42 #[.slice r.ba r.lits.length r.bc, .func (.func 43) #[] #[.pointer (some ⟨bp, 0, none⟩), .pointer (some ⟨br, 0, none⟩), .pointer (some ⟨bo, 0, none⟩)]] w fun e w' => ∃ i, e = .returned (.int .i64 i) ∧ Idx q r.lits i ∧ Below w.heap.size w w' := by
  have HCL := Lib.hid hcl
  have HLT := Lib.hid (fun W (h : Below w.heap.size w W) (m : Nat) (l : Lit9) (hm : r.lits[m]? = some l) => litAt (hok.below h) hm)
  unfold Lit9.v at HCL
  clear hcl hok
  generalize r.ba = ba at *
  go_enter Try.func42, Try.ntmps42
  go_wp2_with fail
  go_loopw [5, 8] (fun _ i wr => ∃ m : Nat, m ≤ r.lits.length ∧ i = .int .i64 m ∧ Hid ((r.lits.take m).find? q = none) ∧ Below w.heap.size w wr) (fun _ i _ => r.lits.length - (intOf i).toNat)
  case atStart => exact ⟨0, by omega, rfl, Lib.hid rfl, Below.refl _ _⟩
  case round =>
    obtain ⟨m, hm, rfl, HF, hb⟩ := hrel
    by_cases h1 : m < r.lits.length
    · have d1 : decide ((m : Int) < (r.lits.length : Int)) = true := by simp; omega
      obtain ⟨l, hlm⟩ : ∃ l, r.lits[m]? = some l := ⟨_, List.getElem?_eq_getElem h1⟩
      obtain ⟨g', o', rfl, hg', c0, c1, c2, c3, c4, c5, c6, c7, c8⟩ := HLT.out wr hb m l hlm
      have j2 : (0 : Int) ≤ (m : Int) := by omega
      have j3 : (m : Int) < (r.lits.length : Int) := by omega
      have hc0 := HCL.out wr hb l (List.mem_of_getElem? hlm)
      obtain ⟨qv, hqv⟩ : ∃ qv, q l = qv := ⟨_, rfl⟩
      rw [hqv] at hc0
      have HC := Lib.hid hc0
      have HLM := Lib.hid hlm
      have HQ := Lib.hid hqv
      clear hc0 hqv hlm
      cases qv
      · go_wp2_with fail
        refine HC.out.mono ?_
        rintro e w3 ⟨rfl, hb3⟩
        go_wp2_with fail
        go_roundw
        case rel => exact ⟨m + 1, by omega, by go_num, Lib.hid (find_miss HF.out HLM.out HQ.out), hb.trans (hb3.mono hb.size)⟩
        case measure => simp [intOf]; omega
      · go_wp2_with fail
        refine HC.out.mono ?_
        rintro e w3 ⟨rfl, hb3⟩
        go_wp2_with fail
        go_ret
        exact ⟨(m : Int), rfl, Or.inr ⟨m, l, rfl, HLM.out, HF.out, HQ.out⟩, hb.trans (hb3.mono hb.size)⟩
    · have d1 : decide ((m : Int) < (r.lits.length : Int)) = false := by simp; omega
      rw [List.take_of_length_le (by omega)] at HF
      go_wp2_with fail
      go_ret
      exact ⟨-1, rfl, Or.inl ⟨rfl, HF.out⟩, hb⟩
end Go.Proofs.Ytljlihimmcmlmaa
namespace Go.Proofs.Ytljlihimmcmlmaa
set_option linter.unusedVariables false
set_option linter.unusedSimpArgs false
open Go.RowKit
theorem take20_snoc {α : Type} {X D : List α} {d : α} (h : D = X.take 20) : (X ++ [d]).take 20 = if D.length < 20 then D ++ [d] else D := by
  subst h
  rw [List.length_take]
  by_cases hl : X.length < 20
  · rw [if_pos (by omega), List.take_of_length_le (by simp; omega), List.take_of_length_le (by omega)]
  · rw [if_neg (by omega), List.take_append_of_le_length (by omega)]
theorem bads_step {p : Pg} {T : Nat → Nat → Bool} {k : Nat} {r : Ru} {D : List (Int × Int)} (hr : p.rus[k]? = some r) (hD : D = ((p.rus.take k).filterMap (badRu p T)).take 20) : ((p.rus.take (k + 1)).filterMap (badRu p T)).take 20 = match badRu p T r with
    | none => D
    | some d => if D.length < 20 then D ++ [d] else D := by
  rw [take_more hr, List.filterMap_append, List.filterMap_cons]
  cases h : badRu p T r with
  | none => simp [hD]
  | some d => simpa using take20_snoc hD
set_option maxHeartbeats 2000000 in
set_option maxRecDepth 100000 in
theorem check_any (p : Pg) (n : Nat) (w : World) (hp : PgOk w p) (hf : PgFine p n) :
    Calls Try.prog 20 #[p.v] w fun e w' => ∃ A c, e = .returned (.slice A (bads p (sameC (Tj.whole (Tj.next (edges p)) n).of)).length c) ∧ DgAt w' A (bads p (sameC (Tj.whole (Tj.next (edges p)) n).of)) ∧ Below w.heap.size w w' := by
  obtain ⟨i0, hi0, hz0, hz1, hz2⟩ := info_of diag_info
  have HG := Lib.hid (fun W (h : Below w.heap.size w W) => groups_any p n W (hp.below h) hf)
  have HRU := Lib.hid (fun W (h : Below w.heap.size w W) (k : Nat) (r : Ru) (hk : p.rus[k]? = some r) => ruAt (hp.below h) hk)
  have HRO := Lib.hid hp.each
  have HLS := Lib.hid hf.ls
  have hrs := hf.rs
  have hn1 := hf.n1
  have hn := hf.hn
  have hofl : (Tj.whole (Tj.next (edges p)) n).of.length = n := (Tj.whole_inv (g := Tj.next (edges p)) (n := n) (next_in hf.es)).1.lof
  generalize Tj.whole (Tj.next (edges p)) n = wh at *
  obtain ⟨of, hof⟩ : ∃ of, wh.of = of := ⟨_, rfl⟩
  rw [hof] at hofl HG ⊢
  have HCK := Lib.hid (fun (r : Ru) (l : Lit9) (A1 : Option Addr) (c1 br bo : Nat) W (h : Below w.heap.size w W) => chk1_any p n r l of A1 c1 w.heap.size br bo W (hp.below h) hn hofl hn1)
  obtain ⟨R, hR⟩ : ∃ R, bads p (sameC of) = R := ⟨_, rfl⟩
  rw [hR]
  have HR := Lib.hid hR
  clear hR hf hp hof
  unfold Pg.v at HG ⊢
  generalize p.ra = ra at *
  generalize p.pa = pa at *
  rw [hn] at HG HCK ⊢
  clear hn
  have HAT := Lib.hid (At.new w 27 #[.slice p.lat.a p.lat.n p.lat.c, .slice p.fns.a p.fns.n p.fns.c, .slice pa n p.pc, .slice ra p.rus.length p.rc])
  go_enter Try.func20, Try.ntmps20
  go_wp2_with (go_at_call 32; refine (HG.out _ (below1 _ _)).mono ?_; rintro e w1 ⟨A1, c1, A2, c2, rfl, hofm, hlsm, hb1⟩; obtain ⟨p0, p1, p2, p3⟩ := pg_cells (HAT.out.next hb1); have hsz := (HAT.out.next hb1).lt)
  have hbw : Below w.heap.size w w1 := (below1 _ _).trans (hb1.mono (by simp))
  have hat1 := (HAT.out.next hb1).alloc (.cells #[.slice A1 n c1] 42)
  have hbo := At.new w1 42 #[.slice A1 n c1]
  have hbo1 := hofm.below (below1 w1 (.cells #[.slice A1 n c1] 42))
  have hbw2 := hbw.trans ((below1 w1 (.cells #[.slice A1 n c1] 42)).mono hbw.size)
  have hs1 : (w1.alloc (.cells #[.slice A1 n c1] 42)).heap.size = w1.heap.size + 1 := by simp
  clear HG hlsm hofm hb1 p0 p1 p2
  generalize hw2 : w1.alloc (.cells #[.slice A1 n c1] 42) = w2 at *
  go_loopw [5, 7, 8, 17] (fun v _ _ i wr => ∃ (k : Nat) (D : List (Int × Int)), k ≤ p.rus.length ∧ i = .int .i64 k ∧ Hid (D = ((p.rus.take k).filterMap (badRu p (sameC of))).take 20) ∧ wr.ownsRow (w1.heap.size + 1) 62 2 v D.length (dcells D) ∧ Below w2.heap.size w2 wr) (fun _ _ _ i _ => p.rus.length - (intOf i).toNat)
  case atStart => exact ⟨0, [], by omega, rfl, Lib.hid rfl, World.ownsRow_nil _ _ _ _, Below.refl _ _⟩
  case round =>
    clear p3 hw2
    obtain ⟨k, D, hk, rfl, HD, hown, hb⟩ := hrel
    obtain ⟨va, vc, rfl⟩ := own_len hown
    have hDl : D.length ≤ 20 := by rw [HD.out, List.length_take]; omega
    have hbW := hbw2.trans (hb.mono hbw2.size)
    by_cases h1 : k < p.rus.length
    · have d1 : decide ((k : Int) < (p.rus.length : Int)) = true := by simp; omega
      obtain ⟨r, hr⟩ : ∃ r, p.rus[k]? = some r := ⟨_, List.getElem?_eq_getElem h1⟩
      have hok := HRO.out r (List.mem_of_getElem? hr)
      have HLT := Lib.hid (fun W (h : Below w.heap.size w W) (m : Nat) (l : Lit9) (hm : r.lits[m]? = some l) => litAt (hok.below h) hm)
      have HBS := Lib.hid (bads_step hr HD.out)
      have hrl := HLS.out r (List.mem_of_getElem? hr)
      obtain ⟨g, o, rfl, hg, r0, r1, r2, r3, r4, r5, r6, r7, r8⟩ := HRU.out wr hbW k r hr
      have hcl0 := fun (W : World) (h : Below (wr.alloc (.cells #[.string r.name, .int .i64 r.pred, .slice r.args.a r.args.n r.args.c, .int .i64 r.ek, .string r.en, .string r.ev, .int .i64 r.ei, .slice r.ba r.lits.length r.bc, .int .i64 r.pos] 51)).heap.size (wr.alloc (.cells #[.string r.name, .int .i64 r.pred, .slice r.args.a r.args.n r.args.c, .int .i64 r.ek, .string r.en, .string r.ev, .int .i64 r.ei, .slice r.ba r.lits.length r.bc, .int .i64 r.pos] 51)) W) (l : Lit9) (_ : l ∈ r.lits) => HCK.out r l A1 c1 wr.heap.size w1.heap.size W ((hbW.trans ((below1 wr _).mono hbW.size)).trans (h.mono (by have := hbW.size; simp; omega))) (((hat1.next hb).alloc _).next h) ((At.new wr 51 _).next h) (((hbo.next hb).alloc _).next h) ((hbo1.below hb).below ((below1 wr _).trans (h.mono (by simp))))
      have hix := idxfn_any r (badLit p (sameC of) r) w.heap.size wr.heap.size w1.heap.size _ (hok.below (hbW.trans ((below1 wr (.cells #[.string r.name, .int .i64 r.pred, .slice r.args.a r.args.n r.args.c, .int .i64 r.ek, .string r.en, .string r.ev, .int .i64 r.ei, .slice r.ba r.lits.length r.bc, .int .i64 r.pos] 51)).mono hbW.size))) hrl hcl0
      have HBD := Lib.hid (show badRu p (sameC of) r = (r.lits.find? (badLit p (sameC of) r)).map fun l => (90, l.pos) from rfl)
      clear hcl0 hr hok
      obtain ⟨ba, hba⟩ : ∃ ba, r.ba = ba := ⟨_, rfl⟩
      rw [hba] at HLT hix r7
      have HIX := Lib.hid hix
      have HBR := Lib.hid (At.new wr 51 #[.string r.name, .int .i64 r.pred, .slice r.args.a r.args.n r.args.c, .int .i64 r.ek, .string r.en, .string r.ev, .int .i64 r.ei, .slice ba r.lits.length r.bc, .int .i64 r.pos])
      have HB4 := Lib.hid (hb.trans ((below1 wr (.cells #[.string r.name, .int .i64 r.pred, .slice r.args.a r.args.n r.args.c, .int .i64 r.ek, .string r.en, .string r.ev, .int .i64 r.ei, .slice ba r.lits.length r.bc, .int .i64 r.pos] 51)).mono hb.size))
      have HO4 := Lib.hid (hown.alloc (.cells #[.string r.name, .int .i64 r.pred, .slice r.args.a r.args.n r.args.c, .int .i64 r.ek, .string r.en, .string r.ev, .int .i64 r.ei, .slice ba r.lits.length r.bc, .int .i64 r.pos] 51))
      have HBW4 := Lib.hid (hbW.trans ((below1 wr (.cells #[.string r.name, .int .i64 r.pred, .slice r.args.a r.args.n r.args.c, .int .i64 r.ek, .string r.en, .string r.ev, .int .i64 r.ei, .slice ba r.lits.length r.bc, .int .i64 r.pos] 51)).mono hbW.size))
      have j0 : (0 : Int) ≤ (k : Int) := by omega
      have j1 : (k : Int) < (p.rus.length : Int) := by omega
      clear hba hix hown hb hbW
      go_wp2_with fail
      refine HIX.out.mono ?_
      rintro e w5 ⟨i, rfl, hidx, hb5⟩
      have ho5 := own_below HO4.out hb5
      have hb6 := HB4.out.trans (hb5.mono HB4.out.size)
      obtain ⟨r0, r1, r2, r3, r4, r5, r6, r7, r8⟩ := ru_cells' (HBR.out.next hb5)
      have hbW6 := HBW4.out.trans (hb5.mono HBW4.out.size)
      rcases hidx with ⟨rfl, hfd⟩ | ⟨m, l, rfl, hlm, hft, hq⟩
      · have HD2 := Lib.hid (show D = ((p.rus.take (k + 1)).filterMap (badRu p (sameC of))).take 20 by rw [HBS.out, HBD.out, hfd]; rfl)
        clear hfd
        go_wp2_with fail
        go_roundw
        case rel => exact ⟨k + 1, D, by omega, by go_num, HD2, ho5, hb6⟩
        case measure => simp [intOf]; omega
      · have hbr2 : badRu p (sameC of) r = some (90, l.pos) := by rw [HBD.out, find_hit hft hlm hq]; rfl
        have HD2 := Lib.hid (show ((p.rus.take (k + 1)).filterMap (badRu p (sameC of))).take 20 = if D.length < 20 then D ++ [(90, l.pos)] else D by rw [HBS.out, hbr2])
        have t1 : decide ((0 : Int) ≤ (m : Int)) = true := by simp
        have hml := (List.getElem?_eq_some_iff.1 hlm).1
        obtain ⟨g', o', rfl, hg', q0, q1, q2, q3, q4, q5, q6, q7, q8⟩ := HLT.out w5 hbW6 m l hlm
        have j2 : (0 : Int) ≤ (m : Int) := by omega
        have j3 : (m : Int) < (r.lits.length : Int) := by omega
        by_cases h20 : D.length < 20
        · have t2 : decide ((D.length : Int) < 20) = true := by simp; omega
          have HD3 := Lib.hid (show D ++ [((90 : Int), l.pos)] = ((p.rus.take (k + 1)).filterMap (badRu p (sameC of))).take 20 by rw [HD2.out, if_pos h20])
          have hz6 := hb6.size
          clear hbr2 hlm hft hq
          go_wp2_with (at_builtin; refine wpList_append_own _ rfl _ _ 40 rfl (w1.heap.size + 1) 62 i0 (.agg #[.int .i64 0, .int .i64 0]) 2 16 Try.underlying40 hi0 hz0 hz1 hz2 rfl (by decide) _ _ _ rfl (ho5.alloc _) ⟨w5.heap.size, 0, none⟩ 1 1 [.int .i64 90, .int .i64 l.pos] rfl rfl (At.news (xs := [.int .i64 90, .int .i64 l.pos]) (At.new w5 62 _)) (fun u hu => by simp at hu; rcases hu with rfl | rfl <;> rfl) (by unfold maxLen; omega) (by omega) (by simp; omega) ?_; intro v9 w9 o9 g9 _; have hb9 := (hb6.alloc hb6.size (.cells #[.int .i64 90, .int .i64 l.pos] 62)).grown g9 (by simp; omega) (fun q hq => by have := (own_lt ho5 hq).1; omega))
          go_roundw
          case rel => exact ⟨k + 1, D ++ [(90, l.pos)], by omega, by go_num, HD3, by rw [List.length_append, dcells_snoc]; exact o9, hb9⟩
          case measure => simp [intOf]; omega
        · have t2 : decide ((D.length : Int) < 20) = false := by simp; omega
          have HD3 := Lib.hid (show D = ((p.rus.take (k + 1)).filterMap (badRu p (sameC of))).take 20 by rw [HD2.out, if_neg h20])
          clear hbr2 hlm hft hq
          go_wp2_with fail
          go_roundw
          case rel => exact ⟨k + 1, D, by omega, by go_num, HD3, ho5, hb6⟩
          case measure => simp [intOf]; omega
    · have d1 : decide ((k : Int) < (p.rus.length : Int)) = false := by simp; omega
      have HE := Lib.hid (show D = R by rw [HD.out, ← HR.out, List.take_of_length_le (show p.rus.length ≤ k by omega)]; rfl)
      obtain ⟨A', c', e, hl⟩ := dg_own hown
      injection e with e1 e2 e3
      subst e1
      have HL := Lib.hid hl
      clear hl e3
      go_wp2_with fail
      go_ret
      refine ⟨va, ⟨vc, ?_⟩, ?_, hbW⟩
      · rw [← HE.out]; rfl
      · rw [← HE.out]; exact HL.out
end Go.Proofs.Ytljlihimmcmlmaa
namespace Go.Proofs.Ytljlihimmcmlmaa
set_option linter.unusedVariables false
set_option linter.unusedSimpArgs false
open Go.RowKit
section
variable {p : Pg} {n : Nat}
theorem fine_iff (hf : PgFine p n) : ∀ a b, a < n → b < n → (Tj.mget (Tj.depends n (edges p)) a b = true ↔ Tj.Dep (Tj.next (edges p)) a b) := (Tj.depends_iff hf.es).2
theorem fine_parts (hf : PgFine p n) : Tj.Parts (Tj.next (edges p)) n (Tj.whole (Tj.next (edges p)) n).out (fun v => (Tj.whole (Tj.next (edges p)) n).of.getD v 0) := Tj.whole_parts (next_in hf.es)
theorem reach_in (hf : PgFine p n) {a b : Nat} (h : Tj.Reach (Tj.next (edges p)) a b) : a < n → b < n := by
  induction h with
  | refl => exact id
  | @step x y z hy _ ih => exact fun hx => ih (next_in hf.es x hx y hy)
theorem comps_eq (hf : PgFine p n) : Tj.rcomps n (Tj.depends n (edges p)) n (List.replicate n false) = Tj.ord (Tj.next (edges p)) n n [] :=
  Tj.rcomps_ord (fine_iff hf) n (List.replicate n false) [] (by simp) (fun b hb => by simp [hb])
theorem srec_eq (hf : PgFine p n) {k : Nat} (hk : k < n) : srec (edges p) n k = Tj.mget (Tj.depends n (edges p)) k k := by
  rw [Bool.eq_iff_iff, fine_iff hf k k hk hk]
  have hP := fine_parts hf
  obtain ⟨c, hc, hkc⟩ := hP.mem k hk
  obtain ⟨_, hs, hm⟩ := hP.comp _ c hc
  have hgc : (Tj.whole (Tj.next (edges p)) n).out.getD ((Tj.whole (Tj.next (edges p)) n).of.getD k 0) [] = c := by
    rw [List.getD_eq_getElem?_getD, hc]; rfl
  unfold srec
  rw [hgc, Bool.or_eq_true, decide_eq_true_eq, List.contains_iff_mem]
  constructor
  · rintro (h | h)
    · obtain ⟨u, hu, hne⟩ : ∃ u ∈ c, u ≠ k := by
        match c, h, hs with
        | x :: y :: r, _, hs =>
          have hxy : x < y := (List.pairwise_cons.1 hs).1 y (by simp)
          by_cases e : x = k
          · exact ⟨y, by simp, by omega⟩
          · exact ⟨x, by simp, e⟩
      have he := ((hm k hkc).2.2 u).1 hu
      rcases Tj.reach_dep he.1 with h1 | ⟨d, hd, hr⟩
      · exact absurd h1.symm hne
      · exact ⟨d, hd, hr.trans he.2⟩
    · exact ⟨k, h, Tj.Reach.refl⟩
  · rintro ⟨d, hd, hr⟩
    by_cases e : d = k
    · subst e; exact Or.inr hd
    · left
      have hdc : d ∈ c := ((hm k hkc).2.2 d).2 ⟨Tj.Reach.one hd, hr⟩
      match c, hkc, hdc with
      | [x], h1, h2 =>
        simp at h1 h2
        omega
      | x :: y :: r, _, _ => simp
theorem sameC_eq (hf : PgFine p n) {a b : Nat} (ha : a < n) (hb : b < n) : sameC (Tj.whole (Tj.next (edges p)) n).of a b = Tj.tog (Tj.depends n (edges p)) a b := by
  rw [Bool.eq_iff_iff, Tj.tog_iff (fine_iff hf) ha hb]
  unfold sameC
  rw [decide_eq_true_eq]
  exact (fine_parts hf).same ha hb
theorem bads_eq (hf : PgFine p n) : bads p (sameC (Tj.whole (Tj.next (edges p)) n).of) = bads p (Tj.tog (Tj.depends n (edges p))) := by
  have h : ∀ r l, badLit p (sameC (Tj.whole (Tj.next (edges p)) n).of) r l = badLit p (Tj.tog (Tj.depends n (edges p))) r l := fun r l => by
    unfold badLit
    cases hl : lnk p r l with
    | false => rfl
    | true =>
      obtain ⟨_, h1, h2⟩ := lnk_iff.1 hl
      obtain ⟨a, ha, e1⟩ := ins_iff.1 h1
      obtain ⟨b, hb, e2⟩ := ins_iff.1 h2
      rw [hf.hn] at ha hb
      rw [e1, e2, Int.toNat_natCast, Int.toNat_natCast, sameC_eq hf ha hb]
  have h2 : badRu p (sameC (Tj.whole (Tj.next (edges p)) n).of) = badRu p (Tj.tog (Tj.depends n (edges p))) := by
    funext r
    unfold badRu
    congr 2
    funext l
    exact h r l
  unfold bads
  rw [h2]
theorem sees_iff (hf : PgFine p n) {k a : Nat} (hk : k < n) (ha : a < n) : sees (Tj.depends n (edges p)) k a = true ↔ Tj.Reach (Tj.next (edges p)) k a := by
  unfold sees
  rw [Bool.or_eq_true, decide_eq_true_eq, fine_iff hf k a hk ha]
  constructor
  · rintro (rfl | h)
    · exact Tj.Reach.refl
    · exact h.reach
  · intro h
    rcases Tj.reach_dep h with h | h
    · exact Or.inl h.symm
    · exact Or.inr h
theorem spos_eq (hf : PgFine p n) {k : Nat} (hk : k < n) : spos p k = (posA p (sees (Tj.depends n (edges p)) k) && posE p (sees (Tj.depends n (edges p)) k)) := by
  rw [Bool.eq_iff_iff, spos_iff, Bool.and_eq_true]
  unfold posA posE
  rw [List.all_eq_true, List.all_eq_true]
  refine and_congr ?_ ?_
  · constructor
    · intro h a ha
      rw [List.mem_range, hf.hn] at ha
      unfold okA
      cases hs : sees (Tj.depends n (edges p)) k a with
      | false => rfl
      | true => rw [h a ((sees_iff hf hk ha).1 hs)]; rfl
    · intro h v hv
      have hvn := reach_in hf hv hk
      have h1 := h v (by rw [List.mem_range, hf.hn]; exact hvn)
      unfold okA at h1
      rw [(sees_iff hf hk hvn).2 hv, Bool.true_and] at h1
      simpa using h1
  · constructor
    · intro h e he
      unfold okE
      cases hg : e.g with
      | false => rfl
      | true =>
        cases hs : sees (Tj.depends n (edges p)) k e.a with
        | false => rfl
        | true => exact absurd ((sees_iff hf hk (hf.es e he).1).1 hs) (h e he hg)
    · intro h e he hg hr
      have h1 := h e he
      unfold okE at h1
      rw [hg, (sees_iff hf hk (hf.es e he).1).2 hr] at h1
      cases h1
end
end Go.Proofs.Ytljlihimmcmlmaa
