/- The walks of the reference's in, Negated, edge. -/
import Derived.Test.YtljlihimmcmlmaaTInfo
import Derived.Test.YtljlihimmcmlmaaTEdges
namespace Go.Proofs.Ytljlihimmcmlmaa
set_option linter.unusedVariables false
set_option linter.unusedSimpArgs false
open Go.RowKit
theorem rin_any (p : Pg) (x : Int) (w : World) (hp : PgOk w p) : Calls Try.prog 41 #[p.v, .int .i64 x] w fun e w' => e = .returned (.bool (ins p x)) ∧ Below w.heap.size w w' := by
  have hl : p.prs.length ≤ 9223372036854775807 := by have := hp.pcap; unfold maxLen at this; omega
  unfold ins Pg.v
  by_cases h1 : 0 ≤ x
  · have d1 : decide (0 ≤ x) = true := decide_eq_true h1
    cases d2 : decide (x < (p.prs.length : Int))
    all_goals
      clear h1
      go_enter Try.func41, Try.ntmps41
      go_wp2_with fail
      go_ret
      exact ⟨by rw [d1]; rfl, below1 _ _⟩
  · have d1 : decide (0 ≤ x) = false := decide_eq_false h1
    clear h1
    go_enter Try.func41, Try.ntmps41
    go_wp2_with fail
    go_ret
    exact ⟨by rw [d1]; rfl, below1 _ _⟩
theorem rneg_any (l : Lit9) (w : World) : Calls Try.prog 26 #[l.v] w fun e w' => e = .returned (.bool (neg l)) ∧ Below w.heap.size w w' := by
  unfold neg Lit9.v
  by_cases h1 : l.kind = 2
  · have d1 : (l.kind == 2) = true := by simpa using h1
    have e1 : decide (l.kind = 2) = true := decide_eq_true h1
    clear h1
    go_enter Try.func26, Try.ntmps26
    go_wp2_with fail
    go_ret
    exact ⟨by rw [e1]; rfl, below1 _ _⟩
  · have d1 : (l.kind == 2) = false := by simpa using h1
    have e1 : decide (l.kind = 2) = false := decide_eq_false h1
    clear h1
    by_cases h2 : l.kind = 4
    · have d2 : (l.kind == 4) = true := by simpa using h2
      have e2 : decide (l.kind = 4) = true := decide_eq_true h2
      clear h2
      go_enter Try.func26, Try.ntmps26
      go_wp2_with fail
      go_ret
      exact ⟨by rw [e1, e2]; rfl, below1 _ _⟩
    · have d2 : (l.kind == 4) = false := by simpa using h2
      have e2 : decide (l.kind = 4) = false := decide_eq_false h2
      clear h2
      go_enter Try.func26, Try.ntmps26
      go_wp2_with fail
      go_ret
      exact ⟨by rw [e1, e2]; rfl, below1 _ _⟩
theorem redge_any (p : Pg) (r : Ru) (l : Lit9) (w : World) (hp : PgOk w p) : Calls Try.prog 31 #[p.v, r.v, l.v] w fun e w' => e = .returned (.bool (lnk p r l)) ∧ Below w.heap.size w w' := by
  have HI := Lib.hid (fun x W (h : Below w.heap.size w W) => rin_any p x W (hp.below h))
  have b3 : Below w.heap.size w (((w.alloc (.cells #[.slice p.lat.a p.lat.n p.lat.c, .slice p.fns.a p.fns.n p.fns.c, .slice p.pa p.prs.length p.pc, .slice p.ra p.rus.length p.rc] 27)).alloc (.cells r.fs.toArray 51)).alloc (.cells l.fs.toArray 56)) := ((below1 w _).alloc (by simp) _).alloc (by simp; omega) _
  unfold Ru.fs Lit9.fs at b3
  obtain ⟨WA, hWA⟩ : ∃ WA, WA = (((w.alloc (.cells #[.slice p.lat.a p.lat.n p.lat.c, .slice p.fns.a p.fns.n p.fns.c, .slice p.pa p.prs.length p.pc, .slice p.ra p.rus.length p.rc] 27)).alloc (.cells r.fs.toArray 51)).alloc (.cells l.fs.toArray 56)) := ⟨_, rfl⟩
  have a1 : At WA w.heap.size 27 #[.slice p.lat.a p.lat.n p.lat.c, .slice p.fns.a p.fns.n p.fns.c, .slice p.pa p.prs.length p.pc, .slice p.ra p.rus.length p.rc] := by rw [hWA]; exact ((At.new w _ _).alloc _).alloc _
  have a2 : At WA (w.heap.size + 2) 56 l.fs.toArray := by rw [hWA]; exact At.newAt (by simp) _ _
  have hc : ∀ w1, Below WA.heap.size WA w1 → At w1 w.heap.size 27 #[.slice p.lat.a p.lat.n p.lat.c, .slice p.fns.a p.fns.n p.fns.c, .slice p.pa p.prs.length p.pc, .slice p.ra p.rus.length p.rc] ∧ At w1 (w.heap.size + 2) 56 l.fs.toArray := fun w1 h => ⟨a1.next h, a2.next h⟩
  rw [hWA] at hc
  unfold Ru.fs Lit9.fs at hc
  have HC0 := Lib.hid (fun w1 h => (hc w1 h).1.cell 0)
  have HC1 := Lib.hid (fun w1 h => (hc w1 h).1.cell 1)
  have HC2 := Lib.hid (fun w1 h => (hc w1 h).1.cell 2)
  have HC3 := Lib.hid (fun w1 h => (hc w1 h).1.cell 3)
  have HC4 := Lib.hid (fun w1 h => (hc w1 h).2.cell 2)
  have HC5 := Lib.hid (fun w1 h => (hc w1 h).2.cell 0)
  clear a1 a2 hc hWA
  unfold lnk
  unfold Pg.v at HI ⊢
  unfold Ru.v Lit9.v
  cases hz : ins p r.pred
  · have HZ := Lib.hid hz
    clear hz
    go_enter Try.func31, Try.ntmps31
    go_wp2_with fail
    refine (HI.out r.pred _ b3).mono ?_
    rintro e w1 ⟨rfl, b1⟩
    rw [HZ.out]
    go_wp2_with fail
    go_ret
    exact ⟨by simp, b3.trans (b1.mono b3.size)⟩
  · have HZ := Lib.hid hz
    clear hz
    have fin : ∀ (b : Bool), (l.kind != 5) = b → Calls Try.prog 31 #[.agg #[.slice p.lat.a p.lat.n p.lat.c, .slice p.fns.a p.fns.n p.fns.c, .slice p.pa p.prs.length p.pc, .slice p.ra p.rus.length p.rc], .agg #[.string r.name, .int .i64 r.pred, .slice r.args.a r.args.n r.args.c, .int .i64 r.ek, .string r.en, .string r.ev, .int .i64 r.ei, .slice r.ba r.lits.length r.bc, .int .i64 r.pos], .agg #[.int .i64 l.kind, .string l.name, .int .i64 l.pred, .slice l.args.a l.args.n l.args.c, .string l.bind, .string l.elem, .int .i64 l.least, .int .i64 l.op, .int .i64 l.pos]] w fun e w' => e = .returned (.bool (ins p l.pred && b)) ∧ Below w.heap.size w w' := by
      intro b hb
      go_enter Try.func31, Try.ntmps31
      go_wp2_with fail
      refine (HI.out r.pred _ b3).mono ?_
      rintro e w1 ⟨rfl, b1⟩
      rw [HZ.out]
      have x1 : w1.cell? ⟨w.heap.size, 0, none⟩ = some (.slice p.lat.a p.lat.n p.lat.c) := HC0.out w1 b1
      have x2 : w1.cell? ⟨w.heap.size, 1, none⟩ = some (.slice p.fns.a p.fns.n p.fns.c) := HC1.out w1 b1
      have x3 : w1.cell? ⟨w.heap.size, 2, none⟩ = some (.slice p.pa p.prs.length p.pc) := HC2.out w1 b1
      have x4 : w1.cell? ⟨w.heap.size, 3, none⟩ = some (.slice p.ra p.rus.length p.rc) := HC3.out w1 b1
      have x5 : w1.cell? ⟨w.heap.size + 2, 2, none⟩ = some (.int .i64 l.pred) := HC4.out w1 b1
      have HX := Lib.hid (fun w2 (b2 : Below w1.heap.size w1 w2) => HC5.out w2 (b1.trans (b2.mono b1.size)))
      have b13 := b3.trans (b1.mono b3.size)
      clear b1
      go_wp2_with fail
      refine (HI.out l.pred _ b13).mono ?_
      rintro e w2 ⟨rfl, b2⟩
      have x6 : w2.cell? ⟨w.heap.size + 2, 0, none⟩ = some (.int .i64 l.kind) := HX.out w2 b2
      have b23 := b13.trans (b2.mono b13.size)
      clear b2
      cases hy : ins p l.pred
      · go_wp2_with fail
        go_ret
        exact ⟨by rw [hy]; rfl, b23⟩
      · cases b
        · have e0 : (l.kind == 5) = true := by rw [bne, Bool.not_eq_false'] at hb; exact hb
          go_wp2_with fail
          go_ret
          exact ⟨by rw [hy]; rfl, b23⟩
        · have e0 : (l.kind == 5) = false := by rw [bne, Bool.not_eq_true'] at hb; exact hb
          go_wp2_with fail
          go_ret
          exact ⟨by rw [hy]; rfl, b23⟩
    refine (fin _ rfl).mono ?_
    rintro e w' ⟨rfl, hb⟩
    refine ⟨?_, hb⟩
    rw [Bool.and_true, Bool.and_comm]
    by_cases h : l.kind = 5
    · simp [h]
    · simp [h]
end Go.Proofs.Ytljlihimmcmlmaa
namespace Go.Proofs.Ytljlihimmcmlmaa
set_option linter.unusedVariables false
set_option linter.unusedSimpArgs false
open Go.RowKit
theorem addr_inj {g o g' o' : Nat} (h : (some ⟨g, o, none⟩ : Option Addr) = some ⟨g', o', none⟩) : g = g' ∧ o = o' := by
  injection h with h; injection h with h1 h2; exact ⟨h1, h2⟩
/-- On the way through a round of the reference's loop. -/
structure RJ (w : World) (p : Pg) (ra : Option Addr) (r : Ru) (bp br : Nat) (v u : Value) (es fs : List Tj.Ed) (W : World) : Prop where
  out : W.ownsRow (w.heap.size + 1) 34 2 v es.length (ecells es)
  marks : W.ownsRow (w.heap.size + 1) 4 1 u fs.length (mcells fs)
  below : Below w.heap.size w W
  prog : At W bp 27 #[.slice p.lat.a p.lat.n p.lat.c, .slice p.fns.a p.fns.n p.fns.c, .slice p.pa p.prs.length p.pc, .slice ra p.rus.length p.rc]
  rule : At W br 51 r.fs.toArray
  size : w.heap.size + 1 ≤ W.heap.size
section
variable {w W W' : World} {p : Pg} {ra : Option Addr} {r : Ru} {l : Lit9} {bp br : Nat} {v u : Value} {es fs : List Tj.Ed}
theorem RJ.next (h : RJ w p ra r bp br v u es fs W) (hb : Below W.heap.size W W') : RJ w p ra r bp br v u es fs W' :=
  ⟨own_below h.out hb, own_below h.marks hb, h.below.trans (hb.mono h.below.size), h.prog.next hb, h.rule.next hb, Nat.le_trans h.size hb.size⟩
theorem RJ.grew (h : RJ w p ra r bp br v u es fs W) {v' : Value} {es' : List Tj.Ed} (ho : W'.ownsRow (w.heap.size + 1) 34 2 v' es'.length (ecells es')) (hg : W.grownBy W' v.ownBlock) : RJ w p ra r bp br v' u es' fs W' :=
  ⟨ho, own_grown h.marks hg (own_apart h.marks h.out (by decide)), h.below.grown hg h.below.size (fun q hq => by have := (own_lt h.out hq).1; omega), h.prog.grown hg (own_far h.out h.prog (by decide)), h.rule.grown hg (own_far h.out h.rule (by decide)), Nat.le_trans h.size hg.size⟩
theorem RJ.grew2 (h : RJ w p ra r bp br v u es fs W) {u' : Value} {fs' : List Tj.Ed} (ho : W'.ownsRow (w.heap.size + 1) 4 1 u' fs'.length (mcells fs')) (hg : W.grownBy W' u.ownBlock) : RJ w p ra r bp br v u' es fs' W' :=
  ⟨own_grown h.out hg (own_apart h.out h.marks (by decide)), ho, h.below.grown hg h.below.size (fun q hq => by have := (own_lt h.marks hq).1; omega), h.prog.grown hg (own_far h.marks h.prog (by decide)), h.rule.grown hg (own_far h.marks h.rule (by decide)), Nat.le_trans h.size hg.size⟩
theorem pg_cells {a b c d : Value} (h : At W bp 27 #[a, b, c, d]) : W.cell? ⟨bp, 0, none⟩ = some a ∧ W.cell? ⟨bp, 1, none⟩ = some b ∧ W.cell? ⟨bp, 2, none⟩ = some c ∧ W.cell? ⟨bp, 3, none⟩ = some d :=
  ⟨h.cell 0, h.cell 1, h.cell 2, h.cell 3⟩
end
set_option maxHeartbeats 4000000 in
set_option maxRecDepth 100000 in
theorem redges_any (p : Pg) (w : World) (hp : PgOk w p) (hr : p.rus.length ≤ 1000) (hb : ∀ r ∈ p.rus, r.lits.length ≤ 1000) : Calls Try.prog 13 #[p.v] w (EdgesOut (edges p) w) := by
  obtain ⟨in0, hi0, hz0, hz1, hz2⟩ := info_of bool_info
  obtain ⟨in1, hi1, hy0, hy1, hy2⟩ := info_of pair_info
  have HRU := Lib.hid (fun W (h : Below w.heap.size w W) (k : Nat) (r : Ru) (hk : p.rus[k]? = some r) => ruAt (hp.below h) hk)
  have HLI := Lib.hid (fun (r : Ru) (l : Lit9) W (h : Below w.heap.size w W) => redge_any p r l W (hp.below h))
  have HRO := Lib.hid hp.each
  unfold Pg.v at HLI ⊢
  obtain ⟨RR, hRR⟩ : ∃ RR, edges p = RR := ⟨_, rfl⟩
  rw [hRR]
  have HRR := Lib.hid hRR
  clear hRR hp
  generalize p.ra = ra at *
  have s1 : ∀ o : Obj, (w.alloc o).heap.size = w.heap.size + 1 := fun o => by simp
  go_enter Try.func13, Try.ntmps13
  go_wp2_with fail
  go_loopw [4, 5, 6, 7, 8] (fun v u i _ _ wr => ∃ (k : Nat) (es : List Tj.Ed), k ≤ p.rus.length ∧ es.length ≤ k * 1000 ∧ Hid (es = (p.rus.take k).flatMap fun r => ruEdges p r r.lits) ∧ i = .int .i64 k ∧ wr.ownsRow (w.heap.size + 1) 34 2 v es.length (ecells es) ∧ wr.ownsRow (w.heap.size + 1) 4 1 u es.length (mcells es) ∧ Below w.heap.size w wr ∧ At wr w.heap.size 27 #[.slice p.lat.a p.lat.n p.lat.c, .slice p.fns.a p.fns.n p.fns.c, .slice p.pa p.prs.length p.pc, .slice ra p.rus.length p.rc]) (fun _ _ i _ _ _ => p.rus.length - (intOf i).toNat)
  case atStart =>
    refine ⟨0, [], by omega, by simp, Lib.hid (by simp), rfl, ?_, ?_, ((below1 _ _).alloc (by simp) _).alloc (by simp; omega) _, ((At.new _ _ _).alloc _).alloc _⟩
    · have h := (own_empty (w.alloc (.cells #[.slice p.lat.a p.lat.n p.lat.c, .slice p.fns.a p.fns.n p.fns.c, .slice p.pa p.prs.length p.pc, .slice ra p.rus.length p.rc] 27)) 34 2 (w.heap.size + 1) (by simp)).alloc (.cells #[] 4)
      rw [s1] at h; exact h
    · have h := own_empty ((w.alloc (.cells #[.slice p.lat.a p.lat.n p.lat.c, .slice p.fns.a p.fns.n p.fns.c, .slice p.pa p.prs.length p.pc, .slice ra p.rus.length p.rc] 27)).alloc (.cells #[] 34)) 4 1 (w.heap.size + 1) (by simp)
      rw [show ((w.alloc (.cells #[.slice p.lat.a p.lat.n p.lat.c, .slice p.fns.a p.fns.n p.fns.c, .slice p.pa p.prs.length p.pc, .slice ra p.rus.length p.rc] 27)).alloc (.cells #[] 34)).heap.size = w.heap.size + 2 by simp] at h
      exact h
  case round =>
    clear s1
    obtain ⟨wo, hwo⟩ : ∃ wo, wo = wr := ⟨_, rfl⟩
    subst hwo
    obtain ⟨k, es, hk, hel, HE, rfl, ho, hm, hbw, ha⟩ := hrel
    obtain ⟨va, vc, rfl⟩ := own_len ho
    obtain ⟨ua, uc, rfl⟩ := own_len hm
    have q3 : wo.cell? ⟨w.heap.size, 3, none⟩ = some (.slice ra p.rus.length p.rc) := ha.cell 3
    by_cases h1 : k < p.rus.length
    · have d1 : decide ((k : Int) < (p.rus.length : Int)) = true := by simp; omega
      obtain ⟨r, hrk⟩ : ∃ r, p.rus[k]? = some r := ⟨_, List.getElem?_eq_getElem h1⟩
      have hok := HRO.out r (List.mem_of_getElem? hrk)
      have HLT := Lib.hid (fun W (h : Below w.heap.size w W) (m : Nat) (l : Lit9) (hm : r.lits[m]? = some l) => litAt (hok.below h) hm)
      have HLR := Lib.hid (fun (l : Lit9) W (h : Below w.heap.size w W) => HLI.out r l W h)
      unfold Ru.v Lit9.v at HLR
      obtain ⟨g, o, rfl, hg, c0, c1, c2, c3, c4, c5, c6, c7, c8⟩ := HRU.out wo hbw k r hrk
      have j0 : (0 : Int) ≤ (k : Int) := by omega
      have j1 : (k : Int) < (p.rus.length : Int) := by omega
      have hrl := hb r (List.mem_of_getElem? hrk)
      have HKM := Lib.hid (show (p.rus.take (k + 1)).flatMap (fun r => ruEdges p r r.lits) = es ++ ruEdges p r r.lits by rw [take_more hrk, List.flatMap_append, ← HE.out]; simp)
      obtain ⟨ba, hba⟩ : ∃ ba, r.ba = ba := ⟨_, rfl⟩
      rw [hba] at HLT HLR c7
      have hrf : r.fs.toArray = #[.string r.name, .int .i64 r.pred, .slice r.args.a r.args.n r.args.c, .int .i64 r.ek, .string r.en, .string r.ev, .int .i64 r.ei, .slice ba r.lits.length r.bc, .int .i64 r.pos] := by unfold Ru.fs; rw [hba]
      have HBA := Lib.hid hba
      have rj0 : RJ w p (some ⟨g, o, none⟩) r w.heap.size wo.heap.size (.slice va es.length vc) (.slice ua es.length uc) es es (wo.alloc (.cells #[.string r.name, .int .i64 r.pred, .slice r.args.a r.args.n r.args.c, .int .i64 r.ek, .string r.en, .string r.ev, .int .i64 r.ei, .slice ba r.lits.length r.bc, .int .i64 r.pos] 51)) :=
        ⟨ho.alloc _, hm.alloc _, hbw.alloc hbw.size _, ha.alloc _, by rw [hrf]; exact At.new _ _ _, by have := ha.lt; simp; omega⟩
      have HJ0 := Lib.hid rj0
      have hs0 := ha.lt
      clear hba hrf hok rj0
      go_wp2_with fail
      go_loopw [4, 5, 8] (fun v u i wr => ∃ (m : Nat) (es2 : List Tj.Ed), m ≤ r.lits.length ∧ es2.length ≤ k * 1000 + m ∧ Hid (es2 = es ++ ruEdges p r (r.lits.take m)) ∧ i = .int .i64 m ∧ RJ w p (some ⟨g, o, none⟩) r w.heap.size wo.heap.size v u es2 es2 wr) (fun _ _ i _ => r.lits.length - (intOf i).toNat)
      case atStart => exact ⟨0, es, by omega, by omega, Lib.hid (by simp [ruEdges]), rfl, HJ0.out⟩
      case round =>
        clear ho hm ha c0 c1 c2 c3 c4 c5 c6 c7 c8 d1 hbw q3 HJ0
        obtain ⟨m, es2, hml, hel2, HE2, rfl, hrj⟩ := hrel
        obtain ⟨va, vc, rfl⟩ := own_len hrj.out
        obtain ⟨ua, uc, rfl⟩ := own_len hrj.marks
        obtain ⟨p0, p1, p2, p3⟩ := pg_cells hrj.prog
        obtain ⟨r0, r1, r2, r3, r4, r5, r6, r7, r8⟩ := ru_cells hrj.rule
        rw [HBA.out] at r7
        have HRJ := Lib.hid hrj
        clear hrj
        by_cases h2 : m < r.lits.length
        · have d2 : decide ((m : Int) < (r.lits.length : Int)) = true := by simp; omega
          obtain ⟨l, hlm⟩ : ∃ l, r.lits[m]? = some l := ⟨_, List.getElem?_eq_getElem h2⟩
          obtain ⟨g', o', rfl, hg', _⟩ := HLT.out wr HRJ.out.below m l hlm
          have j2 : (0 : Int) ≤ (m : Int) := by omega
          have j3 : (m : Int) < (r.lits.length : Int) := by omega
          have hrm := ruE_more p r hlm
          have HLM := Lib.hid hlm
          cases hz : lnk p r l
          · rw [hz, if_neg (by decide)] at hrm
            have HZ := Lib.hid hz
            have HRM := Lib.hid hrm
            clear hz hrm hlm
            go_wp2_with fail
            refine' wp_region_each _ (RJ w p (some ⟨g, o, none⟩) r w.heap.size wo.heap.size (.slice va es2.length vc) (.slice ua es2.length uc) es2 es2) (Onward) (Vl :: Vl :: Vl :: Vl :: Vl :: Vl :: Vl :: Vl :: []) ?hF (by kernel_rfl) (by kernel_rfl) (by kernel_rfl) (HRJ.out.next ((Below.refl _ _).drew)) (lasting_cons (lasting_vl) (lasting_cons (lasting_vl) (lasting_cons (lasting_vl) (lasting_cons (lasting_vl) (lasting_cons (lasting_vl) (lasting_cons (lasting_vl) (lasting_cons (lasting_vl) (lasting_cons (lasting_vl) (lasting_none))))))))) ?hops ?hend
            case hF => (intro v; simp only [over, Act.put, List.setIfInBounds_toArray, List.set_cons_zero, List.set_cons_succ, Nat.zero_add, Nat.reduceAdd]; exact rfl)
            case hops =>
              refine ⟨?_, ?_⟩
              · intro v w' hj hd hs K hK
                obtain ⟨p0, p1, p2, p3⟩ := pg_cells hj.out.prog
                have hk := hK.out
                simp only [Act.put, List.setIfInBounds_toArray, List.set_cons_zero, List.set_cons_succ] at hk
                have HK := Lib.hid hk
                clear hd hs hk hK
                go_simp
                exact HK.out _ _ hj.out (Below.refl _ _) (show _ = _ from rfl)
              refine ⟨?_, ?_⟩
              · intro v w' hj hd hs K hK
                obtain ⟨r0, r1, r2, r3, r4, r5, r6, r7, r8⟩ := ru_cells hj.out.rule
                rw [HBA.out] at r7
                have hk := hK.out
                simp only [Act.put, List.setIfInBounds_toArray, List.set_cons_zero, List.set_cons_succ] at hk
                have HK := Lib.hid hk
                clear hd hs hk hK
                go_simp
                exact HK.out _ _ hj.out (Below.refl _ _) (show _ = _ from rfl)
              refine ⟨?_, ?_⟩
              · intro v w' hj hd hs K hK
                have hk := hK.out
                simp only [Act.put, List.setIfInBounds_toArray, List.set_cons_zero, List.set_cons_succ] at hk
                have HK := Lib.hid hk
                clear hd hs hk hK
                go_simp
                exact HK.out _ _ hj.out (Below.refl _ _) (show _ = _ from rfl)
              refine ⟨?_, ?_⟩
              · intro v w' hj hd hs K hK
                have t2 : v 2 = _ := hd.out 2 (by kernel_rfl)
                obtain ⟨r0, r1, r2, r3, r4, r5, r6, r7, r8⟩ := ru_cells hj.out.rule
                rw [HBA.out] at r7
                have hk := hK.out
                simp only [t2, Act.put, List.setIfInBounds_toArray, List.set_cons_zero, List.set_cons_succ] at hk
                have HK := Lib.hid hk
                clear hd hs hk hK
                go_simp
                exact HK.out _ _ hj.out (Below.refl _ _) (show _ = _ from rfl)
              refine ⟨?_, ?_⟩
              · intro v w' hj hd hs K hK
                have hk := hK.out
                simp only [Act.put, List.setIfInBounds_toArray, List.set_cons_zero, List.set_cons_succ] at hk
                have HK := Lib.hid hk
                clear hd hs hk hK
                go_simp
                exact HK.out _ _ hj.out (Below.refl _ _) (show _ = _ from rfl)
              refine ⟨?_, ?_⟩
              · intro v w' hj hd hs K hK
                have t3 : v 3 = _ := hd.out 3 (by kernel_rfl)
                have t4 : v 4 = _ := hd.out 4 (by kernel_rfl)
                have hk := hK.out
                simp only [t3, t4, Act.put, List.setIfInBounds_toArray, List.set_cons_zero, List.set_cons_succ] at hk
                have HK := Lib.hid hk
                clear hd hs hk hK
                go_simp
                exact HK.out _ _ hj.out (Below.refl _ _) (show _ = _ from rfl)
              refine ⟨?_, ?_⟩
              · intro v w' hj hd hs K hK
                have t5 : v 5 = _ := hd.out 5 (by kernel_rfl)
                obtain ⟨g2, o2, eg, hg2, l0, l1, l2, l3, l4, l5, l6, l7, l8⟩ := HLT.out _ hj.out.below m l HLM.out; obtain ⟨rfl, rfl⟩ := addr_inj eg
                have hk := hK.out
                simp only [t5, Act.put, List.setIfInBounds_toArray, List.set_cons_zero, List.set_cons_succ] at hk
                have HK := Lib.hid hk
                clear hd hs hk hK
                go_simp
                exact HK.out _ _ hj.out (Below.refl _ _) (show _ = _ from rfl)
              refine ⟨?_, ?_⟩
              · intro v w' hj hd hs K hK
                have t0 : v 0 = _ := hd.out 0 (by kernel_rfl)
                have t1 : v 1 = _ := hd.out 1 (by kernel_rfl)
                have t6 : v 6 = _ := hd.out 6 (by kernel_rfl)
                have hk := hK.out
                simp only [t0, t1, t6, Act.put, List.setIfInBounds_toArray, List.set_cons_zero, List.set_cons_succ] at hk
                have HK := Lib.hid hk
                clear hd hs hk hK
                go_simp
                refine (HLR.out l w' hj.out.below).mono ?_
                rintro e w3 ⟨rfl, hb⟩
                exact HK.out _ _ (hj.out.next hb) hb (show _ = _ from rfl)
              trivial
            case hend =>
              intro vv w5 hj hd
              have t7 : vv 7 = _ := hd.out 7 (of_decide_eq_true (by kernel_rfl))
              rw [HZ.out] at t7
              simp only [t7]
              have e5 := hj.out
              clear hj hd t7
              go_wp2_with fail
              go_roundw
              case rel => exact ⟨m + 1, es2, by omega, by omega, Lib.hid (by rw [HRM.out]; exact HE2.out), by go_num, e5⟩
              case measure => simp [intOf]; omega
          · have hz' := hz
            unfold lnk ins at hz'
            simp only [Bool.and_eq_true, decide_eq_true_eq] at hz'
            rw [hz, if_pos rfl] at hrm
            have HC1 := Lib.hid (show ecells (es2 ++ [⟨r.pred.toNat, l.pred.toNat, neg l⟩]) = ecells es2 ++ [.int .i64 r.pred, .int .i64 l.pred] by
              rw [ecells_snoc, show ((r.pred.toNat : Nat) : Int) = r.pred by omega, show ((l.pred.toNat : Nat) : Int) = l.pred by omega])
            have HZ := Lib.hid hz
            have HRM := Lib.hid hrm
            clear hz hrm hlm hz'
            go_wp2_with fail
            refine' wp_region_each _ (RJ w p (some ⟨g, o, none⟩) r w.heap.size wo.heap.size (.slice va es2.length vc) (.slice ua es2.length uc) es2 es2) (Onward) (Vl :: Vl :: Vl :: Vl :: Vl :: Vl :: Vl :: Vl :: []) ?hF (by kernel_rfl) (by kernel_rfl) (by kernel_rfl) (HRJ.out.next ((Below.refl _ _).drew)) (lasting_cons (lasting_vl) (lasting_cons (lasting_vl) (lasting_cons (lasting_vl) (lasting_cons (lasting_vl) (lasting_cons (lasting_vl) (lasting_cons (lasting_vl) (lasting_cons (lasting_vl) (lasting_cons (lasting_vl) (lasting_none))))))))) ?hops ?hend
            case hF => (intro v; simp only [over, Act.put, List.setIfInBounds_toArray, List.set_cons_zero, List.set_cons_succ, Nat.zero_add, Nat.reduceAdd]; exact rfl)
            case hops =>
              refine ⟨?_, ?_⟩
              · intro v w' hj hd hs K hK
                obtain ⟨p0, p1, p2, p3⟩ := pg_cells hj.out.prog
                have hk := hK.out
                simp only [Act.put, List.setIfInBounds_toArray, List.set_cons_zero, List.set_cons_succ] at hk
                have HK := Lib.hid hk
                clear hd hs hk hK
                go_simp
                exact HK.out _ _ hj.out (Below.refl _ _) (show _ = _ from rfl)
              refine ⟨?_, ?_⟩
              · intro v w' hj hd hs K hK
                obtain ⟨r0, r1, r2, r3, r4, r5, r6, r7, r8⟩ := ru_cells hj.out.rule
                rw [HBA.out] at r7
                have hk := hK.out
                simp only [Act.put, List.setIfInBounds_toArray, List.set_cons_zero, List.set_cons_succ] at hk
                have HK := Lib.hid hk
                clear hd hs hk hK
                go_simp
                exact HK.out _ _ hj.out (Below.refl _ _) (show _ = _ from rfl)
              refine ⟨?_, ?_⟩
              · intro v w' hj hd hs K hK
                have hk := hK.out
                simp only [Act.put, List.setIfInBounds_toArray, List.set_cons_zero, List.set_cons_succ] at hk
                have HK := Lib.hid hk
                clear hd hs hk hK
                go_simp
                exact HK.out _ _ hj.out (Below.refl _ _) (show _ = _ from rfl)
              refine ⟨?_, ?_⟩
              · intro v w' hj hd hs K hK
                have t2 : v 2 = _ := hd.out 2 (by kernel_rfl)
                obtain ⟨r0, r1, r2, r3, r4, r5, r6, r7, r8⟩ := ru_cells hj.out.rule
                rw [HBA.out] at r7
                have hk := hK.out
                simp only [t2, Act.put, List.setIfInBounds_toArray, List.set_cons_zero, List.set_cons_succ] at hk
                have HK := Lib.hid hk
                clear hd hs hk hK
                go_simp
                exact HK.out _ _ hj.out (Below.refl _ _) (show _ = _ from rfl)
              refine ⟨?_, ?_⟩
              · intro v w' hj hd hs K hK
                have hk := hK.out
                simp only [Act.put, List.setIfInBounds_toArray, List.set_cons_zero, List.set_cons_succ] at hk
                have HK := Lib.hid hk
                clear hd hs hk hK
                go_simp
                exact HK.out _ _ hj.out (Below.refl _ _) (show _ = _ from rfl)
              refine ⟨?_, ?_⟩
              · intro v w' hj hd hs K hK
                have t3 : v 3 = _ := hd.out 3 (by kernel_rfl)
                have t4 : v 4 = _ := hd.out 4 (by kernel_rfl)
                have hk := hK.out
                simp only [t3, t4, Act.put, List.setIfInBounds_toArray, List.set_cons_zero, List.set_cons_succ] at hk
                have HK := Lib.hid hk
                clear hd hs hk hK
                go_simp
                exact HK.out _ _ hj.out (Below.refl _ _) (show _ = _ from rfl)
              refine ⟨?_, ?_⟩
              · intro v w' hj hd hs K hK
                have t5 : v 5 = _ := hd.out 5 (by kernel_rfl)
                obtain ⟨g2, o2, eg, hg2, l0, l1, l2, l3, l4, l5, l6, l7, l8⟩ := HLT.out _ hj.out.below m l HLM.out; obtain ⟨rfl, rfl⟩ := addr_inj eg
                have hk := hK.out
                simp only [t5, Act.put, List.setIfInBounds_toArray, List.set_cons_zero, List.set_cons_succ] at hk
                have HK := Lib.hid hk
                clear hd hs hk hK
                go_simp
                exact HK.out _ _ hj.out (Below.refl _ _) (show _ = _ from rfl)
              refine ⟨?_, ?_⟩
              · intro v w' hj hd hs K hK
                have t0 : v 0 = _ := hd.out 0 (by kernel_rfl)
                have t1 : v 1 = _ := hd.out 1 (by kernel_rfl)
                have t6 : v 6 = _ := hd.out 6 (by kernel_rfl)
                have hk := hK.out
                simp only [t0, t1, t6, Act.put, List.setIfInBounds_toArray, List.set_cons_zero, List.set_cons_succ] at hk
                have HK := Lib.hid hk
                clear hd hs hk hK
                go_simp
                refine (HLR.out l w' hj.out.below).mono ?_
                rintro e w3 ⟨rfl, hb⟩
                exact HK.out _ _ (hj.out.next hb) hb (show _ = _ from rfl)
              trivial
            case hend =>
              intro vv w5 hj hd
              have t7 : vv 7 = _ := hd.out 7 (of_decide_eq_true (by kernel_rfl))
              rw [HZ.out] at t7
              simp only [t7]
              have e5 := hj.out
              clear hj hd t7 p0 p1 p2 p3 r0 r1 r2 r3 r4 r5 r6 r7 r8
              go_wp2_with fail
              have E10 : ∀ i, i ≠ 10 → Lasting (RJ w p (some ⟨g, o, none⟩) r w.heap.size wo.heap.size (.slice va es2.length vc) (.slice ua es2.length uc) es2 es2) ((fun i => if i = 11 then Grows (.slice va es2.length vc) else Onward) i) (NewSl 34 1 [.int .i64 r.pred, .int .i64 l.pred] (Value.ownBlock (.slice va es2.length vc))) := fun i _ => by
                show Lasting _ (if i = 11 then _ else _) _
                split
                · exact newSl_self
                · exact newSl_on _ _ _ _
              have E11 : ∀ i, i ≠ 11 → Lasting (RJ w p (some ⟨g, o, none⟩) r w.heap.size wo.heap.size (.slice va es2.length vc) (.slice ua es2.length uc) es2 es2) ((fun i => if i = 11 then Grows (.slice va es2.length vc) else Onward) i) (OwnSl (w.heap.size + 1) 34 2 (es2.length + 1) (ecells es2 ++ [.int .i64 r.pred, .int .i64 l.pred])) := fun i hi => by
                show Lasting _ (if i = 11 then _ else _) _
                rw [if_neg hi]; exact ownSl_on _ _ _ _ _
              refine' wp_region_rely _ (RJ w p (some ⟨g, o, none⟩) r w.heap.size wo.heap.size (.slice va es2.length vc) (.slice ua es2.length uc) es2 es2) (fun i => if i = 11 then Grows (.slice va es2.length vc) else Onward) (Vl :: Vl :: Vl :: Vl :: Vl :: Vl :: Vl :: Vl :: Vl :: Vl :: NewSl 34 1 [.int .i64 r.pred, .int .i64 l.pred] (Value.ownBlock (.slice va es2.length vc)) :: OwnSl (w.heap.size + 1) 34 2 (es2.length + 1) (ecells es2 ++ [.int .i64 r.pred, .int .i64 l.pred]) :: OwnSl (w.heap.size + 1) 34 2 (es2.length + 1) (ecells es2 ++ [.int .i64 r.pred, .int .i64 l.pred]) :: []) ?hF (by kernel_rfl) (by kernel_rfl) (by kernel_rfl) (e5.next ((Below.refl _ _).drew)) (⟨fun i _ _ => lasting_vl, ⟨fun i _ _ => lasting_vl, ⟨fun i _ _ => lasting_vl, ⟨fun i _ _ => lasting_vl, ⟨fun i _ _ => lasting_vl, ⟨fun i _ _ => lasting_vl, ⟨fun i _ _ => lasting_vl, ⟨fun i _ _ => lasting_vl, ⟨fun i _ _ => lasting_vl, ⟨fun i _ _ => lasting_vl, ⟨fun i hne _ => E10 i hne, ⟨fun i hne _ => E11 i hne, ⟨fun i hne hb => E11 i (fun h => by subst h; exact absurd hb (by decide +kernel)), trivial⟩⟩⟩⟩⟩⟩⟩⟩⟩⟩⟩⟩⟩) ?hops ?hend
              case hF => (intro v; simp only [over, Act.put, List.setIfInBounds_toArray, List.set_cons_zero, List.set_cons_succ, Nat.zero_add, Nat.reduceAdd]; exact rfl)
              case hops =>
                refine ⟨?_, ?_⟩
                · intro v w' hj hd hs K hK
                  have s12 : v 12 = .slice va es2.length vc := hs.out 12 (by kernel_rfl)
                  have hk := hK.out
                  simp only [s12, Act.put, List.setIfInBounds_toArray, List.set_cons_zero, List.set_cons_succ] at hk
                  have HK := Lib.hid hk
                  clear hd hs hk hK
                  go_simp
                  exact HK.out _ _ hj.out (Below.refl _ _) (show _ = _ from rfl)
                refine ⟨?_, ?_⟩
                · intro v w' hj hd hs K hK
                  have hk := hK.out
                  simp only [Act.put, List.setIfInBounds_toArray, List.set_cons_zero, List.set_cons_succ] at hk
                  have HK := Lib.hid hk
                  clear hd hs hk hK
                  go_simp
                  exact HK.out _ _ hj.out (Below.refl _ _) (show _ = _ from rfl)
                refine ⟨?_, ?_⟩
                · intro v w' hj hd hs K hK
                  have t1 : v 1 = _ := hd.out 1 (by kernel_rfl)
                  obtain ⟨r0, r1, r2, r3, r4, r5, r6, r7, r8⟩ := ru_cells hj.out.rule
                  rw [HBA.out] at r7
                  have hk := hK.out
                  simp only [t1, Act.put, List.setIfInBounds_toArray, List.set_cons_zero, List.set_cons_succ] at hk
                  have HK := Lib.hid hk
                  clear hd hs hk hK
                  go_simp
                  exact HK.out _ _ hj.out (Below.refl _ _) (show _ = _ from rfl)
                refine ⟨?_, ?_⟩
                · intro v w' hj hd hs K hK
                  have hk := hK.out
                  simp only [Act.put, List.setIfInBounds_toArray, List.set_cons_zero, List.set_cons_succ] at hk
                  have HK := Lib.hid hk
                  clear hd hs hk hK
                  go_simp
                  exact HK.out _ _ hj.out (Below.refl _ _) (show _ = _ from rfl)
                refine ⟨?_, ?_⟩
                · intro v w' hj hd hs K hK
                  have t3 : v 3 = _ := hd.out 3 (by kernel_rfl)
                  obtain ⟨r0, r1, r2, r3, r4, r5, r6, r7, r8⟩ := ru_cells hj.out.rule
                  rw [HBA.out] at r7
                  have hk := hK.out
                  simp only [t3, Act.put, List.setIfInBounds_toArray, List.set_cons_zero, List.set_cons_succ] at hk
                  have HK := Lib.hid hk
                  clear hd hs hk hK
                  go_simp
                  exact HK.out _ _ hj.out (Below.refl _ _) (show _ = _ from rfl)
                refine ⟨?_, ?_⟩
                · intro v w' hj hd hs K hK
                  have hk := hK.out
                  simp only [Act.put, List.setIfInBounds_toArray, List.set_cons_zero, List.set_cons_succ] at hk
                  have HK := Lib.hid hk
                  clear hd hs hk hK
                  go_simp
                  exact HK.out _ _ hj.out (Below.refl _ _) (show _ = _ from rfl)
                refine ⟨?_, ?_⟩
                · intro v w' hj hd hs K hK
                  have t4 : v 4 = _ := hd.out 4 (by kernel_rfl)
                  have t5 : v 5 = _ := hd.out 5 (by kernel_rfl)
                  have hk := hK.out
                  simp only [t4, t5, Act.put, List.setIfInBounds_toArray, List.set_cons_zero, List.set_cons_succ] at hk
                  have HK := Lib.hid hk
                  clear hd hs hk hK
                  go_simp
                  exact HK.out _ _ hj.out (Below.refl _ _) (show _ = _ from rfl)
                refine ⟨?_, ?_⟩
                · intro v w' hj hd hs K hK
                  have t6 : v 6 = _ := hd.out 6 (by kernel_rfl)
                  have hk := hK.out
                  simp only [t6, Act.put, List.setIfInBounds_toArray, List.set_cons_zero, List.set_cons_succ] at hk
                  have HK := Lib.hid hk
                  clear hd hs hk hK
                  go_simp
                  exact HK.out _ _ hj.out (Below.refl _ _) (show _ = _ from rfl)
                refine ⟨?_, ?_⟩
                · intro v w' hj hd hs K hK
                  have t7 : v 7 = _ := hd.out 7 (by kernel_rfl)
                  obtain ⟨g2, o2, eg, hg2, l0, l1, l2, l3, l4, l5, l6, l7, l8⟩ := HLT.out _ hj.out.below m l HLM.out; obtain ⟨rfl, rfl⟩ := addr_inj eg
                  have hk := hK.out
                  simp only [t7, Act.put, List.setIfInBounds_toArray, List.set_cons_zero, List.set_cons_succ] at hk
                  have HK := Lib.hid hk
                  clear hd hs hk hK
                  go_simp
                  exact HK.out _ _ hj.out (Below.refl _ _) (show _ = _ from rfl)
                refine ⟨?_, ?_⟩
                · intro v w' hj hd hs K hK
                  have t2 : v 2 = _ := hd.out 2 (by kernel_rfl)
                  have t8 : v 8 = _ := hd.out 8 (by kernel_rfl)
                  have hk := hK.out
                  simp only [t2, t8, Act.put, List.setIfInBounds_toArray, List.set_cons_zero, List.set_cons_succ] at hk
                  have HK := Lib.hid hk
                  clear hd hs hk hK
                  go_simp
                  exact HK.out _ _ hj.out (Below.refl _ _) (show _ = _ from rfl)
                refine ⟨?_, ?_⟩
                · intro v w' hj hd hs K hK
                  have t9 : v 9 = _ := hd.out 9 (by kernel_rfl)
                  have hk := hK.out
                  simp only [t9, Act.put, List.setIfInBounds_toArray, List.set_cons_zero, List.set_cons_succ] at hk
                  have HK := Lib.hid hk
                  clear hd hs hk hK
                  go_simp
                  exact HK.out _ _ (hj.out.next (below1 _ _)) (below1 _ _) ⟨_, rfl, At.new _ _ _, fun h => by have := (own_lt hj.out.out h).2; omega⟩
                refine ⟨?_, ?_⟩
                · intro v w' hj hd hs K hK
                  have t0 : v 0 = _ := hd.out 0 (by kernel_rfl)
                  obtain ⟨g10, t10, a10, n10⟩ : NewSl 34 1 [.int .i64 r.pred, .int .i64 l.pred] (Value.ownBlock (.slice va es2.length vc)) (v 10) w' := hd.out 10 (by kernel_rfl)
                  have hk := hK.out
                  rw [if_pos (show Region.wanted _ _ = true from rfl)]
                  simp only [t0, t10] at hk ⊢
                  have HK := Lib.hid hk
                  clear hd hs hk hK
                  refine wp_append_keep (.tmp 38) (.tmp 48) 30 rfl (w.heap.size + 1) 34 in1 _ 2 16 Try.underlying30 hi1 hy0 hy1 hy2 rfl (by omega) (.slice va es2.length vc) es2.length (ecells es2) rfl hj.out.out ⟨g10, 0, none⟩ 1 1 [.int .i64 r.pred, .int .i64 l.pred] rfl rfl (At.news a10) (fun u hu => by simp at hu; rcases hu with rfl | rfl <;> rfl) (by unfold maxLen; omega) (by omega) hj.out.size fun v2 w2 o1 o2 g2 => ?_
                  exact HK.out _ _ (hj.out.grew o2 g2) g2 o1
                refine ⟨?_, ?_⟩
                · intro v w' hj hd hs K hK
                  have t11 : OwnSl (w.heap.size + 1) 34 2 (es2.length + 1) (ecells es2 ++ [.int .i64 r.pred, .int .i64 l.pred]) (v 11) w' := hd.out 11 (by kernel_rfl)
                  have hk := hK.out
                  simp only [t11, Act.put, List.setIfInBounds_toArray, List.set_cons_zero, List.set_cons_succ] at hk
                  have HK := Lib.hid hk
                  clear hd hs hk hK
                  go_simp
                  exact HK.out _ _ hj.out (Below.refl _ _) t11
                trivial
              case hend =>
                intro vv w6 hj hd
                have t12 : OwnSl (w.heap.size + 1) 34 2 (es2.length + 1) (ecells es2 ++ [.int .i64 r.pred, .int .i64 l.pred]) (vv 12) w6 := hd.out 12 (of_decide_eq_true (by kernel_rfl))
                obtain ⟨vb, vd, hvb⟩ := own_len t12
                rw [hvb] at t12
                simp only [hvb]
                have e6 := hj.out
                have e7 : RJ w p (some ⟨g, o, none⟩) r w.heap.size wo.heap.size (.slice vb (es2.length + 1) vd) (.slice ua es2.length uc) (es2 ++ [⟨r.pred.toNat, l.pred.toNat, neg l⟩]) es2 w6 :=
                  ⟨by rw [HC1.out, List.length_append]; exact t12, e6.marks, e6.below, e6.prog, e6.rule, e6.size⟩
                obtain ⟨r0, r1, r2, r3, r4, r5, r6, r7, r8⟩ := ru_cells e6.rule
                rw [HBA.out] at r7
                obtain ⟨g2, o2, eg, hg2, l0, l1, l2, l3, l4, l5, l6, l7, l8⟩ := HLT.out _ e6.below m l HLM.out
                obtain ⟨rfl, rfl⟩ := addr_inj eg
                have HE7 := Lib.hid e7
                clear hj hd t12 hvb e6 e7 e5
                go_wp2_with fail
                refine (rneg_any l _).mono ?_
                rintro e w7 ⟨rfl, b7⟩
                have e8 := HE7.out.next b7
                clear r0 r1 r2 r3 r4 r5 r6 r7 r8 l0 l1 l2 l3 l4 l5 l6 l7 l8 b7
                go_wp2_with (first
                  | (at_builtin; go_loud (refine wpList_append_from rfl (.tmp 50) (.tmp 57) 31 rfl (w.heap.size + 1) 4 in0 _ 1 1 Try.underlying31 hi0 hz0 hz1 hz2 rfl (by omega) (.slice ua es2.length uc) es2.length (mcells es2) rfl (e8.marks.alloc _) (some ⟨w7.heap.size, 0, none⟩) 1 1 [.bool (neg l)] rfl rfl (fun h => by cases h) (fun ad h => by obtain rfl := Option.some.inj h; exact At.news (At.new _ _ _)) (one1 rfl) (by unfold maxLen; omega) (by omega) (by have := e8.size; simp; omega) ?_); intro v9 w9 o9 g9))
                go_roundw
                case rel => exact ⟨m + 1, es2 ++ [⟨r.pred.toNat, l.pred.toNat, neg l⟩], by omega, by simp; omega, Lib.hid (by rw [HRM.out, HE2.out, List.append_assoc]), by go_num, (e8.next (below1 _ _)).grew2 (by rw [mcells_snoc, List.length_append]; exact o9) g9⟩
                case measure => simp [intOf]; omega
        · have d2 : decide ((m : Int) < (r.lits.length : Int)) = false := by simp; omega
          have HEE := Lib.hid (show es2 = (p.rus.take (k + 1)).flatMap fun r => ruEdges p r r.lits by rw [HKM.out, HE2.out, List.take_of_length_le (by omega)])
          go_wp2_with fail
          go_roundw
          case rel => exact ⟨k + 1, es2, by omega, by omega, HEE, by go_num, HRJ.out.out, HRJ.out.marks, HRJ.out.below, HRJ.out.prog⟩
          case measure => simp [intOf]; omega
    · have d1 : decide ((k : Int) < (p.rus.length : Int)) = false := by simp; omega
      have hE : RR = es := by rw [← HRR.out, HE.out, List.take_of_length_le (by omega)]; rfl
      go_wp2_with fail
      go_ret2
      exact ⟨_, _, rfl, by rw [hE]; exact own_mono ho (by omega), by rw [hE]; exact own_mono hm (by omega), hbw⟩
end Go.Proofs.Ytljlihimmcmlmaa
