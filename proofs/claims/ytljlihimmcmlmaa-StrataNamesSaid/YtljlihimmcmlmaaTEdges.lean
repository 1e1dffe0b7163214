/- The walk of Edges. -/
import Derived.Test.YtljlihimmcmlmaaTInfo
namespace Go.Proofs.Ytljlihimmcmlmaa
set_option linter.unusedVariables false
set_option linter.unusedSimpArgs false
open Go.RowKit
/-- What Edges leaves. -/
def EdgesOut (es : List Tj.Ed) (w : World) (e : Ending) (w' : World) : Prop := ∃ v u, e = .returned (.tuple #[v, u]) ∧ w'.ownsRow w.heap.size 34 2 v es.length (ecells es) ∧ w'.ownsRow w.heap.size 4 1 u es.length (mcells es) ∧ Below w.heap.size w w'
theorem ruAt {w : World} {p : Pg} (hp : PgOk w p) {k : Nat} {r : Ru} (hk : p.rus[k]? = some r) : ∃ g o, p.ra = some ⟨g, o, none⟩ ∧ g < w.heap.size ∧ w.cell? ⟨g, o + k * 9, none⟩ = some (.string r.name) ∧ w.cell? ⟨g, o + k * 9 + 1, none⟩ = some (.int .i64 r.pred) ∧ w.cell? ⟨g, o + k * 9 + 2, none⟩ = some (.slice r.args.a r.args.n r.args.c) ∧ w.cell? ⟨g, o + k * 9 + 3, none⟩ = some (.int .i64 r.ek) ∧ w.cell? ⟨g, o + k * 9 + 4, none⟩ = some (.string r.en) ∧ w.cell? ⟨g, o + k * 9 + 5, none⟩ = some (.string r.ev) ∧ w.cell? ⟨g, o + k * 9 + 6, none⟩ = some (.int .i64 r.ei) ∧ w.cell? ⟨g, o + k * 9 + 7, none⟩ = some (.slice r.ba r.lits.length r.bc) ∧ w.cell? ⟨g, o + k * 9 + 8, none⟩ = some (.int .i64 r.pos) := by
  obtain ⟨g, o, e, hg, hc⟩ := hp.rules.at (i := k) (fs := r.fs) (by simp [hk])
  exact ⟨g, o, e, hg, hc 0 _ rfl, hc 1 _ rfl, hc 2 _ rfl, hc 3 _ rfl, hc 4 _ rfl, hc 5 _ rfl, hc 6 _ rfl, hc 7 _ rfl, hc 8 _ rfl⟩
theorem litAt {w : World} {r : Ru} (hr : RuOk w r) {k : Nat} {l : Lit9} (hk : r.lits[k]? = some l) : ∃ g o, r.ba = some ⟨g, o, none⟩ ∧ g < w.heap.size ∧ w.cell? ⟨g, o + k * 9, none⟩ = some (.int .i64 l.kind) ∧ w.cell? ⟨g, o + k * 9 + 1, none⟩ = some (.string l.name) ∧ w.cell? ⟨g, o + k * 9 + 2, none⟩ = some (.int .i64 l.pred) ∧ w.cell? ⟨g, o + k * 9 + 3, none⟩ = some (.slice l.args.a l.args.n l.args.c) ∧ w.cell? ⟨g, o + k * 9 + 4, none⟩ = some (.string l.bind) ∧ w.cell? ⟨g, o + k * 9 + 5, none⟩ = some (.string l.elem) ∧ w.cell? ⟨g, o + k * 9 + 6, none⟩ = some (.int .i64 l.least) ∧ w.cell? ⟨g, o + k * 9 + 7, none⟩ = some (.int .i64 l.op) ∧ w.cell? ⟨g, o + k * 9 + 8, none⟩ = some (.int .i64 l.pos) := by
  obtain ⟨g, o, e, hg, hc⟩ := hr.body.at (i := k) (fs := l.fs) (by simp [hk])
  exact ⟨g, o, e, hg, hc 0 _ rfl, hc 1 _ rfl, hc 2 _ rfl, hc 3 _ rfl, hc 4 _ rfl, hc 5 _ rfl, hc 6 _ rfl, hc 7 _ rfl, hc 8 _ rfl⟩
/-- On the way through the statement that appends an edge and its mark. -/
structure EJ (w : World) (p : Pg) (ra : Option Addr) (r : Ru) (l : Lit9) (bp br bl : Nat) (v u : Value) (es : List Tj.Ed) (W : World) : Prop where
  out : W.ownsRow (w.heap.size + 1) 34 2 v es.length (ecells es)
  marks : W.ownsRow (w.heap.size + 1) 4 1 u es.length (mcells es)
  below : Below w.heap.size w W
  prog : At W bp 27 #[.slice p.lat.a p.lat.n p.lat.c, .slice p.fns.a p.fns.n p.fns.c, .slice p.pa p.prs.length p.pc, .slice ra p.rus.length p.rc]
  rule : At W br 51 r.fs.toArray
  lit : At W bl 56 l.fs.toArray
  size : w.heap.size + 1 ≤ W.heap.size
section
variable {w W W' : World} {p : Pg} {ra : Option Addr} {r : Ru} {l : Lit9} {bp br bl : Nat} {v u : Value} {es : List Tj.Ed}
theorem EJ.next (h : EJ w p ra r l bp br bl v u es W) (hb : Below W.heap.size W W') : EJ w p ra r l bp br bl v u es W' :=
  ⟨own_below h.out hb, own_below h.marks hb, h.below.trans (hb.mono h.below.size), h.prog.next hb, h.rule.next hb, h.lit.next hb, Nat.le_trans h.size hb.size⟩
theorem EJ.alloc (h : EJ w p ra r l bp br bl v u es W) (o : Obj) : EJ w p ra r l bp br bl v u es (W.alloc o) := h.next (below1 W o)
theorem EJ.grew (h : EJ w p ra r l bp br bl v u es W) (ho : W'.ownsRow (w.heap.size + 1) 34 2 v es.length (ecells es)) (hg : W.grownBy W' v.ownBlock) : EJ w p ra r l bp br bl v u es W' :=
  ⟨ho, own_grown h.marks hg (own_apart h.marks h.out (by decide)), h.below.grown hg h.below.size (fun q hq => by have := (own_lt h.out hq).1; omega), h.prog.grown hg (own_far h.out h.prog (by decide)), h.rule.grown hg (own_far h.out h.rule (by decide)), h.lit.grown hg (own_far h.out h.lit (by decide)), Nat.le_trans h.size hg.size⟩
theorem EJ.grew2 (h : EJ w p ra r l bp br bl v u es W) (ho : W'.ownsRow (w.heap.size + 1) 4 1 u es.length (mcells es)) (hg : W.grownBy W' u.ownBlock) : EJ w p ra r l bp br bl v u es W' :=
  ⟨own_grown h.out hg (own_apart h.out h.marks (by decide)), ho, h.below.grown hg h.below.size (fun q hq => by have := (own_lt h.marks hq).1; omega), h.prog.grown hg (own_far h.marks h.prog (by decide)), h.rule.grown hg (own_far h.marks h.rule (by decide)), h.lit.grown hg (own_far h.marks h.lit (by decide)), Nat.le_trans h.size hg.size⟩
theorem lit_cells (h : At W bl 56 l.fs.toArray) : W.cell? ⟨bl, 0, none⟩ = some (.int .i64 l.kind) ∧ W.cell? ⟨bl, 1, none⟩ = some (.string l.name) ∧ W.cell? ⟨bl, 2, none⟩ = some (.int .i64 l.pred) ∧ W.cell? ⟨bl, 3, none⟩ = some (.slice l.args.a l.args.n l.args.c) ∧ W.cell? ⟨bl, 4, none⟩ = some (.string l.bind) ∧ W.cell? ⟨bl, 5, none⟩ = some (.string l.elem) ∧ W.cell? ⟨bl, 6, none⟩ = some (.int .i64 l.least) ∧ W.cell? ⟨bl, 7, none⟩ = some (.int .i64 l.op) ∧ W.cell? ⟨bl, 8, none⟩ = some (.int .i64 l.pos) :=
  ⟨h.cell 0, h.cell 1, h.cell 2, h.cell 3, h.cell 4, h.cell 5, h.cell 6, h.cell 7, h.cell 8⟩
theorem ru_cells (h : At W br 51 r.fs.toArray) : W.cell? ⟨br, 0, none⟩ = some (.string r.name) ∧ W.cell? ⟨br, 1, none⟩ = some (.int .i64 r.pred) ∧ W.cell? ⟨br, 2, none⟩ = some (.slice r.args.a r.args.n r.args.c) ∧ W.cell? ⟨br, 3, none⟩ = some (.int .i64 r.ek) ∧ W.cell? ⟨br, 4, none⟩ = some (.string r.en) ∧ W.cell? ⟨br, 5, none⟩ = some (.string r.ev) ∧ W.cell? ⟨br, 6, none⟩ = some (.int .i64 r.ei) ∧ W.cell? ⟨br, 7, none⟩ = some (.slice r.ba r.lits.length r.bc) ∧ W.cell? ⟨br, 8, none⟩ = some (.int .i64 r.pos) :=
  ⟨h.cell 0, h.cell 1, h.cell 2, h.cell 3, h.cell 4, h.cell 5, h.cell 6, h.cell 7, h.cell 8⟩
end
theorem ruE_more (p : Pg) (r : Ru) {m : Nat} {l : Lit9} (h : r.lits[m]? = some l) : ruEdges p r (r.lits.take (m + 1)) = if lnk p r l = true then ruEdges p r (r.lits.take m) ++ [⟨r.pred.toNat, l.pred.toNat, neg l⟩] else ruEdges p r (r.lits.take m) := by
  unfold ruEdges
  rw [take_more h, List.filterMap_append]
  cases hl : lnk p r l <;> simp [hl]
set_option maxHeartbeats 4000000 in
set_option maxRecDepth 100000 in
theorem edges_any (p : Pg) (w : World) (hp : PgOk w p) (hr : p.rus.length ≤ 1000) (hb : ∀ r ∈ p.rus, r.lits.length ≤ 1000) : Calls Try.prog 12 #[p.v] w (EdgesOut (edges p) w) := by
  obtain ⟨in0, hi0, hz0, hz1, hz2⟩ := info_of bool_info
  obtain ⟨in1, hi1, hy0, hy1, hy2⟩ := info_of pair_info
  have HRU := Lib.hid (fun W (h : Below w.heap.size w W) (k : Nat) (r : Ru) (hk : p.rus[k]? = some r) => ruAt (hp.below h) hk)
  have HLI := Lib.hid (fun (r : Ru) (l : Lit9) W (h : Below w.heap.size w W) => linked_any p r l W (hp.below h))
  have HRO := Lib.hid hp.each
  unfold Pg.v at HLI ⊢
  obtain ⟨RR, hRR⟩ : ∃ RR, edges p = RR := ⟨_, rfl⟩
  rw [hRR]
  have HRR := Lib.hid hRR
  clear hRR hp
  generalize p.ra = ra at *
  go_enter Try.func12, Try.ntmps12
  go_wp2_with fail
  go_loopw [4, 5, 7, 9, 13] (fun v u _ _ i wr => ∃ (k : Nat) (es : List Tj.Ed), k ≤ p.rus.length ∧ es.length ≤ k * 1000 ∧ Hid (es = (p.rus.take k).flatMap fun r => ruEdges p r r.lits) ∧ i = .int .i64 k ∧ wr.ownsRow (w.heap.size + 1) 34 2 v es.length (ecells es) ∧ wr.ownsRow (w.heap.size + 1) 4 1 u es.length (mcells es) ∧ Below w.heap.size w wr ∧ At wr w.heap.size 27 #[.slice p.lat.a p.lat.n p.lat.c, .slice p.fns.a p.fns.n p.fns.c, .slice p.pa p.prs.length p.pc, .slice ra p.rus.length p.rc]) (fun _ _ _ _ i _ => p.rus.length - (intOf i).toNat)
  case atStart => exact ⟨0, [], by omega, by simp, Lib.hid (by simp), rfl, World.ownsRow_nil _ _ _ _, World.ownsRow_nil _ _ _ _, below1 _ _, At.new _ _ _⟩
  case round =>
    obtain ⟨wo, hwo⟩ : ∃ wo, wo = wr := ⟨_, rfl⟩
    subst hwo
    obtain ⟨k, es, hk, hel, HE, rfl, ho, hm, hbw, ha⟩ := hrel
    obtain ⟨va, vc, rfl⟩ := own_len ho
    obtain ⟨ua, uc, rfl⟩ := own_len hm
    by_cases h1 : k < p.rus.length
    · have d1 : decide ((k : Int) < (p.rus.length : Int)) = true := by simp; omega
      obtain ⟨r, hrk⟩ : ∃ r, p.rus[k]? = some r := ⟨_, List.getElem?_eq_getElem h1⟩
      have hok := HRO.out r (List.mem_of_getElem? hrk)
      have HLT := Lib.hid (fun W (h : Below w.heap.size w W) (m : Nat) (l : Lit9) (hm : r.lits[m]? = some l) => litAt (hok.below h) hm)
      have HLR := Lib.hid (fun (l : Lit9) W (h : Below w.heap.size w W) => HLI.out r l W h)
      unfold Ru.v at HLR
      obtain ⟨g, o, rfl, hg, c0, c1, c2, c3, c4, c5, c6, c7, c8⟩ := HRU.out wo hbw k r hrk
      have j0 : (0 : Int) ≤ (k : Int) := by omega
      have j1 : (k : Int) < (p.rus.length : Int) := by omega
      have hrl := hb r (List.mem_of_getElem? hrk)
      have HKM := Lib.hid (show (p.rus.take (k + 1)).flatMap (fun r => ruEdges p r r.lits) = es ++ ruEdges p r r.lits by rw [take_more hrk, List.flatMap_append, ← HE.out]; simp)
      obtain ⟨ba, hba⟩ : ∃ ba, r.ba = ba := ⟨_, rfl⟩
      rw [hba] at HLT HLR c7
      have hrf : r.fs.toArray = #[.string r.name, .int .i64 r.pred, .slice r.args.a r.args.n r.args.c, .int .i64 r.ek, .string r.en, .string r.ev, .int .i64 r.ei, .slice ba r.lits.length r.bc, .int .i64 r.pos] := by unfold Ru.fs; rw [hba]
      have HBA := Lib.hid hba
      have hbr : Below w.heap.size w (wo.alloc (.cells #[.string r.name, .int .i64 r.pred, .slice r.args.a r.args.n r.args.c, .int .i64 r.ek, .string r.en, .string r.ev, .int .i64 r.ei, .slice ba r.lits.length r.bc, .int .i64 r.pos] 51)) := hbw.alloc hbw.size _
      have hpb : At (wo.alloc (.cells #[.string r.name, .int .i64 r.pred, .slice r.args.a r.args.n r.args.c, .int .i64 r.ek, .string r.en, .string r.ev, .int .i64 r.ei, .slice ba r.lits.length r.bc, .int .i64 r.pos] 51)) w.heap.size 27 #[.slice p.lat.a p.lat.n p.lat.c, .slice p.fns.a p.fns.n p.fns.c, .slice p.pa p.prs.length p.pc, .slice (some ⟨g, o, none⟩) p.rus.length p.rc] := ha.alloc _
      have hrb : At (wo.alloc (.cells #[.string r.name, .int .i64 r.pred, .slice r.args.a r.args.n r.args.c, .int .i64 r.ek, .string r.en, .string r.ev, .int .i64 r.ei, .slice ba r.lits.length r.bc, .int .i64 r.pos] 51)) wo.heap.size 51 r.fs.toArray := by rw [hrf]; exact At.new _ _ _
      clear hba hrf hok
      have hwz : w.heap.size + 1 ≤ wo.heap.size := ha.lt
      go_wp2_with fail
      go_loopw [4, 5, 9, 20] (fun v u _ i wq => ∃ (m : Nat) (es2 : List Tj.Ed), m ≤ r.lits.length ∧ es2.length ≤ k * 1000 + m ∧ Hid (es2 = es ++ ruEdges p r (r.lits.take m)) ∧ i = .int .i64 m ∧ wq.ownsRow (w.heap.size + 1) 34 2 v es2.length (ecells es2) ∧ wq.ownsRow (w.heap.size + 1) 4 1 u es2.length (mcells es2) ∧ Below w.heap.size w wq ∧ At wq w.heap.size 27 #[.slice p.lat.a p.lat.n p.lat.c, .slice p.fns.a p.fns.n p.fns.c, .slice p.pa p.prs.length p.pc, .slice (some ⟨g, o, none⟩) p.rus.length p.rc] ∧ At wq wo.heap.size 51 r.fs.toArray ∧ w.heap.size + 1 ≤ wq.heap.size) (fun _ _ _ i _ => r.lits.length - (intOf i).toNat)
      case atStart => exact ⟨0, es, by omega, by omega, Lib.hid (by simp [ruEdges]), rfl, ho.alloc _, hm.alloc _, hbr, hpb, hrb, by simp; omega⟩
      case round =>
        clear hbr hpb hrb ho hm ha c0 c1 c2 c3 c4 c5 c6 c7 c8 d1 hbw
        obtain ⟨m, es2, hml, hel2, HE2, rfl, ho, hm, hbw, hpb, hrb, hwq⟩ := hrel
        obtain ⟨va, vc, rfl⟩ := own_len ho
        obtain ⟨ua, uc, rfl⟩ := own_len hm
        by_cases h2 : m < r.lits.length
        · have d2 : decide ((m : Int) < (r.lits.length : Int)) = true := by simp; omega
          obtain ⟨l, hlm⟩ : ∃ l, r.lits[m]? = some l := ⟨_, List.getElem?_eq_getElem h2⟩
          obtain ⟨g', o', rfl, hg', c0, c1, c2, c3, c4, c5, c6, c7, c8⟩ := HLT.out wr hbw m l hlm
          have j2 : (0 : Int) ≤ (m : Int) := by omega
          have j3 : (m : Int) < (r.lits.length : Int) := by omega
          have hrm := ruE_more p r hlm
          have ej : EJ w p (some ⟨g, o, none⟩) r l w.heap.size wo.heap.size wr.heap.size (.slice va es2.length vc) (.slice ua es2.length uc) es2 (wr.alloc (.cells l.fs.toArray 56)) :=
            ⟨ho.alloc _, hm.alloc _, hbw.alloc hbw.size _, hpb.alloc _, hrb.alloc _, At.new _ _ _, by simp; omega⟩
          have r0 := ru_cells hrb
          obtain ⟨r0, r1, r2, r3, r4, r5, r6, r7, r8⟩ := r0
          rw [HBA.out] at r7
          have hs1 := hpb.lt
          have hs2 := hrb.lt
          have p0 : wr.cell? ⟨w.heap.size, 0, none⟩ = some (.slice p.lat.a p.lat.n p.lat.c) := hpb.cell 0
          have p1 : wr.cell? ⟨w.heap.size, 1, none⟩ = some (.slice p.fns.a p.fns.n p.fns.c) := hpb.cell 1
          have p2 : wr.cell? ⟨w.heap.size, 2, none⟩ = some (.slice p.pa p.prs.length p.pc) := hpb.cell 2
          have p3 : wr.cell? ⟨w.heap.size, 3, none⟩ = some (.slice (some ⟨g, o, none⟩) p.rus.length p.rc) := hpb.cell 3
          have hlk := HLR.out l (wr.alloc (.cells l.fs.toArray 56)) ej.below
          unfold Lit9.v Lit9.fs at hlk
          have HLK := Lib.hid hlk
          clear hlk
          have HEJ := Lib.hid ej
          clear ej hlm
          cases hz : lnk p r l
          · rw [hz, if_neg (by decide)] at hrm
            have HZ := Lib.hid hz
            have HRM := Lib.hid hrm
            clear hz hrm
            go_wp2_with fail
            refine HLK.out.mono ?_
            rintro e w4 ⟨rfl, b4⟩
            rw [HZ.out]
            have e4 := HEJ.out.next b4
            go_wp2_with fail
            go_roundw
            case rel => exact ⟨m + 1, es2, by omega, by omega, Lib.hid (by rw [HRM.out]; exact HE2.out), by go_num, e4.out, e4.marks, e4.below, e4.prog, e4.rule, e4.size⟩
            case measure => simp [intOf]; omega
          · have hz' := hz
            unfold lnk ins at hz'
            simp only [Bool.and_eq_true, decide_eq_true_eq] at hz'
            rw [hz, if_pos rfl] at hrm
            have HC1 := Lib.hid (show ecells (es2 ++ [⟨r.pred.toNat, l.pred.toNat, neg l⟩]) = ecells es2 ++ [.int .i64 r.pred, .int .i64 l.pred] by
              rw [ecells_snoc, show ((r.pred.toNat : Nat) : Int) = r.pred by omega, show ((l.pred.toNat : Nat) : Int) = l.pred by omega])
            have HZ := Lib.hid hz
            have HRM := Lib.hid hrm
            clear hz hrm hz'
            go_wp2_with fail
            refine HLK.out.mono ?_
            rintro e w4 ⟨rfl, b4⟩
            rw [HZ.out]
            have e4 := HEJ.out.next b4
            clear HEJ HLK p0 p1 p2 p3 r0 r1 r2 r3 r4 r5 r6 r7 r8 c0 c1 c2 c3 c4 c5 c6 c7 c8 ho hm hbw hpb hrb b4
            go_wp2_with fail
            have E6 : ∀ i, i ≠ 6 → Lasting (EJ w p (some ⟨g, o, none⟩) r l w.heap.size wo.heap.size wr.heap.size (.slice va es2.length vc) (.slice ua es2.length uc) es2) ((fun i => if i = 7 then Grows (.slice va es2.length vc) else if i = 12 then Grows (.slice ua es2.length uc) else Onward) i) (NewSl 34 1 [.int .i64 r.pred, .int .i64 l.pred] (Value.ownBlock (.slice va es2.length vc))) := fun i _ => by
              show Lasting _ (if i = 7 then _ else if i = 12 then _ else _) _
              split
              · exact newSl_self
              · split
                · exact newSl_grows (fun W hJ => hJ.marks) (by decide)
                · exact newSl_on _ _ _ _
            have E11 : ∀ i, i ≠ 11 → Lasting (EJ w p (some ⟨g, o, none⟩) r l w.heap.size wo.heap.size wr.heap.size (.slice va es2.length vc) (.slice ua es2.length uc) es2) ((fun i => if i = 7 then Grows (.slice va es2.length vc) else if i = 12 then Grows (.slice ua es2.length uc) else Onward) i) (NewSl 4 1 [.bool (neg l)] (Value.ownBlock (.slice ua es2.length uc))) := fun i _ => by
              show Lasting _ (if i = 7 then _ else if i = 12 then _ else _) _
              split
              · exact newSl_grows (fun W hJ => hJ.out) (by decide)
              · split
                · exact newSl_self
                · exact newSl_on _ _ _ _
            have E7 : ∀ i, i ≠ 7 → Lasting (EJ w p (some ⟨g, o, none⟩) r l w.heap.size wo.heap.size wr.heap.size (.slice va es2.length vc) (.slice ua es2.length uc) es2) ((fun i => if i = 7 then Grows (.slice va es2.length vc) else if i = 12 then Grows (.slice ua es2.length uc) else Onward) i) (OwnSl (w.heap.size + 1) 34 2 (es2.length + 1) (ecells es2 ++ [.int .i64 r.pred, .int .i64 l.pred])) := fun i hi => by
              show Lasting _ (if i = 7 then _ else if i = 12 then _ else _) _
              rw [if_neg hi]
              split
              · exact ownSl_grows (fun W hJ => hJ.marks) (by decide)
              · exact ownSl_on _ _ _ _ _
            have E12 : ∀ i, i ≠ 12 → Lasting (EJ w p (some ⟨g, o, none⟩) r l w.heap.size wo.heap.size wr.heap.size (.slice va es2.length vc) (.slice ua es2.length uc) es2) ((fun i => if i = 7 then Grows (.slice va es2.length vc) else if i = 12 then Grows (.slice ua es2.length uc) else Onward) i) (OwnSl (w.heap.size + 1) 4 1 (es2.length + 1) (mcells es2 ++ [.bool (neg l)])) := fun i hi => by
              show Lasting _ (if i = 7 then _ else if i = 12 then _ else _) _
              by_cases h7 : i = 7
              · rw [if_pos h7]; exact ownSl_grows (fun W hJ => hJ.out) (by decide)
              · rw [if_neg h7, if_neg hi]; exact ownSl_on _ _ _ _ _
            refine' wp_region_rely _ (EJ w p (some ⟨g, o, none⟩) r l w.heap.size wo.heap.size wr.heap.size (.slice va es2.length vc) (.slice ua es2.length uc) es2) (fun i => if i = 7 then Grows (.slice va es2.length vc) else if i = 12 then Grows (.slice ua es2.length uc) else Onward) (Vl :: Vl :: Vl :: Vl :: Vl :: Vl :: NewSl 34 1 [.int .i64 r.pred, .int .i64 l.pred] (Value.ownBlock (.slice va es2.length vc)) :: OwnSl (w.heap.size + 1) 34 2 (es2.length + 1) (ecells es2 ++ [.int .i64 r.pred, .int .i64 l.pred]) :: Vl :: Vl :: Vl :: NewSl 4 1 [.bool (neg l)] (Value.ownBlock (.slice ua es2.length uc)) :: OwnSl (w.heap.size + 1) 4 1 (es2.length + 1) (mcells es2 ++ [.bool (neg l)]) :: OwnSl (w.heap.size + 1) 34 2 (es2.length + 1) (ecells es2 ++ [.int .i64 r.pred, .int .i64 l.pred]) :: OwnSl (w.heap.size + 1) 4 1 (es2.length + 1) (mcells es2 ++ [.bool (neg l)]) :: []) ?hF (by kernel_rfl) (by kernel_rfl) (by kernel_rfl) (e4.next ((Below.refl _ _).drew)) (⟨fun i _ _ => lasting_vl, ⟨fun i _ _ => lasting_vl, ⟨fun i _ _ => lasting_vl, ⟨fun i _ _ => lasting_vl, ⟨fun i _ _ => lasting_vl, ⟨fun i _ _ => lasting_vl, ⟨fun i hne _ => E6 i hne, ⟨fun i hne _ => E7 i hne, ⟨fun i _ _ => lasting_vl, ⟨fun i _ _ => lasting_vl, ⟨fun i _ _ => lasting_vl, ⟨fun i hne _ => E11 i hne, ⟨fun i hne _ => E12 i hne, ⟨fun i hne hb => E7 i (fun h => by subst h; exact absurd hb (by decide +kernel)), ⟨fun i hne hb => E12 i (fun h => by subst h; exact absurd hb (by decide +kernel)), trivial⟩⟩⟩⟩⟩⟩⟩⟩⟩⟩⟩⟩⟩⟩⟩) ?hops ?hend
            case hF => (intro v; simp only [over, Act.put, List.setIfInBounds_toArray, List.set_cons_zero, List.set_cons_succ, Nat.zero_add, Nat.reduceAdd]; exact rfl)
            case hops =>
              refine ⟨?_, ?_⟩
              · intro v w' hj hd hs K hK
                have s13 : v 13 = .slice va es2.length vc := hs.out 13 (by kernel_rfl)
                have hk := hK.out
                simp only [s13, Act.put, List.setIfInBounds_toArray, List.set_cons_zero, List.set_cons_succ] at hk
                have HK := Lib.hid hk
                clear hd hs hk hK
                go_simp
                exact HK.out _ _ hj.out (Below.refl _ _) (show _ = _ from rfl)
              refine ⟨?_, ?_⟩
              · intro v w' hj hd hs K hK
                have hk := hK.out
                simp only [Act.put, List.setIfInBounds_toArray, List.set_cons_zero, List.set_cons_succ] at hk
                have HK := Lib.hid hk
                clear hd hs hk hK
                go_simp
                exact HK.out _ _ hj.out (Below.refl _ _) (show _ = _ from rfl)
              refine ⟨?_, ?_⟩
              · intro v w' hj hd hs K hK
                have t1 : v 1 = _ := hd.out 1 (by kernel_rfl)
                have c1 := hj.out.rule.cell 1
                simp only [Ru.fs] at c1
                simp at c1
                have hk := hK.out
                simp only [t1, Act.put, List.setIfInBounds_toArray, List.set_cons_zero, List.set_cons_succ] at hk
                have HK := Lib.hid hk
                clear hd hs hk hK
                go_simp
                exact HK.out _ _ hj.out (Below.refl _ _) (show _ = _ from rfl)
              refine ⟨?_, ?_⟩
              · intro v w' hj hd hs K hK
                have hk := hK.out
                simp only [Act.put, List.setIfInBounds_toArray, List.set_cons_zero, List.set_cons_succ] at hk
                have HK := Lib.hid hk
                clear hd hs hk hK
                go_simp
                exact HK.out _ _ hj.out (Below.refl _ _) (show _ = _ from rfl)
              refine ⟨?_, ?_⟩
              · intro v w' hj hd hs K hK
                have t3 : v 3 = _ := hd.out 3 (by kernel_rfl)
                have c1 := hj.out.lit.cell 2
                simp only [Lit9.fs] at c1
                simp at c1
                have hk := hK.out
                simp only [t3, Act.put, List.setIfInBounds_toArray, List.set_cons_zero, List.set_cons_succ] at hk
                have HK := Lib.hid hk
                clear hd hs hk hK
                go_simp
                exact HK.out _ _ hj.out (Below.refl _ _) (show _ = _ from rfl)
              refine ⟨?_, ?_⟩
              · intro v w' hj hd hs K hK
                have t2 : v 2 = _ := hd.out 2 (by kernel_rfl)
                have t4 : v 4 = _ := hd.out 4 (by kernel_rfl)
                have hk := hK.out
                simp only [t2, t4, Act.put, List.setIfInBounds_toArray, List.set_cons_zero, List.set_cons_succ] at hk
                have HK := Lib.hid hk
                clear hd hs hk hK
                go_simp
                exact HK.out _ _ hj.out (Below.refl _ _) (show _ = _ from rfl)
              refine ⟨?_, ?_⟩
              · intro v w' hj hd hs K hK
                have t5 : v 5 = _ := hd.out 5 (by kernel_rfl)
                have hk := hK.out
                simp only [t5, Act.put, List.setIfInBounds_toArray, List.set_cons_zero, List.set_cons_succ] at hk
                have HK := Lib.hid hk
                clear hd hs hk hK
                go_simp
                exact HK.out _ _ (hj.out.alloc _) (below1 _ _) ⟨_, rfl, At.new _ _ _, fun h => by have := (own_lt hj.out.out h).2; omega⟩
              refine ⟨?_, ?_⟩
              · intro v w' hj hd hs K hK
                have t0 : v 0 = _ := hd.out 0 (by kernel_rfl)
                obtain ⟨g6, t6, a6, n6⟩ : NewSl 34 1 [.int .i64 r.pred, .int .i64 l.pred] (Value.ownBlock (.slice va es2.length vc)) (v 6) w' := hd.out 6 (by kernel_rfl)
                have hk := hK.out
                rw [if_pos (show Region.wanted _ _ = true from rfl)]
                simp only [t0, t6] at hk ⊢
                have HK := Lib.hid hk
                clear hd hs hk hK
                refine wp_append_keep (.tmp 28) (.tmp 34) 30 rfl (w.heap.size + 1) 34 in1 _ 2 16 Try.underlying30 hi1 hy0 hy1 hy2 rfl (by omega) (.slice va es2.length vc) es2.length (ecells es2) rfl hj.out.out ⟨g6, 0, none⟩ 1 1 [.int .i64 r.pred, .int .i64 l.pred] rfl rfl (At.news a6) (fun u hu => by simp at hu; rcases hu with rfl | rfl <;> rfl) (by unfold maxLen; omega) (by omega) hj.out.size fun v2 w2 o1 o2 g2 => ?_
                exact HK.out _ _ (hj.out.grew o2 g2) g2 o1
              refine ⟨?_, ?_⟩
              · intro v w' hj hd hs K hK
                have s14 : v 14 = .slice ua es2.length uc := hs.out 14 (by kernel_rfl)
                have hk := hK.out
                simp only [s14, Act.put, List.setIfInBounds_toArray, List.set_cons_zero, List.set_cons_succ] at hk
                have HK := Lib.hid hk
                clear hd hs hk hK
                go_simp
                exact HK.out _ _ hj.out (Below.refl _ _) (show _ = _ from rfl)
              refine ⟨?_, ?_⟩
              · intro v w' hj hd hs K hK
                obtain ⟨l0, l1, l2, l3, l4, l5, l6, l7, l8⟩ := lit_cells hj.out.lit
                have hk := hK.out
                simp only [Act.put, List.setIfInBounds_toArray, List.set_cons_zero, List.set_cons_succ] at hk
                have HK := Lib.hid hk
                clear hd hs hk hK
                go_simp
                exact HK.out _ _ hj.out (Below.refl _ _) (show _ = _ from rfl)
              refine ⟨?_, ?_⟩
              · intro v w' hj hd hs K hK
                have t9 : v 9 = _ := hd.out 9 (by kernel_rfl)
                have hk := hK.out
                simp only [t9, Act.put, List.setIfInBounds_toArray, List.set_cons_zero, List.set_cons_succ] at hk
                have HK := Lib.hid hk
                clear hd hs hk hK
                go_simp
                refine (negated_any l w').mono ?_
                rintro e w3 ⟨rfl, hb⟩
                exact HK.out _ _ (hj.out.next hb) hb (show _ = _ from rfl)
              refine ⟨?_, ?_⟩
              · intro v w' hj hd hs K hK
                have t10 : v 10 = _ := hd.out 10 (by kernel_rfl)
                have hk := hK.out
                simp only [t10, Act.put, List.setIfInBounds_toArray, List.set_cons_zero, List.set_cons_succ] at hk
                have HK := Lib.hid hk
                clear hd hs hk hK
                go_simp
                exact HK.out _ _ (hj.out.alloc _) (below1 _ _) ⟨_, rfl, At.new _ _ _, fun h => by have := (own_lt hj.out.marks h).2; omega⟩
              refine ⟨?_, ?_⟩
              · intro v w' hj hd hs K hK
                have t8 : v 8 = _ := hd.out 8 (by kernel_rfl)
                obtain ⟨g11, t11, a11, n11⟩ : NewSl 4 1 [.bool (neg l)] (Value.ownBlock (.slice ua es2.length uc)) (v 11) w' := hd.out 11 (by kernel_rfl)
                have hk := hK.out
                rw [if_pos (show Region.wanted _ _ = true from rfl)]
                simp only [t8, t11] at hk ⊢
                have HK := Lib.hid hk
                clear hd hs hk hK
                refine wp_append_keep (.tmp 36) (.tmp 39) 31 rfl (w.heap.size + 1) 4 in0 _ 1 1 Try.underlying31 hi0 hz0 hz1 hz2 rfl (by omega) (.slice ua es2.length uc) es2.length (mcells es2) rfl hj.out.marks ⟨g11, 0, none⟩ 1 1 [.bool (neg l)] rfl rfl (At.news a11) (one1 rfl) (by unfold maxLen; omega) (by omega) hj.out.size fun v2 w2 o1 o2 g2 => ?_
                exact HK.out _ _ (hj.out.grew2 o2 g2) g2 o1
              refine ⟨?_, ?_⟩
              · intro v w' hj hd hs K hK
                have t7 : OwnSl (w.heap.size + 1) 34 2 (es2.length + 1) (ecells es2 ++ [.int .i64 r.pred, .int .i64 l.pred]) (v 7) w' := hd.out 7 (by kernel_rfl)
                have hk := hK.out
                simp only [t7, Act.put, List.setIfInBounds_toArray, List.set_cons_zero, List.set_cons_succ] at hk
                have HK := Lib.hid hk
                clear hd hs hk hK
                go_simp
                exact HK.out _ _ hj.out (Below.refl _ _) t7
              refine ⟨?_, ?_⟩
              · intro v w' hj hd hs K hK
                have t12 : OwnSl (w.heap.size + 1) 4 1 (es2.length + 1) (mcells es2 ++ [.bool (neg l)]) (v 12) w' := hd.out 12 (by kernel_rfl)
                have hk := hK.out
                simp only [t12, Act.put, List.setIfInBounds_toArray, List.set_cons_zero, List.set_cons_succ] at hk
                have HK := Lib.hid hk
                clear hd hs hk hK
                go_simp
                exact HK.out _ _ hj.out (Below.refl _ _) t12
              trivial
            case hend =>
              intro vv w5 hj hd
              have t13 : OwnSl (w.heap.size + 1) 34 2 (es2.length + 1) (ecells es2 ++ [.int .i64 r.pred, .int .i64 l.pred]) (vv 13) w5 := hd.out 13 (of_decide_eq_true (by kernel_rfl))
              have t14 : OwnSl (w.heap.size + 1) 4 1 (es2.length + 1) (mcells es2 ++ [.bool (neg l)]) (vv 14) w5 := hd.out 14 (of_decide_eq_true (by kernel_rfl))
              have e5 := hj.out
              have HT1 := Lib.hid t13
              have HT2 := Lib.hid t14
              clear hj hd t13 t14
              go_wp2_with fail
              go_roundw
              case rel => exact ⟨m + 1, es2 ++ [⟨r.pred.toNat, l.pred.toNat, neg l⟩], by omega, by simp; omega, Lib.hid (by rw [HRM.out, HE2.out, List.append_assoc]), by go_num, by rw [HC1.out, List.length_append]; exact HT1.out, by rw [mcells_snoc, List.length_append]; exact HT2.out, e5.below, e5.prog, e5.rule, e5.size⟩
              case measure => simp [intOf]; omega
        · have d2 : decide ((m : Int) < (r.lits.length : Int)) = false := by simp; omega
          have HEE := Lib.hid (show es2 = (p.rus.take (k + 1)).flatMap fun r => ruEdges p r r.lits by rw [HKM.out, HE2.out, List.take_of_length_le (by omega)])
          go_wp2_with fail
          go_roundw
          case rel => exact ⟨k + 1, es2, by omega, by omega, HEE, by go_num, ho, hm, hbw, hpb⟩
          case measure => simp [intOf]; omega
    · have d1 : decide ((k : Int) < (p.rus.length : Int)) = false := by simp; omega
      have hE : RR = es := by rw [← HRR.out, HE.out, List.take_of_length_le (by omega)]; rfl
      go_wp2_with fail
      go_ret2
      exact ⟨_, _, rfl, by rw [hE]; exact own_mono ho (by omega), by rw [hE]; exact own_mono hm (by omega), hbw⟩
end Go.Proofs.Ytljlihimmcmlmaa
