/- The walk of the closure that Check hands over. -/
import Derived.Test.YtljlihimmcmlmaaTPos
namespace Go.Proofs.Ytljlihimmcmlmaa
set_option linter.unusedVariables false
set_option linter.unusedSimpArgs false
open Go.RowKit
/-- The same component. -/
def sameC (of : List Nat) (a b : Nat) : Bool := decide (of.getD a 0 = of.getD b 0)
set_option maxHeartbeats 2000000 in
set_option maxRecDepth 100000 in
theorem chk1_any (p : Pg) (n : Nat) (r : Ru) (l : Lit9) (of : List Nat) (A1 : Option Addr) (c1 bp br bo : Nat) (w : World) (hp : PgOk w p) (hn : p.prs.length = n) (hof : of.length = n) (hn1 : n ≤ 1000)
    (hbp : At w bp 27 #[.slice p.lat.a p.lat.n p.lat.c, .slice p.fns.a p.fns.n p.fns.c, .slice p.pa p.prs.length p.pc, .slice p.ra p.rus.length p.rc])
    (hbr : At w br 51 #[.string r.name, .int .i64 r.pred, .slice r.args.a r.args.n r.args.c, .int .i64 r.ek, .string r.en, .string r.ev, .int .i64 r.ei, .slice r.ba r.lits.length r.bc, .int .i64 r.pos])
    (hbo : At w bo 42 #[.slice A1 n c1]) (ho : NumsN w A1 of) :
    Calls Try.prog 43 #[l.v, .pointer (some ⟨bp, 0, none⟩), .pointer (some ⟨br, 0, none⟩), .pointer (some ⟨bo, 0, none⟩)] w fun e w' => e = .returned (.bool (badLit p (sameC of) r l)) ∧ Below w.heap.size w w' := by
  have HLK0 := fun W (h : Below w.heap.size w W) => linked_any p r l W (hp.below h)
  have HNG0 := fun W => negated_any l W
  have hii := fun (h : lnk p r l = true) => (show ∃ a b : Nat, a < n ∧ b < n ∧ r.pred = (a : Int) ∧ l.pred = (b : Int) from by
    obtain ⟨_, h1, h2⟩ := lnk_iff.1 h
    obtain ⟨a, ha, e1⟩ := ins_iff.1 h1
    obtain ⟨b, hb, e2⟩ := ins_iff.1 h2
    rw [hn] at ha hb
    exact ⟨a, b, ha, hb, e1, e2⟩)
  have hbd : badLit p (sameC of) r l = (lnk p r l && neg l && sameC of r.pred.toNat l.pred.toNat) := rfl
  generalize badLit p (sameC of) r l = R at *
  unfold Pg.v Ru.v at HLK0
  unfold Lit9.v at HLK0 HNG0 ⊢
  clear hp hn
  generalize p.ra = ra at *
  generalize p.pa = pa at *
  generalize p.prs.length = np at *
  generalize r.ba = ba at *
  obtain ⟨x, hx⟩ : ∃ x, lnk p r l = x := ⟨_, rfl⟩
  obtain ⟨y, hy⟩ : ∃ y, neg l = y := ⟨_, rfl⟩
  rw [hx] at HLK0 hbd hii
  rw [hy] at HNG0 hbd
  have HLK := Lib.hid (fun W (h : Below (w.alloc (.cells #[.int .i64 l.kind, .string l.name, .int .i64 l.pred, .slice l.args.a l.args.n l.args.c, .string l.bind, .string l.elem, .int .i64 l.least, .int .i64 l.op, .int .i64 l.pos] 56)).heap.size (w.alloc (.cells #[.int .i64 l.kind, .string l.name, .int .i64 l.pred, .slice l.args.a l.args.n l.args.c, .string l.bind, .string l.elem, .int .i64 l.least, .int .i64 l.op, .int .i64 l.pos] 56)) W) => HLK0 W ((below1 w _).trans (h.mono (by simp))))
  have HNG := Lib.hid HNG0
  have HCX := Lib.hid (fun W (h : Below (w.alloc (.cells #[.int .i64 l.kind, .string l.name, .int .i64 l.pred, .slice l.args.a l.args.n l.args.c, .string l.bind, .string l.elem, .int .i64 l.least, .int .i64 l.op, .int .i64 l.pos] 56)).heap.size (w.alloc (.cells #[.int .i64 l.kind, .string l.name, .int .i64 l.pred, .slice l.args.a l.args.n l.args.c, .string l.bind, .string l.elem, .int .i64 l.least, .int .i64 l.op, .int .i64 l.pos] 56)) W) => And.intro (pg_cells ((hbp.alloc _).next h)) (And.intro (ru_cells' ((hbr.alloc _).next h)) (And.intro (ru_cells' ((At.new w 56 #[.int .i64 l.kind, .string l.name, .int .i64 l.pred, .slice l.args.a l.args.n l.args.c, .string l.bind, .string l.elem, .int .i64 l.least, .int .i64 l.op, .int .i64 l.pos]).next h)) (show W.cell? ⟨bo, 0, none⟩ = some (.slice A1 n c1) from ((hbo.alloc _).next h).cell 0))))
  have HB := Lib.hid (fun W (h : Below (w.alloc (.cells #[.int .i64 l.kind, .string l.name, .int .i64 l.pred, .slice l.args.a l.args.n l.args.c, .string l.bind, .string l.elem, .int .i64 l.least, .int .i64 l.op, .int .i64 l.pos] 56)).heap.size (w.alloc (.cells #[.int .i64 l.kind, .string l.name, .int .i64 l.pred, .slice l.args.a l.args.n l.args.c, .string l.bind, .string l.elem, .int .i64 l.least, .int .i64 l.op, .int .i64 l.pos] 56)) W) => (below1 w _).trans (h.mono (by simp)))
  clear HLK0 HNG0 hbp hbr hbo
  cases x
  · have HR := Lib.hid (show R = false from hbd)
    clear hbd hii hx hy ho
    go_enter Try.func43, Try.ntmps43
    go_wp2_with fail
    refine' wp_region_each _ (Below (w.alloc (.cells #[.int .i64 l.kind, .string l.name, .int .i64 l.pred, .slice l.args.a l.args.n l.args.c, .string l.bind, .string l.elem, .int .i64 l.least, .int .i64 l.op, .int .i64 l.pos] 56)).heap.size (w.alloc (.cells #[.int .i64 l.kind, .string l.name, .int .i64 l.pred, .slice l.args.a l.args.n l.args.c, .string l.bind, .string l.elem, .int .i64 l.least, .int .i64 l.op, .int .i64 l.pos] 56))) (Onward) (Vl :: Vl :: Vl :: Vl :: Vl :: Pin undef :: Pin undef :: Vl :: Vl :: Pin undef :: Pin undef :: Pin undef :: Pin undef :: Pin undef :: Pin undef :: Pin undef :: Pin undef :: Pin undef :: Pin undef :: Pin undef :: Vl :: Vl :: []) ?hF (by kernel_rfl) (by kernel_rfl) (by kernel_rfl) ((Below.refl _ _).drew) (lasting_cons (lasting_vl) (lasting_cons (lasting_vl) (lasting_cons (lasting_vl) (lasting_cons (lasting_vl) (lasting_cons (lasting_vl) (lasting_cons (lasting_pin _) (lasting_cons (lasting_pin _) (lasting_cons (lasting_vl) (lasting_cons (lasting_vl) (lasting_cons (lasting_pin _) (lasting_cons (lasting_pin _) (lasting_cons (lasting_pin _) (lasting_cons (lasting_pin _) (lasting_cons (lasting_pin _) (lasting_cons (lasting_pin _) (lasting_cons (lasting_pin _) (lasting_cons (lasting_pin _) (lasting_cons (lasting_pin _) (lasting_cons (lasting_pin _) (lasting_cons (lasting_pin _) (lasting_cons (lasting_vl) (lasting_cons (lasting_vl) (lasting_none))))))))))))))))))))))) ?hops ?hend
    case hF => (intro v; simp only [over, Act.put, List.setIfInBounds_toArray, List.set_cons_zero, List.set_cons_succ, Nat.zero_add, Nat.reduceAdd]; exact rfl)
    case hops =>
      refine ⟨?_, ?_⟩
      · intro v w' hj hd hs K hK
        obtain ⟨⟨p0, p1, p2, p3⟩, ⟨r0, r1, r2, r3, r4, r5, r6, r7, r8⟩, ⟨l0, l1, l2, l3, l4, l5, l6, l7, l8⟩, o0⟩ := HCX.out _ hj.out
        have hk := hK.out
        simp only [Act.put, List.setIfInBounds_toArray, List.set_cons_zero, List.set_cons_succ] at hk
        have HK := Lib.hid hk
        clear hd hs hk hK
        go_simp
        exact HK.out _ _ hj.out (Below.refl _ _) (show _ = _ from rfl)
      refine ⟨?_, ?_⟩
      · intro v w' hj hd hs K hK
        obtain ⟨⟨p0, p1, p2, p3⟩, ⟨r0, r1, r2, r3, r4, r5, r6, r7, r8⟩, ⟨l0, l1, l2, l3, l4, l5, l6, l7, l8⟩, o0⟩ := HCX.out _ hj.out
        have hk := hK.out
        simp only [Act.put, List.setIfInBounds_toArray, List.set_cons_zero, List.set_cons_succ] at hk
        have HK := Lib.hid hk
        clear hd hs hk hK
        go_simp
        exact HK.out _ _ hj.out (Below.refl _ _) (show _ = _ from rfl)
      refine ⟨?_, ?_⟩
      · intro v w' hj hd hs K hK
        obtain ⟨⟨p0, p1, p2, p3⟩, ⟨r0, r1, r2, r3, r4, r5, r6, r7, r8⟩, ⟨l0, l1, l2, l3, l4, l5, l6, l7, l8⟩, o0⟩ := HCX.out _ hj.out
        have hk := hK.out
        simp only [Act.put, List.setIfInBounds_toArray, List.set_cons_zero, List.set_cons_succ] at hk
        have HK := Lib.hid hk
        clear hd hs hk hK
        go_simp
        exact HK.out _ _ hj.out (Below.refl _ _) (show _ = _ from rfl)
      refine ⟨?_, ?_⟩
      · intro v w' hj hd hs K hK
        have t0 : v 0 = _ := hd.out 0 (by kernel_rfl)
        have t1 : v 1 = _ := hd.out 1 (by kernel_rfl)
        have t2 : v 2 = _ := hd.out 2 (by kernel_rfl)
        have hk := hK.out
        simp only [t0, t1, t2, Act.put, List.setIfInBounds_toArray, List.set_cons_zero, List.set_cons_succ] at hk
        have HK := Lib.hid hk
        clear hd hs hk hK
        go_simp
        refine (HLK.out w' hj.out).mono ?_
        rintro e w3 ⟨rfl, hb⟩
        exact HK.out _ _ (hj.out.trans (hb.mono hj.out.size)) hb (show _ = _ from rfl)
      refine ⟨?_, ?_⟩
      · intro v w' hj hd hs K hK
        have t3 : v 3 = _ := hd.out 3 (by kernel_rfl)
        have hk := hK.out
        simp only [t3, Act.put, List.setIfInBounds_toArray, List.set_cons_zero, List.set_cons_succ] at hk
        have HK := Lib.hid hk
        clear hd hs hk hK
        go_simp
        exact HK.out _ _ hj.out (Below.refl _ _) (show _ = _ from rfl)
      refine ⟨?_, ?_⟩
      · intro v w' hj hd hs K hK
        have t4 : v 4 = _ := hd.out 4 (by kernel_rfl)
        have hk := hK.out
        simp only [t4, Act.put, List.setIfInBounds_toArray, List.set_cons_zero, List.set_cons_succ] at hk
        have HK := Lib.hid hk
        clear hd hs hk hK
        go_simp
        exact HK.out _ _ hj.out (Below.refl _ _) (show _ = _ from rfl)
      refine ⟨?_, ?_⟩
      · intro v w' hj hd hs K hK
        have t4 : v 4 = _ := hd.out 4 (by kernel_rfl)
        have hk := hK.out
        simp only [t4, Act.put, List.setIfInBounds_toArray, List.set_cons_zero, List.set_cons_succ] at hk
        have HK := Lib.hid hk
        clear hd hs hk hK
        go_simp
        exact HK.out _ _ hj.out (Below.refl _ _) (show _ = _ from rfl)
      refine ⟨?_, ?_⟩
      · intro v w' hj hd hs K hK
        have t4 : v 4 = _ := hd.out 4 (by kernel_rfl)
        have t6 : v 6 = _ := hd.out 6 (by kernel_rfl)
        have hk := hK.out
        simp only [t4, t6, Act.put, List.setIfInBounds_toArray, List.set_cons_zero, List.set_cons_succ] at hk
        have HK := Lib.hid hk
        clear hd hs hk hK
        go_simp
        exact HK.out _ _ hj.out (Below.refl _ _) (show _ = _ from rfl)
      refine ⟨?_, ?_⟩
      · intro v w' hj hd hs K hK
        have t7 : v 7 = _ := hd.out 7 (by kernel_rfl)
        have hk := hK.out
        simp only [t7, Act.put, List.setIfInBounds_toArray, List.set_cons_zero, List.set_cons_succ] at hk
        have HK := Lib.hid hk
        clear hd hs hk hK
        go_simp
        exact HK.out _ _ hj.out (Below.refl _ _) (show _ = _ from rfl)
      refine ⟨?_, ?_⟩
      · intro v w' hj hd hs K hK
        have t8 : v 8 = _ := hd.out 8 (by kernel_rfl)
        have hk := hK.out
        simp only [t8, Act.put, List.setIfInBounds_toArray, List.set_cons_zero, List.set_cons_succ] at hk
        have HK := Lib.hid hk
        clear hd hs hk hK
        go_simp
        exact HK.out _ _ hj.out (Below.refl _ _) (show _ = _ from rfl)
      refine ⟨?_, ?_⟩
      · intro v w' hj hd hs K hK
        have t8 : v 8 = _ := hd.out 8 (by kernel_rfl)
        have hk := hK.out
        simp only [t8, Act.put, List.setIfInBounds_toArray, List.set_cons_zero, List.set_cons_succ] at hk
        have HK := Lib.hid hk
        clear hd hs hk hK
        go_simp
        exact HK.out _ _ hj.out (Below.refl _ _) (show _ = _ from rfl)
      refine ⟨?_, ?_⟩
      · intro v w' hj hd hs K hK
        have t8 : v 8 = _ := hd.out 8 (by kernel_rfl)
        have hk := hK.out
        simp only [t8, Act.put, List.setIfInBounds_toArray, List.set_cons_zero, List.set_cons_succ] at hk
        have HK := Lib.hid hk
        clear hd hs hk hK
        go_simp
        exact HK.out _ _ hj.out (Below.refl _ _) (show _ = _ from rfl)
      refine ⟨?_, ?_⟩
      · intro v w' hj hd hs K hK
        have t8 : v 8 = _ := hd.out 8 (by kernel_rfl)
        have hk := hK.out
        simp only [t8, Act.put, List.setIfInBounds_toArray, List.set_cons_zero, List.set_cons_succ] at hk
        have HK := Lib.hid hk
        clear hd hs hk hK
        go_simp
        exact HK.out _ _ hj.out (Below.refl _ _) (show _ = _ from rfl)
      refine ⟨?_, ?_⟩
      · intro v w' hj hd hs K hK
        have t8 : v 8 = _ := hd.out 8 (by kernel_rfl)
        have hk := hK.out
        simp only [t8, Act.put, List.setIfInBounds_toArray, List.set_cons_zero, List.set_cons_succ] at hk
        have HK := Lib.hid hk
        clear hd hs hk hK
        go_simp
        exact HK.out _ _ hj.out (Below.refl _ _) (show _ = _ from rfl)
      refine ⟨?_, ?_⟩
      · intro v w' hj hd hs K hK
        have t8 : v 8 = _ := hd.out 8 (by kernel_rfl)
        have hk := hK.out
        simp only [t8, Act.put, List.setIfInBounds_toArray, List.set_cons_zero, List.set_cons_succ] at hk
        have HK := Lib.hid hk
        clear hd hs hk hK
        go_simp
        exact HK.out _ _ hj.out (Below.refl _ _) (show _ = _ from rfl)
      refine ⟨?_, ?_⟩
      · intro v w' hj hd hs K hK
        have t8 : v 8 = _ := hd.out 8 (by kernel_rfl)
        have hk := hK.out
        simp only [t8, Act.put, List.setIfInBounds_toArray, List.set_cons_zero, List.set_cons_succ] at hk
        have HK := Lib.hid hk
        clear hd hs hk hK
        go_simp
        exact HK.out _ _ hj.out (Below.refl _ _) (show _ = _ from rfl)
      refine ⟨?_, ?_⟩
      · intro v w' hj hd hs K hK
        have t8 : v 8 = _ := hd.out 8 (by kernel_rfl)
        have hk := hK.out
        simp only [t8, Act.put, List.setIfInBounds_toArray, List.set_cons_zero, List.set_cons_succ] at hk
        have HK := Lib.hid hk
        clear hd hs hk hK
        go_simp
        exact HK.out _ _ hj.out (Below.refl _ _) (show _ = _ from rfl)
      refine ⟨?_, ?_⟩
      · intro v w' hj hd hs K hK
        have t8 : v 8 = _ := hd.out 8 (by kernel_rfl)
        have hk := hK.out
        simp only [t8, Act.put, List.setIfInBounds_toArray, List.set_cons_zero, List.set_cons_succ] at hk
        have HK := Lib.hid hk
        clear hd hs hk hK
        go_simp
        exact HK.out _ _ hj.out (Below.refl _ _) (show _ = _ from rfl)
      refine ⟨?_, ?_⟩
      · intro v w' hj hd hs K hK
        have t8 : v 8 = _ := hd.out 8 (by kernel_rfl)
        have hk := hK.out
        simp only [t8, Act.put, List.setIfInBounds_toArray, List.set_cons_zero, List.set_cons_succ] at hk
        have HK := Lib.hid hk
        clear hd hs hk hK
        go_simp
        exact HK.out _ _ hj.out (Below.refl _ _) (show _ = _ from rfl)
      refine ⟨?_, ?_⟩
      · intro v w' hj hd hs K hK
        have t8 : v 8 = _ := hd.out 8 (by kernel_rfl)
        have hk := hK.out
        simp only [t8, Act.put, List.setIfInBounds_toArray, List.set_cons_zero, List.set_cons_succ] at hk
        have HK := Lib.hid hk
        clear hd hs hk hK
        go_simp
        exact HK.out _ _ hj.out (Below.refl _ _) (show _ = _ from rfl)
      refine ⟨?_, ?_⟩
      · intro v w' hj hd hs K hK
        have t8 : v 8 = _ := hd.out 8 (by kernel_rfl)
        have t19 : v 19 = _ := hd.out 19 (by kernel_rfl)
        have hk := hK.out
        simp only [t8, t19, Act.put, List.setIfInBounds_toArray, List.set_cons_zero, List.set_cons_succ] at hk
        have HK := Lib.hid hk
        clear hd hs hk hK
        go_simp
        exact HK.out _ _ hj.out (Below.refl _ _) (show _ = _ from rfl)
      refine ⟨?_, ?_⟩
      · intro v w' hj hd hs K hK
        have t20 : v 20 = _ := hd.out 20 (by kernel_rfl)
        have hk := hK.out
        simp only [t20, Act.put, List.setIfInBounds_toArray, List.set_cons_zero, List.set_cons_succ] at hk
        have HK := Lib.hid hk
        clear hd hs hk hK
        go_simp
        exact HK.out _ _ hj.out (Below.refl _ _) (show _ = _ from rfl)
      trivial
    case hend =>
      intro v w5 hj hd
      have t21 : v 21 = _ := hd.out 21 (of_decide_eq_true (by kernel_rfl))
      simp only [t21]
      have hb5 := HB.out _ hj.out
      clear hj hd t21
      go_wp2_with fail
      go_ret
      exact ⟨by rw [HR.out]; rfl, hb5⟩
  · obtain ⟨a, b, ha, hb, ea, eb⟩ := hii rfl
    cases y
    · have HR := Lib.hid (show R = false from hbd)
      clear hbd hii hx hy ho ea eb
      go_enter Try.func43, Try.ntmps43
      go_wp2_with fail
      refine' wp_region_each _ (Below (w.alloc (.cells #[.int .i64 l.kind, .string l.name, .int .i64 l.pred, .slice l.args.a l.args.n l.args.c, .string l.bind, .string l.elem, .int .i64 l.least, .int .i64 l.op, .int .i64 l.pos] 56)).heap.size (w.alloc (.cells #[.int .i64 l.kind, .string l.name, .int .i64 l.pred, .slice l.args.a l.args.n l.args.c, .string l.bind, .string l.elem, .int .i64 l.least, .int .i64 l.op, .int .i64 l.pos] 56))) (Onward) (Vl :: Vl :: Vl :: Vl :: Vl :: Vl :: Vl :: Vl :: Vl :: Pin undef :: Pin undef :: Pin undef :: Pin undef :: Pin undef :: Pin undef :: Pin undef :: Pin undef :: Pin undef :: Pin undef :: Pin undef :: Vl :: Vl :: []) ?hF (by kernel_rfl) (by kernel_rfl) (by kernel_rfl) ((Below.refl _ _).drew) (lasting_cons (lasting_vl) (lasting_cons (lasting_vl) (lasting_cons (lasting_vl) (lasting_cons (lasting_vl) (lasting_cons (lasting_vl) (lasting_cons (lasting_vl) (lasting_cons (lasting_vl) (lasting_cons (lasting_vl) (lasting_cons (lasting_vl) (lasting_cons (lasting_pin _) (lasting_cons (lasting_pin _) (lasting_cons (lasting_pin _) (lasting_cons (lasting_pin _) (lasting_cons (lasting_pin _) (lasting_cons (lasting_pin _) (lasting_cons (lasting_pin _) (lasting_cons (lasting_pin _) (lasting_cons (lasting_pin _) (lasting_cons (lasting_pin _) (lasting_cons (lasting_pin _) (lasting_cons (lasting_vl) (lasting_cons (lasting_vl) (lasting_none))))))))))))))))))))))) ?hops ?hend
      case hF => (intro v; simp only [over, Act.put, List.setIfInBounds_toArray, List.set_cons_zero, List.set_cons_succ, Nat.zero_add, Nat.reduceAdd]; exact rfl)
      case hops =>
        refine ⟨?_, ?_⟩
        · intro v w' hj hd hs K hK
          obtain ⟨⟨p0, p1, p2, p3⟩, ⟨r0, r1, r2, r3, r4, r5, r6, r7, r8⟩, ⟨l0, l1, l2, l3, l4, l5, l6, l7, l8⟩, o0⟩ := HCX.out _ hj.out
          have hk := hK.out
          simp only [Act.put, List.setIfInBounds_toArray, List.set_cons_zero, List.set_cons_succ] at hk
          have HK := Lib.hid hk
          clear hd hs hk hK
          go_simp
          exact HK.out _ _ hj.out (Below.refl _ _) (show _ = _ from rfl)
        refine ⟨?_, ?_⟩
        · intro v w' hj hd hs K hK
          obtain ⟨⟨p0, p1, p2, p3⟩, ⟨r0, r1, r2, r3, r4, r5, r6, r7, r8⟩, ⟨l0, l1, l2, l3, l4, l5, l6, l7, l8⟩, o0⟩ := HCX.out _ hj.out
          have hk := hK.out
          simp only [Act.put, List.setIfInBounds_toArray, List.set_cons_zero, List.set_cons_succ] at hk
          have HK := Lib.hid hk
          clear hd hs hk hK
          go_simp
          exact HK.out _ _ hj.out (Below.refl _ _) (show _ = _ from rfl)
        refine ⟨?_, ?_⟩
        · intro v w' hj hd hs K hK
          obtain ⟨⟨p0, p1, p2, p3⟩, ⟨r0, r1, r2, r3, r4, r5, r6, r7, r8⟩, ⟨l0, l1, l2, l3, l4, l5, l6, l7, l8⟩, o0⟩ := HCX.out _ hj.out
          have hk := hK.out
          simp only [Act.put, List.setIfInBounds_toArray, List.set_cons_zero, List.set_cons_succ] at hk
          have HK := Lib.hid hk
          clear hd hs hk hK
          go_simp
          exact HK.out _ _ hj.out (Below.refl _ _) (show _ = _ from rfl)
        refine ⟨?_, ?_⟩
        · intro v w' hj hd hs K hK
          have t0 : v 0 = _ := hd.out 0 (by kernel_rfl)
          have t1 : v 1 = _ := hd.out 1 (by kernel_rfl)
          have t2 : v 2 = _ := hd.out 2 (by kernel_rfl)
          have hk := hK.out
          simp only [t0, t1, t2, Act.put, List.setIfInBounds_toArray, List.set_cons_zero, List.set_cons_succ] at hk
          have HK := Lib.hid hk
          clear hd hs hk hK
          go_simp
          refine (HLK.out w' hj.out).mono ?_
          rintro e w3 ⟨rfl, hb⟩
          exact HK.out _ _ (hj.out.trans (hb.mono hj.out.size)) hb (show _ = _ from rfl)
        refine ⟨?_, ?_⟩
        · intro v w' hj hd hs K hK
          have t3 : v 3 = _ := hd.out 3 (by kernel_rfl)
          have hk := hK.out
          simp only [t3, Act.put, List.setIfInBounds_toArray, List.set_cons_zero, List.set_cons_succ] at hk
          have HK := Lib.hid hk
          clear hd hs hk hK
          go_simp
          exact HK.out _ _ hj.out (Below.refl _ _) (show _ = _ from rfl)
        refine ⟨?_, ?_⟩
        · intro v w' hj hd hs K hK
          have t4 : v 4 = _ := hd.out 4 (by kernel_rfl)
          obtain ⟨⟨p0, p1, p2, p3⟩, ⟨r0, r1, r2, r3, r4, r5, r6, r7, r8⟩, ⟨l0, l1, l2, l3, l4, l5, l6, l7, l8⟩, o0⟩ := HCX.out _ hj.out
          have hk := hK.out
          simp only [t4, Act.put, List.setIfInBounds_toArray, List.set_cons_zero, List.set_cons_succ] at hk
          have HK := Lib.hid hk
          clear hd hs hk hK
          go_simp
          exact HK.out _ _ hj.out (Below.refl _ _) (show _ = _ from rfl)
        refine ⟨?_, ?_⟩
        · intro v w' hj hd hs K hK
          have t4 : v 4 = _ := hd.out 4 (by kernel_rfl)
          have t5 : v 5 = _ := hd.out 5 (by kernel_rfl)
          have hk := hK.out
          simp only [t4, t5, Act.put, List.setIfInBounds_toArray, List.set_cons_zero, List.set_cons_succ] at hk
          have HK := Lib.hid hk
          clear hd hs hk hK
          go_simp
          refine (HNG.out w').mono ?_
          rintro e w3 ⟨rfl, hb⟩
          exact HK.out _ _ (hj.out.trans (hb.mono hj.out.size)) hb (show _ = _ from rfl)
        refine ⟨?_, ?_⟩
        · intro v w' hj hd hs K hK
          have t4 : v 4 = _ := hd.out 4 (by kernel_rfl)
          have t6 : v 6 = _ := hd.out 6 (by kernel_rfl)
          have hk := hK.out
          simp only [t4, t6, Act.put, List.setIfInBounds_toArray, List.set_cons_zero, List.set_cons_succ] at hk
          have HK := Lib.hid hk
          clear hd hs hk hK
          go_simp
          exact HK.out _ _ hj.out (Below.refl _ _) (show _ = _ from rfl)
        refine ⟨?_, ?_⟩
        · intro v w' hj hd hs K hK
          have t7 : v 7 = _ := hd.out 7 (by kernel_rfl)
          have hk := hK.out
          simp only [t7, Act.put, List.setIfInBounds_toArray, List.set_cons_zero, List.set_cons_succ] at hk
          have HK := Lib.hid hk
          clear hd hs hk hK
          go_simp
          exact HK.out _ _ hj.out (Below.refl _ _) (show _ = _ from rfl)
        refine ⟨?_, ?_⟩
        · intro v w' hj hd hs K hK
          have t8 : v 8 = _ := hd.out 8 (by kernel_rfl)
          have hk := hK.out
          simp only [t8, Act.put, List.setIfInBounds_toArray, List.set_cons_zero, List.set_cons_succ] at hk
          have HK := Lib.hid hk
          clear hd hs hk hK
          go_simp
          exact HK.out _ _ hj.out (Below.refl _ _) (show _ = _ from rfl)
        refine ⟨?_, ?_⟩
        · intro v w' hj hd hs K hK
          have t8 : v 8 = _ := hd.out 8 (by kernel_rfl)
          have hk := hK.out
          simp only [t8, Act.put, List.setIfInBounds_toArray, List.set_cons_zero, List.set_cons_succ] at hk
          have HK := Lib.hid hk
          clear hd hs hk hK
          go_simp
          exact HK.out _ _ hj.out (Below.refl _ _) (show _ = _ from rfl)
        refine ⟨?_, ?_⟩
        · intro v w' hj hd hs K hK
          have t8 : v 8 = _ := hd.out 8 (by kernel_rfl)
          have hk := hK.out
          simp only [t8, Act.put, List.setIfInBounds_toArray, List.set_cons_zero, List.set_cons_succ] at hk
          have HK := Lib.hid hk
          clear hd hs hk hK
          go_simp
          exact HK.out _ _ hj.out (Below.refl _ _) (show _ = _ from rfl)
        refine ⟨?_, ?_⟩
        · intro v w' hj hd hs K hK
          have t8 : v 8 = _ := hd.out 8 (by kernel_rfl)
          have hk := hK.out
          simp only [t8, Act.put, List.setIfInBounds_toArray, List.set_cons_zero, List.set_cons_succ] at hk
          have HK := Lib.hid hk
          clear hd hs hk hK
          go_simp
          exact HK.out _ _ hj.out (Below.refl _ _) (show _ = _ from rfl)
        refine ⟨?_, ?_⟩
        · intro v w' hj hd hs K hK
          have t8 : v 8 = _ := hd.out 8 (by kernel_rfl)
          have hk := hK.out
          simp only [t8, Act.put, List.setIfInBounds_toArray, List.set_cons_zero, List.set_cons_succ] at hk
          have HK := Lib.hid hk
          clear hd hs hk hK
          go_simp
          exact HK.out _ _ hj.out (Below.refl _ _) (show _ = _ from rfl)
        refine ⟨?_, ?_⟩
        · intro v w' hj hd hs K hK
          have t8 : v 8 = _ := hd.out 8 (by kernel_rfl)
          have hk := hK.out
          simp only [t8, Act.put, List.setIfInBounds_toArray, List.set_cons_zero, List.set_cons_succ] at hk
          have HK := Lib.hid hk
          clear hd hs hk hK
          go_simp
          exact HK.out _ _ hj.out (Below.refl _ _) (show _ = _ from rfl)
        refine ⟨?_, ?_⟩
        · intro v w' hj hd hs K hK
          have t8 : v 8 = _ := hd.out 8 (by kernel_rfl)
          have hk := hK.out
          simp only [t8, Act.put, List.setIfInBounds_toArray, List.set_cons_zero, List.set_cons_succ] at hk
          have HK := Lib.hid hk
          clear hd hs hk hK
          go_simp
          exact HK.out _ _ hj.out (Below.refl _ _) (show _ = _ from rfl)
        refine ⟨?_, ?_⟩
        · intro v w' hj hd hs K hK
          have t8 : v 8 = _ := hd.out 8 (by kernel_rfl)
          have hk := hK.out
          simp only [t8, Act.put, List.setIfInBounds_toArray, List.set_cons_zero, List.set_cons_succ] at hk
          have HK := Lib.hid hk
          clear hd hs hk hK
          go_simp
          exact HK.out _ _ hj.out (Below.refl _ _) (show _ = _ from rfl)
        refine ⟨?_, ?_⟩
        · intro v w' hj hd hs K hK
          have t8 : v 8 = _ := hd.out 8 (by kernel_rfl)
          have hk := hK.out
          simp only [t8, Act.put, List.setIfInBounds_toArray, List.set_cons_zero, List.set_cons_succ] at hk
          have HK := Lib.hid hk
          clear hd hs hk hK
          go_simp
          exact HK.out _ _ hj.out (Below.refl _ _) (show _ = _ from rfl)
        refine ⟨?_, ?_⟩
        · intro v w' hj hd hs K hK
          have t8 : v 8 = _ := hd.out 8 (by kernel_rfl)
          have hk := hK.out
          simp only [t8, Act.put, List.setIfInBounds_toArray, List.set_cons_zero, List.set_cons_succ] at hk
          have HK := Lib.hid hk
          clear hd hs hk hK
          go_simp
          exact HK.out _ _ hj.out (Below.refl _ _) (show _ = _ from rfl)
        refine ⟨?_, ?_⟩
        · intro v w' hj hd hs K hK
          have t8 : v 8 = _ := hd.out 8 (by kernel_rfl)
          have hk := hK.out
          simp only [t8, Act.put, List.setIfInBounds_toArray, List.set_cons_zero, List.set_cons_succ] at hk
          have HK := Lib.hid hk
          clear hd hs hk hK
          go_simp
          exact HK.out _ _ hj.out (Below.refl _ _) (show _ = _ from rfl)
        refine ⟨?_, ?_⟩
        · intro v w' hj hd hs K hK
          have t8 : v 8 = _ := hd.out 8 (by kernel_rfl)
          have t19 : v 19 = _ := hd.out 19 (by kernel_rfl)
          have hk := hK.out
          simp only [t8, t19, Act.put, List.setIfInBounds_toArray, List.set_cons_zero, List.set_cons_succ] at hk
          have HK := Lib.hid hk
          clear hd hs hk hK
          go_simp
          exact HK.out _ _ hj.out (Below.refl _ _) (show _ = _ from rfl)
        refine ⟨?_, ?_⟩
        · intro v w' hj hd hs K hK
          have t20 : v 20 = _ := hd.out 20 (by kernel_rfl)
          have hk := hK.out
          simp only [t20, Act.put, List.setIfInBounds_toArray, List.set_cons_zero, List.set_cons_succ] at hk
          have HK := Lib.hid hk
          clear hd hs hk hK
          go_simp
          exact HK.out _ _ hj.out (Below.refl _ _) (show _ = _ from rfl)
        trivial
      case hend =>
        intro v w5 hj hd
        have t21 : v 21 = _ := hd.out 21 (of_decide_eq_true (by kernel_rfl))
        simp only [t21]
        have hb5 := HB.out _ hj.out
        clear hj hd t21
        go_wp2_with fail
        go_ret
        exact ⟨by rw [HR.out]; rfl, hb5⟩
    · rw [ea, eb, Int.toNat_natCast, Int.toNat_natCast] at hbd
      obtain ⟨fa, hfa⟩ : ∃ z, of.getD a 0 = z := ⟨_, rfl⟩
      obtain ⟨fb, hfb⟩ : ∃ z, of.getD b 0 = z := ⟨_, rfl⟩
      unfold sameC at hbd
      rw [hfa, hfb] at hbd
      have hga : of[a]? = some fa := by rw [← hfa, List.getD_eq_getElem?_getD, List.getElem?_eq_getElem (by omega)]; rfl
      have hgb : of[b]? = some fb := by rw [← hfb, List.getD_eq_getElem?_getD, List.getElem?_eq_getElem (by omega)]; rfl
      obtain ⟨g1, o1, e1, hg1, k0⟩ := ho.at hga
      obtain ⟨g2, o2, e2, hg2, k1⟩ := ho.at hgb
      rw [e1] at e2
      obtain ⟨rfl, rfl⟩ := addr_inj e2
      subst e1
      rw [ea, eb] at HCX HLK
      rw [eb] at HNG HB ⊢
      have HOF := Lib.hid (fun W h => (⟨((HB.out W h).cell hg1).trans k0, ((HB.out W h).cell hg1).trans k1⟩ : W.cell? ⟨g1, o1 + a, none⟩ = some (.int .i64 (fa : Int)) ∧ W.cell? ⟨g1, o1 + b, none⟩ = some (.int .i64 (fb : Int))))
      have j0 : (0 : Int) ≤ (a : Int) := by omega
      have j1 : (a : Int) < (n : Int) := by omega
      have j2 : (0 : Int) ≤ (b : Int) := by omega
      have j3 : (b : Int) < (n : Int) := by omega
      clear ea eb hx hy hii hga hgb hfa hfb k0 k1 e2 ho
      obtain ⟨tv, htv⟩ : ∃ tv, ((fa : Int) == (fb : Int)) = tv := ⟨_, rfl⟩
      have HR := Lib.hid (show R = tv by
        rw [hbd, ← htv]
        by_cases e : fa = fb
        · subst e; simp
        · rw [beq_eq_false_iff_ne.2 (by omega : (fa : Int) ≠ (fb : Int)), decide_eq_false e]; rfl)
      clear hbd
      go_enter Try.func43, Try.ntmps43
      go_wp2_with fail
      refine' wp_region_each _ (Below (w.alloc (.cells #[.int .i64 l.kind, .string l.name, .int .i64 (b : Int), .slice l.args.a l.args.n l.args.c, .string l.bind, .string l.elem, .int .i64 l.least, .int .i64 l.op, .int .i64 l.pos] 56)).heap.size (w.alloc (.cells #[.int .i64 l.kind, .string l.name, .int .i64 (b : Int), .slice l.args.a l.args.n l.args.c, .string l.bind, .string l.elem, .int .i64 l.least, .int .i64 l.op, .int .i64 l.pos] 56))) (Onward) (Vl :: Vl :: Vl :: Vl :: Vl :: Vl :: Vl :: Vl :: Vl :: Vl :: Vl :: Vl :: Vl :: Vl :: Vl :: Vl :: Vl :: Vl :: Vl :: Vl :: Vl :: Vl :: []) ?hF (by kernel_rfl) (by kernel_rfl) (by kernel_rfl) ((Below.refl _ _).drew) (lasting_cons (lasting_vl) (lasting_cons (lasting_vl) (lasting_cons (lasting_vl) (lasting_cons (lasting_vl) (lasting_cons (lasting_vl) (lasting_cons (lasting_vl) (lasting_cons (lasting_vl) (lasting_cons (lasting_vl) (lasting_cons (lasting_vl) (lasting_cons (lasting_vl) (lasting_cons (lasting_vl) (lasting_cons (lasting_vl) (lasting_cons (lasting_vl) (lasting_cons (lasting_vl) (lasting_cons (lasting_vl) (lasting_cons (lasting_vl) (lasting_cons (lasting_vl) (lasting_cons (lasting_vl) (lasting_cons (lasting_vl) (lasting_cons (lasting_vl) (lasting_cons (lasting_vl) (lasting_cons (lasting_vl) (lasting_none))))))))))))))))))))))) ?hops ?hend
      case hF => (intro v; simp only [over, Act.put, List.setIfInBounds_toArray, List.set_cons_zero, List.set_cons_succ, Nat.zero_add, Nat.reduceAdd]; exact rfl)
      case hops =>
        refine ⟨?_, ?_⟩
        · intro v w' hj hd hs K hK
          obtain ⟨⟨p0, p1, p2, p3⟩, ⟨r0, r1, r2, r3, r4, r5, r6, r7, r8⟩, ⟨l0, l1, l2, l3, l4, l5, l6, l7, l8⟩, o0⟩ := HCX.out _ hj.out
          have hk := hK.out
          simp only [Act.put, List.setIfInBounds_toArray, List.set_cons_zero, List.set_cons_succ] at hk
          have HK := Lib.hid hk
          clear hd hs hk hK
          go_simp
          exact HK.out _ _ hj.out (Below.refl _ _) (show _ = _ from rfl)
        refine ⟨?_, ?_⟩
        · intro v w' hj hd hs K hK
          obtain ⟨⟨p0, p1, p2, p3⟩, ⟨r0, r1, r2, r3, r4, r5, r6, r7, r8⟩, ⟨l0, l1, l2, l3, l4, l5, l6, l7, l8⟩, o0⟩ := HCX.out _ hj.out
          have hk := hK.out
          simp only [Act.put, List.setIfInBounds_toArray, List.set_cons_zero, List.set_cons_succ] at hk
          have HK := Lib.hid hk
          clear hd hs hk hK
          go_simp
          exact HK.out _ _ hj.out (Below.refl _ _) (show _ = _ from rfl)
        refine ⟨?_, ?_⟩
        · intro v w' hj hd hs K hK
          obtain ⟨⟨p0, p1, p2, p3⟩, ⟨r0, r1, r2, r3, r4, r5, r6, r7, r8⟩, ⟨l0, l1, l2, l3, l4, l5, l6, l7, l8⟩, o0⟩ := HCX.out _ hj.out
          have hk := hK.out
          simp only [Act.put, List.setIfInBounds_toArray, List.set_cons_zero, List.set_cons_succ] at hk
          have HK := Lib.hid hk
          clear hd hs hk hK
          go_simp
          exact HK.out _ _ hj.out (Below.refl _ _) (show _ = _ from rfl)
        refine ⟨?_, ?_⟩
        · intro v w' hj hd hs K hK
          have t0 : v 0 = _ := hd.out 0 (by kernel_rfl)
          have t1 : v 1 = _ := hd.out 1 (by kernel_rfl)
          have t2 : v 2 = _ := hd.out 2 (by kernel_rfl)
          have hk := hK.out
          simp only [t0, t1, t2, Act.put, List.setIfInBounds_toArray, List.set_cons_zero, List.set_cons_succ] at hk
          have HK := Lib.hid hk
          clear hd hs hk hK
          go_simp
          refine (HLK.out w' hj.out).mono ?_
          rintro e w3 ⟨rfl, hb⟩
          exact HK.out _ _ (hj.out.trans (hb.mono hj.out.size)) hb (show _ = _ from rfl)
        refine ⟨?_, ?_⟩
        · intro v w' hj hd hs K hK
          have t3 : v 3 = _ := hd.out 3 (by kernel_rfl)
          have hk := hK.out
          simp only [t3, Act.put, List.setIfInBounds_toArray, List.set_cons_zero, List.set_cons_succ] at hk
          have HK := Lib.hid hk
          clear hd hs hk hK
          go_simp
          exact HK.out _ _ hj.out (Below.refl _ _) (show _ = _ from rfl)
        refine ⟨?_, ?_⟩
        · intro v w' hj hd hs K hK
          have t4 : v 4 = _ := hd.out 4 (by kernel_rfl)
          obtain ⟨⟨p0, p1, p2, p3⟩, ⟨r0, r1, r2, r3, r4, r5, r6, r7, r8⟩, ⟨l0, l1, l2, l3, l4, l5, l6, l7, l8⟩, o0⟩ := HCX.out _ hj.out
          have hk := hK.out
          simp only [t4, Act.put, List.setIfInBounds_toArray, List.set_cons_zero, List.set_cons_succ] at hk
          have HK := Lib.hid hk
          clear hd hs hk hK
          go_simp
          exact HK.out _ _ hj.out (Below.refl _ _) (show _ = _ from rfl)
        refine ⟨?_, ?_⟩
        · intro v w' hj hd hs K hK
          have t4 : v 4 = _ := hd.out 4 (by kernel_rfl)
          have t5 : v 5 = _ := hd.out 5 (by kernel_rfl)
          have hk := hK.out
          simp only [t4, t5, Act.put, List.setIfInBounds_toArray, List.set_cons_zero, List.set_cons_succ] at hk
          have HK := Lib.hid hk
          clear hd hs hk hK
          go_simp
          refine (HNG.out w').mono ?_
          rintro e w3 ⟨rfl, hb⟩
          exact HK.out _ _ (hj.out.trans (hb.mono hj.out.size)) hb (show _ = _ from rfl)
        refine ⟨?_, ?_⟩
        · intro v w' hj hd hs K hK
          have t4 : v 4 = _ := hd.out 4 (by kernel_rfl)
          have t6 : v 6 = _ := hd.out 6 (by kernel_rfl)
          have hk := hK.out
          simp only [t4, t6, Act.put, List.setIfInBounds_toArray, List.set_cons_zero, List.set_cons_succ] at hk
          have HK := Lib.hid hk
          clear hd hs hk hK
          go_simp
          exact HK.out _ _ hj.out (Below.refl _ _) (show _ = _ from rfl)
        refine ⟨?_, ?_⟩
        · intro v w' hj hd hs K hK
          have t7 : v 7 = _ := hd.out 7 (by kernel_rfl)
          have hk := hK.out
          simp only [t7, Act.put, List.setIfInBounds_toArray, List.set_cons_zero, List.set_cons_succ] at hk
          have HK := Lib.hid hk
          clear hd hs hk hK
          go_simp
          exact HK.out _ _ hj.out (Below.refl _ _) (show _ = _ from rfl)
        refine ⟨?_, ?_⟩
        · intro v w' hj hd hs K hK
          have t8 : v 8 = _ := hd.out 8 (by kernel_rfl)
          obtain ⟨⟨p0, p1, p2, p3⟩, ⟨r0, r1, r2, r3, r4, r5, r6, r7, r8⟩, ⟨l0, l1, l2, l3, l4, l5, l6, l7, l8⟩, o0⟩ := HCX.out _ hj.out
          have hk := hK.out
          simp only [t8, Act.put, List.setIfInBounds_toArray, List.set_cons_zero, List.set_cons_succ] at hk
          have HK := Lib.hid hk
          clear hd hs hk hK
          go_simp
          exact HK.out _ _ hj.out (Below.refl _ _) (show _ = _ from rfl)
        refine ⟨?_, ?_⟩
        · intro v w' hj hd hs K hK
          have t8 : v 8 = _ := hd.out 8 (by kernel_rfl)
          have hk := hK.out
          simp only [t8, Act.put, List.setIfInBounds_toArray, List.set_cons_zero, List.set_cons_succ] at hk
          have HK := Lib.hid hk
          clear hd hs hk hK
          go_simp
          exact HK.out _ _ hj.out (Below.refl _ _) (show _ = _ from rfl)
        refine ⟨?_, ?_⟩
        · intro v w' hj hd hs K hK
          have t8 : v 8 = _ := hd.out 8 (by kernel_rfl)
          have t10 : v 10 = _ := hd.out 10 (by kernel_rfl)
          obtain ⟨⟨p0, p1, p2, p3⟩, ⟨r0, r1, r2, r3, r4, r5, r6, r7, r8⟩, ⟨l0, l1, l2, l3, l4, l5, l6, l7, l8⟩, o0⟩ := HCX.out _ hj.out
          have hk := hK.out
          simp only [t8, t10, Act.put, List.setIfInBounds_toArray, List.set_cons_zero, List.set_cons_succ] at hk
          have HK := Lib.hid hk
          clear hd hs hk hK
          go_simp
          exact HK.out _ _ hj.out (Below.refl _ _) (show _ = _ from rfl)
        refine ⟨?_, ?_⟩
        · intro v w' hj hd hs K hK
          have t8 : v 8 = _ := hd.out 8 (by kernel_rfl)
          have t9 : v 9 = _ := hd.out 9 (by kernel_rfl)
          have t11 : v 11 = _ := hd.out 11 (by kernel_rfl)
          have hk := hK.out
          simp only [t8, t9, t11, Act.put, List.setIfInBounds_toArray, List.set_cons_zero, List.set_cons_succ] at hk
          have HK := Lib.hid hk
          clear hd hs hk hK
          go_simp
          exact HK.out _ _ hj.out (Below.refl _ _) (show _ = _ from rfl)
        refine ⟨?_, ?_⟩
        · intro v w' hj hd hs K hK
          have t8 : v 8 = _ := hd.out 8 (by kernel_rfl)
          have t12 : v 12 = _ := hd.out 12 (by kernel_rfl)
          obtain ⟨c0, c1⟩ := HOF.out _ hj.out
          have hk := hK.out
          simp only [t8, t12, Act.put, List.setIfInBounds_toArray, List.set_cons_zero, List.set_cons_succ] at hk
          have HK := Lib.hid hk
          clear hd hs hk hK
          go_simp
          exact HK.out _ _ hj.out (Below.refl _ _) (show _ = _ from rfl)
        refine ⟨?_, ?_⟩
        · intro v w' hj hd hs K hK
          have t8 : v 8 = _ := hd.out 8 (by kernel_rfl)
          obtain ⟨⟨p0, p1, p2, p3⟩, ⟨r0, r1, r2, r3, r4, r5, r6, r7, r8⟩, ⟨l0, l1, l2, l3, l4, l5, l6, l7, l8⟩, o0⟩ := HCX.out _ hj.out
          have hk := hK.out
          simp only [t8, Act.put, List.setIfInBounds_toArray, List.set_cons_zero, List.set_cons_succ] at hk
          have HK := Lib.hid hk
          clear hd hs hk hK
          go_simp
          exact HK.out _ _ hj.out (Below.refl _ _) (show _ = _ from rfl)
        refine ⟨?_, ?_⟩
        · intro v w' hj hd hs K hK
          have t8 : v 8 = _ := hd.out 8 (by kernel_rfl)
          have hk := hK.out
          simp only [t8, Act.put, List.setIfInBounds_toArray, List.set_cons_zero, List.set_cons_succ] at hk
          have HK := Lib.hid hk
          clear hd hs hk hK
          go_simp
          exact HK.out _ _ hj.out (Below.refl _ _) (show _ = _ from rfl)
        refine ⟨?_, ?_⟩
        · intro v w' hj hd hs K hK
          have t8 : v 8 = _ := hd.out 8 (by kernel_rfl)
          have t15 : v 15 = _ := hd.out 15 (by kernel_rfl)
          obtain ⟨⟨p0, p1, p2, p3⟩, ⟨r0, r1, r2, r3, r4, r5, r6, r7, r8⟩, ⟨l0, l1, l2, l3, l4, l5, l6, l7, l8⟩, o0⟩ := HCX.out _ hj.out
          have hk := hK.out
          simp only [t8, t15, Act.put, List.setIfInBounds_toArray, List.set_cons_zero, List.set_cons_succ] at hk
          have HK := Lib.hid hk
          clear hd hs hk hK
          go_simp
          exact HK.out _ _ hj.out (Below.refl _ _) (show _ = _ from rfl)
        refine ⟨?_, ?_⟩
        · intro v w' hj hd hs K hK
          have t8 : v 8 = _ := hd.out 8 (by kernel_rfl)
          have t14 : v 14 = _ := hd.out 14 (by kernel_rfl)
          have t16 : v 16 = _ := hd.out 16 (by kernel_rfl)
          have hk := hK.out
          simp only [t8, t14, t16, Act.put, List.setIfInBounds_toArray, List.set_cons_zero, List.set_cons_succ] at hk
          have HK := Lib.hid hk
          clear hd hs hk hK
          go_simp
          exact HK.out _ _ hj.out (Below.refl _ _) (show _ = _ from rfl)
        refine ⟨?_, ?_⟩
        · intro v w' hj hd hs K hK
          have t8 : v 8 = _ := hd.out 8 (by kernel_rfl)
          have t17 : v 17 = _ := hd.out 17 (by kernel_rfl)
          obtain ⟨c0, c1⟩ := HOF.out _ hj.out
          have hk := hK.out
          simp only [t8, t17, Act.put, List.setIfInBounds_toArray, List.set_cons_zero, List.set_cons_succ] at hk
          have HK := Lib.hid hk
          clear hd hs hk hK
          go_simp
          exact HK.out _ _ hj.out (Below.refl _ _) (show _ = _ from rfl)
        refine ⟨?_, ?_⟩
        · intro v w' hj hd hs K hK
          have t8 : v 8 = _ := hd.out 8 (by kernel_rfl)
          have t13 : v 13 = _ := hd.out 13 (by kernel_rfl)
          have t18 : v 18 = _ := hd.out 18 (by kernel_rfl)
          have hk := hK.out
          simp only [t8, t13, t18, Act.put, List.setIfInBounds_toArray, List.set_cons_zero, List.set_cons_succ] at hk
          have HK := Lib.hid hk
          clear hd hs hk hK
          go_simp
          exact HK.out _ _ hj.out (Below.refl _ _) (show _ = _ from rfl)
        refine ⟨?_, ?_⟩
        · intro v w' hj hd hs K hK
          have t8 : v 8 = _ := hd.out 8 (by kernel_rfl)
          have t19 : v 19 = _ := hd.out 19 (by kernel_rfl)
          have hk := hK.out
          simp only [t8, t19, Act.put, List.setIfInBounds_toArray, List.set_cons_zero, List.set_cons_succ] at hk
          have HK := Lib.hid hk
          clear hd hs hk hK
          go_simp
          exact HK.out _ _ hj.out (Below.refl _ _) (show _ = _ from rfl)
        refine ⟨?_, ?_⟩
        · intro v w' hj hd hs K hK
          have t20 : v 20 = _ := hd.out 20 (by kernel_rfl)
          have hk := hK.out
          simp only [t20, Act.put, List.setIfInBounds_toArray, List.set_cons_zero, List.set_cons_succ] at hk
          have HK := Lib.hid hk
          clear hd hs hk hK
          go_simp
          exact HK.out _ _ hj.out (Below.refl _ _) (show _ = _ from rfl)
        trivial
      case hend =>
        intro v w5 hj hd
        have t21 : v 21 = _ := hd.out 21 (of_decide_eq_true (by kernel_rfl))
        simp only [t21]
        have hb5 := HB.out _ hj.out
        clear hj hd t21
        go_wp2_with fail
        go_ret
        exact ⟨by rw [HR.out]; rfl, hb5⟩
end Go.Proofs.Ytljlihimmcmlmaa
