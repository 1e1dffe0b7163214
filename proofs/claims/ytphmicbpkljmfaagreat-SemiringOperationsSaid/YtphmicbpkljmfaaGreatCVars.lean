/- The walk of Vars. -/
import Derived.Test.YtphmicbpkljmfaaGreatCLaw
import Derived.Test.YtphmicbpkljmfaaGreatSort
import Derived.Test.YtphmicbpkljmfaaGreatCEval
import Derived.Deep.LoopGhost
import Derived.Deep.AppendLies
import Derived.WalkSmall
import Derived.Outline
namespace Go.Proofs.YtphmicbpkljmfaaGreat
set_option linter.unusedVariables false
set_option linter.unusedSimpArgs false
open Go.RowKit
open Cx (N)
def nats (xs : List Nat) : List Int := xs.map (fun k : Nat => (k : Int))
theorem nats_app (a b : List Nat) : nats (a ++ b) = nats a ++ nats b := by simp [nats]
theorem nats_len (a : List Nat) : (nats a).length = a.length := by simp [nats]
/-- Numbers in a row of the call's own. -/
def NumsOwn (l : List Int) (w : World) (e : Ending) (w' : World) : Prop := ∃ v, e = .returned v ∧ w'.ownsRow w.heap.size 3 1 v l.length (icells l) ∧ Below w.heap.size w w'
theorem NumsOwn.out {l : List Int} {w w' : World} {e : Ending} (h : NumsOwn l w e w') : NumsOut l w e w' := by
  obtain ⟨v, rfl, ho, hb⟩ := h
  obtain ⟨A, c, rfl, hn⟩ := ns_of_own ho
  exact ⟨A, c, rfl, hn, hb⟩
/-- The memory of the walk: what has been seen, the stack, what has been found. -/
structure VMem (w0 w : World) (bm gl cl : Nat) (vo : Value) (S : List Nat) (open_ : List Nat) (outs : List Int) (f : Int → Option Bool) (nf : Nat) : Prop where
  map : IMap w bm nf f
  marks : Marks S f
  few : nf ≤ S.length
  st : w.ownsRow w0.heap.size 3 1 (.slice (some ⟨gl, 0, none⟩) open_.length cl) open_.length (icells (nats open_))
  out : w.ownsRow w0.heap.size 3 1 vo outs.length (icells outs)
  ne : vo.ownBlock ≠ some gl
  low : w0.heap.size ≤ bm
  below : Below w0.heap.size w0 w
theorem VMem.next {w0 w w' : World} {bm gl cl : Nat} {vo : Value} {S open_ : List Nat} {outs : List Int} {f : Int → Option Bool} {nf : Nat} (h : VMem w0 w bm gl cl vo S open_ outs f nf) (hb : Below w.heap.size w w') : VMem w0 w' bm gl cl vo S open_ outs f nf :=
  ⟨h.map.next hb, h.marks, h.few, own_below h.st hb, own_below h.out hb, h.ne, h.low, h.below.trans (hb.mono h.below.size)⟩
theorem own_not_map {w : World} {B : Nat} {e : TypeId} {size n : Nat} {v : Value} {xs : List Value} {b : Nat} {es : Array MapEntry} {k : Nat} (h : w.ownsRow B e size v n xs) (hm : w.heap[b]? = some (.map es k)) : v.ownBlock ≠ some b := by
  rcases h.2 with ⟨rfl, _⟩ | ⟨g, cap, cur, rfl, _, hg, _⟩
  · simp [Value.ownBlock]
  · intro e
    simp [Value.ownBlock] at e
    subst e
    rw [hm] at hg; cases hg
theorem VMem.popped {w0 w : World} {bm gl cl : Nat} {vo : Value} {done op : List Nat} {k : Nat} {outs : List Int} {f : Int → Option Bool} {nf : Nat} (h : VMem w0 w bm gl cl vo (done ++ (op ++ [k])) (op ++ [k]) outs f nf) : VMem w0 w bm gl cl vo (done ++ [k] ++ op) op outs f nf := by
  have hp : (done ++ (op ++ [k])).Perm (done ++ [k] ++ op) := by
    rw [List.append_assoc]
    exact List.Perm.append_left _ List.perm_append_comm
  refine ⟨h.map, h.marks.perm hp, by rw [← hp.length_eq]; exact h.few, ?_, h.out, h.ne, h.low, h.below⟩
  have hst := h.st
  rw [nats_app, icells_app, List.length_append] at hst
  exact ownsRow_pop (by rw [icells_len, nats_len, Nat.mul_one]) hst
theorem VMem.found {w0 w w' : World} {bm gl cl g cap : Nat} {vo : Value} {S open_ : List Nat} {outs : List Int} {f : Int → Option Bool} {nf : Nat} {x : Int} (h : VMem w0 w bm gl cl vo S open_ outs f nf)
    (ho : w'.ownsRow w0.heap.size 3 1 (.slice (some ⟨g, 0, none⟩) (outs.length + 1) cap) (outs.length + 1) (icells outs ++ [.int .i64 x])) (hg : w.grownBy w' vo.ownBlock) (hat : vo.ownBlock = some g ∨ g = w.heap.size) :
    VMem w0 w' bm gl cl (.slice (some ⟨g, 0, none⟩) (outs ++ [x]).length cap) S open_ (outs ++ [x]) f nf := by
  obtain ⟨es, ec, hob⟩ := h.map.obj
  have hgl := own_lt h.st (g := gl) rfl
  refine ⟨h.map.kept hg (fun e => own_not_map h.out hob e.symm), h.marks, h.few, h.st.kept hg (Or.inr (fun e => h.ne e.symm)), ?_, ?_, h.low, ?_⟩
  · rw [icells_app, List.length_append]; exact ho
  · intro e
    have e' : g = gl := by simpa [Value.ownBlock] using e
    rcases hat with h1 | h1
    · exact h.ne (by rw [h1, e'])
    · omega
  · exact h.below.grown hg h.below.size (fun q hq => (own_lt h.out hq).1)
theorem VMem.pushed {w0 w w' : World} {bm gl cl g cap : Nat} {vo : Value} {S open_ : List Nat} {outs : List Int} {f : Int → Option Bool} {nf : Nat} {x : Nat} (h : VMem w0 w bm gl cl vo S open_ outs f nf)
    (ho : w'.ownsRow w0.heap.size 3 1 (.slice (some ⟨g, 0, none⟩) (open_.length + 1) cap) (open_.length + 1) (icells (nats open_) ++ [.int .i64 (x : Int)])) (hg : w.grownBy w' (some gl)) (hat : some gl = some g ∨ g = w.heap.size) :
    VMem w0 w' bm g cap vo S (open_ ++ [x]) outs f nf := by
  obtain ⟨es, ec, hob⟩ := h.map.obj
  have hgl := own_lt h.st (g := gl) rfl
  refine ⟨h.map.kept hg (fun e => own_not_map h.st hob e.symm), h.marks, h.few, ?_, h.out.kept hg (Or.inr h.ne), ?_, h.low, ?_⟩
  · rw [nats_app, icells_app, List.length_append]; exact ho
  · intro e
    rcases hat with h1 | h1
    · exact h.ne (by rw [h1, e])
    · have := own_lt h.out e; omega
  · exact h.below.grown hg h.below.size (fun q hq => by injection hq with hq; omega)
theorem VMem.marked {w0 w w' : World} {bm gl cl : Nat} {vo : Value} {S open_ : List Nat} {outs : List Int} {f : Int → Option Bool} {nf : Nat} {x : Nat} (h : VMem w0 w bm gl cl vo S open_ outs f nf)
    (hk : IMap w' bm (nf + 1) (fun y => if y = (x : Int) then some true else f y)) (hg : w.grownBy w' (some bm)) : VMem w0 w' bm gl cl vo (S ++ [x]) open_ outs (fun y => if y = (x : Int) then some true else f y) (nf + 1) := by
  obtain ⟨es, ec, hob⟩ := h.map.obj
  refine ⟨hk, h.marks.more x, by have := h.few; simp; omega, h.st.kept hg (Or.inr (own_not_map h.st hob)), h.out.kept hg (Or.inr (own_not_map h.out hob)), h.ne, h.low, ?_⟩
  exact h.below.grown hg h.below.size (fun q hq => by injection hq with hq; have := h.low; omega)
set_option maxHeartbeats 8000000 in
set_option maxRecDepth 100000 in
theorem cvars_any (A : Option Addr) (c : Nat) (l : List N) (n : Nat) (w : World) (hg : Cx.Good l) (hl : l.length ≤ 20000) (hn : n < l.length) (hA : Circ w A l) :
    Calls Tryz.prog 32 #[.slice A l.length c, .int .i64 (n : Int)] w (NumsOwn (Cx.vars l n) w) := by
  obtain ⟨i0, hi0, hz0, hz1, hz2⟩ := info_parts int_info
  have n0 : (0 : Int) ≤ (n : Int) := by omega
  have n1 : decide ((n : Int) < 0) = false := by simp
  have n2 : decide ((l.length : Int) ≤ (n : Int)) = false := by simp; omega
  have n2' : decide (l.length ≤ n) = false := by simp; omega
  have f1 := FMap.made w Tryz.prog 3 (plainElem Tryz.prog 4) ival bdat
  obtain ⟨w2, r1, f2, g2⟩ := f1.update int_enc bool_enc Tryz.underlying73 (by unfold maxLen; omega) (n : Int) (i64_nat (by omega)) true
  simp only [ival] at r1
  have b2 : Below w.heap.size w w2 := ((Below.refl _ _).alloc (Nat.le_refl _) _).trans (below_of_grown g2 (Nat.le_refl _) (by simp))
  have M0 : VMem w (w2.alloc (.cells #[.int .i64 (n : Int)] 3)) w.heap.size w2.heap.size 1 (.slice none 0 0) [n] [n] [] (fun y => if y = (n : Int) then some true else none) 1 :=
    ⟨f2.alloc _, fun y => by
      show (if (y : Int) = (n : Int) then some true else none).getD false = _
      by_cases e : y = n
      · subst e; simp
      · rw [if_neg (by omega)]; simp [e], by simp, own_of_at (At.new _ _ _) b2.size, World.ownsRow_nil _ _ _ _, by simp [Value.ownBlock], Nat.le_refl _, b2.alloc b2.size _⟩
  have hmm := @run_makeMap Tryz.prog
  go_enter Tryz.func32, Tryz.ntmps32
  go_wp2_with fail
  clear r1 f1 f2 g2 b2
  go_loopg [5, 7] (l.length + 1) (fun z vo vl wr => ∃ (done op : List Nat) (gl cl : Nat) (outs : List Int) (f : Int → Option Bool) (nf : Nat), z + done.length = l.length + 1 ∧ Hid (Cx.Seen l n done op) ∧ Hid (outs = done.filterMap (Cx.varOf l)) ∧ vl = .slice (some ⟨gl, 0, none⟩) op.length cl ∧ VMem w wr w.heap.size gl cl vo (done ++ op) op outs f nf)
  case atStart => exact ⟨[], [n], w2.heap.size, 1, [], _, 1, by simp, Lib.hid (Cx.Seen.start l n), Lib.hid rfl, rfl, M0⟩
  case round =>
    obtain ⟨done, op, gl, cl, outs, f, nf, hz, HS, HO, rfl, hM⟩ := hrel
    clear M0
    rcases List.eq_nil_or_concat op with rfl | ⟨op', k, rfl⟩
    · have HE := Lib.hid (show sorted outs = Cx.vars l n from HS.out.vars hg hn (by rw [← HO.out]; exact sorted_perm outs) (sorted_le outs))
      have ho := hM.out
      have hbl := hM.below
      have hlen : outs.length ≤ 1000000 := by
        rw [HO.out]
        have h1 := List.length_filterMap_le (Cx.varOf l) done
        omega
      obtain ⟨va, vc, rfl⟩ := own_len ho
      go_wp2_with fail
      refine (sort_own w.heap.size (.slice va outs.length vc) outs _ ho hbl.size hlen).mono ?_
      rintro e w9 ⟨rfl, o9, b9⟩
      have o9' : w9.ownsRow w.heap.size 3 1 (.slice va outs.length vc) (sorted outs).length (icells (sorted outs)) := by rw [(sorted_perm outs).length_eq]; exact o9
      go_wp2_with fail
      go_ret
      exact ⟨.slice va outs.length vc, rfl, by rw [← HE.out]; exact o9', hbl.trans b9⟩
    · have hk := HS.out.sound k (by simp)
      have hkl : k < l.length := by have := hk.lt hg hn; omega
      have e1 := getElem_of hkl
      obtain ⟨g, o, rfl, hgl, c0, c1, c2⟩ := (hA.below hM.below).at hkl
      generalize l[k] = v at *
      have hst := hM.st
      have ho := hM.out
      have hlow := hM.low
      have hbl := hM.below
      have hne := hM.ne
      have hlen : done.length + op'.length + 1 ≤ l.length := by
        have := Cx.nodup_le HS.out.nd (fun i hi => (by have := (HS.out.sound i hi).lt hg hn; omega : i < l.length))
        simp at this; omega
      have E1 := Lib.hid (show (op' ++ [k]).length = op'.length + 1 by simp)
      rw [List.concat_eq_append] at *
      rw [E1.out] at hst ⊢
      have sk : wr.cell? ⟨gl, op'.length, none⟩ = some (.int .i64 (k : Int)) := by
        have := own_news hst op'.length (.int .i64 (k : Int)) (by simp [icells, nats])
        rwa [add_off] at this
      obtain ⟨_, hcap1, _⟩ : op'.length + 1 ≤ cl ∧ cl ≤ maxLen ∧ True := by
        obtain ⟨A', c', hv, h1, h2, _⟩ := own_cells hst
        injection hv with _ _ e
        subst e
        exact ⟨h1, h2, trivial⟩
      unfold maxLen at hcap1
      have st2 : wr.ownsRow w.heap.size 3 1 (.slice (some ⟨gl, 0, none⟩) op'.length cl) op'.length (icells (nats op')) := by
        rw [nats_app, icells_app] at hst
        exact ownsRow_pop (by rw [icells_len, nats_len, Nat.mul_one]) hst
      have k0 : (0 : Int) ≤ (k : Int) := by omega
      have k1 : (k : Int) < (l.length : Int) := by omega
      have m0 : (0 : Int) ≤ (op'.length : Int) := by omega
      have m1 : (op'.length : Int) < (op'.length : Int) + 1 := by omega
      have m2 : op'.length < op'.length + 1 := by omega
      have m3 : op'.length ≤ op'.length + 1 := by omega
      have m4 : op'.length ≤ cl := by omega
      have m5 : (op'.length : Int) ≤ 20000 := by omega
      have c5 : (cl : Int) ≤ 9223372036854775807 := by omega
      obtain ⟨va, vc, rfl⟩ := own_len ho
      have P1 := hM.popped
      have b1 := below1 wr (.cells #[.int .i64 v.o, .int .i64 v.a, .int .i64 v.b] 58)
      have P2 := P1.next b1
      have an : At (wr.alloc (.cells #[.int .i64 v.o, .int .i64 v.a, .int .i64 v.b] 58)) wr.heap.size 58 #[.int .i64 v.o, .int .i64 v.a, .int .i64 v.b] := At.new _ _ _
      have HE1 := Lib.hid e1
      have HZ := Lib.hid hz
      have hol : outs.length ≤ 20000 := by
        have h0 := HO.out
        have h1 := List.length_filterMap_le (Cx.varOf l) done
        rw [← h0] at h1
        omega
      by_cases h2 : v.o = 2
      · have t2 : (v.o == 2) = true := by simpa using h2
        have HBI := Lib.hid (show Cx.binary ⟨v.o, v.a, v.b⟩ = false by unfold Cx.binary; simp; omega)
        have HN := Lib.hid ((HS.out.pop []).leaf e1 (by omega))
        have HO' := Lib.hid (show outs ++ [v.a] = (done ++ [k]).filterMap (Cx.varOf l) by
          rw [Cx.filterMap_snoc, ← HO.out]
          congr 1
          unfold Cx.varOf; rw [e1]; simp [h2])
        have ab := P2.out.alloc (.cells #[.int .i64 v.a] 3)
        have hsz := P2.below.size
        clear h2 e1 hz
        go_wp2_with (first
          | (at_builtin; refine wpList_append_lies _ rfl (.tmp 44) (.tmp 47) 24 rfl w.heap.size 3 i0 _ 1 8 Tryz.underlying24 hi0 hz0 hz1 hz2 rfl (by omega) (.slice va outs.length vc) outs.length (icells outs) rfl ab ⟨wr.heap.size + 1, 0, none⟩ 1 1 [.int .i64 v.a] rfl rfl (At.news (At.newAt (by simp) _ _)) (one1 rfl) (by omega) (by unfold maxLen; omega) (by omega) (by simp at hsz; simp; omega) _ rfl ?_
             intro g3 cap3 w3 o3 g3' hat3 hlt3
             have P3 := (P2.next (below1 _ (.cells #[.int .i64 v.a] 3))).found o3 g3' hat3
             have a3 := (an.alloc (.cells #[.int .i64 v.a] 3)).grown g3' (fun e => by have := (own_lt P1.out e.symm).2; omega)
             have n3 := a3.cell 0; have n4 := a3.cell 1; have n5 := a3.cell 2
             simp at n3 n4 n5))
        refine (binary_any v.o v.a v.b _).mono ?_
        rintro e w4 ⟨rfl, hw4⟩
        rw [HBI.out]
        have b4 : Below w3.heap.size w3 w4 := by rw [← hw4]; exact below1 _ _
        have P4 := P3.next b4
        rw [List.length_append] at P4
        clear hw4 n3 n4 n5
        go_wp2_with fail
        go_roundg (gk - 1)
        case measure => have := HZ.out; omega
        case rel => exact ⟨done ++ [k], op', gl, cl, outs ++ [v.a], f, nf, by have := HZ.out; simp; omega, HN, HO', rfl, P4⟩
      · have t2 : (v.o == 2) = false := by simpa using h2
        have HO' := Lib.hid (show outs = (done ++ [k]).filterMap (Cx.varOf l) by
          rw [Cx.filterMap_snoc, ← HO.out]
          have : Cx.varOf l k = none := by unfold Cx.varOf; rw [e1]; simp [h2]
          rw [this]; simp)
        by_cases h34 : v.o = 3 ∨ v.o = 4
        · have HBI := Lib.hid (show Cx.binary ⟨v.o, v.a, v.b⟩ = true by unfold Cx.binary; simpa using h34)
          obtain ⟨ea, eb, h5, h6, h7⟩ := hg.kids e1 h34
          have RA := Lib.hid (Cx.Reach.left hk e1 h34)
          have RB := Lib.hid (Cx.Reach.right hk e1 h34)
          have HP := Lib.hid (HS.out.pop [v.a.toNat, v.b.toNat])
          have HFU := Lib.hid (fun op2 (h : Cx.Part l n (done ++ [k]) op2 k [v.a.toNat, v.b.toNat] 2) => h.full e1 ea eb)
          generalize v.a.toNat = p at *
          generalize v.b.toNat = q at *
          have HEA := Lib.hid ea; have HEB := Lib.hid eb
          have q1 : (p : Int) ≤ 9223372036854775806 := by omega
          have q2 : (q : Int) ≤ 9223372036854775806 := by omega
          clear h2 e1 hz h34 ea eb
          go_wp2_with fail
          refine (binary_any v.o v.a v.b _).mono ?_
          rintro e w4 ⟨rfl, hw4⟩
          rw [HBI.out]
          have b4 := below1 (wr.alloc (.cells #[.int .i64 v.o, .int .i64 v.a, .int .i64 v.b] 58)) (.cells #[.int .i64 v.o, .int .i64 v.a, .int .i64 v.b] 58)
          rw [hw4] at b4
          have P4 := P2.next b4
          have a4 := an.next b4
          have n3 := a4.cell 0; have n4 := a4.cell 1; have n5 := a4.cell 2
          simp at n3 n4 n5
          rw [HEA.out] at n4
          rw [HEB.out] at n5
          have P5 := P4.next (below1 w4 (.cells #[.int .i64 (p : Int), .int .i64 (q : Int)] 3))
          have a5 := At.new w4 3 #[.int .i64 (p : Int), .int .i64 (q : Int)]
          have hM0 := Lib.hid hM
          clear hw4 hst st2 sk hM P1 P2 P4 an a4 b1
          go_wp2_with fail
          have hgk : gl ≠ w4.heap.size := by have := (own_lt P5.st (g := gl) rfl).2; have h0 := b4.size; have h1 := (own_lt hM0.out.st (g := gl) rfl).2; simp at h0; omega
          obtain ⟨wo, rfl⟩ : ∃ wo : World, wo = wr := ⟨_, rfl⟩
          go_loopw [7, 58] (fun sl z wq => ∃ (j : Nat) (op2 : List Nat) (gl2 cl2 : Nat) (f2 : Int → Option Bool) (nf2 : Nat), j ≤ 2 ∧ z = .int .i64 j ∧ sl = .slice (some ⟨gl2, 0, none⟩) op2.length cl2 ∧ Hid (Cx.Part l n (done ++ [k]) op2 k [p, q] j) ∧ VMem w wq w.heap.size gl2 cl2 (.slice va outs.length vc) (done ++ [k] ++ op2) op2 outs f2 nf2 ∧ At wq w4.heap.size 3 #[.int .i64 (p : Int), .int .i64 (q : Int)] ∧ gl2 ≠ w4.heap.size) (fun _ z _ => 2 - (intOf z).toNat)
          case atStart => exact ⟨0, op', gl, cl, f, nf, by omega, rfl, rfl, HP, P5, a5, hgk⟩
          case round =>
            obtain ⟨j, op2, gl2, cl2, f2, nf2, hj, rfl, rfl, HP2, P6, a6, hne6⟩ := hrel
            clear P5 a5 hgk n3 n4 n5
            have hlow6 := P6.low
            by_cases h1 : j < 2
            · have d1 : decide ((j : Int) < 2) = true := by simp; omega
              have d1' : decide (j < 2) = true := by simp; omega
              obtain ⟨x, hx, xc, hr, hxl⟩ : ∃ x : Nat, [p, q][j]? = some x ∧ wr.cell? ⟨w4.heap.size, j, none⟩ = some (.int .i64 (x : Int)) ∧ Cx.Reach l n x ∧ (x : Int) ≤ 9223372036854775806 := by
                rcases (by omega : j = 0 ∨ j = 1) with rfl | rfl
                · exact ⟨p, rfl, a6.cell 0, RA.out, q1⟩
                · exact ⟨q, rfl, a6.cell 1, RB.out, q2⟩
              have j0 : (0 : Int) ≤ (j : Int) := by omega
              have j1 : (j : Int) < 2 := by omega
              have hS : (done ++ [k] ++ op2).length ≤ l.length := Cx.nodup_le HP2.out.nd (fun i hi => by have := (HP2.out.sound i hi).lt hg hn; omega)
              have hnf := P6.few
              have hop : op2.length ≤ l.length := by simp at hS; omega
              have q0 := P6.map.look int_enc bool_enc Tryz.underlying73 (zero_bool _) (x : Int) (i64_nat (by omega))
              rw [P6.marks x] at q0
              simp only [ival] at q0
              cases hct : (done ++ [k] ++ op2).contains x
              · rw [hct] at q0
                have HN := Lib.hid (HP2.out.push hx (by intro hm; rw [List.contains_iff_mem.2 hm] at hct; cases hct) hr)
                have hmp := P6.map
                clear hx hct
                go_wp2_with (first
                  | (at_mapUpdate; refine wpList_fmap_update _ rfl _ _ _ 73 rfl hmp int_enc bool_enc Tryz.underlying73 (by unfold maxLen; omega) rfl (x : Int) rfl (i64_nat (by omega)) true rfl ?_
                     intro w9 hk9 g9
                     have P7 := P6.marked hk9 g9
                     have a7 := a6.grown g9 (by obtain ⟨es, ec, hob⟩ := P6.map.obj; exact a6.not_map hob)
                     have st7 := P7.st.alloc (.cells #[.int .i64 (x : Int)] 3)
                     have sz7 := P7.below.size
                     have lt7 := a7.lt)
                  | (at_builtin; refine wpList_append_lies _ rfl (.tmp 68) (.tmp 70) 24 rfl w.heap.size 3 i0 _ 1 8 Tryz.underlying24 hi0 hz0 hz1 hz2 rfl (by omega) (.slice (some ⟨gl2, 0, none⟩) op2.length cl2) op2.length (icells (nats op2)) rfl st7 ⟨w9.heap.size, 0, none⟩ 1 1 [.int .i64 (x : Int)] rfl rfl (At.news (At.new _ _ _)) (one1 rfl) (by omega) (by unfold maxLen; omega) (by omega) (by simp; omega) _ rfl ?_
                     intro g3 cap3 w3 o3 g3' hat3 hlt3
                     have P8 := (P7.next (below1 _ (.cells #[.int .i64 (x : Int)] 3))).pushed o3 g3' hat3
                     have a8 := (a7.alloc (.cells #[.int .i64 (x : Int)] 3)).grown g3' (fun e => hne6 (by simp [Value.ownBlock] at e; exact e.symm))
                     have ne8 : g3 ≠ w4.heap.size := by
                       rcases hat3 with h | h
                       · simp [Value.ownBlock] at h; omega
                       · simp at h; omega))
                rw [List.append_assoc (done ++ [k])] at P8
                have L8 : (op2 ++ [x]).length = op2.length + 1 := by simp
                go_roundw
                case rel => exact ⟨j + 1, op2 ++ [x], g3, cap3, _, _, by omega, by go_num, by rw [L8], HN, P8, a8, ne8⟩
                case measure => simp [intOf]; omega
              · rw [hct] at q0
                have HN := Lib.hid (HP2.out.have_ hx (List.contains_iff_mem.1 hct))
                clear hx hct
                go_wp2_with fail
                go_roundw
                case rel => exact ⟨j + 1, op2, gl2, cl2, f2, nf2, by omega, by go_num, rfl, HN, P6, a6, hne6⟩
                case measure => simp [intOf]; omega
            · have d1 : decide ((j : Int) < 2) = false := by simp; omega
              have d1' : decide (j < 2) = false := by simp; omega
              obtain rfl : j = 2 := by omega
              have HN := Lib.hid (HFU.out op2 HP2.out)
              go_wp2_with fail
              go_roundg (gk - 1)
              case measure => have := HZ.out; omega
              case rel => exact ⟨done ++ [k], op2, gl2, cl2, outs, f2, nf2, by have := HZ.out; simp; omega, HN, HO', rfl, P6⟩
        · have HBI := Lib.hid (show Cx.binary ⟨v.o, v.a, v.b⟩ = false by unfold Cx.binary; simp; omega)
          have HN := Lib.hid ((HS.out.pop []).leaf e1 h34)
          clear h2 e1 hz h34
          go_wp2_with fail
          refine (binary_any v.o v.a v.b _).mono ?_
          rintro e w4 ⟨rfl, hw4⟩
          rw [HBI.out]
          have b4 := below1 (wr.alloc (.cells #[.int .i64 v.o, .int .i64 v.a, .int .i64 v.b] 58)) (.cells #[.int .i64 v.o, .int .i64 v.a, .int .i64 v.b] 58)
          rw [hw4] at b4
          have P4 := P2.next b4
          clear hw4
          go_wp2_with fail
          go_roundg (gk - 1)
          case measure => have := HZ.out; omega
          case rel => exact ⟨done ++ [k], op', gl, cl, outs, f, nf, by have := HZ.out; simp; omega, HN, HO', rfl, P4⟩
theorem vars_out {l : List N} {n : Int} (h : Cx.isIn l n = false) : Cx.vars l n = [] := by
  rw [Cx.vars_to]
  have hb : Cx.below l n = List.replicate l.length false := by unfold Cx.below; rw [h]; rfl
  rw [hb]
  have key : ∀ k, Cx.varsTo l (List.replicate l.length false) k = [] := by
    intro k
    induction k with
    | zero => rfl
    | succ k ih =>
      rw [Cx.varsTo_succ, ih]
      unfold Cx.varsStep
      have : (List.replicate l.length false).getD k false = false := by rw [List.getD_eq_getElem?_getD, List.getElem?_replicate]; split <;> rfl
      rw [this]; rfl
  exact key _
theorem ns_nil (w : World) : Ns w none 0 [] := ⟨fun h => absurd rfl h, Nat.le_refl _, by unfold maxLen; omega, fun _ => ⟨rfl, rfl⟩⟩
set_option maxHeartbeats 1000000 in
theorem cvars_own (A : Option Addr) (c : Nat) (l : List N) (n : Int) (w : World) (hg : Cx.Good l) (hl : l.length ≤ 20000) (hA : Circ w A l) :
    Calls Tryz.prog 32 #[.slice A l.length c, .int .i64 n] w (NumsOwn (Cx.vars l n) w) := by
  by_cases h1 : n < 0
  · have d1 : decide (n < 0) = true := by simpa using h1
    have HR := Lib.hid (show Cx.vars l n = [] from vars_out (by unfold Cx.isIn; simp; omega))
    go_enter Tryz.func32, Tryz.ntmps32
    go_wp2_with fail
    go_ret
    exact ⟨_, rfl, by rw [HR.out]; exact World.ownsRow_nil _ _ _ _, Below.refl _ _⟩
  · have d1 : decide (n < 0) = false := by simpa using h1
    by_cases h2 : (l.length : Int) ≤ n
    · have d2 : decide ((l.length : Int) ≤ n) = true := by simpa using h2
      have HR := Lib.hid (show Cx.vars l n = [] from vars_out (by unfold Cx.isIn; simp; omega))
      go_enter Tryz.func32, Tryz.ntmps32
      go_wp2_with fail
      go_ret
      exact ⟨_, rfl, by rw [HR.out]; exact World.ownsRow_nil _ _ _ _, Below.refl _ _⟩
    · obtain ⟨i, rfl⟩ : ∃ i : Nat, n = i := ⟨n.toNat, by omega⟩
      exact cvars_any A c l i w hg hl (by omega) hA
theorem cvars_all (A : Option Addr) (c : Nat) (l : List N) (n : Int) (w : World) (hg : Cx.Good l) (hl : l.length ≤ 20000) (hA : Circ w A l) :
    Calls Tryz.prog 32 #[.slice A l.length c, .int .i64 n] w (NumsOut (Cx.vars l n) w) :=
  (cvars_own A c l n w hg hl hA).mono fun _ _ h => h.out
end Go.Proofs.YtphmicbpkljmfaaGreat
