/- A region that draws its order among its first operations and ends in operations that each wait for all before: the first ones each once, the rest as a list. No program in sight. -/
import Derived.Test.YtpcmlkpnjimbiaaDoorInv4
import Derived.Test.YtpcmlkpnjimbiaaDoorPRec0
import Derived.Test.YtpcmlkpnjimbiaaDoorPApp
import Derived.Test.YtpcmlkpnjimbiaaDoorPHeadW
import Derived.Test.YtpcmlkpnjimbiaaDoorRefLex
namespace Go.Proofs.YtpcmlkpnjimbiaaDoor
set_option linter.unusedVariables false
set_option linter.unusedSimpArgs false
open Go.RowKit
theorem wp_region_split {P : Program} {Q : Exit → Act → World → Prop} {id : Nat} {a : Act} {w : World} {l : List Oper} (m : Nat) (F : (Nat → Value) → Act) (J : World → Prop) (R : World → World → Prop) (Ts : List (Value → World → Prop))
  (hF : ∀ v, over a l 0 v = F v) (hm : P.follows .mixedOrders = true) (ht : tidy l.toArray = true) (hd : apartDst l = true) (hlen : m < l.length) (hall : ((List.range l.length).all fun t => decide (t < m) || (List.range t).all fun j => behind l.toArray l.toArray.size t j) = true)
  (hJ : J w.drew) (hT : ∀ T ∈ Ts, Lasting J R T)
  (hops : asksAll P l.toArray Q F (startOf a l) Ts J R (l.take m) 0)
  (htail : ∀ v w, Hid (J w) → Hid (∀ i, i < m → tok Ts i (v i) w) → wpList P l.toArray Q (l.drop m) (F v) w) : (Code.region id l.toArray true).wp P Q a w := by
 have hT' : ∀ i, Lasting J R (tok Ts i) := by
  intro i
  unfold tok
  rw [List.getD_eq_getElem?_getD]
  cases h : Ts[i]? with
  | none => exact lasting_free
  | some T => exact hT T (List.mem_of_getElem? h)
 have hbt : ∀ t, m ≤ t → t < l.length → ∀ j, j < t → behind l.toArray l.toArray.size t j = true := fun t h1 h2 j hj => by
  rw [List.all_eq_true] at hall
  have := hall t (List.mem_range.2 h2)
  rw [Bool.or_eq_true] at this
  rcases this with h | h
  ·have := of_decide_eq_true h; omega
  ·rw [List.all_eq_true] at h
   exact h j (List.mem_range.2 hj)
 have hsz : l.toArray.size = l.length := by simp
 refine wp_region_any hm ?_
 refine wpAny_each ht (fun L a' w' => ((∀ t, m ≤ t → t < l.length → L t = false) ∧ J w' ∧ ∃ v, a' = F v ∧ (∀ i, i < m → L i = true → tok Ts i (v i) w') ∧ ∀ i, i < l.length → L i = false → v i = startOf a l i) ∨ (∃ t, m < t ∧ t ≤ l.length ∧ (∀ j, j < t → L j = true) ∧ (∀ j, t ≤ j → j < l.length → L j = false) ∧ wpList P l.toArray Q (l.drop t) a' w')) ?_ ?_ _ _ _ _ (by simp) ⟨fun i j h => ?_⟩ ?_ ?_
 ·rintro i L a' w' hi hL hLi hdep hI
  have hil : i < l.length := by simpa using hi
  have ho1 : l[i]? = some l[i] := List.getElem?_eq_getElem hil
  have ho' : l.toArray[i]? = some l[i] := by simp
  have step : ∀ a2 w2, wpList P l.toArray Q (l.drop i) a2 w2 → m ≤ i → (∀ j, j < i → L j = true) → (∀ j, i ≤ j → j < l.length → L j = false) → wpOp P l.toArray Q i (fun a3 w3 => ((∀ t, m ≤ t → t < l.length → mark L i t = false) ∧ J w3 ∧ ∃ v, a3 = F v ∧ (∀ k, k < m → mark L i k = true → tok Ts k (v k) w3) ∧ ∀ k, k < l.length → mark L i k = false → v k = startOf a l k) ∨ (∃ t, m < t ∧ t ≤ l.length ∧ (∀ j, j < t → mark L i j = true) ∧ (∀ j, t ≤ j → j < l.length → mark L i j = false) ∧ wpList P l.toArray Q (l.drop t) a3 w3)) a2 w2 := by
   intro a2 w2 hw2 hmi hLb hLj
   have hdr : l.drop i = l[i] :: l.drop (i + 1) := List.drop_eq_getElem_cons hil
   rw [hdr] at hw2
   have hw : wpOp P l.toArray Q i (wpList P l.toArray Q (l.drop (i + 1))) a2 w2 := by unfold wpOp; simp only [ho']; exact hw2
   refine wpOp_mono (fun a3 w3 h => Or.inr ⟨i + 1, by omega, by omega, fun j hj => ?_, fun j hj1 hj2 => ?_, h⟩) hw
   ·unfold mark
    rw [Bool.or_eq_true]
    rcases Nat.lt_or_ge j i with h5 | h5
    ·exact Or.inl (hLb j h5)
    ·exact Or.inr (decide_eq_true (by omega))
   ·unfold mark
    rw [hLj j (by omega) hj2, Bool.false_or]
    exact decide_eq_false (by omega)
  rcases hI with ⟨hLm, hb', v, rfl, hv, hs⟩ | ⟨t, ht1, ht2, ht4, ht3, hq⟩
  ·by_cases him : i < m
   ·unfold wpOp
    rw [ho']
    simp only
    have hot : (l.take m)[i]? = some l[i] := by rw [List.getElem?_take, if_pos him]; exact ho1
    have hstep := asksAll_at hops hot v w' hb' (fun j hj => by
     rw [Nat.zero_add] at hj
     have h1 : j < i := by
      have := behind_less ht _ _ _ hj
      exact this
     exact hv j (by omega) (hdep j hj)) (fun j hj => by
     rw [Nat.zero_add] at hj
     have hjl := behind_lt' ht _ _ _ hj
     refine hs j (by simpa using hjl) ?_
     cases hLj : L j with
     | false => rfl
     | true =>
      have := hL.behind _ j i (fun k hk => hL.down j k hLj hk) hj
      rw [hLi] at this; cases this) (fun a3 w3 => ((∀ t, m ≤ t → t < l.length → mark L i t = false) ∧ J w3 ∧ ∃ v, a3 = F v ∧ (∀ k, k < m → mark L i k = true → tok Ts k (v k) w3) ∧ ∀ k, k < l.length → mark L i k = false → v k = startOf a l k) ∨ (∃ t, m < t ∧ t ≤ l.length ∧ (∀ j, j < t → mark L i j = true) ∧ (∀ j, t ≤ j → j < l.length → mark L i j = false) ∧ wpList P l.toArray Q (l.drop t) a3 w3)) (fun x w2 hJ2 hb2 hx => by
     refine Or.inl ⟨fun t h1 h2 => ?_, hJ2, vset v i x, ?_, ?_, ?_⟩
     ·unfold mark; rw [hLm t h1 h2, Bool.false_or]; exact decide_eq_false (by omega)
     ·rw [← hF, ← hF, over_put a l 0 v i _ x hd ho1, Nat.zero_add]
     ·intro k hk hmk
      unfold vset
      by_cases e : k = i
      ·rw [if_pos e, e]; rw [Nat.zero_add] at hx; exact hx
      ·rw [if_neg e]
       unfold mark at hmk
       rw [Bool.or_eq_true] at hmk
       rcases hmk with h | h
       ·exact hT' k _ _ _ hb' hb2 (hv k hk h)
       ·exact absurd (by simpa using h) e
     ·intro k hk hmk
      unfold mark at hmk
      rw [Bool.or_eq_false_iff] at hmk
      unfold vset
      rw [if_neg (by simpa using hmk.2)]
      exact hs k hk hmk.1)
    split
    ·rename_i hw; rw [if_pos hw] at hstep; exact Or.inl hstep
    ·rename_i hw; rw [if_neg hw] at hstep; exact hstep
   ·have him2 : i = m := by
     rcases Nat.lt_or_ge m i with h | h
     ·have := hdep m (hbt i (by omega) hil m h)
      rw [hLm m (Nat.le_refl _) hlen] at this
      cases this
     ·omega
    subst him2
    exact step _ _ (htail v w' hb' fun j hj => hv j hj (hdep j (hbt i (Nat.le_refl _) hil j hj))) (Nat.le_refl _) (fun j hj => hdep j (hbt i (Nat.le_refl _) hil j hj)) hLm
  ·have hti : i = t := by
    rcases Nat.lt_or_ge i t with h | h
    ·have := ht4 i h
     rw [hLi] at this; cases this
    ·rcases Nat.lt_or_ge t i with h4 | h4
     ·have := hdep t (hbt i (by omega) hil t h4)
      rw [ht3 t (Nat.le_refl _) (by omega)] at this
      cases this
     ·omega
   subst hti
   exact step _ _ hq (by omega) ht4 ht3
 ·rintro L a' w' hall2 hI
  rcases hI with ⟨hLm, _⟩ | ⟨t, ht1, ht2, ht4, ht3, hq⟩
  ·have := hall2 m (by omega)
   rw [hLm m (Nat.le_refl _) hlen] at this; cases this
  ·have : t = l.length := by
    rcases Nat.lt_or_ge t l.length with h | h
    ·have h2 := hall2 t (by omega)
     rw [ht3 t (Nat.le_refl _) h] at h2; cases h2
    ·omega
   subst this
   rw [List.drop_length] at hq
   exact hq
 ·intro hw
  have h1 := (waits_lt ht hw)
  exfalso
  have : (Array.replicate l.toArray.size false).getD i true = false := by
   have := h1.2
   simp [Array.getD] at this ⊢
   omega
  rw [this] at h
  cases h
 ·have := List.length_filter_le (fun i => !(Array.replicate l.toArray.size false).getD i true) (List.range l.toArray.size)
  simpa using this
 ·refine Or.inl ⟨fun t h1 h2 => by simp [Array.getD]; omega, hJ, startOf a l, ?_, ?_, fun i _ _ => rfl⟩
  ·rw [← hF, over_start]
   intro i o ho
   unfold startOf
   rw [Nat.zero_add, ho]
   rfl
  ·intro i hi h
   exfalso
   simp [Array.getD, show i < l.length by omega] at h
end Go.Proofs.YtpcmlkpnjimbiaaDoor
namespace Go.Proofs.YtpcmlkpnjimbiaaDoor
set_option linter.unusedVariables false
set_option linter.unusedSimpArgs false
theorem parse_to {s : List UInt8} {f g : Int → Int} (h : ∀ p : Nat, p ≤ s.length → f (p : Int) = g (p : Int)) : (parseP s).to f = (parseP s).to g := by
 by_cases h0 : (Lx.lex s).2.1 = 0
 ·rw [parseP_of h0, Ap.of_to, Ap.of_to]
  refine congrArg (Ap.of · _) (funext fun k => ?_)
  obtain ⟨p, hp, hle⟩ := offI_le h0 k
  rw [hp]
  exact h p hle
 ·have e : parseP s = pg0 := by unfold parseP; exact if_neg h0
  rw [e]
  rfl
theorem parse_diags {s : List UInt8} (h0 : (Lx.lex s).2.1 = 0) : (parseD s).length ≤ 4000 ∧ ∀ d ∈ parseD s, ∃ p : Nat, d.2 = (p : Int) ∧ p ≤ s.length := by
 rw [parseD_of h0]
 refine ⟨?_, fun d hd => ?_⟩
 ·rw [List.length_map]
  have : ∀ (f nd : Nat) (ts : List Px.Kt) (i : Nat), (Px.run f nd ts i).2.length ≤ f := fun f => by
   induction f with
   | zero => intro nd ts i; exact Nat.le_refl _
   | succ f ih =>
    intro nd ts i
    unfold Px.run
    split
    ·split
     ·exact Nat.le_succ_of_le (ih _ _ _)
     ·simp only [List.length_cons]
      exact Nat.succ_le_succ (ih _ _ _)
    ·exact Nat.zero_le _
  exact this 4000 0 _ 0
 ·obtain ⟨k, hk, rfl⟩ := List.mem_map.1 hd
  exact offI_le h0 k
end Go.Proofs.YtpcmlkpnjimbiaaDoor
namespace Go.Proofs.YtpcmlkpnjimbiaaDoor
set_option linter.unusedVariables false
set_option linter.unusedSimpArgs false
open Go.RowKit
namespace parserConcat
def AgT (Q : Ap.Pg) : Value → World → Prop := fun x W => ∃ l f p r, x = .agg #[l, f, p, r] ∧ PgR W l f p r Q
theorem agT_on {J : World → Prop} (Q : Ap.Pg) : Lasting J Onward (AgT Q) := fun x w w' _ hb ⟨l, f, p, r, e, h⟩ => ⟨l, f, p, r, e, h.next hb⟩
def NewD (a b : Int) : Value → World → Prop := fun x W => ∃ g, x = .slice (some ⟨g, 0, none⟩) 1 1 ∧ At W g 43 #[.int .i64 a, .int .i64 b]
theorem newD_on {J : World → Prop} (a b : Int) : Lasting J Onward (NewD a b) := fun x w w' _ hb ⟨g, e, h⟩ => ⟨g, e, h.next hb⟩
theorem rlex_c {s : ByteArray} (w : World) (hm : s.size ≤ 9223372036854775807) :
  Calls Tryd.prog 9 #[.string s] w fun e w' => ∃ (A : Option Addr) (n c : Nat) (m : Int), e = .returned (.tuple #[.slice A n c, .int .i64 (Lx.lex s.data.toList).2.1, .int .i64 m]) ∧ Below w.heap.size w w' := by
 refine (rlex_any s w hm).mono ?_
 intro e w' h
 unfold Lexed at h
 obtain ⟨A, c, h1, _, h2⟩ := h
 exact ⟨A, _, c, _, h1, h2⟩
theorem app_data (a b : ByteArray) : (a ++ b).data.toList = a.data.toList ++ b.data.toList := by simp
theorem app_size (a b : ByteArray) : (a ++ b).size = a.size + b.size := ByteArray.size_append
theorem same_fit {P : Ap.Pg} (hF : Ap.Fit 900000 P) (l f p r l' f' p' r' : Value) (w : World) (h : PgR w l f p r P) (h' : PgR w l' f' p' r' P) :
  Calls Tryd.prog 12 #[.agg #[l, f, p, r], .agg #[l', f', p', r']] w fun e w' => e = .returned (.bool true) ∧ Below w.heap.size w w' :=
 pg_same P l f p r l' f' p' r' w (by have := hF.lens; omega) hF.lats hF.funs hF.preds (fun x hx => ⟨by have := (hF.rules x hx).1; omega, (hF.rules x hx).2⟩) h h'
theorem dg_snoc (ds : List (Int × Int)) (d : Int × Int) : ds.flatMap dgFs ++ [.int .i64 d.1, .int .i64 d.2] = (ds ++ [d]).flatMap dgFs := by simp [dgFs]
theorem diag_info : (Tryd.prog.info? 43).map (fun i => (i.zero, i.size, i.bytes)) = some (some (.agg #[.int .i64 0, .int .i64 0]), 2, 16) := by kernel_rfl
set_option maxHeartbeats 8000000 in
set_option maxRecDepth 100000 in
theorem law_walk (a b : ByteArray) (w : World) (h : Env w) (ha : a.size ≤ 281474976710656) (hb : b.size ≤ 281474976710656) :
  Calls Tryd.prog 4 #[.string a, .string b] w fun e w' => e = .returned (.bool true) ∧ Below w.heap.size w w' := by
 have hz1 : ¬ 9223372036854775807 < a.size + 1 := by omega
 have hz2 : ¬ 9223372036854775807 < a.size + 1 + b.size := by omega
 have HH := Lib.hid (phead_any w h)
 have HENV := Lib.hid h
 clear h
 obtain ⟨S, hS⟩ : ∃ S : ByteArray, a ++ ⟨#[10]⟩ ++ b = S := ⟨_, rfl⟩
 have hSs : S.size = a.size + 1 + b.size := by rw [← hS, app_size, app_size]; rfl
 have HSD : Hid (S.data.toList = a.data.toList ++ 10 :: b.data.toList) := Lib.hid (by rw [← hS, app_data, app_data]; simp)
 have HS := Lib.hid hS
 have HSS := Lib.hid hSs
 clear hS
 obtain ⟨er1, her1⟩ : ∃ er1, (Lx.lex (a.data.toList ++ 10 :: b.data.toList)).2.1 = er1 := ⟨_, rfl⟩
 obtain ⟨er2, her2⟩ : ∃ er2, (Lx.lex b.data.toList).2.1 = er2 := ⟨_, rfl⟩
 obtain ⟨da, hda⟩ : ∃ da, parseD a.data.toList = da := ⟨_, rfl⟩
 obtain ⟨Qa, hQa⟩ : ∃ Qa, parseP a.data.toList = Qa := ⟨_, rfl⟩
 obtain ⟨Qb, hQb⟩ : ∃ Qb, parseP b.data.toList = Qb := ⟨_, rfl⟩
 have HE1 := Lib.hid her1
 have HE2 := Lib.hid her2
 have HDA := Lib.hid hda
 have HQA := Lib.hid hQa
 have HQB := Lib.hid hQb
 obtain ⟨nd, hnd⟩ : ∃ nd, da.length = nd := ⟨_, rfl⟩
 have HND := Lib.hid hnd
 clear her1 her2 hda hnd hQa hQb hSs
 go_enter Tryd.func4, Tryd.ntmps4
 go_wp2_with (go_at_call 8; refine (HH.out).mono ?_; rintro e w1 ⟨rfl, bb⟩; clear HH)
 ·go_ret
  exact ⟨rfl, bb⟩
 ·have hlen : (a.size : Int) + 1 + (b.size : Int) ≤ 9000 := by assumption
  have ha9 : a.size ≤ 9000 := by omega
  have hb9 : b.size ≤ 9000 := by omega
  have hS9 : S.size ≤ 1000000 := by rw [HSS.out]; omega
  obtain ⟨by1, hby⟩ : ∃ by1 : Nat, a.size + 1 = by1 := ⟨_, rfl⟩
  have HBY := Lib.hid hby
  have wby : IntKind.i64.wrap ((a.size : Int) + 1) = (by1 : Int) := by rw [IntWalk.i64_in _ (by omega)]; omega
  clear hby
  rw [HS.out]
  have HLX := Lib.hid (fun (_ : Nat) => rlex_c (s := S) w1 (Nat.le_trans hS9 (by decide)))
  rw [HSD.out, HE1.out] at HLX
  go_wp2_with (go_at_call 9; refine (HLX.out 0).mono ?_; rintro e w2 ⟨LA1, ln1, lc1, lm1, rfl, hb2⟩; replace bb := bb.trans (hb2.mono bb.size); clear HLX)
  have HLX := Lib.hid (fun (_ : Nat) => rlex_c (s := b) w2 (Nat.le_trans hb9 (by decide)))
  rw [HE2.out] at HLX
  go_wp2_with (go_at_call 9; refine (HLX.out 0).mono ?_; rintro e w3 ⟨LA2, ln2, lc2, lm2, rfl, hb3⟩; replace bb := bb.trans (hb3.mono bb.size); clear HLX)
  have HC := Lib.hid (fun (_ : Nat) => parse_env a w3 (HENV.out.below bb) (by omega))
  go_wp2_with (go_at_call 11; refine (HC.out 0).mono ?_; rintro e w4 ⟨hbw4, lw4, fw4, pw4, rw4, dw4, rfl, hPw4, hDw4⟩; rw [HQA.out] at hPw4; rw [HDA.out] at hDw4; obtain ⟨qaA, qaC, rfl⟩ := hPw4.lats.slice; obtain ⟨qbA, qbC, rfl⟩ := hPw4.funs.slice; obtain ⟨qcA, qcC, rfl⟩ := hPw4.preds.slice; obtain ⟨qdA, qdC, rfl⟩ := hPw4.rules.slice; obtain ⟨qeA, qeC, qev⟩ := TRow.slice hDw4; rw [HND.out] at qev; subst qev; replace bb := bb.trans (hbw4.mono bb.size); clear HC)
  ·go_ret
   exact ⟨rfl, bb.trans ((below1 _ _).mono bb.size)⟩
  ·have e1 : er1 = 0 := by assumption
   have e0 : nd = 0 := by assumption
   have e2 : er2 = 0 := by simpa using (show (er2 != 0) = false by assumption)
   have hda0 : parseD a.data.toList = [] := List.eq_nil_of_length_eq_zero (by rw [HDA.out, HND.out]; exact e0)
   have hl2 : (Lx.lex b.data.toList).2.1 = 0 := by rw [HE2.out]; exact e2
   obtain ⟨hPS, hDS⟩ := parse_cat hda0 hl2 (by rw [HE1.out]; exact e1)
   obtain ⟨hdl, hdp⟩ := parse_diags hl2
   rw [size_len] at hPS hDS
   rw [show (a.size : Int) + 1 = (by1 : Int) by have := HBY.out; omega] at hPS hDS
   rw [parse_to (g := fun z => wrap64 (z + (by1 : Int))) (fun p hp => by rw [size_len] at hp; have := HBY.out; unfold wrap64; omega), HQA.out, HQB.out] at hPS
   obtain ⟨db, hdb⟩ : ∃ db, parseD b.data.toList = db := ⟨_, rfl⟩
   rw [hdb] at hDS hdl hdp
   have hfb : Ap.Fit 4000 Qb := by rw [← HQB.out]; exact parse_fit _
   have hfa : Ap.Fit 4000 Qa := by rw [← HQA.out]; exact parse_fit _
   have HFA := Lib.hid hfa
   have HFB := Lib.hid hfb
   have HPS := Lib.hid hPS
   have HDS := Lib.hid hDS
   have HDB := Lib.hid hdb
   have HDP := Lib.hid hdp
   obtain ⟨iD, hi0, hi1, hi2, hi3⟩ := info_parts diag_info
   clear hPS hDS hdb hdp hfa hfb hda0 hl2 e0 e1 e2
   have x13 := At.new w4 34 #[.slice qaA Qa.lats.length qaC, .slice qbA Qa.funs.length qbC, .slice qcA Qa.preds.length qcC, .slice qdA Qa.rules.length qdC]
   have hc := below1 w4 (.cells #[.slice qaA Qa.lats.length qaC, .slice qbA Qa.funs.length qbC, .slice qcA Qa.preds.length qcC, .slice qdA Qa.rules.length qdC] 34)
   generalize hwb : w4.alloc (.cells #[.slice qaA Qa.lats.length qaC, .slice qbA Qa.funs.length qbC, .slice qcA Qa.preds.length qcC, .slice qdA Qa.rules.length qdC] 34) = w4b at x13 hc ⊢
   clear hwb
   replace bb := bb.trans (hc.mono bb.size)
   have HPA := Lib.hid (hPw4.next hc); have HX13 := Lib.hid x13; clear x13 hPw4 hDw4 hc hbw4
   have HC := Lib.hid (fun (_ : Nat) => parse_env b w4b (HENV.out.below bb) (by omega))
   go_wp2_with (go_at_call 11; refine (HC.out 0).mono ?_; rintro e w5 ⟨hbw5, lw5, fw5, pw5, rw5, dw5, rfl, hPw5, hDw5⟩; rw [HQB.out] at hPw5; rw [HDB.out] at hDw5; obtain ⟨saA, saC, rfl⟩ := hPw5.lats.slice; obtain ⟨sbA, sbC, rfl⟩ := hPw5.funs.slice; obtain ⟨scA, scC, rfl⟩ := hPw5.preds.slice; obtain ⟨sdA, sdC, rfl⟩ := hPw5.rules.slice; obtain ⟨seA, seC, sev⟩ := TRow.slice hDw5; subst sev; replace bb := bb.trans (hbw5.mono bb.size); clear HC)
   have x15 := At.new w5 34 #[.slice saA Qb.lats.length saC, .slice sbA Qb.funs.length sbC, .slice scA Qb.preds.length scC, .slice sdA Qb.rules.length sdC]
   have hc := below1 w5 (.cells #[.slice saA Qb.lats.length saC, .slice sbA Qb.funs.length sbC, .slice scA Qb.preds.length scC, .slice sdA Qb.rules.length sdC] 34)
   generalize hwb : w5.alloc (.cells #[.slice saA Qb.lats.length saC, .slice sbA Qb.funs.length sbC, .slice scA Qb.preds.length scC, .slice sdA Qb.rules.length sdC] 34) = w5b at x15 hc ⊢
   clear hwb
   replace bb := bb.trans (hc.mono bb.size)
   have HB5 := Lib.hid (hbw5.trans (hc.mono hbw5.size)); have HPB := Lib.hid (hPw5.next hc); have HX15 := Lib.hid x15; have HDB5 := Lib.hid (TRow.below hDw5 hc); clear x15 hPw5 hDw5 hc hbw5
   obtain ⟨QS, hQS⟩ : ∃ QS, Qa.app (Qb.to (fun z => wrap64 (z + (by1 : Int)))) = QS := ⟨_, rfl⟩
   rw [hQS] at HPS
   have HQS := Lib.hid hQS
   clear hQS
   have HC := Lib.hid (fun (_ : Nat) => parse_env S w5b (HENV.out.below bb) hS9)
   go_wp2_with (go_at_call 11; refine (HC.out 0).mono ?_; rintro e w6 ⟨hbw6, lw6, fw6, pw6, rw6, dw6, rfl, hPw6, hDw6⟩; rw [HSD.out, HPS.out] at hPw6; rw [HSD.out, HDS.out] at hDw6; obtain ⟨taA, taC, rfl⟩ := hPw6.lats.slice; obtain ⟨tbA, tbC, rfl⟩ := hPw6.funs.slice; obtain ⟨tcA, tcC, rfl⟩ := hPw6.preds.slice; obtain ⟨tdA, tdC, rfl⟩ := hPw6.rules.slice; obtain ⟨teA, teC, tev⟩ := TRow.slice hDw6; subst tev; replace bb := bb.trans (hbw6.mono bb.size); clear HC)
   have x17 := At.new w6 34 #[.slice taA QS.lats.length taC, .slice tbA QS.funs.length tbC, .slice tcA QS.preds.length tcC, .slice tdA QS.rules.length tdC]
   have hc := below1 w6 (.cells #[.slice taA QS.lats.length taC, .slice tbA QS.funs.length tbC, .slice tcA QS.preds.length tcC, .slice tdA QS.rules.length tdC] 34)
   generalize hwb : w6.alloc (.cells #[.slice taA QS.lats.length taC, .slice tbA QS.funs.length tbC, .slice tcA QS.preds.length tcC, .slice tdA QS.rules.length tdC] 34) = w6b at x17 hc ⊢
   clear hwb
   replace bb := bb.trans (hc.mono bb.size)
   have HB6 := Lib.hid (hbw6.trans (hc.mono hbw6.size)); have HPSM := Lib.hid (hPw6.next hc); have HX17 := Lib.hid x17; have HDS6 := Lib.hid (TRow.below hDw6 hc)
   clear x17 hPw6 hDw6 hc hbw6
   have hdb6 : DgR w6b (.slice seA db.length seC) db := TRow.below HDB5.out HB6.out
   have HD6 := Lib.hid hdb6
   have HBB := Lib.hid bb
   clear hdb6 bb
   go_wp2_with fail
   go_loopw [20, 21] (fun v i wr => ∃ (k : Nat), k ≤ db.length ∧ i = .int .i64 k ∧ wr.ownsRow w6b.heap.size 43 2 v k (((db.take k).map fun d => (d.1, d.2 + (by1 : Int))).flatMap dgFs) ∧ Below w6b.heap.size w6b wr) (fun _ i _ => db.length - (intOf i).toNat)
   case atStart => exact ⟨0, by omega, rfl, World.ownsRow_nil _ _ _ _, Below.refl _ _⟩
   case round =>
    obtain ⟨k, hk, rfl, ho, hbw⟩ := hrel
    obtain ⟨vA, vC, rfl⟩ := own_len ho
    obtain ⟨L, hL⟩ : ∃ L, (db.take k).map (fun d => (d.1, d.2 + (by1 : Int))) = L := ⟨_, rfl⟩
    rw [hL] at ho
    have HL := Lib.hid hL
    clear hL
    by_cases h1 : k < db.length
    ·obtain ⟨x, hx⟩ : ∃ x, db[k]? = some x := ⟨_, List.getElem?_eq_getElem h1⟩
     obtain ⟨g, og, oc, ee, hg, c0, c1⟩ := DgR.at (TRow.below HD6.out hbw) hx
     injection ee with ee e9 e3
     clear e9
     subst ee
     subst e3
     obtain ⟨p, hp, hpl⟩ := HDP.out x (List.mem_of_getElem? hx)
     rw [size_len] at hpl
     have wx : IntKind.i64.wrap (x.2 + (by1 : Int)) = x.2 + (by1 : Int) := by
      rw [hp]
      exact IntWalk.i64_in _ (by have := HBY.out; omega)
     have e0 := c0
     have e1 := c1
     have i0 : (0 : Int) ≤ (k : Int) := by omega
     have i1 : (k : Int) < (db.length : Int) := by omega
     have dk : decide ((k : Int) < (db.length : Int)) = true := decide_eq_true i1
     have HXX := Lib.hid hx
     have HOO := Lib.hid ho
     have HBW := Lib.hid hbw
     clear hx c0 c1 hp hpl ho hbw
     go_wp2_with fail
     refine' wp_region_split 15 _ (Below wr.heap.size wr) (Onward) (Vl :: Vl :: Vl :: Vl :: Vl :: Vl :: Vl :: Vl :: Vl :: Vl :: Vl :: Vl :: Vl :: Vl :: NewD x.1 (x.2 + (by1 : Int)) :: []) ?hF (by kernel_rfl) (by kernel_rfl) (by kernel_rfl) (of_decide_eq_true (by kernel_rfl)) (by kernel_rfl) ((Below.refl _ _).drew) (lasting_cons (lasting_vl) (lasting_cons (lasting_vl) (lasting_cons (lasting_vl) (lasting_cons (lasting_vl) (lasting_cons (lasting_vl) (lasting_cons (lasting_vl) (lasting_cons (lasting_vl) (lasting_cons (lasting_vl) (lasting_cons (lasting_vl) (lasting_cons (lasting_vl) (lasting_cons (lasting_vl) (lasting_cons (lasting_vl) (lasting_cons (lasting_vl) (lasting_cons (lasting_vl) (lasting_cons (newD_on _ _) (lasting_none)))))))))))))))) ?hops ?htail
     case hF => (intro v; simp only [over, Act.put, List.setIfInBounds_toArray, List.set_cons_zero, List.set_cons_succ, Nat.zero_add, Nat.reduceAdd]; exact rfl)
     case hops =>
      refine ⟨?_, ?_⟩
      ·intro v w' hj hd hs K hK
       have s16 : v 16 = Value.slice vA k vC := hs.out 16 (by kernel_rfl)
       have hk := hK.out
       simp only [s16, Act.put, List.setIfInBounds_toArray, List.set_cons_zero, List.set_cons_succ] at hk
       have HK := Lib.hid hk
       clear hd hs hk hK
       go_simp
       exact HK.out _ _ hj.out (Below.refl _ _) (show _ = _ from rfl)
      refine ⟨?_, ?_⟩
      ·intro v w' hj hd hs K hK
       have hk := hK.out
       simp only [Act.put, List.setIfInBounds_toArray, List.set_cons_zero, List.set_cons_succ] at hk
       have HK := Lib.hid hk
       clear hd hs hk hK
       go_simp
       exact HK.out _ _ hj.out (Below.refl _ _) (show _ = _ from rfl)
      refine ⟨?_, ?_⟩
      ·intro v w' hj hd hs K hK
       have hk := hK.out
       simp only [Act.put, List.setIfInBounds_toArray, List.set_cons_zero, List.set_cons_succ] at hk
       have HK := Lib.hid hk
       clear hd hs hk hK
       go_simp
       exact HK.out _ _ hj.out (Below.refl _ _) (show _ = _ from rfl)
      refine ⟨?_, ?_⟩
      ·intro v w' hj hd hs K hK
       have t1 : v 1 = _ := hd.out 1 (by kernel_rfl)
       have t2 : v 2 = _ := hd.out 2 (by kernel_rfl)
       have hk := hK.out
       simp only [t1, t2, Act.put, List.setIfInBounds_toArray, List.set_cons_zero, List.set_cons_succ] at hk
       have HK := Lib.hid hk
       clear hd hs hk hK
       go_simp
       exact HK.out _ _ hj.out (Below.refl _ _) (show _ = _ from rfl)
      refine ⟨?_, ?_⟩
      ·intro v w' hj hd hs K hK
       have t3 : v 3 = _ := hd.out 3 (by kernel_rfl)
       have hk := hK.out
       simp only [t3, Act.put, List.setIfInBounds_toArray, List.set_cons_zero, List.set_cons_succ] at hk
       have HK := Lib.hid hk
       clear hd hs hk hK
       go_simp
       exact HK.out _ _ hj.out (Below.refl _ _) (show _ = _ from rfl)
      refine ⟨?_, ?_⟩
      ·intro v w' hj hd hs K hK
       have t4 : v 4 = _ := hd.out 4 (by kernel_rfl)
       have yy := next_cell e0 hj.out
       have hk := hK.out
       simp only [t4, Act.put, List.setIfInBounds_toArray, List.set_cons_zero, List.set_cons_succ] at hk
       have HK := Lib.hid hk
       clear hd hs hk hK
       go_simp
       exact HK.out _ _ hj.out (Below.refl _ _) (show _ = _ from rfl)
      refine ⟨?_, ?_⟩
      ·intro v w' hj hd hs K hK
       have hk := hK.out
       simp only [Act.put, List.setIfInBounds_toArray, List.set_cons_zero, List.set_cons_succ] at hk
       have HK := Lib.hid hk
       clear hd hs hk hK
       go_simp
       exact HK.out _ _ hj.out (Below.refl _ _) (show _ = _ from rfl)
      refine ⟨?_, ?_⟩
      ·intro v w' hj hd hs K hK
       have hk := hK.out
       simp only [Act.put, List.setIfInBounds_toArray, List.set_cons_zero, List.set_cons_succ] at hk
       have HK := Lib.hid hk
       clear hd hs hk hK
       go_simp
       exact HK.out _ _ hj.out (Below.refl _ _) (show _ = _ from rfl)
      refine ⟨?_, ?_⟩
      ·intro v w' hj hd hs K hK
       have t6 : v 6 = _ := hd.out 6 (by kernel_rfl)
       have t7 : v 7 = _ := hd.out 7 (by kernel_rfl)
       have hk := hK.out
       simp only [t6, t7, Act.put, List.setIfInBounds_toArray, List.set_cons_zero, List.set_cons_succ] at hk
       have HK := Lib.hid hk
       clear hd hs hk hK
       go_simp
       exact HK.out _ _ hj.out (Below.refl _ _) (show _ = _ from rfl)
      refine ⟨?_, ?_⟩
      ·intro v w' hj hd hs K hK
       have t8 : v 8 = _ := hd.out 8 (by kernel_rfl)
       have hk := hK.out
       simp only [t8, Act.put, List.setIfInBounds_toArray, List.set_cons_zero, List.set_cons_succ] at hk
       have HK := Lib.hid hk
       clear hd hs hk hK
       go_simp
       exact HK.out _ _ hj.out (Below.refl _ _) (show _ = _ from rfl)
      refine ⟨?_, ?_⟩
      ·intro v w' hj hd hs K hK
       have t9 : v 9 = _ := hd.out 9 (by kernel_rfl)
       have yy := next_cell e1 hj.out
       have hk := hK.out
       simp only [t9, Act.put, List.setIfInBounds_toArray, List.set_cons_zero, List.set_cons_succ] at hk
       have HK := Lib.hid hk
       clear hd hs hk hK
       go_simp
       exact HK.out _ _ hj.out (Below.refl _ _) (show _ = _ from rfl)
      refine ⟨?_, ?_⟩
      ·intro v w' hj hd hs K hK
       have hk := hK.out
       simp only [Act.put, List.setIfInBounds_toArray, List.set_cons_zero, List.set_cons_succ] at hk
       have HK := Lib.hid hk
       clear hd hs hk hK
       go_simp
       exact HK.out _ _ hj.out (Below.refl _ _) (show _ = _ from rfl)
      refine ⟨?_, ?_⟩
      ·intro v w' hj hd hs K hK
       have t10 : v 10 = _ := hd.out 10 (by kernel_rfl)
       have t11 : v 11 = _ := hd.out 11 (by kernel_rfl)
       have hk := hK.out
       simp only [t10, t11, Act.put, List.setIfInBounds_toArray, List.set_cons_zero, List.set_cons_succ] at hk
       have HK := Lib.hid hk
       clear hd hs hk hK
       go_simp
       exact HK.out _ _ hj.out (Below.refl _ _) (show _ = _ from rfl)
      refine ⟨?_, ?_⟩
      ·intro v w' hj hd hs K hK
       have t5 : v 5 = _ := hd.out 5 (by kernel_rfl)
       have t12 : v 12 = _ := hd.out 12 (by kernel_rfl)
       have hk := hK.out
       simp only [t5, t12, Act.put, List.setIfInBounds_toArray, List.set_cons_zero, List.set_cons_succ] at hk
       have HK := Lib.hid hk
       clear hd hs hk hK
       go_simp
       exact HK.out _ _ hj.out (Below.refl _ _) (show _ = _ from rfl)
      refine ⟨?_, ?_⟩
      ·intro v w' hj hd hs K hK
       have t13 : v 13 = _ := hd.out 13 (by kernel_rfl)
       have hk := hK.out
       simp only [t13, Act.put, List.setIfInBounds_toArray, List.set_cons_zero, List.set_cons_succ] at hk
       have HK := Lib.hid hk
       clear hd hs hk hK
       go_simp
       exact HK.out _ _ (hj.out.alloc hj.out.size _) (below1 _ _) ⟨_, rfl, At.new _ _ _⟩
      trivial
     case htail =>
      intro v w7 hj hd
      have t0 : v 0 = _ := hd.out 0 (of_decide_eq_true (by kernel_rfl))
      obtain ⟨b14, t14, a14⟩ : NewD x.1 (x.2 + (by1 : Int)) (v 14) w7 := hd.out 14 (of_decide_eq_true (by kernel_rfl))
      have ho7 := own_below HOO.out hj.out
      have hb7 : Below w6b.heap.size w6b w7 := HBW.out.trans (hj.out.mono HBW.out.size)
      have hs7 := hb7.size
      simp only [t0, t14, List.drop_succ_cons, List.drop_zero]
      clear hj hd t0 t14 e0 e1
      go_wp2_with (at_builtin; refine wpList_append_own _ rfl _ _ 35 rfl w6b.heap.size 43 iD (.agg #[.int .i64 0, .int .i64 0]) 2 16 Tryd.underlying35 hi0 hi1 hi2 hi3 rfl (by decide) _ _ _ rfl ho7 ⟨b14, 0, none⟩ 1 1 [.int .i64 x.1, .int .i64 (x.2 + (by1 : Int))] rfl rfl ?c1 ?c2 ?c3 ?c4 ?c5 ?_)
      case c1 => exact At.news (xs := [.int .i64 x.1, .int .i64 (x.2 + (by1 : Int))]) a14
      case c2 => intro u hu; simp at hu; rcases hu with rfl | rfl <;> rfl
      case c3 => unfold maxLen; omega
      case c4 => omega
      case c5 => omega
      intro v5 w8 o5 g5 _
      obtain ⟨nA, nC, rfl⟩ := own_len o5
      have hb8 : Below w6b.heap.size w6b w8 := hb7.grown g5 hs7 (fun q hq => (own_lt ho7 hq).1)
      rw [dg_snoc L (x.1, x.2 + (by1 : Int))] at o5
      have HO5 := Lib.hid o5
      clear o5 g5 ho7 hb7 hs7 a14
      go_wp2_with fail
      go_roundw
      case rel => exact ⟨k + 1, by omega, by go_num, (by rw [show (db.take (k + 1)).map (fun d => (d.1, d.2 + (by1 : Int))) = L ++ [(x.1, x.2 + (by1 : Int))] by rw [← HL.out, take_more HXX.out]; simp]; exact HO5.out), hb8⟩
      case measure => simp [intOf]; omega
    ·have dk : decide ((k : Int) < (db.length : Int)) = false := decide_eq_false (by omega)
     obtain rfl : k = db.length := by omega
     have hmv : DgR wr (.slice vA db.length vC) (db.map fun d => (d.1, d.2 + (by1 : Int))) := by
      have hLL := HL.out
      rw [List.take_of_length_le (Nat.le_refl _)] at hLL
      unfold DgR
      rw [List.length_map, hLL]
      exact TRow.of_own ho
     have hds := TRow.below HDS6.out hbw
     obtain ⟨DM, hDM⟩ : ∃ DM, (db.map fun d => (d.1, d.2 + (by1 : Int))) = DM := ⟨_, rfl⟩
     have hdml : DM.length = db.length := by rw [← hDM, List.length_map]
     rw [hDM] at hds hmv
     replace hds : DgR wr (.slice teA db.length teC) DM := by
      rw [hdml] at hds
      unfold DgR
      rw [hdml]
      exact hds
     have HDM := Lib.hid hDM
     have HDML := Lib.hid hdml
     clear hDM hdml
     have hb5r := HB6.out.trans (hbw.mono HB6.out.size)
     have hb4r := HB5.out.trans (hb5r.mono HB5.out.size)
     have x17 := HX17.out.next hbw
     have x15 := HX15.out.next hb5r
     have x13 := HX13.out.next hb4r
     have hpa := HPA.out.next hb4r
     have hpb := HPB.out.next hb5r
     have hps := HPSM.out.next hbw
     have HDG := Lib.hid (fun (W : World) (hb : Below wr.heap.size wr W) => diags_same _ _ DM W (by rw [HDML.out]; omega) (TRow.below hds hb) (TRow.below hmv hb))
     have HSH := Lib.hid (fun (W : World) (hb : Below wr.heap.size wr W) => shift_any Qb _ _ _ _ (by1 : Int) W (HFB.out.mono (by omega)) (hpb.next hb))
     have HAP := Lib.hid (fun (l f p r : Value) (W : World) (hb : Below wr.heap.size wr W) (hp : PgR W l f p r (Qb.to (fun z => wrap64 (z + (by1 : Int))))) => app_any Qa _ _ _ _ _ l f p r W (HFA.out.mono (by omega)) ((HFB.out.mono (by omega)).to _) (hpa.next hb) hp)
     have HSM := Lib.hid (fun (l f p r : Value) (W : World) (hb : Below wr.heap.size wr W) (hp : PgR W l f p r (Qa.app (Qb.to (fun z => wrap64 (z + (by1 : Int)))))) => same_fit (P := QS) (by rw [← HQS.out]; exact (HFA.out.app (HFB.out.to _)).mono (by omega)) _ _ _ _ l f p r W (hps.next hb) (by rw [← HQS.out]; exact hp))
     have us0 := x17.cell 0
     have us1 := x17.cell 1
     have us2 := x17.cell 2
     have us3 := x17.cell 3
     have ub0 := x15.cell 0
     have ub1 := x15.cell 1
     have ub2 := x15.cell 2
     have ub3 := x15.cell 3
     have ua0 := x13.cell 0
     have ua1 := x13.cell 1
     have ua2 := x13.cell 2
     have ua3 := x13.cell 3
     simp only [List.getElem?_toArray, List.getElem?_cons_zero, List.getElem?_cons_succ] at us0 us1 us2 us3 ua0 ua1 ua2 ua3 ub0 ub1 ub2 ub3
     have hfin := HBB.out.trans (hbw.mono HBB.out.size)
     have HFIN := Lib.hid hfin
     clear x17 x15 x13 hpa hpb hps hds hmv hb5r hb4r ho hbw hfin wby
     go_wp2_with fail
     refine' wp_region_each _ (Below wr.heap.size wr) (Onward) (Vl :: Vl :: Vl :: Vl :: Vl :: Vl :: Vl :: Vl :: Vl :: Vl :: Vl :: AgT (Qb.to (fun z => wrap64 (z + (by1 : Int)))) :: AgT (Qa.app (Qb.to (fun z => wrap64 (z + (by1 : Int))))) :: Vl :: Vl :: Vl :: []) ?hF (by kernel_rfl) (by kernel_rfl) (by kernel_rfl) ((Below.refl _ _).drew) (lasting_cons (lasting_vl) (lasting_cons (lasting_vl) (lasting_cons (lasting_vl) (lasting_cons (lasting_vl) (lasting_cons (lasting_vl) (lasting_cons (lasting_vl) (lasting_cons (lasting_vl) (lasting_cons (lasting_vl) (lasting_cons (lasting_vl) (lasting_cons (lasting_vl) (lasting_cons (lasting_vl) (lasting_cons (agT_on _) (lasting_cons (agT_on _) (lasting_cons (lasting_vl) (lasting_cons (lasting_vl) (lasting_cons (lasting_vl) (lasting_none))))))))))))))))) ?hops ?hend
     case hF => (intro v; simp only [over, Act.put, List.setIfInBounds_toArray, List.set_cons_zero, List.set_cons_succ, Nat.zero_add, Nat.reduceAdd]; exact rfl)
     case hops =>
      refine ⟨?_, ?_⟩
      ·intro v w' hj hd hs K hK
       have hk := hK.out
       simp only [Act.put, List.setIfInBounds_toArray, List.set_cons_zero, List.set_cons_succ] at hk
       have HK := Lib.hid hk
       clear hd hs hk hK
       go_simp
       exact HK.out _ _ hj.out (Below.refl _ _) (show _ = _ from rfl)
      refine ⟨?_, ?_⟩
      ·intro v w' hj hd hs K hK
       have t0 : v 0 = _ := hd.out 0 (by kernel_rfl)
       have hk := hK.out
       simp only [t0, Act.put, List.setIfInBounds_toArray, List.set_cons_zero, List.set_cons_succ] at hk
       have HK := Lib.hid hk
       clear hd hs hk hK
       go_simp
       exact HK.out _ _ hj.out (Below.refl _ _) (show _ = _ from rfl)
      refine ⟨?_, ?_⟩
      ·intro v w' hj hd hs K hK
       have t1 : v 1 = _ := hd.out 1 (by kernel_rfl)
       have hk := hK.out
       simp only [t1, Act.put, List.setIfInBounds_toArray, List.set_cons_zero, List.set_cons_succ] at hk
       have HK := Lib.hid hk
       clear hd hs hk hK
       go_simp
       exact HK.out _ _ hj.out (Below.refl _ _) (show _ = _ from rfl)
      refine ⟨?_, ?_⟩
      ·intro v w' hj hd hs K hK
       have t1 : v 1 = _ := hd.out 1 (by kernel_rfl)
       have hk := hK.out
       simp only [t1, Act.put, List.setIfInBounds_toArray, List.set_cons_zero, List.set_cons_succ] at hk
       have HK := Lib.hid hk
       clear hd hs hk hK
       go_simp
       exact HK.out _ _ hj.out (Below.refl _ _) (show _ = _ from rfl)
      refine ⟨?_, ?_⟩
      ·intro v w' hj hd hs K hK
       have t1 : v 1 = _ := hd.out 1 (by kernel_rfl)
       have t2 : v 2 = _ := hd.out 2 (by kernel_rfl)
       have t3 : v 3 = _ := hd.out 3 (by kernel_rfl)
       have hk := hK.out
       simp only [t1, t2, t3, Act.put, List.setIfInBounds_toArray, List.set_cons_zero, List.set_cons_succ] at hk
       have HK := Lib.hid hk
       clear hd hs hk hK
       go_simp
       go_at_call 14
       refine (HDG.out w' hj.out).mono ?_
       rintro e wz ⟨rfl, hbz⟩
       exact HK.out _ _ (hj.out.trans (hbz.mono hj.out.size)) hbz (show _ = _ from rfl)
      refine ⟨?_, ?_⟩
      ·intro v w' hj hd hs K hK
       have t1 : v 1 = _ := hd.out 1 (by kernel_rfl)
       have t4 : v 4 = _ := hd.out 4 (by kernel_rfl)
       have hk := hK.out
       simp only [t1, t4, Act.put, List.setIfInBounds_toArray, List.set_cons_zero, List.set_cons_succ] at hk
       have HK := Lib.hid hk
       clear hd hs hk hK
       go_simp
       exact HK.out _ _ hj.out (Below.refl _ _) (show _ = _ from rfl)
      refine ⟨?_, ?_⟩
      ·intro v w' hj hd hs K hK
       have t5 : v 5 = _ := hd.out 5 (by kernel_rfl)
       have hk := hK.out
       simp only [t5, Act.put, List.setIfInBounds_toArray, List.set_cons_zero, List.set_cons_succ] at hk
       have HK := Lib.hid hk
       clear hd hs hk hK
       go_simp
       exact HK.out _ _ hj.out (Below.refl _ _) (show _ = _ from rfl)
      refine ⟨?_, ?_⟩
      ·intro v w' hj hd hs K hK
       have t6 : v 6 = _ := hd.out 6 (by kernel_rfl)
       have yy0 := next_cell us0 hj.out
       have yy1 := next_cell us1 hj.out
       have yy2 := next_cell us2 hj.out
       have yy3 := next_cell us3 hj.out
       have hk := hK.out
       simp only [t6, Act.put, List.setIfInBounds_toArray, List.set_cons_zero, List.set_cons_succ] at hk
       have HK := Lib.hid hk
       clear hd hs hk hK
       go_simp
       exact HK.out _ _ hj.out (Below.refl _ _) (show _ = _ from rfl)
      refine ⟨?_, ?_⟩
      ·intro v w' hj hd hs K hK
       have t6 : v 6 = _ := hd.out 6 (by kernel_rfl)
       have yy0 := next_cell ua0 hj.out
       have yy1 := next_cell ua1 hj.out
       have yy2 := next_cell ua2 hj.out
       have yy3 := next_cell ua3 hj.out
       have hk := hK.out
       simp only [t6, Act.put, List.setIfInBounds_toArray, List.set_cons_zero, List.set_cons_succ] at hk
       have HK := Lib.hid hk
       clear hd hs hk hK
       go_simp
       exact HK.out _ _ hj.out (Below.refl _ _) (show _ = _ from rfl)
      refine ⟨?_, ?_⟩
      ·intro v w' hj hd hs K hK
       have t6 : v 6 = _ := hd.out 6 (by kernel_rfl)
       have yy0 := next_cell ub0 hj.out
       have yy1 := next_cell ub1 hj.out
       have yy2 := next_cell ub2 hj.out
       have yy3 := next_cell ub3 hj.out
       have hk := hK.out
       simp only [t6, Act.put, List.setIfInBounds_toArray, List.set_cons_zero, List.set_cons_succ] at hk
       have HK := Lib.hid hk
       clear hd hs hk hK
       go_simp
       exact HK.out _ _ hj.out (Below.refl _ _) (show _ = _ from rfl)
      refine ⟨?_, ?_⟩
      ·intro v w' hj hd hs K hK
       have t6 : v 6 = _ := hd.out 6 (by kernel_rfl)
       have hk := hK.out
       simp only [t6, Act.put, List.setIfInBounds_toArray, List.set_cons_zero, List.set_cons_succ] at hk
       have HK := Lib.hid hk
       clear hd hs hk hK
       go_simp
       exact HK.out _ _ hj.out (Below.refl _ _) (show _ = _ from rfl)
      refine ⟨?_, ?_⟩
      ·intro v w' hj hd hs K hK
       have t6 : v 6 = _ := hd.out 6 (by kernel_rfl)
       have t9 : v 9 = _ := hd.out 9 (by kernel_rfl)
       have t10 : v 10 = _ := hd.out 10 (by kernel_rfl)
       have hk := hK.out
       simp only [t6, t9, t10, Act.put, List.setIfInBounds_toArray, List.set_cons_zero, List.set_cons_succ] at hk
       have HK := Lib.hid hk
       clear hd hs hk hK
       go_simp
       go_at_call 16
       refine (HSH.out w' hj.out).mono ?_
       rintro e wz ⟨l2, f2, p2, r2, rfl, hpz, hbz⟩
       exact HK.out _ _ (hj.out.trans (hbz.mono hj.out.size)) hbz ⟨_, _, _, _, rfl, hpz⟩
      refine ⟨?_, ?_⟩
      ·intro v w' hj hd hs K hK
       have t6 : v 6 = _ := hd.out 6 (by kernel_rfl)
       have t8 : v 8 = _ := hd.out 8 (by kernel_rfl)
       obtain ⟨l11, f11, p11, r11, t11, hp11⟩ : AgT (Qb.to (fun z => wrap64 (z + (by1 : Int)))) (v 11) w' := hd.out 11 (by kernel_rfl)
       have hk := hK.out
       simp only [t6, t8, t11, Act.put, List.setIfInBounds_toArray, List.set_cons_zero, List.set_cons_succ] at hk
       have HK := Lib.hid hk
       clear hd hs hk hK
       go_simp
       go_at_call 15
       refine (HAP.out _ _ _ _ w' hj.out hp11).mono ?_
       rintro e wz ⟨l2, f2, p2, r2, rfl, hpz, hbz⟩
       exact HK.out _ _ (hj.out.trans (hbz.mono hj.out.size)) hbz ⟨_, _, _, _, rfl, hpz⟩
      refine ⟨?_, ?_⟩
      ·intro v w' hj hd hs K hK
       have t6 : v 6 = _ := hd.out 6 (by kernel_rfl)
       have t7 : v 7 = _ := hd.out 7 (by kernel_rfl)
       obtain ⟨l12, f12, p12, r12, t12, hp12⟩ : AgT (Qa.app (Qb.to (fun z => wrap64 (z + (by1 : Int))))) (v 12) w' := hd.out 12 (by kernel_rfl)
       have hk := hK.out
       simp only [t6, t7, t12, Act.put, List.setIfInBounds_toArray, List.set_cons_zero, List.set_cons_succ] at hk
       have HK := Lib.hid hk
       clear hd hs hk hK
       go_simp
       go_at_call 12
       refine (HSM.out _ _ _ _ w' hj.out hp12).mono ?_
       rintro e wz ⟨rfl, hbz⟩
       exact HK.out _ _ (hj.out.trans (hbz.mono hj.out.size)) hbz (show _ = _ from rfl)
      refine ⟨?_, ?_⟩
      ·intro v w' hj hd hs K hK
       have t6 : v 6 = _ := hd.out 6 (by kernel_rfl)
       have t13 : v 13 = _ := hd.out 13 (by kernel_rfl)
       have hk := hK.out
       simp only [t6, t13, Act.put, List.setIfInBounds_toArray, List.set_cons_zero, List.set_cons_succ] at hk
       have HK := Lib.hid hk
       clear hd hs hk hK
       go_simp
       exact HK.out _ _ hj.out (Below.refl _ _) (show _ = _ from rfl)
      refine ⟨?_, ?_⟩
      ·intro v w' hj hd hs K hK
       have t14 : v 14 = _ := hd.out 14 (by kernel_rfl)
       have hk := hK.out
       simp only [t14, Act.put, List.setIfInBounds_toArray, List.set_cons_zero, List.set_cons_succ] at hk
       have HK := Lib.hid hk
       clear hd hs hk hK
       go_simp
       exact HK.out _ _ hj.out (Below.refl _ _) (show _ = _ from rfl)
      trivial
     case hend =>
      intro v w9 hj hd
      have t15 : v 15 = _ := hd.out 15 (of_decide_eq_true (by kernel_rfl))
      simp only [t15]
      have hf := HFIN.out.trans (hj.out.mono HFIN.out.size)
      clear hd hj
      go_wp2_with fail
      go_ret
      exact ⟨rfl, hf⟩
  ·go_ret
   exact ⟨rfl, bb.trans ((below1 _ _).mono bb.size)⟩
  ·go_ret
   exact ⟨rfl, bb.trans ((below1 _ _).mono bb.size)⟩
end parserConcat
end Go.Proofs.YtpcmlkpnjimbiaaDoor
