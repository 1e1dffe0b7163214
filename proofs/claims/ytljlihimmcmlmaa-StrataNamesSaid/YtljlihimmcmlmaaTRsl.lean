/- The walk of StrataRules. -/
import Derived.Test.YtljlihimmcmlmaaTRl0
import Derived.Test.YtljlihimmcmlmaaTMl
namespace Go.Proofs.Ytljlihimmcmlmaa
set_option linter.unusedVariables false
set_option linter.unusedSimpArgs false
open Go.RowKit
def LenV (m : Nat) : Value → World → Prop := fun v _ => ∃ A c, v = .slice A m c
theorem lenV_on {J : World → Prop} {m : Nat} : Lasting J Onward (LenV m) := fun v w w' _ hb h => h
/-- A slice that is nil has no capacity. -/
def NilOk (p : Pg) : Prop := (p.ra = none → p.rc = 0) ∧ ∀ r ∈ p.rus, r.ba = none → r.bc = 0
theorem flat_inv {α β : Type} {f : α → List β} {k : Nat} (hk : 0 < k) (hf : ∀ x, (f x).length = k) : ∀ (l : List α) (j : Nat) (u : β), (l.flatMap f)[j]? = some u → ∃ i x m, l[i]? = some x ∧ (f x)[m]? = some u ∧ j = i * k + m
  | [], j, u, h => by simp at h
  | y :: l, j, u, h => by
    rw [List.flatMap_cons] at h
    rcases Nat.lt_or_ge j k with hj | hj
    · rw [List.getElem?_append_left (by rw [hf]; exact hj)] at h
      exact ⟨0, y, j, rfl, h, by omega⟩
    · rw [List.getElem?_append_right (by rw [hf]; exact hj), hf] at h
      obtain ⟨i, x, m, h1, h2, h3⟩ := flat_inv hk hf l (j - k) u h
      exact ⟨i + 1, x, m, h1, h2, by rw [Nat.add_mul]; omega⟩
theorem str_news {α : Type} {f : α → List Value} {k : Nat} (hk : 0 < k) (hf : ∀ x, (f x).length = k) {w : World} {A : Option Addr} {l : List α} (h : Str w A k (l.map f)) : ∀ ad, A = some ad → ∀ j u, (l.flatMap f)[j]? = some u → w.cell? (ad.add j) = some u := by
  intro ad hA j u hu
  obtain ⟨i, x, m, h1, h2, h3⟩ := flat_inv hk hf l j u hu
  obtain ⟨g, o, e, hg, hc⟩ := h.at (i := i) (fs := f x) (by rw [List.getElem?_map, h1]; rfl)
  rw [hA] at e
  obtain rfl := Option.some.inj e
  rw [add_at, h3, ← Nat.add_assoc]
  exact hc m u h2
theorem flat_count {α β : Type} {f : α → List β} {k : Nat} (hf : ∀ x, (f x).length = k) : ∀ l : List α, (l.flatMap f).length = l.length * k
  | [] => by simp
  | y :: l => by rw [List.flatMap_cons, List.length_append, hf, flat_count hf l, List.length_cons, Nat.add_mul]; omega
theorem own_emptyAt (w : World) (g : Nat) (t : TypeId) (size : Nat) (B : Nat) (hg : w.heap.size = g) (hB : B ≤ g) : (w.alloc (.cells #[] t)).ownsRow B t size (.slice (some ⟨g, 0, none⟩) 0 0) 0 [] := by
  subst hg
  exact own_empty w t size B hB
theorem rcells_one (l : List Ru) : ∀ u ∈ rcells l, u.oneCell' = true := fun u hu => by
  obtain ⟨r, _, h⟩ := List.mem_flatMap.1 hu
  unfold Ru.fs at h
  simp at h
  rcases h with rfl | rfl | rfl | rfl | rfl | rfl | rfl | rfl | rfl <;> rfl
theorem rcells_app (a b : List Ru) : rcells (a ++ b) = rcells a ++ rcells b := by simp [rcells]
/-- On the way through the statement that appends a literal to a rule's body. -/
structure LJ (wr0 : World) (bx : Array Value) (u : Value) (a : Nat) (xs : List Value) (W : World) : Prop where
  box : At W wr0.heap.size 51 bx
  own : W.ownsRow (wr0.heap.size + 1) 56 9 u a xs
  below : Below wr0.heap.size wr0 W
  size : wr0.heap.size + 1 ≤ W.heap.size
section
variable {wr0 W W' : World} {bx : Array Value} {u : Value} {a : Nat} {xs : List Value}
theorem LJ.next (h : LJ wr0 bx u a xs W) (hb : Below W.heap.size W W') : LJ wr0 bx u a xs W' :=
  ⟨h.box.next hb, own_below h.own hb, h.below.trans (hb.mono h.below.size), Nat.le_trans h.size hb.size⟩
theorem LJ.grew (h : LJ wr0 bx u a xs W) (ho : W'.ownsRow (wr0.heap.size + 1) 56 9 u a xs) (hg : W.grownBy W' u.ownBlock) : LJ wr0 bx u a xs W' :=
  ⟨h.box.grown hg (own_far h.own h.box (by decide)), ho, h.below.grown hg h.below.size (fun q hq => by have := (own_lt h.own hq).1; omega), Nat.le_trans h.size hg.size⟩
end
set_option maxHeartbeats 4000000 in
set_option maxRecDepth 100000 in
theorem rules_law (p : Pg) (w : World) (hp : PgOk w p) (hnil : NilOk p) : Calls Try.prog 9 #[p.v] w fun e w' => e = .returned (.bool true) ∧ Below w.heap.size w w' := by
  have HH := Lib.hid (fun W => head_any W)
  have HS := Lib.hid (fun W (h : Below w.heap.size w W) => small_any p W (hp.below h))
  have HAT := Lib.hid (At.new w 27 p.vs)
  have hl1 : p.rus.length ≤ 9223372036854775807 := by have := hp.rcap; unfold maxLen at this; omega
  cases hsm : smallP p
  · rw [hsm] at HS
    unfold Pg.v at HS ⊢
    unfold Pg.vs at HAT
    clear hsm hp hnil
    generalize p.ra = ra at *
    generalize p.pa = pa at *
    go_enter Try.func9, Try.ntmps9
    go_wp2_with (first
      | (go_at_call 10; refine (HH.out _).mono ?_; rintro e w2 ⟨rfl, hb2⟩; have hat2 := HAT.out.next hb2; have hbw2 : Below w.heap.size w w2 := (below1 _ _).trans (hb2.mono (by simp)); obtain ⟨p0, p1, p2, p3⟩ := pg_cells hat2)
      | (go_at_call 11; refine (HS.out _ hbw2).mono ?_; rintro e w3 ⟨rfl, hb3⟩; have hbw3 := hbw2.trans (hb3.mono hbw2.size)))
    go_ret
    exact ⟨rfl, hbw3⟩
  · rw [hsm] at HS
    by_cases h30 : p.rus.length ≤ 30
    · have t30 : decide ((30 : Int) < (p.rus.length : Int)) = false := by simp; omega
      have t30' : decide (30 < p.rus.length) = false := by simp; omega
      obtain ⟨s1, s2, s3⟩ := smallP_iff.1 hsm
      obtain ⟨n, hn⟩ : ∃ n, p.prs.length = n := ⟨_, rfl⟩
      have hf := pgFine (p := p) (by omega) (by omega) (fun r hr => by have := s3 r hr; omega)
      rw [hn] at hf s1
      have HTF := Lib.hid (fun q (h : Twice p q) => h.fine hn s1 h30 s3)
      have HC0 := Lib.hid (fun W (h : Below w.heap.size w W) => components_any p n W (hp.below h) hf)
      have HCQ0 := Lib.hid (fun W q (hq : PgOk W q) (ht : Twice p q) => show Calls Try.prog 15 #[q.v] W (fun e w' => ∃ A c, e = .returned (.slice A (Tj.ord (Tj.next (edges p)) n n []).length c) ∧ LsAt w' A (Tj.ord (Tj.next (edges p)) n n []) ∧ Below W.heap.size W w') from by
        have h1 := components_any q n W hq (HTF.out q ht)
        rw [ht.ord] at h1
        exact h1)
      have HK10 := Lib.hid (fun W (h : Below w.heap.size w W) => show Calls Try.prog 20 #[p.v] W (fun e w' => ∃ A c, e = .returned (.slice A (bads p (sameC (Tj.whole (Tj.next (edges p)) n).of)).length c) ∧ Below W.heap.size W w') from
        (check_any p n W (hp.below h) hf).mono (fun e w' ⟨A, c, h1, _, h2⟩ => ⟨A, c, h1, h2⟩))
      have HKQ0 := Lib.hid (fun W q (hq : PgOk W q) (ht : Twice p q) => show ∃ m2 : Nat, (m2 = 0 ↔ (bads p (sameC (Tj.whole (Tj.next (edges p)) n).of)).length = 0) ∧ ∀ W', Below W.heap.size W W' → Calls Try.prog 20 #[q.v] W' (fun e w' => ∃ A c, e = .returned (.slice A m2 c) ∧ Below W'.heap.size W' w') from
        ⟨_, by rw [List.length_eq_zero_iff, List.length_eq_zero_iff]; exact ht.bads hf (HTF.out q ht), fun W' h => (check_any q n W' (hq.below h) (HTF.out q ht)).mono (fun e w' ⟨A, c, h1, _, h2⟩ => ⟨A, c, h1, h2⟩)⟩)
      have hln := ord_len (Tj.next (edges p)) n n []
      have hrn := ord_rows (Tj.next (edges p)) n n []
      generalize (bads p (sameC (Tj.whole (Tj.next (edges p)) n).of)).length = m1 at *
      generalize Tj.ord (Tj.next (edges p)) n n [] = L at *
      have HSM := Lib.hid (fun W A c B d (h1 : LsAt W A L) (h2 : LsAt W B L) => show Calls Try.prog 14 #[.slice A L.length c, .slice B L.length d] W (fun e w' => e = .returned (.bool true) ∧ Below W.heap.size W w') from by
        have := same_any A c L B d L W (by omega) (by omega) (fun r hr => by have := hrn r hr; omega) (fun r hr => by have := hrn r hr; omega) h1 h2
        rw [decide_eq_true rfl] at this
        exact this)
      have HRU := Lib.hid (fun W (h : Below w.heap.size w W) (k : Nat) (r : Ru) (hk : p.rus[k]? = some r) => ruAt (hp.below h) hk)
      have HRO := Lib.hid hp.each
      have HPP := Lib.hid (fun W (h : Below w.heap.size w W) => (hp.below h).preds)
      have HPC := Lib.hid hp.pcap
      have HNW := Lib.hid (fun W (h : Below w.heap.size w W) => str_news (f := Ru.fs) (by decide : 0 < 9) (fun _ => rfl) (hp.below h).rules)
      have HLIT := Lib.hid s3
      have hnone : p.ra = none → p.rus.length = 0 ∧ p.rc = 0 := fun h => by
        have h1 := hnil.1 h
        have h2 := hp.rcap.1
        exact ⟨by omega, h1⟩
      have HNO := Lib.hid hnone
      have HQV := Lib.hid (fun W A c F (h : Below w.heap.size w W) (ho : W.ownsRow (w.heap.size + 1) 51 9 (.slice A (p.rus ++ F).length c) (p.rus ++ F).length (rcells (p.rus ++ F))) (hF : ∀ r ∈ F, RuOwn W (w.heap.size + 1) r) (hc : F.map coreR = (p.rus.map coreR).reverse.map flipC) =>
        show ∃ q : Pg, q.v = .agg #[.slice p.lat.a p.lat.n p.lat.c, .slice p.fns.a p.fns.n p.fns.c, .slice p.pa p.prs.length p.pc, .slice A (p.rus ++ F).length c] ∧ PgOk W q ∧ Twice p q from by
        have hpW := hp.below h
        obtain ⟨h1, h2, h3⟩ := str_own (f := Ru.fs) (fun _ => rfl) ho rfl
        refine ⟨{ p with ra := A, rc := c, rus := p.rus ++ F }, rfl, ⟨hpW.preds, hpW.pcap, h1, ⟨h2, h3⟩, fun r hr => ?_⟩, ⟨rfl, by rw [List.map_append, hc]⟩⟩
        rcases List.mem_append.1 hr with hr | hr
        · exact hpW.each r hr
        · refine (hF r hr).ok ?_
          have hm : coreR r ∈ (p.rus.map coreR).reverse.map flipC := by rw [← hc]; exact List.mem_map_of_mem hr
          obtain ⟨d, hd, e⟩ := List.mem_map.1 hm
          obtain ⟨s, hs, rfl⟩ := List.mem_map.1 (List.mem_reverse.1 hd)
          have hi := (hpW.each s hs).i64
          have e1 : s.pred = r.pred := congrArg Prod.fst e
          have e2 : s.lits.reverse = r.lits := congrArg Prod.snd e
          rw [← e1, ← e2]
          exact ⟨hi.1, fun l hl => hi.2 l (List.mem_reverse.1 hl)⟩)
      have HRC := Lib.hid (rfl : rcells p.rus = p.rus.flatMap Ru.fs)
      clear hf hp hrn hln hsm s2 s3 hnone hnil
      unfold Pg.v at HS HC0 HK10 ⊢
      unfold Pg.vs at HAT
      generalize p.ra = ra at *
      generalize p.pa = pa at *
      rw [hn] at HS HC0 HK10 HAT HQV ⊢
      clear hn
      obtain ⟨ir, hir, hzr0, hzr1, hzr2⟩ := info_of rule_info
      obtain ⟨il, hil, hzl0, hzl1, hzl2⟩ := info_of lit_info
      go_enter Try.func9, Try.ntmps9
      go_wp2_with (first
        | (go_at_call 10; refine (HH.out _).mono ?_; rintro e w2 ⟨rfl, hb2⟩; have hat2 := HAT.out.next hb2; have hbw2 : Below w.heap.size w w2 := (below1 _ _).trans (hb2.mono (by simp)); obtain ⟨p0, p1, p2, p3⟩ := pg_cells hat2)
        | (go_at_call 11; refine (HS.out _ hbw2).mono ?_; rintro e w3 ⟨rfl, hb3⟩; have hbw3 := hbw2.trans (hb3.mono hbw2.size); have hat3 := hat2.next hb3; clear p0 p1 p2 p3; obtain ⟨p0, p1, p2, p3⟩ := pg_cells hat3; have hlt3 := hat3.lt; have hq0 := At.new w3 27 (#[.slice p.lat.a p.lat.n p.lat.c, .slice p.fns.a p.fns.n p.fns.c, .slice pa n p.pc, .slice ra p.rus.length p.rc] : Array Value); have hoe := own_emptyAt (w3.alloc (.cells #[.slice p.lat.a p.lat.n p.lat.c, .slice p.fns.a p.fns.n p.fns.c, .slice pa n p.pc, .slice ra p.rus.length p.rc] 27)) (w3.heap.size + 1) 51 9 (w3.heap.size + 1) (by simp) (by omega); have hb30 := ((Below.refl w3.heap.size w3).alloc (Nat.le_refl _) (.cells #[.slice p.lat.a p.lat.n p.lat.c, .slice p.fns.a p.fns.n p.fns.c, .slice pa n p.pc, .slice ra p.rus.length p.rc] 27)).alloc (by simp) (.cells #[] 51))
        | (at_builtin; refine wpList_append_from rfl _ _ 25 rfl (w3.heap.size + 1) 51 ir _ 9 128 Try.underlying25 hir hzr0 hzr1 hzr2 rfl (by decide) _ 0 [] rfl hoe ra p.rus.length p.rc (rcells p.rus) rfl ?hl HNO.out ?hnews ?h1 ?hm ?hby ?hbase ?_; rotate_left 6; intro v9 w9 o9 g9; obtain ⟨va9, vc9, rfl⟩ := own_len o9; have hq9 := (hq0.alloc (.cells #[] 51)).grown g9 (own_far hoe (hq0.alloc _) (by decide)); have hb9 := hb30.grown g9 (by simp; omega) (fun q hq => by have := (own_lt hoe hq).1; omega); have hat9 := hat3.next hb9; have s3 := hq9.cell 3; have sf := hq9.frozen 3; obtain ⟨p0, p1, p2, p3⟩ := pg_cells hat9; have jw : IntKind.i64.wrap ((p.rus.length : Int) - 1) = (p.rus.length : Int) - 1 := by rw [IntKind.wrap_i64]; omega))
      case hl => exact flat_count (f := Ru.fs) (fun _ => rfl) _
      case hnews => exact HNW.out _ (hbw3.trans (hb30.mono hbw3.size))
      case h1 => exact rcells_one _
      case hm => unfold maxLen; omega
      case hby => omega
      case hbase => simp
      have hq10 := hq9.put 3 (.slice va9 p.rus.length vc9)
      rw [Nat.zero_add, List.nil_append] at o9
      have ho10 := own_putne (p := ⟨w3.heap.size, 3, none⟩) o9 (own_far o9 hq9 (by decide)) (.slice va9 p.rus.length vc9)
      have hb10 := hb9.setCell (p := ⟨w3.heap.size, 3, none⟩) (Nat.le_refl _) (.slice va9 p.rus.length vc9)
      have HATX := Lib.hid (fun W (h : Below w3.heap.size w3 W) => pg_cells (hat3.next h))
      have HB3 := Lib.hid hbw3
      clear hb2 hbw2 hat2 hb3 hat3 hq0 hoe hb30 g9 hat9 s3 sf hq9 hb9 o9 p0 p1 p2 p3 HS HH HAT jw
      go_loopw [5, 6, 7] (fun i _ _ wr => ∃ (k m : Nat) (F : List Ru) (v : Value), k + m = p.rus.length ∧ i = .int .i64 ((m : Int) - 1) ∧ Hid (F.map coreR = ((p.rus.map coreR).reverse.map flipC).take k) ∧ F.length = k ∧ At wr w3.heap.size 27 #[.slice p.lat.a p.lat.n p.lat.c, .slice p.fns.a p.fns.n p.fns.c, .slice pa n p.pc, v] ∧ wr.ownsRow (w3.heap.size + 1) 51 9 v (p.rus.length + k) (rcells (p.rus ++ F)) ∧ (∀ r ∈ F, RuOwn wr (w3.heap.size + 1) r) ∧ Below w3.heap.size w3 wr) (fun i _ _ _ => (intOf i + 1).toNat)
      case atStart => exact ⟨0, p.rus.length, [], _, by omega, rfl, Lib.hid rfl, rfl, hq10, by rw [List.append_nil, Nat.add_zero]; exact ho10, (fun r hr => by cases hr), hb10⟩
      case round =>
        clear hq10 ho10 hb10
        obtain ⟨k, m, F, v, hkm, rfl, HF, hFl, hq, hown, hFo, hb⟩ := hrel
        obtain ⟨qa, qc, rfl⟩ := own_len hown
        obtain ⟨p0, p1, p2, p3⟩ := HATX.out _ hb
        rcases Nat.eq_zero_or_pos m with hm0 | hm0
        · subst hm0
          simp only [show ((0 : Nat) : Int) - 1 = -1 from rfl]
          have hkk : p.rus.length = k := by omega
          have hFC : F.map coreR = (p.rus.map coreR).reverse.map flipC := by
            rw [HF.out, List.take_of_length_le (by simp; omega)]
          have hlen : (p.rus ++ F).length = p.rus.length + k := by rw [List.length_append, hFl]
          have hown2 : wr.ownsRow (w.heap.size + 1) 51 9 (.slice qa (p.rus ++ F).length qc) (p.rus ++ F).length (rcells (p.rus ++ F)) := by
            rw [hlen]; exact own_mono hown (by omega)
          obtain ⟨q, hqv, hqo, hqt⟩ := HQV.out wr qa qc F (HB3.out.trans (hb.mono HB3.out.size)) hown2 (fun r hr => own_mono (hFo r hr) (by omega)) hFC
          rw [hlen] at hqv
          obtain ⟨m2, hm2, hkq⟩ := HKQ0.out wr q hqo hqt
          rw [hqv] at hkq
          obtain ⟨wv, hwv⟩ : ∃ wv, wv = wr := ⟨_, rfl⟩
          subst hwv
          have hbv := HB3.out.trans (hb.mono HB3.out.size)
          have HCX := Lib.hid (fun W (h : Below wv.heap.size wv W) => HATX.out W (hb.trans (h.mono hb.size)))
          have HQX := Lib.hid (fun W (h : Below wv.heap.size wv W) => pg_cells (hq.next h))
          have HC := Lib.hid (fun W (h : Below wv.heap.size wv W) => HC0.out W (hbv.trans (h.mono hbv.size)))
          have HCQ := Lib.hid (fun W (h : Below wv.heap.size wv W) => show Calls Try.prog 15 #[.agg #[.slice p.lat.a p.lat.n p.lat.c, .slice p.fns.a p.fns.n p.fns.c, .slice pa n p.pc, .slice qa (p.rus.length + k) qc]] W (fun e w' => ∃ A c, e = .returned (.slice A L.length c) ∧ LsAt w' A L ∧ Below W.heap.size W w') from by
            have h1 := HCQ0.out W q (hqo.below h) hqt
            rw [hqv] at h1
            exact h1)
          have HK1 := Lib.hid (fun W (h : Below wv.heap.size wv W) => HK10.out W (hbv.trans (h.mono hbv.size)))
          have HK2 := Lib.hid hkq
          have hsz := hq.lt
          clear HC0 HCQ0 HK10 HKQ0 HATX hb hq hown hown2 hFo hqo hqt hqv hkq HF hFC hFl hlen hkk hkm HQV
          by_cases h1 : m1 = 0
          · have e1 : ((m1 : Int) == 0) = true := by rw [beq_iff_eq]; omega
            have e2 : ((m2 : Int) == 0) = true := by rw [beq_iff_eq]; have := hm2.2 h1; omega
            clear hm2 h1
            go_wp2_with fail
            refine' wp_region_each _ (Below wv.heap.size wv) (Onward) (Vl :: Vl :: Vl :: LsV L :: Vl :: LsV L :: Vl :: Vl :: Vl :: Vl :: LenV m1 :: Vl :: Vl :: Vl :: LenV m2 :: Vl :: Vl :: Vl :: Vl :: Vl :: []) ?hF (by kernel_rfl) (by kernel_rfl) (by kernel_rfl) ((Below.refl _ _).drew) (lasting_cons (lasting_vl) (lasting_cons (lasting_vl) (lasting_cons (lasting_vl) (lasting_cons (lsV_on) (lasting_cons (lasting_vl) (lasting_cons (lsV_on) (lasting_cons (lasting_vl) (lasting_cons (lasting_vl) (lasting_cons (lasting_vl) (lasting_cons (lasting_vl) (lasting_cons (lenV_on) (lasting_cons (lasting_vl) (lasting_cons (lasting_vl) (lasting_cons (lasting_vl) (lasting_cons (lenV_on) (lasting_cons (lasting_vl) (lasting_cons (lasting_vl) (lasting_cons (lasting_vl) (lasting_cons (lasting_vl) (lasting_cons (lasting_vl) (lasting_none))))))))))))))))))))) ?hops ?hend
            case hF => (intro v; simp only [over, Act.put, List.setIfInBounds_toArray, List.set_cons_zero, List.set_cons_succ, Nat.zero_add, Nat.reduceAdd]; exact rfl)
            case hops =>
              refine ⟨?_, ?_⟩
              · intro v w' hj hd hs K hK
                have hk := hK.out
                simp only [Act.put, List.setIfInBounds_toArray, List.set_cons_zero, List.set_cons_succ] at hk
                have HK := Lib.hid hk
                clear hd hs hk hK
                go_simp
                exact HK.out _ _ hj.out (Below.refl _ _) (show _ = _ from rfl)
              refine ⟨?_, ?_⟩
              · intro v w' hj hd hs K hK
                have t0 : v 0 = _ := hd.out 0 (by kernel_rfl)
                have hk := hK.out
                simp only [t0, Act.put, List.setIfInBounds_toArray, List.set_cons_zero, List.set_cons_succ] at hk
                have HK := Lib.hid hk
                clear hd hs hk hK
                go_simp
                exact HK.out _ _ hj.out (Below.refl _ _) (show _ = _ from rfl)
              refine ⟨?_, ?_⟩
              · intro v w' hj hd hs K hK
                have t1 : v 1 = _ := hd.out 1 (by kernel_rfl)
                obtain ⟨p0, p1, p2, p3⟩ := HCX.out _ hj.out
                have hk := hK.out
                simp only [t1, Act.put, List.setIfInBounds_toArray, List.set_cons_zero, List.set_cons_succ] at hk
                have HK := Lib.hid hk
                clear hd hs hk hK
                go_simp
                exact HK.out _ _ hj.out (Below.refl _ _) (show _ = _ from rfl)
              refine ⟨?_, ?_⟩
              · intro v w' hj hd hs K hK
                have t1 : v 1 = _ := hd.out 1 (by kernel_rfl)
                have t2 : v 2 = _ := hd.out 2 (by kernel_rfl)
                have hk := hK.out
                simp only [t1, t2, Act.put, List.setIfInBounds_toArray, List.set_cons_zero, List.set_cons_succ] at hk
                have HK := Lib.hid hk
                clear hd hs hk hK
                go_simp
                refine (HC.out w' hj.out).mono ?_
                rintro e w5 ⟨A, c, rfl, hA, hb⟩
                exact HK.out _ _ (hj.out.trans (hb.mono hj.out.size)) hb ⟨A, c, rfl, hA⟩
              refine ⟨?_, ?_⟩
              · intro v w' hj hd hs K hK
                have t1 : v 1 = _ := hd.out 1 (by kernel_rfl)
                obtain ⟨q0, q1, q2, q3⟩ := HQX.out _ hj.out
                have hk := hK.out
                simp only [t1, Act.put, List.setIfInBounds_toArray, List.set_cons_zero, List.set_cons_succ] at hk
                have HK := Lib.hid hk
                clear hd hs hk hK
                go_simp
                exact HK.out _ _ hj.out (Below.refl _ _) (show _ = _ from rfl)
              refine ⟨?_, ?_⟩
              · intro v w' hj hd hs K hK
                have t1 : v 1 = _ := hd.out 1 (by kernel_rfl)
                have t4 : v 4 = _ := hd.out 4 (by kernel_rfl)
                have hk := hK.out
                simp only [t1, t4, Act.put, List.setIfInBounds_toArray, List.set_cons_zero, List.set_cons_succ] at hk
                have HK := Lib.hid hk
                clear hd hs hk hK
                go_simp
                refine (HCQ.out w' hj.out).mono ?_
                rintro e w5 ⟨A, c, rfl, hA, hb⟩
                exact HK.out _ _ (hj.out.trans (hb.mono hj.out.size)) hb ⟨A, c, rfl, hA⟩
              refine ⟨?_, ?_⟩
              · intro v w' hj hd hs K hK
                have t1 : v 1 = _ := hd.out 1 (by kernel_rfl)
                obtain ⟨A3, c3, t3, hA3⟩ := hd.out 3 (by kernel_rfl)
                obtain ⟨A5, c5, t5, hA5⟩ := hd.out 5 (by kernel_rfl)
                have hk := hK.out
                simp only [t1, t3, t5, Act.put, List.setIfInBounds_toArray, List.set_cons_zero, List.set_cons_succ] at hk
                have HK := Lib.hid hk
                clear hd hs hk hK
                go_simp
                refine (HSM.out w' _ _ _ _ hA3 hA5).mono ?_
                rintro e w5 ⟨rfl, hb⟩
                exact HK.out _ _ (hj.out.trans (hb.mono hj.out.size)) hb (show _ = _ from rfl)
              refine ⟨?_, ?_⟩
              · intro v w' hj hd hs K hK
                have t1 : v 1 = _ := hd.out 1 (by kernel_rfl)
                have t6 : v 6 = _ := hd.out 6 (by kernel_rfl)
                have hk := hK.out
                simp only [t1, t6, Act.put, List.setIfInBounds_toArray, List.set_cons_zero, List.set_cons_succ] at hk
                have HK := Lib.hid hk
                clear hd hs hk hK
                go_simp
                exact HK.out _ _ hj.out (Below.refl _ _) (show _ = _ from rfl)
              refine ⟨?_, ?_⟩
              · intro v w' hj hd hs K hK
                have t7 : v 7 = _ := hd.out 7 (by kernel_rfl)
                have hk := hK.out
                simp only [t7, Act.put, List.setIfInBounds_toArray, List.set_cons_zero, List.set_cons_succ] at hk
                have HK := Lib.hid hk
                clear hd hs hk hK
                go_simp
                exact HK.out _ _ hj.out (Below.refl _ _) (show _ = _ from rfl)
              refine ⟨?_, ?_⟩
              · intro v w' hj hd hs K hK
                have t8 : v 8 = _ := hd.out 8 (by kernel_rfl)
                obtain ⟨p0, p1, p2, p3⟩ := HCX.out _ hj.out
                have hk := hK.out
                simp only [t8, Act.put, List.setIfInBounds_toArray, List.set_cons_zero, List.set_cons_succ] at hk
                have HK := Lib.hid hk
                clear hd hs hk hK
                go_simp
                exact HK.out _ _ hj.out (Below.refl _ _) (show _ = _ from rfl)
              refine ⟨?_, ?_⟩
              · intro v w' hj hd hs K hK
                have t8 : v 8 = _ := hd.out 8 (by kernel_rfl)
                have t9 : v 9 = _ := hd.out 9 (by kernel_rfl)
                have hk := hK.out
                simp only [t8, t9, Act.put, List.setIfInBounds_toArray, List.set_cons_zero, List.set_cons_succ] at hk
                have HK := Lib.hid hk
                clear hd hs hk hK
                go_simp
                refine (HK1.out w' hj.out).mono ?_
                rintro e w5 ⟨A, c, rfl, hb⟩
                exact HK.out _ _ (hj.out.trans (hb.mono hj.out.size)) hb ⟨A, c, rfl⟩
              refine ⟨?_, ?_⟩
              · intro v w' hj hd hs K hK
                have t8 : v 8 = _ := hd.out 8 (by kernel_rfl)
                obtain ⟨A10, c10, t10⟩ := hd.out 10 (by kernel_rfl)
                have hk := hK.out
                simp only [t8, t10, Act.put, List.setIfInBounds_toArray, List.set_cons_zero, List.set_cons_succ] at hk
                have HK := Lib.hid hk
                clear hd hs hk hK
                go_simp
                exact HK.out _ _ hj.out (Below.refl _ _) (show _ = _ from rfl)
              refine ⟨?_, ?_⟩
              · intro v w' hj hd hs K hK
                have t8 : v 8 = _ := hd.out 8 (by kernel_rfl)
                have t11 : v 11 = _ := hd.out 11 (by kernel_rfl)
                have hk := hK.out
                simp only [t8, t11, Act.put, List.setIfInBounds_toArray, List.set_cons_zero, List.set_cons_succ] at hk
                have HK := Lib.hid hk
                clear hd hs hk hK
                go_simp
                exact HK.out _ _ hj.out (Below.refl _ _) (show _ = _ from rfl)
              refine ⟨?_, ?_⟩
              · intro v w' hj hd hs K hK
                have t8 : v 8 = _ := hd.out 8 (by kernel_rfl)
                obtain ⟨q0, q1, q2, q3⟩ := HQX.out _ hj.out
                have hk := hK.out
                simp only [t8, Act.put, List.setIfInBounds_toArray, List.set_cons_zero, List.set_cons_succ] at hk
                have HK := Lib.hid hk
                clear hd hs hk hK
                go_simp
                exact HK.out _ _ hj.out (Below.refl _ _) (show _ = _ from rfl)
              refine ⟨?_, ?_⟩
              · intro v w' hj hd hs K hK
                have t8 : v 8 = _ := hd.out 8 (by kernel_rfl)
                have t13 : v 13 = _ := hd.out 13 (by kernel_rfl)
                have hk := hK.out
                simp only [t8, t13, Act.put, List.setIfInBounds_toArray, List.set_cons_zero, List.set_cons_succ] at hk
                have HK := Lib.hid hk
                clear hd hs hk hK
                go_simp
                refine (HK2.out w' hj.out).mono ?_
                rintro e w5 ⟨A, c, rfl, hb⟩
                exact HK.out _ _ (hj.out.trans (hb.mono hj.out.size)) hb ⟨A, c, rfl⟩
              refine ⟨?_, ?_⟩
              · intro v w' hj hd hs K hK
                have t8 : v 8 = _ := hd.out 8 (by kernel_rfl)
                obtain ⟨A14, c14, t14⟩ := hd.out 14 (by kernel_rfl)
                have hk := hK.out
                simp only [t8, t14, Act.put, List.setIfInBounds_toArray, List.set_cons_zero, List.set_cons_succ] at hk
                have HK := Lib.hid hk
                clear hd hs hk hK
                go_simp
                exact HK.out _ _ hj.out (Below.refl _ _) (show _ = _ from rfl)
              refine ⟨?_, ?_⟩
              · intro v w' hj hd hs K hK
                have t8 : v 8 = _ := hd.out 8 (by kernel_rfl)
                have t15 : v 15 = _ := hd.out 15 (by kernel_rfl)
                have hk := hK.out
                simp only [t8, t15, Act.put, List.setIfInBounds_toArray, List.set_cons_zero, List.set_cons_succ] at hk
                have HK := Lib.hid hk
                clear hd hs hk hK
                go_simp
                exact HK.out _ _ hj.out (Below.refl _ _) (show _ = _ from rfl)
              refine ⟨?_, ?_⟩
              · intro v w' hj hd hs K hK
                have t8 : v 8 = _ := hd.out 8 (by kernel_rfl)
                have t12 : v 12 = _ := hd.out 12 (by kernel_rfl)
                have t16 : v 16 = _ := hd.out 16 (by kernel_rfl)
                have hk := hK.out
                simp only [t8, t12, t16, Act.put, List.setIfInBounds_toArray, List.set_cons_zero, List.set_cons_succ] at hk
                have HK := Lib.hid hk
                clear hd hs hk hK
                go_simp
                exact HK.out _ _ hj.out (Below.refl _ _) (show _ = _ from rfl)
              refine ⟨?_, ?_⟩
              · intro v w' hj hd hs K hK
                have t8 : v 8 = _ := hd.out 8 (by kernel_rfl)
                have t17 : v 17 = _ := hd.out 17 (by kernel_rfl)
                have hk := hK.out
                simp only [t8, t17, Act.put, List.setIfInBounds_toArray, List.set_cons_zero, List.set_cons_succ] at hk
                have HK := Lib.hid hk
                clear hd hs hk hK
                go_simp
                exact HK.out _ _ hj.out (Below.refl _ _) (show _ = _ from rfl)
              refine ⟨?_, ?_⟩
              · intro v w' hj hd hs K hK
                have t18 : v 18 = _ := hd.out 18 (by kernel_rfl)
                have hk := hK.out
                simp only [t18, Act.put, List.setIfInBounds_toArray, List.set_cons_zero, List.set_cons_succ] at hk
                have HK := Lib.hid hk
                clear hd hs hk hK
                go_simp
                exact HK.out _ _ hj.out (Below.refl _ _) (show _ = _ from rfl)
              trivial
            case hend =>
              intro v w7 hj hd
              have t19 : v 19 = _ := hd.out 19 (of_decide_eq_true (by kernel_rfl))
              simp only [t19]
              have hb7 := hbv.trans (hj.out.mono hbv.size)
              clear hj hd t19
              go_wp2_with fail
              go_ret
              exact ⟨rfl, hb7⟩
          · have e1 : ((m1 : Int) == 0) = false := by rw [beq_eq_false_iff_ne]; omega
            have e2 : ((m2 : Int) == 0) = false := by rw [beq_eq_false_iff_ne]; intro h; exact h1 (hm2.1 (by omega))
            clear hm2 h1
            go_wp2_with fail
            refine' wp_region_each _ (Below wv.heap.size wv) (Onward) (Vl :: Vl :: Vl :: LsV L :: Vl :: LsV L :: Vl :: Vl :: Vl :: Vl :: LenV m1 :: Vl :: Vl :: Vl :: LenV m2 :: Vl :: Vl :: Vl :: Vl :: Vl :: []) ?hF (by kernel_rfl) (by kernel_rfl) (by kernel_rfl) ((Below.refl _ _).drew) (lasting_cons (lasting_vl) (lasting_cons (lasting_vl) (lasting_cons (lasting_vl) (lasting_cons (lsV_on) (lasting_cons (lasting_vl) (lasting_cons (lsV_on) (lasting_cons (lasting_vl) (lasting_cons (lasting_vl) (lasting_cons (lasting_vl) (lasting_cons (lasting_vl) (lasting_cons (lenV_on) (lasting_cons (lasting_vl) (lasting_cons (lasting_vl) (lasting_cons (lasting_vl) (lasting_cons (lenV_on) (lasting_cons (lasting_vl) (lasting_cons (lasting_vl) (lasting_cons (lasting_vl) (lasting_cons (lasting_vl) (lasting_cons (lasting_vl) (lasting_none))))))))))))))))))))) ?hops ?hend
            case hF => (intro v; simp only [over, Act.put, List.setIfInBounds_toArray, List.set_cons_zero, List.set_cons_succ, Nat.zero_add, Nat.reduceAdd]; exact rfl)
            case hops =>
              refine ⟨?_, ?_⟩
              · intro v w' hj hd hs K hK
                have hk := hK.out
                simp only [Act.put, List.setIfInBounds_toArray, List.set_cons_zero, List.set_cons_succ] at hk
                have HK := Lib.hid hk
                clear hd hs hk hK
                go_simp
                exact HK.out _ _ hj.out (Below.refl _ _) (show _ = _ from rfl)
              refine ⟨?_, ?_⟩
              · intro v w' hj hd hs K hK
                have t0 : v 0 = _ := hd.out 0 (by kernel_rfl)
                have hk := hK.out
                simp only [t0, Act.put, List.setIfInBounds_toArray, List.set_cons_zero, List.set_cons_succ] at hk
                have HK := Lib.hid hk
                clear hd hs hk hK
                go_simp
                exact HK.out _ _ hj.out (Below.refl _ _) (show _ = _ from rfl)
              refine ⟨?_, ?_⟩
              · intro v w' hj hd hs K hK
                have t1 : v 1 = _ := hd.out 1 (by kernel_rfl)
                obtain ⟨p0, p1, p2, p3⟩ := HCX.out _ hj.out
                have hk := hK.out
                simp only [t1, Act.put, List.setIfInBounds_toArray, List.set_cons_zero, List.set_cons_succ] at hk
                have HK := Lib.hid hk
                clear hd hs hk hK
                go_simp
                exact HK.out _ _ hj.out (Below.refl _ _) (show _ = _ from rfl)
              refine ⟨?_, ?_⟩
              · intro v w' hj hd hs K hK
                have t1 : v 1 = _ := hd.out 1 (by kernel_rfl)
                have t2 : v 2 = _ := hd.out 2 (by kernel_rfl)
                have hk := hK.out
                simp only [t1, t2, Act.put, List.setIfInBounds_toArray, List.set_cons_zero, List.set_cons_succ] at hk
                have HK := Lib.hid hk
                clear hd hs hk hK
                go_simp
                refine (HC.out w' hj.out).mono ?_
                rintro e w5 ⟨A, c, rfl, hA, hb⟩
                exact HK.out _ _ (hj.out.trans (hb.mono hj.out.size)) hb ⟨A, c, rfl, hA⟩
              refine ⟨?_, ?_⟩
              · intro v w' hj hd hs K hK
                have t1 : v 1 = _ := hd.out 1 (by kernel_rfl)
                obtain ⟨q0, q1, q2, q3⟩ := HQX.out _ hj.out
                have hk := hK.out
                simp only [t1, Act.put, List.setIfInBounds_toArray, List.set_cons_zero, List.set_cons_succ] at hk
                have HK := Lib.hid hk
                clear hd hs hk hK
                go_simp
                exact HK.out _ _ hj.out (Below.refl _ _) (show _ = _ from rfl)
              refine ⟨?_, ?_⟩
              · intro v w' hj hd hs K hK
                have t1 : v 1 = _ := hd.out 1 (by kernel_rfl)
                have t4 : v 4 = _ := hd.out 4 (by kernel_rfl)
                have hk := hK.out
                simp only [t1, t4, Act.put, List.setIfInBounds_toArray, List.set_cons_zero, List.set_cons_succ] at hk
                have HK := Lib.hid hk
                clear hd hs hk hK
                go_simp
                refine (HCQ.out w' hj.out).mono ?_
                rintro e w5 ⟨A, c, rfl, hA, hb⟩
                exact HK.out _ _ (hj.out.trans (hb.mono hj.out.size)) hb ⟨A, c, rfl, hA⟩
              refine ⟨?_, ?_⟩
              · intro v w' hj hd hs K hK
                have t1 : v 1 = _ := hd.out 1 (by kernel_rfl)
                obtain ⟨A3, c3, t3, hA3⟩ := hd.out 3 (by kernel_rfl)
                obtain ⟨A5, c5, t5, hA5⟩ := hd.out 5 (by kernel_rfl)
                have hk := hK.out
                simp only [t1, t3, t5, Act.put, List.setIfInBounds_toArray, List.set_cons_zero, List.set_cons_succ] at hk
                have HK := Lib.hid hk
                clear hd hs hk hK
                go_simp
                refine (HSM.out w' _ _ _ _ hA3 hA5).mono ?_
                rintro e w5 ⟨rfl, hb⟩
                exact HK.out _ _ (hj.out.trans (hb.mono hj.out.size)) hb (show _ = _ from rfl)
              refine ⟨?_, ?_⟩
              · intro v w' hj hd hs K hK
                have t1 : v 1 = _ := hd.out 1 (by kernel_rfl)
                have t6 : v 6 = _ := hd.out 6 (by kernel_rfl)
                have hk := hK.out
                simp only [t1, t6, Act.put, List.setIfInBounds_toArray, List.set_cons_zero, List.set_cons_succ] at hk
                have HK := Lib.hid hk
                clear hd hs hk hK
                go_simp
                exact HK.out _ _ hj.out (Below.refl _ _) (show _ = _ from rfl)
              refine ⟨?_, ?_⟩
              · intro v w' hj hd hs K hK
                have t7 : v 7 = _ := hd.out 7 (by kernel_rfl)
                have hk := hK.out
                simp only [t7, Act.put, List.setIfInBounds_toArray, List.set_cons_zero, List.set_cons_succ] at hk
                have HK := Lib.hid hk
                clear hd hs hk hK
                go_simp
                exact HK.out _ _ hj.out (Below.refl _ _) (show _ = _ from rfl)
              refine ⟨?_, ?_⟩
              · intro v w' hj hd hs K hK
                have t8 : v 8 = _ := hd.out 8 (by kernel_rfl)
                obtain ⟨p0, p1, p2, p3⟩ := HCX.out _ hj.out
                have hk := hK.out
                simp only [t8, Act.put, List.setIfInBounds_toArray, List.set_cons_zero, List.set_cons_succ] at hk
                have HK := Lib.hid hk
                clear hd hs hk hK
                go_simp
                exact HK.out _ _ hj.out (Below.refl _ _) (show _ = _ from rfl)
              refine ⟨?_, ?_⟩
              · intro v w' hj hd hs K hK
                have t8 : v 8 = _ := hd.out 8 (by kernel_rfl)
                have t9 : v 9 = _ := hd.out 9 (by kernel_rfl)
                have hk := hK.out
                simp only [t8, t9, Act.put, List.setIfInBounds_toArray, List.set_cons_zero, List.set_cons_succ] at hk
                have HK := Lib.hid hk
                clear hd hs hk hK
                go_simp
                refine (HK1.out w' hj.out).mono ?_
                rintro e w5 ⟨A, c, rfl, hb⟩
                exact HK.out _ _ (hj.out.trans (hb.mono hj.out.size)) hb ⟨A, c, rfl⟩
              refine ⟨?_, ?_⟩
              · intro v w' hj hd hs K hK
                have t8 : v 8 = _ := hd.out 8 (by kernel_rfl)
                obtain ⟨A10, c10, t10⟩ := hd.out 10 (by kernel_rfl)
                have hk := hK.out
                simp only [t8, t10, Act.put, List.setIfInBounds_toArray, List.set_cons_zero, List.set_cons_succ] at hk
                have HK := Lib.hid hk
                clear hd hs hk hK
                go_simp
                exact HK.out _ _ hj.out (Below.refl _ _) (show _ = _ from rfl)
              refine ⟨?_, ?_⟩
              · intro v w' hj hd hs K hK
                have t8 : v 8 = _ := hd.out 8 (by kernel_rfl)
                have t11 : v 11 = _ := hd.out 11 (by kernel_rfl)
                have hk := hK.out
                simp only [t8, t11, Act.put, List.setIfInBounds_toArray, List.set_cons_zero, List.set_cons_succ] at hk
                have HK := Lib.hid hk
                clear hd hs hk hK
                go_simp
                exact HK.out _ _ hj.out (Below.refl _ _) (show _ = _ from rfl)
              refine ⟨?_, ?_⟩
              · intro v w' hj hd hs K hK
                have t8 : v 8 = _ := hd.out 8 (by kernel_rfl)
                obtain ⟨q0, q1, q2, q3⟩ := HQX.out _ hj.out
                have hk := hK.out
                simp only [t8, Act.put, List.setIfInBounds_toArray, List.set_cons_zero, List.set_cons_succ] at hk
                have HK := Lib.hid hk
                clear hd hs hk hK
                go_simp
                exact HK.out _ _ hj.out (Below.refl _ _) (show _ = _ from rfl)
              refine ⟨?_, ?_⟩
              · intro v w' hj hd hs K hK
                have t8 : v 8 = _ := hd.out 8 (by kernel_rfl)
                have t13 : v 13 = _ := hd.out 13 (by kernel_rfl)
                have hk := hK.out
                simp only [t8, t13, Act.put, List.setIfInBounds_toArray, List.set_cons_zero, List.set_cons_succ] at hk
                have HK := Lib.hid hk
                clear hd hs hk hK
                go_simp
                refine (HK2.out w' hj.out).mono ?_
                rintro e w5 ⟨A, c, rfl, hb⟩
                exact HK.out _ _ (hj.out.trans (hb.mono hj.out.size)) hb ⟨A, c, rfl⟩
              refine ⟨?_, ?_⟩
              · intro v w' hj hd hs K hK
                have t8 : v 8 = _ := hd.out 8 (by kernel_rfl)
                obtain ⟨A14, c14, t14⟩ := hd.out 14 (by kernel_rfl)
                have hk := hK.out
                simp only [t8, t14, Act.put, List.setIfInBounds_toArray, List.set_cons_zero, List.set_cons_succ] at hk
                have HK := Lib.hid hk
                clear hd hs hk hK
                go_simp
                exact HK.out _ _ hj.out (Below.refl _ _) (show _ = _ from rfl)
              refine ⟨?_, ?_⟩
              · intro v w' hj hd hs K hK
                have t8 : v 8 = _ := hd.out 8 (by kernel_rfl)
                have t15 : v 15 = _ := hd.out 15 (by kernel_rfl)
                have hk := hK.out
                simp only [t8, t15, Act.put, List.setIfInBounds_toArray, List.set_cons_zero, List.set_cons_succ] at hk
                have HK := Lib.hid hk
                clear hd hs hk hK
                go_simp
                exact HK.out _ _ hj.out (Below.refl _ _) (show _ = _ from rfl)
              refine ⟨?_, ?_⟩
              · intro v w' hj hd hs K hK
                have t8 : v 8 = _ := hd.out 8 (by kernel_rfl)
                have t12 : v 12 = _ := hd.out 12 (by kernel_rfl)
                have t16 : v 16 = _ := hd.out 16 (by kernel_rfl)
                have hk := hK.out
                simp only [t8, t12, t16, Act.put, List.setIfInBounds_toArray, List.set_cons_zero, List.set_cons_succ] at hk
                have HK := Lib.hid hk
                clear hd hs hk hK
                go_simp
                exact HK.out _ _ hj.out (Below.refl _ _) (show _ = _ from rfl)
              refine ⟨?_, ?_⟩
              · intro v w' hj hd hs K hK
                have t8 : v 8 = _ := hd.out 8 (by kernel_rfl)
                have t17 : v 17 = _ := hd.out 17 (by kernel_rfl)
                have hk := hK.out
                simp only [t8, t17, Act.put, List.setIfInBounds_toArray, List.set_cons_zero, List.set_cons_succ] at hk
                have HK := Lib.hid hk
                clear hd hs hk hK
                go_simp
                exact HK.out _ _ hj.out (Below.refl _ _) (show _ = _ from rfl)
              refine ⟨?_, ?_⟩
              · intro v w' hj hd hs K hK
                have t18 : v 18 = _ := hd.out 18 (by kernel_rfl)
                have hk := hK.out
                simp only [t18, Act.put, List.setIfInBounds_toArray, List.set_cons_zero, List.set_cons_succ] at hk
                have HK := Lib.hid hk
                clear hd hs hk hK
                go_simp
                exact HK.out _ _ hj.out (Below.refl _ _) (show _ = _ from rfl)
              trivial
            case hend =>
              intro v w7 hj hd
              have t19 : v 19 = _ := hd.out 19 (of_decide_eq_true (by kernel_rfl))
              simp only [t19]
              have hb7 := hbv.trans (hj.out.mono hbv.size)
              clear hj hd t19
              go_wp2_with fail
              go_ret
              exact ⟨rfl, hb7⟩
        · obtain ⟨m', rfl⟩ : ∃ m', m = m' + 1 := ⟨m - 1, by omega⟩
          simp only [show ((m' + 1 : Nat) : Int) - 1 = (m' : Int) by omega]
          have d1 : decide ((0 : Int) ≤ (m' : Int)) = true := by simp
          have hml : m' < p.rus.length := by omega
          obtain ⟨r, hr⟩ : ∃ r, p.rus[m']? = some r := ⟨_, List.getElem?_eq_getElem hml⟩
          have hok := HRO.out r (List.mem_of_getElem? hr)
          have hll := HLIT.out r (List.mem_of_getElem? hr)
          have HWR := Lib.hid (HB3.out.trans (hb.mono HB3.out.size))
          have HFK := Lib.hid (show ((p.rus.map coreR).reverse.map flipC).take (k + 1) = ((p.rus.map coreR).reverse.map flipC).take k ++ [flipC (coreR r)] from flips_step (by simp; omega) (by simp [hr]))
          have HLT := Lib.hid (fun W (h : Below w.heap.size w W) (m : Nat) (l : Lit9) (hm : r.lits[m]? = some l) => litAt (hok.below h) hm)
          obtain ⟨g, o, rfl, hg, r0, r1, r2, r3, r4, r5, r6, r7, r8⟩ := HRU.out _ HWR.out m' r hr
          have i0 : (0 : Int) ≤ (m' : Int) := by omega
          have i1 : (m' : Int) < (p.rus.length : Int) := by omega
          have jw : IntKind.i64.wrap ((r.lits.length : Int) - 1) = (r.lits.length : Int) - 1 := by rw [IntKind.wrap_i64]; omega
          have jw2 : IntKind.i64.wrap ((m' : Int) - 1) = (m' : Int) - 1 := by rw [IntKind.wrap_i64]; omega
          obtain ⟨ba, hba⟩ : ∃ ba, r.ba = ba := ⟨_, rfl⟩
          rw [hba] at HLT r7
          obtain ⟨wr0, hwr0⟩ : ∃ wr0, wr0 = wr := ⟨_, rfl⟩
          subst hwr0
          have hlw : w.heap.size < wr0.heap.size := Nat.lt_of_lt_of_le hlt3 hb.size
          have hlq := hq.lt
          have HQ := Lib.hid hq
          have HOWN := Lib.hid hown
          have HFO := Lib.hid hFo
          have HBZ := Lib.hid hb
          clear hba hr hq hown hFo hb hok
          go_wp2_with fail
          have hlj : LJ wr0 (#[.string r.name, .int .i64 r.pred, .slice r.args.a r.args.n r.args.c, .int .i64 r.ek, .string r.en, .string r.ev, .int .i64 r.ei, .slice none 0 0, .int .i64 r.pos] : Array Value) (.slice none 0 0) 0 [] (wr0.alloc (.cells #[.string r.name, .int .i64 r.pred, .slice r.args.a r.args.n r.args.c, .int .i64 r.ek, .string r.en, .string r.ev, .int .i64 r.ei, .slice none 0 0, .int .i64 r.pos] 51)) := ⟨At.new _ _ _, World.ownsRow_nil _ _ _ _, below1 _ _, by simp⟩
          go_loopw [7] (fun kv ws => ∃ (a b : Nat) (u : Value), a + b = r.lits.length ∧ kv = .int .i64 ((b : Int) - 1) ∧ At ws wr0.heap.size 51 #[.string r.name, .int .i64 r.pred, .slice r.args.a r.args.n r.args.c, .int .i64 r.ek, .string r.en, .string r.ev, .int .i64 r.ei, u, .int .i64 r.pos] ∧ ws.ownsRow (wr0.heap.size + 1) 56 9 u a (lcells (r.lits.reverse.take a)) ∧ Below wr0.heap.size wr0 ws) (fun kv _ => (intOf kv + 1).toNat)
          case atStart => exact ⟨0, r.lits.length, _, by omega, rfl, hlj.box, hlj.own, hlj.below⟩
          case round =>
            clear hlj r0 r1 r2 r3 r4 r5 r6 r8 p0 p1 p2 p3 jw
            obtain ⟨a, b, u, hab, rfl, hbox, how, hbs⟩ := hrel
            obtain ⟨ua, uc, rfl⟩ := own_len how
            rcases Nat.eq_zero_or_pos b with hb0 | hb0
            · subst hb0
              simp only [show ((0 : Nat) : Int) - 1 = -1 from rfl]
              have haL : a = r.lits.length := by omega
              subst haL
              rw [List.take_of_length_le (by simp)] at how
              obtain ⟨nr, hnr⟩ : ∃ nr : Ru, nr = { r with ba := ua, bc := uc, lits := r.lits.reverse } := ⟨_, rfl⟩
              have HNR := Lib.hid (show nr.fs = [.string r.name, .int .i64 r.pred, .slice r.args.a r.args.n r.args.c, .int .i64 r.ek, .string r.en, .string r.ev, .int .i64 r.ei, .slice ua r.lits.length uc, .int .i64 r.pos] by rw [hnr]; unfold Ru.fs; simp)
              have HCR := Lib.hid (show coreR nr = flipC (coreR r) by rw [hnr]; rfl)
              have HRO2 := Lib.hid (show RuOwn wr (w3.heap.size + 1) nr by
                unfold RuOwn
                rw [hnr]
                dsimp only
                rw [List.length_reverse]
                exact own_mono how (by omega))
              have hqs := HQ.out.next hbs
              have hos := own_below HOWN.out hbs
              have hbz := HBZ.out.trans (hbs.mono HBZ.out.size)
              have HFS := Lib.hid (fun r h => (HFO.out r h).below hbs)
              obtain ⟨b0, b1, b2, b3, b4, b5, b6, b7, b8⟩ := ru_cells' hbox
              have q3 := hqs.cell 3
              have hlt := hqs.lt
              have hlt2 := hbox.lt
              have hz := hbz.size
              have HRX := Lib.hid (show (F ++ [nr]).map coreR = ((p.rus.map coreR).reverse.map flipC).take (k + 1) by rw [List.map_append, HF.out, HFK.out]; simp [HCR.out])
              clear hnr how hbox
              go_wp2_with (at_builtin; refine wpList_append_own _ rfl _ _ 25 rfl (w3.heap.size + 1) 51 ir _ 9 128 Try.underlying25 hir hzr0 hzr1 hzr2 rfl (by decide) _ _ _ rfl (hos.alloc _) ⟨wr.heap.size, 0, none⟩ 1 1 [.string r.name, .int .i64 r.pred, .slice r.args.a r.args.n r.args.c, .int .i64 r.ek, .string r.en, .string r.ev, .int .i64 r.ei, .slice ua r.lits.length uc, .int .i64 r.pos] rfl rfl (At.news (xs := [.string r.name, .int .i64 r.pred, .slice r.args.a r.args.n r.args.c, .int .i64 r.ek, .string r.en, .string r.ev, .int .i64 r.ei, .slice ua r.lits.length uc, .int .i64 r.pos]) (At.newAt rfl 51 _)) (fun u hu => by simp at hu; rcases hu with rfl | rfl | rfl | rfl | rfl | rfl | rfl | rfl | rfl <;> rfl) (by unfold maxLen; omega) (by omega) (by simp; omega) ?_; intro v9 w9 o9 g9 _; obtain ⟨va9, vc9, rfl⟩ := own_len o9; have hp9 := (hqs.alloc (.cells #[.string r.name, .int .i64 r.pred, .slice r.args.a r.args.n r.args.c, .int .i64 r.ek, .string r.en, .string r.ev, .int .i64 r.ei, .slice ua r.lits.length uc, .int .i64 r.pos] 51)).grown g9 (own_far hos hqs (by decide)); have s3 := hp9.cell 3; have sf := hp9.frozen 3; have hb9 := (hbz.alloc hbz.size (.cells #[.string r.name, .int .i64 r.pred, .slice r.args.a r.args.n r.args.c, .int .i64 r.ek, .string r.en, .string r.ev, .int .i64 r.ei, .slice ua r.lits.length uc, .int .i64 r.pos] 51)).grown g9 (by simp; omega) (fun q hq => by have := (own_lt hos hq).1; omega))
              go_roundw
              case rel => exact ⟨k + 1, m', F ++ [nr], _, by omega, by go_num, HRX.out, by simp; omega, hp9.put 3 _, own_putne (by rw [← Nat.add_assoc, ← List.append_assoc, rcells_snoc, HNR.out]; exact o9) (own_far o9 hp9 (by decide)) _, (fun r h => by
                rcases List.mem_append.1 h with h | h
                · exact own_put (own_grown ((HFS.out r h).alloc _) g9 (own_apart (HFS.out r h) hos (by decide))) (by simp) _
                · obtain rfl : r = nr := by simpa using h
                  exact own_put (own_grown (HRO2.out.alloc _) g9 (own_apart HRO2.out hos (by decide))) (by simp) _), hb9.setCell (by simp) _⟩
              case measure => first | (simp [intOf]; omega) | simp [intOf] | omega
            · obtain ⟨b', rfl⟩ : ∃ b', b = b' + 1 := ⟨b - 1, by omega⟩
              simp only [show ((b' + 1 : Nat) : Int) - 1 = (b' : Int) by omega]
              have d3 : decide ((0 : Int) ≤ (b' : Int)) = true := by simp
              obtain ⟨l, hlm⟩ : ∃ l, r.lits[b']? = some l := ⟨_, List.getElem?_eq_getElem (by omega)⟩
              have HFX := Lib.hid (show lcells (r.lits.reverse.take (a + 1)) = lcells (r.lits.reverse.take a) ++ [.int .i64 l.kind, .string l.name, .int .i64 l.pred, .slice l.args.a l.args.n l.args.c, .string l.bind, .string l.elem, .int .i64 l.least, .int .i64 l.op, .int .i64 l.pos] by rw [flip_step (by omega) hlm, lcells_snoc]; rfl)
              obtain ⟨g', o', rfl, hg', c0, c1, c2, c3, c4, c5, c6, c7, c8⟩ := HLT.out _ HWR.out b' l hlm
              have HLX := Lib.hid (fun W (h : Below wr0.heap.size wr0 W) => And.intro (HATX.out W (HBZ.out.trans (h.mono HBZ.out.size))) (And.intro ((h.cell hg).trans r7) (And.intro ((h.cell hg').trans c0) (And.intro ((h.cell hg').trans c1) (And.intro ((h.cell hg').trans c2) (And.intro ((h.cell hg').trans c3) (And.intro ((h.cell hg').trans c4) (And.intro ((h.cell hg').trans c5) (And.intro ((h.cell hg').trans c6) (And.intro ((h.cell hg').trans c7) ((h.cell hg').trans c8)))))))))))
              have i2 : (0 : Int) ≤ (b' : Int) := by omega
              have i3 : (b' : Int) < (r.lits.length : Int) := by omega
              have jb : IntKind.i64.wrap ((b' : Int) - 1) = (b' : Int) - 1 := by rw [IntKind.wrap_i64]; omega
              have HLJ := Lib.hid (show LJ wr0 (#[.string r.name, .int .i64 r.pred, .slice r.args.a r.args.n r.args.c, .int .i64 r.ek, .string r.en, .string r.ev, .int .i64 r.ei, .slice ua a uc, .int .i64 r.pos] : Array Value) (.slice ua a uc) a (lcells (r.lits.reverse.take a)) wr from ⟨hbox, how, hbs, hbox.lt⟩)
              clear hbox how hbs hlm c0 c1 c2 c3 c4 c5 c6 c7 c8
              go_wp2_with fail
              have E11 : ∀ i, i ≠ 11 → Lasting (LJ wr0 (#[.string r.name, .int .i64 r.pred, .slice r.args.a r.args.n r.args.c, .int .i64 r.ek, .string r.en, .string r.ev, .int .i64 r.ei, .slice ua a uc, .int .i64 r.pos] : Array Value) (.slice ua a uc) a (lcells (r.lits.reverse.take a))) ((fun i => if i = 12 then Grows (.slice ua a uc) else Onward) i) (NewSl 56 1 [.int .i64 l.kind, .string l.name, .int .i64 l.pred, .slice l.args.a l.args.n l.args.c, .string l.bind, .string l.elem, .int .i64 l.least, .int .i64 l.op, .int .i64 l.pos] (Value.ownBlock (.slice ua a uc))) := fun i _ => by
                show Lasting _ (if i = 12 then _ else _) _
                split
                · exact newSl_self
                · exact newSl_on _ _ _ _
              have E12 : ∀ i, i ≠ 12 → Lasting (LJ wr0 (#[.string r.name, .int .i64 r.pred, .slice r.args.a r.args.n r.args.c, .int .i64 r.ek, .string r.en, .string r.ev, .int .i64 r.ei, .slice ua a uc, .int .i64 r.pos] : Array Value) (.slice ua a uc) a (lcells (r.lits.reverse.take a))) ((fun i => if i = 12 then Grows (.slice ua a uc) else Onward) i) (OwnSl (wr0.heap.size + 1) 56 9 (a + 1) (lcells (r.lits.reverse.take a) ++ [.int .i64 l.kind, .string l.name, .int .i64 l.pred, .slice l.args.a l.args.n l.args.c, .string l.bind, .string l.elem, .int .i64 l.least, .int .i64 l.op, .int .i64 l.pos])) := fun i hne => by
                show Lasting _ (if i = 12 then _ else _) _
                rw [if_neg hne]
                exact ownSl_on _ _ _ _ _
              refine' wp_region_rely_last 14 _ _ ((LJ wr0 (#[.string r.name, .int .i64 r.pred, .slice r.args.a r.args.n r.args.c, .int .i64 r.ek, .string r.en, .string r.ev, .int .i64 r.ei, .slice ua a uc, .int .i64 r.pos] : Array Value) (.slice ua a uc) a (lcells (r.lits.reverse.take a)))) (fun i => if i = 12 then Grows (.slice ua a uc) else Onward) (Vl :: Vl :: Vl :: Vl :: Vl :: Vl :: Vl :: Vl :: Vl :: Vl :: Vl :: NewSl 56 1 [.int .i64 l.kind, .string l.name, .int .i64 l.pred, .slice l.args.a l.args.n l.args.c, .string l.bind, .string l.elem, .int .i64 l.least, .int .i64 l.op, .int .i64 l.pos] (Value.ownBlock (.slice ua a uc)) :: OwnSl (wr0.heap.size + 1) 56 9 (a + 1) ((lcells (r.lits.reverse.take a)) ++ [.int .i64 l.kind, .string l.name, .int .i64 l.pred, .slice l.args.a l.args.n l.args.c, .string l.bind, .string l.elem, .int .i64 l.least, .int .i64 l.op, .int .i64 l.pos]) :: Vl :: []) ?hF (by kernel_rfl) (by kernel_rfl) (by kernel_rfl) (by rfl) (by rfl) (by rfl) (by kernel_rfl) (HLJ.out.next ((Below.refl _ _).drew)) (⟨fun i _ _ => lasting_vl, ⟨fun i _ _ => lasting_vl, ⟨fun i _ _ => lasting_vl, ⟨fun i _ _ => lasting_vl, ⟨fun i _ _ => lasting_vl, ⟨fun i _ _ => lasting_vl, ⟨fun i _ _ => lasting_vl, ⟨fun i _ _ => lasting_vl, ⟨fun i _ _ => lasting_vl, ⟨fun i _ _ => lasting_vl, ⟨fun i _ _ => lasting_vl, ⟨fun i hne _ => E11 i hne, ⟨fun i hne _ => E12 i hne, ⟨fun i _ _ => lasting_vl, trivial⟩⟩⟩⟩⟩⟩⟩⟩⟩⟩⟩⟩⟩⟩) ?hops ?hlast
              case hF => (intro v; simp only [over, Act.put, List.setIfInBounds_toArray, List.set_cons_zero, List.set_cons_succ, Nat.zero_add, Nat.reduceAdd]; exact rfl)
              case hops =>
                refine ⟨?_, ?_⟩
                · intro v w' hj hd hs K hK
                  have hk := hK.out
                  simp only [Act.put, List.setIfInBounds_toArray, List.set_cons_zero, List.set_cons_succ] at hk
                  have HK := Lib.hid hk
                  clear hd hs hk hK
                  go_simp
                  exact HK.out _ _ hj.out (Below.refl _ _) (show _ = _ from rfl)
                refine ⟨?_, ?_⟩
                · intro v w' hj hd hs K hK
                  have t0 : v 0 = _ := hd.out 0 (by kernel_rfl)
                  obtain ⟨b0, b1, b2, b3, b4, b5, b6, b7, b8⟩ := ru_cells' hj.out.box
                  have hk := hK.out
                  simp only [t0, Act.put, List.setIfInBounds_toArray, List.set_cons_zero, List.set_cons_succ] at hk
                  have HK := Lib.hid hk
                  clear hd hs hk hK
                  go_simp
                  exact HK.out _ _ hj.out (Below.refl _ _) (show _ = _ from rfl)
                refine ⟨?_, ?_⟩
                · intro v w' hj hd hs K hK
                  have hk := hK.out
                  simp only [Act.put, List.setIfInBounds_toArray, List.set_cons_zero, List.set_cons_succ] at hk
                  have HK := Lib.hid hk
                  clear hd hs hk hK
                  go_simp
                  exact HK.out _ _ hj.out (Below.refl _ _) (show _ = _ from rfl)
                refine ⟨?_, ?_⟩
                · intro v w' hj hd hs K hK
                  have t2 : v 2 = _ := hd.out 2 (by kernel_rfl)
                  obtain ⟨⟨p0, p1, p2, p3⟩, q7, ⟨c0, c1, c2, c3, c4, c5, c6, c7, c8⟩⟩ := HLX.out _ hj.out.below
                  have hk := hK.out
                  simp only [t2, Act.put, List.setIfInBounds_toArray, List.set_cons_zero, List.set_cons_succ] at hk
                  have HK := Lib.hid hk
                  clear hd hs hk hK
                  go_simp
                  exact HK.out _ _ hj.out (Below.refl _ _) (show _ = _ from rfl)
                refine ⟨?_, ?_⟩
                · intro v w' hj hd hs K hK
                  have hk := hK.out
                  simp only [Act.put, List.setIfInBounds_toArray, List.set_cons_zero, List.set_cons_succ] at hk
                  have HK := Lib.hid hk
                  clear hd hs hk hK
                  go_simp
                  exact HK.out _ _ hj.out (Below.refl _ _) (show _ = _ from rfl)
                refine ⟨?_, ?_⟩
                · intro v w' hj hd hs K hK
                  have t3 : v 3 = _ := hd.out 3 (by kernel_rfl)
                  have t4 : v 4 = _ := hd.out 4 (by kernel_rfl)
                  have hk := hK.out
                  simp only [t3, t4, Act.put, List.setIfInBounds_toArray, List.set_cons_zero, List.set_cons_succ] at hk
                  have HK := Lib.hid hk
                  clear hd hs hk hK
                  go_simp
                  exact HK.out _ _ hj.out (Below.refl _ _) (show _ = _ from rfl)
                refine ⟨?_, ?_⟩
                · intro v w' hj hd hs K hK
                  have t5 : v 5 = _ := hd.out 5 (by kernel_rfl)
                  have hk := hK.out
                  simp only [t5, Act.put, List.setIfInBounds_toArray, List.set_cons_zero, List.set_cons_succ] at hk
                  have HK := Lib.hid hk
                  clear hd hs hk hK
                  go_simp
                  exact HK.out _ _ hj.out (Below.refl _ _) (show _ = _ from rfl)
                refine ⟨?_, ?_⟩
                · intro v w' hj hd hs K hK
                  have t6 : v 6 = _ := hd.out 6 (by kernel_rfl)
                  obtain ⟨⟨p0, p1, p2, p3⟩, q7, ⟨c0, c1, c2, c3, c4, c5, c6, c7, c8⟩⟩ := HLX.out _ hj.out.below
                  have hk := hK.out
                  simp only [t6, Act.put, List.setIfInBounds_toArray, List.set_cons_zero, List.set_cons_succ] at hk
                  have HK := Lib.hid hk
                  clear hd hs hk hK
                  go_simp
                  exact HK.out _ _ hj.out (Below.refl _ _) (show _ = _ from rfl)
                refine ⟨?_, ?_⟩
                · intro v w' hj hd hs K hK
                  have hk := hK.out
                  simp only [Act.put, List.setIfInBounds_toArray, List.set_cons_zero, List.set_cons_succ] at hk
                  have HK := Lib.hid hk
                  clear hd hs hk hK
                  go_simp
                  exact HK.out _ _ hj.out (Below.refl _ _) (show _ = _ from rfl)
                refine ⟨?_, ?_⟩
                · intro v w' hj hd hs K hK
                  have t7 : v 7 = _ := hd.out 7 (by kernel_rfl)
                  have t8 : v 8 = _ := hd.out 8 (by kernel_rfl)
                  have hk := hK.out
                  simp only [t7, t8, Act.put, List.setIfInBounds_toArray, List.set_cons_zero, List.set_cons_succ] at hk
                  have HK := Lib.hid hk
                  clear hd hs hk hK
                  go_simp
                  exact HK.out _ _ hj.out (Below.refl _ _) (show _ = _ from rfl)
                refine ⟨?_, ?_⟩
                · intro v w' hj hd hs K hK
                  have t9 : v 9 = _ := hd.out 9 (by kernel_rfl)
                  obtain ⟨⟨p0, p1, p2, p3⟩, q7, ⟨c0, c1, c2, c3, c4, c5, c6, c7, c8⟩⟩ := HLX.out _ hj.out.below
                  have hk := hK.out
                  simp only [t9, Act.put, List.setIfInBounds_toArray, List.set_cons_zero, List.set_cons_succ] at hk
                  have HK := Lib.hid hk
                  clear hd hs hk hK
                  go_simp
                  exact HK.out _ _ hj.out (Below.refl _ _) (show _ = _ from rfl)
                refine ⟨?_, ?_⟩
                · intro v w' hj hd hs K hK
                  have t10 : v 10 = _ := hd.out 10 (by kernel_rfl)
                  have hk := hK.out
                  simp only [t10, Act.put, List.setIfInBounds_toArray, List.set_cons_zero, List.set_cons_succ] at hk
                  have HK := Lib.hid hk
                  clear hd hs hk hK
                  go_simp
                  exact HK.out _ _ (hj.out.next (below1 _ _)) (below1 _ _) ⟨_, rfl, At.new _ _ _, fun h => by have := (own_lt hj.out.own h).2; omega⟩
                refine ⟨?_, ?_⟩
                · intro v w' hj hd hs K hK
                  have t1 : v 1 = _ := hd.out 1 (by kernel_rfl)
                  obtain ⟨g11, t11, a11, n11⟩ : NewSl 56 1 [.int .i64 l.kind, .string l.name, .int .i64 l.pred, .slice l.args.a l.args.n l.args.c, .string l.bind, .string l.elem, .int .i64 l.least, .int .i64 l.op, .int .i64 l.pos] (Value.ownBlock (.slice ua a uc)) (v 11) w' := hd.out 11 (by kernel_rfl)
                  have hk := hK.out
                  rw [if_pos (show Region.wanted _ _ = true from rfl)]
                  simp only [t1, t11] at hk ⊢
                  have HK := Lib.hid hk
                  clear hd hs hk hK
                  refine wp_append_keep (.tmp 52) (.tmp 62) 49 rfl (wr0.heap.size + 1) 56 il _ 9 112 Try.underlying49 hil hzl0 hzl1 hzl2 rfl (by omega) (.slice ua a uc) a (lcells (r.lits.reverse.take a)) rfl hj.out.own ⟨g11, 0, none⟩ 1 1 [.int .i64 l.kind, .string l.name, .int .i64 l.pred, .slice l.args.a l.args.n l.args.c, .string l.bind, .string l.elem, .int .i64 l.least, .int .i64 l.op, .int .i64 l.pos] rfl rfl (At.news a11) (fun u hu => by simp at hu; rcases hu with rfl | rfl | rfl | rfl | rfl | rfl | rfl | rfl | rfl <;> rfl) (by unfold maxLen; omega) (by omega) hj.out.size fun v2 w2 o1 o2 g2 => ?_
                  exact HK.out _ _ (hj.out.grew o2 g2) g2 o1
                refine ⟨?_, ?_⟩
                · intro v w' hj hd hs K hK
                  have hk := hK.out
                  simp only [Act.put, List.setIfInBounds_toArray, List.set_cons_zero, List.set_cons_succ] at hk
                  have HK := Lib.hid hk
                  clear hd hs hk hK
                  go_simp
                  exact HK.out _ _ hj.out (Below.refl _ _) (show _ = _ from rfl)
                trivial
              case hlast =>
                intro v w' hj hd K hK
                have t12 : OwnSl (wr0.heap.size + 1) 56 9 (a + 1) ((lcells (r.lits.reverse.take a)) ++ [.int .i64 l.kind, .string l.name, .int .i64 l.pred, .slice l.args.a l.args.n l.args.c, .string l.bind, .string l.elem, .int .i64 l.least, .int .i64 l.op, .int .i64 l.pos]) (v 12) w' := hd.out 12 (of_decide_eq_true (by kernel_rfl))
                have t13 : v 13 = _ := hd.out 13 (of_decide_eq_true (by kernel_rfl))
                obtain ⟨vb, vd, hvb⟩ := own_len t12
                have yf := hj.out.box.frozen 7
                obtain ⟨b0, b1, b2, b3, b4, b5, b6, b7, b8⟩ := ru_cells' hj.out.box
                have hk := hK.out
                simp only [t12, t13, Act.put, List.setIfInBounds_toArray, List.set_cons_zero, List.set_cons_succ] at hk
                simp only [hvb] at hk
                have HK := Lib.hid hk
                clear hd hk hK
                go_simp
                refine HK.out _ ?_
                have e6 := hj.out
                rw [hvb] at t12
                have hbx := e6.box.put 7 (.slice vb (a + 1) vd)
                have how := own_putne (p := ⟨wr0.heap.size, 7, none⟩) t12 (own_far t12 e6.box (by decide)) (.slice vb (a + 1) vd)
                have hbl := e6.below.setCell (p := ⟨wr0.heap.size, 7, none⟩) (Nat.le_refl _) (.slice vb (a + 1) vd)
                clear t12 hvb hj yf HK e6 b0 b1 b2 b3 b4 b5 b6 b7 b8 t13
                go_wp2_with fail
                go_roundw
                case rel => exact ⟨a + 1, b', _, by omega, by go_num, hbx, by rw [HFX.out]; exact how, hbl⟩
                case measure => first | (simp [intOf]; omega) | simp [intOf] | omega
    · have t30 : decide ((30 : Int) < (p.rus.length : Int)) = true := by simp; omega
      have t30' : decide (30 < p.rus.length) = true := by simp; omega
      unfold Pg.v at HS ⊢
      unfold Pg.vs at HAT
      clear hsm hp hnil h30
      generalize p.ra = ra at *
      generalize p.pa = pa at *
      go_enter Try.func9, Try.ntmps9
      go_wp2_with (first
        | (go_at_call 10; refine (HH.out _).mono ?_; rintro e w2 ⟨rfl, hb2⟩; have hat2 := HAT.out.next hb2; have hbw2 : Below w.heap.size w w2 := (below1 _ _).trans (hb2.mono (by simp)); obtain ⟨p0, p1, p2, p3⟩ := pg_cells hat2)
        | (go_at_call 11; refine (HS.out _ hbw2).mono ?_; rintro e w3 ⟨rfl, hb3⟩; have hbw3 := hbw2.trans (hb3.mono hbw2.size); have hat3 := hat2.next hb3; clear p0 p1 p2 p3; obtain ⟨p0, p1, p2, p3⟩ := pg_cells hat3))
      go_ret
      exact ⟨rfl, hbw3⟩
end Go.Proofs.Ytljlihimmcmlmaa
