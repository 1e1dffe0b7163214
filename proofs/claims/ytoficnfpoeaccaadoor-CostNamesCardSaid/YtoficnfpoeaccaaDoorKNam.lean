/- A variable replaced: what CostNames' estimates are. No program in sight. -/
import Derived.Test.YtoficnfpoeaccaaDoorKBeg0
import Derived.Test.YtoficnfpoeaccaaDoorKBeg1
import Derived.Test.YtoficnfpoeaccaaDoorKRef9
namespace Go.Proofs.YtoficnfpoeaccaaDoor
set_option linter.unusedVariables false
set_option linter.unusedSimpArgs false
open Go.RowKit
theorem cont_mem (l : List ByteArray) (x : ByteArray) : l.contains x = true ↔ x ∈ l := by
  rw [← hasN_contains]
  unfold hasN
  rw [List.any_eq_true]
  constructor
  · rintro ⟨y, hy, e⟩
    rw [← of_decide_eq_true e]; exact hy
  · intro h
    exact ⟨x, h, decide_eq_true rfl⟩
namespace Ko
theorem any_ren {f : Tm → Tm} {B B' : Bd} : ∀ (ts : List Tm), (∀ t ∈ ts, known B' (f t) = known B t) → (ts.map f).any (known B') = ts.any (known B)
  | [], _ => rfl
  | t :: ts, h => by
    rw [List.map_cons, List.any_cons, List.any_cons, h t (by simp), any_ren ts fun u hu => h u (List.mem_cons_of_mem _ hu)]
/-- A body whose arguments are replaced. -/
def RenB (all : List Tm) (f : Tm → Tm) (body body' : List Lt) : Prop := ∀ i : Nat, match body[i]?, body'[i]? with | some l, some m => renL f l m ∧ ∀ t ∈ l.args, t ∈ all | none, none => True | _, _ => False
theorem RenB.len {all : List Tm} {f : Tm → Tm} {body body' : List Lt} (h : RenB all f body body') : body'.length = body.length := by
  have h1 := h body.length
  have h2 := h body'.length
  rcases Nat.lt_trichotomy body.length body'.length with hl | hl | hl
  · rw [List.getElem?_eq_none (Nat.le_refl _), List.getElem?_eq_getElem hl] at h1
    exact h1.elim
  · exact hl.symm
  · rw [List.getElem?_eq_none (Nat.le_refl body'.length), List.getElem?_eq_getElem hl] at h2
    exact h2.elim
theorem runs_ren {all : List Tm} {f : Tm → Tm} (hf : ∀ (B B' : Bd) t, t ∈ all → Same all f B B' → Same all f (bindT B t) (bindT B' (f t))) {body body' : List Lt} (hb : RenB all f body body') : ∀ (o : List Int) (done : List Nat) {B B' : Bd}, Same all f B B' → runs body o done B = true → runs body' o done B' = true
  | [], _, _, _, _, _ => rfl
  | i :: o, done, B, B', h, hr => by
    have hi := hb i.toNat
    unfold runs at hr ⊢
    cases h1 : body[i.toNat]? with
    | none => rw [h1] at hr; cases hr
    | some l =>
      rw [h1] at hr hi
      cases h2 : body'[i.toNat]? with
      | none => rw [h2] at hi; exact hi.elim
      | some m =>
        rw [h2] at hi
        obtain ⟨⟨k1, k2, k3, k4⟩, hall⟩ := hi
        dsimp only at hr ⊢
        simp only [Bool.and_eq_true] at hr ⊢
        have e1 : ready B' m = ready B l := by
          unfold ready
          rw [k1, k2, k4, any_ren l.args fun t ht => h t (hall t ht), all_ren l.args fun t ht => h t (hall t ht), List.length_map]
        refine ⟨⟨hr.1.1, by rw [e1]; exact hr.1.2⟩, ?_⟩
        rw [k4]
        exact runs_ren hf hb o _ (bindL_ren hf l.args hall h) hr.2
theorem fits_ren {ss : List Sta} {all : List Tm} {f : Tm → Tm} {body body' : List Lt} (hb : RenB all f body body') (h : fits ss body = true) : fits ss body' = true := by
  unfold fits at h ⊢
  rw [List.all_eq_true] at h ⊢
  intro m hm
  obtain ⟨i, hi⟩ := List.getElem?_of_mem hm
  have hbi := hb i
  rw [hi] at hbi
  cases hl : body[i]? with
  | none => rw [hl] at hbi; exact hbi.elim
  | some l =>
    rw [hl] at hbi
    obtain ⟨⟨k1, k2, k3, k4⟩, _⟩ := hbi
    have := h l (List.mem_of_getElem? hl)
    unfold fitsL at this ⊢
    rw [k1, k3, k4, List.length_map]
    exact this
/-- The replacing of a variable by a term. -/
def put1 (name : ByteArray) (T : Tm) (t : Tm) : Tm := if t.v = name then T else t
theorem put1_eq {name : ByteArray} {T t : Tm} (h : t.v = name) : put1 name T t = T := if_pos h
theorem put1_ne {name : ByteArray} {T t : Tm} (h : t.v ≠ name) : put1 name T t = t := if_neg h
theorem var_of {t : Tm} {s : ByteArray} (h : t.v = s) (hs : s.data.toList ≠ []) : isVar t = true := by
  unfold isVar; rw [h]; exact decide_eq_true hs
/-- A new name for a variable. -/
theorem bind_new {all : List Tm} {name New : ByteArray} {N : Tm} (hN : N.v = New) (hn : name.data.toList ≠ []) (hw : New.data.toList ≠ []) (hall : ∀ t ∈ all, t.v ≠ New) (B B' : Bd) (t : Tm) (ht : t ∈ all) (h : Same all (put1 name N) B B') :
    Same all (put1 name N) (bindT B t) (bindT B' (put1 name N t)) := by
  have e1 : ∀ x : Tm, isVar (put1 name N x) = isVar x := fun x => by
    by_cases e : x.v = name
    · rw [put1_eq e, var_of e hn, var_of hN hw]
    · rw [put1_ne e]
  have e2 : ∀ x ∈ all, ∀ y ∈ all, decide ((put1 name N x).v = (put1 name N y).v) = decide (x.v = y.v) := fun x hx y hy => by
    by_cases e : x.v = name
    · by_cases e' : y.v = name
      · rw [put1_eq e, put1_eq e', e, e']; simp
      · rw [put1_eq e, put1_ne e', hN, e, decide_eq_false (fun q => hall y hy q.symm), decide_eq_false (fun q => e' q.symm)]
    · by_cases e' : y.v = name
      · rw [put1_ne e, put1_eq e', hN, e', decide_eq_false (hall x hx), decide_eq_false e]
      · rw [put1_ne e, put1_ne e']
  intro u hu
  have hu' := h u hu
  unfold known at hu' ⊢
  unfold bindT
  rw [e1] at hu' ⊢
  rw [e1, e2 t ht u hu]
  cases hv : isVar u
  · rfl
  · rw [hv] at hu'
    simp only [Bool.not_true, Bool.false_or] at hu' ⊢
    rw [hu']
theorem same_new {all : List Tm} {bd : List ByteArray} {name New : ByteArray} {N : Tm} (hN : N.v = New) (hn : name.data.toList ≠ []) (hw : New.data.toList ≠ []) (hall : ∀ t ∈ all, t.v ≠ New) (hb : New ∉ bd) :
    Same all (put1 name N) (fun x => bd.contains x) (fun x => (bd.map fun s => if s = name then New else s).contains x) := by
  have c1 : ∀ x : ByteArray, x ≠ New → x ≠ name → (bd.map fun s => if s = name then New else s).contains x = bd.contains x := fun x h1 h2 => by
    rw [Bool.eq_iff_iff, cont_mem, cont_mem, List.mem_map]
    constructor
    · rintro ⟨s, hs, e⟩
      split at e
      · exact absurd e.symm h1
      · rw [← e]; exact hs
    · intro hx
      exact ⟨x, hx, if_neg h2⟩
  have c2 : (bd.map fun s => if s = name then New else s).contains New = bd.contains name := by
    rw [Bool.eq_iff_iff, cont_mem, cont_mem, List.mem_map]
    constructor
    · rintro ⟨s, hs, e⟩
      split at e
      · rename_i h; rw [← h]; exact hs
      · rw [e] at hs; exact absurd hs hb
    · intro hx
      exact ⟨name, hx, if_pos rfl⟩
  intro t ht
  unfold known
  by_cases e : t.v = name
  · rw [put1_eq e, var_of e hn, var_of hN hw, hN, e]
    dsimp only
    rw [c2]
  · rw [put1_ne e]
    dsimp only
    rw [c1 _ (hall t ht) e]
/-- A bound variable replaced by a constant. -/
theorem bind_const {all : List Tm} {name : ByteArray} {C : Tm} (hC : isVar C = false) (hn : name.data.toList ≠ []) (B B' : Bd) (t : Tm) (ht : t ∈ all) (h : Same all (put1 name C) B B') :
    Same all (put1 name C) (bindT B t) (bindT B' (put1 name C t)) := by
  intro u hu
  have hu' := h u hu
  have ht' := h t ht
  unfold known at hu' ht' ⊢
  unfold bindT
  by_cases e' : u.v = name
  · rw [put1_eq e', hC, var_of e' hn] at hu' ⊢
    simp only [Bool.not_true, Bool.not_false, Bool.true_or, Bool.false_or] at hu' ⊢
    rw [← hu']
    rfl
  · rw [put1_ne e'] at hu' ⊢
    by_cases e : t.v = name
    · rw [put1_eq e, hC, e, decide_eq_false (p := name = u.v) (fun q => e' q.symm)]
      simp only [Bool.and_false, Bool.false_and, Bool.or_false]
      exact hu'
    · rw [put1_ne e]
      cases hv : isVar u
      · rfl
      · rw [hv] at hu'
        simp only [Bool.not_true, Bool.false_or] at hu' ⊢
        rw [hu']
theorem same_const {all : List Tm} {B : Bd} {name : ByteArray} {C : Tm} (hC : isVar C = false) (hn : name.data.toList ≠ []) (hb : B name = true) : Same all (put1 name C) B B := by
  intro t ht
  unfold known
  by_cases e : t.v = name
  · rw [put1_eq e, hC, var_of e hn, e, hb]; rfl
  · rw [put1_ne e]
end Ko
theorem ren_body {r : Rl} {f : Tm → Tm} {L : List Lt} (hl : L.length = r.body.length) (hr : ∀ (i : Nat) (l m : Lt), r.body[i]? = some l → L[i]? = some m → Ko.renL f l m) : Ko.RenB (r.body.flatMap fun l => l.args) f r.body L := fun i => by
  cases h1 : r.body[i]? with
  | none =>
    have := List.getElem?_eq_none_iff.1 h1
    rw [List.getElem?_eq_none (by omega)]
    trivial
  | some l =>
    have := (List.getElem?_eq_some_iff.1 h1).1
    rw [List.getElem?_eq_getElem (show i < L.length by omega)]
    exact ⟨hr i l _ h1 (List.getElem?_eq_getElem _), fun t ht => List.mem_flatMap.2 ⟨l, List.mem_of_getElem? h1, ht⟩⟩
theorem ren_few {ss : List Sta} {r : Rl} {f : Tm → Tm} {A : Option Addr} {c : Nat} {L : List Lt} {m n : Nat} (hl : L.length = r.body.length) (hr : ∀ (i : Nat) (l m : Lt), r.body[i]? = some l → L[i]? = some m → Ko.renL f l m) (hf : fewB ss r m n = true) : fewB ss { r with ba := A, bc := c, body := L } m n = true := by
  unfold fewB at hf ⊢
  simp only [Bool.and_eq_true, decide_eq_true_eq, List.all_eq_true] at hf ⊢
  refine ⟨⟨hf.1.1, by rw [hl]; exact hf.1.2.1, hf.1.2.2⟩, fun l' hl' => ?_, hf.2.2⟩
  obtain ⟨i, hi⟩ := List.getElem?_of_mem hl'
  have hlt := (List.getElem?_eq_some_iff.1 hi).1
  have hb := List.getElem?_eq_getElem (show i < r.body.length by omega)
  obtain ⟨_, _, _, e⟩ := hr i _ _ hb hi
  rw [e, List.length_map]
  exact hf.2.1 _ (List.mem_of_getElem? hb)
theorem ren_cost {ss : List Sta} {r : Rl} {f : Tm → Tm} {A : Option Addr} {c : Nat} {L : List Lt} {bd bd' : List ByteArray} {order : List Int} (hl : L.length = r.body.length) (hr : ∀ (i : Nat) (l m : Lt), r.body[i]? = some l → L[i]? = some m → Ko.renL f l m)
    (hf : ∀ (B B' : Ko.Bd) t, t ∈ (r.body.flatMap fun l => l.args) → Ko.Same (r.body.flatMap fun l => l.args) f B B' → Ko.Same (r.body.flatMap fun l => l.args) f (Ko.bindT B t) (Ko.bindT B' (f t)))
    (hs : Ko.Same (r.body.flatMap fun l => l.args) f (fun x => bd.contains x) (fun x => bd'.contains x)) (hg : Ko.fits ss r.body = true) (he : Ko.evaluable r.body bd order = true) :
    Ko.estimate ss { r with ba := A, bc := c, body := L } bd' order = (costN ss r bd order : Nat) := by
  have hb := ren_body hl hr
  rw [est_ok (Ko.fits_ren hb hg)]
  · unfold costN
    rw [Ko.est_ren hf hb order hs]
  · unfold Ko.evaluable at he ⊢
    rw [Bool.and_eq_true] at he ⊢
    refine ⟨?_, Ko.runs_ren hf hb order [] hs he.2⟩
    have := of_decide_eq_true he.1
    apply decide_eq_true
    dsimp only
    omega
end Go.Proofs.YtoficnfpoeaccaaDoor
namespace Go.Proofs.YtoficnfpoeaccaaDoor
set_option linter.unusedVariables false
set_option linter.unusedSimpArgs false
open Go.RowKit
def tmcells (l : List Tm) : List Value := l.flatMap Tm.fs
theorem tmcells_snoc (l : List Tm) (x : Tm) : tmcells (l ++ [x]) = tmcells l ++ x.fs := by simp [tmcells]
theorem tfs_one (x : Tm) : ∀ u ∈ x.fs, u.oneCell' = true := by
  intro u hu
  simp [Tm.fs] at hu
  rcases hu with rfl | rfl | rfl | rfl <;> rfl
theorem tfs_len (x : Tm) : x.fs.length = 4 := rfl
/-- The arguments of a literal that the call made. -/
def MLt (W : World) (B : Nat) (l : Lt) : Prop := W.ownsRow B 64 4 (.slice l.aa l.args.length l.ac) l.args.length (tmcells l.args)
theorem MLt.ok {W : World} {B : Nat} {l : Lt} (h : MLt W B l) (hi : I64 l.kind ∧ I64 l.pred ∧ I64 l.op) : LtOk W l := ⟨str_own Tm.fs tfs_len h rfl, own_cap h, hi⟩
/-- The rule that is made, the given one and the term: the first k literals are done. -/
structure RInv (w : World) (r : Rl) (T : Tm) (f : Tm → Tm) (k : Nat) (A : Option Addr) (c : Nat) (L : List Lt) (W : World) : Prop where
  out : At W (w.heap.size + 1 + 1 + 1) 38 (rcells r A k c)
  rb : At W w.heap.size 38 (rcells r r.ba r.body.length r.bc)
  tb : At W (w.heap.size + 1) 64 #[.string T.v, .int .i64 T.t, .int .i64 T.n, .string T.s]
  res : At W (w.heap.size + 1 + 1) 38 #[.string ⟨#[]⟩, .int .i64 0, .slice none 0 0, .int .i64 0, .string ⟨#[]⟩, .string ⟨#[]⟩, .int .i64 0, .slice none 0 0, .int .i64 0]
  len : L.length = k
  own : W.ownsRow w.heap.size 60 9 (.slice A k c) k (lcells L)
  each : ∀ l ∈ L, MLt W w.heap.size l
  ren : ∀ (i : Nat) (l m : Lt), r.body[i]? = some l → L[i]? = some m → Ko.renL f l m
  below : Below w.heap.size w W
/-- The literal that is made: the first n arguments are done. -/
structure LInv (wo : World) (lb : Nat) (x : Lt) (n : Nat) (A : Option Addr) (c : Nat) (ts : List Tm) (W : World) : Prop where
  box : At W lb 60 #[.int .i64 x.kind, .string x.name, .int .i64 x.pred, .slice A n c, .string x.bind, .string x.elem, .int .i64 x.least, .int .i64 x.op, .int .i64 x.pos]
  own : W.ownsRow wo.heap.size 64 4 (.slice A n c) n (tmcells ts)
  len : ts.length = n
  low : wo.heap.size ≤ lb
  below : Below wo.heap.size wo W
/-- The literal that is made of one. -/
def mLt (x : Lt) (f : Tm → Tm) (A : Option Addr) (c : Nat) : Lt := { x with aa := A, ac := c, args := x.args.map f }
theorem LInv.next {wo W W' : World} {lb n c : Nat} {x : Lt} {A : Option Addr} {ts : List Tm} (h : LInv wo lb x n A c ts W) (hb : Below W.heap.size W W') : LInv wo lb x n A c ts W' :=
  ⟨h.box.next hb, own_below h.own hb, h.len, h.low, h.below.trans (hb.mono h.below.size)⟩
/-- One argument more. -/
theorem LInv.more {wo W W5 : World} {lb n c c5 : Nat} {x : Lt} {A A5 : Option Addr} {ts : List Tm} (h : LInv wo lb x n A c ts W) {t : Tm}
    (h5 : W5.ownsRow wo.heap.size 64 4 (.slice A5 (n + 1) c5) (n + 1) (tmcells ts ++ t.fs)) (g5 : W.grownBy W5 (Value.slice A n c).ownBlock) :
    At W5 lb 60 #[.int .i64 x.kind, .string x.name, .int .i64 x.pred, .slice A n c, .string x.bind, .string x.elem, .int .i64 x.least, .int .i64 x.op, .int .i64 x.pos] ∧ LInv wo lb x (n + 1) A5 c5 (ts ++ [t]) (W5.setCell ⟨lb, 3, none⟩ (.slice A5 (n + 1) c5)) := by
  have hp := h.box.grown g5 (own_far h.own h.box (by decide))
  have hb := h.below.grown g5 h.below.size (fun q hq => (own_lt h.own hq).1)
  refine ⟨hp, hp.put 3 _, ?_, by rw [List.length_append, h.len]; rfl, h.low, hb.setCell (p := ⟨lb, 3, none⟩) h.low _⟩
  rw [tmcells_snoc]
  exact own_putne (p := ⟨lb, 3, none⟩) h5 (own_far h5 hp (by decide)) _
theorem MLt.below {W W' : World} {B : Nat} {l : Lt} (h : MLt W B l) (hb : Below W.heap.size W W') : MLt W' B l := own_below h hb
/-- One literal more. -/
theorem RInv.more {w wo W W' w5 : World} {r : Rl} {T : Tm} {f : Tm → Tm} {k c lb n c2 c5 : Nat} {A A2 A5 : Option Addr} {L : List Lt} {x : Lt} (hR : RInv w r T f k A c L wo) (hL : LInv wo lb x n A2 c2 (x.args.map f) W) (hx : r.body[k]? = some x) (hb : Below W.heap.size W W')
    (h5 : w5.ownsRow w.heap.size 60 9 (.slice A5 (k + 1) c5) (k + 1) (lcells L ++ (mLt x f A2 c2).fs)) (g5 : W'.grownBy w5 (Value.slice A k c).ownBlock) :
    At w5 (w.heap.size + 1 + 1 + 1) 38 (rcells r A k c) ∧ RInv w r T f (k + 1) A5 c5 (L ++ [mLt x f A2 c2]) (w5.setCell ⟨w.heap.size + 1 + 1 + 1, 7, none⟩ (.slice A5 (k + 1) c5)) := by
  have hbW' : Below wo.heap.size wo W' := hL.below.trans (hb.mono hL.below.size)
  have hsz := hR.below.size
  have hoW := own_below hR.own hbW'
  have hp := (hR.out.next hbW').grown g5 (own_far hoW (hR.out.next hbW') (by decide))
  have hr := (hR.rb.next hbW').grown g5 (own_far hoW (hR.rb.next hbW') (by decide))
  have ht := (hR.tb.next hbW').grown g5 (own_far hoW (hR.tb.next hbW') (by decide))
  have hs := (hR.res.next hbW').grown g5 (own_far hoW (hR.res.next hbW') (by decide))
  have hbe : Below w.heap.size w w5 := (hR.below.trans (hbW'.mono hsz)).grown g5 (by have := hbW'.size; omega) fun q hq => (own_lt hoW hq).1
  have hlen : (x.args.map f).length = n := hL.len
  have hnew : MLt W w.heap.size (mLt x f A2 c2) := by
    have := own_mono hL.own hsz
    unfold MLt mLt
    dsimp only
    rw [hlen]
    exact this
  refine ⟨hp, hp.put 7 _, hr.far (p := ⟨w.heap.size + 1 + 1 + 1, 7, none⟩) (show w.heap.size ≠ w.heap.size + 1 + 1 + 1 by omega) _, ht.far (p := ⟨w.heap.size + 1 + 1 + 1, 7, none⟩) (show w.heap.size + 1 ≠ w.heap.size + 1 + 1 + 1 by omega) _, hs.far (p := ⟨w.heap.size + 1 + 1 + 1, 7, none⟩) (show w.heap.size + 1 + 1 ≠ w.heap.size + 1 + 1 + 1 by omega) _, by simp [hR.len], ?_, ?_, ?_, hbe.setCell (p := ⟨w.heap.size + 1 + 1 + 1, 7, none⟩) (show w.heap.size ≤ w.heap.size + 1 + 1 + 1 by omega) _⟩
  · rw [lcells_snoc]
    exact own_putne (p := ⟨w.heap.size + 1 + 1 + 1, 7, none⟩) h5 (own_far h5 hp (by decide)) _
  · have hk : ∀ l, MLt W' w.heap.size l → MLt (w5.setCell ⟨w.heap.size + 1 + 1 + 1, 7, none⟩ (.slice A5 (k + 1) c5)) w.heap.size l := fun l h => by
      have h2 : MLt w5 w.heap.size l := own_kept h g5 (own_blocks h hoW (by decide))
      exact own_putne (p := ⟨w.heap.size + 1 + 1 + 1, 7, none⟩) h2 (own_far h2 hp (by decide)) _
    intro l hl
    rcases List.mem_append.1 hl with hl | hl
    · exact hk l ((hR.each l hl).below hbW')
    · obtain rfl := List.mem_singleton.1 hl
      exact hk _ (hnew.below hb)
  · intro i l m hl hm
    rw [List.getElem?_append] at hm
    split at hm
    · exact hR.ren i l m hl hm
    · rename_i hlt
      have hi : i = k := by
        have := (List.getElem?_eq_some_iff.1 hm).1
        have := hR.len
        simp at *
        omega
      subst hi
      rw [hR.len, Nat.sub_self] at hm
      obtain rfl : mLt x f A2 c2 = m := by simpa using hm
      obtain rfl := Option.some.inj (hx.symm.trans hl)
      exact ⟨rfl, rfl, rfl, rfl⟩
theorem grownr (W : World) (row : Option Nat) : W.grownBy W row := ⟨rfl, rfl, rfl, Nat.le_refl _, fun k hk _ => rfl⟩
theorem grown_put {W W' : World} {g : Nat} (h : W.grownBy W' (some g)) (i : Nat) (v : Value) : W.grownBy (W'.setCell ⟨g, i, none⟩ v) (some g) :=
  ⟨h.os, h.tape, h.output, by simpa using h.size, fun k hk hne => (Below.heap_setCell W' ⟨g, i, none⟩ v k (fun e => hne (by rw [e]))).trans (h.block k hk hne)⟩
theorem RlOk.made {w W W' : World} {r : Rl} {T : Tm} {f : Tm → Tm} {k c : Nat} {A : Option Addr} {L : List Lt} (h : RInv w r T f k A c L W) (hk : k = r.body.length) (hr : RlOk W r) (g : W.grownBy W' (some (w.heap.size + 1 + 1))) : RlOk W' { r with ba := A, bc := c, body := L } := by
  have ho := own_kept h.own g (fun q hq e => own_far h.own h.res (by decide) (by rw [hq]; exact e.symm))
  refine ⟨str_own Lt.fs lfs_len ho h.len, ?_, fun l hl => ?_⟩
  · have := own_cap ho
    have := h.len
    dsimp only
    omega
  · have hm := own_kept (h.each l hl) g (fun q hq e => own_far (h.each l hl) h.res (by decide) (by rw [hq]; exact e.symm))
    obtain ⟨i, hi⟩ := List.getElem?_of_mem (show l ∈ L from hl)
    obtain ⟨x, hx⟩ : ∃ x, r.body[i]? = some x := ⟨_, List.getElem?_eq_getElem (by have := (List.getElem?_eq_some_iff.1 hi).1; have := h.len; omega)⟩
    obtain ⟨e1, e2, e3, _⟩ := h.ren i x l hx hi
    have := (hr.each x (List.mem_of_getElem? hx)).i64
    exact MLt.ok hm (by rw [e1, e2, e3]; exact this)
set_option maxHeartbeats 2000000 in
set_option maxRecDepth 100000 in
theorem replaced_any (r : Rl) (name : ByteArray) (T : Tm) (w : World) (hr : RlOk w r) (hn : ¬ name.toList = []) (hb8 : r.body.length ≤ 8) (ha8 : ∀ l ∈ r.body, l.args.length ≤ 8) :
    Calls Tryd.prog 21 #[r.v, .string name, .agg #[.string T.v, .int .i64 T.t, .int .i64 T.n, .string T.s]] w fun e w' => (∃ (A : Option Addr) (c : Nat) (L : List Lt), e = .returned { r with ba := A, bc := c, body := L }.v ∧ RlOk w' { r with ba := A, bc := c, body := L } ∧ L.length = r.body.length ∧ ∀ (i : Nat) (l m : Lt), r.body[i]? = some l → L[i]? = some m → Ko.renL (Ko.put1 name T) l m) ∧ Below w.heap.size w w' := by
  have HR := Lib.hid (fun W (h : Below w.heap.size w W) => hr.below h)
  have H8 := Lib.hid ha8
  obtain ⟨iL, hl0, hl1, hl2, hl3⟩ := info_parts lit_info
  obtain ⟨iT, ht0, ht1, ht2, ht3⟩ := info_parts term_info
  have t0 : (name.toList == []) = false := by simpa using hn
  have HN0 := Lib.hid hn
  clear hr ha8 hn
  unfold Rl.v
  dsimp only
  go_enter Tryd.func21, Tryd.ntmps21
  go_wp2_with fail
  go_loopw [8, 9, 10, 11] (fun i _ _ _ wr => ∃ (k : Nat) (A : Option Addr) (c : Nat) (L : List Lt), k ≤ r.body.length ∧ i = .int .i64 k ∧ RInv w r T (Ko.put1 name T) k A c L wr) (fun i _ _ _ _ => r.body.length - (intOf i).toNat)
  case atStart =>
    exact ⟨0, none, 0, [], by omega, rfl, At.newAt (by simp) _ _, (((At.new w _ _).alloc _).alloc _).alloc _, ((At.newAt (by simp) _ _).alloc _).alloc _, (At.newAt (by simp) _ _).alloc _, rfl, ⟨by simp [lcells], Or.inl ⟨rfl, by simp [lcells]⟩⟩, (fun l hl => by cases hl), (fun i l m _ h => by simp at h), (((below1 _ _).alloc (by simp) _).alloc (by simp; omega) _).alloc (by simp; omega) _⟩
  case round =>
    obtain ⟨k, A, c, L, hk, rfl, hR⟩ := hrel
    obtain ⟨wo, hwo⟩ : ∃ wo, wo = wr := ⟨_, rfl⟩
    subst hwo
    obtain ⟨q0, q1, q2, q3, q4, q5, q6, q7, q8⟩ := rcells_at hR.rb
    by_cases h1 : k < r.body.length
    · have d1 : decide ((k : Int) < (r.body.length : Int)) = true := by simp; omega
      obtain ⟨x, hx⟩ : ∃ x, r.body[k]? = some x := ⟨_, List.getElem?_eq_getElem h1⟩
      obtain ⟨gb, ob, hba, hgb, x0, x1, x2, x3, x4, x5, x6, x7, x8⟩ := lt_cells (HR.out wo hR.below).body hx
      have HBA := Lib.hid hba
      have i0 : (0 : Int) ≤ (k : Int) := by omega
      have i1 : (k : Int) < (r.body.length : Int) := by omega
      rw [hba] at q7
      clear hba
      have hsz := hR.below.size
      have HRR := Lib.hid hR
      have HXX := Lib.hid hx
      go_wp2_with fail
      go_loopw [10, 11] (fun j _ wr => ∃ (n : Nat) (A2 : Option Addr) (c2 : Nat), n ≤ x.args.length ∧ j = .int .i64 n ∧ LInv wo wo.heap.size x n A2 c2 ((x.args.take n).map (Ko.put1 name T)) wr) (fun j _ _ => x.args.length - (intOf j).toNat)
      case atStart => exact ⟨0, none, 0, by omega, rfl, At.new _ _ _, ⟨by simp [tmcells], Or.inl ⟨rfl, by simp [tmcells]⟩⟩, rfl, Nat.le_refl _, below1 _ _⟩
      case round =>
        clear q0 q1 q2 q3 q4 q5 q6 q7 q8 x0 x1 x2 x3 x4 x5 x6 x7 x8 hR hx
        obtain ⟨n, A2, c2, hn2, rfl, hL⟩ := hrel
        have hwr : Below w.heap.size w wr := HRR.out.below.trans (hL.below.mono hsz)
        obtain ⟨q0, q1, q2, q3, q4, q5, q6, q7, q8⟩ := rcells_at (HRR.out.rb.next hL.below)
        obtain ⟨gb, ob, hba, hgb, x0, x1, x2, x3, x4, x5, x6, x7, x8⟩ := lt_cells (HR.out wr hwr).body HXX.out
        rw [hba] at q7
        have hx8 := H8.out x (List.mem_of_getElem? HXX.out)
        have b3 : wr.cell? ⟨wo.heap.size, 3, none⟩ = some (.slice A2 n c2) := hL.box.cell 3
        clear hba q0 q1 q2 q3 q4 q5 q6 q8 x0 x1 x2 x4 x5 x6 x7 x8
        by_cases h2 : n < x.args.length
        · have d2 : decide ((n : Int) < (x.args.length : Int)) = true := by simp; omega
          have i2 : (0 : Int) ≤ (n : Int) := by omega
          have i3 : (n : Int) < (x.args.length : Int) := by omega
          obtain ⟨t, ht⟩ : ∃ t, x.args[n]? = some t := ⟨_, List.getElem?_eq_getElem h2⟩
          obtain ⟨ga, oa, haa, hga, y0, y1, y2, y3⟩ := tm_cells ((HR.out wr hwr).each x (List.mem_of_getElem? HXX.out)).args ht
          have HAA := Lib.hid haa
          rw [haa] at x3
          have HSN := Lib.hid (show (x.args.take (n + 1)).map (Ko.put1 name T) = (x.args.take n).map (Ko.put1 name T) ++ [Ko.put1 name T t] by rw [take_more ht, List.map_append]; rfl)
          clear haa ht
          have tb := HRR.out.tb.next hL.below
          have z0 := tb.cell 0
          have z1 := tb.cell 1
          have z2 := tb.cell 2
          have z3 := tb.cell 3
          simp only [List.getElem?_toArray, List.getElem?_cons_zero, List.getElem?_cons_succ] at z0 z1 z2 z3
          have l1 := tb.lt
          have l2 := hL.box.lt
          by_cases e : t.v = name
          · have t1 : (t.v.toList == name.toList) = true := by rw [str_beq]; exact decide_eq_true e
            have t2 : (name.toList != []) = true := by simpa using HN0.out
            have HPT := Lib.hid (show Ko.put1 name T t = T from if_pos e)
            clear e
            have hWB : Below wr.heap.size wr ((wr.alloc (.cells #[.string T.v, .int .i64 T.t, .int .i64 T.n, .string T.s] 64)).alloc (.cells #[.string T.v, .int .i64 T.t, .int .i64 T.n, .string T.s] 64)) := (below1 _ _).alloc (by simp) _
            go_wp2_with (at_builtin; refine wpList_append_own _ rfl _ _ 33 rfl wo.heap.size 64 iT (.agg #[.string ⟨#[]⟩, .int .i64 0, .int .i64 0, .string ⟨#[]⟩]) 4 48 Tryd.underlying33 ht0 ht1 ht2 ht3 rfl (by decide) _ _ _ rfl (own_below hL.own hWB) ⟨wr.heap.size + 1, 0, none⟩ 1 1 (Ko.put1 name T t).fs rfl rfl ?c1 ?c2 ?c3 ?c4 ?c5 ?_)
            case c1 => rw [HPT.out]; exact At.news (xs := T.fs) (At.newAt (by simp) _ _)
            case c2 => exact tfs_one _
            case c3 => simp [maxLen]; omega
            case c4 => omega
            case c5 => have := hL.below.size; simp; omega
            intro v5 w5 o5 g5 _
            obtain ⟨A5, c5, rfl⟩ := own_len o5
            rw [← List.map_take] at o5
            obtain ⟨hp5, hL5⟩ := (hL.next hWB).more o5 g5
            have yf := hp5.frozen 3
            have yl := hp5.lt
            have yc : w5.cell? ⟨wo.heap.size, 3, none⟩ = some (.slice A2 n c2) := hp5.cell 3
            clear o5 g5 hp5
            go_wp2_with fail
            go_roundw
            case rel => exact ⟨n + 1, A5, c5, by omega, by go_num, by rw [HSN.out]; exact hL5⟩
            case measure => simp [intOf]; omega
          · have t1 : (t.v.toList == name.toList) = false := by rw [str_beq]; exact decide_eq_false e
            have HPT := Lib.hid (show Ko.put1 name T t = t from if_neg e)
            clear e
            have hWB : Below wr.heap.size wr ((wr.alloc (.cells #[.string t.v, .int .i64 t.t, .int .i64 t.n, .string t.s] 64)).alloc (.cells #[.string t.v, .int .i64 t.t, .int .i64 t.n, .string t.s] 64)) := (below1 _ _).alloc (by simp) _
            go_wp2_with (at_builtin; refine wpList_append_own _ rfl _ _ 33 rfl wo.heap.size 64 iT (.agg #[.string ⟨#[]⟩, .int .i64 0, .int .i64 0, .string ⟨#[]⟩]) 4 48 Tryd.underlying33 ht0 ht1 ht2 ht3 rfl (by decide) _ _ _ rfl (own_below hL.own hWB) ⟨wr.heap.size + 1, 0, none⟩ 1 1 (Ko.put1 name T t).fs rfl rfl ?c1 ?c2 ?c3 ?c4 ?c5 ?_)
            case c1 => rw [HPT.out]; exact At.news (xs := t.fs) (At.newAt (by simp) _ _)
            case c2 => exact tfs_one _
            case c3 => simp [maxLen]; omega
            case c4 => omega
            case c5 => have := hL.below.size; simp; omega
            intro v5 w5 o5 g5 _
            obtain ⟨A5, c5, rfl⟩ := own_len o5
            rw [← List.map_take] at o5
            obtain ⟨hp5, hL5⟩ := (hL.next hWB).more o5 g5
            have yf := hp5.frozen 3
            have yl := hp5.lt
            have yc : w5.cell? ⟨wo.heap.size, 3, none⟩ = some (.slice A2 n c2) := hp5.cell 3
            clear o5 g5 hp5
            go_wp2_with fail
            go_roundw
            case rel => exact ⟨n + 1, A5, c5, by omega, by go_num, by rw [HSN.out]; exact hL5⟩
            case measure => simp [intOf]; omega
        · have d2 : decide ((n : Int) < (x.args.length : Int)) = false := by simp; omega
          obtain rfl : n = x.args.length := by omega
          have HLL := Lib.hid (show LInv wo wo.heap.size x x.args.length A2 c2 (x.args.map (Ko.put1 name T)) wr by rw [List.take_of_length_le (Nat.le_refl _)] at hL; exact hL)
          have bb := hL.box
          have b0 : wr.cell? ⟨wo.heap.size, 0, none⟩ = some (.int .i64 x.kind) := bb.cell 0
          have b1 : wr.cell? ⟨wo.heap.size, 1, none⟩ = some (.string x.name) := bb.cell 1
          have b2 : wr.cell? ⟨wo.heap.size, 2, none⟩ = some (.int .i64 x.pred) := bb.cell 2
          have b4 : wr.cell? ⟨wo.heap.size, 4, none⟩ = some (.string x.bind) := bb.cell 4
          have b5 : wr.cell? ⟨wo.heap.size, 5, none⟩ = some (.string x.elem) := bb.cell 5
          have b6 : wr.cell? ⟨wo.heap.size, 6, none⟩ = some (.int .i64 x.least) := bb.cell 6
          have b7 : wr.cell? ⟨wo.heap.size, 7, none⟩ = some (.int .i64 x.op) := bb.cell 7
          have b8 : wr.cell? ⟨wo.heap.size, 8, none⟩ = some (.int .i64 x.pos) := bb.cell 8
          have p7 := (rcells_at (HRR.out.out.next hL.below)).2.2.2.2.2.2.2.1
          have l1 := (HRR.out.out.next hL.below).lt
          have l2 := bb.lt
          have hso := hL.below.size
          have hWB : Below wr.heap.size wr (wr.alloc (.cells #[.int .i64 x.kind, .string x.name, .int .i64 x.pred, .slice A2 x.args.length c2, .string x.bind, .string x.elem, .int .i64 x.least, .int .i64 x.op, .int .i64 x.pos] 60)) := below1 _ _
          have hoW := own_below HRR.out.own (hL.below.trans (hWB.mono hso))
          clear hL bb
          go_wp2_with (at_builtin; refine wpList_append_own _ rfl _ _ 36 rfl w.heap.size 60 iL (.agg #[.int .i64 0, .string ⟨#[]⟩, .int .i64 0, .slice none 0 0, .string ⟨#[]⟩, .string ⟨#[]⟩, .int .i64 0, .int .i64 0, .int .i64 0]) 9 112 Tryd.underlying36 hl0 hl1 hl2 hl3 rfl (by decide) _ _ _ rfl hoW ⟨wr.heap.size, 0, none⟩ 1 1 [.int .i64 x.kind, .string x.name, .int .i64 x.pred, .slice A2 x.args.length c2, .string x.bind, .string x.elem, .int .i64 x.least, .int .i64 x.op, .int .i64 x.pos] rfl rfl ?c1 ?c2 ?c3 ?c4 ?c5 ?_)
          case c1 => exact At.news (xs := [.int .i64 x.kind, .string x.name, .int .i64 x.pred, .slice A2 x.args.length c2, .string x.bind, .string x.elem, .int .i64 x.least, .int .i64 x.op, .int .i64 x.pos]) (At.newAt (by simp) _ _)
          case c2 => exact lfs_one { x with aa := A2, ac := c2 }
          case c3 => simp [maxLen]; omega
          case c4 => omega
          case c5 => simp; omega
          intro v5 w5 o5 g5 _
          obtain ⟨A5, c5, rfl⟩ := own_len o5
          have HM := Lib.hid (HRR.out.more HLL.out HXX.out hWB (f := Ko.put1 name T) (by unfold mLt Lt.fs; dsimp only; rw [List.length_map]; exact o5) g5)
          have hp5 := HM.out.1
          have yf := hp5.frozen 7
          have yl := hp5.lt
          have yc := (rcells_at hp5).2.2.2.2.2.2.2.1
          clear o5 g5 hp5 p7 b0 b1 b2 b3 b4 b5 b6 b7 b8
          go_wp2_with fail
          go_roundw
          case rel => exact ⟨k + 1, A5, c5, _, by omega, by go_num, HM.out.2⟩
          case measure => simp [intOf]; omega
    · have d1 : decide ((k : Int) < (r.body.length : Int)) = false := by simp; omega
      obtain rfl : k = r.body.length := by omega
      have HRR := Lib.hid hR
      obtain ⟨p0, p1, p2, p3, p4, p5, p6, p7, p8⟩ := rcells_at hR.out
      have hs := hR.res
      have s0 := hs.cell 0
      have s1 := hs.cell 1
      have s2 := hs.cell 2
      have s3 := hs.cell 3
      have s4 := hs.cell 4
      have s5 := hs.cell 5
      have s6 := hs.cell 6
      have s7 := hs.cell 7
      have s8 := hs.cell 8
      simp only [List.getElem?_toArray, List.getElem?_cons_zero, List.getElem?_cons_succ] at s0 s1 s2 s3 s4 s5 s6 s7 s8
      have f0 : ∀ i, wo.frozen? ⟨w.heap.size + 1 + 1, i, none⟩ = false := fun i => hs.frozen i
      have l1 := hs.lt
      clear hR hs
      go_wp2_with fail
      refine bodyPost_ret (results_cell_row rfl _ _ (w.heap.size + 1 + 1) 38 _ (0, 0) _ rfl (((((((((HRR.out.res.put 0 (.string r.name)).put 1 (.int .i64 r.pred)).put 2 (.slice r.args.a r.args.n r.args.c)).put 3 (.int .i64 r.ek)).put 4 (.string r.en)).put 5 (.string r.ev)).put 6 (.int .i64 r.ei)).put 7 (.slice A r.body.length c)).put 8 (.int .i64 r.pos)) Tryd.underlying38 rfl (by kernel_rfl)) rfl ?_
      have hg := grown_put (grown_put (grown_put (grown_put (grown_put (grown_put (grown_put (grown_put (grown_put (grownr wo (some (w.heap.size + 1 + 1))) 0 (.string r.name)) 1 (.int .i64 r.pred)) 2 (.slice r.args.a r.args.n r.args.c)) 3 (.int .i64 r.ek)) 4 (.string r.en)) 5 (.string r.ev)) 6 (.int .i64 r.ei)) 7 (.slice A r.body.length c)) 8 (.int .i64 r.pos)
      have hbl := (((((((((HRR.out.below.setCell (p := ⟨w.heap.size + 1 + 1, 0, none⟩) (show w.heap.size ≤ w.heap.size + 1 + 1 by omega) (.string r.name)).setCell (p := ⟨w.heap.size + 1 + 1, 1, none⟩) (show w.heap.size ≤ w.heap.size + 1 + 1 by omega) (.int .i64 r.pred)).setCell (p := ⟨w.heap.size + 1 + 1, 2, none⟩) (show w.heap.size ≤ w.heap.size + 1 + 1 by omega) (.slice r.args.a r.args.n r.args.c)).setCell (p := ⟨w.heap.size + 1 + 1, 3, none⟩) (show w.heap.size ≤ w.heap.size + 1 + 1 by omega) (.int .i64 r.ek)).setCell (p := ⟨w.heap.size + 1 + 1, 4, none⟩) (show w.heap.size ≤ w.heap.size + 1 + 1 by omega) (.string r.en)).setCell (p := ⟨w.heap.size + 1 + 1, 5, none⟩) (show w.heap.size ≤ w.heap.size + 1 + 1 by omega) (.string r.ev)).setCell (p := ⟨w.heap.size + 1 + 1, 6, none⟩) (show w.heap.size ≤ w.heap.size + 1 + 1 by omega) (.int .i64 r.ei)).setCell (p := ⟨w.heap.size + 1 + 1, 7, none⟩) (show w.heap.size ≤ w.heap.size + 1 + 1 by omega) (.slice A r.body.length c)).setCell (p := ⟨w.heap.size + 1 + 1, 8, none⟩) (show w.heap.size ≤ w.heap.size + 1 + 1 by omega) (.int .i64 r.pos))
      refine ⟨⟨A, c, L, by rw [HRR.out.len]; rfl, RlOk.made HRR.out rfl (HR.out wo HRR.out.below) hg, HRR.out.len, HRR.out.ren⟩, hbl⟩
end Go.Proofs.YtoficnfpoeaccaaDoor
namespace Go.Proofs.YtoficnfpoeaccaaDoor
set_option linter.unusedVariables false
set_option linter.unusedSimpArgs false
open Go.RowKit
def newS (name : ByteArray) : ByteArray := ⟨#[78, 101, 119, 95]⟩ ++ name
def othersN (name : ByteArray) (bd : List ByteArray) : List ByteArray := bd.map fun s => if s = name then newS name else s
theorem others_snoc {name : ByteArray} {bd : List ByteArray} {k : Nat} {x : ByteArray} (h : bd[k]? = some x) : othersN name (bd.take (k + 1)) = othersN name (bd.take k) ++ [if x = name then newS name else x] := by
  unfold othersN
  rw [take_more h, List.map_append]
  rfl
theorem others_len (name : ByteArray) (bd : List ByteArray) : (othersN name bd).length = bd.length := by unfold othersN; rw [List.length_map]
theorem own_nil {w : World} {B n c size : Nat} {e : TypeId} {A : Option Addr} {xs : List Value} (h : w.ownsRow B e size (.slice A n c) n xs) : A = none → c = 0 := by
  intro hn
  rcases h.2 with ⟨q, _⟩ | ⟨g, cap, cur, q, _⟩
  · injection q with _ _ q3
  · injection q with q1 _ _
    rw [hn] at q1
    cases q1
def Made (W : World) (r : Rl) (f : Tm → Tm) (A : Option Addr) (c : Nat) (L : List Lt) : Prop := RlOk W { r with ba := A, bc := c, body := L } ∧ L.length = r.body.length ∧ ∀ (i : Nat) (l m : Lt), r.body[i]? = some l → L[i]? = some m → Ko.renL f l m
theorem Made.next {W W' : World} {r : Rl} {f : Tm → Tm} {A : Option Addr} {c : Nat} {L : List Lt} (h : Made W r f A c L) (hb : Below W.heap.size W W') : Made W' r f A c L := ⟨h.1.below hb, h.2⟩
def NewR (r : Rl) (f : Tm → Tm) : Value → World → Prop := fun x W => ∃ A c L, x = .agg #[.string r.name, .int .i64 r.pred, .slice r.args.a r.args.n r.args.c, .int .i64 r.ek, .string r.en, .string r.ev, .int .i64 r.ei, .slice A r.body.length c, .int .i64 r.pos] ∧ Made W r f A c L
theorem newR_on {J : World → Prop} (r : Rl) (f : Tm → Tm) : Lasting J Onward (NewR r f) := fun x w w' _ hb ⟨A, c, L, e, h⟩ => ⟨A, c, L, e, h.next hb⟩
/-- The replaced rule, as the law asks for it. -/
theorem made_any (r : Rl) (name : ByteArray) (T : Tm) (w : World) (hr : RlOk w r) (hn : ¬ name.toList = []) (hb8 : r.body.length ≤ 8) (ha8 : ∀ l ∈ r.body, l.args.length ≤ 8) :
    Calls Tryd.prog 21 #[.agg #[.string r.name, .int .i64 r.pred, .slice r.args.a r.args.n r.args.c, .int .i64 r.ek, .string r.en, .string r.ev, .int .i64 r.ei, .slice r.ba r.body.length r.bc, .int .i64 r.pos], .string name, .agg #[.string T.v, .int .i64 T.t, .int .i64 T.n, .string T.s]] w fun e w' => (∃ (A : Option Addr) (c : Nat) (L : List Lt), e = .returned (.agg #[.string r.name, .int .i64 r.pred, .slice r.args.a r.args.n r.args.c, .int .i64 r.ek, .string r.en, .string r.ev, .int .i64 r.ei, .slice A r.body.length c, .int .i64 r.pos]) ∧ Made w' r (Ko.put1 name T) A c L) ∧ Below w.heap.size w w' :=
  (replaced_any r name T w hr hn hb8 ha8).mono fun e w' ⟨⟨A, c, L, h1, h2, h3, h4⟩, hb⟩ => ⟨⟨A, c, L, by rw [h1]; unfold Rl.v; dsimp only; rw [h3], h2, h3, h4⟩, hb⟩
/-- The estimate of a replaced rule. -/
theorem est_made {W : World} {SA A A' O : Option Addr} {sc c c' oc : Nat} {ss : List Sta} {r : Rl} {bd bd' : List ByteArray} {order : List Int} {name : ByteArray} {T : Tm} {A9 : Option Addr} {c9 : Nat} {L : List Lt}
    (hX : Ar W SA ss r A c bd O order) (hM : Made W r (Ko.put1 name T) A9 c9 L) (hT : FitS T.v) (hnm : NmAt W A' bd') (hnil : A' = none → c' = 0) (hz : ∀ s ∈ bd', FitS s) (hl : bd'.length = bd.length) (hf : fewB ss r bd.length order.length = true)
    (h1 : ∀ (B B' : Ko.Bd) t, t ∈ (r.body.flatMap fun l => l.args) → Ko.Same (r.body.flatMap fun l => l.args) (Ko.put1 name T) B B' → Ko.Same (r.body.flatMap fun l => l.args) (Ko.put1 name T) (Ko.bindT B t) (Ko.bindT B' (Ko.put1 name T t)))
    (h2 : Ko.Same (r.body.flatMap fun l => l.args) (Ko.put1 name T) (fun x => bd.contains x) (fun x => bd'.contains x)) (hg : Ko.fits ss r.body = true) (he : Ko.evaluable r.body bd order = true) :
    Calls Tryd.prog 16 #[.slice SA ss.length sc, .agg #[.string r.name, .int .i64 r.pred, .slice r.args.a r.args.n r.args.c, .int .i64 r.ek, .string r.en, .string r.ev, .int .i64 r.ei, .slice A9 r.body.length c9, .int .i64 r.pos], .slice A' bd.length c', .slice O order.length oc] W fun e w' => e = .returned (.int .i64 ((costN ss r bd order : Nat) : Int)) ∧ Below W.heap.size W w' := by
  obtain ⟨hR, hL, hr⟩ := hM
  have hzt : ∀ l ∈ L, ∀ t ∈ l.args, FitS t.v := fun l hl t ht => by
    obtain ⟨i, hi⟩ := List.getElem?_of_mem hl
    have hlt := (List.getElem?_eq_some_iff.1 hi).1
    have hb := List.getElem?_eq_getElem (show i < r.body.length by omega)
    obtain ⟨_, _, _, e⟩ := hr i _ _ hb hi
    rw [e] at ht
    obtain ⟨u, hu, rfl⟩ := List.mem_map.1 ht
    unfold Ko.put1
    split
    · exact hT
    · exact hX.zt _ (List.mem_of_getElem? hb) u hu
  have hA : Ar W SA ss { r with ba := A9, bc := c9, body := L } A' c' bd' O order := ⟨hX.env, hR, hnm, hnil, hX.od, hz, hzt⟩
  have h := hA.est (sc := sc) (oc := oc) (by rw [hl]; exact ren_few hL hr hf)
  rw [ren_cost hL hr h1 h2 hg he] at h
  unfold Rl.v at h
  dsimp only at h
  rw [hL, hl] at h
  exact h
set_option maxHeartbeats 4000000 in
set_option maxRecDepth 100000 in
theorem names_law (SA : Option Addr) (sc : Nat) (ss : List Sta) (r : Rl) (A : Option Addr) (c : Nat) (bd : List ByteArray) (O : Option Addr) (oc : Nat) (order : List Int) (name : ByteArray) (w : World) (hT : Tabs w)
    (hX : Ar w SA ss r A c bd O order) :
    Calls Tryd.prog 8 #[.slice SA ss.length sc, r.v, .slice A bd.length c, .slice O order.length oc, .string name] w fun e w' => e = .returned (.bool true) ∧ Below w.heap.size w w' := by
  have HX := Lib.hid (fun W (h : Below w.heap.size w W) => hX.below h)
  have HH := Lib.hid (fun W (h : Below w.heap.size w W) => head_any W (hT.next h))
  have hw0 : Below w.heap.size w (w.alloc (.cells #[.string r.name, .int .i64 r.pred, .slice r.args.a r.args.n r.args.c, .int .i64 r.ek, .string r.en, .string r.ev, .int .i64 r.ei, .slice r.ba r.body.length r.bc, .int .i64 r.pos] 38)) := below1 _ _
  have hat0 := At.new w 38 #[.string r.name, .int .i64 r.pred, .slice r.args.a r.args.n r.args.c, .int .i64 r.ek, .string r.en, .string r.ev, .int .i64 r.ei, .slice r.ba r.body.length r.bc, .int .i64 r.pos]
  obtain ⟨iS, hs0, hs1, hs2, hs3⟩ := info_parts s_info
  clear hX hT
  have HFEW := Lib.hid (fun W (h : Below w.heap.size w W) => (HX.out W h).few (sc := sc) (oc := oc) A bd.length c)
  have HFIT := Lib.hid (fun W (h : Below w.heap.size w W) => @Ar.fits W SA sc ss r A c bd O order (HX.out W h) bd.length)
  have HEVA := Lib.hid (fun W (h : Below w.heap.size w W) => @Ar.eval W SA ss r A c bd O oc order (HX.out W h))
  have HES := Lib.hid (fun W (h : Below w.heap.size w W) => @Ar.est W SA sc ss r A c bd O oc order (HX.out W h))
  unfold Rl.v at HFEW HFIT HEVA HES ⊢
  cases hf : fewB ss r bd.length order.length
  · rw [hf] at HFEW
    clear hf
    go_enter Tryd.func8, Tryd.ntmps8
    go_wp2_with first | (go_at_call 12; with_reducible refine (HFEW.out _ hw2).mono ?_; rintro e w5 ⟨rfl, hb5⟩; have hw5 : Below w.heap.size w w5 := hw2.trans (hb5.mono hw2.size); have hat5 := hat2.next hb5; clear e0 e1 e2 e3 e4 e5 e6 e7 e8; have e0 := (hat5).cell 0; have e1 := (hat5).cell 1; have e2 := (hat5).cell 2; have e3 := (hat5).cell 3; have e4 := (hat5).cell 4; have e5 := (hat5).cell 5; have e6 := (hat5).cell 6; have e7 := (hat5).cell 7; have e8 := (hat5).cell 8; simp only [List.getElem?_toArray, List.getElem?_cons_zero, List.getElem?_cons_succ] at e0 e1 e2 e3 e4 e5 e6 e7 e8) | (go_at_call 10; with_reducible refine (HH.out _ hw0).mono ?_; rintro e w2 ⟨rfl, hb2⟩; have hw2 : Below w.heap.size w w2 := hw0.trans (hb2.mono hw0.size); have hat2 := hat0.next hb2; skip; have e0 := (hat2).cell 0; have e1 := (hat2).cell 1; have e2 := (hat2).cell 2; have e3 := (hat2).cell 3; have e4 := (hat2).cell 4; have e5 := (hat2).cell 5; have e6 := (hat2).cell 6; have e7 := (hat2).cell 7; have e8 := (hat2).cell 8; simp only [List.getElem?_toArray, List.getElem?_cons_zero, List.getElem?_cons_succ] at e0 e1 e2 e3 e4 e5 e6 e7 e8)
    go_ret
    exact ⟨rfl, hw5⟩
  · have HF := Lib.hid hf
    rw [hf] at HFEW
    cases hg : Ko.fits ss r.body
    · have HFI := Lib.hid (fun W h => (HFIT.out W h hf))
      rw [hg] at HFI
      clear hf hg
      go_enter Tryd.func8, Tryd.ntmps8
      go_wp2_with first | (go_at_call 18; with_reducible refine (HFI.out _ hw5).mono ?_; rintro e w6 ⟨rfl, hb6⟩; have hw6 : Below w.heap.size w w6 := hw5.trans (hb6.mono hw5.size); have hat6 := hat5.next hb6; clear e0 e1 e2 e3 e4 e5 e6 e7 e8; have e0 := (hat6).cell 0; have e1 := (hat6).cell 1; have e2 := (hat6).cell 2; have e3 := (hat6).cell 3; have e4 := (hat6).cell 4; have e5 := (hat6).cell 5; have e6 := (hat6).cell 6; have e7 := (hat6).cell 7; have e8 := (hat6).cell 8; simp only [List.getElem?_toArray, List.getElem?_cons_zero, List.getElem?_cons_succ] at e0 e1 e2 e3 e4 e5 e6 e7 e8) | (go_at_call 12; with_reducible refine (HFEW.out _ hw2).mono ?_; rintro e w5 ⟨rfl, hb5⟩; have hw5 : Below w.heap.size w w5 := hw2.trans (hb5.mono hw2.size); have hat5 := hat2.next hb5; clear e0 e1 e2 e3 e4 e5 e6 e7 e8; have e0 := (hat5).cell 0; have e1 := (hat5).cell 1; have e2 := (hat5).cell 2; have e3 := (hat5).cell 3; have e4 := (hat5).cell 4; have e5 := (hat5).cell 5; have e6 := (hat5).cell 6; have e7 := (hat5).cell 7; have e8 := (hat5).cell 8; simp only [List.getElem?_toArray, List.getElem?_cons_zero, List.getElem?_cons_succ] at e0 e1 e2 e3 e4 e5 e6 e7 e8) | (go_at_call 10; with_reducible refine (HH.out _ hw0).mono ?_; rintro e w2 ⟨rfl, hb2⟩; have hw2 : Below w.heap.size w w2 := hw0.trans (hb2.mono hw0.size); have hat2 := hat0.next hb2; skip; have e0 := (hat2).cell 0; have e1 := (hat2).cell 1; have e2 := (hat2).cell 2; have e3 := (hat2).cell 3; have e4 := (hat2).cell 4; have e5 := (hat2).cell 5; have e6 := (hat2).cell 6; have e7 := (hat2).cell 7; have e8 := (hat2).cell 8; simp only [List.getElem?_toArray, List.getElem?_cons_zero, List.getElem?_cons_succ] at e0 e1 e2 e3 e4 e5 e6 e7 e8)
      go_ret
      exact ⟨rfl, hw6⟩
    · have HFI := Lib.hid (fun W h => (HFIT.out W h hf))
      rw [hg] at HFI
      have HG := Lib.hid hg
      have HEV := Lib.hid (fun W h => HEVA.out W h hf)
      cases he : Ko.evaluable r.body bd order
      · rw [he] at HEV
        clear hf hg he
        go_enter Tryd.func8, Tryd.ntmps8
        go_wp2_with first | (go_at_call 19; with_reducible refine (HEV.out _ hw6).mono ?_; rintro e w7 ⟨rfl, hb7⟩; have hw7 : Below w.heap.size w w7 := hw6.trans (hb7.mono hw6.size); have hat7 := hat6.next hb7; clear e0 e1 e2 e3 e4 e5 e6 e7 e8; have e0 := (hat7).cell 0; have e1 := (hat7).cell 1; have e2 := (hat7).cell 2; have e3 := (hat7).cell 3; have e4 := (hat7).cell 4; have e5 := (hat7).cell 5; have e6 := (hat7).cell 6; have e7 := (hat7).cell 7; have e8 := (hat7).cell 8; simp only [List.getElem?_toArray, List.getElem?_cons_zero, List.getElem?_cons_succ] at e0 e1 e2 e3 e4 e5 e6 e7 e8) | (go_at_call 18; with_reducible refine (HFI.out _ hw5).mono ?_; rintro e w6 ⟨rfl, hb6⟩; have hw6 : Below w.heap.size w w6 := hw5.trans (hb6.mono hw5.size); have hat6 := hat5.next hb6; clear e0 e1 e2 e3 e4 e5 e6 e7 e8; have e0 := (hat6).cell 0; have e1 := (hat6).cell 1; have e2 := (hat6).cell 2; have e3 := (hat6).cell 3; have e4 := (hat6).cell 4; have e5 := (hat6).cell 5; have e6 := (hat6).cell 6; have e7 := (hat6).cell 7; have e8 := (hat6).cell 8; simp only [List.getElem?_toArray, List.getElem?_cons_zero, List.getElem?_cons_succ] at e0 e1 e2 e3 e4 e5 e6 e7 e8) | (go_at_call 12; with_reducible refine (HFEW.out _ hw2).mono ?_; rintro e w5 ⟨rfl, hb5⟩; have hw5 : Below w.heap.size w w5 := hw2.trans (hb5.mono hw2.size); have hat5 := hat2.next hb5; clear e0 e1 e2 e3 e4 e5 e6 e7 e8; have e0 := (hat5).cell 0; have e1 := (hat5).cell 1; have e2 := (hat5).cell 2; have e3 := (hat5).cell 3; have e4 := (hat5).cell 4; have e5 := (hat5).cell 5; have e6 := (hat5).cell 6; have e7 := (hat5).cell 7; have e8 := (hat5).cell 8; simp only [List.getElem?_toArray, List.getElem?_cons_zero, List.getElem?_cons_succ] at e0 e1 e2 e3 e4 e5 e6 e7 e8) | (go_at_call 10; with_reducible refine (HH.out _ hw0).mono ?_; rintro e w2 ⟨rfl, hb2⟩; have hw2 : Below w.heap.size w w2 := hw0.trans (hb2.mono hw0.size); have hat2 := hat0.next hb2; skip; have e0 := (hat2).cell 0; have e1 := (hat2).cell 1; have e2 := (hat2).cell 2; have e3 := (hat2).cell 3; have e4 := (hat2).cell 4; have e5 := (hat2).cell 5; have e6 := (hat2).cell 6; have e7 := (hat2).cell 7; have e8 := (hat2).cell 8; simp only [List.getElem?_toArray, List.getElem?_cons_zero, List.getElem?_cons_succ] at e0 e1 e2 e3 e4 e5 e6 e7 e8)
        go_ret
        exact ⟨rfl, hw7⟩
      · rw [he] at HEV
        have HE1 := Lib.hid (fun W h => HES.out W h hf)
        rw [est_ok hg he] at HE1
        have HEE := Lib.hid he
        clear hf hg he
        by_cases hn : name.toList = []
        · have t0 : (name.toList == []) = true := by rw [hn]; rfl
          clear hn
          go_enter Tryd.func8, Tryd.ntmps8
          go_wp2_with first | (go_at_call 19; with_reducible refine (HEV.out _ hw6).mono ?_; rintro e w7 ⟨rfl, hb7⟩; have hw7 : Below w.heap.size w w7 := hw6.trans (hb7.mono hw6.size); have hat7 := hat6.next hb7; clear e0 e1 e2 e3 e4 e5 e6 e7 e8; have e0 := (hat7).cell 0; have e1 := (hat7).cell 1; have e2 := (hat7).cell 2; have e3 := (hat7).cell 3; have e4 := (hat7).cell 4; have e5 := (hat7).cell 5; have e6 := (hat7).cell 6; have e7 := (hat7).cell 7; have e8 := (hat7).cell 8; simp only [List.getElem?_toArray, List.getElem?_cons_zero, List.getElem?_cons_succ] at e0 e1 e2 e3 e4 e5 e6 e7 e8) | (go_at_call 18; with_reducible refine (HFI.out _ hw5).mono ?_; rintro e w6 ⟨rfl, hb6⟩; have hw6 : Below w.heap.size w w6 := hw5.trans (hb6.mono hw5.size); have hat6 := hat5.next hb6; clear e0 e1 e2 e3 e4 e5 e6 e7 e8; have e0 := (hat6).cell 0; have e1 := (hat6).cell 1; have e2 := (hat6).cell 2; have e3 := (hat6).cell 3; have e4 := (hat6).cell 4; have e5 := (hat6).cell 5; have e6 := (hat6).cell 6; have e7 := (hat6).cell 7; have e8 := (hat6).cell 8; simp only [List.getElem?_toArray, List.getElem?_cons_zero, List.getElem?_cons_succ] at e0 e1 e2 e3 e4 e5 e6 e7 e8) | (go_at_call 12; with_reducible refine (HFEW.out _ hw2).mono ?_; rintro e w5 ⟨rfl, hb5⟩; have hw5 : Below w.heap.size w w5 := hw2.trans (hb5.mono hw2.size); have hat5 := hat2.next hb5; clear e0 e1 e2 e3 e4 e5 e6 e7 e8; have e0 := (hat5).cell 0; have e1 := (hat5).cell 1; have e2 := (hat5).cell 2; have e3 := (hat5).cell 3; have e4 := (hat5).cell 4; have e5 := (hat5).cell 5; have e6 := (hat5).cell 6; have e7 := (hat5).cell 7; have e8 := (hat5).cell 8; simp only [List.getElem?_toArray, List.getElem?_cons_zero, List.getElem?_cons_succ] at e0 e1 e2 e3 e4 e5 e6 e7 e8) | (go_at_call 10; with_reducible refine (HH.out _ hw0).mono ?_; rintro e w2 ⟨rfl, hb2⟩; have hw2 : Below w.heap.size w w2 := hw0.trans (hb2.mono hw0.size); have hat2 := hat0.next hb2; skip; have e0 := (hat2).cell 0; have e1 := (hat2).cell 1; have e2 := (hat2).cell 2; have e3 := (hat2).cell 3; have e4 := (hat2).cell 4; have e5 := (hat2).cell 5; have e6 := (hat2).cell 6; have e7 := (hat2).cell 7; have e8 := (hat2).cell 8; simp only [List.getElem?_toArray, List.getElem?_cons_zero, List.getElem?_cons_succ] at e0 e1 e2 e3 e4 e5 e6 e7 e8)
          go_ret
          exact ⟨rfl, hw7⟩
        · have t0 : (name.toList == []) = false := by simpa using hn
          have HN0 := Lib.hid hn
          clear hn
          by_cases h20 : 20 < name.size
          · have d0 : decide ((20 : Int) < (name.size : Int)) = true := by simp; omega
            have n0 : decide (20 < name.size) = true := decide_eq_true h20
            go_enter Tryd.func8, Tryd.ntmps8
            go_wp2_with first | (go_at_call 19; with_reducible refine (HEV.out _ hw6).mono ?_; rintro e w7 ⟨rfl, hb7⟩; have hw7 : Below w.heap.size w w7 := hw6.trans (hb7.mono hw6.size); have hat7 := hat6.next hb7; clear e0 e1 e2 e3 e4 e5 e6 e7 e8; have e0 := (hat7).cell 0; have e1 := (hat7).cell 1; have e2 := (hat7).cell 2; have e3 := (hat7).cell 3; have e4 := (hat7).cell 4; have e5 := (hat7).cell 5; have e6 := (hat7).cell 6; have e7 := (hat7).cell 7; have e8 := (hat7).cell 8; simp only [List.getElem?_toArray, List.getElem?_cons_zero, List.getElem?_cons_succ] at e0 e1 e2 e3 e4 e5 e6 e7 e8) | (go_at_call 18; with_reducible refine (HFI.out _ hw5).mono ?_; rintro e w6 ⟨rfl, hb6⟩; have hw6 : Below w.heap.size w w6 := hw5.trans (hb6.mono hw5.size); have hat6 := hat5.next hb6; clear e0 e1 e2 e3 e4 e5 e6 e7 e8; have e0 := (hat6).cell 0; have e1 := (hat6).cell 1; have e2 := (hat6).cell 2; have e3 := (hat6).cell 3; have e4 := (hat6).cell 4; have e5 := (hat6).cell 5; have e6 := (hat6).cell 6; have e7 := (hat6).cell 7; have e8 := (hat6).cell 8; simp only [List.getElem?_toArray, List.getElem?_cons_zero, List.getElem?_cons_succ] at e0 e1 e2 e3 e4 e5 e6 e7 e8) | (go_at_call 12; with_reducible refine (HFEW.out _ hw2).mono ?_; rintro e w5 ⟨rfl, hb5⟩; have hw5 : Below w.heap.size w w5 := hw2.trans (hb5.mono hw2.size); have hat5 := hat2.next hb5; clear e0 e1 e2 e3 e4 e5 e6 e7 e8; have e0 := (hat5).cell 0; have e1 := (hat5).cell 1; have e2 := (hat5).cell 2; have e3 := (hat5).cell 3; have e4 := (hat5).cell 4; have e5 := (hat5).cell 5; have e6 := (hat5).cell 6; have e7 := (hat5).cell 7; have e8 := (hat5).cell 8; simp only [List.getElem?_toArray, List.getElem?_cons_zero, List.getElem?_cons_succ] at e0 e1 e2 e3 e4 e5 e6 e7 e8) | (go_at_call 10; with_reducible refine (HH.out _ hw0).mono ?_; rintro e w2 ⟨rfl, hb2⟩; have hw2 : Below w.heap.size w w2 := hw0.trans (hb2.mono hw0.size); have hat2 := hat0.next hb2; skip; have e0 := (hat2).cell 0; have e1 := (hat2).cell 1; have e2 := (hat2).cell 2; have e3 := (hat2).cell 3; have e4 := (hat2).cell 4; have e5 := (hat2).cell 5; have e6 := (hat2).cell 6; have e7 := (hat2).cell 7; have e8 := (hat2).cell 8; simp only [List.getElem?_toArray, List.getElem?_cons_zero, List.getElem?_cons_succ] at e0 e1 e2 e3 e4 e5 e6 e7 e8)
            go_ret
            exact ⟨rfl, hw7⟩
          · have d0 : decide ((20 : Int) < (name.size : Int)) = false := by simp; omega
            have n0 : decide (20 < name.size) = false := decide_eq_false h20
            go_enter Tryd.func8, Tryd.ntmps8
            go_wp2_with first | (go_at_call 16; with_reducible refine (HE1.out _ hw7).mono ?_; rintro e w8 ⟨rfl, hb8⟩; have hw8 : Below w.heap.size w w8 := hw7.trans (hb8.mono hw7.size); have hat8 := hat7.next hb8; clear e0 e1 e2 e3 e4 e5 e6 e7 e8; have e0 := (hat8).cell 0; have e1 := (hat8).cell 1; have e2 := (hat8).cell 2; have e3 := (hat8).cell 3; have e4 := (hat8).cell 4; have e5 := (hat8).cell 5; have e6 := (hat8).cell 6; have e7 := (hat8).cell 7; have e8 := (hat8).cell 8; simp only [List.getElem?_toArray, List.getElem?_cons_zero, List.getElem?_cons_succ] at e0 e1 e2 e3 e4 e5 e6 e7 e8) | (go_at_call 19; with_reducible refine (HEV.out _ hw6).mono ?_; rintro e w7 ⟨rfl, hb7⟩; have hw7 : Below w.heap.size w w7 := hw6.trans (hb7.mono hw6.size); have hat7 := hat6.next hb7; clear e0 e1 e2 e3 e4 e5 e6 e7 e8; have e0 := (hat7).cell 0; have e1 := (hat7).cell 1; have e2 := (hat7).cell 2; have e3 := (hat7).cell 3; have e4 := (hat7).cell 4; have e5 := (hat7).cell 5; have e6 := (hat7).cell 6; have e7 := (hat7).cell 7; have e8 := (hat7).cell 8; simp only [List.getElem?_toArray, List.getElem?_cons_zero, List.getElem?_cons_succ] at e0 e1 e2 e3 e4 e5 e6 e7 e8) | (go_at_call 18; with_reducible refine (HFI.out _ hw5).mono ?_; rintro e w6 ⟨rfl, hb6⟩; have hw6 : Below w.heap.size w w6 := hw5.trans (hb6.mono hw5.size); have hat6 := hat5.next hb6; clear e0 e1 e2 e3 e4 e5 e6 e7 e8; have e0 := (hat6).cell 0; have e1 := (hat6).cell 1; have e2 := (hat6).cell 2; have e3 := (hat6).cell 3; have e4 := (hat6).cell 4; have e5 := (hat6).cell 5; have e6 := (hat6).cell 6; have e7 := (hat6).cell 7; have e8 := (hat6).cell 8; simp only [List.getElem?_toArray, List.getElem?_cons_zero, List.getElem?_cons_succ] at e0 e1 e2 e3 e4 e5 e6 e7 e8) | (go_at_call 12; with_reducible refine (HFEW.out _ hw2).mono ?_; rintro e w5 ⟨rfl, hb5⟩; have hw5 : Below w.heap.size w w5 := hw2.trans (hb5.mono hw2.size); have hat5 := hat2.next hb5; clear e0 e1 e2 e3 e4 e5 e6 e7 e8; have e0 := (hat5).cell 0; have e1 := (hat5).cell 1; have e2 := (hat5).cell 2; have e3 := (hat5).cell 3; have e4 := (hat5).cell 4; have e5 := (hat5).cell 5; have e6 := (hat5).cell 6; have e7 := (hat5).cell 7; have e8 := (hat5).cell 8; simp only [List.getElem?_toArray, List.getElem?_cons_zero, List.getElem?_cons_succ] at e0 e1 e2 e3 e4 e5 e6 e7 e8) | (go_at_call 10; with_reducible refine (HH.out _ hw0).mono ?_; rintro e w2 ⟨rfl, hb2⟩; have hw2 : Below w.heap.size w w2 := hw0.trans (hb2.mono hw0.size); have hat2 := hat0.next hb2; skip; have e0 := (hat2).cell 0; have e1 := (hat2).cell 1; have e2 := (hat2).cell 2; have e3 := (hat2).cell 3; have e4 := (hat2).cell 4; have e5 := (hat2).cell 5; have e6 := (hat2).cell 6; have e7 := (hat2).cell 7; have e8 := (hat2).cell 8; simp only [List.getElem?_toArray, List.getElem?_cons_zero, List.getElem?_cons_succ] at e0 e1 e2 e3 e4 e5 e6 e7 e8)
            have hsz8 := hw8.size
            have HA8 := Lib.hid hat8
            obtain ⟨a, ha⟩ : ∃ a, costN ss r bd order = a := ⟨_, rfl⟩
            have HCA := Lib.hid ha
            rw [ha]
            have hFF := HF.out
            have hrb8 : r.body.length ≤ 8 := by unfold fewB at hFF; simp only [Bool.and_eq_true, decide_eq_true_eq] at hFF; omega
            have HA9 := Lib.hid (show ∀ l ∈ r.body, l.args.length ≤ 8 by unfold fewB at hFF; simp only [Bool.and_eq_true, decide_eq_true_eq, List.all_eq_true] at hFF; exact hFF.2.1)
            have hbl : bd.length ≤ 20 := by unfold fewB at hFF; simp only [Bool.and_eq_true, decide_eq_true_eq] at hFF; omega
            have hob8 : w8.ownsRow w8.heap.size 9 1 (.slice none 0 0) 0 [] := ⟨by simp, Or.inl ⟨rfl, by simp⟩⟩
            clear e0 e1 e2 e3 e4 e5 e6 e7 e8 hat8 hat7 hat6 hat5 hat2 hat0 hb2 hb5 hb6 hb7 hb8 hw2 hw5 hw6 hw7 hw0 ha hFF
            go_loopw [13, 14, 15] (fun ov is i wr => ∃ (k : Nat) (Ao : Option Addr) (co : Nat), k ≤ bd.length ∧ i = .int .i64 k ∧ is = .bool ((bd.take k).contains name) ∧ ov = .slice Ao k co ∧ wr.ownsRow w8.heap.size 9 1 (.slice Ao k co) k (ncs (othersN name (bd.take k))) ∧ Below w8.heap.size w8 wr) (fun _ _ i _ => bd.length - (intOf i).toNat)
            case atStart => exact ⟨0, none, 0, by omega, rfl, rfl, rfl, hob8, Below.refl _ _⟩
            case round =>
              obtain ⟨k, Ao, co, hk, rfl, rfl, rfl, ho, hw⟩ := hrel
              by_cases h1 : k < bd.length
              · have d1 : decide ((k : Int) < (bd.length : Int)) = true := by simp; omega
                have i0 : (0 : Int) ≤ (k : Int) := by omega
                have i1 : (k : Int) < (bd.length : Int) := by omega
                obtain ⟨x, hx⟩ : ∃ x, bd[k]? = some x := ⟨_, List.getElem?_eq_getElem h1⟩
                obtain ⟨gn, on, rfl, hgn, y0⟩ := ((HX.out wr (hw8.trans (hw.mono hsz8))).nm).at hx
                have HSN := Lib.hid (others_snoc (name := name) hx)
                have HCN := Lib.hid (show (bd.take (k + 1)).contains name = ((bd.take k).contains name || decide (x = name)) by
                  rw [Bool.eq_iff_iff, cont_mem, take_more hx, List.mem_append, List.mem_singleton, Bool.or_eq_true, cont_mem, decide_eq_true_iff]
                  exact ⟨fun h => h.imp id Eq.symm, fun h => h.imp id Eq.symm⟩)
                have hso := hw.size
                clear hx
                by_cases e : x = name
                · have t1 : (x.toList == name.toList) = true := by rw [str_beq]; exact decide_eq_true e
                  rw [if_pos e] at HSN
                  rw [decide_eq_true e, Bool.or_true] at HCN
                  have hc8 : 20 + 4 ≤ maxLen := by simp [maxLen]
                  have hWB : Below w8.heap.size w8 (wr.alloc (.cells #[.string (newS name)] 9)) := hw.alloc hso _
                  clear e
                  go_wp2_with (at_builtin; refine wpList_append_own _ rfl _ _ 39 rfl w8.heap.size 9 iS (.string ⟨#[]⟩) 1 16 Tryd.underlying39 hs0 hs1 hs2 hs3 rfl (by decide) _ _ _ rfl (ho.alloc _) ⟨wr.heap.size, 0, none⟩ 1 1 [.string (newS name)] rfl rfl ?c1 ?c2 ?c3 ?c4 ?c5 ?_)
                  case c1 => exact At.news (xs := [.string (newS name)]) (At.newAt (by simp) _ _)
                  case c2 => exact one1 rfl
                  case c3 => simp [maxLen]; omega
                  case c4 => omega
                  case c5 => simp; omega
                  intro v5 w9 o5 g5 _
                  obtain ⟨A5, c5, rfl⟩ := own_len o5
                  have hb9 : Below w8.heap.size w8 w9 := hWB.grown g5 (by simp; omega) (fun q hq => by have := (own_lt ho hq).1; omega)
                  go_wp2_with fail
                  go_roundw
                  case rel => exact ⟨k + 1, A5, c5, by omega, by go_num, by rw [HCN.out], rfl, by rw [HSN.out]; unfold ncs; rw [List.map_append]; exact o5, hb9⟩
                  case measure => simp [intOf]; omega
                · have t1 : (x.toList == name.toList) = false := by rw [str_beq]; exact decide_eq_false e
                  rw [if_neg e] at HSN
                  rw [decide_eq_false e, Bool.or_false] at HCN
                  have hWB : Below w8.heap.size w8 (wr.alloc (.cells #[.string x] 9)) := hw.alloc hso _
                  clear e
                  go_wp2_with (at_builtin; refine wpList_append_own _ rfl _ _ 39 rfl w8.heap.size 9 iS (.string ⟨#[]⟩) 1 16 Tryd.underlying39 hs0 hs1 hs2 hs3 rfl (by decide) _ _ _ rfl (ho.alloc _) ⟨wr.heap.size, 0, none⟩ 1 1 [.string x] rfl rfl ?c1 ?c2 ?c3 ?c4 ?c5 ?_)
                  case c1 => exact At.news (xs := [.string x]) (At.newAt (by simp) _ _)
                  case c2 => exact one1 rfl
                  case c3 => simp [maxLen]; omega
                  case c4 => omega
                  case c5 => simp; omega
                  intro v5 w9 o5 g5 _
                  obtain ⟨A5, c5, rfl⟩ := own_len o5
                  have hb9 : Below w8.heap.size w8 w9 := hWB.grown g5 (by simp; omega) (fun q hq => by have := (own_lt ho hq).1; omega)
                  go_wp2_with fail
                  go_roundw
                  case rel => exact ⟨k + 1, A5, c5, by omega, by go_num, by rw [HCN.out], rfl, by rw [HSN.out]; unfold ncs; rw [List.map_append]; exact o5, hb9⟩
                  case measure => simp [intOf]; omega
              · have d1 : decide ((k : Int) < (bd.length : Int)) = false := by simp; omega
                obtain rfl : k = bd.length := by omega
                rw [List.take_of_length_le (Nat.le_refl _)] at ho ⊢
                obtain ⟨wl, hwl⟩ : ∃ wl, wl = wr := ⟨_, rfl⟩
                subst hwl
                have hwL : Below w.heap.size w wl := hw8.trans (hw.mono hsz8)
                have HO := Lib.hid ho
                have hAl := HA8.out.next hw
                have e7 : wl.cell? ⟨w.heap.size, 7, none⟩ = some (.slice r.ba r.body.length r.bc) := hAl.cell 7
                have HAL := Lib.hid hAl
                have hsl := hw.size
                clear ho hAl
                obtain ⟨isB, hisB⟩ : ∃ isB, bd.contains name = isB := ⟨_, rfl⟩
                have HIS := Lib.hid hisB
                rw [hisB]
                clear hisB
                go_wp2_with fail
                go_loopw [16, 17] (fun i _ wr => ∃ (k : Nat), k ≤ r.body.length ∧ i = .int .i64 k ∧ wr = wl ∧ ∀ l ∈ r.body.take k, ∀ t ∈ l.args, t.v ≠ newS name) (fun i _ _ => r.body.length - (intOf i).toNat)
                case atStart => exact ⟨0, by omega, rfl, rfl, fun l hl => by simp at hl⟩
                case round =>
                  obtain ⟨k, hk2, rfl, hww, hno⟩ := hrel
                  replace hww := hww.symm
                  subst hww
                  have HNO := Lib.hid hno
                  clear hno
                  by_cases h2 : k < r.body.length
                  · have d2 : decide ((k : Int) < (r.body.length : Int)) = true := by simp; omega
                    have i0 : (0 : Int) ≤ (k : Int) := by omega
                    have i1 : (k : Int) < (r.body.length : Int) := by omega
                    obtain ⟨x, hx⟩ : ∃ x, r.body[k]? = some x := ⟨_, List.getElem?_eq_getElem h2⟩
                    obtain ⟨gb, ob, hba, hgb, x0, x1, x2, x3, x4, x5, x6, x7, x8⟩ := lt_cells ((HX.out wl hwL).rl).body hx
                    rw [hba] at e7
                    have HXX := Lib.hid hx
                    have hx8 := HA9.out x (List.mem_of_getElem? hx)
                    clear hba x0 x1 x2 x4 x5 x6 x7 x8 hx
                    go_wp2_with fail
                    go_loopw [17] (fun j wr => ∃ (n : Nat), n ≤ x.args.length ∧ j = .int .i64 n ∧ wr = wl ∧ ∀ t ∈ x.args.take n, t.v ≠ newS name) (fun j _ => x.args.length - (intOf j).toNat)
                    case atStart => exact ⟨0, by omega, rfl, rfl, fun t ht => by simp at ht⟩
                    case round =>
                      obtain ⟨n, hn2, rfl, hww, hno⟩ := hrel
                      replace hww := hww.symm
                      subst hww
                      have HN2 := Lib.hid hno
                      clear hno
                      by_cases h3 : n < x.args.length
                      · have d3 : decide ((n : Int) < (x.args.length : Int)) = true := by simp; omega
                        have i2 : (0 : Int) ≤ (n : Int) := by omega
                        have i3 : (n : Int) < (x.args.length : Int) := by omega
                        obtain ⟨t, ht⟩ : ∃ t, x.args[n]? = some t := ⟨_, List.getElem?_eq_getElem h3⟩
                        obtain ⟨ga, oa, haa, hga, y0, y1, y2, y3⟩ := tm_cells ((HX.out wl hwL).rl.each x (List.mem_of_getElem? HXX.out)).args ht
                        have HTT := Lib.hid ht
                        rw [haa] at x3
                        clear haa ht y1 y2 y3
                        by_cases e : t.v = newS name
                        · have t1 : (t.v.toList == ((⟨#[78, 101, 119, 95]⟩ : ByteArray) ++ name).toList) = true := by rw [str_beq]; exact decide_eq_true e
                          clear e
                          go_wp2_with fail
                          go_ret
                          exact ⟨rfl, hwL⟩
                        · have t1 : (t.v.toList == ((⟨#[78, 101, 119, 95]⟩ : ByteArray) ++ name).toList) = false := by rw [str_beq]; exact decide_eq_false e
                          have HE := Lib.hid e
                          clear e
                          go_wp2_with fail
                          go_roundw
                          case rel => exact ⟨n + 1, by omega, by go_num, trivial, fun u hu => by
                            rw [take_more HTT.out, List.mem_append, List.mem_singleton] at hu
                            rcases hu with hu | rfl
                            · exact HN2.out u hu
                            · exact HE.out⟩
                          case measure => simp [intOf]; omega
                      · have d3 : decide ((n : Int) < (x.args.length : Int)) = false := by simp; omega
                        go_wp2_with fail
                        go_roundw
                        case rel => exact ⟨k + 1, by omega, by go_num, trivial, fun l hl u hu => by
                          rw [take_more HXX.out, List.mem_append, List.mem_singleton] at hl
                          rcases hl with hl | rfl
                          · exact HNO.out l hl u hu
                          · exact HN2.out u (by rw [List.take_of_length_le (by omega)]; exact hu)⟩
                        case measure => simp [intOf]; omega
                  · have d2 : decide ((k : Int) < (r.body.length : Int)) = false := by simp; omega
                    obtain rfl : k = r.body.length := by omega
                    rw [List.take_of_length_le (Nat.le_refl _)] at HNO
                    go_wp2_with fail
                    go_loopw [18] (fun i wr => ∃ (k : Nat), k ≤ bd.length ∧ i = .int .i64 k ∧ wr = wl ∧ newS name ∉ bd.take k) (fun i _ => bd.length - (intOf i).toNat)
                    case atStart => exact ⟨0, by omega, rfl, rfl, by simp⟩
                    case round =>
                      obtain ⟨k, hk2, rfl, hww, hno⟩ := hrel
                      replace hww := hww.symm
                      subst hww
                      have HNB := Lib.hid hno
                      clear hno
                      by_cases h3 : k < bd.length
                      · have d3 : decide ((k : Int) < (bd.length : Int)) = true := by simp; omega
                        have i0 : (0 : Int) ≤ (k : Int) := by omega
                        have i1 : (k : Int) < (bd.length : Int) := by omega
                        obtain ⟨x, hx⟩ : ∃ x, bd[k]? = some x := ⟨_, List.getElem?_eq_getElem h3⟩
                        obtain ⟨gn, on, rfl, hgn, y0⟩ := (HX.out wl hwL).nm.at hx
                        have HXX := Lib.hid hx
                        clear hx
                        by_cases e : x = newS name
                        · have t1 : (x.toList == ((⟨#[78, 101, 119, 95]⟩ : ByteArray) ++ name).toList) = true := by rw [str_beq]; exact decide_eq_true e
                          clear e
                          go_wp2_with fail
                          go_ret
                          exact ⟨rfl, hwL⟩
                        · have t1 : (x.toList == ((⟨#[78, 101, 119, 95]⟩ : ByteArray) ++ name).toList) = false := by rw [str_beq]; exact decide_eq_false e
                          have HE := Lib.hid e
                          clear e
                          go_wp2_with fail
                          go_roundw
                          case rel => exact ⟨k + 1, by omega, by go_num, trivial, fun hu => by
                            rw [take_more HXX.out, List.mem_append, List.mem_singleton] at hu
                            rcases hu with hu | hu
                            · exact HNB.out hu
                            · exact HE.out hu.symm⟩
                          case measure => simp [intOf]; omega
                      · have d3 : decide ((k : Int) < (bd.length : Int)) = false := by simp; omega
                        rw [List.take_of_length_le (by omega)] at HNB
                        obtain ⟨e0, e1, e2, e3, e4, e5, e6, e7', e8⟩ := rcells_at HAL.out
                        have hna : name.data.toList ≠ [] := by rw [← Lib.toList_data]; exact HN0.out
                        have hsz4 : (newS name).size = 4 + name.size := by unfold newS; rw [ByteArray.size_append]; rfl
                        have hzn : FitS (newS name) := by have := hsz4; unfold FitS maxLen; omega
                        have hwn : (newS name).data.toList ≠ [] := fun e => by have := size_len (newS name); rw [e] at this; simp at this; omega
                        have HMA := Lib.hid (fun W (h : Below w.heap.size w W) T => made_any r name T W (HX.out W h).rl HN0.out hrb8 HA9.out)
                        have hall : ∀ t ∈ (r.body.flatMap fun l => l.args), t.v ≠ newS name := fun t ht => by
                          obtain ⟨l, hl, htl⟩ := List.mem_flatMap.1 ht
                          exact HNO.out l hl t htl
                        have HE2 := Lib.hid (fun W (h : Below wl.heap.size wl W) A9 c9 L (hM : Made W r (Ko.put1 name ⟨newS name, 0, 0, ⟨#[]⟩⟩) A9 c9 L) => est_made (sc := sc) (oc := oc) (HX.out W (hwL.trans (h.mono hwL.size))) hM hzn (own_names (l := othersN name bd) (by rw [others_len]; exact own_below HO.out h)) (own_nil HO.out) (fun s hs => by
                          unfold othersN at hs
                          obtain ⟨u, hu, rfl⟩ := List.mem_map.1 hs
                          split
                          · exact hzn
                          · exact (HX.out W (hwL.trans (h.mono hwL.size))).zb u hu) (others_len name bd) HF.out (Ko.bind_new rfl hna hwn hall) (Ko.same_new rfl hna hwn hall HNB.out) HG.out HEE.out)
                        have HE3 := Lib.hid (fun (hb : bd.contains name = true) W (h : Below w.heap.size w W) A9 c9 L (hM : Made W r (Ko.put1 name ⟨⟨#[]⟩, 1, 1, ⟨#[]⟩⟩) A9 c9 L) => est_made (sc := sc) (oc := oc) (HX.out W h) hM (show FitS ⟨#[]⟩ from Nat.zero_le _) (HX.out W h).nm (HX.out W h).nil (HX.out W h).zb rfl HF.out (Ko.bind_const rfl hna) (Ko.same_const rfl hna hb) HG.out HEE.out)
                        rw [HCA.out] at HE2 HE3
                        clear hall hna hsz4 hzn hwn hsl
                        go_wp2_with first | (go_at_call 16; with_reducible refine (HE2.out _ hbm A9 c9 L9 HM9.out).mono ?_; rintro e w10 ⟨rfl, hb10⟩) | (go_at_call 21; refine (HMA.out wl hwL ⟨newS name, 0, 0, ⟨#[]⟩⟩).mono ?_; rintro e w9 ⟨⟨A9, c9, L9, rfl, hM9⟩, hbm⟩; have HM9 := Lib.hid hM9)
                        have hw9 : Below w.heap.size w w9 := hwL.trans (hbm.mono hwL.size)
                        have hw10 : Below w.heap.size w w10 := hw9.trans (hb10.mono hw9.size)
                        have HAT := Lib.hid ((HAL.out.next hbm).next hb10)
                        clear e0 e1 e2 e3 e4 e5 e6 e7 e7' e8 hM9 HM9 HE2
                        cases isB
                        · clear HE3
                          refine' wp_region_each _ (Below w10.heap.size w10) (Onward) (Vl :: Vl :: Vl :: Vl :: Vl :: Pin undef :: Pin undef :: Pin undef :: Pin undef :: Pin undef :: Pin undef :: Pin undef :: Pin undef :: Pin undef :: Pin undef :: Pin undef :: Vl :: Vl :: Vl :: []) ?hF (by kernel_rfl) (by kernel_rfl) (by kernel_rfl) ((Below.refl _ _).drew) (lasting_cons (lasting_vl) (lasting_cons (lasting_vl) (lasting_cons (lasting_vl) (lasting_cons (lasting_vl) (lasting_cons (lasting_vl) (lasting_cons (lasting_pin _) (lasting_cons (lasting_pin _) (lasting_cons (lasting_pin _) (lasting_cons (lasting_pin _) (lasting_cons (lasting_pin _) (lasting_cons (lasting_pin _) (lasting_cons (lasting_pin _) (lasting_cons (lasting_pin _) (lasting_cons (lasting_pin _) (lasting_cons (lasting_pin _) (lasting_cons (lasting_pin _) (lasting_cons (lasting_vl) (lasting_cons (lasting_vl) (lasting_cons (lasting_vl) (lasting_none)))))))))))))))))))) ?hops ?hend
                          case hF => (intro v; simp only [over, Act.put, List.setIfInBounds_toArray, List.set_cons_zero, List.set_cons_succ, Nat.zero_add, Nat.reduceAdd]; exact rfl)
                          case hops =>
                            refine ⟨?_, ?_⟩
                            · intro v w' hj hd hs K hK
                              have hk := hK.out
                              simp only [Act.put, List.setIfInBounds_toArray, List.set_cons_zero, List.set_cons_succ] at hk
                              have HK := Lib.hid hk
                              clear hd hs hk hK
                              go_simp
                              exact HK.out _ _ hj.out (Below.refl _ _) (show _ = _ from rfl)
                            refine ⟨?_, ?_⟩
                            · intro v w' hj hd hs K hK
                              have t0 : v 0 = _ := hd.out 0 (by kernel_rfl)
                              have hk := hK.out
                              simp only [t0, Act.put, List.setIfInBounds_toArray, List.set_cons_zero, List.set_cons_succ] at hk
                              have HK := Lib.hid hk
                              clear hd hs hk hK
                              go_simp
                              exact HK.out _ _ hj.out (Below.refl _ _) (show _ = _ from rfl)
                            refine ⟨?_, ?_⟩
                            · intro v w' hj hd hs K hK
                              have t1 : v 1 = _ := hd.out 1 (by kernel_rfl)
                              have hk := hK.out
                              simp only [t1, Act.put, List.setIfInBounds_toArray, List.set_cons_zero, List.set_cons_succ] at hk
                              have HK := Lib.hid hk
                              clear hd hs hk hK
                              go_simp
                              exact HK.out _ _ hj.out (Below.refl _ _) (show _ = _ from rfl)
                            refine ⟨?_, ?_⟩
                            · intro v w' hj hd hs K hK
                              have t1 : v 1 = _ := hd.out 1 (by kernel_rfl)
                              have t2 : v 2 = _ := hd.out 2 (by kernel_rfl)
                              have hk := hK.out
                              simp only [t1, t2, Act.put, List.setIfInBounds_toArray, List.set_cons_zero, List.set_cons_succ] at hk
                              have HK := Lib.hid hk
                              clear hd hs hk hK
                              go_simp
                              exact HK.out _ _ hj.out (Below.refl _ _) (show _ = _ from rfl)
                            refine ⟨?_, ?_⟩
                            · intro v w' hj hd hs K hK
                              have t1 : v 1 = _ := hd.out 1 (by kernel_rfl)
                              have t3 : v 3 = _ := hd.out 3 (by kernel_rfl)
                              have hk := hK.out
                              simp only [t1, t3, Act.put, List.setIfInBounds_toArray, List.set_cons_zero, List.set_cons_succ] at hk
                              have HK := Lib.hid hk
                              clear hd hs hk hK
                              go_simp
                              exact HK.out _ _ hj.out (Below.refl _ _) (show _ = _ from rfl)
                            refine ⟨?_, ?_⟩
                            · intro v w' hj hd hs K hK
                              have t4 : v 4 = _ := hd.out 4 (by kernel_rfl)
                              have hk := hK.out
                              simp only [t4, Act.put, List.setIfInBounds_toArray, List.set_cons_zero, List.set_cons_succ] at hk
                              have HK := Lib.hid hk
                              clear hd hs hk hK
                              go_simp
                              exact HK.out _ _ hj.out (Below.refl _ _) (show _ = _ from rfl)
                            refine ⟨?_, ?_⟩
                            · intro v w' hj hd hs K hK
                              have t4 : v 4 = _ := hd.out 4 (by kernel_rfl)
                              have hk := hK.out
                              simp only [t4, Act.put, List.setIfInBounds_toArray, List.set_cons_zero, List.set_cons_succ] at hk
                              have HK := Lib.hid hk
                              clear hd hs hk hK
                              go_simp
                              exact HK.out _ _ hj.out (Below.refl _ _) (show _ = _ from rfl)
                            refine ⟨?_, ?_⟩
                            · intro v w' hj hd hs K hK
                              have t4 : v 4 = _ := hd.out 4 (by kernel_rfl)
                              have hk := hK.out
                              simp only [t4, Act.put, List.setIfInBounds_toArray, List.set_cons_zero, List.set_cons_succ] at hk
                              have HK := Lib.hid hk
                              clear hd hs hk hK
                              go_simp
                              exact HK.out _ _ hj.out (Below.refl _ _) (show _ = _ from rfl)
                            refine ⟨?_, ?_⟩
                            · intro v w' hj hd hs K hK
                              have t4 : v 4 = _ := hd.out 4 (by kernel_rfl)
                              have hk := hK.out
                              simp only [t4, Act.put, List.setIfInBounds_toArray, List.set_cons_zero, List.set_cons_succ] at hk
                              have HK := Lib.hid hk
                              clear hd hs hk hK
                              go_simp
                              exact HK.out _ _ hj.out (Below.refl _ _) (show _ = _ from rfl)
                            refine ⟨?_, ?_⟩
                            · intro v w' hj hd hs K hK
                              have t4 : v 4 = _ := hd.out 4 (by kernel_rfl)
                              have hk := hK.out
                              simp only [t4, Act.put, List.setIfInBounds_toArray, List.set_cons_zero, List.set_cons_succ] at hk
                              have HK := Lib.hid hk
                              clear hd hs hk hK
                              go_simp
                              exact HK.out _ _ hj.out (Below.refl _ _) (show _ = _ from rfl)
                            refine ⟨?_, ?_⟩
                            · intro v w' hj hd hs K hK
                              have t4 : v 4 = _ := hd.out 4 (by kernel_rfl)
                              have hk := hK.out
                              simp only [t4, Act.put, List.setIfInBounds_toArray, List.set_cons_zero, List.set_cons_succ] at hk
                              have HK := Lib.hid hk
                              clear hd hs hk hK
                              go_simp
                              exact HK.out _ _ hj.out (Below.refl _ _) (show _ = _ from rfl)
                            refine ⟨?_, ?_⟩
                            · intro v w' hj hd hs K hK
                              have t4 : v 4 = _ := hd.out 4 (by kernel_rfl)
                              have hk := hK.out
                              simp only [t4, Act.put, List.setIfInBounds_toArray, List.set_cons_zero, List.set_cons_succ] at hk
                              have HK := Lib.hid hk
                              clear hd hs hk hK
                              go_simp
                              exact HK.out _ _ hj.out (Below.refl _ _) (show _ = _ from rfl)
                            refine ⟨?_, ?_⟩
                            · intro v w' hj hd hs K hK
                              have t4 : v 4 = _ := hd.out 4 (by kernel_rfl)
                              have hk := hK.out
                              simp only [t4, Act.put, List.setIfInBounds_toArray, List.set_cons_zero, List.set_cons_succ] at hk
                              have HK := Lib.hid hk
                              clear hd hs hk hK
                              go_simp
                              exact HK.out _ _ hj.out (Below.refl _ _) (show _ = _ from rfl)
                            refine ⟨?_, ?_⟩
                            · intro v w' hj hd hs K hK
                              have t4 : v 4 = _ := hd.out 4 (by kernel_rfl)
                              have hk := hK.out
                              simp only [t4, Act.put, List.setIfInBounds_toArray, List.set_cons_zero, List.set_cons_succ] at hk
                              have HK := Lib.hid hk
                              clear hd hs hk hK
                              go_simp
                              exact HK.out _ _ hj.out (Below.refl _ _) (show _ = _ from rfl)
                            refine ⟨?_, ?_⟩
                            · intro v w' hj hd hs K hK
                              have t4 : v 4 = _ := hd.out 4 (by kernel_rfl)
                              have hk := hK.out
                              simp only [t4, Act.put, List.setIfInBounds_toArray, List.set_cons_zero, List.set_cons_succ] at hk
                              have HK := Lib.hid hk
                              clear hd hs hk hK
                              go_simp
                              exact HK.out _ _ hj.out (Below.refl _ _) (show _ = _ from rfl)
                            refine ⟨?_, ?_⟩
                            · intro v w' hj hd hs K hK
                              have t4 : v 4 = _ := hd.out 4 (by kernel_rfl)
                              have hk := hK.out
                              simp only [t4, Act.put, List.setIfInBounds_toArray, List.set_cons_zero, List.set_cons_succ] at hk
                              have HK := Lib.hid hk
                              clear hd hs hk hK
                              go_simp
                              exact HK.out _ _ hj.out (Below.refl _ _) (show _ = _ from rfl)
                            refine ⟨?_, ?_⟩
                            · intro v w' hj hd hs K hK
                              have t1 : v 1 = _ := hd.out 1 (by kernel_rfl)
                              have t4 : v 4 = _ := hd.out 4 (by kernel_rfl)
                              have t15 : v 15 = _ := hd.out 15 (by kernel_rfl)
                              have hk := hK.out
                              simp only [t1, t4, t15, Act.put, List.setIfInBounds_toArray, List.set_cons_zero, List.set_cons_succ] at hk
                              have HK := Lib.hid hk
                              clear hd hs hk hK
                              go_simp
                              exact HK.out _ _ hj.out (Below.refl _ _) (show _ = _ from rfl)
                            refine ⟨?_, ?_⟩
                            · intro v w' hj hd hs K hK
                              have t1 : v 1 = _ := hd.out 1 (by kernel_rfl)
                              have t16 : v 16 = _ := hd.out 16 (by kernel_rfl)
                              have hk := hK.out
                              simp only [t1, t16, Act.put, List.setIfInBounds_toArray, List.set_cons_zero, List.set_cons_succ] at hk
                              have HK := Lib.hid hk
                              clear hd hs hk hK
                              go_simp
                              exact HK.out _ _ hj.out (Below.refl _ _) (show _ = _ from rfl)
                            refine ⟨?_, ?_⟩
                            · intro v w' hj hd hs K hK
                              have t17 : v 17 = _ := hd.out 17 (by kernel_rfl)
                              have hk := hK.out
                              simp only [t17, Act.put, List.setIfInBounds_toArray, List.set_cons_zero, List.set_cons_succ] at hk
                              have HK := Lib.hid hk
                              clear hd hs hk hK
                              go_simp
                              exact HK.out _ _ hj.out (Below.refl _ _) (show _ = _ from rfl)
                            trivial
                          case hend =>
                            intro v w12 hj hd
                            have t18 : v 18 = _ := hd.out 18 (of_decide_eq_true (by kernel_rfl))
                            simp only [t18]
                            have hb12 := hj.out
                            clear hj hd t18
                            go_wp2_with fail
                            go_ret
                            exact ⟨rfl, hw10.trans (hb12.mono hw10.size)⟩
                        · have HE4 := Lib.hid (HE3.out HIS.out)
                          clear HE3
                          refine' wp_region_each _ (Below w10.heap.size w10) (Onward) (Vl :: Vl :: Vl :: Vl :: Vl :: Vl :: Vl :: Vl :: Vl :: Vl :: NewR r (Ko.put1 name ⟨⟨#[]⟩, 1, 1, ⟨#[]⟩⟩) :: Vl :: Vl :: Vl :: Vl :: Vl :: Vl :: Vl :: Vl :: []) ?hF (by kernel_rfl) (by kernel_rfl) (by kernel_rfl) ((Below.refl _ _).drew) (lasting_cons (lasting_vl) (lasting_cons (lasting_vl) (lasting_cons (lasting_vl) (lasting_cons (lasting_vl) (lasting_cons (lasting_vl) (lasting_cons (lasting_vl) (lasting_cons (lasting_vl) (lasting_cons (lasting_vl) (lasting_cons (lasting_vl) (lasting_cons (lasting_vl) (lasting_cons (newR_on _ _) (lasting_cons (lasting_vl) (lasting_cons (lasting_vl) (lasting_cons (lasting_vl) (lasting_cons (lasting_vl) (lasting_cons (lasting_vl) (lasting_cons (lasting_vl) (lasting_cons (lasting_vl) (lasting_cons (lasting_vl) (lasting_none)))))))))))))))))))) ?hops ?hend
                          case hF => (intro v; simp only [over, Act.put, List.setIfInBounds_toArray, List.set_cons_zero, List.set_cons_succ, Nat.zero_add, Nat.reduceAdd]; exact rfl)
                          case hops =>
                            refine ⟨?_, ?_⟩
                            · intro v w' hj hd hs K hK
                              have hk := hK.out
                              simp only [Act.put, List.setIfInBounds_toArray, List.set_cons_zero, List.set_cons_succ] at hk
                              have HK := Lib.hid hk
                              clear hd hs hk hK
                              go_simp
                              exact HK.out _ _ hj.out (Below.refl _ _) (show _ = _ from rfl)
                            refine ⟨?_, ?_⟩
                            · intro v w' hj hd hs K hK
                              have t0 : v 0 = _ := hd.out 0 (by kernel_rfl)
                              have hk := hK.out
                              simp only [t0, Act.put, List.setIfInBounds_toArray, List.set_cons_zero, List.set_cons_succ] at hk
                              have HK := Lib.hid hk
                              clear hd hs hk hK
                              go_simp
                              exact HK.out _ _ hj.out (Below.refl _ _) (show _ = _ from rfl)
                            refine ⟨?_, ?_⟩
                            · intro v w' hj hd hs K hK
                              have t1 : v 1 = _ := hd.out 1 (by kernel_rfl)
                              have hk := hK.out
                              simp only [t1, Act.put, List.setIfInBounds_toArray, List.set_cons_zero, List.set_cons_succ] at hk
                              have HK := Lib.hid hk
                              clear hd hs hk hK
                              go_simp
                              exact HK.out _ _ hj.out (Below.refl _ _) (show _ = _ from rfl)
                            refine ⟨?_, ?_⟩
                            · intro v w' hj hd hs K hK
                              have t1 : v 1 = _ := hd.out 1 (by kernel_rfl)
                              have t2 : v 2 = _ := hd.out 2 (by kernel_rfl)
                              have hk := hK.out
                              simp only [t1, t2, Act.put, List.setIfInBounds_toArray, List.set_cons_zero, List.set_cons_succ] at hk
                              have HK := Lib.hid hk
                              clear hd hs hk hK
                              go_simp
                              exact HK.out _ _ hj.out (Below.refl _ _) (show _ = _ from rfl)
                            refine ⟨?_, ?_⟩
                            · intro v w' hj hd hs K hK
                              have t1 : v 1 = _ := hd.out 1 (by kernel_rfl)
                              have t3 : v 3 = _ := hd.out 3 (by kernel_rfl)
                              have hk := hK.out
                              simp only [t1, t3, Act.put, List.setIfInBounds_toArray, List.set_cons_zero, List.set_cons_succ] at hk
                              have HK := Lib.hid hk
                              clear hd hs hk hK
                              go_simp
                              exact HK.out _ _ hj.out (Below.refl _ _) (show _ = _ from rfl)
                            refine ⟨?_, ?_⟩
                            · intro v w' hj hd hs K hK
                              have t4 : v 4 = _ := hd.out 4 (by kernel_rfl)
                              have hk := hK.out
                              simp only [t4, Act.put, List.setIfInBounds_toArray, List.set_cons_zero, List.set_cons_succ] at hk
                              have HK := Lib.hid hk
                              clear hd hs hk hK
                              go_simp
                              exact HK.out _ _ hj.out (Below.refl _ _) (show _ = _ from rfl)
                            refine ⟨?_, ?_⟩
                            · intro v w' hj hd hs K hK
                              have t4 : v 4 = _ := hd.out 4 (by kernel_rfl)
                              obtain ⟨e0, e1, e2, e3, e4, e5, e6, e7, e8⟩ := rcells_at (HAT.out.next hj.out)
                              have hk := hK.out
                              simp only [t4, Act.put, List.setIfInBounds_toArray, List.set_cons_zero, List.set_cons_succ] at hk
                              have HK := Lib.hid hk
                              clear hd hs hk hK
                              go_simp
                              exact HK.out _ _ hj.out (Below.refl _ _) (show _ = _ from rfl)
                            refine ⟨?_, ?_⟩
                            · intro v w' hj hd hs K hK
                              have t4 : v 4 = _ := hd.out 4 (by kernel_rfl)
                              have hk := hK.out
                              simp only [t4, Act.put, List.setIfInBounds_toArray, List.set_cons_zero, List.set_cons_succ] at hk
                              have HK := Lib.hid hk
                              clear hd hs hk hK
                              go_simp
                              exact HK.out _ _ hj.out (Below.refl _ _) (show _ = _ from rfl)
                            refine ⟨?_, ?_⟩
                            · intro v w' hj hd hs K hK
                              have t4 : v 4 = _ := hd.out 4 (by kernel_rfl)
                              have hk := hK.out
                              simp only [t4, Act.put, List.setIfInBounds_toArray, List.set_cons_zero, List.set_cons_succ] at hk
                              have HK := Lib.hid hk
                              clear hd hs hk hK
                              go_simp
                              refine (int02_any 1 w').mono ?_
                              rintro e w11 ⟨rfl, hb11⟩
                              exact HK.out _ _ (hj.out.trans (hb11.mono hj.out.size)) hb11 (show _ = _ from rfl)
                            refine ⟨?_, ?_⟩
                            · intro v w' hj hd hs K hK
                              have t4 : v 4 = _ := hd.out 4 (by kernel_rfl)
                              have t8 : v 8 = _ := hd.out 8 (by kernel_rfl)
                              have hk := hK.out
                              simp only [t4, t8, Act.put, List.setIfInBounds_toArray, List.set_cons_zero, List.set_cons_succ] at hk
                              have HK := Lib.hid hk
                              clear hd hs hk hK
                              go_simp
                              exact HK.out _ _ hj.out (Below.refl _ _) (show _ = _ from rfl)
                            refine ⟨?_, ?_⟩
                            · intro v w' hj hd hs K hK
                              have t4 : v 4 = _ := hd.out 4 (by kernel_rfl)
                              have t6 : v 6 = _ := hd.out 6 (by kernel_rfl)
                              have t7 : v 7 = _ := hd.out 7 (by kernel_rfl)
                              have t9 : v 9 = _ := hd.out 9 (by kernel_rfl)
                              have hk := hK.out
                              simp only [t4, t6, t7, t9, Act.put, List.setIfInBounds_toArray, List.set_cons_zero, List.set_cons_succ] at hk
                              have HK := Lib.hid hk
                              clear hd hs hk hK
                              go_simp
                              refine (HMA.out w' (hw10.trans (hj.out.mono hw10.size)) ⟨⟨#[]⟩, 1, 1, ⟨#[]⟩⟩).mono ?_
                              rintro e w11 ⟨⟨A11, c11, L11, rfl, hM11⟩, hb11⟩
                              exact HK.out _ _ (hj.out.trans (hb11.mono hj.out.size)) hb11 ⟨_, _, _, rfl, hM11⟩
                            refine ⟨?_, ?_⟩
                            · intro v w' hj hd hs K hK
                              have t4 : v 4 = _ := hd.out 4 (by kernel_rfl)
                              have hk := hK.out
                              simp only [t4, Act.put, List.setIfInBounds_toArray, List.set_cons_zero, List.set_cons_succ] at hk
                              have HK := Lib.hid hk
                              clear hd hs hk hK
                              go_simp
                              exact HK.out _ _ hj.out (Below.refl _ _) (show _ = _ from rfl)
                            refine ⟨?_, ?_⟩
                            · intro v w' hj hd hs K hK
                              have t4 : v 4 = _ := hd.out 4 (by kernel_rfl)
                              have hk := hK.out
                              simp only [t4, Act.put, List.setIfInBounds_toArray, List.set_cons_zero, List.set_cons_succ] at hk
                              have HK := Lib.hid hk
                              clear hd hs hk hK
                              go_simp
                              exact HK.out _ _ hj.out (Below.refl _ _) (show _ = _ from rfl)
                            refine ⟨?_, ?_⟩
                            · intro v w' hj hd hs K hK
                              have t4 : v 4 = _ := hd.out 4 (by kernel_rfl)
                              have t5 : v 5 = _ := hd.out 5 (by kernel_rfl)
                              obtain ⟨A10, c10, L10, t10, hM10⟩ : NewR r (Ko.put1 name ⟨⟨#[]⟩, 1, 1, ⟨#[]⟩⟩) (v 10) w' := hd.out 10 (by kernel_rfl)
                              have t11 : v 11 = _ := hd.out 11 (by kernel_rfl)
                              have t12 : v 12 = _ := hd.out 12 (by kernel_rfl)
                              have hk := hK.out
                              simp only [t4, t5, t10, t11, t12, Act.put, List.setIfInBounds_toArray, List.set_cons_zero, List.set_cons_succ] at hk
                              have HK := Lib.hid hk
                              clear hd hs hk hK
                              go_simp
                              refine (HE4.out w' (hw10.trans (hj.out.mono hw10.size)) A10 c10 L10 hM10).mono ?_
                              rintro e w11 ⟨rfl, hb11⟩
                              exact HK.out _ _ (hj.out.trans (hb11.mono hj.out.size)) hb11 (show _ = _ from rfl)
                            refine ⟨?_, ?_⟩
                            · intro v w' hj hd hs K hK
                              have t4 : v 4 = _ := hd.out 4 (by kernel_rfl)
                              have hk := hK.out
                              simp only [t4, Act.put, List.setIfInBounds_toArray, List.set_cons_zero, List.set_cons_succ] at hk
                              have HK := Lib.hid hk
                              clear hd hs hk hK
                              go_simp
                              exact HK.out _ _ hj.out (Below.refl _ _) (show _ = _ from rfl)
                            refine ⟨?_, ?_⟩
                            · intro v w' hj hd hs K hK
                              have t4 : v 4 = _ := hd.out 4 (by kernel_rfl)
                              have t13 : v 13 = _ := hd.out 13 (by kernel_rfl)
                              have t14 : v 14 = _ := hd.out 14 (by kernel_rfl)
                              have hk := hK.out
                              simp only [t4, t13, t14, Act.put, List.setIfInBounds_toArray, List.set_cons_zero, List.set_cons_succ] at hk
                              have HK := Lib.hid hk
                              clear hd hs hk hK
                              go_simp
                              exact HK.out _ _ hj.out (Below.refl _ _) (show _ = _ from rfl)
                            refine ⟨?_, ?_⟩
                            · intro v w' hj hd hs K hK
                              have t1 : v 1 = _ := hd.out 1 (by kernel_rfl)
                              have t4 : v 4 = _ := hd.out 4 (by kernel_rfl)
                              have t15 : v 15 = _ := hd.out 15 (by kernel_rfl)
                              have hk := hK.out
                              simp only [t1, t4, t15, Act.put, List.setIfInBounds_toArray, List.set_cons_zero, List.set_cons_succ] at hk
                              have HK := Lib.hid hk
                              clear hd hs hk hK
                              go_simp
                              exact HK.out _ _ hj.out (Below.refl _ _) (show _ = _ from rfl)
                            refine ⟨?_, ?_⟩
                            · intro v w' hj hd hs K hK
                              have t1 : v 1 = _ := hd.out 1 (by kernel_rfl)
                              have t16 : v 16 = _ := hd.out 16 (by kernel_rfl)
                              have hk := hK.out
                              simp only [t1, t16, Act.put, List.setIfInBounds_toArray, List.set_cons_zero, List.set_cons_succ] at hk
                              have HK := Lib.hid hk
                              clear hd hs hk hK
                              go_simp
                              exact HK.out _ _ hj.out (Below.refl _ _) (show _ = _ from rfl)
                            refine ⟨?_, ?_⟩
                            · intro v w' hj hd hs K hK
                              have t17 : v 17 = _ := hd.out 17 (by kernel_rfl)
                              have hk := hK.out
                              simp only [t17, Act.put, List.setIfInBounds_toArray, List.set_cons_zero, List.set_cons_succ] at hk
                              have HK := Lib.hid hk
                              clear hd hs hk hK
                              go_simp
                              exact HK.out _ _ hj.out (Below.refl _ _) (show _ = _ from rfl)
                            trivial
                          case hend =>
                            intro v w12 hj hd
                            have t18 : v 18 = _ := hd.out 18 (of_decide_eq_true (by kernel_rfl))
                            simp only [t18]
                            have hb12 := hj.out
                            clear hj hd t18
                            go_wp2_with fail
                            go_ret
                            exact ⟨rfl, hw10.trans (hb12.mono hw10.size)⟩
end Go.Proofs.YtoficnfpoeaccaaDoor
