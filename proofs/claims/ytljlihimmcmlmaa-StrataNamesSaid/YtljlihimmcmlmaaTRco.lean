/- A list of rows of numbers, of the call's own. -/
import Derived.Test.YtljlihimmcmlmaaTMxo
import Derived.Test.YtljlihimmcmlmaaTInfo
import Derived.Test.YtljlihimmcmlmaaTDep
namespace Go.Proofs.Ytljlihimmcmlmaa
set_option linter.unusedVariables false
set_option linter.unusedSimpArgs false
open Go.RowKit
def ncells (row : List Nat) : List Value := row.map fun (x : Nat) => .int .i64 (x : Int)
theorem ncells_len (row : List Nat) : (ncells row).length = row.length := by simp [ncells]
theorem ncells_snoc (row : List Nat) (x : Nat) : ncells (row ++ [x]) = ncells row ++ [.int .i64 (x : Int)] := by simp [ncells]
theorem ncells_get {row : List Nat} {j x : Nat} (h : row[j]? = some x) : (ncells row)[j]? = some (.int .i64 (x : Int)) := by simp [ncells, h]
structure LsOwn (w : World) (B : Nat) (v : Value) (hs : List Value) (F : List (List Nat)) : Prop where
  own : w.ownsRow B 42 1 v F.length hs
  rows : ∀ (a : Nat) (u : Value) (row : List Nat), hs[a]? = some u → F[a]? = some row → w.ownsRow B 3 1 u row.length (ncells row)
/-- The rows lie in blocks below T. -/
def Tops (hs : List Value) (T : Nat) : Prop := ∀ u ∈ hs, ∀ g, u.ownBlock = some g → g < T
theorem Tops.mono {hs : List Value} {T T' : Nat} (h : Tops hs T) (hT : T ≤ T') : Tops hs T' := fun u hu g hg => Nat.lt_of_lt_of_le (h u hu g hg) hT
theorem Tops.snoc {hs : List Value} {T : Nat} {u : Value} (h : Tops hs T) (hu : ∀ g, u.ownBlock = some g → g < T) : Tops (hs ++ [u]) T := fun x hx => by
  simp at hx
  rcases hx with hx | rfl
  · exact h x hx
  · exact hu
section
variable {w w' : World} {B : Nat} {v v' : Value} {hs : List Value} {F : List (List Nat)}
theorem LsOwn.len (h : LsOwn w B v hs F) : hs.length = F.length := by have := h.own.1; omega
theorem LsOwn.below (h : LsOwn w B v hs F) (hb : Below w.heap.size w w') : LsOwn w' B v hs F := ⟨own_below h.own hb, fun a u row h1 h2 => own_below (h.rows a u row h1 h2) hb⟩
theorem LsOwn.grown (h : LsOwn w B v hs F) {row : Option Nat} (hg : w.grownBy w' row) (h1 : ∀ b, v.ownBlock = some b → row ≠ some b) (h2 : ∀ u ∈ hs, ∀ b, u.ownBlock = some b → row ≠ some b) : LsOwn w' B v hs F :=
  ⟨own_grown h.own hg h1, fun a u r e1 e2 => own_grown (h.rows a u r e1 e2) hg (h2 u (List.mem_of_getElem? e1))⟩
theorem LsOwn.put (h : LsOwn w B v hs F) {g : Nat} {t : TypeId} {cs : Array Value} (hat : At w g t cs) (h1 : t ≠ 42) (h2 : t ≠ 3) (o : Nat) (x : Value) : LsOwn (w.setCell ⟨g, o, none⟩ x) B v hs F :=
  ⟨own_putne (p := ⟨g, o, none⟩) h.own (own_far h.own hat h1) x, fun a u r e1 e2 => own_putne (p := ⟨g, o, none⟩) (h.rows a u r e1 e2) (own_far (h.rows a u r e1 e2) hat h2) x⟩
theorem LsOwn.empty (w : World) (B : Nat) (hB : B ≤ w.heap.size) : LsOwn (w.alloc (.cells #[] 42)) B (.slice (some ⟨w.heap.size, 0, none⟩) 0 0) [] [] :=
  ⟨own_empty w 42 1 B hB, fun a u row h1 h2 => by simp at h2⟩
theorem LsOwn.nil (w : World) (B : Nat) : LsOwn w B (.slice none 0 0) [] [] :=
  ⟨World.ownsRow_nil _ _ _ _, fun a u row h1 h2 => by simp at h2⟩
theorem LsOwn.snoc (h : LsOwn w B v hs F) {u : Value} {row : List Nat} (hu : w.ownsRow B 3 1 u row.length (ncells row))
    (hown : w'.ownsRow B 42 1 v' (F.length + 1) (hs ++ [u])) (hg : w.grownBy w' v.ownBlock) : LsOwn w' B v' (hs ++ [u]) (F ++ [row]) := by
  refine ⟨by simpa using hown, fun a x r h1 h2 => ?_⟩
  have hl := h.len
  by_cases ha : a < hs.length
  · rw [List.getElem?_append_left ha] at h1
    rw [List.getElem?_append_left (by omega)] at h2
    have hr := h.rows a x r h1 h2
    exact own_grown hr hg (own_apart hr h.own (by decide))
  · rw [List.getElem?_append_right (by omega)] at h1
    rw [List.getElem?_append_right (by omega), ← hl] at h2
    obtain ⟨e1, rfl⟩ : a - hs.length = 0 ∧ x = u := by
      cases hq : a - hs.length with
      | zero => rw [hq] at h1; simp at h1; exact ⟨rfl, h1.symm⟩
      | succ k => rw [hq] at h1; simp at h1
    rw [e1] at h2
    obtain rfl : row = r := by simpa using h2
    exact own_grown hu hg (own_apart hu h.own (by decide))
theorem numsN_own {u : Value} {row : List Nat} {n : Nat} (h : w.ownsRow B 3 1 u n (ncells row)) : ∃ A c, u = .slice A row.length c ∧ NumsN w A row := by
  have hl := h.1
  rw [ncells_len] at hl
  obtain ⟨A, c, rfl, _, _, h2⟩ := own_cells h
  refine ⟨A, c, by rw [hl, Nat.mul_one], fun hn => ?_⟩
  rcases h2 with h2 | ⟨g, rfl, h3, h4, h5⟩
  · exact absurd (List.eq_nil_of_length_eq_zero (by omega)) hn
  · exact ⟨g, 0, rfl, h4, fun j x hx => by rw [Nat.zero_add]; exact h5 j _ (ncells_get hx)⟩
theorem LsOwn.ls (h : LsOwn w B v hs F) : ∃ A c, v = .slice A F.length c ∧ LsAt w A F := by
  obtain ⟨A, c, rfl, _, _, h2⟩ := own_cells h.own
  refine ⟨A, c, rfl, fun hn => ?_⟩
  rcases h2 with h2 | ⟨g, rfl, h3, h4, h5⟩
  · exact absurd (List.eq_nil_of_length_eq_zero h2) hn
  · refine ⟨g, 0, rfl, h4, fun a row ha => ?_⟩
    have hla : a < hs.length := by rw [h.len]; exact (List.getElem?_eq_some_iff.1 ha).1
    have hb : hs[a]? = some hs[a] := List.getElem?_eq_getElem hla
    obtain ⟨A', c', e, hn'⟩ := numsN_own (h.rows a _ row hb ha)
    refine ⟨A', c', ?_, hn'⟩
    have := h5 a _ hb
    rw [Nat.zero_add, this, e]
end
end Go.Proofs.Ytljlihimmcmlmaa
namespace Go.Proofs.Ytljlihimmcmlmaa
set_option linter.unusedVariables false
set_option linter.unusedSimpArgs false
open Go.RowKit
namespace Tj
/-- What has been found among the first a. -/
def Fnd (n : Nat) (M : Mx) (dn : List Bool) (a : Nat) (x : Int) : Prop := match (List.range a).find? (rrdy n M dn) with
  | none => x = -1
  | some b => x = (b : Int)
theorem Fnd.cases {n : Nat} {M : Mx} {dn : List Bool} {a : Nat} {x : Int} (h : Fnd n M dn a x) : ((List.range a).find? (rrdy n M dn) = none ∧ x = -1) ∨ ∃ b : Nat, (List.range a).find? (rrdy n M dn) = some b ∧ b < a ∧ x = (b : Int) := by
  unfold Fnd at h
  cases e : (List.range a).find? (rrdy n M dn) with
  | none => rw [e] at h; exact Or.inl ⟨rfl, h⟩
  | some b => rw [e] at h; exact Or.inr ⟨b, rfl, by simpa using List.mem_of_find?_eq_some e, h⟩
theorem fnd_zero (n : Nat) (M : Mx) (dn : List Bool) : Fnd n M dn 0 (-1) := by unfold Fnd; rfl
theorem fnd_hit {n : Nat} {M : Mx} {dn : List Bool} {a : Nat} (h : (List.range a).find? (rrdy n M dn) = none) (hr : rrdy n M dn a = true) : Fnd n M dn (a + 1) (a : Int) := by
  unfold Fnd
  rw [List.range_succ, List.find?_append, h, List.find?_cons, hr]; rfl
theorem fnd_miss {n : Nat} {M : Mx} {dn : List Bool} {a : Nat} (h : (List.range a).find? (rrdy n M dn) = none) (hr : rrdy n M dn a = false) : Fnd n M dn (a + 1) (-1) := by
  unfold Fnd
  rw [List.range_succ, List.find?_append, h, List.find?_cons, hr]; rfl
theorem find_more {n : Nat} {M : Mx} {dn : List Bool} {a b : Nat} (h : (List.range a).find? (rrdy n M dn) = some b) (ha : a ≤ n) : (List.range n).find? (rrdy n M dn) = some b := by
  obtain ⟨d, rfl⟩ := Nat.exists_eq_add_of_le ha
  rw [List.range_add, List.find?_append, h]; rfl
/-- The test of the inner loop, as far as b. -/
def rall (M : Mx) (dn : List Bool) (a b : Nat) : Bool := !dn.getD a false && (List.range b).all fun b => !mget M a b || dn.getD b false || tog M a b
theorem rall_succ (M : Mx) (dn : List Bool) (a b : Nat) : rall M dn a (b + 1) = (rall M dn a b && (!mget M a b || dn.getD b false || tog M a b)) := by
  unfold rall
  rw [List.range_succ, List.all_append, Bool.and_assoc]; simp
theorem rall_zero (M : Mx) (dn : List Bool) (a : Nat) : rall M dn a 0 = !dn.getD a false := by simp [rall]
theorem sets_snoc {α : Type} (l : List α) (x : α) (c : List Nat) (b : Nat) : sets l x (c ++ [b]) = (sets l x c).set b x := by simp [sets, List.foldl_append]
theorem rcomp_hit {M : Mx} {a b : Nat} (h : tog M a b = true) : (List.range (b + 1)).filter (tog M a) = (List.range b).filter (tog M a) ++ [b] := by
  rw [List.range_succ, List.filter_append]; simp [h]
theorem rcomp_miss {M : Mx} {a b : Nat} (h : tog M a b = false) : (List.range (b + 1)).filter (tog M a) = (List.range b).filter (tog M a) := by
  rw [List.range_succ, List.filter_append]; simp [h]
theorem rcomps_none {n : Nat} {M : Mx} {f : Nat} {dn : List Bool} (h : (List.range n).find? (rrdy n M dn) = none) : rcomps n M f dn = [] := by
  cases f with
  | zero => rfl
  | succ f => unfold rcomps; rw [h]
theorem rcomps_some {n : Nat} {M : Mx} {f a : Nat} {dn : List Bool} (h : (List.range n).find? (rrdy n M dn) = some a) : rcomps n M (f + 1) dn = rcomp n M a :: rcomps n M f (sets dn true (rcomp n M a)) := by
  show (match (List.range n).find? (rrdy n M dn) with | none => [] | some a => _) = _
  rw [h]
end Tj
def bcells (l : List Bool) : Array Value := (l.map Value.bool).toArray
theorem bcell {w : World} {g : Nat} {l : List Bool} (h : At w g 4 (bcells l)) {j : Nat} (hj : j < l.length) : w.cell? ⟨g, j, none⟩ = some (.bool (l.getD j false)) := by
  rw [h.cell j]
  simp [bcells, List.getElem?_eq_getElem hj]
theorem bput {w : World} {g : Nat} {l : List Bool} (h : At w g 4 (bcells l)) (j : Nat) (x : Bool) : At (w.setCell ⟨g, j, none⟩ (.bool x)) g 4 (bcells (l.set j x)) := by
  have := h.put j (.bool x)
  unfold bcells at this ⊢
  rw [List.map_set, ← List.setIfInBounds_toArray]
  exact this
set_option maxHeartbeats 2000000 in
set_option maxRecDepth 100000 in
theorem rcomponents_any (p : Pg) (n : Nat) (w : World) (hp : PgOk w p) (hn : p.prs.length = n) (hn1 : n ≤ 1000) (hr : p.rus.length ≤ 1000) (hb : ∀ r ∈ p.rus, r.lits.length ≤ 1000) (hel : (edges p).length ≤ 1000000) (hes : ∀ e ∈ edges p, e.a < n ∧ e.b < n) :
    Calls Try.prog 16 #[p.v] w fun e w' => ∃ A c, e = .returned (.slice A (Tj.rcomps n (Tj.depends n (edges p)) n (List.replicate n false)).length c) ∧ LsAt w' A (Tj.rcomps n (Tj.depends n (edges p)) n (List.replicate n false)) ∧ Below w.heap.size w w' := by
  have HD := Lib.hid (fun W (h : Below w.heap.size w W) => depends_any p n W (hp.below h) hn hn1 hr hb hel hes)
  have hsq := (Tj.depends_iff hes).1
  generalize Tj.depends n (edges p) = M at *
  obtain ⟨R, hR⟩ : ∃ R, Tj.rcomps n M n (List.replicate n false) = R := ⟨_, rfl⟩
  rw [hR]
  have HR := Lib.hid hR
  clear hR hes hel hb hr hp
  unfold Pg.v at HD ⊢
  generalize p.ra = ra at *
  generalize p.pa = pa at *
  rw [hn] at HD ⊢
  have HSQ := Lib.hid hsq
  clear hsq hn
  obtain ⟨i0, hi0, hz0, hz1, hz2⟩ := info_of bool_info
  obtain ⟨i1, hi1, hy0, hy1, hy2⟩ := info_of ints_info
  obtain ⟨i2, hi2, hx0, hx1, hx2⟩ := info_of int_info
  go_enter Try.func16, Try.ntmps16
  go_wp2_with (go_at_call 36; refine (HD.out _ (below1 _ _)).mono ?_; rintro e w2 ⟨A, c, rfl, hMx, hb2⟩)
  have q0 := run_make_one w2 Try.underlying31 hi0 hz0 hz1 (by rw [hz2]; decide) rfl n (by omega)
  have HB2 := Lib.hid ((below1 w (.cells #[.slice p.lat.a p.lat.n p.lat.c, .slice p.fns.a p.fns.n p.fns.c, .slice pa n p.pc, .slice ra p.rus.length p.rc] 27)).trans (hb2.mono (by simp)))
  clear hb2
  go_wp2_with fail
  rw [q0]
  go_wp2_with fail
  go_loopw [5, 6, 7, 8, 9, 10, 11, 12] (fun v i _ _ _ _ _ _ wr => ∃ (k : Nat) (hs : List Value) (F : List (List Nat)) (dn : List Bool), k ≤ n ∧ i = .int .i64 k ∧ Hid (F ++ Tj.rcomps n M (n - k) dn = R) ∧ dn.length = n ∧ F.length ≤ k ∧ LsOwn wr w2.heap.size v hs F ∧ Tops hs wr.heap.size ∧ At wr w2.heap.size 4 (bcells dn) ∧ Below w2.heap.size w2 wr) (fun _ i _ _ _ _ _ _ _ => n - (intOf i).toNat)
  case atStart =>
    refine ⟨0, [], [], List.replicate n false, by omega, rfl, Lib.hid (by rw [List.nil_append, Nat.sub_zero]; exact HR.out), by simp, by simp, ?_, fun u hu => by simp at hu, ?_, (below1 _ _).alloc (by simp) _⟩
    · have h := LsOwn.empty (w2.alloc (.cells (Array.replicate n (.bool false)) 4)) w2.heap.size (by simp)
      rw [show (w2.alloc (.cells (Array.replicate n (.bool false)) 4)).heap.size = w2.heap.size + 1 by simp] at h
      exact h
    · have h := (At.new w2 4 (Array.replicate n (.bool false))).alloc (.cells #[] 42)
      unfold bcells; simpa using h
  case round =>
    clear q0 HR
    obtain ⟨wo, hwo⟩ : ∃ wo, wo = wr := ⟨_, rfl⟩
    subst hwo
    obtain ⟨k, hs, F, dn, hk, rfl, HF, hdl, hFl, hls, htop, hat, hbw⟩ := hrel
    obtain ⟨va, vc, rfl⟩ := own_len hls.own
    by_cases h1 : k < n
    · have d1 : decide ((k : Int) < (n : Int)) = true := by simp; omega
      obtain ⟨g, o, hA, hg, hcell⟩ : ∃ g o, A = some ⟨g, o, none⟩ ∧ g < w2.heap.size ∧ ∀ a, a < n → ∃ b c, w2.cell? ⟨g, o + a, none⟩ = some (.slice (some ⟨b, 0, none⟩) n c) ∧ b < w2.heap.size ∧ ∀ j, j < n → w2.cell? ⟨b, j, none⟩ = some (.bool (Tj.mget M a j)) := by
        obtain ⟨g, o, _, _, e, hg, _⟩ := hMx.get HSQ.out h1
        refine ⟨g, o, e, hg, fun a ha => ?_⟩
        obtain ⟨g', o', b, c, e', _, h1, h2, h3⟩ := hMx.get HSQ.out ha
        rw [e] at e'
        obtain ⟨rfl, rfl⟩ := addr_inj e'
        exact ⟨b, c, h1, h2, h3⟩
      subst hA
      have HC := Lib.hid hcell
      clear hcell
      go_wp2_with fail
      go_loopw [7, 8, 9, 10] (fun x i _ _ wr => ∃ (a : Nat) (nx : Int), a ≤ n ∧ i = .int .i64 a ∧ x = .int .i64 nx ∧ Hid (Tj.Fnd n M dn a nx) ∧ Below wo.heap.size wo wr) (fun _ i _ _ _ => n - (intOf i).toNat)
      case atStart => exact ⟨0, -1, by omega, rfl, rfl, Lib.hid (Tj.fnd_zero n M dn), Below.refl _ _⟩
      case round =>
        clear d1
        obtain ⟨a, nx, ha, rfl, rfl, HN, hb⟩ := hrel
        have hat2 := hat.below hb hat.lt
        rcases HN.out.cases with ⟨hf, rfl⟩ | ⟨x, hf, hxa, rfl⟩
        · have HF0 := Lib.hid hf
          clear hf HN
          by_cases h2 : a < n
          · have d2 : decide ((a : Int) < (n : Int)) = true := by simp; omega
            have y0 := bcell hat2 (j := a) (by omega)
            have i0 : (0 : Int) ≤ (a : Int) := by omega
            have i1 : (a : Int) < (n : Int) := by omega
            obtain ⟨dv, hdv⟩ : ∃ dv, dn.getD a false = dv := ⟨_, rfl⟩
            rw [hdv] at y0
            have HDV := Lib.hid hdv
            clear hdv
            go_wp2_with fail
            go_loopw [9, 10] (fun r j wr => ∃ b : Nat, b ≤ n ∧ j = .int .i64 b ∧ r = .bool (Tj.rall M dn a b) ∧ Below wo.heap.size wo wr) (fun _ j _ => n - (intOf j).toNat)
            case atStart => exact ⟨0, by omega, rfl, by rw [Tj.rall_zero, HDV.out], hb⟩
            case round =>
              clear y0 hb hat2 d2
              obtain ⟨b, hbn, rfl, rfl, hb⟩ := hrel
              have hat2 := hat.below hb hat.lt
              by_cases h3 : b < n
              · have d3 : decide ((b : Int) < (n : Int)) = true := by simp; omega
                have hbW := hbw.trans (hb.mono hbw.size)
                have j0 : (0 : Int) ≤ (b : Int) := by omega
                have j1 : (b : Int) < (n : Int) := by omega
                have y0 := bcell hat2 (j := b) (by omega)
                obtain ⟨ba, ca, u1, u2, u3⟩ := HC.out a h2
                have y1 := (hbW.cell hg).trans u1
                have y2 := (hbW.cell u2).trans (u3 b h3)
                obtain ⟨r, hr⟩ : ∃ r, Tj.rall M dn a b = r := ⟨_, rfl⟩
                obtain ⟨x, hx⟩ : ∃ x, Tj.mget M a b = x := ⟨_, rfl⟩
                obtain ⟨y, hy⟩ : ∃ y, dn.getD b false = y := ⟨_, rfl⟩
                obtain ⟨z, hz⟩ : ∃ z, Tj.tog M a b = z := ⟨_, rfl⟩
                have HRS := Lib.hid (Tj.rall_succ M dn a b)
                have HT := Lib.hid (together_any (some ⟨g, o, none⟩) c n M a b wr (hMx.below hbW) HSQ.out h2 h3 (by omega))
                rw [hr, hx, hy, hz] at HRS
                rw [hz] at HT
                rw [hr]
                rw [hx] at y2
                rw [hy] at y0
                clear hr hx hy hz u1 u2 u3 hbW
                cases r
                · go_wp2_with fail
                  go_roundw
                  case rel => exact ⟨b + 1, by omega, by go_num, by rw [HRS.out]; rfl, hb⟩
                  case measure => simp [intOf]; omega
                · cases x
                  · go_wp2_with fail
                    go_roundw
                    case rel => exact ⟨b + 1, by omega, by go_num, by rw [HRS.out]; rfl, hb⟩
                    case measure => simp [intOf]; omega
                  · cases y
                    · go_wp2_with (go_at_call 37; refine HT.out.mono ?_; rintro e w3 ⟨rfl, rfl⟩)
                      go_roundw
                      case rel => exact ⟨b + 1, by omega, by go_num, by rw [HRS.out]; rfl, hb⟩
                      case measure => simp [intOf]; omega
                    · go_wp2_with fail
                      go_roundw
                      case rel => exact ⟨b + 1, by omega, by go_num, by rw [HRS.out]; rfl, hb⟩
                      case measure => simp [intOf]; omega
              · have d3 : decide ((b : Int) < (n : Int)) = false := by simp; omega
                have HRR := Lib.hid (show Tj.rrdy n M dn a = Tj.rall M dn a b by rw [show b = n by omega]; rfl)
                obtain ⟨r, hr⟩ : ∃ r, Tj.rall M dn a b = r := ⟨_, rfl⟩
                rw [hr] at HRR ⊢
                clear hr
                cases r
                · have HN2 := Lib.hid (Tj.fnd_miss HF0.out HRR.out)
                  go_wp2_with fail
                  go_roundw
                  case rel => exact ⟨a + 1, -1, by omega, by go_num, rfl, HN2, hb⟩
                  case measure => simp [intOf]; omega
                · have HN2 := Lib.hid (Tj.fnd_hit HF0.out HRR.out)
                  go_wp2_with fail
                  go_roundw
                  case rel => exact ⟨a + 1, (a : Int), by omega, by go_num, rfl, HN2, hb⟩
                  case measure => simp [intOf]; omega
          · have d2 : decide ((a : Int) < (n : Int)) = false := by simp; omega
            have HE := Lib.hid (show F = R by rw [← HF.out, Tj.rcomps_none (by have h5 := HF0.out; rw [show a = n by omega] at h5; exact h5), List.append_nil])
            go_wp2_with fail
            go_ret
            obtain ⟨A', c', e, hl⟩ := (hls.below hb).ls
            injection e with e1 e2 e3
            subst e1
            refine ⟨va, vc, ?_, ?_, HB2.out.trans ((hbw.trans (hb.mono hbw.size)).mono HB2.out.size)⟩
            · rw [← HE.out]; rfl
            · rw [← HE.out]; exact hl
        · have d2 : decide ((x : Int) < 0) = false := by simp
          have HX := Lib.hid (Tj.find_more hf ha)
          have hxn : x < n := by omega
          have hls2 := hls.below hb
          have htop2 := htop.mono hb.size
          have hbw2 := hbw.trans (hb.mono hbw.size)
          obtain ⟨wa, hwa⟩ : ∃ wa, wa = wr := ⟨_, rfl⟩
          subst hwa
          have hb2s : w2.heap.size ≤ wa.heap.size := hbw2.size
          clear hf HN hls hat hbw htop
          go_wp2_with fail
          all_goals
            go_loopw [11, 12] (fun l j wr => ∃ (b : Nat) (row : List Nat), b ≤ n ∧ j = .int .i64 b ∧ Hid (row = (List.range b).filter (Tj.tog M x)) ∧ row.length ≤ b ∧ wr.ownsRow wa.heap.size 3 1 l row.length (ncells row) ∧ LsOwn wr w2.heap.size (.slice va F.length vc) hs F ∧ At wr w2.heap.size 4 (bcells (Tj.sets dn true row)) ∧ Below w2.heap.size w2 wr ∧ wa.heap.size ≤ wr.heap.size) (fun _ j _ => n - (intOf j).toNat)
            case atStart => exact ⟨0, [], by omega, rfl, Lib.hid rfl, by simp, own_empty wa 3 1 wa.heap.size (Nat.le_refl _), hls2.below (below1 _ _), hat2.alloc _, hbw2.alloc hbw2.size _, by simp⟩
            case round =>
              clear hat2 hls2 hb hbw2
              obtain ⟨b, row, hbn, rfl, HRW, hrl, hrow, hls, hat, hbw, hsz⟩ := hrel
              obtain ⟨la, lc, rfl⟩ := own_len hrow
              by_cases h3 : b < n
              · have d3 : decide ((b : Int) < (n : Int)) = true := by simp; omega
                obtain ⟨z, hz⟩ : ∃ z, Tj.tog M x b = z := ⟨_, rfl⟩
                have HT := Lib.hid (together_any (some ⟨g, o, none⟩) c n M x b wr (hMx.below hbw) HSQ.out hxn h3 (by omega))
                rw [hz] at HT
                have HZ := Lib.hid hz
                clear hz
                cases z
                · go_wp2_with (go_at_call 37; refine HT.out.mono ?_; rintro e w3 ⟨rfl, rfl⟩)
                  go_roundw
                  case rel => exact ⟨b + 1, row, by omega, by go_num, Lib.hid (by rw [Tj.rcomp_miss HZ.out]; exact HRW.out), by omega, hrow, hls, hat, hbw, hsz⟩
                  case measure => simp [intOf]; omega
                · have HK := Lib.hid (show Tj.sets dn true (row ++ [b]) = (Tj.sets dn true row).set b true from Tj.sets_snoc _ _ _ _)
                  have hdn : (Tj.sets dn true row).length = n := by rw [Tj.sets_len]; exact hdl
                  generalize Tj.sets dn true row = ds at *
                  go_wp2_with (first | (go_at_call 37; refine HT.out.mono ?_; rintro e w3 ⟨rfl, rfl⟩) | (at_builtin; refine wpList_append_own _ rfl _ _ 42 rfl wa.heap.size 3 i2 (.int .i64 0) 1 8 Try.underlying42 hi2 hx0 hx1 hx2 rfl (by decide) _ _ _ rfl (hrow.alloc _) ⟨wr.heap.size, 0, none⟩ 1 1 [.int .i64 (b : Int)] rfl rfl ?c1 ?c2 ?c3 ?c4 ?c5 ?_))
                  case c1 => exact At.news (xs := [.int .i64 (b : Int)]) (At.newAt (by simp) _ _)
                  case c2 => exact one1 rfl
                  case c3 => simp [maxLen]; omega
                  case c4 => omega
                  case c5 => simp; omega
                  intro v3 w3 o3 g3 _
                  have hls3 := (hls.below (below1 _ (.cells #[.int .i64 (b : Int)] 3))).grown g3 (fun q hq => own_apart (hrow.alloc (.cells #[.int .i64 (b : Int)] 3)) (hls.below (below1 _ (.cells #[.int .i64 (b : Int)] 3))).own (by decide) |> fun h e => h q e hq) (fun u hu q hq e => by have := (own_lt hrow e).1; have := htop2 u hu q hq; omega)
                  have hat3 := (hat.alloc (.cells #[.int .i64 (b : Int)] 3)).grown g3 (own_far hrow hat (by decide))
                  have hbw3 := (hbw.alloc hbw.size (.cells #[.int .i64 (b : Int)] 3)).grown g3 (by simp; have := hbw.size; omega) (fun q hq => by have := (own_lt hrow hq).1; have := hb2s; omega)
                  have hsz3 : wa.heap.size ≤ w3.heap.size := by have := g3.size; simp at this; omega
                  have y0 := bcell hat3 (j := b) (by omega)
                  have yf : w3.frozen? ⟨w2.heap.size, b, none⟩ = false := hat3.frozen _
                  have j0 : (0 : Int) ≤ (b : Int) := by omega
                  have j1 : (b : Int) < (n : Int) := by omega
                  have hrow4 := own_putne (p := ⟨w2.heap.size, b, none⟩) o3 (own_far o3 hat3 (by decide)) (.bool true)
                  have hls4 := hls3.put hat3 (by decide) (by decide) b (.bool true)
                  have hat4 := bput hat3 b true
                  have hbw4 := hbw3.setCell (p := ⟨w2.heap.size, b, none⟩) (Nat.le_refl _) (.bool true)
                  clear o3 hls3 hat3 hbw3 hls hat hbw hrow g3
                  go_wp2_with fail
                  go_roundw
                  case rel => exact ⟨b + 1, row ++ [b], by omega, by go_num, Lib.hid (by rw [Tj.rcomp_hit HZ.out, ← HRW.out]), by simp; omega, by rw [ncells_snoc, List.length_append]; exact hrow4, hls4, by rw [HK.out]; exact hat4, hbw4, by simp; omega⟩
                  case measure => simp [intOf]; omega
              · have d3 : decide ((b : Int) < (n : Int)) = false := by simp; omega
                have HR2 := Lib.hid (show row = Tj.rcomp n M x by rw [HRW.out, show b = n by omega]; rfl)
                have hdn : (Tj.sets dn true row).length = n := by rw [Tj.sets_len]; exact hdl
                go_wp2_with (at_builtin; refine wpList_append_own _ rfl _ _ 36 rfl w2.heap.size 42 i1 (.slice none 0 0) 1 24 Try.underlying36 hi1 hy0 hy1 hy2 rfl (by decide) _ _ _ rfl (hls.own.alloc _) ⟨wr.heap.size, 0, none⟩ 1 1 [.slice la row.length lc] rfl rfl ?c1 ?c2 ?c3 ?c4 ?c5 ?_)
                case c1 => exact At.news (xs := [.slice la row.length lc]) (At.newAt (by simp) _ _)
                case c2 => exact one1 rfl
                case c3 => simp [maxLen]; omega
                case c4 => omega
                case c5 => simp; have := hbw.size; omega
                intro v3 w3 o3 g3 _
                have hlo := hls.below (below1 _ (.cells #[.slice la row.length lc] 42))
                have hro : _ := own_mono (hrow.alloc (.cells #[.slice la row.length lc] 42)) hb2s
                have hls3 := hlo.snoc hro o3 g3
                have hat3 := (hat.alloc (.cells #[.slice la row.length lc] 42)).grown g3 (own_far hls.own hat (by decide))
                have hbw3 := (hbw.alloc hbw.size (.cells #[.slice la row.length lc] 42)).grown g3 (by simp; have := hbw.size; omega) (fun q hq => (own_lt hls.own hq).1)
                have hs3 : wr.heap.size ≤ w3.heap.size := by have := g3.size; simp at this; omega
                have ht3 : Tops (hs ++ [.slice la row.length lc]) w3.heap.size := (htop2.mono (by omega)).snoc (fun q hq => by have := (own_lt hrow hq).2; omega)
                clear hlo hro o3 g3 hls hat hbw hrow
                go_wp2_with fail
                go_roundw
                case rel => exact ⟨k + 1, hs ++ [.slice la row.length lc], F ++ [row], Tj.sets dn true row, by omega, by go_num, Lib.hid (by rw [← HF.out, show n - k = n - (k + 1) + 1 by omega, Tj.rcomps_some HX.out, ← HR2.out, List.append_assoc]; rfl), hdn, by simp; omega, hls3, ht3, hat3, hbw3⟩
                case measure => simp [intOf]; omega
    · have d1 : decide ((k : Int) < (n : Int)) = false := by simp; omega
      have HE := Lib.hid (show F = R by rw [← HF.out, show n - k = 0 by omega]; exact (List.append_nil _).symm)
      go_wp2_with fail
      go_ret
      obtain ⟨A', c', e, hl⟩ := hls.ls
      injection e with e1 e2 e3
      subst e1
      refine ⟨va, vc, ?_, ?_, HB2.out.trans (hbw.mono HB2.out.size)⟩
      · rw [← HE.out]; rfl
      · rw [← HE.out]; exact hl
end Go.Proofs.Ytljlihimmcmlmaa
