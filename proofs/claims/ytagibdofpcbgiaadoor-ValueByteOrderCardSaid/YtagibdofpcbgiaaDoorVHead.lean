/- The contracts of Encode and Decode by what their results hold; join; the walk of the laws' fixed examples (head). -/
import Derived.Test.YtagibdofpcbgiaaDoorVRDec
import Derived.Deep.AppendSrc
namespace Go.Proofs.YtagibdofpcbgiaaDoor
set_option linter.unusedVariables false
set_option linter.unusedSimpArgs false
open Go.RowKit Go.Shelf
theorem vcells_get (l : List Vx.V) (k : Nat) (v : Vx.V) (h : l[k]? = some v) : (vcells l)[k * 3]? = some (.int .i64 v.t) ∧ (vcells l)[k * 3 + 1]? = some (.int .i64 v.n) ∧ (vcells l)[k * 3 + 2]? = some (.string ⟨v.s.toArray⟩) := by
  induction l generalizing k with
  | nil => simp at h
  | cons a r ih =>
    cases k with
    | zero =>
      simp at h; subst h
      exact ⟨rfl, rfl, rfl⟩
    | succ k =>
      have := ih k (by simpa using h)
      have e : vcells (a :: r) = [.int .i64 a.t, .int .i64 a.n, .string ⟨a.s.toArray⟩] ++ vcells r := by simp [vcells]
      rw [e, List.getElem?_append_right (by simp; omega), List.getElem?_append_right (by simp; omega), List.getElem?_append_right (by simp; omega)]
      simp only [List.length_cons, List.length_nil]
      rw [show (k + 1) * 3 - (0 + 1 + 1 + 1) = k * 3 by omega, show (k + 1) * 3 + 1 - (0 + 1 + 1 + 1) = k * 3 + 1 by omega, show (k + 1) * 3 + 2 - (0 + 1 + 1 + 1) = k * 3 + 2 by omega]
      exact this
theorem vcells_len (l : List Vx.V) : (vcells l).length = l.length * 3 := by
  induction l with
  | nil => rfl
  | cons a r ih =>
    have e : vcells (a :: r) = [.int .i64 a.t, .int .i64 a.n, .string ⟨a.s.toArray⟩] ++ vcells r := by simp [vcells]
    rw [e, List.length_append, ih]; simp; omega
theorem own_cells {w : World} {B : Nat} {e : TypeId} {size n : Nat} {v : Value} {xs : List Value} (h : w.ownsRow B e size v n xs) :
    ∃ A c, v = .slice A n c ∧ n ≤ c ∧ c ≤ maxLen ∧ (n = 0 ∨ ∃ g, A = some ⟨g, 0, none⟩ ∧ B ≤ g ∧ g < w.heap.size ∧ ∀ (j : Nat) (u : Value), xs[j]? = some u → w.cell? ⟨g, j, none⟩ = some u) := by
  rcases h.2 with ⟨rfl, rfl⟩ | ⟨g, cap, cur, rfl, hg, hh, h1, h2, h3, h4⟩
  · exact ⟨none, 0, rfl, Nat.le_refl _, by unfold maxLen; omega, Or.inl rfl⟩
  · refine ⟨_, cap, rfl, h1, h2, Or.inr ⟨g, rfl, hg, (Array.getElem?_eq_some_iff.1 hh).1, fun j u hu => ?_⟩⟩
    rw [cell_of_row w g j cur _ (0, 0) hh]
    rw [← h4, List.getElem?_take] at hu
    split at hu
    · simpa using hu
    · cases hu
theorem tup_of_own {w : World} {B : Nat} {v : Value} {l : List Vx.V} (h : w.ownsRow B 23 3 v l.length (vcells l)) : ∃ A c, v = .slice A l.length c ∧ l.length ≤ c ∧ c ≤ maxLen ∧ Tup w A l := by
  obtain ⟨A, c, hv, h1, h2, h3⟩ := own_cells h
  refine ⟨A, c, hv, h1, h2, fun hn => ?_⟩
  rcases h3 with h3 | ⟨g, rfl, hB, hg, hc⟩
  · exact absurd (List.length_eq_zero_iff.1 h3) hn
  · refine ⟨g, 0, rfl, hg, fun k x hx => ?_⟩
    obtain ⟨a, b, c⟩ := vcells_get l k x hx
    simp only [Nat.zero_add]
    exact ⟨hc _ _ a, hc _ _ b, hc _ _ c⟩
theorem bytes_of_own {w : World} {B : Nat} {v : Value} {l : List UInt8} (h : w.ownsRow B 5 1 v l.length (byteCells l)) : ∃ A c, v = .slice A l.length c ∧ l.length ≤ c ∧ c ≤ maxLen ∧ Bytes w A l := by
  obtain ⟨A, c, hv, h1, h2, h3⟩ := own_cells h
  refine ⟨A, c, hv, h1, h2, fun hn => ?_⟩
  rcases h3 with h3 | ⟨g, rfl, hB, hg, hc⟩
  · exact absurd (List.length_eq_zero_iff.1 h3) hn
  · refine ⟨g, 0, rfl, hg, fun k x hx => ?_⟩
    rw [Nat.zero_add]
    refine hc _ _ ?_
    unfold byteCells
    rw [List.getElem?_map, hx]; rfl
/-- A slice of bytes in memory. -/
def BytesOut (l : List UInt8) (w : World) (e : Ending) (w' : World) : Prop := ∃ A c, e = .returned (.slice A l.length c) ∧ l.length ≤ c ∧ c ≤ maxLen ∧ Bytes w' A l ∧ Below w.heap.size w w'
/-- A tuple in memory, and an error. -/
def TupOut (l : List Vx.V) (n : Int) (w : World) (e : Ending) (w' : World) : Prop := ∃ A c, e = .returned (.tuple #[.slice A l.length c, .int .i64 n]) ∧ l.length ≤ c ∧ c ≤ maxLen ∧ Tup w' A l ∧ Below w.heap.size w w'
def TupOut1 (l : List Vx.V) (w : World) (e : Ending) (w' : World) : Prop := ∃ A c, e = .returned (.slice A l.length c) ∧ l.length ≤ c ∧ c ≤ maxLen ∧ Tup w' A l ∧ Below w.heap.size w w'
theorem encode_out (A : Option Addr) (c : Nat) (xs : List Vx.V) (w : World) (hx : xs.length ≤ 1000000) (hA : Tup w A xs) (fx : Fits xs) (hw : Words w) :
    Calls Tryd.prog 25 #[.slice A xs.length c] w (BytesOut (Vx.encode xs) w) := by
  refine (encode_any A c xs w hx hA fx hw).mono fun e w' h => ?_
  obtain ⟨⟨v, rfl, ho⟩, hb⟩ := h
  obtain ⟨A', c', rfl, h1, h2, h3⟩ := bytes_of_own ho
  exact ⟨A', c', rfl, h1, h2, h3, hb⟩
theorem rencode_out (A : Option Addr) (c : Nat) (xs : List Vx.V) (w : World) (hx : xs.length ≤ 1000000) (hA : Tup w A xs) (fx : Fits xs) :
    Calls Tryd.prog 26 #[.slice A xs.length c] w (BytesOut (Vx.encode xs) w) := by
  refine (rencode_any A c xs w hx hA fx).mono fun e w' h => ?_
  obtain ⟨⟨v, rfl, ho⟩, hb⟩ := h
  obtain ⟨A', c', rfl, h1, h2, h3⟩ := bytes_of_own ho
  exact ⟨A', c', rfl, h1, h2, h3, hb⟩
theorem decode_out (A : Option Addr) (c : Nat) (xs : List UInt8) (w : World) (hx : xs.length ≤ 1000000) (hxc : xs.length ≤ c) (hc : c ≤ 9223372036854775807) (hA : Bytes w A xs) (hw : Words w) :
    Calls Tryd.prog 21 #[.slice A xs.length c] w (TupOut ((Vx.decode xs).getD []) (decErr xs) w) := by
  refine (decode_any A c xs w hx hxc hc hA hw).mono fun e w' h => ?_
  obtain ⟨⟨v, rfl, ho⟩, hb⟩ := h
  obtain ⟨A', c', rfl, h1, h2, h3⟩ := tup_of_own ho
  exact ⟨A', c', rfl, h1, h2, h3, hb⟩
theorem rdecode_out (A : Option Addr) (c : Nat) (xs : List UInt8) (w : World) (hx : xs.length ≤ 1000000) (hxc : xs.length ≤ c) (hc : c ≤ 9223372036854775807) (hA : Bytes w A xs) :
    Calls Tryd.prog 22 #[.slice A xs.length c] w (TupOut ((Vx.decode xs).getD []) (decErr xs) w) := by
  refine (rdecode_any A c xs w hx hxc hc hA).mono fun e w' h => ?_
  obtain ⟨⟨v, rfl, ho⟩, hb⟩ := h
  obtain ⟨A', c', rfl, h1, h2, h3⟩ := tup_of_own ho
  exact ⟨A', c', rfl, h1, h2, h3, hb⟩
theorem decF_valid : ∀ (f : Nat) (b : List UInt8) (l : List Vx.V), Vx.decF f b = some l → l.all Vx.valid = true
  | 0, _, l, h => by simp [Vx.decF] at h; subst h; rfl
  | f + 1, [], l, h => by simp [Vx.decF] at h; subst h; rfl
  | f + 1, c :: r, l, h => by
    simp only [Vx.decF] at h
    split at h
    · rename_i hv
      rw [Option.map_eq_some_iff] at h
      obtain ⟨l', h', rfl⟩ := h
      rw [List.all_cons, hv, decF_valid f _ l' h']; rfl
    · cases h
theorem decode_valid (b : List UInt8) : ((Vx.decode b).getD []).all Vx.valid = true := by
  cases h : Vx.decode b with
  | none => rfl
  | some l => exact decF_valid _ _ _ h
theorem fits_valid {l : List Vx.V} (h : l.all Vx.valid = true) : Fits l := fun v hv => by
  have := valid_len (List.all_eq_true.1 h v hv)
  omega
theorem decF_len : ∀ (f : Nat) (b : List UInt8) (l : List Vx.V), Vx.decF f b = some l → l.length ≤ b.length
  | 0, _, l, h => by simp [Vx.decF] at h; subst h; simp
  | f + 1, [], l, h => by simp [Vx.decF] at h; subst h; simp
  | f + 1, c :: r, l, h => by
    simp only [Vx.decF] at h
    split at h
    · rw [Option.map_eq_some_iff] at h
      obtain ⟨l', h', rfl⟩ := h
      have := decF_len f _ l' h'
      have := Vx.take1_len c r
      simp only [List.length_cons]; omega
    · cases h
theorem decode_len (b : List UInt8) : ((Vx.decode b).getD []).length ≤ b.length := by
  cases h : Vx.decode b with
  | none => simp
  | some l => exact decF_len _ _ _ h
theorem cmp_val (v v' : Vx.V) (r : Int) (w : World) (h : v.s.length ≤ 281474976710656) (h' : v'.s.length ≤ 281474976710656) (hr : Vx.cmpV v v' = r) :
    Calls Tryd.prog 13 #[.agg #[.int .i64 v.t, .int .i64 v.n, .string ⟨v.s.toArray⟩], .agg #[.int .i64 v'.t, .int .i64 v'.n, .string ⟨v'.s.toArray⟩]] w fun e w' => e = .returned (.int .i64 r) ∧ Below w.heap.size w w' := by
  subst hr; exact vcompare_any v v' w h h'
theorem parse_val (s : ByteArray) (v : Vx.V) (n : Int) (w : World) (hw : Laid w) (hs : s.size ≤ 281474976710656) (h : Vx.parse s.data.toList = (v, n)) :
    Calls Tryd.prog 19 #[.string s] w fun e w' => e = .returned (.tuple #[.agg #[.int .i64 v.t, .int .i64 v.n, .string ⟨v.s.toArray⟩], .int .i64 n]) ∧ Below w.heap.size w w' := by
  have := vparse_any s w hw hs
  rw [h] at this
  exact this
theorem bstep {B : Nat} {w w1 w2 : World} {o : Obj} (h : Below B w w1) (hB : B ≤ w.heap.size) (h2 : Below (w1.alloc o).heap.size (w1.alloc o) w2) : Below B w w2 :=
  (h.alloc (Nat.le_trans hB h.size) o).trans (h2.mono (by have := h.size; simp; omega))
theorem At.bstep {w1 w2 : World} {g : Nat} {t : TypeId} {cs : Array Value} {o : Obj} (h : At w1 g t cs) (h2 : Below (w1.alloc o).heap.size (w1.alloc o) w2) : At w2 g t cs :=
  (h.alloc o).below h2 (h.alloc o).lt
theorem At.next {w w' : World} {g : Nat} {t : TypeId} {cs : Array Value} (h : At w g t cs) (hb : Below w.heap.size w w') : At w' g t cs := h.below hb h.lt
theorem held3 {w : World} {g : Nat} {t : TypeId} {a b c : Value} (h : At w g t #[a, b, c]) : (∀ z : Held w.heap.size w, z.w.cell? ⟨g, 0, none⟩ = some a) ∧ (∀ z : Held w.heap.size w, z.w.cell? ⟨g, 1, none⟩ = some b) ∧ (∀ z : Held w.heap.size w, z.w.cell? ⟨g, 2, none⟩ = some c) :=
  ⟨fun z => z.cell h.lt (h.cell 0), fun z => z.cell h.lt (h.cell 1), fun z => z.cell h.lt (h.cell 2)⟩
theorem text_val (v : Vx.V) (l : List UInt8) (w : World) (hw : Laid w) (h : v.s.length ≤ 281474976710656) (ht : Vx.text v = l) :
    Calls Tryd.prog 17 #[.agg #[.int .i64 v.t, .int .i64 v.n, .string ⟨v.s.toArray⟩]] w fun e w' => e = .returned (.string ⟨l.toArray⟩) ∧ Below w.heap.size w w' := by
  subst ht; exact text_any v.t v.n ⟨v.s.toArray⟩ w hw (by rw [size_mk]; exact h)
theorem tup_new {w : World} {g : Nat} {l : List Vx.V} (h : At w g 23 (vcells l).toArray) : Tup w (some ⟨g, 0, none⟩) l := fun hn => by
  refine ⟨g, 0, rfl, h.lt, fun k x hx => ?_⟩
  obtain ⟨a, b, c⟩ := vcells_get l k x hx
  simp only [Nat.zero_add]
  rw [h.cell, h.cell, h.cell, List.getElem?_toArray, List.getElem?_toArray, List.getElem?_toArray]
  exact ⟨a, b, c⟩
theorem bytes_new {w : World} {g : Nat} {l : List UInt8} (h : At w g 5 (byteCells l).toArray) : Bytes w (some ⟨g, 0, none⟩) l := fun hn => by
  refine ⟨g, 0, rfl, h.lt, fun k x hx => ?_⟩
  rw [Nat.zero_add, h.cell, List.getElem?_toArray]
  unfold byteCells
  rw [List.getElem?_map, hx]; rfl
theorem encode_val (A : Option Addr) (n c : Nat) (xs : List Vx.V) (r : List UInt8) (w : World) (hn : n = xs.length) (hx : xs.length ≤ 1000000) (hA : Tup w A xs) (fx : Fits xs) (hw : Words w) (hr : Vx.encode xs = r) :
    Calls Tryd.prog 25 #[.slice A n c] w (BytesOut r w) := by
  subst hr; subst hn; exact encode_out A c xs w hx hA fx hw
theorem decode_val (A : Option Addr) (n c : Nat) (xs : List UInt8) (r : List Vx.V) (er : Int) (w : World) (hn : n = xs.length) (hx : xs.length ≤ 1000000) (hxc : xs.length ≤ c) (hc : c ≤ 9223372036854775807) (hA : Bytes w A xs) (hw : Words w) (hr : (Vx.decode xs).getD [] = r) (he : decErr xs = er) :
    Calls Tryd.prog 21 #[.slice A n c] w (TupOut r er w) := by
  subst hr; subst hn; subst he; exact decode_out A c xs w hx hxc hc hA hw
theorem valid_val (v : Vx.V) (b : Bool) (w : World) (hw : Words w) (h : v.s.length ≤ 281474976710656) (hb : Vx.valid v = b) :
    Calls Tryd.prog 11 #[.agg #[.int .i64 v.t, .int .i64 v.n, .string ⟨v.s.toArray⟩]] w fun e w' => e = .returned (.bool b) ∧ Below w.heap.size w w' := by
  subst hb; exact vvalid_any v w hw h
theorem ctuple_val (A B : Option Addr) (n m c d : Nat) (xs ys : List Vx.V) (r : Int) (w : World) (hn : n = xs.length) (hm : m = ys.length) (hx : xs.length ≤ 281474976710656) (hy : ys.length ≤ 281474976710656) (hA : Tup w A xs) (hB : Tup w B ys) (fx : Fits xs) (fy : Fits ys) (hr : Vx.cmpT xs ys = r) :
    Calls Tryd.prog 15 #[.slice A n c, .slice B m d] w fun e w' => e = .returned (.int .i64 r) ∧ Below w.heap.size w w' := by
  subst hn; subst hm; subst hr; exact ctuple_any A B c d xs ys w hx hy hA hB fx fy
theorem below_drew {w w' : World} (h : Below w.drew.heap.size w.drew w') : Below w.heap.size w w' := ((Below.refl w.heap.size w).drew).trans h
set_option maxHeartbeats 4000000 in
set_option maxRecDepth 100000 in
theorem head_any (w : World) (hy : Laid w) : Calls Tryd.prog 9 #[] w fun e w' => e = .returned (.bool true) ∧ Below w.heap.size w w' := by
  go_enter Tryd.func9, Tryd.ntmps9
  go_wp2_with fail
  refine (sym_any _ _).mono ?_
  rintro e w1 ⟨rfl, b1⟩
  go_wp2_with fail
  refine (sym_any _ _).mono ?_
  rintro e w2 ⟨rfl, b2⟩
  go_wp2_with fail
  refine (int_any _ _).mono ?_
  rintro e w3 ⟨rfl, b3⟩
  go_wp2_with fail
  obtain ⟨W0, hW0⟩ : ∃ W0, W0 = w3.alloc (.cells #[.int .i64 1, .int .i64 12, .string ⟨#[]⟩] 23) := ⟨_, rfl⟩
  have ga : At W0 w1.heap.size 23 #[.int .i64 2, .int .i64 0, .string ⟨#[97]⟩] := by
    rw [hW0]; exact ((((At.new w1 _ _).below b2 (by simp)).alloc _).below b3 (by have := b2.size; simp at this ⊢; omega)).alloc _
  have gb : At W0 w2.heap.size 23 #[.int .i64 2, .int .i64 0, .string ⟨#[97, 98]⟩] := by
    rw [hW0]; exact ((At.new w2 _ _).below b3 (by simp)).alloc _
  have gn : At W0 w3.heap.size 23 #[.int .i64 1, .int .i64 12, .string ⟨#[]⟩] := by rw [hW0]; exact At.new _ _ _
  have bW0 : Below w.heap.size w W0 := by
    rw [hW0]
    have z1 := b1.size; have z2 := b2.size; have z3 := b3.size
    simp at z2 z3
    exact (((b1.alloc (by omega) _).trans (b2.mono (by simp; omega))).alloc (by omega) _).trans (b3.mono (by simp; omega)) |>.alloc (by omega) _
  rw [← hW0]
  have la := ga.lt; have lb := gb.lt; have ln := gn.lt
  have fa0 : ∀ z : Held W0.heap.size W0, z.w.cell? ⟨w1.heap.size, 0, none⟩ = some (.int .i64 2) := fun z => z.cell la (ga.cell 0)
  have fa1 : ∀ z : Held W0.heap.size W0, z.w.cell? ⟨w1.heap.size, 1, none⟩ = some (.int .i64 0) := fun z => z.cell la (ga.cell 1)
  have fa2 : ∀ z : Held W0.heap.size W0, z.w.cell? ⟨w1.heap.size, 2, none⟩ = some (.string ⟨#[97]⟩) := fun z => z.cell la (ga.cell 2)
  have fb0 : ∀ z : Held W0.heap.size W0, z.w.cell? ⟨w2.heap.size, 0, none⟩ = some (.int .i64 2) := fun z => z.cell lb (gb.cell 0)
  have fb1 : ∀ z : Held W0.heap.size W0, z.w.cell? ⟨w2.heap.size, 1, none⟩ = some (.int .i64 0) := fun z => z.cell lb (gb.cell 1)
  have fb2 : ∀ z : Held W0.heap.size W0, z.w.cell? ⟨w2.heap.size, 2, none⟩ = some (.string ⟨#[97, 98]⟩) := fun z => z.cell lb (gb.cell 2)
  have fn0 : ∀ z : Held W0.heap.size W0, z.w.cell? ⟨w3.heap.size, 0, none⟩ = some (.int .i64 1) := fun z => z.cell ln (gn.cell 0)
  have fn1 : ∀ z : Held W0.heap.size W0, z.w.cell? ⟨w3.heap.size, 1, none⟩ = some (.int .i64 12) := fun z => z.cell ln (gn.cell 1)
  have fn2 : ∀ z : Held W0.heap.size W0, z.w.cell? ⟨w3.heap.size, 2, none⟩ = some (.string ⟨#[]⟩) := fun z => z.cell ln (gn.cell 2)
  clear hW0
  have cN7 : ∀ w, Calls Tryd.prog 13 #[.agg #[.int .i64 1, .int .i64 12, .string ⟨#[]⟩], .agg #[.int .i64 1, .int .i64 7, .string ⟨#[]⟩]] w fun e w' => e = .returned (.int .i64 1) ∧ Below w.heap.size w w' := fun w => cmp_val ⟨1, 12, []⟩ ⟨1, 7, []⟩ 1 w (by simp) (by simp) (by decide)
  have cNA : ∀ w, Calls Tryd.prog 13 #[.agg #[.int .i64 1, .int .i64 12, .string ⟨#[]⟩], .agg #[.int .i64 2, .int .i64 0, .string ⟨#[97]⟩]] w fun e w' => e = .returned (.int .i64 (-1)) ∧ Below w.heap.size w w' := fun w => cmp_val ⟨1, 12, []⟩ ⟨2, 0, [97]⟩ (-1) w (by simp) (by simp) (by decide)
  have cAB : ∀ w, Calls Tryd.prog 13 #[.agg #[.int .i64 2, .int .i64 0, .string ⟨#[97]⟩], .agg #[.int .i64 2, .int .i64 0, .string ⟨#[97, 98]⟩]] w fun e w' => e = .returned (.int .i64 (-1)) ∧ Below w.heap.size w w' := fun w => cmp_val ⟨2, 0, [97]⟩ ⟨2, 0, [97, 98]⟩ (-1) w (by simp) (by simp) (by decide)
  have cAA : ∀ w, Calls Tryd.prog 13 #[.agg #[.int .i64 2, .int .i64 0, .string ⟨#[97]⟩], .agg #[.int .i64 2, .int .i64 0, .string ⟨#[97]⟩]] w fun e w' => e = .returned (.int .i64 0) ∧ Below w.heap.size w w' := fun w => cmp_val ⟨2, 0, [97]⟩ ⟨2, 0, [97]⟩ 0 w (by simp) (by simp) (by decide)
  refine wp_region_held W0.heap.size W0 (Below.refl _ _) (by kernel_rfl) (by kernel_rfl) ?_
  repeat (go_big_quiet_step ((first
    | (go_at_call 30; exact held_call _ (Nat.le_refl _) (int_any _ _))
    | (go_at_call 13; with_reducible first
        | exact held_call _ (Nat.le_refl _) (cN7 _)
        | exact held_call _ (Nat.le_refl _) (cNA _)
        | exact held_call _ (Nat.le_refl _) (cAB _)
        | exact held_call _ (Nat.le_refl _) (cAA _)))))
  refine wpQuiet_nil ?_
  rintro w5 ⟨⟨_, b5⟩, rfl⟩
  clear fa0 fa1 fa2 fb0 fb1 fb2 fn0 fn1 fn2
  go_wp2_with fail
  have y5 : Laid w5 := (hy.next bW0).next b5
  have z5 := b5.size
  refine (parse_val _ ⟨2, 0, [111, 110, 49]⟩ 0 _ y5 (by decide) (by decide)).mono ?_
  rintro e w6 ⟨rfl, b6⟩
  have y6 := y5.next b6
  have z6 := b6.size
  go_wp2_with fail
  refine (parse_val _ ⟨0, 0, []⟩ 270 _ (y6.next (below1 _ _)) (by decide) (by decide)).mono ?_
  rintro e w7 ⟨rfl, b7⟩
  have y7 := (y6.next (below1 _ _)).next b7
  have z7 := b7.size
  go_wp2_with fail
  refine (parse_val _ ⟨0, 0, []⟩ 270 _ (y7.next (below1 _ _)) (by decide) (by decide)).mono ?_
  rintro e w8 ⟨rfl, b8⟩
  have y8 := (y7.next (below1 _ _)).next b8
  have z8 := b8.size
  go_wp2_with fail
  refine (parse_val _ ⟨1, 9999, []⟩ 0 _ (y8.next (below1 _ _)) (by decide) (by decide)).mono ?_
  rintro e w9 ⟨rfl, b9⟩
  have y9 := (y8.next (below1 _ _)).next b9
  have z9 := b9.size
  go_wp2_with fail
  obtain ⟨W9, hW9⟩ : ∃ W9, W9 = w9.alloc (.cells #[.int .i64 1, .int .i64 9999, .string ⟨#[]⟩] 23) := ⟨_, rfl⟩
  have hb59 : ∀ {g : Nat} {t : TypeId} {cs : Array Value}, At w6 g t cs → At W9 g t cs := fun h => by rw [hW9]; exact (((h.bstep b7).bstep b8).bstep b9).alloc _
  have gb9 := hb59 ((gb.next b5).next b6)
  have gn9 := hb59 ((gn.next b5).next b6)
  have ga9 := hb59 ((ga.next b5).next b6)
  have gv9 : At W9 w6.heap.size 23 #[.int .i64 2, .int .i64 0, .string ⟨#[111, 110, 49]⟩] := by
    rw [hW9]
    have h7 := (At.new w6 23 #[.int .i64 2, .int .i64 0, .string ⟨#[111, 110, 49]⟩]).next b7
    exact ((h7.bstep b8).bstep b9).alloc _
  have gw9 : At W9 w9.heap.size 23 #[.int .i64 1, .int .i64 9999, .string ⟨#[]⟩] := by rw [hW9]; exact At.new _ _ _
  have bW9 : Below w.heap.size w W9 := by
    rw [hW9]
    have c6 := ((bW0.trans (b5.mono bW0.size)).trans (b6.mono (Nat.le_trans bW0.size z5)))
    have c9 := bstep (bstep (bstep c6 (Nat.le_refl _) b7) (Nat.le_refl _) b8) (Nat.le_refl _) b9
    exact c9.alloc c9.size _
  have yW9 : Laid W9 := hy.next bW9
  clear hb59 y5 y6 y7 y8 y9 cN7 cNA cAB cAA
  rw [← hW9]
  clear hW9
  obtain ⟨fb0, fb1, fb2⟩ := held3 gb9
  obtain ⟨fv0, fv1, fv2⟩ := held3 gv9
  obtain ⟨fw0, fw1, fw2⟩ := held3 gw9
  have cT : ∀ z : Held W9.heap.size W9, Calls Tryd.prog 17 #[.agg #[.int .i64 2, .int .i64 0, .string ⟨#[97, 98]⟩]] z.w fun e w' => e = .returned (.string ⟨#[97, 98]⟩) ∧ Below z.w.heap.size z.w w' := fun z => text_val ⟨2, 0, [97, 98]⟩ [97, 98] z.w (yW9.next z.ok) (by simp) (by decide)
  refine wp_region_held W9.heap.size W9 (Below.refl _ _) (by kernel_rfl) (by kernel_rfl) ?_
  repeat (go_big_quiet_step ((first
    | (go_at_call 29; exact held_call _ (Nat.le_refl _) (sym_any _ _))
    | (go_at_call 17; with_reducible exact held_call _ (Nat.le_refl _) (cT _)))))
  refine wpQuiet_nil ?_
  rintro w10 ⟨⟨_, b10⟩, rfl⟩
  clear fb0 fb1 fb2 fv0 fv1 fv2 fw0 fw1 fw2 cT gv9 gw9
  go_wp2_with fail
  have yw10 := yW9.next b10
  have bw10 := bW9.trans (b10.mono bW9.size)
  have ga10 := ga9.next b10
  have gb10 := gb9.next b10
  have gn10 := gn9.next b10
  clear ga9 gb9 gn9 ga gb gn la lb ln
  have b0 := gb10.cell 0; have b1 := gb10.cell 1; have b2 := gb10.cell 2
  simp at b0 b1 b2
  go_region_with (first
    | (go_at_call 30; refine (int_any _ _).mono ?_; rintro e w11 ⟨rfl, b11'⟩
       have b11 := below_drew b11'
       clear b11'
       have gb11 := gb10.next b11
       have b0 := gb11.cell 0; have b1 := gb11.cell 1; have b2 := gb11.cell 2
       simp at b0 b1 b2)
    | (go_at_call 25
       refine (encode_val _ 2 2 [⟨1, 258, []⟩, ⟨2, 0, [97, 98]⟩] [1, 1, 2, 2, 97, 98, 0] _ rfl (by simp) (tup_new (At.new _ _ _)) (fits_valid (by decide)) ((yw10.next b11).next (below1 _ _)).words (by decide)).mono ?_
       rintro e w12 ⟨A12, c12, rfl, q12, r12, B12, b12⟩))
  all_goals
    have yw12 := ((yw10.next b11).next (below1 _ _)).next b12
    have bw12 := bstep (bw10.trans (b11.mono bw10.size)) (Nat.le_refl _) b12
    have ga12 := (ga10.next b11).bstep b12
    have gn12 := (gn10.next b11).bstep b12
    clear b0 b1 b2 gb10 ga10 gn10
    have m12 : c12 ≤ 9223372036854775807 := by unfold maxLen at r12; omega
    go_wp2_with fail
    refine (decode_val A12 _ c12 [1, 1, 2, 2, 97, 98, 0] [⟨1, 258, []⟩, ⟨2, 0, [97, 98]⟩] 0 _ rfl (by simp) q12 m12 B12 yw12.words (by decide) (by decide)).mono ?_
    rintro e w13 ⟨A13, c13, rfl, q13, r13, B13, b13⟩
    have yw13 := yw12.next b13
    have bw13 := bw12.trans (b13.mono bw12.size)
    have ga13 := ga12.next b13
    have gn13 := gn12.next b13
    have B12' := B12.below b13
    clear B12 ga12 gn12
    go_wp2_with fail
    refine (decode_val _ _ 2 [1, 1] [] 270 _ rfl (by simp) (by simp) (by simp) (bytes_new (At.new _ _ _)) (yw13.next (below1 _ _)).words (by decide) (by decide)).mono ?_
    rintro e w14 ⟨A14, c14, rfl, q14, r14, B14, b14⟩
    have yw14 := (yw13.next (below1 _ _)).next b14
    have bw14 := bstep bw13 (Nat.le_refl _) b14
    have ga14 := ga13.bstep b14
    have gn14 := gn13.bstep b14
    have B12'' := (B12'.below (below1 _ _)).below b14
    clear B12' ga13 gn13 B14 B13
    have sb := samebytes_any A12 (some ⟨w14.heap.size, 0, none⟩) c12 7 [1, 1, 2, 2, 97, 98, 0] [1, 1, 2, 2, 97, 98, 0] _ (by simp) (by simp) (B12''.below (below1 w14 _)) (bytes_new (At.new w14 _ (byteCells [1, 1, 2, 2, 97, 98, 0]).toArray))
    rw [show sameB [1, 1, 2, 2, 97, 98, 0] [1, 1, 2, 2, 97, 98, 0] = true from rfl] at sb
    have SB := Lib.hid sb
    clear sb
    go_wp2_with fail
    refine SB.out.mono ?_
    rintro e w15 ⟨rfl, b15⟩
    have yw15 := (yw14.next (below1 _ _)).next b15
    have bw15 := bstep bw14 (Nat.le_refl _) b15
    have ga15 := ga14.bstep b15
    have gn15 := gn14.bstep b15
    clear SB B12'' ga14 gn14
    have a0 := ga15.cell 0; have a1 := ga15.cell 1; have a2 := ga15.cell 2
    simp at a0 a1 a2
    go_wp2_with fail
    refine (valid_val ⟨2, 0, [97]⟩ true _ yw15.words (by simp) (by decide)).mono ?_
    rintro e w16 ⟨rfl, b16⟩
    have yw16 := yw15.next b16
    have bw16 := bw15.trans (b16.mono bw15.size)
    have ga16 := ga15.next b16
    have gn16 := gn15.next b16
    clear a0 a1 a2 ga15 gn15
    go_wp2_with fail
    refine (int_any _ _).mono ?_
    rintro e w17 ⟨rfl, b17⟩
    have yw17 := yw16.next b17
    have bw17 := bw16.trans (b17.mono bw16.size)
    have ga17 := ga16.next b17
    have gn17 := gn16.next b17
    clear ga16 gn16
    go_wp2_with fail
    refine (valid_val ⟨1, 10000, []⟩ false _ yw17.words (by simp) (by decide)).mono ?_
    rintro e w18 ⟨rfl, b18⟩
    have yw18 := yw17.next b18
    have bw18 := bw17.trans (b18.mono bw17.size)
    have ga18 := ga17.next b18
    have gn18 := gn17.next b18
    clear ga17 gn17
    have a0 := ga18.cell 0; have a1 := ga18.cell 1; have a2 := ga18.cell 2
    have n0 := gn18.cell 0; have n1 := gn18.cell 1; have n2 := gn18.cell 2
    simp at a0 a1 a2 n0 n1 n2
    have la := ga18.lt; have ln := gn18.lt
    go_wp2_with fail
    have tA : Tup ((w18.alloc (.cells (vcells [⟨2, 0, [97]⟩]).toArray 23)).alloc (.cells (vcells [⟨2, 0, [97]⟩, ⟨1, 12, []⟩]).toArray 23)) (some ⟨w18.heap.size, 0, none⟩) [⟨2, 0, [97]⟩] := tup_new ((At.new _ _ _).alloc _)
    have tB : Tup ((w18.alloc (.cells (vcells [⟨2, 0, [97]⟩]).toArray 23)).alloc (.cells (vcells [⟨2, 0, [97]⟩, ⟨1, 12, []⟩]).toArray 23)) (some ⟨w18.heap.size + 1, 0, none⟩) [⟨2, 0, [97]⟩, ⟨1, 12, []⟩] := tup_new (At.newAt (by simp) _ _)
    refine (ctuple_val _ _ 1 2 1 2 [⟨2, 0, [97]⟩] [⟨2, 0, [97]⟩, ⟨1, 12, []⟩] (-1) _ rfl rfl (by simp) (by simp) tA tB (fits_valid (by decide)) (fits_valid (by decide)) (by decide)).mono ?_
    rintro e w19 ⟨rfl, b19⟩
    clear a0 a1 a2 n0 n1 n2 tA tB
    have bw19 := (bw18.alloc bw18.size _ |>.alloc (by have := bw18.size; simp; omega) _).trans (b19.mono (by have := bw18.size; simp; omega))
    go_wp2_with fail
    go_ret
    exact ⟨rfl, bw19⟩
end Go.Proofs.YtagibdofpcbgiaaDoor
