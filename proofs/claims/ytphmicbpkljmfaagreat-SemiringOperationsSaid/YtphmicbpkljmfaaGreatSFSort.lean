/- Sorting: numbers in a slice of a named type, and sets by before. -/
import Derived.Test.YtphmicbpkljmfaaGreatSFn
import Derived.Test.YtphmicbpkljmfaaGreatShelf2
import Derived.Test.YtphmicbpkljmfaaGreatSort
import Derived.Shelf.SlSortCmp.Pdq1
namespace Go.Proofs.YtphmicbpkljmfaaGreat
set_option linter.unusedVariables false
set_option linter.unusedSimpArgs false
open Go.RowKit Go.Sort
theorem pdq_int (blk off cap : Nat) (zs : List Int) (w : World) (hH : Holds (Value.int .i64) w blk off zs.toArray) (hblk : blk < w.heap.size) (hsz : zs.length < 4611686018427387904) :
    Calls Tryz.prog 64 #[.slice (some ⟨blk, off, none⟩) zs.length cap, .int .i64 0, .int .i64 zs.length, .int .i64 (Lib.bitLen zs.length : Nat)] w fun e w' =>
      e = .returned (.tuple #[]) ∧ ∃ n os, w' = grow (putRow (Value.int .i64) (Sort.ahead w n) blk off (zs.mergeSort fun x y => decide (x ≤ y)).toArray) os := by
  have hk : bitsLen zs.toArray.size ≤ 62 := (bitsLen_le_iff zs.toArray.size 62).2 (by simp; omega)
  have hdp := pdqDepth_le_59 ltInt zs.toArray 0 zs.toArray.size (bitsLen zs.toArray.size) true true (by omega)
  have h := calls_of_every_depth fun D => Any.pdqWalkInInt { Tryz.lays189 with } D 65 blk off cap 0 zs.toArray.size (bitsLen zs.toArray.size) zs.toArray w (by omega) hH hblk (Nat.zero_le _) (Nat.le_refl _) (by simpa using hsz) (by omega) (Or.inl rfl)
  have e : pdq ltInt zs.toArray 0 zs.toArray.size (bitsLen zs.toArray.size) true true = (zs.mergeSort fun x y => decide (x ≤ y)).toArray := Any.sort_int_eqD zs
  rw [e, ← bitLen_eq _ (by simp; omega)] at h
  exact h
theorem bitLen_small {n : Nat} (h : n < 4611686018427387904) : Lib.bitLen n ≤ 62 := Lib.bitLen_le n 62 (by omega) (by omega)
set_option maxHeartbeats 1000000 in
theorem sortset_cells (blk cap : Nat) (zs : List Int) (w : World) (hH : Holds (Value.int .i64) w blk 0 zs.toArray) (hblk : blk < w.heap.size) (hsz : zs.length < 4611686018427387904) :
    Calls Tryz.prog 115 #[.slice (some ⟨blk, 0, none⟩) zs.length cap] w fun e w' =>
      e = .returned (.tuple #[]) ∧ ∃ n os, w' = grow (putRow (Value.int .i64) (Sort.ahead w n) blk 0 (zs.mergeSort fun x y => decide (x ≤ y)).toArray) os := by
  have HC := Lib.hid (pdq_int blk 0 cap zs w hH hblk hsz)
  have wr : IntKind.u64.wrap (zs.length : Int) = zs.length := by simp [IntKind.wrap, IntKind.bits, IntKind.signed]; omega
  clear hH
  go_enter Tryz.func115, Tryz.ntmps115
  go_wp2_with fail
  refine (Tryz.bits_Len (zs.length : Int) _ (by omega) (by omega)).mono ?_
  rintro e w' ⟨rfl, rfl⟩
  rw [Int.toNat_natCast]
  go_wp2_with fail
  refine HC.out.mono ?_
  rintro e w' ⟨rfl, n, os, rfl⟩
  go_wp2_with fail
  go_end0
  exact ⟨rfl, n, os, rfl⟩
theorem sortset_nil (w : World) : Calls Tryz.prog 115 #[.slice none 0 0] w fun e w' => e = .returned (.tuple #[]) ∧ w = w' := by
  go_enter Tryz.func115, Tryz.ntmps115
  go_wp2_with fail
  refine (Tryz.bits_Len 0 _ (by omega) (by omega)).mono ?_
  rintro e w' ⟨rfl, rfl⟩
  rw [show ((Lib.bitLen (0 : Int).toNat : Nat) : Int) = 0 from rfl]
  go_wp2_with fail
  refine (pdq_nil _).mono ?_
  rintro e w' ⟨rfl, rfl⟩
  go_wp2_with fail
  go_end0
  exact ⟨rfl, rfl⟩
/-- slices.Sort of a set of the call's own. -/
theorem sortset_own (B : Nat) (v : Value) (xs : List Int) (w : World) (h : w.ownsRow B 3 1 v xs.length (icells xs)) (hB : B ≤ w.heap.size) (hl : xs.length ≤ 1000000) :
    Calls Tryz.prog 115 #[v] w fun e w' => e = .returned (.tuple #[]) ∧ w'.ownsRow B 3 1 v xs.length (icells (sorted xs)) ∧ Below B w w' ∧ w.grownBy w' v.ownBlock := by
  rcases h.2 with ⟨rfl, h0⟩ | ⟨g, cap, cur, rfl, hg, hh, h1, h2, h3, h4⟩
  · have hx : xs = [] := List.eq_nil_of_length_eq_zero h0
    subst hx
    refine (sortset_nil w).mono ?_
    rintro e w' ⟨rfl, rfl⟩
    rw [show sorted [] = [] by simp [sorted]]
    exact ⟨rfl, World.ownsRow_nil _ _ _ _, Below.refl _ _, grown_refl _ _⟩
  · have h4' : cur.toList.take xs.length = xs.map (Value.int .i64) := by rw [Nat.mul_one] at h4; exact h4
    have hlen : (sorted xs).length = xs.length := (sorted_perm xs).length_eq
    refine (sortset_cells g cap xs w (holds_of_blockI hh h4') (Array.getElem?_eq_some_iff.1 hh).1 (by omega)).mono ?_
    rintro e w' ⟨rfl, n, os, rfl⟩
    exact ⟨rfl, ownsRow_sortedI hlen hg hh h1 h2 h3, (Below.refl B w).grown (grownBy_sortedI _) hB (fun k hk => by injection hk with hk; omega), grownBy_sortedI _⟩
end Go.Proofs.YtphmicbpkljmfaaGreat
namespace Go.Proofs.YtphmicbpkljmfaaGreat
set_option linter.unusedVariables false
set_option linter.unusedSimpArgs false
open Go.RowKit Go.Sort
/-- A header of a slice, with the set that it holds in world w. -/
abbrev Hd (w : World) := { p : Value × List Int // SetV w p.1 p.2 }
theorem setV_nil (w : World) : SetV w (.slice none 0 0) [] := ⟨none, 0, rfl, Nat.le_refl _, by unfold maxLen; omega, fun _ => ⟨rfl, rfl⟩, fun h => absurd rfl h⟩
instance hdInh (w : World) : Inhabited (Hd w) := ⟨⟨(.slice none 0 0, []), setV_nil w⟩⟩
abbrev hv {w : World} (x : Hd w) : Value := x.1.1
abbrev hs {w : World} (x : Hd w) : List Int := x.1.2
def hcf {w : World} (x y : Hd w) : Int := bef (hs x) (hs y)
theorem hcf_lt {w : World} (x y : Hd w) : ltOf hcf x y = Fm.lt (hs x) (hs y) := bef_lt _ _
theorem hcf_swo (w : World) : SWO (ltOf (hcf (w := w))) where
  irrefl x := by rw [hcf_lt]; exact Fm.lt_irrefl _
  trans x y z h1 h2 := by rw [hcf_lt] at *; exact Fm.lt_trans _ _ _ h1 h2
  ntrans x y z h1 h2 := by rw [hcf_lt] at *; exact Fm.lt_ntrans _ _ _ h1 h2
theorem hv_one (w : World) : OneCell (hv (w := w)) := fun x => x.2.one
theorem Hdrs.list {w : World} : ∀ {vs : List Value} {F : List (List Int)}, Hdrs w vs F → ∃ D : List (Hd w), D.map hv = vs ∧ D.map hs = F
  | [], F, h => ⟨[], rfl, by have := h.1; simp at this; simp [List.eq_nil_of_length_eq_zero this.symm]⟩
  | v :: vs, [], h => by have := h.1; simp at this
  | v :: vs, s :: F, h => by
    obtain ⟨D, h1, h2⟩ := Hdrs.list (w := w) (vs := vs) (F := F) ⟨by have := h.1; simpa using this, fun k v' s' a b => h.2 (k + 1) v' s' (by simpa using a) (by simpa using b)⟩
    exact ⟨⟨(v, s), h.2 0 v s rfl rfl⟩ :: D, by simp [hv]; exact h1, by simp [hs]; exact h2⟩
theorem hdrs_of {w w' : World} (D : List (Hd w)) (h : ∀ x ∈ D, SetV w' (hv x) (hs x)) : Hdrs w' (D.map hv) (D.map hs) := by
  refine ⟨by simp, fun k v s h1 h2 => ?_⟩
  simp only [List.getElem?_map, Option.map_eq_some_iff] at h1 h2
  obtain ⟨x, hx, rfl⟩ := h1
  obtain ⟨y, hy, rfl⟩ := h2
  rw [hx] at hy
  obtain rfl := Option.some.inj hy
  exact h x (List.mem_of_getElem? hx)
/-- What lies below, but for the row, lies in a world of the sort's. -/
theorem sortWorld_cell {α : Type} [Inhabited α] (enc : α → Value) (w : World) (blk m : Nat) (dk : Array α) (os : Array Obj) (a : Addr) (h : a.block < w.heap.size) (h' : a.block ≠ blk ∨ dk.size ≤ a.off) : (sortWorld enc w blk 0 m dk os).cell? a = w.cell? a := by
  unfold sortWorld
  rw [cell?_grow _ _ _ (by rw [size_putRow]; exact h), cell?_putRow_other enc _ blk 0 dk a (by rcases h' with h' | h'; exact Or.inl h'; exact Or.inr (Or.inr (by omega)))]
  rfl
theorem sortWorld_size {α : Type} [Inhabited α] (enc : α → Value) (w : World) (blk m : Nat) (dk : Array α) (os : Array Obj) : w.heap.size ≤ (sortWorld enc w blk 0 m dk os).heap.size := by
  unfold sortWorld grow
  simp only [Array.size_append, size_putRow]
  show w.heap.size ≤ w.heap.size + os.size
  omega
theorem SetV.sorted {w : World} {blk m : Nat} {d dk : Array (Hd w)} {os : Array Obj} (hH : Holds hv w blk 0 d) (hsz : dk.size = d.size) {v : Value} {s : List Int} (h : SetV w v s) : SetV (sortWorld hv w blk 0 m dk os) v s := by
  obtain ⟨B, c, h1, h2, h3, h4, h5⟩ := h
  refine ⟨B, c, h1, h2, h3, h4, fun hn => ?_⟩
  obtain ⟨g, o, e, hg, hc⟩ := h5 hn
  refine ⟨g, o, e, Nat.lt_of_lt_of_le hg (sortWorld_size _ _ _ _ _ _), fun k x hx => ?_⟩
  have h6 := hc k x hx
  rw [sortWorld_cell _ _ _ _ _ _ _ hg ?_, h6]
  by_cases hb : g = blk
  · rcases Nat.lt_or_ge (o + k) d.size with h7 | h7
    · exfalso
      have h8 := (hH (o + k) h7).1
      rw [Nat.zero_add, ← hb, h6] at h8
      obtain ⟨B', c', e', _⟩ := (d[o + k]!).2
      rw [show hv d[o + k]! = _ from e'] at h8
      cases h8
    · exact Or.inr (by rw [hsz]; exact h7)
  · exact Or.inl hb
theorem holds_of_block {α : Type} [Inhabited α] {enc : α → Value} {w : World} {g : Nat} {cur : Array Value} {e : TypeId} {d : List α} (hb : w.heap[g]? = some (.cells cur e (0, 0))) (ht : cur.toList.take d.length = d.map enc) : Holds enc w g 0 d.toArray := by
  intro j hj
  have hj' : j < d.length := by simpa using hj
  refine ⟨?_, by simp [World.frozen?, hb]⟩
  have h1 : (cur.toList.take d.length)[j]? = (d.map enc)[j]? := by rw [ht]
  rw [List.getElem?_take_of_lt hj'] at h1
  simp only [World.cell?, hb, Nat.zero_add]
  simp only [Option.isSome_none, Bool.false_eq_true, if_false]
  rw [← Array.getElem?_toList, h1]
  simp [hj']
theorem heap_sorted' {α : Type} [Inhabited α] {enc : α → Value} {w : World} {g n : Nat} {os : Array Obj} {cur : Array Value} {e : TypeId} {fr : Nat × Nat} (d : Array α) (hb : w.heap[g]? = some (.cells cur e fr)) :
    (sortWorld enc w g 0 n d os).heap[g]? = some (.cells (putCells enc 0 d cur) e fr) := by
  unfold sortWorld
  have hg : g < w.heap.size := (Array.getElem?_eq_some_iff.1 hb).1
  rw [heap_grow_old _ _ (by simpa using hg)]
  simp [putRow, mapBlock, Sort.ahead, Array.getElem?_modify, hb, onCells]
theorem grownBy_sorted' {α : Type} [Inhabited α] {enc : α → Value} {w : World} {g n : Nat} {os : Array Obj} (d : Array α) : w.grownBy (sortWorld enc w g 0 n d os) (some g) := by
  unfold sortWorld
  refine ⟨rfl, rfl, rfl, by simp, fun k hk hne => ?_⟩
  rw [heap_grow_old _ _ (by simpa using hk)]
  have : g ≠ k := fun e => hne (by rw [e])
  simp [putRow, mapBlock, Sort.ahead, Array.getElem?_modify, this]
theorem take_putCells' {α : Type} [Inhabited α] {enc : α → Value} (cur : Array Value) (ts : List α) (h : ts.length ≤ cur.size) : (putCells enc 0 ts.toArray cur).toList.take ts.length = ts.map enc := by
  apply List.ext_getElem?
  intro j
  by_cases hj : j < ts.length
  · rw [List.getElem?_take_of_lt hj, Array.getElem?_toList]
    simp [putCells, hj, show j < cur.size by omega]
  · rw [List.getElem?_take_eq_none (by omega), List.getElem?_eq_none (by simp; omega)]
theorem ownsRow_sorted' {α : Type} [Inhabited α] {enc : α → Value} {w : World} {base g cap n k : Nat} {e : TypeId} {os : Array Obj} {cur : Array Value} {ts : List α} (hl : ts.length = k) (hbase : base ≤ g) (hb : w.heap[g]? = some (.cells cur e (0, 0)))
    (h1 : k ≤ cap) (h2 : cap ≤ maxLen) (h3 : cur.size = cap * 1) :
    (sortWorld enc w g 0 n ts.toArray os).ownsRow base e 1 (.slice (some ⟨g, 0, none⟩) k cap) k (ts.map enc) :=
  ⟨by simp [hl], .inr ⟨g, cap, _, rfl, hbase, heap_sorted' _ hb, h1, h2, by simp [putCells, h3], by rw [Nat.mul_one, ← hl]; exact take_putCells' cur ts (by omega)⟩⟩
theorem perm_of_permIn {α : Type} [Inhabited α] {d d' : Array α} (h : PermIn 0 d.size d d') : d'.toList.Perm d.toList := by
  obtain ⟨h1, _, h3⟩ := h
  have e1 : d.extract 0 d.size = d := by simp
  have e2 : d'.extract 0 d.size = d' := by rw [← h1]; simp
  rw [e1, e2] at h3
  exact h3
theorem pairwise_of_sortedIn {α : Type} [Inhabited α] {lt : α → α → Bool} {d : Array α} (h : SortedIn lt 0 d.size d) : d.toList.Pairwise fun a b => lt b a = false := by
  rw [List.pairwise_iff_getElem]
  intro i j hi hj hij
  have := h i j (Nat.zero_le _) hij (by simpa using hj)
  rw [getElem!_pos d i (by simpa using hi), getElem!_pos d j (by simpa using hj)] at this
  simpa using this
theorem before_reads {w : World} {blk : Nat} {d : Array (Hd w)} (hH : Holds hv w blk 0 d) : CmpReads Tryz.prog 118 #[] (hv (w := w)) hcf blk 0 d.size w := by
  intro m os dk hsz x y
  obtain ⟨B, c, e1, a1, a2, _, a5⟩ := SetV.sorted (m := m) (os := os) hH hsz x.2
  obtain ⟨B', c', e2, b1, b2, _, b5⟩ := SetV.sorted (m := m) (os := os) hH hsz y.2
  have h := before_any B c (hs x) B' c' (hs y) (sortWorld hv w blk 0 m dk os) (by unfold maxLen at a2; simp only [hs]; omega) (by unfold maxLen at b2; simp only [hs]; omega) a5 b5
  rw [show hv x = _ from e1, show hv y = _ from e2]
  exact h.mono fun _ _ ⟨h1, h2⟩ => ⟨h1, 0, h2.symm⟩
set_option maxHeartbeats 1000000 in
theorem sortfam_cells (blk cap : Nat) (w : World) (D : List (Hd w)) (hH : Holds hv w blk 0 D.toArray) (hblk : blk < w.heap.size) (hsz : D.length < 4611686018427387904) :
    Calls Tryz.prog 117 #[.slice (some ⟨blk, 0, none⟩) D.length cap, .func (.func 118) #[] #[]] w fun e w' =>
      e = .returned (.tuple #[]) ∧ ∃ (E : List (Hd w)) (n : Nat) (os : Array Obj), E.Perm D ∧ (E.Pairwise fun a b => Fm.lt (hs b) (hs a) = false) ∧ w' = sortWorld hv w blk 0 n E.toArray os := by
  have eg : ∀ args w, (callFunc 118 args).run Tryz.prog w = .ok (.enter 118 args) w := enters_of Tryz.func118 (by kernel_rfl) rfl
  have hlim := bitLen_small hsz
  have hp := Any.pdqsortCmpFunc_all Tryz.laysPD (hv (w := w)) hcf 118 #[] (hcf_swo w) blk 0 cap D.toArray w eg (before_reads hH).lays ⟨hv_one w, hH, hblk⟩ (D.toArray.size + 1) 0 D.toArray.size (Lib.bitLen D.length) D.toArray w (by omega) rfl (SW.start hH) (Nat.zero_le _) (Nat.le_refl _) (by simpa using hsz) (by omega) (Or.inl rfl)
  have hs' := pdq_sorts (ltOf (hcf (w := w))) (hcf_swo w) D.toArray 0 D.toArray.size (Lib.bitLen D.length) true true (Nat.zero_le _) (Nat.le_refl _) (Or.inl rfl)
  generalize pdq (ltOf (hcf (w := w))) D.toArray 0 D.toArray.size (Lib.bitLen D.length) true true = d' at hp hs'
  have HP := Lib.hid hp
  have H1 := Lib.hid (perm_of_permIn hs'.1)
  have H2 := Lib.hid (pairwise_of_sortedIn (by rw [hs'.1.1]; exact hs'.2))
  have wr : IntKind.u64.wrap (D.length : Int) = D.length := by simp [IntKind.wrap, IntKind.bits, IntKind.signed]; omega
  clear hp hs' hH eg
  go_enter Tryz.func117, Tryz.ntmps117
  go_wp2_with fail
  refine (Tryz.bits_Len (D.length : Int) _ (by omega) (by omega)).mono ?_
  rintro e w' ⟨rfl, rfl⟩
  rw [Int.toNat_natCast]
  go_wp2_with fail
  refine HP.out.mono ?_
  rintro e w' ⟨rfl, n, os, rfl⟩
  go_wp2_with fail
  go_end0
  refine ⟨rfl, d'.toList, n, os, by simpa using H1.out, ?_, by simp⟩
  exact H2.out.imp fun {a b} h => by rw [hcf_lt] at h; exact h
theorem finssort_nil (w : World) (f : Value) : Calls Tryz.prog 126 #[.slice none 0 0, .int .i64 0, .int .i64 0, f] w fun e w' => e = .returned (.tuple #[]) ∧ w = w' := by
  go_enter Tryz.func126, Tryz.ntmps126
  go_wp2_with fail
  refine wp_loop_rounds 1 ?_
  rw [rounds_succ]
  go_wp2_with fail
  go_end0
  exact ⟨rfl, rfl⟩
theorem fpdq_nil (w : World) (f : Value) : Calls Tryz.prog 122 #[.slice none 0 0, .int .i64 0, .int .i64 0, .int .i64 0, f] w fun e w' => e = .returned (.tuple #[]) ∧ w = w' := by
  go_enter Tryz.func122, Tryz.ntmps122
  go_wp2_with fail
  refine wp_loop_rounds 1 ?_
  rw [rounds_succ]
  go_wp2_with fail
  refine (finssort_nil _ _).mono ?_
  rintro e w' ⟨rfl, rfl⟩
  go_wp2_with fail
  exact bodyPost_ret (v := .tuple #[]) (by simp [results, Tryz.results122, go_sem]) rfl ⟨rfl, rfl⟩
theorem sortfam_nil (w : World) (f : Value) : Calls Tryz.prog 117 #[.slice none 0 0, f] w fun e w' => e = .returned (.tuple #[]) ∧ w = w' := by
  go_enter Tryz.func117, Tryz.ntmps117
  go_wp2_with fail
  refine (Tryz.bits_Len 0 _ (by omega) (by omega)).mono ?_
  rintro e w' ⟨rfl, rfl⟩
  rw [show ((Lib.bitLen (0 : Int).toNat : Nat) : Int) = 0 from rfl]
  go_wp2_with fail
  refine (fpdq_nil _ _).mono ?_
  rintro e w' ⟨rfl, rfl⟩
  go_wp2_with fail
  go_end0
  exact ⟨rfl, rfl⟩
/-- slices.SortFunc of a family of the call's own, by before. -/
theorem sortfam_own (B : Nat) (v : Value) (vs : List Value) (F : List (List Int)) (w : World) (h : w.ownsRow B 53 1 v F.length vs) (hd : Hdrs w vs F) (hB : B ≤ w.heap.size) (hl : F.length ≤ 1000000) :
    Calls Tryz.prog 117 #[v, .func (.func 118) #[] #[]] w fun e w' => e = .returned (.tuple #[]) ∧
      ∃ vs' G, G.Perm F ∧ (G.Pairwise fun a b => Fm.lt b a = false) ∧ w'.ownsRow B 53 1 v G.length vs' ∧ Hdrs w' vs' G ∧ Below B w w' ∧ w.grownBy w' v.ownBlock := by
  rcases h.2 with ⟨rfl, h0⟩ | ⟨g, cap, cur, rfl, hg, hh, h1, h2, h3, h4⟩
  · have hx : F = [] := List.eq_nil_of_length_eq_zero h0
    subst hx
    refine (sortfam_nil w _).mono ?_
    rintro e w' ⟨rfl, rfl⟩
    exact ⟨rfl, [], [], List.Perm.refl _, List.Pairwise.nil, World.ownsRow_nil _ _ _ _, hdrs_nil _, Below.refl _ _, grown_refl _ _⟩
  · obtain ⟨D, rfl, rfl⟩ := hd.list
    have hlen : (D.map hs).length = D.length := by simp
    rw [hlen] at h1 h4 hl ⊢
    have h4' : cur.toList.take D.length = D.map hv := by rw [Nat.mul_one] at h4; exact h4
    have hH := holds_of_block hh h4'
    have hlt := (Array.getElem?_eq_some_iff.1 hh).1
    refine (sortfam_cells g cap w D hH hlt (by omega)).mono ?_
    rintro e w' ⟨rfl, E, n, os, hp, hs', rfl⟩
    have hE := hp.length_eq
    refine ⟨rfl, E.map hv, E.map hs, hp.map _, ?_, ?_, ?_, (Below.refl B w).grown (grownBy_sorted' _) hB (fun k hk => by injection hk with hk; omega), grownBy_sorted' _⟩
    · rw [List.pairwise_map]; exact hs'
    · rw [List.length_map, hE]
      exact ownsRow_sorted' hE hg hh h1 h2 h3
    · exact hdrs_of E fun x _ => SetV.sorted hH (by simp [hE]) x.2
end Go.Proofs.YtphmicbpkljmfaaGreat
