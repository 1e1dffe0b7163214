/- The walk of the lexer's Lex: it returns the tokens, the error and the offset of the plain law. -/
import Derived.Test.YtpcmlkpnjimbiaaDoorNextW
import Derived.Deep.AppendLies
import Derived.OwnWalk
namespace Go.Proofs.YtpcmlkpnjimbiaaDoor
set_option linter.unusedVariables false
set_option linter.unusedSimpArgs false
open Go.RowKit
def tokCells (ts : List Lx.Tok) : List Value := ts.flatMap fun t => [.int .i64 t.kind, .string ⟨t.text.toArray⟩, .int .i64 t.pos]
theorem tokCells_snoc (ts : List Lx.Tok) (t : Lx.Tok) : tokCells (ts ++ [t]) = tokCells ts ++ [.int .i64 t.kind, .string ⟨t.text.toArray⟩, .int .i64 t.pos] := by
 simp [tokCells]
theorem tok_info : (Tryd.prog.info? 41).map (fun i => (i.zero, i.size, i.bytes)) = some (some (.agg #[.int .i64 0, .string ⟨#[]⟩, .int .i64 0]), 3, 32) := by kernel_rfl
/-- Where the lexer stands: behind a gap at place p, with the tokens before it. -/
def ScanAt (l : List UInt8) (ds : List Lx.Tok) (p : Nat) : Prop := ∃ f, l.length < p + f ∧ Lx.scan l = (ds ++ (Lx.run f (l.drop p) p).1, (Lx.run f (l.drop p) p).2)
theorem ScanAt.start (l : List UInt8) : ScanAt l [] (Lx.gapG false l) := ⟨l.length + 1, by omega, rfl⟩
theorem ScanAt.stop {l : List UInt8} {ds : List Lx.Tok} (h : ScanAt l ds l.length) : Lx.scan l = (ds, none) := by
 obtain ⟨f, hf, h⟩ := h
 obtain ⟨g, rfl⟩ : ∃ g, f = g + 1 := ⟨f - 1, by omega⟩
 rw [h]; simp [Lx.run]
theorem ScanAt.bad {l : List UInt8} {ds : List Lx.Tok} {p : Nat} (h : ScanAt l ds p) (hp : p < l.length) (hk : (Lx.next (l.drop p)).1 = 0) : Lx.scan l = (ds, some p) := by
 obtain ⟨f, hf, h⟩ := h
 obtain ⟨g, rfl⟩ : ∃ g, f = g + 1 := ⟨f - 1, by omega⟩
 have hne : l.drop p ≠ [] := by intro e; have := congrArg List.length e; simp at this; omega
 rw [h]; simp [Lx.run, hne, hk]
theorem next_len (l : List UInt8) (h : (Lx.next l).1 ≠ 0) : 0 < (Lx.next l).2 ∧ (Lx.next l).2 ≤ l.length := by
 unfold Lx.next at *
 split
 ·rename_i hw
  rw [if_pos hw] at h
  split
  ·rename_i hs; rw [if_pos hs] at h; simp at h
  ·rename_i hs
   refine ⟨by omega, ?_⟩
   unfold Lx.symLen at *
   cases hf : Lx.symbols.find? (fun p => p.isPrefixOf l) with
   | none => simp
   | some p => have h1 := List.find?_some hf; simpa using (List.isPrefixOf_iff_prefix.1 h1).length_le
 ·rename_i hw
  rw [if_neg hw] at h
  split
  ·rename_i hs; rw [if_pos hs] at h; simp at h
  ·exact ⟨by omega, Lx.wordLen_le l⟩
theorem ScanAt.more {l : List UInt8} {ds : List Lx.Tok} {p n G : Nat} (h : ScanAt l ds p) (hp : p < l.length) (hk : (Lx.next (l.drop p)).1 ≠ 0) (hn : (Lx.next (l.drop p)).2 = n) (hG : G = (p + n) + Lx.gapG false (l.drop (p + n))) :
  ScanAt l (ds ++ [⟨(Lx.next (l.drop p)).1, (l.drop p).take n, p⟩]) G := by
 obtain ⟨f, hf, h⟩ := h
 obtain ⟨g, rfl⟩ : ∃ g, f = g + 1 := ⟨f - 1, by omega⟩
 have hne : l.drop p ≠ [] := by intro e; have := congrArg List.length e; simp at this; omega
 have hl := (next_len _ hk).1
 subst hn
 refine ⟨g, by omega, ?_⟩
 rw [h]
 simp only [Lx.run, if_neg hne, if_neg hk, List.drop_drop, List.append_assoc, List.singleton_append, hG, Nat.add_assoc]
theorem lex_limit {l : List UInt8} {ds : List Lx.Tok} {p : Nat} (h : ScanAt l ds p) (hl : l.length ≤ 8000) (hp : p < l.length) (hd : ds.length = 3000) : Lx.lex l = ([], 2, (p : Int)) := by
 by_cases hk : (Lx.next (l.drop p)).1 = 0
 ·simp [Lx.lex, h.bad hp hk, hd]; omega
 ·have h2 := h
  obtain ⟨f, hf, h3⟩ := h2
  obtain ⟨g, rfl⟩ : ∃ g, f = g + 1 := ⟨f - 1, by omega⟩
  have hne : l.drop p ≠ [] := by intro e; have := congrArg List.length e; simp at this; omega
  have e1 : (Lx.scan l).1 = ds ++ ⟨(Lx.next (l.drop p)).1, (l.drop p).take (Lx.next (l.drop p)).2, p⟩ :: (Lx.run g ((l.drop p).drop ((Lx.next (l.drop p)).2 + Lx.gapG false ((l.drop p).drop (Lx.next (l.drop p)).2))) (p + (Lx.next (l.drop p)).2 + Lx.gapG false ((l.drop p).drop (Lx.next (l.drop p)).2))).1 := by
   rw [h3]; simp only [Lx.run, if_neg hne, if_neg hk]
  have e2 : 3000 < (Lx.scan l).1.length := by rw [e1]; simp; omega
  have e3 : (Lx.scan l).1[3000] = ⟨(Lx.next (l.drop p)).1, (l.drop p).take (Lx.next (l.drop p)).2, p⟩ := by
   have : (Lx.scan l).1[3000]? = some ⟨(Lx.next (l.drop p)).1, (l.drop p).take (Lx.next (l.drop p)).2, p⟩ := by
    rw [e1, List.getElem?_append_right (by omega), hd]; rfl
   rw [List.getElem?_eq_getElem e2] at this; exact Option.some.inj this
  simp only [Lx.lex, if_neg (show ¬ 8000 < l.length by omega), dif_pos e2, e3]
theorem lex_bad {l : List UInt8} {ds : List Lx.Tok} {p : Nat} (h : ScanAt l ds p) (hl : l.length ≤ 8000) (hp : p < l.length) (hd : ds.length < 3000) (hk : (Lx.next (l.drop p)).1 = 0) : Lx.lex l = ([], 40, (p : Int)) := by
 simp only [Lx.lex, h.bad hp hk, if_neg (show ¬ 8000 < l.length by omega), dif_neg (show ¬ 3000 < ds.length by omega), if_neg (show ¬ ds.length = 3000 by omega)]
theorem lex_ok {l : List UInt8} {ds : List Lx.Tok} (h : ScanAt l ds l.length) (hl : l.length ≤ 8000) (hd : ds.length ≤ 3000) : Lx.lex l = (ds, 0, -1) := by
 simp only [Lx.lex, h.stop, if_neg (show ¬ 8000 < l.length by omega), dif_neg (show ¬ 3000 < ds.length by omega)]
theorem lex_long {l : List UInt8} (hl : 8000 < l.length) : Lx.lex l = ([], 2, 8000) := by simp only [Lx.lex, if_pos hl]
theorem next_at (s : ByteArray) (p k n : Nat) (w : World) (hs : s.size ≤ 9223372036854775807) (hy : Syms w) (hk : (Lx.next (s.data.toList.drop p)).1 = k) (hn : (Lx.next (s.data.toList.drop p)).2 = n) :
  Calls Tryd.prog 48 #[.string (s.extract p s.size)] w fun e w' => (∃ t : ByteArray, e = .returned (.agg #[.int .i64 k, .string t, .int .i64 0]) ∧ t.data.toList = (s.data.toList.drop p).take n) ∧ Below w.heap.size w w' := by
 have h := next_any (s.extract p s.size) w (by rw [← size_len, ext_drop, List.length_drop, size_len]; omega) hy
 rw [ext_drop, hk, hn] at h
 exact h
theorem gap_at (s : ByteArray) (p : Int) (q G : Nat) (w : World) (hpq : p = q) (hp : q ≤ s.size) (hs : s.size ≤ 9223372036854775807) (hG : G = q + Lx.gapG false (s.data.toList.drop q)) :
  Calls Tryd.prog 47 #[.string s, .int .i64 p] w fun e w' => e = .returned (.int .i64 (G : Int)) ∧ w = w' := by
 subst hpq; subst hG; exact gap_any s q w hp hs
theorem tok_size {s t : ByteArray} {p n : Nat} (h : t.data.toList = (s.data.toList.drop p).take n) (hn : n ≤ s.size - p) : t.size = n := by
 rw [← size_len, h, List.length_take, List.length_drop, size_len]; omega
theorem own_app {w : World} {B n : Nat} {v : Value} {cs : List Value} {ds : List Lx.Tok} {t : Lx.Tok} (h : w.ownsRow B 41 3 v n (tokCells ds ++ cs)) (hn : n = (ds ++ [t]).length) (hc : cs = [.int .i64 t.kind, .string ⟨t.text.toArray⟩, .int .i64 t.pos]) : w.ownsRow B 41 3 v (ds ++ [t]).length (tokCells (ds ++ [t])) := by
 rw [← hn, tokCells_snoc, ← hc]; exact h
set_option maxHeartbeats 1000000 in
set_option maxRecDepth 100000 in
theorem lex_walk (s : ByteArray) (w : World) (hs : s.size ≤ 8000) (hy : Syms w) :
  Calls Tryd.prog 24 #[.string s] w fun e w' => (∃ v, e = .returned (.tuple #[v, .int .i64 (Lx.lex s.data.toList).2.1, .int .i64 (Lx.lex s.data.toList).2.2]) ∧ w'.ownsRow w.heap.size 41 3 v (Lx.lex s.data.toList).1.length (tokCells (Lx.lex s.data.toList).1)) ∧ Below w.heap.size w w' := by
 obtain ⟨i0, hi, hz0, hz1, hz2⟩ := info_parts tok_info
 have HL := Lib.hid (show s.data.toList.length ≤ 8000 by rw [size_len]; exact hs)
 have HS := Lib.hid (size_len s)
 have hg0 := Lx.gapG_le false s.data.toList
 rw [HS.out] at hg0
 have h8 : decide ((8000 : Int) < (s.size : Int)) = false := by simp; omega
 go_enter Tryd.func24, Tryd.ntmps24
 go_wp2_with fail
 go_step3
 go_wp2_with fail
 refine (gap_at s 0 0 _ w rfl (by omega) (by omega) rfl).mono ?_
 rintro e w' ⟨rfl, rfl⟩
 go_wp2_with fail
 go_step3
 go_wp2_with fail
 go_loopw [5, 6] (fun v i wr => ∃ (p : Nat) (ds : List Lx.Tok), p ≤ s.size ∧ i = .int .i64 p ∧ ds.length ≤ 3000 ∧ wr.ownsRow w.heap.size 41 3 v ds.length (tokCells ds) ∧ Hid (ScanAt s.data.toList ds p) ∧ Syms wr ∧ Below w.heap.size w wr) (fun _ i _ => s.size - (intOf i).toNat)
 case atStart => exact ⟨_, [], hg0, by simp, by simp, World.ownsRow_nil _ _ _ _, Lib.hid (by simpa using ScanAt.start s.data.toList), hy, Below.refl _ _⟩
 case round =>
  obtain ⟨p, ds, hp, rfl, hd, hown, HSc, hsy, hbw⟩ := hrel
  obtain ⟨a, c, rfl⟩ := own_len hown
  by_cases hlt : p < s.size
  ·obtain ⟨k, hk⟩ : ∃ k : Nat, (Lx.next (s.data.toList.drop p)).1 = k := ⟨_, rfl⟩
   obtain ⟨n, hn⟩ : ∃ n : Nat, (Lx.next (s.data.toList.drop p)).2 = n := ⟨_, rfl⟩
   have HK := Lib.hid hk
   have HN := Lib.hid hn
   clear hk hn
   by_cases h3 : ds.length = 3000
   ·have HR := Lib.hid (lex_limit HSc.out HL.out (by rw [HS.out]; exact hlt) h3)
    have h3' : ((ds.length : Int) == 3000) = true := by rw [h3]; rfl
    have H3 := Lib.hid h3; clear h3
    go_wp2_with (first
     | (go_at_call 48; refine (next_at s p k n _ (by omega) hsy HK.out HN.out).mono ?_; rintro e w1 ⟨⟨t, rfl, ht⟩, hb1⟩; clear ht))
    rw [Exit.noGoto_ret]
    go_ret3
    refine ⟨⟨.slice none 0 0, by rw [HR.out]; rfl, by rw [HR.out]; exact World.ownsRow_nil _ _ _ _⟩, ?_⟩
    exact (hbw.trans (hb1.mono hbw.size)).alloc (by have := hbw.size; have := hb1.size; omega) _
   ·have h3' : ((ds.length : Int) == 3000) = false := by simp; omega
    by_cases hk0 : k = 0
    ·have HR := Lib.hid (lex_bad HSc.out HL.out (by rw [HS.out]; exact hlt) (by omega) (HK.out.trans hk0))
     have hk0' : (((k : Nat) : Int) == 0) = true := by rw [hk0]; rfl
     have HK0 := Lib.hid hk0; clear hk0
     go_wp2_with (first
      | (go_at_call 48; refine (next_at s p k n _ (by omega) hsy HK.out HN.out).mono ?_; rintro e w1 ⟨⟨t, rfl, ht⟩, hb1⟩; clear ht))
     rw [Exit.noGoto_ret]
     go_ret3
     refine ⟨⟨.slice none 0 0, by rw [HR.out]; rfl, by rw [HR.out]; exact World.ownsRow_nil _ _ _ _⟩, ?_⟩
     exact (hbw.trans (hb1.mono hbw.size)).alloc (by have := hbw.size; have := hb1.size; omega) _
    ·have hk0' : (((k : Nat) : Int) == 0) = false := by simp; omega
     have hk1 : (Lx.next (s.data.toList.drop p)).1 ≠ 0 := by rw [HK.out]; exact hk0
     have hnl := next_len _ hk1
     rw [HN.out, List.length_drop, HS.out] at hnl
     obtain ⟨hn1, hn2⟩ := hnl
     obtain ⟨G, hG⟩ : ∃ G, G = (p + n) + Lx.gapG false (s.data.toList.drop (p + n)) := ⟨_, rfl⟩
     have hG1 : G ≤ s.size := by have := Lx.gapG_le false (s.data.toList.drop (p + n)); rw [List.length_drop, HS.out] at this; omega
     have hG2 : p < G := by omega
     have HG := Lib.hid hG; clear hG
     have HM := Lib.hid (ScanAt.more HSc.out (by rw [HS.out]; exact hlt) hk1 HN.out HG.out)
     clear hk1
     go_wp2_with (first
      | (go_at_call 48; refine (next_at s p k n _ (by omega) hsy HK.out HN.out).mono ?_; rintro e w1 ⟨⟨t, rfl, ht⟩, hb1⟩; have HT := Lib.hid ht; clear ht; have hown1 := own_below hown hb1; have HTn := Lib.hid (tok_size HT.out hn2); have htz : t.size + p ≤ s.size := by (have := HTn.out; omega))
      | (at_builtin; refine wpList_append_lies _ rfl (.tmp 32) (.tmp 34) 24 rfl w.heap.size 41 i0 _ 3 32 Tryd.underlying24 hi hz0 hz1 hz2 rfl (by omega) (.slice a ds.length c) ds.length (tokCells ds) rfl ((hown1.alloc _).alloc _) ⟨w1.heap.size + 1, 0, none⟩ 1 1 [.int .i64 k, .string t, .int .i64 p] rfl rfl (At.news (At.newAt (by simp) _ _)) (one3 rfl rfl rfl) (by omega) (by unfold maxLen; omega) (by omega) (by have := hbw.size; have := hb1.size; simp; omega) (w1.heap.size + 2) (by simp) ?_; intro g cap w2 hown2 hgrow hat hlt2; have hA2 : At w2 w1.heap.size 41 #[.int .i64 k, .string t, .int .i64 p] := (((At.new w1 _ _).alloc _).grown hgrow (fun e => by have := own_lt hown1 e.symm; omega)); have c1 : w2.cell? ⟨w1.heap.size, 1, none⟩ = some (.string t) := hA2.cell 1)
      | (go_at_call 47; refine (gap_at s _ (p + n) G _ (by have := HTn.out; omega) (by omega) (by omega) HG.out).mono ?_; rintro e w' ⟨rfl, rfl⟩))
     have hbw2 : Below w.heap.size w w2 := (((hbw.trans (hb1.mono hbw.size)).alloc (by have := hbw.size; have := hb1.size; omega) _).alloc (by have := hbw.size; have := hb1.size; simp; omega) _).grown hgrow (by have := hbw.size; have := hb1.size; simp; omega) (fun g hg => (own_lt hown1 hg).1)
     go_roundw
     case rel => exact ⟨G, ds ++ [⟨k, t.data.toList, p⟩], hG1, rfl, by simp; omega, own_app hown2 (by simp) (by rw [str_mk]), Lib.hid (by rw [HT.out]; have := HM.out; rw [HK.out] at this; exact this), hy.below hbw2 hy.lt, hbw2⟩
     case measure => simp [intOf]; omega
  ·obtain rfl : p = s.size := by omega
   have HR := Lib.hid (lex_ok (by rw [HS.out]; exact HSc.out) HL.out hd)
   go_wp2
   rw [Exit.noGoto_ret]
   go_ret3
   exact ⟨⟨_, by rw [HR.out]; rfl, by rw [HR.out]; exact hown⟩, hbw⟩
end Go.Proofs.YtpcmlkpnjimbiaaDoor
