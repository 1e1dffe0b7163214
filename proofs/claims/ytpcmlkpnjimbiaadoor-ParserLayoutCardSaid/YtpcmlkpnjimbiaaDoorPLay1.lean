/- The law's spread: a text with the same tokens and other gaps. -/
import Derived.Test.YtpcmlkpnjimbiaaDoorPLay0
import Derived.OpenShut
namespace Go.Proofs.YtpcmlkpnjimbiaaDoor.parserLayout
set_option linter.unusedVariables false
set_option linter.unusedSimpArgs false
open Go.RowKit
/-- What the walk is told of a slice of bytes that came in: it is nil, or it leads to a row of its numbers. -/
def IsRow (k : IntKind) (w : World) (a : Option Addr) (len cap : Nat) (zs : List Int) : Prop :=
 (a = none ∧ len = 0 ∧ cap = 0 ∧ zs = []) ∨
 ∃ x, a = some x ∧ len ≤ cap ∧ cap ≤ maxLen ∧ zs.length = cap ∧ (∀ i, i < zs.length → w.cell? (x.add i) = some (.int k (zs.getD i 0))) ∧ ∀ n ∈ zs, (Lit.int k n).wf = true
def Bytes (w : World) (a : Option Addr) (len : Nat) (zs : List Int) : Prop :=
 ∀ i, i < len → ∃ g o, a = some ⟨g, o, none⟩ ∧ g < w.heap.size ∧ w.cell? ⟨g, o + i, none⟩ = some (.int .u8 ((zs.getD i 0).toNat : Int)) ∧ (zs.getD i 0).toNat ≤ 255
theorem bytes_of {w : World} {a : Option Addr} {len cap : Nat} {zs : List Int} (h : IsRow .u8 w a len cap zs) : len ≤ 9223372036854775807 ∧ Bytes w a len zs := by
 rcases h with ⟨rfl, rfl, rfl, rfl⟩ | ⟨x, rfl, hl, hm, hz, hc, hwf⟩
 ·exact ⟨by omega, fun i h => by omega⟩
 ·refine ⟨by unfold maxLen at hm; omega, fun i hi => ?_⟩
  have h1 := hc i (by omega)
  obtain ⟨g, o, sp⟩ := x
  have hsp : sp = none := by
   have h0 := hc 0 (by omega)
   simpa [Addr.add] using World.cell?_spot h0
  subst hsp
  have hb := bounds_u8 (hwf (zs.getD i 0) (by rw [List.getD_eq_getElem?_getD, List.getElem?_eq_getElem (by omega)]; exact List.getElem_mem _))
  have e : (⟨g, o, none⟩ : Addr).add i = ⟨g, o + i, none⟩ := by unfold Addr.add; split <;> simp_all
  rw [e] at h1
  refine ⟨g, o, rfl, ?_, by rw [h1]; congr 2; omega, by omega⟩
  rcases Nat.lt_or_ge g w.heap.size with hh | hh
  ·exact hh
  ·simp [World.cell?, Array.getElem?_eq_none hh] at h1
theorem Bytes.below {w w' : World} {a : Option Addr} {len : Nat} {zs : List Int} (h : Bytes w a len zs) (hb : Below w.heap.size w w') : Bytes w' a len zs := fun i hi => by
 obtain ⟨g, o, e, h1, h2, h3⟩ := h i hi
 exact ⟨g, o, e, Nat.lt_of_lt_of_le h1 hb.size, (hb.cell (p := ⟨g, o + i, none⟩) h1).trans h2, h3⟩
/-- The gap before token i. -/
def gp (len : Nat) (zs : List Int) (i : Nat) : List UInt8 := if i < len then Lx.gapsP.getD ((zs.getD i 0).toNat % 6) [] else [32]
theorem gp_shut (len : Nat) (zs : List Int) (i : Nat) : Lx.Shut (gp len zs i) := by
 unfold gp
 split
 ·exact Lx.gapsP_shut _ (Nat.mod_lt _ (by omega))
 ·exact Lx.gapsP_shut 0 (by omega)
theorem gp_len (len : Nat) (zs : List Int) (i : Nat) : (gp len zs i).length ≤ 10 := by
 unfold gp
 split
 ·exact Lx.gapsP_len _
 ·decide
def gapsA : Array Value := (Lx.gapsP.map fun l => Value.string ⟨l.toArray⟩).toArray
theorem gapsA_get (k : Nat) (h : k < 6) : gapsA[k]? = some (.string ⟨(Lx.gapsP.getD k []).toArray⟩) := by
 rcases (by omega : k = 0 ∨ k = 1 ∨ k = 2 ∨ k = 3 ∨ k = 4 ∨ k = 5) with rfl | rfl | rfl | rfl | rfl | rfl <;> rfl
theorem app_data (a b : ByteArray) : (a ++ b).data.toList = a.data.toList ++ b.data.toList := by simp
theorem app_size (a b : ByteArray) : (a ++ b).size = a.size + b.size := ByteArray.size_append
theorem tk_text (l : List Lx.Tok) {k : Nat} {x : Lx.Tok} (h : l[k]? = some x) : (l.flatMap tkfs)[k * 3 + 1]? = some (.string (bs x.text)) := by
 have e : l.flatMap tkfs = (l.map tkfs).flatten := by rw [List.flatMap_def]
 rw [e]
 have hk : ∀ r ∈ l.map tkfs, r.length = 3 := fun r hr => by
  obtain ⟨x, _, rfl⟩ := List.mem_map.1 hr; rfl
 exact flat_at _ hk k (tkfs x) (by rw [List.getElem?_map, h]; rfl) 1 _ rfl
theorem lay_step {len : Nat} {zs : List Int} {ts : List Lx.Tok} {k : Nat} {x : Lx.Tok} (hk : ts[k]? = some x) {T G X : ByteArray} (hT : T.data.toList = Lx.layT (gp len zs) 0 (ts.take k)) (hG : G.data.toList = gp len zs k) (hX : X.data.toList = x.text) :
  (T ++ G ++ X).data.toList = Lx.layT (gp len zs) 0 (ts.take (k + 1)) := by
 obtain ⟨hk1, rfl⟩ := List.getElem?_eq_some_iff.1 hk
 have e : ts.take (k + 1) = ts.take k ++ [ts[k]] := List.take_succ_eq_append_getElem hk1
 have hl : (ts.take k).length = k := by rw [List.length_take]; omega
 rw [e, Lx.layT_snoc, hl, app_data, app_data, hT, hG, hX, Nat.zero_add]
set_option maxHeartbeats 2000000 in
set_option maxRecDepth 100000 in
theorem spread_any (ts : List Lx.Tok) (v : Value) (ga : Option Addr) (glen gcap : Nat) (zs : List Int) (w : World) (hl : ts.length ≤ 3000) (h16 : ∀ t ∈ ts, t.text.length ≤ 16) (hgl : glen ≤ 9223372036854775807) (hv : TkR w v ts) (hby : Bytes w ga glen zs) :
  Calls Tryd.prog 10 #[v, .slice ga glen gcap] w fun e w' => ∃ S : ByteArray, e = .returned (.string S) ∧ S.size ≤ 100000 ∧ S.data.toList = Lx.layT (gp glen zs) 0 ts ∧ Below w.heap.size w w' := by
 obtain ⟨A, c, rfl⟩ := TRow.slice hv
 have H16 := Lib.hid h16
 clear h16
 go_enter Tryd.func10, Tryd.ntmps10
 go_wp2_with fail
 have hst : Lx.gapsP = Lx.gapsP := rfl
 obtain ⟨w3, hw3⟩ : ∃ w3, w.alloc (.cells gapsA 9) = w3 := ⟨_, rfl⟩
 have b3 : Below w.heap.size w w3 := by rw [← hw3]; exact (Below.refl _ _).alloc (Nat.le_refl _) _
 have hA : At w3 w.heap.size 9 gapsA := by rw [← hw3]; exact At.new _ _ _
 generalize hw3' : w.alloc (.cells _ 9) = w3'
 obtain rfl : w3 = w3' := hw3.symm.trans hw3'
 clear hw3 hw3' hst
 obtain ⟨B3, hB3⟩ : ∃ B3, w.heap.size = B3 := ⟨_, rfl⟩
 rw [hB3] at hA
 simp only [hB3]
 have hv3 : TkR w3 (.slice A ts.length c) ts := TRow.below hv b3
 have hby3 := hby.below b3
 have HBW := Lib.hid b3
 have hAlt := hA.lt
 clear hv hby b3 hB3
 go_loopw [6, 7] (fun s i wr => ∃ (k : Nat) (T : ByteArray), k ≤ ts.length ∧ i = .int .i64 k ∧ s = .string T ∧ T.size ≤ k * 30 ∧ Hid (T.data.toList = Lx.layT (gp glen zs) 0 (ts.take k)) ∧ Below w3.heap.size w3 wr) (fun _ i _ => ts.length - (intOf i).toNat)
 case atStart => exact ⟨0, ⟨#[]⟩, by omega, rfl, rfl, by decide, Lib.hid rfl, Below.refl _ _⟩
 case round =>
  obtain ⟨k, T, hk, rfl, rfl, hTs, HT, hbr⟩ := hrel
  by_cases hlt : k < ts.length
  ·obtain ⟨x, hx⟩ : ∃ x, ts[k]? = some x := ⟨_, List.getElem?_eq_getElem hlt⟩
   obtain ⟨g, o, c1, e1, hg, q1⟩ := (TRow.below hv3 hbr).cells (by omega)
   have e2 := q1 _ _ (tk_text ts hx)
   injection e1 with e1 e8 e9
   subst e1
   obtain ⟨X, hX⟩ : ∃ X : ByteArray, bs x.text = X := ⟨_, rfl⟩
   have hXl : X.data.toList = x.text := by rw [← hX]; rfl
   have hXs : X.size ≤ 16 := by rw [← size_len, hXl]; exact H16.out x (List.mem_of_getElem? hx)
   rw [hX] at e2
   have HXL := Lib.hid hXl
   have HXX := Lib.hid hx
   rw [← Nat.add_assoc] at e2
   clear hX hXl hx q1 e8
   subst e9
   have d0 : decide ((k : Int) < (ts.length : Int)) = true := decide_eq_true (by omega)
   have hT1 : T.size + 30 ≤ 100000 := by omega
   by_cases hkg : k < glen
   ·have d1 : decide ((k : Int) < (glen : Int)) = true := decide_eq_true (by omega)
    have n1 : decide (k < glen) = true := decide_eq_true hkg
    obtain ⟨gg, og, rfl, hgg, hgc, hgv⟩ := (hby3.below hbr) k hkg
    obtain ⟨n, hn⟩ : ∃ n, (zs.getD k 0).toNat = n := ⟨_, rfl⟩
    rw [hn] at hgc hgv
    obtain ⟨G, hG⟩ : ∃ G : ByteArray, (⟨(Lx.gapsP.getD (n % 6) []).toArray⟩ : ByteArray) = G := ⟨_, rfl⟩
    have cg : wr.cell? ⟨B3, n % 6, none⟩ = some (.string G) := by
     have := (hA.below hbr hAlt).cell (n % 6)
     rw [gapsA_get _ (Nat.mod_lt _ (by omega)), hG] at this; exact this
    have hGl : G.data.toList = gp glen zs k := by rw [← hG]; unfold gp; rw [if_pos hkg, hn]
    have hGs : G.size ≤ 10 := by rw [← size_len, hGl]; exact gp_len _ _ _
    have HST := Lib.hid (lay_step (T := T) (G := G) (X := X) HXX.out HT.out hGl HXL.out)
    have HTG := Lib.hid (app_size T G)
    have HTX := Lib.hid (app_size (T ++ G) X)
    have hb1 : (T ++ G).size ≤ 100000 := by have := HTG.out; omega
    clear hn hG hGl
    go_wp2_with fail
    go_roundw
    case rel => exact ⟨k + 1, T ++ G ++ X, by omega, by go_num, rfl, by have := HTG.out; have := HTX.out; omega, Lib.hid HST.out, hbr⟩
    case measure => simp [intOf]; omega
   ·have d1 : decide ((k : Int) < (glen : Int)) = false := decide_eq_false (by omega)
    have n1 : decide (k < glen) = false := decide_eq_false hkg
    obtain ⟨G, hG⟩ : ∃ G : ByteArray, (⟨#[32]⟩ : ByteArray) = G := ⟨_, rfl⟩
    have hGl : G.data.toList = gp glen zs k := by rw [← hG]; unfold gp; rw [if_neg hkg]
    have hGs : G.size ≤ 10 := by rw [← size_len, hGl]; exact gp_len _ _ _
    have HST := Lib.hid (lay_step (T := T) (G := G) (X := X) HXX.out HT.out hGl HXL.out)
    have HTG := Lib.hid (app_size T G)
    have HTX := Lib.hid (app_size (T ++ G) X)
    have hb1 : (T ++ G).size ≤ 100000 := by have := HTG.out; omega
    rw [← hG] at hb1
    have HG := Lib.hid hG
    clear hG hGl hkg
    go_wp2_with fail
    go_roundw
    case rel => exact ⟨k + 1, T ++ ⟨#[32]⟩ ++ X, by omega, by go_num, rfl, by rw [HG.out]; have := HTG.out; have := HTX.out; omega, Lib.hid (by rw [HG.out]; exact HST.out), hbr⟩
    case measure => simp [intOf]; omega
  ·obtain rfl : k = ts.length := by omega
   have hall : ts.take ts.length = ts := List.take_of_length_le (Nat.le_refl _)
   have HT2 := Lib.hid (show T.data.toList = Lx.layT (gp glen zs) 0 ts by have := HT.out; rw [hall] at this; exact this)
   clear hall HT
   have d0 : decide ((ts.length : Int) < (ts.length : Int)) = false := decide_eq_false (by omega)
   go_wp2_with fail
   go_ret
   exact ⟨T, rfl, by omega, HT2.out, HBW.out.trans (hbr.mono HBW.out.size)⟩
end Go.Proofs.YtpcmlkpnjimbiaaDoor.parserLayout
