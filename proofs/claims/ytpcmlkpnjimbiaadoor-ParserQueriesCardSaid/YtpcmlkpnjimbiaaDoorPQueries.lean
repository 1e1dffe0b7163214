/- The walk of ParserQueries. -/
import Derived.Test.YtpcmlkpnjimbiaaDoorPQr1
import Derived.Test.YtpcmlkpnjimbiaaDoorPEq2
import Derived.Test.YtpcmlkpnjimbiaaDoorPHeadW
import Derived.Test.YtpcmlkpnjimbiaaDoorRefLex
import Derived.Test.YtpcmlkpnjimbiaaDoorInv4
namespace Go.Proofs.YtpcmlkpnjimbiaaDoor
set_option linter.unusedVariables false
set_option linter.unusedSimpArgs false
open Go.RowKit
namespace parserQueries
theorem rlex_q {s : ByteArray} (w : World) (hm : s.size ≤ 9223372036854775807) :
    Calls Tryd.prog 9 #[.string s] w fun e w' => ∃ (A : Option Addr) (n c : Nat) (m : Int), e = .returned (.tuple #[.slice A n c, .int .i64 (Lx.lex s.data.toList).2.1, .int .i64 m]) ∧ Below w.heap.size w w' := by
  refine (rlex_any s w hm).mono ?_
  intro e w' h
  unfold Lexed at h
  obtain ⟨A, c, h1, _, h2⟩ := h
  exact ⟨A, _, c, _, h1, h2⟩
theorem app_data (a b : ByteArray) : (a ++ b).data.toList = a.data.toList ++ b.data.toList := by simp
theorem app_size (a b : ByteArray) : (a ++ b).size = a.size + b.size := ByteArray.size_append
theorem wrap_small (z : Int) (h0 : 0 ≤ z) (h : z ≤ 1000000) : IntKind.i64.wrap z = z := IntWalk.i64_in _ (by omega)
theorem setCell_size (w : World) (p : Addr) (v : Value) : (w.setCell p v).heap.size = w.heap.size := by simp [World.setCell]
theorem cell_apart {w : World} {g b o i : Nat} (h : g ≠ b) (v : Value) : (w.setCell ⟨b, i, none⟩ v).cell? ⟨g, o, none⟩ = w.cell? ⟨g, o, none⟩ := by
  unfold World.cell?
  rw [Below.heap_setCell _ ⟨b, i, none⟩ _ _ h]
set_option maxHeartbeats 1000000 in
set_option maxRecDepth 100000 in
theorem constants_yes (v : Value) (l : List Px.T) (w : World) (hl : l.length ≤ 1000000) (hc : ∀ a ∈ l, a.v = []) (h : TRow w 71 4 v l.length (tmCells l)) :
    Calls Tryd.prog 23 #[v] w fun e w' => e = .returned (.bool true) ∧ Below w.heap.size w w' := by
  obtain ⟨A, c, rfl⟩ := TRow.slice h
  have HCC := Lib.hid hc
  clear hc
  go_enter Tryd.func23, Tryd.ntmps23
  go_wp2_with fail
  go_loopw [3] (fun i wr => ∃ (k : Nat), k ≤ l.length ∧ i = .int .i64 k ∧ Below w.heap.size w wr) (fun i _ => l.length - (intOf i).toNat)
  case atStart => exact ⟨0, by omega, rfl, Below.refl _ _⟩
  case round =>
    obtain ⟨k, hk, rfl, hbw⟩ := hrel
    by_cases hlt : k < l.length
    · obtain ⟨g, o, c1, e1, hg, q1⟩ := (TRow.below h hbw).cells (by omega)
      obtain ⟨x, hx⟩ : ∃ x, l[k]? = some x := ⟨_, List.getElem?_eq_getElem hlt⟩
      have hf := tm_flat l hx
      have c0 := q1 _ _ (hf 0 _ rfl)
      rw [HCC.out x (List.mem_of_getElem? hx)] at c0
      simp only [Nat.add_zero] at c0
      have c0' : wr.cell? ⟨g, o + k * 4, none⟩ = some (.string ⟨#[]⟩) := c0
      injection e1 with e1 e9 e3
      clear e9
      subst e1; subst e3
      clear h hf q1 hx c0
      go_wp2_with fail
      go_roundw
      case rel => exact ⟨k + 1, by omega, by go_num, hbw⟩
      case measure => simp [intOf]; omega
    · go_wp2_with fail
      go_ret
      exact ⟨rfl, hbw⟩
set_option maxHeartbeats 8000000 in
set_option maxRecDepth 100000 in
theorem law_walk (s : ByteArray) (w : World) (h : Env w) (hs : s.size ≤ 9223372036854775807) :
    Calls Tryd.prog 7 #[.string s] w fun e w' => e = .returned (.bool true) ∧ Below w.heap.size w w' := by
  have HH := Lib.hid (phead_any w h)
  have HENV := Lib.hid h
  clear h
  by_cases h81 : s.size ≤ 8980
  · have d1 : decide ((8980 : Int) < (s.size : Int)) = false := decide_eq_false (by omega)
    have wr10 : IntKind.i64.wrap ((s.size : Int) + 10) = (s.size : Int) + 10 := wrap_small _ (by omega) (by omega)
    have HQD := Lib.hid (show (((⟨#[104, 40, 41, 32, 58, 45, 10]⟩ : ByteArray) ++ s) ++ ⟨#[10, 46]⟩).data.toList = qText s.data.toList by rw [app_data, app_data]; rfl)
    have HFD := Lib.hid (show (s ++ (⟨#[10, 46]⟩ : ByteArray)).data.toList = fText s.data.toList by rw [app_data]; rfl)
    have HQS := Lib.hid (show (((⟨#[104, 40, 41, 32, 58, 45, 10]⟩ : ByteArray) ++ s) ++ ⟨#[10, 46]⟩).size ≤ 1000000 by rw [app_size, app_size]; have e1 : (⟨#[104, 40, 41, 32, 58, 45, 10]⟩ : ByteArray).size = 7 := rfl; have e2 : (⟨#[10, 46]⟩ : ByteArray).size = 2 := rfl; omega)
    have HFS := Lib.hid (show (s ++ (⟨#[10, 46]⟩ : ByteArray)).size ≤ 1000000 by rw [app_size]; have e2 : (⟨#[10, 46]⟩ : ByteArray).size = 2 := rfl; omega)
    rcases qf_cases s.data.toList with ⟨nm, args, ps, nm', args', ps', hq, hf⟩ | ⟨nm, args, b, ps, d', hq, hf⟩ | ⟨d, nm', args', b', ps', hq, hf⟩ | ⟨d, d', hq, hf⟩
    · obtain ⟨q1, q2, q3, q4, q5⟩ := hq
      obtain ⟨f1, f2, f3, f4⟩ := hf
      have HQ1 := Lib.hid q1; have HF1 := Lib.hid f1; clear q1 f1
      have HQ5 := Lib.hid q5; clear q5; have wr7 : IntKind.i64.wrap (ps + 7) = ps + 7 := wrap_small _ (by omega) (by omega)
      have HF3 := Lib.hid f3; have HF4 := Lib.hid f4; clear f3 f4
      go_enter Tryd.func7, Tryd.ntmps7
      go_wp2_with (go_at_call 8; refine (HH.out).mono ?_; rintro e w1 ⟨rfl, bb⟩; clear HH)
      have HC := Lib.hid (fun (_ : Nat) => query_env s w1 (HENV.out.below bb) (by omega))
      go_wp2_with (go_at_call 20; refine (HC.out 0).mono ?_; rintro e w2 ⟨hbw2, aw2, ddw2, rfl, ta, hdw2⟩; rw [HQ1.out] at ta hdw2 ⊢; obtain ⟨aAw2, aCw2, rfl⟩ := ta.slice; obtain ⟨dAw2, dCw2, rfl⟩ := TRow.slice hdw2; simp only [liFs]; replace bb := bb.trans (hbw2.mono bb.size); clear HC)
      have hB4 : w.heap.size ≤ w2.heap.size := bb.size
      have x4 := At.new w2 58 (liFs (⟨1, nm, -1, args, [], [], -1, 0, ps⟩ : Ap.Li) (.slice aAw2 (Ap.Li.args (⟨1, nm, -1, args, [], [], -1, 0, ps⟩ : Ap.Li)).length aCw2)).toArray
      have hcw2b := below1 w2 (.cells (liFs (⟨1, nm, -1, args, [], [], -1, 0, ps⟩ : Ap.Li) (.slice aAw2 (Ap.Li.args (⟨1, nm, -1, args, [], [], -1, 0, ps⟩ : Ap.Li)).length aCw2)).toArray 58)
      simp only [liFs] at x4 hcw2b
      generalize hww2b : w2.alloc _ = w2b at x4 hcw2b ⊢
      replace ta := TRow.below ta hcw2b
      replace bb := bb.trans (hcw2b.mono bb.size)
      clear hww2b hcw2b hbw2 hdw2
      have HC := Lib.hid (fun (_ : Nat) => fact_env s w2b (HENV.out.below bb) (by omega))
      go_wp2_with (go_at_call 21; refine (HC.out 0).mono ?_; rintro e w3 ⟨hbw3, aw3, ddw3, rfl, tb, hdw3⟩; rw [HF1.out] at tb hdw3 ⊢; obtain ⟨aAw3, aCw3, rfl⟩ := tb.slice; obtain ⟨dAw3, dCw3, rfl⟩ := TRow.slice hdw3; simp only [liFs]; replace ta := TRow.below ta hbw3; replace x4 := x4.next hbw3; replace bb := bb.trans (hbw3.mono bb.size); have h46 : w2.heap.size < w3.heap.size := x4.lt; clear HC)
      · go_ret
        exact ⟨rfl, bb.trans ((below1 _ _).mono bb.size)⟩
      · have er1h : ∃ er1, (Lx.lex (qText s.data.toList)).2.1 = er1 := ⟨_, rfl⟩
        have er2h : ∃ er2, (Lx.lex (fText s.data.toList)).2.1 = er2 := ⟨_, rfl⟩
        obtain ⟨er1, her1⟩ := er1h; obtain ⟨er2, her2⟩ := er2h
        rw [her1] at HQ5
        rw [her2] at HF4
        have HE1 := Lib.hid her1; have HE2 := Lib.hid her2; clear her1 her2
        have x6 := At.new w3 58 (liFs (⟨1, nm', -1, args', [], [], -1, 0, ps'⟩ : Ap.Li) (.slice aAw3 (Ap.Li.args (⟨1, nm', -1, args', [], [], -1, 0, ps'⟩ : Ap.Li)).length aCw3)).toArray
        have hcw3b := below1 w3 (.cells (liFs (⟨1, nm', -1, args', [], [], -1, 0, ps'⟩ : Ap.Li) (.slice aAw3 (Ap.Li.args (⟨1, nm', -1, args', [], [], -1, 0, ps'⟩ : Ap.Li)).length aCw3)).toArray 58)
        simp only [liFs] at x6 hcw3b
        generalize hww3b : w3.alloc _ = w3b at x6 hcw3b ⊢
        replace ta := TRow.below ta hcw3b
        replace x4 := x4.next hcw3b
        replace tb := TRow.below tb hcw3b
        replace bb := bb.trans (hcw3b.mono bb.size)
        clear hww3b hcw3b hbw3 hdw3
        have HL := Lib.hid (fun (_ : Nat) => rlex_q (s := ((⟨#[104, 40, 41, 32, 58, 45, 10]⟩ : ByteArray) ++ s) ++ ⟨#[10, 46]⟩) w3b (Nat.le_trans HQS.out (by decide)))
        rw [HQD.out, HE1.out] at HL
        go_wp2_with (go_at_call 9; refine (HL.out 0).mono ?_; rintro e w4 ⟨LA1, ln1, lc1, lm1, rfl, hb4⟩; clear HL; replace ta := TRow.below ta hb4; replace x4 := x4.next hb4; replace tb := TRow.below tb hb4; replace x6 := x6.next hb4; replace bb := bb.trans (hb4.mono bb.size))
        have HL := Lib.hid (fun (_ : Nat) => rlex_q (s := s ++ (⟨#[10, 46]⟩ : ByteArray)) w4 (Nat.le_trans HFS.out (by decide)))
        rw [HFD.out, HE2.out] at HL
        go_wp2_with (go_at_call 9; refine (HL.out 0).mono ?_; rintro e w5 ⟨LA2, ln2, lc2, lm2, rfl, hb5⟩; clear HL; replace ta := TRow.below ta hb5; replace x4 := x4.next hb5; replace tb := TRow.below tb hb5; replace x6 := x6.next hb5; replace bb := bb.trans (hb5.mono bb.size); have p4 : _ = some (Value.string ⟨#[]⟩) := x4.cell 4; have r5 : _ = some (Value.string ⟨#[]⟩) := x6.cell 5)
        · have e1 : er1 = 0 := eq_of_beq (by assumption)
          clear p4 r5
          obtain ⟨hD5, hP5⟩ := HQ5.out e1; have HP5 := Lib.hid hP5; have HD5 := Lib.hid hD5; clear hD5 hP5 HQ5
          have HC := Lib.hid (fun (_ : Nat) => parse_env (((⟨#[104, 40, 41, 32, 58, 45, 10]⟩ : ByteArray) ++ s) ++ ⟨#[10, 46]⟩) w5 (HENV.out.below bb) HQS.out)
          go_wp2_with (go_at_call 11; refine (HC.out 0).mono ?_; rintro e w6 ⟨hb6, pl, pf, pp, pr1, pd, rfl, hP, hD⟩; rw [HQD.out, HP5.out] at hP; rw [HQD.out, HD5.out] at hD; obtain ⟨plA, plC, hpl⟩ := hP.lats.slice; replace hpl : pl = .slice plA 0 plC := hpl; subst hpl; obtain ⟨pfA, pfC, hpf⟩ := hP.funs.slice; replace hpf : pf = .slice pfA 0 pfC := hpf; subst hpf; obtain ⟨ppA, ppC, hpp⟩ := hP.preds.slice; replace hpp : pp = .slice ppA 0 ppC := hpp; subst hpp; obtain ⟨prA, prC, hpr1⟩ := hP.rules.slice; replace hpr1 : pr1 = .slice prA 1 prC := hpr1; subst hpr1; obtain ⟨pdA, pdC, hpd⟩ := TRow.slice hD; replace hpd : pd = .slice pdA 0 pdC := hpd; subst hpd; replace ta := TRow.below ta hb6; replace x4 := x4.next hb6; replace tb := TRow.below tb hb6; replace x6 := x6.next hb6; replace bb := bb.trans (hb6.mono bb.size); have p8 : _ = some (Value.int .i64 ps) := (x4.next (below1 _ (.cells #[.slice plA 0 plC, .slice pfA 0 pfC, .slice ppA 0 ppC, .slice prA 1 prC] 34))).cell 8; have f8 := (x4.next (below1 _ (.cells #[.slice plA 0 plC, .slice pfA 0 pfC, .slice ppA 0 ppC, .slice prA 1 prC] 34))).frozen 8; have l4 := x4.lt; clear HC hD)
          clear p8 f8 l4
          have hsz : (w6.setCell ⟨w2.heap.size, 8, none⟩ (.int .i64 (ps + 7))).heap.size = w6.heap.size := setCell_size _ _ _
          have KT := Kept.put x4 8 (.int .i64 (ps + 7)) (show 58 ≠ 71 by decide)
          have KR := Kept.put x4 8 (.int .i64 (ps + 7)) (show 58 ≠ 66 by decide)
          obtain ⟨rws, hr1, hr2⟩ := hP.rules
          obtain ⟨g, og, oc, rr, e1, hg, ⟨ra, rb, rfl, hra, hrb⟩, z⟩ := TRows.at (R := fun _ => RuR w6) ⟨rws, hr1.kept KR, hr2⟩ (fun _ _ => RuR.len) (i := 0) rfl
          injection e1 with e1 e9 e3; clear e9; subst e1; subst e3
          obtain ⟨gb, ob, cb, rl, rfl, hgb, ⟨la, rfl, hla⟩, zb⟩ := hrb.at (fun _ _ => LiR.len) (i := 0) rfl
          obtain ⟨LA, LC, hlav⟩ := hla.slice; replace hlav : la = .slice LA args.length LC := hlav; subst hlav
          have hne : gb ≠ w2.heap.size := by
            intro hgb2; subst hgb2
            have e : w6.cell? ⟨w2.heap.size, ob + 8, none⟩ = some (.int .i64 (ps + 7)) := zb 8 _ rfl
            rw [x4.cell (ob + 8)] at e
            cases ob with
            | zero => simp at e; omega
            | succ ob => rw [Array.getElem?_eq_none (by simp)] at e; cases e
          have u7 : (w6.setCell ⟨w2.heap.size, 8, none⟩ (.int .i64 (ps + 7))).cell? ⟨g, og + 7, none⟩ = some (.slice (some ⟨gb, ob, none⟩) 1 cb) := z 7 _ rfl
          have v0 : (w6.setCell ⟨w2.heap.size, 8, none⟩ (.int .i64 (ps + 7))).cell? ⟨gb, ob, none⟩ = some (.int .i64 1) := (cell_apart hne _).trans (zb 0 _ rfl)
          have v1 : (w6.setCell ⟨w2.heap.size, 8, none⟩ (.int .i64 (ps + 7))).cell? ⟨gb, ob + 1, none⟩ = some (.string (bs nm)) := (cell_apart hne _).trans (zb 1 _ rfl)
          have v2 : (w6.setCell ⟨w2.heap.size, 8, none⟩ (.int .i64 (ps + 7))).cell? ⟨gb, ob + 2, none⟩ = some (.int .i64 (-1)) := (cell_apart hne _).trans (zb 2 _ rfl)
          have v3 : (w6.setCell ⟨w2.heap.size, 8, none⟩ (.int .i64 (ps + 7))).cell? ⟨gb, ob + 3, none⟩ = some (.slice LA args.length LC) := (cell_apart hne _).trans (zb 3 _ rfl)
          have v4 : (w6.setCell ⟨w2.heap.size, 8, none⟩ (.int .i64 (ps + 7))).cell? ⟨gb, ob + 4, none⟩ = some (.string ⟨#[]⟩) := (cell_apart hne _).trans (zb 4 _ rfl)
          have v5 : (w6.setCell ⟨w2.heap.size, 8, none⟩ (.int .i64 (ps + 7))).cell? ⟨gb, ob + 5, none⟩ = some (.string ⟨#[]⟩) := (cell_apart hne _).trans (zb 5 _ rfl)
          have v6 : (w6.setCell ⟨w2.heap.size, 8, none⟩ (.int .i64 (ps + 7))).cell? ⟨gb, ob + 6, none⟩ = some (.int .i64 (-1)) := (cell_apart hne _).trans (zb 6 _ rfl)
          have v7 : (w6.setCell ⟨w2.heap.size, 8, none⟩ (.int .i64 (ps + 7))).cell? ⟨gb, ob + 7, none⟩ = some (.int .i64 0) := (cell_apart hne _).trans (zb 7 _ rfl)
          have v8 : (w6.setCell ⟨w2.heap.size, 8, none⟩ (.int .i64 (ps + 7))).cell? ⟨gb, ob + 8, none⟩ = some (.int .i64 (ps + 7)) := (cell_apart hne _).trans (zb 8 _ rfl)
          replace bb := bb.setCell (p := ⟨w2.heap.size, 8, none⟩) hB4 (.int .i64 (ps + 7))
          replace x6 := x6.far (p := ⟨w2.heap.size, 8, none⟩) (Nat.ne_of_gt h46) (.int .i64 (ps + 7))
          replace x4 := x4.put 8 (.int .i64 (ps + 7))
          simp only [List.setIfInBounds_toArray, List.set_cons_zero, List.set_cons_succ] at x4
          replace ta := TRow.kept ta KT; replace tb := TRow.kept tb KT; have hlb := TRow.kept hla KT
          clear hla hP hr1 hr2 hrb z zb KT KR hra hne hg hgb
          generalize hws : (w6.setCell ⟨w2.heap.size, 8, none⟩ (.int .i64 (ps + 7))) = ws0 at u7 v0 v1 v2 v3 v4 v5 v6 v7 v8 bb x6 x4 ta tb hlb hsz ⊢
          clear hws
          have x14b := At.new ws0 34 #[.slice plA 0 plC, .slice pfA 0 pfC, .slice ppA 0 ppC, .slice (some ⟨g, og, none⟩) 1 prC]
          rw [hsz] at x14b
          have hc := below1 ws0 (.cells #[.slice plA 0 plC, .slice pfA 0 pfC, .slice ppA 0 ppC, .slice (some ⟨g, og, none⟩) 1 prC] 34)
          generalize hws : ws0.alloc (.cells #[.slice plA 0 plC, .slice pfA 0 pfC, .slice ppA 0 ppC, .slice (some ⟨g, og, none⟩) 1 prC] 34) = ws at x14b hc ⊢
          clear hws
          replace ta := TRow.below ta hc
          replace x4 := x4.next hc
          replace tb := TRow.below tb hc
          replace x6 := x6.next hc
          replace u7 := next_cell u7 hc
          replace v0 := next_cell v0 hc
          replace v1 := next_cell v1 hc
          replace v2 := next_cell v2 hc
          replace v3 := next_cell v3 hc
          replace v4 := next_cell v4 hc
          replace v5 := next_cell v5 hc
          replace v6 := next_cell v6 hc
          replace v7 := next_cell v7 hc
          replace v8 := next_cell v8 hc
          replace hlb := TRow.below hlb hc
          replace bb := bb.trans (hc.mono bb.size)
          have x6b := x6; have bl := bb; clear x6 bb hc
          have p0 : ws.cell? ⟨w2.heap.size, 0, none⟩ = some (.int .i64 1) := x4.cell 0
          have p1 : ws.cell? ⟨w2.heap.size, 1, none⟩ = some (.string (bs nm)) := x4.cell 1
          have p2 : ws.cell? ⟨w2.heap.size, 2, none⟩ = some (.int .i64 (-1)) := x4.cell 2
          have p3 : ws.cell? ⟨w2.heap.size, 3, none⟩ = some (.slice aAw2 args.length aCw2) := x4.cell 3
          have p4 : ws.cell? ⟨w2.heap.size, 4, none⟩ = some (.string ⟨#[]⟩) := x4.cell 4
          have p5 : ws.cell? ⟨w2.heap.size, 5, none⟩ = some (.string ⟨#[]⟩) := x4.cell 5
          have p6 : ws.cell? ⟨w2.heap.size, 6, none⟩ = some (.int .i64 (-1)) := x4.cell 6
          have p7 : ws.cell? ⟨w2.heap.size, 7, none⟩ = some (.int .i64 0) := x4.cell 7
          have p8 : ws.cell? ⟨w2.heap.size, 8, none⟩ = some (.int .i64 (ps + 7)) := x4.cell 8
          have y3 : ws.cell? ⟨w6.heap.size, 3, none⟩ = some (.slice (some ⟨g, og, none⟩) 1 prC) := x14b.cell 3
          have HS := Lib.hid (fun (W : World) (hb : Below ws.heap.size ws W) => li_same (⟨1, nm, -1, args, [], [], -1, 0, ps + 7⟩ : Ap.Li) (liFs (⟨1, nm, -1, args, [], [], -1, 0, ps + 7⟩ : Ap.Li) (.slice LA args.length LC)) (liFs (⟨1, nm, -1, args, [], [], -1, 0, ps + 7⟩ : Ap.Li) (.slice aAw2 args.length aCw2)) W (show args.length ≤ 1000000 by omega) ⟨_, rfl, TRow.below hlb hb⟩ ⟨_, rfl, TRow.below ta hb⟩)
          have HX := Lib.hid (And.intro x4 (And.intro x6b (And.intro ta tb))); have HBL := Lib.hid bl
          clear x4 x6b x14b ta tb hlb bl
          refine' wp_region_each _ (Below ws.heap.size ws) (Onward) (Vl :: Vl :: Vl :: Vl :: Vl :: Vl :: Vl :: Vl :: Vl :: Vl :: Vl :: Vl :: Vl :: Vl :: Vl :: Vl :: Vl :: Vl :: Vl :: Vl :: Vl :: Vl :: Vl :: Vl :: Vl :: Vl :: Vl :: Vl :: Vl :: Vl :: Vl :: Vl :: Vl :: Vl :: Vl :: Vl :: Vl :: Vl :: Vl :: Vl :: []) ?hF (by kernel_rfl) (by kernel_rfl) (by kernel_rfl) ((Below.refl _ _).drew) (lasting_cons (lasting_vl) (lasting_cons (lasting_vl) (lasting_cons (lasting_vl) (lasting_cons (lasting_vl) (lasting_cons (lasting_vl) (lasting_cons (lasting_vl) (lasting_cons (lasting_vl) (lasting_cons (lasting_vl) (lasting_cons (lasting_vl) (lasting_cons (lasting_vl) (lasting_cons (lasting_vl) (lasting_cons (lasting_vl) (lasting_cons (lasting_vl) (lasting_cons (lasting_vl) (lasting_cons (lasting_vl) (lasting_cons (lasting_vl) (lasting_cons (lasting_vl) (lasting_cons (lasting_vl) (lasting_cons (lasting_vl) (lasting_cons (lasting_vl) (lasting_cons (lasting_vl) (lasting_cons (lasting_vl) (lasting_cons (lasting_vl) (lasting_cons (lasting_vl) (lasting_cons (lasting_vl) (lasting_cons (lasting_vl) (lasting_cons (lasting_vl) (lasting_cons (lasting_vl) (lasting_cons (lasting_vl) (lasting_cons (lasting_vl) (lasting_cons (lasting_vl) (lasting_cons (lasting_vl) (lasting_cons (lasting_vl) (lasting_cons (lasting_vl) (lasting_cons (lasting_vl) (lasting_cons (lasting_vl) (lasting_cons (lasting_vl) (lasting_cons (lasting_vl) (lasting_cons (lasting_vl) (lasting_cons (lasting_vl) (lasting_none))))))))))))))))))))))))))))))))))))))))) ?hops ?hend
          case hF => (intro v; simp only [over, Act.put, List.setIfInBounds_toArray, List.set_cons_zero, List.set_cons_succ, Nat.zero_add, Nat.reduceAdd]; exact rfl)
          case hops =>
            refine ⟨?_, ?_⟩
            · intro v w' hj hd hs K hK
              have hk := hK.out
              simp only [Act.put, List.setIfInBounds_toArray, List.set_cons_zero, List.set_cons_succ] at hk
              have HK := Lib.hid hk
              clear hd hs hk hK
              go_simp
              exact HK.out _ _ hj.out (Below.refl _ _) (show _ = _ from rfl)
            refine ⟨?_, ?_⟩
            · intro v w' hj hd hs K hK
              have t0 : v 0 = _ := hd.out 0 (by kernel_rfl)
              have hk := hK.out
              simp only [t0, Act.put, List.setIfInBounds_toArray, List.set_cons_zero, List.set_cons_succ] at hk
              have HK := Lib.hid hk
              clear hd hs hk hK
              go_simp
              exact HK.out _ _ hj.out (Below.refl _ _) (show _ = _ from rfl)
            refine ⟨?_, ?_⟩
            · intro v w' hj hd hs K hK
              have t1 : v 1 = _ := hd.out 1 (by kernel_rfl)
              have hk := hK.out
              simp only [t1, Act.put, List.setIfInBounds_toArray, List.set_cons_zero, List.set_cons_succ] at hk
              have HK := Lib.hid hk
              clear hd hs hk hK
              go_simp
              exact HK.out _ _ hj.out (Below.refl _ _) (show _ = _ from rfl)
            refine ⟨?_, ?_⟩
            · intro v w' hj hd hs K hK
              have t2 : v 2 = _ := hd.out 2 (by kernel_rfl)
              have hk := hK.out
              simp only [t2, Act.put, List.setIfInBounds_toArray, List.set_cons_zero, List.set_cons_succ] at hk
              have HK := Lib.hid hk
              clear hd hs hk hK
              go_simp
              exact HK.out _ _ hj.out (Below.refl _ _) (show _ = _ from rfl)
            refine ⟨?_, ?_⟩
            · intro v w' hj hd hs K hK
              have t3 : v 3 = _ := hd.out 3 (by kernel_rfl)
              have hk := hK.out
              simp only [t3, Act.put, List.setIfInBounds_toArray, List.set_cons_zero, List.set_cons_succ] at hk
              have HK := Lib.hid hk
              clear hd hs hk hK
              go_simp
              exact HK.out _ _ hj.out (Below.refl _ _) (show _ = _ from rfl)
            refine ⟨?_, ?_⟩
            · intro v w' hj hd hs K hK
              have t3 : v 3 = _ := hd.out 3 (by kernel_rfl)
              have t4 : v 4 = _ := hd.out 4 (by kernel_rfl)
              have yz := next_cell y3 hj.out
              have hk := hK.out
              simp only [t3, t4, Act.put, List.setIfInBounds_toArray, List.set_cons_zero, List.set_cons_succ] at hk
              have HK := Lib.hid hk
              clear hd hs hk hK
              go_simp
              exact HK.out _ _ hj.out (Below.refl _ _) (show _ = _ from rfl)
            refine ⟨?_, ?_⟩
            · intro v w' hj hd hs K hK
              have t3 : v 3 = _ := hd.out 3 (by kernel_rfl)
              have t5 : v 5 = _ := hd.out 5 (by kernel_rfl)
              have hk := hK.out
              simp only [t3, t5, Act.put, List.setIfInBounds_toArray, List.set_cons_zero, List.set_cons_succ] at hk
              have HK := Lib.hid hk
              clear hd hs hk hK
              go_simp
              exact HK.out _ _ hj.out (Below.refl _ _) (show _ = _ from rfl)
            refine ⟨?_, ?_⟩
            · intro v w' hj hd hs K hK
              have t3 : v 3 = _ := hd.out 3 (by kernel_rfl)
              have t6 : v 6 = _ := hd.out 6 (by kernel_rfl)
              have hk := hK.out
              simp only [t3, t6, Act.put, List.setIfInBounds_toArray, List.set_cons_zero, List.set_cons_succ] at hk
              have HK := Lib.hid hk
              clear hd hs hk hK
              go_simp
              exact HK.out _ _ hj.out (Below.refl _ _) (show _ = _ from rfl)
            refine ⟨?_, ?_⟩
            · intro v w' hj hd hs K hK
              have t3 : v 3 = _ := hd.out 3 (by kernel_rfl)
              have t7 : v 7 = _ := hd.out 7 (by kernel_rfl)
              have hk := hK.out
              simp only [t3, t7, Act.put, List.setIfInBounds_toArray, List.set_cons_zero, List.set_cons_succ] at hk
              have HK := Lib.hid hk
              clear hd hs hk hK
              go_simp
              exact HK.out _ _ hj.out (Below.refl _ _) (show _ = _ from rfl)
            refine ⟨?_, ?_⟩
            · intro v w' hj hd hs K hK
              have t8 : v 8 = _ := hd.out 8 (by kernel_rfl)
              have hk := hK.out
              simp only [t8, Act.put, List.setIfInBounds_toArray, List.set_cons_zero, List.set_cons_succ] at hk
              have HK := Lib.hid hk
              clear hd hs hk hK
              go_simp
              exact HK.out _ _ hj.out (Below.refl _ _) (show _ = _ from rfl)
            refine ⟨?_, ?_⟩
            · intro v w' hj hd hs K hK
              have t9 : v 9 = _ := hd.out 9 (by kernel_rfl)
              have hk := hK.out
              simp only [t9, Act.put, List.setIfInBounds_toArray, List.set_cons_zero, List.set_cons_succ] at hk
              have HK := Lib.hid hk
              clear hd hs hk hK
              go_simp
              exact HK.out _ _ hj.out (Below.refl _ _) (show _ = _ from rfl)
            refine ⟨?_, ?_⟩
            · intro v w' hj hd hs K hK
              have t9 : v 9 = _ := hd.out 9 (by kernel_rfl)
              have t10 : v 10 = _ := hd.out 10 (by kernel_rfl)
              have yz := next_cell y3 hj.out
              have hk := hK.out
              simp only [t9, t10, Act.put, List.setIfInBounds_toArray, List.set_cons_zero, List.set_cons_succ] at hk
              have HK := Lib.hid hk
              clear hd hs hk hK
              go_simp
              exact HK.out _ _ hj.out (Below.refl _ _) (show _ = _ from rfl)
            refine ⟨?_, ?_⟩
            · intro v w' hj hd hs K hK
              have t9 : v 9 = _ := hd.out 9 (by kernel_rfl)
              have t11 : v 11 = _ := hd.out 11 (by kernel_rfl)
              have hk := hK.out
              simp only [t9, t11, Act.put, List.setIfInBounds_toArray, List.set_cons_zero, List.set_cons_succ] at hk
              have HK := Lib.hid hk
              clear hd hs hk hK
              go_simp
              exact HK.out _ _ hj.out (Below.refl _ _) (show _ = _ from rfl)
            refine ⟨?_, ?_⟩
            · intro v w' hj hd hs K hK
              have t9 : v 9 = _ := hd.out 9 (by kernel_rfl)
              have t12 : v 12 = _ := hd.out 12 (by kernel_rfl)
              have hk := hK.out
              simp only [t9, t12, Act.put, List.setIfInBounds_toArray, List.set_cons_zero, List.set_cons_succ] at hk
              have HK := Lib.hid hk
              clear hd hs hk hK
              go_simp
              exact HK.out _ _ hj.out (Below.refl _ _) (show _ = _ from rfl)
            refine ⟨?_, ?_⟩
            · intro v w' hj hd hs K hK
              have t9 : v 9 = _ := hd.out 9 (by kernel_rfl)
              have t13 : v 13 = _ := hd.out 13 (by kernel_rfl)
              have yz := next_cell u7 hj.out
              have hk := hK.out
              simp only [t9, t13, Act.put, List.setIfInBounds_toArray, List.set_cons_zero, List.set_cons_succ] at hk
              have HK := Lib.hid hk
              clear hd hs hk hK
              go_simp
              exact HK.out _ _ hj.out (Below.refl _ _) (show _ = _ from rfl)
            refine ⟨?_, ?_⟩
            · intro v w' hj hd hs K hK
              have t9 : v 9 = _ := hd.out 9 (by kernel_rfl)
              have t14 : v 14 = _ := hd.out 14 (by kernel_rfl)
              have hk := hK.out
              simp only [t9, t14, Act.put, List.setIfInBounds_toArray, List.set_cons_zero, List.set_cons_succ] at hk
              have HK := Lib.hid hk
              clear hd hs hk hK
              go_simp
              exact HK.out _ _ hj.out (Below.refl _ _) (show _ = _ from rfl)
            refine ⟨?_, ?_⟩
            · intro v w' hj hd hs K hK
              have t9 : v 9 = _ := hd.out 9 (by kernel_rfl)
              have t15 : v 15 = _ := hd.out 15 (by kernel_rfl)
              have hk := hK.out
              simp only [t9, t15, Act.put, List.setIfInBounds_toArray, List.set_cons_zero, List.set_cons_succ] at hk
              have HK := Lib.hid hk
              clear hd hs hk hK
              go_simp
              exact HK.out _ _ hj.out (Below.refl _ _) (show _ = _ from rfl)
            refine ⟨?_, ?_⟩
            · intro v w' hj hd hs K hK
              have t9 : v 9 = _ := hd.out 9 (by kernel_rfl)
              have t16 : v 16 = _ := hd.out 16 (by kernel_rfl)
              have hk := hK.out
              simp only [t9, t16, Act.put, List.setIfInBounds_toArray, List.set_cons_zero, List.set_cons_succ] at hk
              have HK := Lib.hid hk
              clear hd hs hk hK
              go_simp
              exact HK.out _ _ hj.out (Below.refl _ _) (show _ = _ from rfl)
            refine ⟨?_, ?_⟩
            · intro v w' hj hd hs K hK
              have t17 : v 17 = _ := hd.out 17 (by kernel_rfl)
              have hk := hK.out
              simp only [t17, Act.put, List.setIfInBounds_toArray, List.set_cons_zero, List.set_cons_succ] at hk
              have HK := Lib.hid hk
              clear hd hs hk hK
              go_simp
              exact HK.out _ _ hj.out (Below.refl _ _) (show _ = _ from rfl)
            refine ⟨?_, ?_⟩
            · intro v w' hj hd hs K hK
              have t18 : v 18 = _ := hd.out 18 (by kernel_rfl)
              have hk := hK.out
              simp only [t18, Act.put, List.setIfInBounds_toArray, List.set_cons_zero, List.set_cons_succ] at hk
              have HK := Lib.hid hk
              clear hd hs hk hK
              go_simp
              exact HK.out _ _ hj.out (Below.refl _ _) (show _ = _ from rfl)
            refine ⟨?_, ?_⟩
            · intro v w' hj hd hs K hK
              have t18 : v 18 = _ := hd.out 18 (by kernel_rfl)
              have t19 : v 19 = _ := hd.out 19 (by kernel_rfl)
              have yz := next_cell y3 hj.out
              have hk := hK.out
              simp only [t18, t19, Act.put, List.setIfInBounds_toArray, List.set_cons_zero, List.set_cons_succ] at hk
              have HK := Lib.hid hk
              clear hd hs hk hK
              go_simp
              exact HK.out _ _ hj.out (Below.refl _ _) (show _ = _ from rfl)
            refine ⟨?_, ?_⟩
            · intro v w' hj hd hs K hK
              have t18 : v 18 = _ := hd.out 18 (by kernel_rfl)
              have t20 : v 20 = _ := hd.out 20 (by kernel_rfl)
              have hk := hK.out
              simp only [t18, t20, Act.put, List.setIfInBounds_toArray, List.set_cons_zero, List.set_cons_succ] at hk
              have HK := Lib.hid hk
              clear hd hs hk hK
              go_simp
              exact HK.out _ _ hj.out (Below.refl _ _) (show _ = _ from rfl)
            refine ⟨?_, ?_⟩
            · intro v w' hj hd hs K hK
              have t18 : v 18 = _ := hd.out 18 (by kernel_rfl)
              have t21 : v 21 = _ := hd.out 21 (by kernel_rfl)
              have hk := hK.out
              simp only [t18, t21, Act.put, List.setIfInBounds_toArray, List.set_cons_zero, List.set_cons_succ] at hk
              have HK := Lib.hid hk
              clear hd hs hk hK
              go_simp
              exact HK.out _ _ hj.out (Below.refl _ _) (show _ = _ from rfl)
            refine ⟨?_, ?_⟩
            · intro v w' hj hd hs K hK
              have t18 : v 18 = _ := hd.out 18 (by kernel_rfl)
              have t22 : v 22 = _ := hd.out 22 (by kernel_rfl)
              have yz := next_cell u7 hj.out
              have hk := hK.out
              simp only [t18, t22, Act.put, List.setIfInBounds_toArray, List.set_cons_zero, List.set_cons_succ] at hk
              have HK := Lib.hid hk
              clear hd hs hk hK
              go_simp
              exact HK.out _ _ hj.out (Below.refl _ _) (show _ = _ from rfl)
            refine ⟨?_, ?_⟩
            · intro v w' hj hd hs K hK
              have t18 : v 18 = _ := hd.out 18 (by kernel_rfl)
              have t23 : v 23 = _ := hd.out 23 (by kernel_rfl)
              have hk := hK.out
              simp only [t18, t23, Act.put, List.setIfInBounds_toArray, List.set_cons_zero, List.set_cons_succ] at hk
              have HK := Lib.hid hk
              clear hd hs hk hK
              go_simp
              exact HK.out _ _ hj.out (Below.refl _ _) (show _ = _ from rfl)
            refine ⟨?_, ?_⟩
            · intro v w' hj hd hs K hK
              have t18 : v 18 = _ := hd.out 18 (by kernel_rfl)
              have t24 : v 24 = _ := hd.out 24 (by kernel_rfl)
              have yz0 := next_cell v0 hj.out
              have yz1 := next_cell v1 hj.out
              have yz2 := next_cell v2 hj.out
              have yz3 := next_cell v3 hj.out
              have yz4 := next_cell v4 hj.out
              have yz5 := next_cell v5 hj.out
              have yz6 := next_cell v6 hj.out
              have yz7 := next_cell v7 hj.out
              have yz8 := next_cell v8 hj.out
              have hk := hK.out
              simp only [t18, t24, Act.put, List.setIfInBounds_toArray, List.set_cons_zero, List.set_cons_succ] at hk
              have HK := Lib.hid hk
              clear hd hs hk hK
              go_simp
              exact HK.out _ _ hj.out (Below.refl _ _) (show _ = _ from rfl)
            refine ⟨?_, ?_⟩
            · intro v w' hj hd hs K hK
              have t18 : v 18 = _ := hd.out 18 (by kernel_rfl)
              have yz0 := next_cell p0 hj.out
              have yz1 := next_cell p1 hj.out
              have yz2 := next_cell p2 hj.out
              have yz3 := next_cell p3 hj.out
              have yz4 := next_cell p4 hj.out
              have yz5 := next_cell p5 hj.out
              have yz6 := next_cell p6 hj.out
              have yz7 := next_cell p7 hj.out
              have yz8 := next_cell p8 hj.out
              have hk := hK.out
              simp only [t18, Act.put, List.setIfInBounds_toArray, List.set_cons_zero, List.set_cons_succ] at hk
              have HK := Lib.hid hk
              clear hd hs hk hK
              go_simp
              exact HK.out _ _ hj.out (Below.refl _ _) (show _ = _ from rfl)
            refine ⟨?_, ?_⟩
            · intro v w' hj hd hs K hK
              have t18 : v 18 = _ := hd.out 18 (by kernel_rfl)
              have t25 : v 25 = _ := hd.out 25 (by kernel_rfl)
              have t26 : v 26 = _ := hd.out 26 (by kernel_rfl)
              have hk := hK.out
              simp only [t18, t25, t26, Act.put, List.setIfInBounds_toArray, List.set_cons_zero, List.set_cons_succ] at hk
              have HK := Lib.hid hk
              clear hd hs hk hK
              go_simp
              go_at_call 22
              refine (HS.out w' hj.out).mono ?_
              rintro e wz ⟨rfl, hbz⟩
              exact HK.out _ _ (hj.out.trans (hbz.mono hj.out.size)) hbz (show _ = _ from rfl)
            refine ⟨?_, ?_⟩
            · intro v w' hj hd hs K hK
              have t18 : v 18 = _ := hd.out 18 (by kernel_rfl)
              have t27 : v 27 = _ := hd.out 27 (by kernel_rfl)
              have hk := hK.out
              simp only [t18, t27, Act.put, List.setIfInBounds_toArray, List.set_cons_zero, List.set_cons_succ] at hk
              have HK := Lib.hid hk
              clear hd hs hk hK
              go_simp
              exact HK.out _ _ hj.out (Below.refl _ _) (show _ = _ from rfl)
            refine ⟨?_, ?_⟩
            · intro v w' hj hd hs K hK
              have t18 : v 18 = _ := hd.out 18 (by kernel_rfl)
              have t28 : v 28 = _ := hd.out 28 (by kernel_rfl)
              have hk := hK.out
              simp only [t18, t28, Act.put, List.setIfInBounds_toArray, List.set_cons_zero, List.set_cons_succ] at hk
              have HK := Lib.hid hk
              clear hd hs hk hK
              go_simp
              exact HK.out _ _ hj.out (Below.refl _ _) (show _ = _ from rfl)
            refine ⟨?_, ?_⟩
            · intro v w' hj hd hs K hK
              have t29 : v 29 = _ := hd.out 29 (by kernel_rfl)
              have hk := hK.out
              simp only [t29, Act.put, List.setIfInBounds_toArray, List.set_cons_zero, List.set_cons_succ] at hk
              have HK := Lib.hid hk
              clear hd hs hk hK
              go_simp
              exact HK.out _ _ hj.out (Below.refl _ _) (show _ = _ from rfl)
            refine ⟨?_, ?_⟩
            · intro v w' hj hd hs K hK
              have t30 : v 30 = _ := hd.out 30 (by kernel_rfl)
              have hk := hK.out
              simp only [t30, Act.put, List.setIfInBounds_toArray, List.set_cons_zero, List.set_cons_succ] at hk
              have HK := Lib.hid hk
              clear hd hs hk hK
              go_simp
              exact HK.out _ _ hj.out (Below.refl _ _) (show _ = _ from rfl)
            refine ⟨?_, ?_⟩
            · intro v w' hj hd hs K hK
              have t30 : v 30 = _ := hd.out 30 (by kernel_rfl)
              have t31 : v 31 = _ := hd.out 31 (by kernel_rfl)
              have yz := next_cell p0 hj.out
              have hk := hK.out
              simp only [t30, t31, Act.put, List.setIfInBounds_toArray, List.set_cons_zero, List.set_cons_succ] at hk
              have HK := Lib.hid hk
              clear hd hs hk hK
              go_simp
              exact HK.out _ _ hj.out (Below.refl _ _) (show _ = _ from rfl)
            refine ⟨?_, ?_⟩
            · intro v w' hj hd hs K hK
              have t30 : v 30 = _ := hd.out 30 (by kernel_rfl)
              have t32 : v 32 = _ := hd.out 32 (by kernel_rfl)
              have hk := hK.out
              simp only [t30, t32, Act.put, List.setIfInBounds_toArray, List.set_cons_zero, List.set_cons_succ] at hk
              have HK := Lib.hid hk
              clear hd hs hk hK
              go_simp
              exact HK.out _ _ hj.out (Below.refl _ _) (show _ = _ from rfl)
            refine ⟨?_, ?_⟩
            · intro v w' hj hd hs K hK
              have t30 : v 30 = _ := hd.out 30 (by kernel_rfl)
              have t33 : v 33 = _ := hd.out 33 (by kernel_rfl)
              have hk := hK.out
              simp only [t30, t33, Act.put, List.setIfInBounds_toArray, List.set_cons_zero, List.set_cons_succ] at hk
              have HK := Lib.hid hk
              clear hd hs hk hK
              go_simp
              exact HK.out _ _ hj.out (Below.refl _ _) (show _ = _ from rfl)
            refine ⟨?_, ?_⟩
            · intro v w' hj hd hs K hK
              have t34 : v 34 = _ := hd.out 34 (by kernel_rfl)
              have hk := hK.out
              simp only [t34, Act.put, List.setIfInBounds_toArray, List.set_cons_zero, List.set_cons_succ] at hk
              have HK := Lib.hid hk
              clear hd hs hk hK
              go_simp
              exact HK.out _ _ hj.out (Below.refl _ _) (show _ = _ from rfl)
            refine ⟨?_, ?_⟩
            · intro v w' hj hd hs K hK
              have t35 : v 35 = _ := hd.out 35 (by kernel_rfl)
              have hk := hK.out
              simp only [t35, Act.put, List.setIfInBounds_toArray, List.set_cons_zero, List.set_cons_succ] at hk
              have HK := Lib.hid hk
              clear hd hs hk hK
              go_simp
              exact HK.out _ _ hj.out (Below.refl _ _) (show _ = _ from rfl)
            refine ⟨?_, ?_⟩
            · intro v w' hj hd hs K hK
              have t35 : v 35 = _ := hd.out 35 (by kernel_rfl)
              have t36 : v 36 = _ := hd.out 36 (by kernel_rfl)
              have yz := next_cell p5 hj.out
              have hk := hK.out
              simp only [t35, t36, Act.put, List.setIfInBounds_toArray, List.set_cons_zero, List.set_cons_succ] at hk
              have HK := Lib.hid hk
              clear hd hs hk hK
              go_simp
              exact HK.out _ _ hj.out (Below.refl _ _) (show _ = _ from rfl)
            refine ⟨?_, ?_⟩
            · intro v w' hj hd hs K hK
              have t35 : v 35 = _ := hd.out 35 (by kernel_rfl)
              have t37 : v 37 = _ := hd.out 37 (by kernel_rfl)
              have hk := hK.out
              simp only [t35, t37, Act.put, List.setIfInBounds_toArray, List.set_cons_zero, List.set_cons_succ] at hk
              have HK := Lib.hid hk
              clear hd hs hk hK
              go_simp
              exact HK.out _ _ hj.out (Below.refl _ _) (show _ = _ from rfl)
            refine ⟨?_, ?_⟩
            · intro v w' hj hd hs K hK
              have t35 : v 35 = _ := hd.out 35 (by kernel_rfl)
              have t38 : v 38 = _ := hd.out 38 (by kernel_rfl)
              have hk := hK.out
              simp only [t35, t38, Act.put, List.setIfInBounds_toArray, List.set_cons_zero, List.set_cons_succ] at hk
              have HK := Lib.hid hk
              clear hd hs hk hK
              go_simp
              exact HK.out _ _ hj.out (Below.refl _ _) (show _ = _ from rfl)
            trivial
          case hend =>
            intro v w7 hj hd
            have t39 : v 39 = _ := hd.out 39 (of_decide_eq_true (by kernel_rfl))
            simp only [t39]
            obtain ⟨x4, x6, ta, tb⟩ := HX.out; have bb := HBL.out
            replace ta := TRow.below ta hj.out
            replace x4 := x4.next hj.out
            replace tb := TRow.below tb hj.out
            replace x6 := x6.next hj.out
            replace bb := bb.trans (hj.out.mono bb.size)
            clear hd hj u7 y3 v0 p0 v1 p1 v2 p2 v3 p3 v4 p4 v5 p5 v6 p6 v7 p7 v8 p8
            have p4 : _ = some (Value.string ⟨#[]⟩) := x4.cell 4
            have r5 : _ = some (Value.string ⟨#[]⟩) := x6.cell 5
            go_wp2_with fail
            · have e2 : er2 = 0 := eq_of_beq (by assumption)
              clear p4 r5
              obtain ⟨hD6, el, pr, hel, hP6⟩ := HF4.out e2; have HP6 := Lib.hid hP6; have HD6 := Lib.hid hD6; clear hD6 hP6 HF4
              have HC := Lib.hid (fun (_ : Nat) => parse_env (s ++ (⟨#[10, 46]⟩ : ByteArray)) w7 (HENV.out.below bb) HFS.out)
              go_wp2_with (go_at_call 11; refine (HC.out 0).mono ?_; rintro e w7 ⟨hb7, pl, pf, pp, pr1, pd, rfl, hP, hD⟩; rw [HFD.out, HP6.out] at hP; rw [HFD.out, HD6.out] at hD; obtain ⟨plA, plC, hpl⟩ := hP.lats.slice; replace hpl : pl = .slice plA 0 plC := hpl; subst hpl; obtain ⟨pfA, pfC, hpf⟩ := hP.funs.slice; replace hpf : pf = .slice pfA 0 pfC := hpf; subst hpf; obtain ⟨ppA, ppC, hpp⟩ := hP.preds.slice; replace hpp : pp = .slice ppA 0 ppC := hpp; subst hpp; obtain ⟨prA, prC, hpr1⟩ := hP.rules.slice; replace hpr1 : pr1 = .slice prA 1 prC := hpr1; subst hpr1; obtain ⟨pdA, pdC, hpd⟩ := TRow.slice hD; replace hpd : pd = .slice pdA 0 pdC := hpd; subst hpd; replace ta := TRow.below ta hb7; replace x4 := x4.next hb7; replace tb := TRow.below tb hb7; replace x6 := x6.next hb7; replace bb := bb.trans (hb7.mono bb.size); have r3 : _ = some (Value.slice aAw3 args'.length aCw3) := (x6.next (below1 w7 (.cells #[.slice plA 0 plC, .slice pfA 0 pfC, .slice ppA 0 ppC, .slice prA 1 prC] 34))).cell 3; clear HC hD)
              have x16 := At.new w7 34 #[.slice plA 0 plC, .slice pfA 0 pfC, .slice ppA 0 ppC, .slice prA 1 prC]
              have hc := below1 w7 (.cells #[.slice plA 0 plC, .slice pfA 0 pfC, .slice ppA 0 ppC, .slice prA 1 prC] 34)
              generalize hwb : w7.alloc (.cells #[.slice plA 0 plC, .slice pfA 0 pfC, .slice ppA 0 ppC, .slice prA 1 prC] 34) = w7b at x16 hc r3 ⊢
              clear hwb r3
              replace ta := TRow.below ta hc
              replace x4 := x4.next hc
              replace tb := TRow.below tb hc
              replace x6 := x6.next hc
              replace bb := bb.trans (hc.mono bb.size)
              replace hP := hP.next hc
              obtain ⟨g, og, oc, rr, e1, hg, ⟨ra, rb, rfl, hra, hrb⟩, z⟩ := hP.rules.at (fun _ _ => RuR.len) (i := 0) rfl
              injection e1 with e1 e9 e3; clear e9; subst e1; subst e3
              obtain ⟨RA, RC, hrav⟩ := hra.slice; replace hrav : ra = .slice RA args'.length RC := hrav; subst hrav
              obtain ⟨RB, RD, hrbv⟩ := hrb.slice; replace hrbv : rb = .slice RB 0 RD := hrbv; subst hrbv
              have z0 : w7b.cell? ⟨g, og, none⟩ = some (.string (bs nm')) := z 0 _ rfl
              have z1 : w7b.cell? ⟨g, og + 1, none⟩ = some (.int .i64 (-1)) := z 1 _ rfl
              have z2 : w7b.cell? ⟨g, og + 2, none⟩ = some (.slice RA args'.length RC) := z 2 _ rfl
              have z3 : w7b.cell? ⟨g, og + 3, none⟩ = some (.int .i64 el.kind) := z 3 _ rfl
              have z4 : w7b.cell? ⟨g, og + 4, none⟩ = some (.string (bs el.name)) := z 4 _ rfl
              have z5 : w7b.cell? ⟨g, og + 5, none⟩ = some (.string (bs el.var)) := z 5 _ rfl
              have z6 : w7b.cell? ⟨g, og + 6, none⟩ = some (.int .i64 el.index) := z 6 _ rfl
              have z7 : w7b.cell? ⟨g, og + 7, none⟩ = some (.slice RB 0 RD) := z 7 _ rfl
              have z8 : w7b.cell? ⟨g, og + 8, none⟩ = some (.int .i64 pr) := z 8 _ rfl
              rw [hel] at z4
              replace z4 : _ = some (Value.string ⟨#[]⟩) := z4
              have HCO := Lib.hid (constants_yes _ args' w7b (by omega) HF3.out tb)
              have y3 : w7b.cell? ⟨w7.heap.size, 3, none⟩ = some (.slice (some ⟨g, og, none⟩) 1 prC) := x16.cell 3
              have r3 : w7b.cell? ⟨w3.heap.size, 3, none⟩ = some (.slice aAw3 args'.length aCw3) := x6.cell 3
              clear z hP hrb x16 hc
              go_wp2_with (go_at_call 23; refine (HCO.out).mono ?_; rintro e w8 ⟨rfl, hbw8⟩; clear HCO r3; replace ta := TRow.below ta hbw8; replace x4 := x4.next hbw8; replace tb := TRow.below tb hbw8; replace x6 := x6.next hbw8; replace y3 := next_cell y3 hbw8; replace z0 := next_cell z0 hbw8; replace z1 := next_cell z1 hbw8; replace z2 := next_cell z2 hbw8; replace z3 := next_cell z3 hbw8; replace z4 := next_cell z4 hbw8; replace z5 := next_cell z5 hbw8; replace z6 := next_cell z6 hbw8; replace z7 := next_cell z7 hbw8; replace z8 := next_cell z8 hbw8; replace hra := TRow.below hra hbw8; replace bb := bb.trans (hbw8.mono bb.size); have r0 : w8.cell? ⟨w3.heap.size, 0, none⟩ = some (Value.int .i64 1) := x6.cell 0; have r1 : w8.cell? ⟨w3.heap.size, 1, none⟩ = some (Value.string (bs nm')) := x6.cell 1; have r3 : w8.cell? ⟨w3.heap.size, 3, none⟩ = some (Value.slice aAw3 args'.length aCw3) := x6.cell 3; have r4 : w8.cell? ⟨w3.heap.size, 4, none⟩ = some (Value.string ⟨#[]⟩) := x6.cell 4; have r5 : w8.cell? ⟨w3.heap.size, 5, none⟩ = some (Value.string ⟨#[]⟩) := x6.cell 5; have l6 := x6.lt)
              have x18 := At.new w8 66 #[.string (bs nm'), .int .i64 (-1), .slice RA args'.length RC, .int .i64 el.kind, .string ⟨#[]⟩, .string (bs el.var), .int .i64 el.index, .slice RB 0 RD, .int .i64 pr]
              have hc := below1 w8 (.cells #[.string (bs nm'), .int .i64 (-1), .slice RA args'.length RC, .int .i64 el.kind, .string ⟨#[]⟩, .string (bs el.var), .int .i64 el.index, .slice RB 0 RD, .int .i64 pr] 66)
              generalize hwb : w8.alloc (.cells #[.string (bs nm'), .int .i64 (-1), .slice RA args'.length RC, .int .i64 el.kind, .string ⟨#[]⟩, .string (bs el.var), .int .i64 el.index, .slice RB 0 RD, .int .i64 pr] 66) = wl at x18 hc ⊢
              clear hwb r0 r1 r3 r4 r5 l6 y3 z0 z1 z2 z3 z4 z5 z6 z7 z8
              replace ta := TRow.below ta hc
              replace x4 := x4.next hc
              replace tb := TRow.below tb hc
              replace x6 := x6.next hc
              replace hra := TRow.below hra hc
              replace bb := bb.trans (hc.mono bb.size)
              have q2 : wl.cell? ⟨w8.heap.size, 2, none⟩ = some (.slice RA args'.length RC) := x18.cell 2
              have r3 : wl.cell? ⟨w3.heap.size, 3, none⟩ = some (.slice aAw3 args'.length aCw3) := x6.cell 3
              have p4 : _ = some (Value.string ⟨#[]⟩) := x4.cell 4
              have r5 : _ = some (Value.string ⟨#[]⟩) := x6.cell 5
              go_loopw [19] (fun i wr => ∃ (k nq : Nat), k ≤ args'.length ∧ i = .int .i64 k ∧ wr = wl.drewN nq) (fun i _ => args'.length - (intOf i).toNat)
              case atStart => exact ⟨0, 0, by omega, rfl, rfl⟩
              case round =>
                obtain ⟨k, nq, hk, rfl, rfl⟩ := hrel
                by_cases hlt : k < args'.length
                · obtain ⟨g1, o1, d1x, e1, hg1, q1⟩ := hra.cells (by omega)
                  obtain ⟨g2, o2, d2x, e2, hg2, q1'⟩ := TRow.cells tb (by show 0 < args'.length; omega)
                  obtain ⟨x, hx⟩ : ∃ x, args'[k]? = some x := ⟨_, List.getElem?_eq_getElem hlt⟩
                  have hfl := tm_flat args' hx
                  have c0 := q1 _ _ (hfl 0 _ rfl); have e0x := q1' _ _ (hfl 0 _ rfl)
                  have c1 := q1 _ _ (hfl 1 _ rfl); have e1x := q1' _ _ (hfl 1 _ rfl)
                  have c2 := q1 _ _ (hfl 2 _ rfl); have e2x := q1' _ _ (hfl 2 _ rfl)
                  have c3 := q1 _ _ (hfl 3 _ rfl); have e3x := q1' _ _ (hfl 3 _ rfl)
                  simp only [Nat.add_zero, ← Nat.add_assoc] at c0 c1 c2 c3 e0x e1x e2x e3x
                  injection e1 with e1 e9 e3; clear e9; injection e2 with e2 e9 e4; clear e9; subst e1; subst e2; subst e3; subst e4
                  have htm := fun W => tm_same x W
                  unfold tmFs at htm
                  clear hra tb ta hfl q1 q1' hx x18 x6 x4 hc bb
                  go_wp2_with fail
                  go_quiet (fail)
                  go_wp2_with fail
                  go_roundw
                  case rel => exact ⟨k + 1, _, by omega, by go_num, rfl⟩
                  case measure => simp [intOf]; omega
                · go_wp2_with fail
                  go_ret
                  exact ⟨rfl, below_drewN bb _⟩
            · go_ret
              exact ⟨rfl, bb⟩
        · have e2 : er2 = 0 := eq_of_beq (by assumption)
          clear p4 r5
          obtain ⟨hD6, el, pr, hel, hP6⟩ := HF4.out e2; have HP6 := Lib.hid hP6; have HD6 := Lib.hid hD6; clear hD6 hP6 HF4
          have HC := Lib.hid (fun (_ : Nat) => parse_env (s ++ (⟨#[10, 46]⟩ : ByteArray)) w5 (HENV.out.below bb) HFS.out)
          go_wp2_with (go_at_call 11; refine (HC.out 0).mono ?_; rintro e w6 ⟨hb6, pl, pf, pp, pr1, pd, rfl, hP, hD⟩; rw [HFD.out, HP6.out] at hP; rw [HFD.out, HD6.out] at hD; obtain ⟨plA, plC, hpl⟩ := hP.lats.slice; replace hpl : pl = .slice plA 0 plC := hpl; subst hpl; obtain ⟨pfA, pfC, hpf⟩ := hP.funs.slice; replace hpf : pf = .slice pfA 0 pfC := hpf; subst hpf; obtain ⟨ppA, ppC, hpp⟩ := hP.preds.slice; replace hpp : pp = .slice ppA 0 ppC := hpp; subst hpp; obtain ⟨prA, prC, hpr1⟩ := hP.rules.slice; replace hpr1 : pr1 = .slice prA 1 prC := hpr1; subst hpr1; obtain ⟨pdA, pdC, hpd⟩ := TRow.slice hD; replace hpd : pd = .slice pdA 0 pdC := hpd; subst hpd; replace ta := TRow.below ta hb6; replace x4 := x4.next hb6; replace tb := TRow.below tb hb6; replace x6 := x6.next hb6; replace bb := bb.trans (hb6.mono bb.size); have r3 : _ = some (Value.slice aAw3 args'.length aCw3) := (x6.next (below1 w6 (.cells #[.slice plA 0 plC, .slice pfA 0 pfC, .slice ppA 0 ppC, .slice prA 1 prC] 34))).cell 3; clear HC hD)
          have x16 := At.new w6 34 #[.slice plA 0 plC, .slice pfA 0 pfC, .slice ppA 0 ppC, .slice prA 1 prC]
          have hc := below1 w6 (.cells #[.slice plA 0 plC, .slice pfA 0 pfC, .slice ppA 0 ppC, .slice prA 1 prC] 34)
          generalize hwb : w6.alloc (.cells #[.slice plA 0 plC, .slice pfA 0 pfC, .slice ppA 0 ppC, .slice prA 1 prC] 34) = w6b at x16 hc r3 ⊢
          clear hwb r3
          replace ta := TRow.below ta hc
          replace x4 := x4.next hc
          replace tb := TRow.below tb hc
          replace x6 := x6.next hc
          replace bb := bb.trans (hc.mono bb.size)
          replace hP := hP.next hc
          obtain ⟨g, og, oc, rr, e1, hg, ⟨ra, rb, rfl, hra, hrb⟩, z⟩ := hP.rules.at (fun _ _ => RuR.len) (i := 0) rfl
          injection e1 with e1 e9 e3; clear e9; subst e1; subst e3
          obtain ⟨RA, RC, hrav⟩ := hra.slice; replace hrav : ra = .slice RA args'.length RC := hrav; subst hrav
          obtain ⟨RB, RD, hrbv⟩ := hrb.slice; replace hrbv : rb = .slice RB 0 RD := hrbv; subst hrbv
          have z0 : w6b.cell? ⟨g, og, none⟩ = some (.string (bs nm')) := z 0 _ rfl
          have z1 : w6b.cell? ⟨g, og + 1, none⟩ = some (.int .i64 (-1)) := z 1 _ rfl
          have z2 : w6b.cell? ⟨g, og + 2, none⟩ = some (.slice RA args'.length RC) := z 2 _ rfl
          have z3 : w6b.cell? ⟨g, og + 3, none⟩ = some (.int .i64 el.kind) := z 3 _ rfl
          have z4 : w6b.cell? ⟨g, og + 4, none⟩ = some (.string (bs el.name)) := z 4 _ rfl
          have z5 : w6b.cell? ⟨g, og + 5, none⟩ = some (.string (bs el.var)) := z 5 _ rfl
          have z6 : w6b.cell? ⟨g, og + 6, none⟩ = some (.int .i64 el.index) := z 6 _ rfl
          have z7 : w6b.cell? ⟨g, og + 7, none⟩ = some (.slice RB 0 RD) := z 7 _ rfl
          have z8 : w6b.cell? ⟨g, og + 8, none⟩ = some (.int .i64 pr) := z 8 _ rfl
          rw [hel] at z4
          replace z4 : _ = some (Value.string ⟨#[]⟩) := z4
          have HCO := Lib.hid (constants_yes _ args' w6b (by omega) HF3.out tb)
          have y3 : w6b.cell? ⟨w6.heap.size, 3, none⟩ = some (.slice (some ⟨g, og, none⟩) 1 prC) := x16.cell 3
          have r3 : w6b.cell? ⟨w3.heap.size, 3, none⟩ = some (.slice aAw3 args'.length aCw3) := x6.cell 3
          clear z hP hrb x16 hc
          go_wp2_with (go_at_call 23; refine (HCO.out).mono ?_; rintro e w7 ⟨rfl, hbw7⟩; clear HCO r3; replace ta := TRow.below ta hbw7; replace x4 := x4.next hbw7; replace tb := TRow.below tb hbw7; replace x6 := x6.next hbw7; replace y3 := next_cell y3 hbw7; replace z0 := next_cell z0 hbw7; replace z1 := next_cell z1 hbw7; replace z2 := next_cell z2 hbw7; replace z3 := next_cell z3 hbw7; replace z4 := next_cell z4 hbw7; replace z5 := next_cell z5 hbw7; replace z6 := next_cell z6 hbw7; replace z7 := next_cell z7 hbw7; replace z8 := next_cell z8 hbw7; replace hra := TRow.below hra hbw7; replace bb := bb.trans (hbw7.mono bb.size); have r0 : w7.cell? ⟨w3.heap.size, 0, none⟩ = some (Value.int .i64 1) := x6.cell 0; have r1 : w7.cell? ⟨w3.heap.size, 1, none⟩ = some (Value.string (bs nm')) := x6.cell 1; have r3 : w7.cell? ⟨w3.heap.size, 3, none⟩ = some (Value.slice aAw3 args'.length aCw3) := x6.cell 3; have r4 : w7.cell? ⟨w3.heap.size, 4, none⟩ = some (Value.string ⟨#[]⟩) := x6.cell 4; have r5 : w7.cell? ⟨w3.heap.size, 5, none⟩ = some (Value.string ⟨#[]⟩) := x6.cell 5; have l6 := x6.lt)
          have x18 := At.new w7 66 #[.string (bs nm'), .int .i64 (-1), .slice RA args'.length RC, .int .i64 el.kind, .string ⟨#[]⟩, .string (bs el.var), .int .i64 el.index, .slice RB 0 RD, .int .i64 pr]
          have hc := below1 w7 (.cells #[.string (bs nm'), .int .i64 (-1), .slice RA args'.length RC, .int .i64 el.kind, .string ⟨#[]⟩, .string (bs el.var), .int .i64 el.index, .slice RB 0 RD, .int .i64 pr] 66)
          generalize hwb : w7.alloc (.cells #[.string (bs nm'), .int .i64 (-1), .slice RA args'.length RC, .int .i64 el.kind, .string ⟨#[]⟩, .string (bs el.var), .int .i64 el.index, .slice RB 0 RD, .int .i64 pr] 66) = wl at x18 hc ⊢
          clear hwb r0 r1 r3 r4 r5 l6 y3 z0 z1 z2 z3 z4 z5 z6 z7 z8
          replace ta := TRow.below ta hc
          replace x4 := x4.next hc
          replace tb := TRow.below tb hc
          replace x6 := x6.next hc
          replace hra := TRow.below hra hc
          replace bb := bb.trans (hc.mono bb.size)
          have q2 : wl.cell? ⟨w7.heap.size, 2, none⟩ = some (.slice RA args'.length RC) := x18.cell 2
          have r3 : wl.cell? ⟨w3.heap.size, 3, none⟩ = some (.slice aAw3 args'.length aCw3) := x6.cell 3
          have p4 : _ = some (Value.string ⟨#[]⟩) := x4.cell 4
          have r5 : _ = some (Value.string ⟨#[]⟩) := x6.cell 5
          go_loopw [19] (fun i wr => ∃ (k nq : Nat), k ≤ args'.length ∧ i = .int .i64 k ∧ wr = wl.drewN nq) (fun i _ => args'.length - (intOf i).toNat)
          case atStart => exact ⟨0, 0, by omega, rfl, rfl⟩
          case round =>
            obtain ⟨k, nq, hk, rfl, rfl⟩ := hrel
            by_cases hlt : k < args'.length
            · obtain ⟨g1, o1, d1x, e1, hg1, q1⟩ := hra.cells (by omega)
              obtain ⟨g2, o2, d2x, e2, hg2, q1'⟩ := TRow.cells tb (by show 0 < args'.length; omega)
              obtain ⟨x, hx⟩ : ∃ x, args'[k]? = some x := ⟨_, List.getElem?_eq_getElem hlt⟩
              have hfl := tm_flat args' hx
              have c0 := q1 _ _ (hfl 0 _ rfl); have e0x := q1' _ _ (hfl 0 _ rfl)
              have c1 := q1 _ _ (hfl 1 _ rfl); have e1x := q1' _ _ (hfl 1 _ rfl)
              have c2 := q1 _ _ (hfl 2 _ rfl); have e2x := q1' _ _ (hfl 2 _ rfl)
              have c3 := q1 _ _ (hfl 3 _ rfl); have e3x := q1' _ _ (hfl 3 _ rfl)
              simp only [Nat.add_zero, ← Nat.add_assoc] at c0 c1 c2 c3 e0x e1x e2x e3x
              injection e1 with e1 e9 e3; clear e9; injection e2 with e2 e9 e4; clear e9; subst e1; subst e2; subst e3; subst e4
              have htm := fun W => tm_same x W
              unfold tmFs at htm
              clear hra tb ta hfl q1 q1' hx x18 x6 x4 hc bb
              go_wp2_with fail
              go_quiet (fail)
              go_wp2_with fail
              go_roundw
              case rel => exact ⟨k + 1, _, by omega, by go_num, rfl⟩
              case measure => simp [intOf]; omega
            · go_wp2_with fail
              go_ret
              exact ⟨rfl, below_drewN bb _⟩
        · go_ret
          exact ⟨rfl, bb⟩
    · obtain ⟨q1, q2, q3, q4, q5⟩ := hq
      have f1 := hf
      have HQ1 := Lib.hid q1; have HF1 := Lib.hid f1; clear q1 f1
      have HQ5 := Lib.hid q5; clear q5; have wr7 : IntKind.i64.wrap (ps + 7) = ps + 7 := wrap_small _ (by omega) (by omega)
      go_enter Tryd.func7, Tryd.ntmps7
      go_wp2_with (go_at_call 8; refine (HH.out).mono ?_; rintro e w1 ⟨rfl, bb⟩; clear HH)
      have HC := Lib.hid (fun (_ : Nat) => query_env s w1 (HENV.out.below bb) (by omega))
      go_wp2_with (go_at_call 20; refine (HC.out 0).mono ?_; rintro e w2 ⟨hbw2, aw2, ddw2, rfl, ta, hdw2⟩; rw [HQ1.out] at ta hdw2 ⊢; obtain ⟨aAw2, aCw2, rfl⟩ := ta.slice; obtain ⟨dAw2, dCw2, rfl⟩ := TRow.slice hdw2; simp only [liFs]; replace bb := bb.trans (hbw2.mono bb.size); clear HC)
      have hB4 : w.heap.size ≤ w2.heap.size := bb.size
      have x4 := At.new w2 58 (liFs (⟨1, nm, -1, args, b, [], -1, 0, ps⟩ : Ap.Li) (.slice aAw2 (Ap.Li.args (⟨1, nm, -1, args, b, [], -1, 0, ps⟩ : Ap.Li)).length aCw2)).toArray
      have hcw2b := below1 w2 (.cells (liFs (⟨1, nm, -1, args, b, [], -1, 0, ps⟩ : Ap.Li) (.slice aAw2 (Ap.Li.args (⟨1, nm, -1, args, b, [], -1, 0, ps⟩ : Ap.Li)).length aCw2)).toArray 58)
      simp only [liFs] at x4 hcw2b
      generalize hww2b : w2.alloc _ = w2b at x4 hcw2b ⊢
      replace ta := TRow.below ta hcw2b
      replace bb := bb.trans (hcw2b.mono bb.size)
      clear hww2b hcw2b hbw2 hdw2
      have HC := Lib.hid (fun (_ : Nat) => fact_env s w2b (HENV.out.below bb) (by omega))
      go_wp2_with (go_at_call 21; refine (HC.out 0).mono ?_; rintro e w3 ⟨hbw3, aw3, ddw3, rfl, tb, hdw3⟩; rw [HF1.out] at tb hdw3 ⊢; obtain ⟨aAw3, aCw3, rfl⟩ := tb.slice; obtain ⟨dAw3, dCw3, rfl⟩ := TRow.slice hdw3; simp only [liFs]; replace ta := TRow.below ta hbw3; replace x4 := x4.next hbw3; replace bb := bb.trans (hbw3.mono bb.size); have h46 : w2.heap.size < w3.heap.size := x4.lt; clear HC)
      have x6 := At.new w3 58 (liFs (liZ : Ap.Li) (.slice aAw3 (Ap.Li.args (liZ : Ap.Li)).length aCw3)).toArray
      have hcw3b := below1 w3 (.cells (liFs (liZ : Ap.Li) (.slice aAw3 (Ap.Li.args (liZ : Ap.Li)).length aCw3)).toArray 58)
      simp only [liFs] at x6 hcw3b
      generalize hww3b : w3.alloc _ = w3b at x6 hcw3b ⊢
      replace ta := TRow.below ta hcw3b
      replace x4 := x4.next hcw3b
      replace tb := TRow.below tb hcw3b
      replace bb := bb.trans (hcw3b.mono bb.size)
      clear hww3b hcw3b hbw3 hdw3
      have HSf := Lib.hid (li_same liZ (liFs liZ (.slice aAw3 0 aCw3)) (liFs liZ (.slice none 0 0)) w3b (by decide) ⟨_, rfl, tb⟩ ⟨_, rfl, TRow.nil _ _ _⟩)
      go_wp2_with (go_at_call 22; refine (HSf.out).mono ?_; rintro e w4 ⟨rfl, hb4⟩; replace ta := TRow.below ta hb4; replace x4 := x4.next hb4; replace tb := TRow.below tb hb4; replace x6 := x6.next hb4; replace bb := bb.trans (hb4.mono bb.size); clear HSf)
      · go_ret
        exact ⟨rfl, bb⟩
      · have er1h : ∃ er1, (Lx.lex (qText s.data.toList)).2.1 = er1 := ⟨_, rfl⟩
        have er2h : ∃ er2, (Lx.lex (fText s.data.toList)).2.1 = er2 := ⟨_, rfl⟩
        obtain ⟨er1, her1⟩ := er1h; obtain ⟨er2, her2⟩ := er2h
        rw [her1] at HQ5
        have HE1 := Lib.hid her1; have HE2 := Lib.hid her2; clear her1 her2
        have HL := Lib.hid (fun (_ : Nat) => rlex_q (s := ((⟨#[104, 40, 41, 32, 58, 45, 10]⟩ : ByteArray) ++ s) ++ ⟨#[10, 46]⟩) w4 (Nat.le_trans HQS.out (by decide)))
        rw [HQD.out, HE1.out] at HL
        go_wp2_with (go_at_call 9; refine (HL.out 0).mono ?_; rintro e w5 ⟨LA1, ln1, lc1, lm1, rfl, hb5⟩; clear HL; replace ta := TRow.below ta hb5; replace x4 := x4.next hb5; replace tb := TRow.below tb hb5; replace x6 := x6.next hb5; replace bb := bb.trans (hb5.mono bb.size))
        have HL := Lib.hid (fun (_ : Nat) => rlex_q (s := s ++ (⟨#[10, 46]⟩ : ByteArray)) w5 (Nat.le_trans HFS.out (by decide)))
        rw [HFD.out, HE2.out] at HL
        go_wp2_with (go_at_call 9; refine (HL.out 0).mono ?_; rintro e w6 ⟨LA2, ln2, lc2, lm2, rfl, hb6⟩; clear HL; replace ta := TRow.below ta hb6; replace x4 := x4.next hb6; replace tb := TRow.below tb hb6; replace x6 := x6.next hb6; replace bb := bb.trans (hb6.mono bb.size))
        · have e1 : er1 = 0 := eq_of_beq (by assumption)
          obtain ⟨hD5, hP5⟩ := HQ5.out e1; have HP5 := Lib.hid hP5; have HD5 := Lib.hid hD5; clear hD5 hP5 HQ5
          have HC := Lib.hid (fun (_ : Nat) => parse_env (((⟨#[104, 40, 41, 32, 58, 45, 10]⟩ : ByteArray) ++ s) ++ ⟨#[10, 46]⟩) w6 (HENV.out.below bb) HQS.out)
          go_wp2_with (go_at_call 11; refine (HC.out 0).mono ?_; rintro e w7 ⟨hb7, pl, pf, pp, pr1, pd, rfl, hP, hD⟩; rw [HQD.out, HP5.out] at hP; rw [HQD.out, HD5.out] at hD; obtain ⟨plA, plC, hpl⟩ := hP.lats.slice; replace hpl : pl = .slice plA 0 plC := hpl; subst hpl; obtain ⟨pfA, pfC, hpf⟩ := hP.funs.slice; replace hpf : pf = .slice pfA 0 pfC := hpf; subst hpf; obtain ⟨ppA, ppC, hpp⟩ := hP.preds.slice; replace hpp : pp = .slice ppA 0 ppC := hpp; subst hpp; obtain ⟨prA, prC, hpr1⟩ := hP.rules.slice; replace hpr1 : pr1 = .slice prA 1 prC := hpr1; subst hpr1; obtain ⟨pdA, pdC, hpd⟩ := TRow.slice hD; replace hpd : pd = .slice pdA 0 pdC := hpd; subst hpd; replace ta := TRow.below ta hb7; replace x4 := x4.next hb7; replace tb := TRow.below tb hb7; replace x6 := x6.next hb7; replace bb := bb.trans (hb7.mono bb.size); have p8 : _ = some (Value.int .i64 ps) := (x4.next (below1 _ (.cells #[.slice plA 0 plC, .slice pfA 0 pfC, .slice ppA 0 ppC, .slice prA 1 prC] 34))).cell 8; have f8 := (x4.next (below1 _ (.cells #[.slice plA 0 plC, .slice pfA 0 pfC, .slice ppA 0 ppC, .slice prA 1 prC] 34))).frozen 8; have l4 := x4.lt; clear HC hD)
          clear p8 f8 l4
          have hsz : (w7.setCell ⟨w2.heap.size, 8, none⟩ (.int .i64 (ps + 7))).heap.size = w7.heap.size := setCell_size _ _ _
          have KT := Kept.put x4 8 (.int .i64 (ps + 7)) (show 58 ≠ 71 by decide)
          have KR := Kept.put x4 8 (.int .i64 (ps + 7)) (show 58 ≠ 66 by decide)
          obtain ⟨rws, hr1, hr2⟩ := hP.rules
          obtain ⟨g, og, oc, rr, e1, hg, ⟨ra, rb, rfl, hra, hrb⟩, z⟩ := TRows.at (R := fun _ => RuR w7) ⟨rws, hr1.kept KR, hr2⟩ (fun _ _ => RuR.len) (i := 0) rfl
          injection e1 with e1 e9 e3; clear e9; subst e1; subst e3
          obtain ⟨gb, ob, cb, rl, rfl, hgb, ⟨la, rfl, hla⟩, zb⟩ := hrb.at (fun _ _ => LiR.len) (i := 0) rfl
          obtain ⟨LA, LC, hlav⟩ := hla.slice; replace hlav : la = .slice LA args.length LC := hlav; subst hlav
          have hne : gb ≠ w2.heap.size := by
            intro hgb2; subst hgb2
            have e : w7.cell? ⟨w2.heap.size, ob + 8, none⟩ = some (.int .i64 (ps + 7)) := zb 8 _ rfl
            rw [x4.cell (ob + 8)] at e
            cases ob with
            | zero => simp at e; omega
            | succ ob => rw [Array.getElem?_eq_none (by simp)] at e; cases e
          have u7 : (w7.setCell ⟨w2.heap.size, 8, none⟩ (.int .i64 (ps + 7))).cell? ⟨g, og + 7, none⟩ = some (.slice (some ⟨gb, ob, none⟩) 1 cb) := z 7 _ rfl
          have v0 : (w7.setCell ⟨w2.heap.size, 8, none⟩ (.int .i64 (ps + 7))).cell? ⟨gb, ob, none⟩ = some (.int .i64 1) := (cell_apart hne _).trans (zb 0 _ rfl)
          have v1 : (w7.setCell ⟨w2.heap.size, 8, none⟩ (.int .i64 (ps + 7))).cell? ⟨gb, ob + 1, none⟩ = some (.string (bs nm)) := (cell_apart hne _).trans (zb 1 _ rfl)
          have v2 : (w7.setCell ⟨w2.heap.size, 8, none⟩ (.int .i64 (ps + 7))).cell? ⟨gb, ob + 2, none⟩ = some (.int .i64 (-1)) := (cell_apart hne _).trans (zb 2 _ rfl)
          have v3 : (w7.setCell ⟨w2.heap.size, 8, none⟩ (.int .i64 (ps + 7))).cell? ⟨gb, ob + 3, none⟩ = some (.slice LA args.length LC) := (cell_apart hne _).trans (zb 3 _ rfl)
          have v4 : (w7.setCell ⟨w2.heap.size, 8, none⟩ (.int .i64 (ps + 7))).cell? ⟨gb, ob + 4, none⟩ = some (.string (bs b)) := (cell_apart hne _).trans (zb 4 _ rfl)
          have v5 : (w7.setCell ⟨w2.heap.size, 8, none⟩ (.int .i64 (ps + 7))).cell? ⟨gb, ob + 5, none⟩ = some (.string ⟨#[]⟩) := (cell_apart hne _).trans (zb 5 _ rfl)
          have v6 : (w7.setCell ⟨w2.heap.size, 8, none⟩ (.int .i64 (ps + 7))).cell? ⟨gb, ob + 6, none⟩ = some (.int .i64 (-1)) := (cell_apart hne _).trans (zb 6 _ rfl)
          have v7 : (w7.setCell ⟨w2.heap.size, 8, none⟩ (.int .i64 (ps + 7))).cell? ⟨gb, ob + 7, none⟩ = some (.int .i64 0) := (cell_apart hne _).trans (zb 7 _ rfl)
          have v8 : (w7.setCell ⟨w2.heap.size, 8, none⟩ (.int .i64 (ps + 7))).cell? ⟨gb, ob + 8, none⟩ = some (.int .i64 (ps + 7)) := (cell_apart hne _).trans (zb 8 _ rfl)
          replace bb := bb.setCell (p := ⟨w2.heap.size, 8, none⟩) hB4 (.int .i64 (ps + 7))
          replace x6 := x6.far (p := ⟨w2.heap.size, 8, none⟩) (Nat.ne_of_gt h46) (.int .i64 (ps + 7))
          replace x4 := x4.put 8 (.int .i64 (ps + 7))
          simp only [List.setIfInBounds_toArray, List.set_cons_zero, List.set_cons_succ] at x4
          replace ta := TRow.kept ta KT; replace tb := TRow.kept tb KT; have hlb := TRow.kept hla KT
          clear hla hP hr1 hr2 hrb z zb KT KR hra hne hg hgb
          generalize hws : (w7.setCell ⟨w2.heap.size, 8, none⟩ (.int .i64 (ps + 7))) = ws0 at u7 v0 v1 v2 v3 v4 v5 v6 v7 v8 bb x6 x4 ta tb hlb hsz ⊢
          clear hws
          have x14b := At.new ws0 34 #[.slice plA 0 plC, .slice pfA 0 pfC, .slice ppA 0 ppC, .slice (some ⟨g, og, none⟩) 1 prC]
          rw [hsz] at x14b
          have hc := below1 ws0 (.cells #[.slice plA 0 plC, .slice pfA 0 pfC, .slice ppA 0 ppC, .slice (some ⟨g, og, none⟩) 1 prC] 34)
          generalize hws : ws0.alloc (.cells #[.slice plA 0 plC, .slice pfA 0 pfC, .slice ppA 0 ppC, .slice (some ⟨g, og, none⟩) 1 prC] 34) = ws at x14b hc ⊢
          clear hws
          replace ta := TRow.below ta hc
          replace x4 := x4.next hc
          replace tb := TRow.below tb hc
          replace x6 := x6.next hc
          replace u7 := next_cell u7 hc
          replace v0 := next_cell v0 hc
          replace v1 := next_cell v1 hc
          replace v2 := next_cell v2 hc
          replace v3 := next_cell v3 hc
          replace v4 := next_cell v4 hc
          replace v5 := next_cell v5 hc
          replace v6 := next_cell v6 hc
          replace v7 := next_cell v7 hc
          replace v8 := next_cell v8 hc
          replace hlb := TRow.below hlb hc
          replace bb := bb.trans (hc.mono bb.size)
          have x6b := x6; have bl := bb; clear x6 bb hc
          have p0 : ws.cell? ⟨w2.heap.size, 0, none⟩ = some (.int .i64 1) := x4.cell 0
          have p1 : ws.cell? ⟨w2.heap.size, 1, none⟩ = some (.string (bs nm)) := x4.cell 1
          have p2 : ws.cell? ⟨w2.heap.size, 2, none⟩ = some (.int .i64 (-1)) := x4.cell 2
          have p3 : ws.cell? ⟨w2.heap.size, 3, none⟩ = some (.slice aAw2 args.length aCw2) := x4.cell 3
          have p4 : ws.cell? ⟨w2.heap.size, 4, none⟩ = some (.string (bs b)) := x4.cell 4
          have p5 : ws.cell? ⟨w2.heap.size, 5, none⟩ = some (.string ⟨#[]⟩) := x4.cell 5
          have p6 : ws.cell? ⟨w2.heap.size, 6, none⟩ = some (.int .i64 (-1)) := x4.cell 6
          have p7 : ws.cell? ⟨w2.heap.size, 7, none⟩ = some (.int .i64 0) := x4.cell 7
          have p8 : ws.cell? ⟨w2.heap.size, 8, none⟩ = some (.int .i64 (ps + 7)) := x4.cell 8
          have y3 : ws.cell? ⟨w7.heap.size, 3, none⟩ = some (.slice (some ⟨g, og, none⟩) 1 prC) := x14b.cell 3
          have HS := Lib.hid (fun (W : World) (hb : Below ws.heap.size ws W) => li_same (⟨1, nm, -1, args, b, [], -1, 0, ps + 7⟩ : Ap.Li) (liFs (⟨1, nm, -1, args, b, [], -1, 0, ps + 7⟩ : Ap.Li) (.slice LA args.length LC)) (liFs (⟨1, nm, -1, args, b, [], -1, 0, ps + 7⟩ : Ap.Li) (.slice aAw2 args.length aCw2)) W (show args.length ≤ 1000000 by omega) ⟨_, rfl, TRow.below hlb hb⟩ ⟨_, rfl, TRow.below ta hb⟩)
          have HX := Lib.hid (And.intro x4 (And.intro x6b (And.intro ta tb))); have HBL := Lib.hid bl
          clear x4 x6b x14b ta tb hlb bl
          refine' wp_region_each _ (Below ws.heap.size ws) (Onward) (Vl :: Vl :: Vl :: Vl :: Vl :: Vl :: Vl :: Vl :: Vl :: Vl :: Vl :: Vl :: Vl :: Vl :: Vl :: Vl :: Vl :: Vl :: Vl :: Vl :: Vl :: Vl :: Vl :: Vl :: Vl :: Vl :: Vl :: Vl :: Vl :: Vl :: Vl :: Vl :: Vl :: Vl :: Vl :: Vl :: Vl :: Vl :: Vl :: Vl :: []) ?hF (by kernel_rfl) (by kernel_rfl) (by kernel_rfl) ((Below.refl _ _).drew) (lasting_cons (lasting_vl) (lasting_cons (lasting_vl) (lasting_cons (lasting_vl) (lasting_cons (lasting_vl) (lasting_cons (lasting_vl) (lasting_cons (lasting_vl) (lasting_cons (lasting_vl) (lasting_cons (lasting_vl) (lasting_cons (lasting_vl) (lasting_cons (lasting_vl) (lasting_cons (lasting_vl) (lasting_cons (lasting_vl) (lasting_cons (lasting_vl) (lasting_cons (lasting_vl) (lasting_cons (lasting_vl) (lasting_cons (lasting_vl) (lasting_cons (lasting_vl) (lasting_cons (lasting_vl) (lasting_cons (lasting_vl) (lasting_cons (lasting_vl) (lasting_cons (lasting_vl) (lasting_cons (lasting_vl) (lasting_cons (lasting_vl) (lasting_cons (lasting_vl) (lasting_cons (lasting_vl) (lasting_cons (lasting_vl) (lasting_cons (lasting_vl) (lasting_cons (lasting_vl) (lasting_cons (lasting_vl) (lasting_cons (lasting_vl) (lasting_cons (lasting_vl) (lasting_cons (lasting_vl) (lasting_cons (lasting_vl) (lasting_cons (lasting_vl) (lasting_cons (lasting_vl) (lasting_cons (lasting_vl) (lasting_cons (lasting_vl) (lasting_cons (lasting_vl) (lasting_cons (lasting_vl) (lasting_cons (lasting_vl) (lasting_none))))))))))))))))))))))))))))))))))))))))) ?hops ?hend
          case hF => (intro v; simp only [over, Act.put, List.setIfInBounds_toArray, List.set_cons_zero, List.set_cons_succ, Nat.zero_add, Nat.reduceAdd]; exact rfl)
          case hops =>
            refine ⟨?_, ?_⟩
            · intro v w' hj hd hs K hK
              have hk := hK.out
              simp only [Act.put, List.setIfInBounds_toArray, List.set_cons_zero, List.set_cons_succ] at hk
              have HK := Lib.hid hk
              clear hd hs hk hK
              go_simp
              exact HK.out _ _ hj.out (Below.refl _ _) (show _ = _ from rfl)
            refine ⟨?_, ?_⟩
            · intro v w' hj hd hs K hK
              have t0 : v 0 = _ := hd.out 0 (by kernel_rfl)
              have hk := hK.out
              simp only [t0, Act.put, List.setIfInBounds_toArray, List.set_cons_zero, List.set_cons_succ] at hk
              have HK := Lib.hid hk
              clear hd hs hk hK
              go_simp
              exact HK.out _ _ hj.out (Below.refl _ _) (show _ = _ from rfl)
            refine ⟨?_, ?_⟩
            · intro v w' hj hd hs K hK
              have t1 : v 1 = _ := hd.out 1 (by kernel_rfl)
              have hk := hK.out
              simp only [t1, Act.put, List.setIfInBounds_toArray, List.set_cons_zero, List.set_cons_succ] at hk
              have HK := Lib.hid hk
              clear hd hs hk hK
              go_simp
              exact HK.out _ _ hj.out (Below.refl _ _) (show _ = _ from rfl)
            refine ⟨?_, ?_⟩
            · intro v w' hj hd hs K hK
              have t2 : v 2 = _ := hd.out 2 (by kernel_rfl)
              have hk := hK.out
              simp only [t2, Act.put, List.setIfInBounds_toArray, List.set_cons_zero, List.set_cons_succ] at hk
              have HK := Lib.hid hk
              clear hd hs hk hK
              go_simp
              exact HK.out _ _ hj.out (Below.refl _ _) (show _ = _ from rfl)
            refine ⟨?_, ?_⟩
            · intro v w' hj hd hs K hK
              have t3 : v 3 = _ := hd.out 3 (by kernel_rfl)
              have hk := hK.out
              simp only [t3, Act.put, List.setIfInBounds_toArray, List.set_cons_zero, List.set_cons_succ] at hk
              have HK := Lib.hid hk
              clear hd hs hk hK
              go_simp
              exact HK.out _ _ hj.out (Below.refl _ _) (show _ = _ from rfl)
            refine ⟨?_, ?_⟩
            · intro v w' hj hd hs K hK
              have t3 : v 3 = _ := hd.out 3 (by kernel_rfl)
              have t4 : v 4 = _ := hd.out 4 (by kernel_rfl)
              have yz := next_cell y3 hj.out
              have hk := hK.out
              simp only [t3, t4, Act.put, List.setIfInBounds_toArray, List.set_cons_zero, List.set_cons_succ] at hk
              have HK := Lib.hid hk
              clear hd hs hk hK
              go_simp
              exact HK.out _ _ hj.out (Below.refl _ _) (show _ = _ from rfl)
            refine ⟨?_, ?_⟩
            · intro v w' hj hd hs K hK
              have t3 : v 3 = _ := hd.out 3 (by kernel_rfl)
              have t5 : v 5 = _ := hd.out 5 (by kernel_rfl)
              have hk := hK.out
              simp only [t3, t5, Act.put, List.setIfInBounds_toArray, List.set_cons_zero, List.set_cons_succ] at hk
              have HK := Lib.hid hk
              clear hd hs hk hK
              go_simp
              exact HK.out _ _ hj.out (Below.refl _ _) (show _ = _ from rfl)
            refine ⟨?_, ?_⟩
            · intro v w' hj hd hs K hK
              have t3 : v 3 = _ := hd.out 3 (by kernel_rfl)
              have t6 : v 6 = _ := hd.out 6 (by kernel_rfl)
              have hk := hK.out
              simp only [t3, t6, Act.put, List.setIfInBounds_toArray, List.set_cons_zero, List.set_cons_succ] at hk
              have HK := Lib.hid hk
              clear hd hs hk hK
              go_simp
              exact HK.out _ _ hj.out (Below.refl _ _) (show _ = _ from rfl)
            refine ⟨?_, ?_⟩
            · intro v w' hj hd hs K hK
              have t3 : v 3 = _ := hd.out 3 (by kernel_rfl)
              have t7 : v 7 = _ := hd.out 7 (by kernel_rfl)
              have hk := hK.out
              simp only [t3, t7, Act.put, List.setIfInBounds_toArray, List.set_cons_zero, List.set_cons_succ] at hk
              have HK := Lib.hid hk
              clear hd hs hk hK
              go_simp
              exact HK.out _ _ hj.out (Below.refl _ _) (show _ = _ from rfl)
            refine ⟨?_, ?_⟩
            · intro v w' hj hd hs K hK
              have t8 : v 8 = _ := hd.out 8 (by kernel_rfl)
              have hk := hK.out
              simp only [t8, Act.put, List.setIfInBounds_toArray, List.set_cons_zero, List.set_cons_succ] at hk
              have HK := Lib.hid hk
              clear hd hs hk hK
              go_simp
              exact HK.out _ _ hj.out (Below.refl _ _) (show _ = _ from rfl)
            refine ⟨?_, ?_⟩
            · intro v w' hj hd hs K hK
              have t9 : v 9 = _ := hd.out 9 (by kernel_rfl)
              have hk := hK.out
              simp only [t9, Act.put, List.setIfInBounds_toArray, List.set_cons_zero, List.set_cons_succ] at hk
              have HK := Lib.hid hk
              clear hd hs hk hK
              go_simp
              exact HK.out _ _ hj.out (Below.refl _ _) (show _ = _ from rfl)
            refine ⟨?_, ?_⟩
            · intro v w' hj hd hs K hK
              have t9 : v 9 = _ := hd.out 9 (by kernel_rfl)
              have t10 : v 10 = _ := hd.out 10 (by kernel_rfl)
              have yz := next_cell y3 hj.out
              have hk := hK.out
              simp only [t9, t10, Act.put, List.setIfInBounds_toArray, List.set_cons_zero, List.set_cons_succ] at hk
              have HK := Lib.hid hk
              clear hd hs hk hK
              go_simp
              exact HK.out _ _ hj.out (Below.refl _ _) (show _ = _ from rfl)
            refine ⟨?_, ?_⟩
            · intro v w' hj hd hs K hK
              have t9 : v 9 = _ := hd.out 9 (by kernel_rfl)
              have t11 : v 11 = _ := hd.out 11 (by kernel_rfl)
              have hk := hK.out
              simp only [t9, t11, Act.put, List.setIfInBounds_toArray, List.set_cons_zero, List.set_cons_succ] at hk
              have HK := Lib.hid hk
              clear hd hs hk hK
              go_simp
              exact HK.out _ _ hj.out (Below.refl _ _) (show _ = _ from rfl)
            refine ⟨?_, ?_⟩
            · intro v w' hj hd hs K hK
              have t9 : v 9 = _ := hd.out 9 (by kernel_rfl)
              have t12 : v 12 = _ := hd.out 12 (by kernel_rfl)
              have hk := hK.out
              simp only [t9, t12, Act.put, List.setIfInBounds_toArray, List.set_cons_zero, List.set_cons_succ] at hk
              have HK := Lib.hid hk
              clear hd hs hk hK
              go_simp
              exact HK.out _ _ hj.out (Below.refl _ _) (show _ = _ from rfl)
            refine ⟨?_, ?_⟩
            · intro v w' hj hd hs K hK
              have t9 : v 9 = _ := hd.out 9 (by kernel_rfl)
              have t13 : v 13 = _ := hd.out 13 (by kernel_rfl)
              have yz := next_cell u7 hj.out
              have hk := hK.out
              simp only [t9, t13, Act.put, List.setIfInBounds_toArray, List.set_cons_zero, List.set_cons_succ] at hk
              have HK := Lib.hid hk
              clear hd hs hk hK
              go_simp
              exact HK.out _ _ hj.out (Below.refl _ _) (show _ = _ from rfl)
            refine ⟨?_, ?_⟩
            · intro v w' hj hd hs K hK
              have t9 : v 9 = _ := hd.out 9 (by kernel_rfl)
              have t14 : v 14 = _ := hd.out 14 (by kernel_rfl)
              have hk := hK.out
              simp only [t9, t14, Act.put, List.setIfInBounds_toArray, List.set_cons_zero, List.set_cons_succ] at hk
              have HK := Lib.hid hk
              clear hd hs hk hK
              go_simp
              exact HK.out _ _ hj.out (Below.refl _ _) (show _ = _ from rfl)
            refine ⟨?_, ?_⟩
            · intro v w' hj hd hs K hK
              have t9 : v 9 = _ := hd.out 9 (by kernel_rfl)
              have t15 : v 15 = _ := hd.out 15 (by kernel_rfl)
              have hk := hK.out
              simp only [t9, t15, Act.put, List.setIfInBounds_toArray, List.set_cons_zero, List.set_cons_succ] at hk
              have HK := Lib.hid hk
              clear hd hs hk hK
              go_simp
              exact HK.out _ _ hj.out (Below.refl _ _) (show _ = _ from rfl)
            refine ⟨?_, ?_⟩
            · intro v w' hj hd hs K hK
              have t9 : v 9 = _ := hd.out 9 (by kernel_rfl)
              have t16 : v 16 = _ := hd.out 16 (by kernel_rfl)
              have hk := hK.out
              simp only [t9, t16, Act.put, List.setIfInBounds_toArray, List.set_cons_zero, List.set_cons_succ] at hk
              have HK := Lib.hid hk
              clear hd hs hk hK
              go_simp
              exact HK.out _ _ hj.out (Below.refl _ _) (show _ = _ from rfl)
            refine ⟨?_, ?_⟩
            · intro v w' hj hd hs K hK
              have t17 : v 17 = _ := hd.out 17 (by kernel_rfl)
              have hk := hK.out
              simp only [t17, Act.put, List.setIfInBounds_toArray, List.set_cons_zero, List.set_cons_succ] at hk
              have HK := Lib.hid hk
              clear hd hs hk hK
              go_simp
              exact HK.out _ _ hj.out (Below.refl _ _) (show _ = _ from rfl)
            refine ⟨?_, ?_⟩
            · intro v w' hj hd hs K hK
              have t18 : v 18 = _ := hd.out 18 (by kernel_rfl)
              have hk := hK.out
              simp only [t18, Act.put, List.setIfInBounds_toArray, List.set_cons_zero, List.set_cons_succ] at hk
              have HK := Lib.hid hk
              clear hd hs hk hK
              go_simp
              exact HK.out _ _ hj.out (Below.refl _ _) (show _ = _ from rfl)
            refine ⟨?_, ?_⟩
            · intro v w' hj hd hs K hK
              have t18 : v 18 = _ := hd.out 18 (by kernel_rfl)
              have t19 : v 19 = _ := hd.out 19 (by kernel_rfl)
              have yz := next_cell y3 hj.out
              have hk := hK.out
              simp only [t18, t19, Act.put, List.setIfInBounds_toArray, List.set_cons_zero, List.set_cons_succ] at hk
              have HK := Lib.hid hk
              clear hd hs hk hK
              go_simp
              exact HK.out _ _ hj.out (Below.refl _ _) (show _ = _ from rfl)
            refine ⟨?_, ?_⟩
            · intro v w' hj hd hs K hK
              have t18 : v 18 = _ := hd.out 18 (by kernel_rfl)
              have t20 : v 20 = _ := hd.out 20 (by kernel_rfl)
              have hk := hK.out
              simp only [t18, t20, Act.put, List.setIfInBounds_toArray, List.set_cons_zero, List.set_cons_succ] at hk
              have HK := Lib.hid hk
              clear hd hs hk hK
              go_simp
              exact HK.out _ _ hj.out (Below.refl _ _) (show _ = _ from rfl)
            refine ⟨?_, ?_⟩
            · intro v w' hj hd hs K hK
              have t18 : v 18 = _ := hd.out 18 (by kernel_rfl)
              have t21 : v 21 = _ := hd.out 21 (by kernel_rfl)
              have hk := hK.out
              simp only [t18, t21, Act.put, List.setIfInBounds_toArray, List.set_cons_zero, List.set_cons_succ] at hk
              have HK := Lib.hid hk
              clear hd hs hk hK
              go_simp
              exact HK.out _ _ hj.out (Below.refl _ _) (show _ = _ from rfl)
            refine ⟨?_, ?_⟩
            · intro v w' hj hd hs K hK
              have t18 : v 18 = _ := hd.out 18 (by kernel_rfl)
              have t22 : v 22 = _ := hd.out 22 (by kernel_rfl)
              have yz := next_cell u7 hj.out
              have hk := hK.out
              simp only [t18, t22, Act.put, List.setIfInBounds_toArray, List.set_cons_zero, List.set_cons_succ] at hk
              have HK := Lib.hid hk
              clear hd hs hk hK
              go_simp
              exact HK.out _ _ hj.out (Below.refl _ _) (show _ = _ from rfl)
            refine ⟨?_, ?_⟩
            · intro v w' hj hd hs K hK
              have t18 : v 18 = _ := hd.out 18 (by kernel_rfl)
              have t23 : v 23 = _ := hd.out 23 (by kernel_rfl)
              have hk := hK.out
              simp only [t18, t23, Act.put, List.setIfInBounds_toArray, List.set_cons_zero, List.set_cons_succ] at hk
              have HK := Lib.hid hk
              clear hd hs hk hK
              go_simp
              exact HK.out _ _ hj.out (Below.refl _ _) (show _ = _ from rfl)
            refine ⟨?_, ?_⟩
            · intro v w' hj hd hs K hK
              have t18 : v 18 = _ := hd.out 18 (by kernel_rfl)
              have t24 : v 24 = _ := hd.out 24 (by kernel_rfl)
              have yz0 := next_cell v0 hj.out
              have yz1 := next_cell v1 hj.out
              have yz2 := next_cell v2 hj.out
              have yz3 := next_cell v3 hj.out
              have yz4 := next_cell v4 hj.out
              have yz5 := next_cell v5 hj.out
              have yz6 := next_cell v6 hj.out
              have yz7 := next_cell v7 hj.out
              have yz8 := next_cell v8 hj.out
              have hk := hK.out
              simp only [t18, t24, Act.put, List.setIfInBounds_toArray, List.set_cons_zero, List.set_cons_succ] at hk
              have HK := Lib.hid hk
              clear hd hs hk hK
              go_simp
              exact HK.out _ _ hj.out (Below.refl _ _) (show _ = _ from rfl)
            refine ⟨?_, ?_⟩
            · intro v w' hj hd hs K hK
              have t18 : v 18 = _ := hd.out 18 (by kernel_rfl)
              have yz0 := next_cell p0 hj.out
              have yz1 := next_cell p1 hj.out
              have yz2 := next_cell p2 hj.out
              have yz3 := next_cell p3 hj.out
              have yz4 := next_cell p4 hj.out
              have yz5 := next_cell p5 hj.out
              have yz6 := next_cell p6 hj.out
              have yz7 := next_cell p7 hj.out
              have yz8 := next_cell p8 hj.out
              have hk := hK.out
              simp only [t18, Act.put, List.setIfInBounds_toArray, List.set_cons_zero, List.set_cons_succ] at hk
              have HK := Lib.hid hk
              clear hd hs hk hK
              go_simp
              exact HK.out _ _ hj.out (Below.refl _ _) (show _ = _ from rfl)
            refine ⟨?_, ?_⟩
            · intro v w' hj hd hs K hK
              have t18 : v 18 = _ := hd.out 18 (by kernel_rfl)
              have t25 : v 25 = _ := hd.out 25 (by kernel_rfl)
              have t26 : v 26 = _ := hd.out 26 (by kernel_rfl)
              have hk := hK.out
              simp only [t18, t25, t26, Act.put, List.setIfInBounds_toArray, List.set_cons_zero, List.set_cons_succ] at hk
              have HK := Lib.hid hk
              clear hd hs hk hK
              go_simp
              go_at_call 22
              refine (HS.out w' hj.out).mono ?_
              rintro e wz ⟨rfl, hbz⟩
              exact HK.out _ _ (hj.out.trans (hbz.mono hj.out.size)) hbz (show _ = _ from rfl)
            refine ⟨?_, ?_⟩
            · intro v w' hj hd hs K hK
              have t18 : v 18 = _ := hd.out 18 (by kernel_rfl)
              have t27 : v 27 = _ := hd.out 27 (by kernel_rfl)
              have hk := hK.out
              simp only [t18, t27, Act.put, List.setIfInBounds_toArray, List.set_cons_zero, List.set_cons_succ] at hk
              have HK := Lib.hid hk
              clear hd hs hk hK
              go_simp
              exact HK.out _ _ hj.out (Below.refl _ _) (show _ = _ from rfl)
            refine ⟨?_, ?_⟩
            · intro v w' hj hd hs K hK
              have t18 : v 18 = _ := hd.out 18 (by kernel_rfl)
              have t28 : v 28 = _ := hd.out 28 (by kernel_rfl)
              have hk := hK.out
              simp only [t18, t28, Act.put, List.setIfInBounds_toArray, List.set_cons_zero, List.set_cons_succ] at hk
              have HK := Lib.hid hk
              clear hd hs hk hK
              go_simp
              exact HK.out _ _ hj.out (Below.refl _ _) (show _ = _ from rfl)
            refine ⟨?_, ?_⟩
            · intro v w' hj hd hs K hK
              have t29 : v 29 = _ := hd.out 29 (by kernel_rfl)
              have hk := hK.out
              simp only [t29, Act.put, List.setIfInBounds_toArray, List.set_cons_zero, List.set_cons_succ] at hk
              have HK := Lib.hid hk
              clear hd hs hk hK
              go_simp
              exact HK.out _ _ hj.out (Below.refl _ _) (show _ = _ from rfl)
            refine ⟨?_, ?_⟩
            · intro v w' hj hd hs K hK
              have t30 : v 30 = _ := hd.out 30 (by kernel_rfl)
              have hk := hK.out
              simp only [t30, Act.put, List.setIfInBounds_toArray, List.set_cons_zero, List.set_cons_succ] at hk
              have HK := Lib.hid hk
              clear hd hs hk hK
              go_simp
              exact HK.out _ _ hj.out (Below.refl _ _) (show _ = _ from rfl)
            refine ⟨?_, ?_⟩
            · intro v w' hj hd hs K hK
              have t30 : v 30 = _ := hd.out 30 (by kernel_rfl)
              have t31 : v 31 = _ := hd.out 31 (by kernel_rfl)
              have yz := next_cell p0 hj.out
              have hk := hK.out
              simp only [t30, t31, Act.put, List.setIfInBounds_toArray, List.set_cons_zero, List.set_cons_succ] at hk
              have HK := Lib.hid hk
              clear hd hs hk hK
              go_simp
              exact HK.out _ _ hj.out (Below.refl _ _) (show _ = _ from rfl)
            refine ⟨?_, ?_⟩
            · intro v w' hj hd hs K hK
              have t30 : v 30 = _ := hd.out 30 (by kernel_rfl)
              have t32 : v 32 = _ := hd.out 32 (by kernel_rfl)
              have hk := hK.out
              simp only [t30, t32, Act.put, List.setIfInBounds_toArray, List.set_cons_zero, List.set_cons_succ] at hk
              have HK := Lib.hid hk
              clear hd hs hk hK
              go_simp
              exact HK.out _ _ hj.out (Below.refl _ _) (show _ = _ from rfl)
            refine ⟨?_, ?_⟩
            · intro v w' hj hd hs K hK
              have t30 : v 30 = _ := hd.out 30 (by kernel_rfl)
              have t33 : v 33 = _ := hd.out 33 (by kernel_rfl)
              have hk := hK.out
              simp only [t30, t33, Act.put, List.setIfInBounds_toArray, List.set_cons_zero, List.set_cons_succ] at hk
              have HK := Lib.hid hk
              clear hd hs hk hK
              go_simp
              exact HK.out _ _ hj.out (Below.refl _ _) (show _ = _ from rfl)
            refine ⟨?_, ?_⟩
            · intro v w' hj hd hs K hK
              have t34 : v 34 = _ := hd.out 34 (by kernel_rfl)
              have hk := hK.out
              simp only [t34, Act.put, List.setIfInBounds_toArray, List.set_cons_zero, List.set_cons_succ] at hk
              have HK := Lib.hid hk
              clear hd hs hk hK
              go_simp
              exact HK.out _ _ hj.out (Below.refl _ _) (show _ = _ from rfl)
            refine ⟨?_, ?_⟩
            · intro v w' hj hd hs K hK
              have t35 : v 35 = _ := hd.out 35 (by kernel_rfl)
              have hk := hK.out
              simp only [t35, Act.put, List.setIfInBounds_toArray, List.set_cons_zero, List.set_cons_succ] at hk
              have HK := Lib.hid hk
              clear hd hs hk hK
              go_simp
              exact HK.out _ _ hj.out (Below.refl _ _) (show _ = _ from rfl)
            refine ⟨?_, ?_⟩
            · intro v w' hj hd hs K hK
              have t35 : v 35 = _ := hd.out 35 (by kernel_rfl)
              have t36 : v 36 = _ := hd.out 36 (by kernel_rfl)
              have yz := next_cell p5 hj.out
              have hk := hK.out
              simp only [t35, t36, Act.put, List.setIfInBounds_toArray, List.set_cons_zero, List.set_cons_succ] at hk
              have HK := Lib.hid hk
              clear hd hs hk hK
              go_simp
              exact HK.out _ _ hj.out (Below.refl _ _) (show _ = _ from rfl)
            refine ⟨?_, ?_⟩
            · intro v w' hj hd hs K hK
              have t35 : v 35 = _ := hd.out 35 (by kernel_rfl)
              have t37 : v 37 = _ := hd.out 37 (by kernel_rfl)
              have hk := hK.out
              simp only [t35, t37, Act.put, List.setIfInBounds_toArray, List.set_cons_zero, List.set_cons_succ] at hk
              have HK := Lib.hid hk
              clear hd hs hk hK
              go_simp
              exact HK.out _ _ hj.out (Below.refl _ _) (show _ = _ from rfl)
            refine ⟨?_, ?_⟩
            · intro v w' hj hd hs K hK
              have t35 : v 35 = _ := hd.out 35 (by kernel_rfl)
              have t38 : v 38 = _ := hd.out 38 (by kernel_rfl)
              have hk := hK.out
              simp only [t35, t38, Act.put, List.setIfInBounds_toArray, List.set_cons_zero, List.set_cons_succ] at hk
              have HK := Lib.hid hk
              clear hd hs hk hK
              go_simp
              exact HK.out _ _ hj.out (Below.refl _ _) (show _ = _ from rfl)
            trivial
          case hend =>
            intro v w7 hj hd
            have t39 : v 39 = _ := hd.out 39 (of_decide_eq_true (by kernel_rfl))
            simp only [t39]
            obtain ⟨x4, x6, ta, tb⟩ := HX.out; have bb := HBL.out
            replace ta := TRow.below ta hj.out
            replace x4 := x4.next hj.out
            replace tb := TRow.below tb hj.out
            replace x6 := x6.next hj.out
            replace bb := bb.trans (hj.out.mono bb.size)
            clear hd hj u7 y3 v0 p0 v1 p1 v2 p2 v3 p3 v4 p4 v5 p5 v6 p6 v7 p7 v8 p8
            go_wp2_with fail
            go_ret
            exact ⟨rfl, bb⟩
        · go_ret
          exact ⟨rfl, bb⟩
    · have q1 := hq
      obtain ⟨f1, f2, f3, f4⟩ := hf
      have HQ1 := Lib.hid q1; have HF1 := Lib.hid f1; clear q1 f1
      have HF3 := Lib.hid f3; have HF4 := Lib.hid f4; clear f3 f4
      go_enter Tryd.func7, Tryd.ntmps7
      go_wp2_with (go_at_call 8; refine (HH.out).mono ?_; rintro e w1 ⟨rfl, bb⟩; clear HH)
      have HC := Lib.hid (fun (_ : Nat) => query_env s w1 (HENV.out.below bb) (by omega))
      go_wp2_with (go_at_call 20; refine (HC.out 0).mono ?_; rintro e w2 ⟨hbw2, aw2, ddw2, rfl, ta, hdw2⟩; rw [HQ1.out] at ta hdw2 ⊢; obtain ⟨aAw2, aCw2, rfl⟩ := ta.slice; obtain ⟨dAw2, dCw2, rfl⟩ := TRow.slice hdw2; simp only [liFs]; replace bb := bb.trans (hbw2.mono bb.size); clear HC)
      have hB4 : w.heap.size ≤ w2.heap.size := bb.size
      have x4 := At.new w2 58 (liFs (liZ : Ap.Li) (.slice aAw2 (Ap.Li.args (liZ : Ap.Li)).length aCw2)).toArray
      have hcw2b := below1 w2 (.cells (liFs (liZ : Ap.Li) (.slice aAw2 (Ap.Li.args (liZ : Ap.Li)).length aCw2)).toArray 58)
      simp only [liFs] at x4 hcw2b
      generalize hww2b : w2.alloc _ = w2b at x4 hcw2b ⊢
      replace ta := TRow.below ta hcw2b
      replace bb := bb.trans (hcw2b.mono bb.size)
      clear hww2b hcw2b hbw2 hdw2
      have HC := Lib.hid (fun (_ : Nat) => fact_env s w2b (HENV.out.below bb) (by omega))
      go_wp2_with (go_at_call 21; refine (HC.out 0).mono ?_; rintro e w3 ⟨hbw3, aw3, ddw3, rfl, tb, hdw3⟩; rw [HF1.out] at tb hdw3 ⊢; obtain ⟨aAw3, aCw3, rfl⟩ := tb.slice; obtain ⟨dAw3, dCw3, rfl⟩ := TRow.slice hdw3; simp only [liFs]; replace ta := TRow.below ta hbw3; replace x4 := x4.next hbw3; replace bb := bb.trans (hbw3.mono bb.size); have h46 : w2.heap.size < w3.heap.size := x4.lt; have p0 := x4.cell 0; have p1 := x4.cell 1; have p2 := x4.cell 2; have p3 := x4.cell 3; have p4 := x4.cell 4; have p5 := x4.cell 5; have p6 := x4.cell 6; have p7 := x4.cell 7; have p8 := x4.cell 8; simp only [List.getElem?_toArray, List.getElem?_cons_zero, List.getElem?_cons_succ] at p0 p1 p2 p3 p4 p5 p6 p7 p8; clear HC)
      have x6 := At.new w3 58 (liFs (⟨1, nm', -1, args', [], b', -1, 0, ps'⟩ : Ap.Li) (.slice aAw3 (Ap.Li.args (⟨1, nm', -1, args', [], b', -1, 0, ps'⟩ : Ap.Li)).length aCw3)).toArray
      have hcw3b := below1 w3 (.cells (liFs (⟨1, nm', -1, args', [], b', -1, 0, ps'⟩ : Ap.Li) (.slice aAw3 (Ap.Li.args (⟨1, nm', -1, args', [], b', -1, 0, ps'⟩ : Ap.Li)).length aCw3)).toArray 58)
      simp only [liFs] at x6 hcw3b
      generalize hww3b : w3.alloc _ = w3b at x6 hcw3b ⊢
      replace ta := TRow.below ta hcw3b
      replace x4 := x4.next hcw3b
      replace tb := TRow.below tb hcw3b
      replace bb := bb.trans (hcw3b.mono bb.size)
      clear hww3b hcw3b hbw3 hdw3
      clear p0 p1 p2 p3 p4 p5 p6 p7 p8
      have HSq := Lib.hid (li_same liZ (liFs liZ (.slice aAw2 0 aCw2)) (liFs liZ (.slice none 0 0)) w3b (by decide) ⟨_, rfl, ta⟩ ⟨_, rfl, TRow.nil _ _ _⟩)
      go_wp2_with (go_at_call 22; refine (HSq.out).mono ?_; rintro e w4 ⟨rfl, hb4⟩; replace ta := TRow.below ta hb4; replace x4 := x4.next hb4; replace tb := TRow.below tb hb4; replace x6 := x6.next hb4; replace bb := bb.trans (hb4.mono bb.size); clear HSq)
      · go_ret
        exact ⟨rfl, bb⟩
      · have er1h : ∃ er1, (Lx.lex (qText s.data.toList)).2.1 = er1 := ⟨_, rfl⟩
        have er2h : ∃ er2, (Lx.lex (fText s.data.toList)).2.1 = er2 := ⟨_, rfl⟩
        obtain ⟨er1, her1⟩ := er1h; obtain ⟨er2, her2⟩ := er2h
        rw [her2] at HF4
        have HE1 := Lib.hid her1; have HE2 := Lib.hid her2; clear her1 her2
        have HL := Lib.hid (fun (_ : Nat) => rlex_q (s := ((⟨#[104, 40, 41, 32, 58, 45, 10]⟩ : ByteArray) ++ s) ++ ⟨#[10, 46]⟩) w4 (Nat.le_trans HQS.out (by decide)))
        rw [HQD.out, HE1.out] at HL
        go_wp2_with (go_at_call 9; refine (HL.out 0).mono ?_; rintro e w5 ⟨LA1, ln1, lc1, lm1, rfl, hb5⟩; clear HL; replace ta := TRow.below ta hb5; replace x4 := x4.next hb5; replace tb := TRow.below tb hb5; replace x6 := x6.next hb5; replace bb := bb.trans (hb5.mono bb.size))
        have HL := Lib.hid (fun (_ : Nat) => rlex_q (s := s ++ (⟨#[10, 46]⟩ : ByteArray)) w5 (Nat.le_trans HFS.out (by decide)))
        rw [HFD.out, HE2.out] at HL
        go_wp2_with (go_at_call 9; refine (HL.out 0).mono ?_; rintro e w6 ⟨LA2, ln2, lc2, lm2, rfl, hb6⟩; clear HL; replace ta := TRow.below ta hb6; replace x4 := x4.next hb6; replace tb := TRow.below tb hb6; replace x6 := x6.next hb6; replace bb := bb.trans (hb6.mono bb.size))
        · have e2 : er2 = 0 := eq_of_beq (by assumption)
          obtain ⟨hD6, el, pr, hel, hP6⟩ := HF4.out e2; have HP6 := Lib.hid hP6; have HD6 := Lib.hid hD6; clear hD6 hP6 HF4
          have HC := Lib.hid (fun (_ : Nat) => parse_env (s ++ (⟨#[10, 46]⟩ : ByteArray)) w6 (HENV.out.below bb) HFS.out)
          go_wp2_with (go_at_call 11; refine (HC.out 0).mono ?_; rintro e w7 ⟨hb7, pl, pf, pp, pr1, pd, rfl, hP, hD⟩; rw [HFD.out, HP6.out] at hP; rw [HFD.out, HD6.out] at hD; obtain ⟨plA, plC, hpl⟩ := hP.lats.slice; replace hpl : pl = .slice plA 0 plC := hpl; subst hpl; obtain ⟨pfA, pfC, hpf⟩ := hP.funs.slice; replace hpf : pf = .slice pfA 0 pfC := hpf; subst hpf; obtain ⟨ppA, ppC, hpp⟩ := hP.preds.slice; replace hpp : pp = .slice ppA 0 ppC := hpp; subst hpp; obtain ⟨prA, prC, hpr1⟩ := hP.rules.slice; replace hpr1 : pr1 = .slice prA 1 prC := hpr1; subst hpr1; obtain ⟨pdA, pdC, hpd⟩ := TRow.slice hD; replace hpd : pd = .slice pdA 0 pdC := hpd; subst hpd; replace ta := TRow.below ta hb7; replace x4 := x4.next hb7; replace tb := TRow.below tb hb7; replace x6 := x6.next hb7; replace bb := bb.trans (hb7.mono bb.size); have r3 : _ = some (Value.slice aAw3 args'.length aCw3) := (x6.next (below1 w7 (.cells #[.slice plA 0 plC, .slice pfA 0 pfC, .slice ppA 0 ppC, .slice prA 1 prC] 34))).cell 3; clear HC hD)
          have x16 := At.new w7 34 #[.slice plA 0 plC, .slice pfA 0 pfC, .slice ppA 0 ppC, .slice prA 1 prC]
          have hc := below1 w7 (.cells #[.slice plA 0 plC, .slice pfA 0 pfC, .slice ppA 0 ppC, .slice prA 1 prC] 34)
          generalize hwb : w7.alloc (.cells #[.slice plA 0 plC, .slice pfA 0 pfC, .slice ppA 0 ppC, .slice prA 1 prC] 34) = w7b at x16 hc r3 ⊢
          clear hwb r3
          replace ta := TRow.below ta hc
          replace x4 := x4.next hc
          replace tb := TRow.below tb hc
          replace x6 := x6.next hc
          replace bb := bb.trans (hc.mono bb.size)
          replace hP := hP.next hc
          obtain ⟨g, og, oc, rr, e1, hg, ⟨ra, rb, rfl, hra, hrb⟩, z⟩ := hP.rules.at (fun _ _ => RuR.len) (i := 0) rfl
          injection e1 with e1 e9 e3; clear e9; subst e1; subst e3
          obtain ⟨RA, RC, hrav⟩ := hra.slice; replace hrav : ra = .slice RA args'.length RC := hrav; subst hrav
          obtain ⟨RB, RD, hrbv⟩ := hrb.slice; replace hrbv : rb = .slice RB 0 RD := hrbv; subst hrbv
          have z0 : w7b.cell? ⟨g, og, none⟩ = some (.string (bs nm')) := z 0 _ rfl
          have z1 : w7b.cell? ⟨g, og + 1, none⟩ = some (.int .i64 (-1)) := z 1 _ rfl
          have z2 : w7b.cell? ⟨g, og + 2, none⟩ = some (.slice RA args'.length RC) := z 2 _ rfl
          have z3 : w7b.cell? ⟨g, og + 3, none⟩ = some (.int .i64 el.kind) := z 3 _ rfl
          have z4 : w7b.cell? ⟨g, og + 4, none⟩ = some (.string (bs el.name)) := z 4 _ rfl
          have z5 : w7b.cell? ⟨g, og + 5, none⟩ = some (.string (bs el.var)) := z 5 _ rfl
          have z6 : w7b.cell? ⟨g, og + 6, none⟩ = some (.int .i64 el.index) := z 6 _ rfl
          have z7 : w7b.cell? ⟨g, og + 7, none⟩ = some (.slice RB 0 RD) := z 7 _ rfl
          have z8 : w7b.cell? ⟨g, og + 8, none⟩ = some (.int .i64 pr) := z 8 _ rfl
          rw [hel] at z4
          have HCO := Lib.hid (constants_yes _ args' w7b (by omega) HF3.out tb)
          have y3 : w7b.cell? ⟨w7.heap.size, 3, none⟩ = some (.slice (some ⟨g, og, none⟩) 1 prC) := x16.cell 3
          have r3 : w7b.cell? ⟨w3.heap.size, 3, none⟩ = some (.slice aAw3 args'.length aCw3) := x6.cell 3
          clear z hP hrb x16 hc
          go_wp2_with (go_at_call 23; refine (HCO.out).mono ?_; rintro e w8 ⟨rfl, hbw8⟩; clear HCO r3; replace ta := TRow.below ta hbw8; replace x4 := x4.next hbw8; replace tb := TRow.below tb hbw8; replace x6 := x6.next hbw8; replace y3 := next_cell y3 hbw8; replace z0 := next_cell z0 hbw8; replace z1 := next_cell z1 hbw8; replace z2 := next_cell z2 hbw8; replace z3 := next_cell z3 hbw8; replace z4 := next_cell z4 hbw8; replace z5 := next_cell z5 hbw8; replace z6 := next_cell z6 hbw8; replace z7 := next_cell z7 hbw8; replace z8 := next_cell z8 hbw8; replace hra := TRow.below hra hbw8; replace bb := bb.trans (hbw8.mono bb.size); have r0 : w8.cell? ⟨w3.heap.size, 0, none⟩ = some (Value.int .i64 1) := x6.cell 0; have r1 : w8.cell? ⟨w3.heap.size, 1, none⟩ = some (Value.string (bs nm')) := x6.cell 1; have r3 : w8.cell? ⟨w3.heap.size, 3, none⟩ = some (Value.slice aAw3 args'.length aCw3) := x6.cell 3; have r4 : w8.cell? ⟨w3.heap.size, 4, none⟩ = some (Value.string ⟨#[]⟩) := x6.cell 4; have r5 : w8.cell? ⟨w3.heap.size, 5, none⟩ = some (Value.string (bs b')) := x6.cell 5; have l6 := x6.lt)
          have x18 := At.new w8 66 #[.string (bs nm'), .int .i64 (-1), .slice RA args'.length RC, .int .i64 el.kind, .string (bs b'), .string (bs el.var), .int .i64 el.index, .slice RB 0 RD, .int .i64 pr]
          have hc := below1 w8 (.cells #[.string (bs nm'), .int .i64 (-1), .slice RA args'.length RC, .int .i64 el.kind, .string (bs b'), .string (bs el.var), .int .i64 el.index, .slice RB 0 RD, .int .i64 pr] 66)
          generalize hwb : w8.alloc (.cells #[.string (bs nm'), .int .i64 (-1), .slice RA args'.length RC, .int .i64 el.kind, .string (bs b'), .string (bs el.var), .int .i64 el.index, .slice RB 0 RD, .int .i64 pr] 66) = wl at x18 hc ⊢
          clear hwb r0 r1 r3 r4 r5 l6 y3 z0 z1 z2 z3 z4 z5 z6 z7 z8
          replace ta := TRow.below ta hc
          replace x4 := x4.next hc
          replace tb := TRow.below tb hc
          replace x6 := x6.next hc
          replace hra := TRow.below hra hc
          replace bb := bb.trans (hc.mono bb.size)
          have q2 : wl.cell? ⟨w8.heap.size, 2, none⟩ = some (.slice RA args'.length RC) := x18.cell 2
          have r3 : wl.cell? ⟨w3.heap.size, 3, none⟩ = some (.slice aAw3 args'.length aCw3) := x6.cell 3
          go_loopw [19] (fun i wr => ∃ (k nq : Nat), k ≤ args'.length ∧ i = .int .i64 k ∧ wr = wl.drewN nq) (fun i _ => args'.length - (intOf i).toNat)
          case atStart => exact ⟨0, 0, by omega, rfl, rfl⟩
          case round =>
            obtain ⟨k, nq, hk, rfl, rfl⟩ := hrel
            by_cases hlt : k < args'.length
            · obtain ⟨g1, o1, d1x, e1, hg1, q1⟩ := hra.cells (by omega)
              obtain ⟨g2, o2, d2x, e2, hg2, q1'⟩ := TRow.cells tb (by show 0 < args'.length; omega)
              obtain ⟨x, hx⟩ : ∃ x, args'[k]? = some x := ⟨_, List.getElem?_eq_getElem hlt⟩
              have hfl := tm_flat args' hx
              have c0 := q1 _ _ (hfl 0 _ rfl); have e0x := q1' _ _ (hfl 0 _ rfl)
              have c1 := q1 _ _ (hfl 1 _ rfl); have e1x := q1' _ _ (hfl 1 _ rfl)
              have c2 := q1 _ _ (hfl 2 _ rfl); have e2x := q1' _ _ (hfl 2 _ rfl)
              have c3 := q1 _ _ (hfl 3 _ rfl); have e3x := q1' _ _ (hfl 3 _ rfl)
              simp only [Nat.add_zero, ← Nat.add_assoc] at c0 c1 c2 c3 e0x e1x e2x e3x
              injection e1 with e1 e9 e3; clear e9; injection e2 with e2 e9 e4; clear e9; subst e1; subst e2; subst e3; subst e4
              have htm := fun W => tm_same x W
              unfold tmFs at htm
              clear hra tb ta hfl q1 q1' hx x18 x6 x4 hc bb
              go_wp2_with fail
              go_quiet (fail)
              go_wp2_with fail
              go_roundw
              case rel => exact ⟨k + 1, _, by omega, by go_num, rfl⟩
              case measure => simp [intOf]; omega
            · go_wp2_with fail
              go_ret
              exact ⟨rfl, below_drewN bb _⟩
        · go_ret
          exact ⟨rfl, bb⟩
    · have q1 := hq
      have f1 := hf
      have HQ1 := Lib.hid q1; have HF1 := Lib.hid f1; clear q1 f1
      go_enter Tryd.func7, Tryd.ntmps7
      go_wp2_with (go_at_call 8; refine (HH.out).mono ?_; rintro e w1 ⟨rfl, bb⟩; clear HH)
      have HC := Lib.hid (fun (_ : Nat) => query_env s w1 (HENV.out.below bb) (by omega))
      go_wp2_with (go_at_call 20; refine (HC.out 0).mono ?_; rintro e w2 ⟨hbw2, aw2, ddw2, rfl, ta, hdw2⟩; rw [HQ1.out] at ta hdw2 ⊢; obtain ⟨aAw2, aCw2, rfl⟩ := ta.slice; obtain ⟨dAw2, dCw2, rfl⟩ := TRow.slice hdw2; simp only [liFs]; replace bb := bb.trans (hbw2.mono bb.size); clear HC)
      have hB4 : w.heap.size ≤ w2.heap.size := bb.size
      have x4 := At.new w2 58 (liFs (liZ : Ap.Li) (.slice aAw2 (Ap.Li.args (liZ : Ap.Li)).length aCw2)).toArray
      have hcw2b := below1 w2 (.cells (liFs (liZ : Ap.Li) (.slice aAw2 (Ap.Li.args (liZ : Ap.Li)).length aCw2)).toArray 58)
      simp only [liFs] at x4 hcw2b
      generalize hww2b : w2.alloc _ = w2b at x4 hcw2b ⊢
      replace ta := TRow.below ta hcw2b
      replace bb := bb.trans (hcw2b.mono bb.size)
      clear hww2b hcw2b hbw2 hdw2
      have HC := Lib.hid (fun (_ : Nat) => fact_env s w2b (HENV.out.below bb) (by omega))
      go_wp2_with (go_at_call 21; refine (HC.out 0).mono ?_; rintro e w3 ⟨hbw3, aw3, ddw3, rfl, tb, hdw3⟩; rw [HF1.out] at tb hdw3 ⊢; obtain ⟨aAw3, aCw3, rfl⟩ := tb.slice; obtain ⟨dAw3, dCw3, rfl⟩ := TRow.slice hdw3; simp only [liFs]; replace ta := TRow.below ta hbw3; replace x4 := x4.next hbw3; replace bb := bb.trans (hbw3.mono bb.size); have h46 : w2.heap.size < w3.heap.size := x4.lt; have p0 := x4.cell 0; have p1 := x4.cell 1; have p2 := x4.cell 2; have p3 := x4.cell 3; have p4 := x4.cell 4; have p5 := x4.cell 5; have p6 := x4.cell 6; have p7 := x4.cell 7; have p8 := x4.cell 8; simp only [List.getElem?_toArray, List.getElem?_cons_zero, List.getElem?_cons_succ] at p0 p1 p2 p3 p4 p5 p6 p7 p8; clear HC)
      have x6 := At.new w3 58 (liFs (liZ : Ap.Li) (.slice aAw3 (Ap.Li.args (liZ : Ap.Li)).length aCw3)).toArray
      have hcw3b := below1 w3 (.cells (liFs (liZ : Ap.Li) (.slice aAw3 (Ap.Li.args (liZ : Ap.Li)).length aCw3)).toArray 58)
      simp only [liFs] at x6 hcw3b
      generalize hww3b : w3.alloc _ = w3b at x6 hcw3b ⊢
      replace ta := TRow.below ta hcw3b
      replace x4 := x4.next hcw3b
      replace tb := TRow.below tb hcw3b
      replace bb := bb.trans (hcw3b.mono bb.size)
      clear hww3b hcw3b hbw3 hdw3
      clear p0 p1 p2 p3 p4 p5 p6 p7 p8
      have HSq := Lib.hid (li_same liZ (liFs liZ (.slice aAw2 0 aCw2)) (liFs liZ (.slice none 0 0)) w3b (by decide) ⟨_, rfl, ta⟩ ⟨_, rfl, TRow.nil _ _ _⟩)
      go_wp2_with (go_at_call 22; refine (HSq.out).mono ?_; rintro e w4 ⟨rfl, hb4⟩; replace ta := TRow.below ta hb4; replace x4 := x4.next hb4; replace tb := TRow.below tb hb4; replace x6 := x6.next hb4; replace bb := bb.trans (hb4.mono bb.size); clear HSq; have r0 := x6.cell 0; have r1 := x6.cell 1; have r2 := x6.cell 2; have r3 := x6.cell 3; have r4 := x6.cell 4; have r5 := x6.cell 5; have r6 := x6.cell 6; have r7 := x6.cell 7; have r8 := x6.cell 8; simp only [List.getElem?_toArray, List.getElem?_cons_zero, List.getElem?_cons_succ] at r0 r1 r2 r3 r4 r5 r6 r7 r8)
      have HSf := Lib.hid (li_same liZ (liFs liZ (.slice aAw3 0 aCw3)) (liFs liZ (.slice none 0 0)) w4 (by decide) ⟨_, rfl, tb⟩ ⟨_, rfl, TRow.nil _ _ _⟩)
      go_wp2_with (go_at_call 22; refine (HSf.out).mono ?_; rintro e w5 ⟨rfl, hb5⟩; replace ta := TRow.below ta hb5; replace x4 := x4.next hb5; replace tb := TRow.below tb hb5; replace x6 := x6.next hb5; replace bb := bb.trans (hb5.mono bb.size); clear HSf r0 r1 r2 r3 r4 r5 r6 r7 r8)
      · go_ret
        exact ⟨rfl, bb⟩
      · have er1h : ∃ er1, (Lx.lex (qText s.data.toList)).2.1 = er1 := ⟨_, rfl⟩
        have er2h : ∃ er2, (Lx.lex (fText s.data.toList)).2.1 = er2 := ⟨_, rfl⟩
        obtain ⟨er1, her1⟩ := er1h; obtain ⟨er2, her2⟩ := er2h
        have HE1 := Lib.hid her1; have HE2 := Lib.hid her2; clear her1 her2
        have HL := Lib.hid (fun (_ : Nat) => rlex_q (s := ((⟨#[104, 40, 41, 32, 58, 45, 10]⟩ : ByteArray) ++ s) ++ ⟨#[10, 46]⟩) w5 (Nat.le_trans HQS.out (by decide)))
        rw [HQD.out, HE1.out] at HL
        go_wp2_with (go_at_call 9; refine (HL.out 0).mono ?_; rintro e w6 ⟨LA1, ln1, lc1, lm1, rfl, hb6⟩; clear HL; replace ta := TRow.below ta hb6; replace x4 := x4.next hb6; replace tb := TRow.below tb hb6; replace x6 := x6.next hb6; replace bb := bb.trans (hb6.mono bb.size))
        have HL := Lib.hid (fun (_ : Nat) => rlex_q (s := s ++ (⟨#[10, 46]⟩ : ByteArray)) w6 (Nat.le_trans HFS.out (by decide)))
        rw [HFD.out, HE2.out] at HL
        go_wp2_with (go_at_call 9; refine (HL.out 0).mono ?_; rintro e w7 ⟨LA2, ln2, lc2, lm2, rfl, hb7⟩; clear HL; replace ta := TRow.below ta hb7; replace x4 := x4.next hb7; replace tb := TRow.below tb hb7; replace x6 := x6.next hb7; replace bb := bb.trans (hb7.mono bb.size))
        · go_ret
          exact ⟨rfl, bb⟩
  · have d1 : decide ((8980 : Int) < (s.size : Int)) = true := decide_eq_true (by omega)
    go_enter Tryd.func7, Tryd.ntmps7
    go_wp2_with (go_at_call 8; refine (HH.out).mono ?_; rintro e w1 ⟨rfl, b1⟩; clear HH)
    go_ret
    exact ⟨rfl, b1⟩
end parserQueries
end Go.Proofs.YtpcmlkpnjimbiaaDoor
