/- sched: a run: the walk. -/
import Derived.Test.YtkcjghdopmigoaaSP
import Derived.Deep.CutBlock
import Derived.Deep.CutRange
namespace Go.Proofs.Ytkcjghdopmigoaa.SC
open Go.RowKit Go.Proofs.YtkcjghdopmigoaaW.PrintWords
set_option linter.unusedVariables false
set_option linter.unusedSimpArgs false
set_option maxRecDepth 100000

abbrev nilS : Value := .slice none 0 0
def nilRun : Value := .agg #[.slice none 0 0, .slice none 0 0, .slice none 0 0, .int .i64 0]
def RunEnd (code : List (List I)) (cells picks : List Int) (w : World) (e : Ending) (w' : World) : Prop :=
  (okB code cells = false ∧ e = .returned (.tuple #[nilRun, .int .i64 50]) ∧ Below w.heap.size w w') ∨
  (okB code cells = true ∧ ∃ R s, loopW 0 (D0 code cells) picks = (R, s) ∧ ∃ g Ae ce As cs, e = .returned (.tuple #[.agg #[.slice (some ⟨g, 1, none⟩) 16 16, .slice Ae R.emits.length ce, .slice As R.ts.length cs, .int .i64 (s : Int)], .int .i64 0]) ∧
    Kd.C (Kd.int .i64) w' (some ⟨g, 1, none⟩) 16 R.cells ∧ R.emits.length ≤ ce ∧ Kd.C kE w' Ae R.emits.length R.emits ∧ R.ts.length ≤ cs ∧ Kd.C (Kd.int .i64) w' As R.ts.length (R.ts.map (stateW R)) ∧ Below w.heap.size w w')
def D1 (k : Nat) : Wd := ⟨[], List.replicate 16 0, List.replicate k (-1) ++ List.replicate (16 - k) 0, []⟩
theorem D1_set {k : Nat} (h : k < 16) : ((D1 k).has.set k (-1)) = (D1 (k + 1)).has := by
  unfold D1
  revert h k
  decide
theorem D1_len {k : Nat} (h : k ≤ 16) : (D1 k).has.length = 16 := by
  unfold D1; simp; omega
theorem St.frG {w0 w w1 : World} {g : Nat} {T : Nat → Nat} {cv : Nat → Value} {tv es : Value} {D : Wd} (h : St w0 w g T cv tv es D) {c hs : List Int} (hW : WB w1 g tv es c hs) (hf : Fr (fun b => b = g) w w1) : St w0 w1 g T cv tv es { D with cells := c, has := hs } := by
  have hm : ∀ {p t : Nat} {cl : Array Value} {f : Nat × Nat}, w.heap[p]? = some (Obj.cells cl t f) → t ≠ 44 → w1.heap[p]? = w.heap[p]? := fun hp ht => hf.block _ (Array.getElem?_eq_some_iff.1 hp).1 (ne_typed hp h.wb.1 ht)
  have hbel : Below w0.heap.size w0 w1 := h.bel.trans (hf.to_below h.bel.size (fun b e => by rw [e]; exact h.gb))
  refine ⟨hbel, hW, h.gb, own_move h.row (fun k hk => ?_), fun j t2 hj => ?_, h.cd, h.inj, own_move h.em (fun k hk => ?_)⟩
  · obtain ⟨cl, hcl⟩ := own_typed h.row k hk
    exact hm hcl (by decide)
  · obtain ⟨h3, h4⟩ := h.tb j t2 hj
    exact ⟨⟨(hm h3.1 (by decide)).trans h3.1, h3.2⟩, h4⟩
  · obtain ⟨cl, hcl⟩ := own_typed h.em k hk
    exact hm hcl (by decide)
set_option maxHeartbeats 16000000 in
theorem run_w (A : Option Addr) (c : Nat) (code : List (List I)) (B : Option Addr) (d : Nat) (cells : List Int) (P : Option Addr) (p : Nat) (picks : List Int) (w : World) (hA : Kd.C (Kd.slice 35 kI) w A code.length code) (hc : code.length ≤ c) (hB : Kd.C (Kd.int .i64) w B cells.length cells) (hd : cells.length ≤ d) (hP : Kd.C (Kd.int .i64) w P picks.length picks) (hp : picks.length ≤ p) (hE : ∀ k, (loopW 0 (D0 code cells) (picks.take k)).1.emits.length ≤ 100000000) (hpr : ∀ x ∈ picks, -9223372036854775808 ≤ x ∧ x < 9223372036854775808) :
    Calls Try.prog 10 #[.slice A code.length c, .slice B cells.length d, .slice P picks.length p] w (RunEnd code cells picks w) := by
  have HA := Lib.hid (And.intro hA hc)
  have HB := Lib.hid (And.intro hB hd)
  have HP := Lib.hid (And.intro hP hp)
  have HPR := Lib.hid hpr
  have HEM := Lib.hid hE
  have hpl : picks.length ≤ 9223372036854775807 := hP.2.1
  clear hA hc hB hd hP hp hpr hE
  obtain ⟨q, hq⟩ : ∃ q, w.heap.size = q := ⟨_, rfl⟩
  obtain ⟨W1, hW1⟩ : ∃ W1, w.alloc (.cells #[.slice none 0 0, .slice none 0 0, .slice none 0 0, .int .i64 0] 27) = W1 := ⟨_, rfl⟩
  have b1 : Below w.heap.size w W1 := by rw [← hW1]; exact (Below.refl _ w).alloc (Nat.le_refl _) _
  have q1 : RB W1 q nilS nilS nilS 0 := by rw [← hW1, ← hq]; exact heap_alloc_new w _
  have H1 := Lib.hid (And.intro b1 q1)
  have Hq := Lib.hid hq
  obtain ⟨x0, x1, x2, x3⟩ := q1.cells
  have f0 := q1.frozen 0
  have f1 := q1.frozen 1
  have f2 := q1.frozen 2
  have f3 := q1.frozen 3
  have HW1 := Lib.hid hW1
  clear b1 q1 hW1 hq
  go_enter Try.func10, Try.ntmps10
  by_cases h8 : 8 < code.length
  · have d0 : decide (8 < (code.length : Int)) = true := decide_eq_true (by omega)
    have d1 : decide (8 < code.length) = true := decide_eq_true h8
    have Ho := Lib.hid (show okB code cells = false from by unfold okB; rw [decide_eq_false (show ¬ code.length ≤ 8 by omega)]; rfl)
    go_wp2_with (first | (rw [HW1.out, Hq.out]))
    go_step3
    go_wp2_with (first | rw [HW1.out, Hq.out])
    rw [Exit.noGoto_ret]
    refine bodyPost_ret (results_ct rfl _ _ q 27 _ (0, 0) _ rfl H1.out.2.set4 Try.underlying27 rfl (by kernel_rfl)) rfl ?_
    exact .inl ⟨Ho.out, rfl, (((H1.out.1.setCell (by rw [Hq.out]; exact Nat.le_refl _) _).setCell (by rw [Hq.out]; exact Nat.le_refl _) _).setCell (by rw [Hq.out]; exact Nat.le_refl _) _).setCell (by rw [Hq.out]; exact Nat.le_refl _) _⟩
  have d0 : decide (8 < (code.length : Int)) = false := decide_eq_false (by omega)
  have d1 : decide (8 < code.length) = false := decide_eq_false h8
  by_cases h16 : 16 < cells.length
  · have d2 : decide (16 < (cells.length : Int)) = true := decide_eq_true (by omega)
    have d3 : decide (16 < cells.length) = true := decide_eq_true h16
    have Ho := Lib.hid (show okB code cells = false from by unfold okB; rw [decide_eq_false (show ¬ cells.length ≤ 16 by omega), Bool.and_false, Bool.false_and])
    go_wp2_with (first | rw [HW1.out, Hq.out])
    go_step3
    go_wp2_with (first | rw [HW1.out, Hq.out])
    rw [Exit.noGoto_ret]
    refine bodyPost_ret (results_ct rfl _ _ q 27 _ (0, 0) _ rfl H1.out.2.set4 Try.underlying27 rfl (by kernel_rfl)) rfl ?_
    exact .inl ⟨Ho.out, rfl, (((H1.out.1.setCell (by rw [Hq.out]; exact Nat.le_refl _) _).setCell (by rw [Hq.out]; exact Nat.le_refl _) _).setCell (by rw [Hq.out]; exact Nat.le_refl _) _).setCell (by rw [Hq.out]; exact Nat.le_refl _) _⟩
  have d2 : decide (16 < (cells.length : Int)) = false := decide_eq_false (by omega)
  have d3 : decide (16 < cells.length) = false := decide_eq_false h16
  go_wp2_with (first | rw [HW1.out, Hq.out])
  go_step3
  go_upto_block 0 with (first | rw [HW1.out, Hq.out])
  obtain ⟨g, hg⟩ : ∃ g, W1.heap.size = g := ⟨_, rfl⟩
  generalize hW2 : W1.alloc _ = W2
  rw [hg]
  have S0 : St w W2 g (fun _ => 0) (fun _ => nilS) nilS nilS (D1 0) := by
    rw [← hg, ← hW2]
    refine ⟨H1.out.1.alloc H1.out.1.size _, ⟨heap_alloc_new W1 _, rfl, rfl⟩, H1.out.1.size, World.ownsRow_nil _ _ _ _, fun i t h => by simp [D1] at h, fun i t h => by simp [D1] at h, fun i j h => by simp [D1] at h, World.ownsRow_nil _ _ _ _⟩
  have R0 : RB W2 q nilS nilS nilS 0 := H1.out.2.below (by rw [← hW2]; exact (Below.refl _ W1).alloc (Nat.le_refl _) _)
  have H2 := Lib.hid (And.intro S0 R0)
  clear S0 R0 hg hW2 d0 d1 d2 d3 x0 x1 x2 x3 f0 f1 f2 f3 HW1 H1
  go_cut [] from 9 (fun wc => Hid (St w wc g (fun _ => 0) (fun _ => nilS) nilS nilS (D1 16) ∧ RB wc q nilS nilS nilS 0))
  case first =>
    go_wp2_with fail
    go_loopw [33] (fun t wr => ∃ k : Nat, k ≤ 16 ∧ t = .int .i64 (k : Int) ∧ Hid (St w wr g (fun _ => 0) (fun _ => nilS) nilS nilS (D1 k) ∧ RB wr q nilS nilS nilS 0)) (fun t _ => 16 - (intOf t).toNat)
    case atStart => exact ⟨0, by omega, rfl, H2⟩
    case round =>
      obtain ⟨k, hk, rfl, HI⟩ := hrel
      by_cases hlt : k < 16
      · have p0 : (0 ≤ (k : Int)) = True := by simp
        have p1 : ((k : Int) < 16) = True := eq_true (by omega)
        have p2 : (k < 16) = True := eq_true hlt
        have p3 : decide ((k : Int) < 16) = true := decide_eq_true (by omega)
        have m1 : IntKind.i64.wrap ((k : Int) + 1) = (k : Int) + 1 := by rw [IntWalk.i64_in _ (by omega)]
        have cm := HI.out.1.wb.hasc hlt
        have fm := HI.out.1.wb.frozen (17 + k)
        go_wp2_with fail
        go_roundw
        case rel => exact ⟨k + 1, by omega, by simp, Lib.hid ⟨(by
          have h2 := HI.out.1.setG (HI.out.1.wb.setHas hlt (-1))
          rw [D1_set hlt] at h2
          exact h2), HI.out.2.other _ _ (ne_typed HI.out.2 HI.out.1.wb.1 (by decide))⟩⟩
        case measure => simp [intOf]; omega
      · obtain rfl : k = 16 := by omega
        have p3 : decide ((16 : Int) < 16) = false := rfl
        go_wp2_with fail
        go_meet
        case rel => exact HI
  case rest =>
    have H3 := hcut
    clear hcut H2
    obtain ⟨W3, hrun, hW3, hf3⟩ := copy_cells (ty := 3) (d := d) H3.out.1.wb (keepC HB.out.1 (Nat.le_refl _) H3.out.1.bel) (by omega)
    have H4 := Lib.hid (show St w W3 g (fun _ => 0) (fun _ => nilS) nilS nilS (D0 [] cells) ∧ RB W3 q nilS nilS nilS 0 from ⟨by
      have h2 := H3.out.1.frG hW3 hf3
      have e : (D1 16).cells.drop cells.length = List.replicate (16 - cells.length) 0 := by
        show List.drop _ (List.replicate 16 0) = _
        rw [List.drop_replicate]
      rw [e] at h2
      exact h2, H3.out.2.fr hf3 (ne_typed H3.out.2 H3.out.1.wb.1 (by decide))⟩)
    clear hW3 hf3
    go_upto_block 2 with (refine wpList_copy_run _ rfl (.tmp 45) (.tmp 46) 24 rfl _ _ _ _ rfl rfl hrun ?_)
    clear hrun H3
    go_cut [] from 9 (fun wc => ∃ T cv tv, Hid (okB code cells = true ∧ St w wc g T cv tv nilS (D0 code cells) ∧ RB wc q nilS nilS nilS 0))
    case first =>
      go_wp2_with fail
      go_loopw [50] (fun t wr => ∃ (i : Nat) (T : Nat → Nat) (cv : Nat → Value) (tv : Value), i ≤ code.length ∧ t = .int .i64 (i : Int) ∧ Hid (St w wr g T cv tv nilS (D0 (code.take i) cells) ∧ RB wr q nilS nilS nilS 0 ∧ (code.take i).all codeB = true)) (fun t _ => code.length - (intOf t).toNat)
      case atStart => exact ⟨0, _, _, _, by omega, rfl, Lib.hid ⟨H4.out.1, H4.out.2, rfl⟩⟩
      case round =>
        obtain ⟨i, T, cv, tv, hi, rfl, HI⟩ := hrel
        by_cases hlt : i < code.length
        · obtain ⟨ad, A0, c0, e0, g0, g1, g2⟩ := at_code (keepC HA.out.1 (Nat.le_refl _) HI.out.1.bel) hlt
          have g3 : kI.C w A0 (code.getD i []).length (code.getD i []) := by
            obtain ⟨ad', A0', c0', e0', g0', g1', g2'⟩ := at_code HA.out.1 hlt
            rw [e0] at e0'
            injection e0' with e0'
            subst e0'
            have hb := HI.out.1.bel.cell (World.block_lt_of_cell? w _ g0')
            rw [g0, g0'] at hb
            injection hb with hb
            injection hb with hb1 hb2 hb3
            rw [hb1]
            exact g2'
          subst e0
          obtain ⟨l, hl⟩ : ∃ l, code.getD i [] = l := ⟨_, rfl⟩
          rw [hl] at g0 g1 g2 g3
          have Hl := Lib.hid hl
          have hmem : l ∈ code := by
            rw [← hl, List.getD_eq_getElem?_getD, List.getElem?_eq_getElem hlt]
            exact List.getElem_mem hlt
          have htk : code.take (i + 1) = code.take i ++ [l] := by
            rw [List.take_add_one, List.getElem?_eq_getElem hlt, ← hl, List.getD_eq_getElem?_getD, List.getElem?_eq_getElem hlt]
            rfl
          have HL := Lib.hid (And.intro hmem htk)
          have HG := Lib.hid (And.intro g1 (And.intro g2 g3))
          have p0 : (0 ≤ (i : Int)) = True := by simp
          have p1 : ((i : Int) < code.length) = True := eq_true (by omega)
          have p2 : (i < code.length) = True := eq_true hlt
          have p3 : decide ((i : Int) < (code.length : Int)) = true := decide_eq_true (by omega)
          have m1 : IntKind.i64.wrap ((i : Int) + 1) = (i : Int) + 1 := by rw [IntWalk.i64_in _ (by omega)]
          clear hl hmem htk g1 g2 g3
          go_upto_region 13 with (fail)
          obtain ⟨n5, hn5⟩ : ∃ n5, wr.heap.size = n5 := ⟨_, rfl⟩
          obtain ⟨W5, hW5⟩ : ∃ W5, wr.alloc (.cells #[.slice A0 l.length c0] 36) = W5 := ⟨_, rfl⟩
          have b5 : Below wr.heap.size wr W5 := by rw [← hW5]; exact (Below.refl _ wr).alloc (Nat.le_refl _) _
          have k5 : W5.cell? ⟨n5, 0, none⟩ = some (.slice A0 l.length c0) := by rw [← hW5, ← hn5]; exact cell_top rfl rfl
          rw [hW5, hn5]
          have S5 := HI.out.1.below b5
          have R5 := HI.out.2.1.below b5
          have H5 := Lib.hid (And.intro S5 (And.intro R5 (And.intro b5 k5)))
          have C5 := keepC HG.out.2.1 (Nat.le_refl _) b5
          clear S5 R5 b5 hW5 hn5 g0
          have bad : codeB l = false → ∀ W6, Below W5.heap.size W5 W6 → ∀ w7, w7 = ((((W6.setCell ⟨q, 0, none⟩ nilS).setCell ⟨q, 1, none⟩ nilS).setCell ⟨q, 2, none⟩ nilS).setCell ⟨q, 3, none⟩ (.int .i64 0)) → okB code cells = false ∧ RB w7 q nilS nilS nilS 0 ∧ Below w.heap.size w w7 := fun hb W6 h6 w7 e => by
            subst e
            refine ⟨?_, (H5.out.2.1.below h6).set4, ?_⟩
            · unfold okB
              rw [show code.all codeB = false from by
                rw [List.all_eq_false]
                exact ⟨l, HL.out.1, by rw [hb]; simp⟩, Bool.and_false]
            · have hl : w.heap.size ≤ q := by rw [Hq.out]; exact Nat.le_refl _
              exact ((((H5.out.1.bel.trans (h6.mono H5.out.1.bel.size)).setCell hl _).setCell hl _).setCell hl _).setCell hl _
          have HBad := Lib.hid bad
          clear bad
          have rcells : ∀ W6, Below W5.heap.size W5 W6 → (W6.cell? ⟨q, 0, none⟩ = some nilS ∧ W6.cell? ⟨q, 1, none⟩ = some nilS ∧ W6.cell? ⟨q, 2, none⟩ = some nilS ∧ W6.cell? ⟨q, 3, none⟩ = some (.int .i64 0)) ∧ ∀ k, W6.frozen? ⟨q, k, none⟩ = false := fun W6 h6 => ⟨(H5.out.2.1.below h6).cells, (H5.out.2.1.below h6).frozen⟩
          have HRc := Lib.hid rcells
          clear rcells
          by_cases h64 : 64 < l.length
          · have d0 : decide (64 < (l.length : Int)) = true := decide_eq_true (by omega)
            have d1 : decide (64 < l.length) = true := decide_eq_true h64
            have Hb := Lib.hid (show codeB l = false from by unfold codeB; rw [decide_eq_false (show ¬ l.length ≤ 64 by omega)]; rfl)
            obtain ⟨⟨x0, x1, x2, x3⟩, f⟩ := HRc.out W5 (Below.refl _ _)
            have f0 := f 0
            have f1 := f 1
            have f2 := f 2
            have f3 := f 3
            clear f
            go_wp2_with fail
            rw [Exit.noGoto_ret]
            obtain ⟨o1, o2, o3⟩ := HBad.out Hb.out W5 (Below.refl _ _) _ rfl
            refine bodyPost_ret (results_ct rfl _ _ q 27 _ (0, 0) _ rfl o2 Try.underlying27 rfl (by kernel_rfl)) rfl ?_
            exact .inl ⟨o1, rfl, o3⟩
          · have d0 : decide (64 < (l.length : Int)) = false := decide_eq_false (by omega)
            have d1 : decide (64 < l.length) = false := decide_eq_false h64
            have HC := Lib.hid (any_w A0 c0 l A0 c0 l.length n5 W5 C5 k5 (by omega) (by omega))
            clear C5
            go_wp2_with fail
            refine HC.out.mono ?_
            rintro e W6 ⟨rfl, b6⟩
            obtain ⟨an, han⟩ : ∃ an, l.any (fun x => !goodB x l.length) = an := ⟨_, rfl⟩
            have Han := Lib.hid (And.intro han b6)
            rw [han]
            clear han b6 HC k5
            cases an
            · have Hcb := Lib.hid (show codeB l = true from by
                unfold codeB
                rw [decide_eq_true (show l.length ≤ 64 by omega), Bool.true_and]
                have h1 := Han.out.1
                rw [List.any_eq_false] at h1
                rw [List.all_eq_true]
                intro x hx
                have h2 := h1 x hx
                simpa using h2)
              have k6 := cell_up' H5.out.2.2.2 Han.out.2
              have f6 : W6.frozen? ⟨n5, 0, none⟩ = W6.frozen? ⟨n5, 0, none⟩ := rfl
              clear f6
              obtain ⟨n7, hn7⟩ : ∃ n7, W6.heap.size = n7 := ⟨_, rfl⟩
              obtain ⟨W7, hW7⟩ : ∃ W7, W6.alloc (.cells #[.slice A0 l.length c0, .int .i64 0, .int .i64 0, .int .i64 0, .int .i64 0, .int .i64 0, .bool false, .bool false, .int .i64 (-1), .int .i64 (-1)] 51) = W7 := ⟨_, rfl⟩
              have b7 : Below W6.heap.size W6 W7 := by rw [← hW7]; exact (Below.refl _ W6).alloc (Nat.le_refl _) _
              have t7 : TB W7 n7 (mk0 l) (.slice A0 (mk0 l).code.length c0) := ⟨by rw [← hW7, ← hn7]; exact heap_alloc_new W6 _, rfl⟩
              have H7 := Lib.hid (And.intro b7 (And.intro t7 hn7))
              have HW7 := Lib.hid hW7
              have HC := Lib.hid (ends_w n7 (mk0 l) A0 c0 W7 t7)
              clear b7 t7 hW7 hn7
              go_wp2_with (first | rw [HW7.out, H7.out.2.2])
              refine HC.out.mono ?_
              rintro e W8 ⟨rfl, t8, v8, e8⟩
              have b8 : Below W6.heap.size W6 W8 := by
                rw [e8]
                exact (H7.out.1.drew).setCell (by rw [H7.out.2.2]; exact Nat.le_refl _) _
              have b85 := Han.out.2.trans (b8.mono Han.out.2.size)
              have bR := H5.out.2.2.1.trans (b85.mono H5.out.2.2.1.size)
              obtain ⟨A', cap, w3, hrun, y1, y2, S9, R9⟩ := HI.out.1.push bR (b := n7) (t := mkT l) t8 (by have h1 := H5.out.2.2.1.size; have h2 := Han.out.2.size; have h3 := H7.out.2.2; omega) HG.out.1 HG.out.2.2 (by show ((code.take i).map mkT).length ≤ 100; simp; omega)
              have yt := ((HI.out.1.below bR).wb).cells.1
              have H9 := Lib.hid (And.intro S9 R9)
              clear S9 R9 bR b85 b8 e8 t8 HC
              go_wp2_with (at_builtin; refine wpList_append_run _ rfl (.tmp 72) (.tmp 74) 41 rfl _ _ _ _ rfl rfl hrun ?_; clear hrun)
              have h2 := H9.out.1
              have e : D0 (code.take (i + 1)) cells = { D0 (code.take i) cells with ts := (D0 (code.take i) cells).ts ++ [mkT l] } := by
                rw [HL.out.2]
                unfold D0
                rw [List.map_append]
                rfl
              rw [← e] at h2
              have h3 : (code.take (i + 1)).all codeB = true := by
                rw [HL.out.2, List.all_append, HI.out.2.2]
                simp [Hcb.out]
              exact ⟨⟨i + 1, _, _, _, by omega, by simp, Lib.hid ⟨h2, H9.out.2 _ _ _ _ _ HI.out.2.1, h3⟩⟩, by simp [intOf]; omega⟩
            · have Hcb := Lib.hid (show codeB l = false from by
                unfold codeB
                have h1 := Han.out.1
                rw [List.any_eq_true] at h1
                obtain ⟨x, hx, hg⟩ := h1
                have h2 : l.all (fun x => goodB x l.length) = false := by
                  rw [List.all_eq_false]
                  exact ⟨x, hx, by simpa using hg⟩
                rw [h2, Bool.and_false])
              obtain ⟨⟨x0, x1, x2, x3⟩, f⟩ := HRc.out W6 Han.out.2
              have f0 := f 0
              have f1 := f 1
              have f2 := f 2
              have f3 := f 3
              clear f
              go_wp2_with fail
              rw [Exit.noGoto_ret]
              obtain ⟨o1, o2, o3⟩ := HBad.out Hcb.out W6 Han.out.2 _ rfl
              refine bodyPost_ret (results_ct rfl _ _ q 27 _ (0, 0) _ rfl o2 Try.underlying27 rfl (by kernel_rfl)) rfl ?_
              exact .inl ⟨o1, rfl, o3⟩
        · obtain rfl : i = code.length := by omega
          have p3 : decide ((code.length : Int) < (code.length : Int)) = false := decide_eq_false (by omega)
          go_wp2_with fail
          go_meet
          case rel =>
            refine ⟨T, cv, tv, Lib.hid ⟨?_, ?_, HI.out.2.1⟩⟩
            · have h3 := HI.out.2.2
              rw [List.take_length] at h3
              unfold okB
              rw [h3, decide_eq_true (show code.length ≤ 8 by omega), decide_eq_true (show cells.length ≤ 16 by omega)]
              rfl
            · have h3 := HI.out.1
              rw [List.take_length] at h3
              exact h3
    case rest =>
      obtain ⟨T, cv, tv, H5⟩ := hcut
      clear H4
      have Hok := Lib.hid H5.out.1
      have H6 := Lib.hid H5.out.2
      clear H5
      obtain ⟨E0, hE0⟩ : ∃ E0, D0 code cells = E0 := ⟨_, rfl⟩
      have HE0 := Lib.hid hE0
      have HD0 := Lib.hid (hE0 ▸ D0_ok Hok.out)
      have hem0 : E0.emits = [] := by rw [← hE0]; rfl
      have Hem0 := Lib.hid hem0
      rw [hE0] at H6
      clear hE0 hem0
      obtain ⟨n, hn⟩ : ∃ n, E0.ts.length = n := ⟨_, rfl⟩
      have hn8 : n ≤ 8 := by have := HD0.out.n; omega
      obtain ⟨TA, tc, htv⟩ := own_form' H6.out.1.row
      rw [hn] at htv
      subst htv
      have Hn := Lib.hid hn
      obtain ⟨o, ho⟩ : ∃ o, wc.heap.size = o := ⟨_, rfl⟩
      obtain ⟨W5, hW5⟩ : ∃ W5, wc.alloc (.cells #[.slice none 0 0, .slice none 0 0, .slice none 0 0, .int .i64 0] 27) = W5 := ⟨_, rfl⟩
      have b5 : Below wc.heap.size wc W5 := by rw [← hW5]; exact (Below.refl _ wc).alloc (Nat.le_refl _) _
      have r5 : RB W5 o nilS nilS nilS 0 := by rw [← hW5, ← ho]; exact heap_alloc_new wc _
      have H7 := Lib.hid (And.intro (H6.out.1.below b5) (And.intro (H6.out.2.below b5) r5))
      have Ho := Lib.hid (show w.heap.size ≤ o ∧ q < o from ⟨by have := H6.out.1.bel.size; omega, by have := H6.out.2.lt; omega⟩)
      have HW5 := Lib.hid (And.intro hW5 ho)
      obtain ⟨x0, x1, x2, x3⟩ := r5.cells
      have f0 := r5.frozen 0
      have f1 := r5.frozen 1
      have f2 := r5.frozen 2
      have f3 := r5.frozen 3
      clear b5 r5 hW5 ho H6 hn
      go_wp2_with (first | rw [HW5.out.1, HW5.out.2])
      go_step3
      go_upto_block 4 with (first | rw [HW5.out.1, HW5.out.2])
      generalize hW6 : World.setCell (World.setCell (World.setCell (World.setCell W5 _ _) _ _) _ _) _ _ = W6
      have H8 := Lib.hid (show St w W6 g T cv (.slice TA n tc) nilS E0 ∧ RB W6 q nilS nilS nilS 0 ∧ RB W6 o nilS nilS nilS 0 from by
        rw [← hW6]
        have a0 := H7.out.2.2
        have a1 := a0.set0 nilS
        have a2 := a1.set1 nilS
        have a3 := a2.set2 nilS
        have ne : q ≠ o := by have := Ho.out.2; omega
        exact ⟨(((H7.out.1.off a0 Ho.out.1 0 _).off a1 Ho.out.1 1 _).off a2 Ho.out.1 2 _).off a3 Ho.out.1 3 _, (((H7.out.2.1.other _ _ ne).other _ _ ne).other _ _ ne).other _ _ ne, a3.set3 0⟩)
      clear hW6 x0 x1 x2 x3 f0 f1 f2 f3 HW5 H7
      go_cut [] from 14 (fun wc => ∃ R s es, Hid (loopW 0 E0 picks = (R, s) ∧ St w wc g T cv (.slice TA n tc) es R ∧ DOk R ∧ R.ts.length = n ∧ RB wc q nilS nilS nilS 0 ∧ RB wc o nilS nilS nilS (s : Int)))
      case first =>
        go_wp2_with fail
        go_loopw [82] (fun t wr => ∃ (i s : Nat) (D : Wd) (es : Value), i ≤ picks.length ∧ t = .int .i64 (i : Int) ∧ s ≤ i ∧ Hid (loopW 0 E0 (picks.take i) = (D, s) ∧ DOk D ∧ D.ts.length = n ∧ St w wr g T cv (.slice TA n tc) es D ∧ RB wr q nilS nilS nilS 0 ∧ RB wr o nilS nilS nilS (s : Int))) (fun t _ => picks.length - (intOf t).toNat)
        case atStart => exact ⟨0, 0, E0, nilS, by omega, rfl, by omega, Lib.hid ⟨rfl, HD0.out, Hn.out, H8.out⟩⟩
        case round =>
          obtain ⟨i, s, D, es, hi, rfl, hs, HI⟩ := hrel
          rename World => wr
          by_cases hlt : i < picks.length
          · obtain ⟨pa, e0, g0⟩ := at_int (keepC HP.out.1 (Nat.le_refl _) HI.out.2.2.2.1.bel) hlt
            subst e0
            obtain ⟨pk, hpk⟩ : ∃ pk, picks.getD i 0 = pk := ⟨_, rfl⟩
            rw [hpk] at g0
            have hdr : picks.drop i = pk :: picks.drop (i + 1) := by
              rw [List.drop_eq_getElem_cons hlt, ← hpk, List.getD_eq_getElem?_getD, List.getElem?_eq_getElem hlt]
              rfl
            have hpr : -9223372036854775808 ≤ pk ∧ pk < 9223372036854775808 := by
              refine HPR.out pk ?_
              rw [← hpk, List.getD_eq_getElem?_getD, List.getElem?_eq_getElem hlt]
              exact List.getElem_mem hlt
            have Hdr := Lib.hid hdr
            have tvc := HI.out.2.2.2.1.wb.cells.1
            have p0 : (0 ≤ (i : Int)) = True := by simp
            have p1 : ((i : Int) < picks.length) = True := eq_true (by omega)
            have p2 : (i < picks.length) = True := eq_true hlt
            have p3 : decide ((i : Int) < (picks.length : Int)) = true := decide_eq_true (by omega)
            have m1 : IntKind.i64.wrap ((i : Int) + 1) = (i : Int) + 1 := by rw [IntWalk.i64_in _ (by omega)]
            clear hpk hdr
            go_upto_block 6 with (fail)
            go_cut [16] from 84 to 133 (fun v wi => Hid (wi.ownsRow wr.heap.size 3 1 v (ableZ D n).length (nums (ableZ D n)) ∧ Below wr.heap.size wr wi))
            case first =>
              go_wp2_with fail
              go_loopw [16, 91] (fun v t wi => ∃ k : Nat, k ≤ n ∧ t = .int .i64 (k : Int) ∧ Hid (wi.ownsRow wr.heap.size 3 1 v (ableZ D k).length (nums (ableZ D k)) ∧ Below wr.heap.size wr wi)) (fun _ t _ => n - (intOf t).toNat)
              case atStart => exact ⟨0, by omega, rfl, Lib.hid ⟨World.ownsRow_nil _ _ _ _, Below.refl _ _⟩⟩
              case round =>
                rename World => wi
                obtain ⟨k, hk, rfl, HJ⟩ := hrel
                have m2 : IntKind.i64.wrap ((k : Int) + 1) = (k : Int) + 1 := by rw [IntWalk.i64_in _ (by omega)]
                by_cases hkn : k < n
                · obtain ⟨t, ht⟩ : ∃ t, D.ts[k]? = some t := ⟨_, List.getElem?_eq_getElem (by rw [HI.out.2.2.1]; exact hkn)⟩
                  have Si := HI.out.2.2.2.1.below HJ.out.2
                  obtain ⟨qt, eTA, hrow⟩ := Si.rowAt HI.out.2.2.1 (by omega)
                  have c0 := hrow k hkn
                  subst eTA
                  have HC := Lib.hid (can_at Si ht (HI.out.2.1.t k t ht))
                  have Ht := Lib.hid ht
                  have r0 : (0 ≤ (k : Int)) = True := by simp
                  have r1 : ((k : Int) < n) = True := eq_true (by omega)
                  have r2 : (k < n) = True := eq_true hkn
                  have r3 : decide ((k : Int) < (n : Int)) = true := decide_eq_true (by omega)
                  clear Si hrow ht p0 p1 p2 p3 m1 g0 tvc
                  go_wp2_with fail
                  refine HC.out.mono ?_
                  rintro e w2 ⟨rfl, b⟩
                  obtain ⟨cw, hcw⟩ : ∃ cw, canW D t = cw := ⟨_, rfl⟩
                  have Hcw := Lib.hid (show canI D k = cw from by rw [canI_at Ht.out, hcw])
                  have Hb := Lib.hid b
                  rw [hcw]
                  clear b hcw HC c0
                  cases cw
                  · go_wp2_with fail
                    refine ⟨⟨k + 1, by omega, by simp, Lib.hid ⟨?_, HJ.out.2.trans (Hb.out.mono HJ.out.2.size)⟩⟩, by simp [intOf]; omega⟩
                    rw [ableZ_succ, if_neg (by rw [Hcw.out]; simp), List.append_nil]
                    exact own_move HJ.out.1 (fun b hb => Hb.out.block b (own_lt HJ.out.1 b hb))
                  · have o2 : w2.ownsRow wr.heap.size 3 1 u16 (ableZ D k).length (nums (ableZ D k)) := own_move HJ.out.1 (fun b hb => Hb.out.block b (own_lt HJ.out.1 b hb))
                    have b2 := HJ.out.2.trans (Hb.out.mono HJ.out.2.size)
                    obtain ⟨v1, w3, hrun, hown, hg3, _⟩ := run_appendI (W := w2.alloc (.cells #[.int .i64 (k : Int)] 3)) (B := ⟨w2.heap.size, 0, none⟩) (x := (k : Int)) (o2.alloc _) (cell_top rfl rfl) (by have := ableZ_le D k; omega) (by have := b2.size; simp; omega)
                    have b3 : Below wr.heap.size wr w3 := (b2.alloc b2.size _).grown hg3 (by have := b2.size; simp; omega) (fun k hk => own_base o2 k hk)
                    have H3 := Lib.hid (And.intro hown b3)
                    clear hown b3 hg3 o2 b2
                    go_wp2_with (at_builtin; refine wpList_append_run _ rfl (.tmp 99) (.tmp 101) 24 rfl _ _ _ _ rfl rfl hrun ?_; clear hrun)
                    refine ⟨⟨k + 1, by omega, by simp, Lib.hid ⟨?_, H3.out.2⟩⟩, by simp [intOf]; omega⟩
                    rw [ableZ_succ, if_pos Hcw.out]
                    exact H3.out.1
                · obtain rfl : k = n := by omega
                  have r3 : decide ((k : Int) < (k : Int)) = false := decide_eq_false (by omega)
                  clear p0 p1 p2 p3 m1 g0 tvc
                  go_wp2_with fail
                  go_meet
                  case rel => exact HJ
            case rest =>
              rename World => wi
              clear tvc g0
              have HT := hcut
              clear hcut
              obtain ⟨RA, rc, hv⟩ := own_form' HT.out.1
              obtain ⟨m, hm⟩ : ∃ m, (ableZ D n).length = m := ⟨_, rfl⟩
              have Hm := Lib.hid (And.intro hm (show (ableL D).length = m from by
                rw [← hm, ← HI.out.2.2.1, ableZ_all, List.length_map]))
              rw [hm] at hv
              subst hv
              have hm8 : m ≤ 8 := by rw [← hm]; have := ableZ_le D n; omega
              clear hm
              by_cases hm0 : m = 0
              · subst hm0
                go_wp2_with fail
                go_meet
                case rel =>
                  refine ⟨D, s, es, Lib.hid ⟨?_, HI.out.2.2.2.1.below HT.out.2, HI.out.2.1, HI.out.2.2.1, HI.out.2.2.2.2.1.below HT.out.2, HI.out.2.2.2.2.2.below HT.out.2⟩⟩
                  rw [← List.take_append_drop i picks, loopW_app, HI.out.1]
                  exact loopW_stop (List.eq_nil_of_length_eq_zero Hm.out.2)
              · have d0 : ((m : Int) == 0) = false := by simpa using hm0
                go_upto_if 108 with (fail)
                go_cut [15] from 84 to 133 (fun v wx => v = .int .i64 (absP pk) ∧ wx = wi)
                case first =>
                  by_cases hpn : pk < 0
                  · have d1 : decide (pk < 0) = true := decide_eq_true hpn
                    have d2 : absP pk = -pk - 1 := if_pos hpn
                    go_wp2_with fail
                    go_meet
                    case rel =>
                      refine ⟨?_, rfl⟩
                      rw [d2, xor_neg hpr.1 hpn]
                  · have d1 : decide (pk < 0) = false := decide_eq_false hpn
                    have d2 : absP pk = pk := if_neg hpn
                    go_wp2_with fail
                    go_meet
                    case rel => exact ⟨by rw [d2], rfl⟩
                case rest =>
                  obtain ⟨hz, hw⟩ := hcut
                  subst hz
                  subst hw
                  obtain ⟨j, hj⟩ : ∃ j, pickN pk m = j := ⟨_, rfl⟩
                  obtain ⟨hjm, hjt⟩ := pickN_lt (p := pk) (n := m) (by omega)
                  rw [hj] at hjm hjt
                  replace hjt := hjt.symm
                  obtain ⟨i1, t1, a1, a2, a3, a4⟩ := able_at (D := D) (j := j) (by rw [Hm.out.2]; exact hjm)
                  have HTn := Lib.hid (And.intro hj (And.intro a1 (And.intro a2 (And.intro a3 a4))))
                  have hi1 : i1 < n := by rw [← HI.out.2.2.1]; exact a4
                  have hgz : (ableZ D n).getD j 0 = (i1 : Int) := by
                    rw [← HI.out.2.2.1, ableZ_all, ← a1, List.getD_eq_getElem?_getD, List.getD_eq_getElem?_getD, List.getElem?_map, List.getElem?_eq_getElem (by rw [Hm.out.2]; exact hjm)]
                    rfl
                  have hcel : ∃ ra, RA = some ra ∧ wc.cell? (ra.add j) = some (.int .i64 (i1 : Int)) := by
                    have hO := HT.out.1
                    rw [Hm.out.1] at hO
                    rcases hO.2 with ⟨_, h0⟩ | ⟨qb, cap, cur, e, hb, hh, h1, h2, h3, h4⟩
                    · omega
                    · injection e with e1 e2 e3
                      refine ⟨_, e1, ?_⟩
                      have hz : (nums (ableZ D n))[j]? = some (.int .i64 (i1 : Int)) := by
                        unfold nums
                        rw [List.getElem?_map]
                        have hl : j < (ableZ D n).length := by rw [Hm.out.1]; exact hjm
                        rw [List.getD_eq_getElem?_getD, List.getElem?_eq_getElem hl] at hgz
                        rw [List.getElem?_eq_getElem hl]
                        have hgz : (ableZ D n)[j] = (i1 : Int) := hgz
                        rw [Option.map_some, hgz]
                      rw [← h4, List.getElem?_take] at hz
                      split at hz
                      · have ea : (Addr.mk qb 0 none).add j = ⟨qb, j, none⟩ := by
                          unfold Addr.add
                          by_cases hj0 : j = 0
                          · subst hj0; rfl
                          · simp [hj0]
                        rw [ea]
                        simp [World.cell?, hh]
                        simpa using hz
                      · cases hz
                  obtain ⟨ra, eRA, hcel⟩ := hcel
                  subst eRA
                  have q0 : (0 ≤ (j : Int)) = True := by simp
                  have q1 : ((j : Int) < m) = True := eq_true (by omega)
                  have q2 : (j < m) = True := eq_true hjm
                  have S1 := HI.out.2.2.2.1.below HT.out.2
                  have HC := Lib.hid (step_w S1 a2 (HI.out.2.1.t i1 t1 a2) a3 (by have := HI.out.2.2.1; omega) (by have h1 := HEM.out i; rw [HE0.out, HI.out.1] at h1; exact h1))
                  clear hj a1 a2 a3 a4 hgz S1
                  go_wp2_with fail
                  refine HC.out.mono ?_
                  rintro e w4 ⟨rfl, es', S4, F4, _⟩
                  obtain ⟨hj, a1, a2, a3, a4⟩ := HTn.out
                  have hlen4 := (turn_len HI.out.2.1 a2 a3).trans HI.out.2.2.1
                  have Q1 := HI.out.2.2.2.2.1.below HT.out.2
                  have O1 := HI.out.2.2.2.2.2.below HT.out.2
                  have S1 := HI.out.2.2.2.1.below HT.out.2
                  have Q4 := Q1.fr F4 (Q1.own S1)
                  have O4 := O1.fr F4 (O1.own S1)
                  obtain ⟨t4, ht4⟩ : ∃ t4, (stepW D i1 t1).ts[i1]? = some t4 := ⟨_, List.getElem?_eq_getElem (by rw [hlen4]; exact hi1)⟩
                  obtain ⟨qt, eTA, hrow⟩ := S4.rowAt hlen4 (by omega)
                  have c0 := hrow i1 hi1
                  subst eTA
                  have tvc := S4.wb.cells.1
                  have r0 : (0 ≤ (i1 : Int)) = True := by simp
                  have r1 : ((i1 : Int) < n) = True := eq_true (by omega)
                  have r2 : (i1 < n) = True := eq_true hi1
                  have HE := Lib.hid (ends_at S4 ht4)
                  have H4 := Lib.hid (And.intro S4 (And.intro Q4 (And.intro O4 hlen4)))
                  clear hj a1 a2 a3 a4 hlen4 Q1 O1 S1 S4 F4 Q4 O4 ht4 hrow HC hcel hjt q0 q1 q2
                  go_wp2_with fail
                  refine HE.out.mono ?_
                  rintro e w5 ⟨rfl, S5, F5⟩
                  have Q5 := H4.out.2.1.fr F5 (H4.out.2.1.own H4.out.1)
                  have O5 := H4.out.2.2.1.fr F5 (H4.out.2.2.1.own H4.out.1)
                  have x3 := O5.cells.2.2.2
                  have f3 := O5.frozen 3
                  have m3 : IntKind.i64.wrap ((s : Int) + 1) = (s : Int) + 1 := by rw [IntWalk.i64_in _ (by omega)]
                  have H5 := Lib.hid (And.intro S5 (And.intro Q5 O5))
                  clear S5 F5 Q5 O5 HE tvc c0 r0 r1 r2
                  go_wp2_with fail
                  obtain ⟨hj, a1, a2, a3, a4⟩ := HTn.out
                  have hw : loopW 0 E0 (picks.take (i + 1)) = (endD (stepW D i1 t1) i1, s + 1) := by
                    have htk : picks.take (i + 1) = picks.take i ++ [pk] := by
                      rw [List.take_add_one]
                      have h1 := congrArg List.head? Hdr.out
                      rw [List.head?_drop] at h1
                      rw [h1]
                      rfl
                    rw [htk, loopW_app, HI.out.1]
                    show loopW s D [pk] = _
                    rw [loopW_go (fun h => hm0 (by rw [← Hm.out.2, h]; rfl)), turnW_eq (m := i1) (t := t1) (by rw [Hm.out.2, hj]; exact a1) a2]
                    rfl
                  have ne : q ≠ o := by have := Ho.out.2; omega
                  refine ⟨⟨i + 1, s + 1, endD (stepW D i1 t1) i1, es', by omega, by simp, by omega, Lib.hid ⟨hw, go_ok HI.out.2.1 a2 a3, (endD_len _ _).trans H4.out.2.2.2, H5.out.1.off H5.out.2.2 Ho.out.1 3 _, H5.out.2.1.other _ _ ne, ?_⟩⟩, by simp [intOf]; omega⟩
                  have h3 := H5.out.2.2.set3 ((s : Int) + 1)
                  exact h3
          · obtain rfl : i = picks.length := by omega
            have p3 : decide ((picks.length : Int) < (picks.length : Int)) = false := decide_eq_false (by omega)
            go_wp2_with fail
            go_meet
            case rel =>
              refine ⟨D, s, es, Lib.hid ⟨?_, HI.out.2.2.2.1, HI.out.2.1, HI.out.2.2.1, HI.out.2.2.2.2⟩⟩
              have h1 := HI.out.1
              rw [List.take_length] at h1
              exact h1
      case rest =>
        obtain ⟨R, s, es, HF⟩ := hcut
        rename World => wf
        clear H8
        obtain ⟨EA, ec, hes⟩ := own_form' HF.out.2.1.em
        obtain ⟨ne, hne⟩ : ∃ ne, R.emits.length = ne := ⟨_, rfl⟩
        have Hne := Lib.hid hne
        rw [hne] at hes
        subst hes
        have tvc := HF.out.2.1.wb.cells.1
        have esc := HF.out.2.1.wb.cells.2
        have f0 := HF.out.2.2.2.2.2.frozen 0
        have f1 := HF.out.2.2.2.2.2.frozen 1
        have f2 := HF.out.2.2.2.2.2.frozen 2
        obtain ⟨x0, x1, x2, x3⟩ := HF.out.2.2.2.2.2.cells
        clear hne
        go_upto_region 38 with (fail)
        go_region
        generalize hWg : (World.setCell (World.setCell wf _ _) _ _).drew = Wg
        have hq0 := HF.out.2.2.2.2.2
        have HG := Lib.hid (show St w Wg g T cv (.slice TA n tc) (.slice EA ne ec) R ∧ RB Wg q nilS nilS nilS 0 ∧ RB Wg o (.slice (some ⟨g, 1, none⟩) 16 16) (.slice EA ne ec) nilS (s : Int) from by
          rw [← hWg]
          have nqo : q ≠ o := by have := Ho.out.2; omega
          exact ⟨(((HF.out.2.1.off hq0 Ho.out.1 0 _).off (hq0.set0 _) Ho.out.1 1 _).drew), (HF.out.2.2.2.2.1.other _ _ nqo).other _ _ nqo, (hq0.set0 _).set1 _⟩)
        have HR := Lib.hid (And.intro HF.out.1 (And.intro HF.out.2.2.1 HF.out.2.2.2.1))
        clear hWg hq0 x0 x1 x2 x3 f0 f1 f2 tvc esc HF
        have tvc := HG.out.1.wb.cells.1
        go_upto_block 8 with (fail)
        go_cut [] from 14 (fun wc => ∃ As sc, Hid (St w wc g T cv (.slice TA n tc) (.slice EA ne ec) R ∧ RB wc q nilS nilS nilS 0 ∧ RB wc o (.slice (some ⟨g, 1, none⟩) 16 16) (.slice EA ne ec) (.slice As n sc) (s : Int) ∧ wc.ownsRow w.heap.size 3 1 (.slice As n sc) n (nums (R.ts.map (stateW R)))))
        case first =>
          clear tvc
          go_wp2_with fail
          go_loopw [149] (fun t wr => ∃ (i : Nat) (As : Option Addr) (sc : Nat), i ≤ n ∧ t = .int .i64 (i : Int) ∧ Hid (St w wr g T cv (.slice TA n tc) (.slice EA ne ec) R ∧ RB wr q nilS nilS nilS 0 ∧ RB wr o (.slice (some ⟨g, 1, none⟩) 16 16) (.slice EA ne ec) (.slice As i sc) (s : Int) ∧ wr.ownsRow w.heap.size 3 1 (.slice As i sc) i (nums ((R.ts.take i).map (stateW R))))) (fun t _ => n - (intOf t).toNat)
          case atStart => exact ⟨0, none, 0, by omega, rfl, Lib.hid ⟨HG.out.1, HG.out.2.1, HG.out.2.2, World.ownsRow_nil _ _ _ _⟩⟩
          case round =>
            obtain ⟨i, As, sc, hi, rfl, HI⟩ := hrel
            have m1 : IntKind.i64.wrap ((i : Int) + 1) = (i : Int) + 1 := by rw [IntWalk.i64_in _ (by omega)]
            by_cases hin : i < n
            · obtain ⟨t, ht⟩ : ∃ t, R.ts[i]? = some t := ⟨_, List.getElem?_eq_getElem (by rw [HR.out.2.2]; exact hin)⟩
              obtain ⟨qt, eTA, hrow⟩ := HI.out.1.rowAt HR.out.2.2 (by omega)
              have c0 := hrow i hin
              subst eTA
              have HC := Lib.hid (fun w2 (h : St w w2 g T cv (.slice (some ⟨qt, 0, none⟩) n tc) (.slice EA ne ec) R) => state_at h ht (HR.out.2.1.t i t ht))
              have Ht := Lib.hid ht
              have r0 : (0 ≤ (i : Int)) = True := by simp
              have r1 : ((i : Int) < n) = True := eq_true (by omega)
              have r2 : (i < n) = True := eq_true hin
              have r3 : decide ((i : Int) < (n : Int)) = true := decide_eq_true (by omega)
              obtain ⟨x0, x1, x2, x3⟩ := HI.out.2.2.1.cells
              clear hrow ht
              go_upto_region 42 with (fail)
              go_region_law (first | (refine step_append_run rfl _ _ 24 rfl _ _ _ _ rfl rfl hrun ?_) | (go_simp; go_at_call 18; refine (HC.out _ (by first | exact HI.out.1 | exact HI.out.1.drew)).mono ?_; rintro e w3 ⟨rfl, b3⟩; obtain ⟨A1, c1, w4, hrun, z2, zf, S4, Q4, O4, N4⟩ := states_push (HI.out.1.below (by first | exact b3 | exact (Below.refl _ wr).drew.trans b3)) (HI.out.2.1.below (by first | exact b3 | exact (Below.refl _ wr).drew.trans b3)) (HI.out.2.2.1.below (by first | exact b3 | exact (Below.refl _ wr).drew.trans b3)) Ho.out.1 (by have := Ho.out.2; omega) (own_move HI.out.2.2.2 (fun k hk => (show Below wr.heap.size wr w3 from by first | exact b3 | exact (Below.refl _ wr).drew.trans b3).block k (own_lt HI.out.2.2.2 k hk))) Ht.out (by omega); have k2 := cell_up' x2 (show Below wr.heap.size wr w3 from by first | exact b3 | exact (Below.refl _ wr).drew.trans b3); have k3 := cell_up (o := .cells #[.int .i64 (stateW R t)] 3) k2; have H4 := Lib.hid (And.intro S4 (And.intro Q4 (And.intro O4 N4))); clear S4 Q4 O4 N4 b3))
              all_goals (
                clear hrun z2 zf k2 k3 x0 x1 x2 x3 c0 HC
                go_wp2_with fail
                exact ⟨⟨i + 1, A1, c1, by omega, by simp, H4⟩, by simp [intOf]; omega⟩)
            · obtain rfl : i = n := by omega
              have r3 : decide ((i : Int) < (i : Int)) = false := decide_eq_false (by omega)
              go_wp2_with fail
              go_meet
              case rel =>
                have h4 := HI.out.2.2.2
                rw [← HR.out.2.2, List.take_length, HR.out.2.2] at h4
                exact ⟨As, sc, Lib.hid ⟨HI.out.1, HI.out.2.1, HI.out.2.2.1, h4⟩⟩
        case rest =>
          obtain ⟨As, sc, HZ⟩ := hcut
          rename World => wz
          obtain ⟨x0, x1, x2, x3⟩ := HZ.out.2.2.1.cells
          obtain ⟨y0, y1, y2, y3⟩ := HZ.out.2.1.cells
          have f0 := HZ.out.2.1.frozen 0
          have f1 := HZ.out.2.1.frozen 1
          have f2 := HZ.out.2.1.frozen 2
          have f3 := HZ.out.2.1.frozen 3
          clear HG tvc
          go_wp2_with fail
          rw [Exit.noGoto_ret]
          have S9 := (((HZ.out.1.off HZ.out.2.1 (by rw [Hq.out]; exact Nat.le_refl _) 0 (.slice (some ⟨g, 1, none⟩) 16 16)).off (HZ.out.2.1.set0 _) (by rw [Hq.out]; exact Nat.le_refl _) 1 (.slice EA ne ec)).off ((HZ.out.2.1.set0 _).set1 _) (by rw [Hq.out]; exact Nat.le_refl _) 2 (.slice As n sc)).off (((HZ.out.2.1.set0 _).set1 _).set2 _) (by rw [Hq.out]; exact Nat.le_refl _) 3 (.int .i64 (s : Int))
          refine bodyPost_ret (results_ct rfl _ _ q 27 _ (0, 0) _ rfl HZ.out.2.1.set4 Try.underlying27 rfl (by kernel_rfl)) rfl ?_
          have rE := Kd.R_reads (R_ofE S9.em)
          obtain ⟨EA', ec', e1, hec, hCE⟩ := rE
          injection e1 with e1 e2 e3
          subst e1 e3
          have hn9 : ((((wz.setCell ⟨q, 0, none⟩ (.slice (some ⟨g, 1, none⟩) 16 16)).setCell ⟨q, 1, none⟩ (.slice EA ne ec)).setCell ⟨q, 2, none⟩ (.slice As n sc)).setCell ⟨q, 3, none⟩ (.int .i64 (s : Int))).ownsRow w.heap.size 3 1 (.slice As n sc) (R.ts.map (stateW R)).length (nums (R.ts.map (stateW R))) := by
            rw [List.length_map, HR.out.2.2]
            have hN := HZ.out.2.2.2
            refine own_move hN (fun k hk => ?_)
            obtain ⟨cl, hcl⟩ := own_typed hN k hk
            have nk : k ≠ q := ne_typed hcl HZ.out.2.1 (by decide)
            rw [heap_setCell_other _ _ _ _ nk, heap_setCell_other _ _ _ _ nk, heap_setCell_other _ _ _ _ nk, heap_setCell_other _ _ _ _ nk]
          obtain ⟨As', sc', e1, hsc, hCS⟩ := Kd.R_reads (R_ofI hn9)
          injection e1 with e1 e2 e3
          subst e1 e3
          rw [List.length_map] at hsc hCS
          refine .inr ⟨Hok.out, R, s, by rw [HE0.out]; exact HR.out.1, g, EA, ec, As, sc, by rw [Hne.out, HR.out.2.2]; rfl, S9.wb.readC, hec, hCE, hsc, hCS, S9.bel⟩
end Go.Proofs.Ytkcjghdopmigoaa.SC
