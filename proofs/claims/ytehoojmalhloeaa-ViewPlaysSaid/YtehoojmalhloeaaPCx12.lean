/- Contracts of the document's own functions (chapters 08, 16, 17, 19) over one set of value types, written by the kit's print program. -/
import Derived.Test.YtehoojmalhloeaaPCx0
namespace Go.Proofs.Ytehoojmalhloeaa.PC
open Go.RowKit Go.Proofs.YtehoojmalhloeaaW.PrintWords Go.Proofs.YtehoojmalhloeaaW.PrintLast Go.Proofs.YtehoojmalhloeaaW.PrintMore
attribute [local go_sem] max2_int min2_int max_two min_two max_three min_three max_four min_four   -- for this text's walks alone
set_option linter.unusedVariables false
set_option linter.unusedSimpArgs false

/-! ### staddlelaw17_few: function 52 -/
mutual
def staddlelaw17_few.j0 : Nat → List (List (S44)) → Option ((List (List (S44))))
  | 0, _ => none
  | k + 1, x0 => staddlelaw17_few.l0 k x0 ([] : List (List (S44))) 0
def staddlelaw17_few.l0 : Nat → List (List (S44)) → List (List (S44)) → Int → Option ((List (List (S44))))
  | 0, _, _, _ => none
  | k + 1, x0, x3, x4 => if x4 < (x0.length : Int) then (if 0 ≤ x4 then (if ((rd_L6 x0 x4).length : Int) > 200 then (if 200 ≤ ((rd_L6 x0 x4).length : Int) then (if x3.length < 5864062014805 then (staddlelaw17_few.l0 k x0 (x3 ++ [((rd_L6 x0 x4).take 200)]) (wrap64 (x4 + 1))) else (none)) else (none)) else (if x3.length < 5864062014805 then (staddlelaw17_few.l0 k x0 (x3 ++ [rd_L6 x0 x4]) (wrap64 (x4 + 1))) else (none))) else (none)) else (some x3)
end
def staddlelaw17_few.f (k : Nat) (l0 : List (List (S44))) : Option ((List (List (S44)))) := if (l0.length : Int) > 40 then (if 40 ≤ (l0.length : Int) then (staddlelaw17_few.j0 k (l0.take 40)) else (none)) else (staddlelaw17_few.j0 k l0)
theorem staddlelaw17_few.mono_l : ∀ k, (∀ y0, LeO (staddlelaw17_few.j0 k y0) (staddlelaw17_few.j0 (k + 1) y0)) ∧ (∀ y0 y1 y2, LeO (staddlelaw17_few.l0 k y0 y1 y2) (staddlelaw17_few.l0 (k + 1) y0 y1 y2))
  | 0 => ⟨fun _ r h => by simp [staddlelaw17_few.j0] at h, fun _ _ _ r h => by simp [staddlelaw17_few.l0] at h⟩
  | k + 1 => by
    obtain ⟨ih0, ih1⟩ := staddlelaw17_few.mono_l k
    refine ⟨?_, ?_⟩
    · intro y0
      unfold staddlelaw17_few.j0
      repeat' first
      | (with_reducible exact ih0 _)
      | (with_reducible exact ih1 _ _ _)
      | (with_reducible exact LeO.refl _)
      | (with_reducible exact LeO.none _)
      | (with_reducible refine LeO.ite ?_ ?_)
      | (with_reducible refine LeO.bind ?_ (fun _ => ?_))
      | exact ih0 _
      | exact ih1 _ _ _
      | exact LeO.none _
      | refine LeO.ite ?_ ?_
      | refine LeO.bind ?_ (fun _ => ?_)
    · intro y0 y1 y2
      unfold staddlelaw17_few.l0
      repeat' first
      | (with_reducible exact ih0 _)
      | (with_reducible exact ih1 _ _ _)
      | (with_reducible exact LeO.refl _)
      | (with_reducible exact LeO.none _)
      | (with_reducible refine LeO.ite ?_ ?_)
      | (with_reducible refine LeO.bind ?_ (fun _ => ?_))
      | exact ih0 _
      | exact ih1 _ _ _
      | exact LeO.none _
      | refine LeO.ite ?_ ?_
      | refine LeO.bind ?_ (fun _ => ?_)
theorem staddlelaw17_few.mono : ∀ a0 k, LeO (staddlelaw17_few.f k a0) (staddlelaw17_few.f (k + 1) a0) := by
  intro a0 k
  obtain ⟨ih0, ih1⟩ := staddlelaw17_few.mono_l k
  unfold staddlelaw17_few.f
  repeat' first
      | (with_reducible exact ih0 _)
      | (with_reducible exact ih1 _ _ _)
      | (with_reducible exact LeO.refl _)
      | (with_reducible exact LeO.none _)
      | (with_reducible refine LeO.ite ?_ ?_)
      | (with_reducible refine LeO.bind ?_ (fun _ => ?_))
      | exact ih0 _
      | exact ih1 _ _ _
      | exact LeO.none _
      | refine LeO.ite ?_ ?_
      | refine LeO.bind ?_ (fun _ => ?_)
set_option maxHeartbeats 8000000 in
set_option maxRecDepth 100000 in
theorem staddlelaw17_few.calls (k : Nat) (P0_ : Nat → Prop) (A0 : Option Addr) (c0 : Nat) (l0 : List (List (S44))) (r : List (List (S44))) (w : World) (hs0 : Kd.V (Kd.slice 44 k44) 22 w w.heap.size (fun k_ => P0_ k_) (.slice A0 l0.length c0) l0) (h : staddlelaw17_few.f k l0 = some r) :
    Calls Try.prog 52 #[.slice A0 l0.length c0] w fun e w' => ∃ v0_ : Value, e = .returned (v0_) ∧ Kd.N (Kd.slice 44 k44) 22 w' w.heap.size (fun k_ => (P0_ k_ ∨ w.heap.size ≤ k_)) v0_ r ∧ Below w.heap.size w w' := by
  have HO0 := Aside0.mk (show Kd.V (Kd.slice 44 k44) 22 w w.heap.size (fun k_ => (P0_ k_ ∨ w.heap.size ≤ k_)) (.slice A0 l0.length c0) l0 from Kd.V_mono hs0 (fun k_ hk => .inl hk))
  have HB := Aside0.mk (Below.refl w.heap.size w)
  have H : (if (l0.length : Int) > 40 then (if 40 ≤ (l0.length : Int) then (staddlelaw17_few.j0 k (l0.take 40)) else (none)) else (staddlelaw17_few.j0 k l0)) = some r := h
  clear h
  have HC2 := Aside0.mk H
  clear H
  go_enter Try.func52, Try.ntmps52
  go_upto_if 8 with (fail)
  go_cut [0] (fun v0 wc => ∃ (kq : Nat) (x0_1 : List (List (S44))), Aside0 (staddlelaw17_few.j0 kq x0_1 = some r) ∧ Aside0 (kq ≤ k) ∧ Aside0 (Kd.V (Kd.slice 44 k44) 22 wc w.heap.size (fun k_ => (P0_ k_ ∨ w.heap.size ≤ k_)) v0 x0_1) ∧ Aside0 (Below w.heap.size w wc))
  case first =>
    have H := HC2.out
    clear HC2
    by_cases c3 : (l0.length : Int) > 40
    · rw [if_pos c3] at H
      have c3b0 : decide (40 < (l0.length : Int)) = true := decide_eq_true c3
      have c3b1 : decide (40 < l0.length) = true := decide_eq_true (by omega)
      clear c3
      (first | rw [c3b0] | (simp only [i64_w, i32_w]; rw [c3b0]) | skip)
      by_cases c4 : 40 ≤ (l0.length : Int)
      · rw [if_pos c4] at H
        have c4b0 := eq_true c4
        have c4b1 : decide (40 ≤ (l0.length : Int)) = true := decide_eq_true c4
        clear c4
        obtain ⟨y279, hy279⟩ : ∃ y_ : List (List (S44)), y_ = (l0.take 40) := ⟨_, rfl⟩
        replace H : (staddlelaw17_few.j0 k y279) = some r := by first | (rw [hy279]; with_reducible exact H) | (have H2_ := (Option.bind_some _ _).symm.trans H; rw [hy279]; with_reducible exact H2_) | (have H2_ := (Option.bind_some _ _).symm.trans H; with_reducible exact H2_) | with_reducible exact H | (rw [hy279]; exact H) | exact H
        have Ny279 := Aside0.mk hy279
        clear hy279
        have H' := Aside0.mk H
        clear H
        have q5 : (40 : Int) ≤ ((l0.length : Int) : Int) := of_decide_eq_true (by first | (with_reducible assumption) | assumption)
        obtain ⟨i05, hi05, _, hsz5, _⟩ := info_parts info22
        have hroom5 : l0.length ≤ c0 := (Kd.V_reads' HO0.out).2.1
        have hC5 : Kd.F (Kd.slice 44 k44) _ _ A0 l0.length l0 := (Kd.V_at (base := w.heap.size) HO0.out).2.2
        have hcut5 := cut_to (P := Try.prog) 32 22 .i64 Try.underlying32 hi05 A0 l0.length c0 40 (by omega) q5 hroom5
        have hr5 := Kd.F_take (m := 40) hC5 (by omega)
        have hy5 : y279.length = (40 : Int).toNat := (by rw [Ny279.out, List.length_take]; omega)
        rw [← Ny279.out] at hr5
        rw [← hy5] at hcut5
        have HO283 := Aside0.mk (show Kd.V (Kd.slice 44 k44) 22 _ w.heap.size _ (.slice A0 y279.length c0) y279 from Kd.V_mk (by omega) hr5)
        have HC283 := Aside0.mk (show y279.length ≤ c0 from by omega)
        clear hr5 hC5 hroom5 hi05 hsz5
        have KY5 := Aside0.mk hy5
        clear hy5
        replace q5 := eq_true q5
        go_wp2
        go_meet
        case rel => exact ⟨_, (y279), H', ⟨by first | omega | exact Nat.le_refl _⟩, ⟨by (with_reducible repeat (first | apply Kd.V_alloc | apply Kd.V_drewN | apply Kd.V_drew)); exact HO283.out⟩, ⟨by repeat (first | (with_reducible first | exact HB.out | apply below_alloc | apply pw_below_drewN | apply below_drew1) | exact HB.out)⟩⟩
      · rw [if_neg c4] at H
        exact absurd H (by simp)
    · rw [if_neg c3] at H
      have c3b0 : decide (40 < (l0.length : Int)) = false := decide_eq_false c3
      have c3b1 : decide (40 < l0.length) = false := decide_eq_false (by omega)
      clear c3
      (first | rw [c3b0] | (simp only [i64_w, i32_w]; rw [c3b0]) | skip)
      have H' := Aside0.mk H
      clear H
      go_wp2
      go_meet
      case rel => exact ⟨_, (l0), H', ⟨by first | omega | exact Nat.le_refl _⟩, ⟨by (with_reducible repeat (first | apply Kd.V_alloc | apply Kd.V_drewN | apply Kd.V_drew)); exact HO0.out⟩, ⟨by repeat (first | (with_reducible first | exact HB.out | apply below_alloc | apply pw_below_drewN | apply below_drew1) | exact HB.out)⟩⟩
  case rest =>
    clear HC2
    try clear p2
    try clear c3
    try clear c3b0
    try clear c3b1
    try clear c4
    try clear c4b0
    try clear c4b1
    try clear c5
    try clear q5
    try clear q5
    obtain ⟨kq, x0_1, HA, HJ1, HO_0, HB⟩ := hcut
    cases kq with
    | zero => exact absurd HA.out (by simp [staddlelaw17_few.j0])
    | succ kj1 =>
      have H := HA.out
      clear HA
      simp only [staddlelaw17_few.j0] at H
      have H' := Aside0.mk H
      clear H
      go_wp2
      go_loopg [3, 4] kj1 (fun kq v3 v4 w' => ∃ (x3_2 : List (List (S44))) (x4_2 : Int), v4 = .int .i64 x4_2 ∧ Aside0 (staddlelaw17_few.l0 kq x0_1 x3_2 x4_2 = some r) ∧ Aside0 (kq ≤ kj1) ∧ Aside0 (Kd.V (Kd.slice 44 k44) 22 w' w.heap.size (fun k_ => (P0_ k_ ∨ w.heap.size ≤ k_) ∧ some k_ ≠ (v3 : Value).ownBlock) u0 x0_1) ∧ Aside0 (Kd.N (Kd.slice 44 k44) 22 w' w.heap.size (fun k_ => (P0_ k_ ∨ w.heap.size ≤ k_)) v3 x3_2) ∧ Aside0 (Below w.heap.size w w'))
      case atStart => exact ⟨(([] : List (List (S44)))), (0), (by first | rfl | (simp; done) | (simp [*]; done)), H', ⟨Nat.le_refl _⟩, ⟨by (with_reducible repeat (first | apply Kd.V_alloc | apply Kd.V_drewN | apply Kd.V_drew)); exact Kd.V_mono HO_0.out (fun _ hk => ⟨hk, (by simp [Value.ownBlock])⟩)⟩, ⟨by first | exact Kd.S_nil _ _ _ _ _ | exact Kd.N_nil _ _ _ _ _ | exact Kd.V_nil _ _ _ _ _ | exact Kd.Q_nil _ _ _ _ _ | exact Kd.R_nil _ _ _ _ _⟩, ⟨by repeat (first | (with_reducible first | exact HB.out | apply below_alloc | apply pw_below_drewN | apply below_drew1) | exact HB.out)⟩⟩
      case round =>
        clear H'
        try clear p2
        try clear c3
        try clear c3b0
        try clear c3b1
        try clear c4
        try clear c4b0
        try clear c4b1
        try clear c5
        try clear q5
        try clear p2
        try clear q5
        obtain ⟨x3_2, x4_2, rfl, HA, HK2, HO_0, HO_3, HB⟩ := hrel
        cases gk with
        | zero => exact absurd HA.out (by simp [staddlelaw17_few.l0])
        | succ k2 =>
          have H := HA.out
          clear HA
          simp only [staddlelaw17_few.l0] at H
          by_cases c6 : x4_2 < (x0_1.length : Int)
          · rw [if_pos c6] at H
            have c6b0 : decide (x4_2 < (x0_1.length : Int)) = true := decide_eq_true c6
            clear c6
            by_cases c7 : 0 ≤ x4_2
            · rw [if_pos c7] at H
              have c7b0 : decide (0 ≤ x4_2) = true := decide_eq_true c7
              clear c7
              by_cases c8 : ((rd_L6 x0_1 x4_2).length : Int) > 200
              · rw [if_pos c8] at H
                have c8b0 : decide (200 < ((rd_L6 x0_1 x4_2).length : Int)) = true := decide_eq_true c8
                have c8b1 : decide (200 < (rd_L6 x0_1 x4_2).length) = true := decide_eq_true (by omega)
                clear c8
                by_cases c9 : 200 ≤ ((rd_L6 x0_1 x4_2).length : Int)
                · rw [if_pos c9] at H
                  have c9b0 := eq_true c9
                  have c9b1 : decide (200 ≤ ((rd_L6 x0_1 x4_2).length : Int)) = true := decide_eq_true c9
                  clear c9
                  obtain ⟨y285, hy285⟩ : ∃ y_ : List (S44), y_ = ((rd_L6 x0_1 x4_2).take 200) := ⟨_, rfl⟩
                  replace H : (if x3_2.length < 5864062014805 then (staddlelaw17_few.l0 k2 x0_1 (x3_2 ++ [y285]) (wrap64 (x4_2 + 1))) else (none)) = some r := by first | (rw [hy285]; with_reducible exact H) | (have H2_ := (Option.bind_some _ _).symm.trans H; rw [hy285]; with_reducible exact H2_) | (have H2_ := (Option.bind_some _ _).symm.trans H; with_reducible exact H2_) | with_reducible exact H | (rw [hy285]; exact H) | exact H
                  have Ny285 := Aside0.mk hy285
                  clear hy285
                  by_cases c10 : x3_2.length < 5864062014805
                  · rw [if_pos c10] at H
                    have LMc10 := Aside0.mk c10
                    clear c10
                    obtain ⟨y290, hy290⟩ : ∃ y_ : List (List (S44)), y_ = (x3_2 ++ [y285]) := ⟨_, rfl⟩
                    replace H : (staddlelaw17_few.l0 k2 x0_1 y290 (wrap64 (x4_2 + 1))) = some r := by first | (rw [hy290]; with_reducible exact H) | (have H2_ := (Option.bind_some _ _).symm.trans H; rw [hy290]; with_reducible exact H2_) | (have H2_ := (Option.bind_some _ _).symm.trans H; with_reducible exact H2_) | with_reducible exact H | (rw [hy290]; exact H) | exact H
                    have Ny290 := Aside0.mk hy290
                    clear hy290
                    have H' := Aside0.mk H
                    clear H
                    obtain ⟨Ao11, co11, eo11⟩ := Kd.V_slice HO_0.out
                    subst eo11
                    have p284 : 0 ≤ (x4_2 : Int) := of_decide_eq_true (by first | (with_reducible assumption) | assumption)
                    have q284 : x4_2 < (x0_1.length : Int) := of_decide_eq_true (by first | (with_reducible assumption) | assumption)
                    obtain ⟨ad284, A284_0, c284_0, e284, hx284_0, hl284_0, hi284_0⟩ := at_L6 (Kd.V_reads' HO_0.out).2.2 x4_2 p284 q284
                    cases e284
                    obtain ⟨ce284, hce284, hMe284, hcc284⟩ := Kd.V_get HO_0.out [] x4_2 p284 (by first | exact q284 | exact of_decide_eq_true (by first | (with_reducible assumption) | assumption) | (have e_ := (Kd.V_reads' HO_0.out).1; omega))
                    obtain ⟨ua284_0, uc284_0, rfl, ul284_0, ge284_0⟩ := Kd.FK_slice_open hMe284
                    have hv284_0 := hcc284 0 _ rfl
                    rw [Nat.add_zero, show ((Kd.slice 44 k44)).sz = 1 from rfl, Nat.mul_one] at hv284_0
                    replace hv284_0 := Option.some.inj (hv284_0.symm.trans hx284_0)
                    injection hv284_0 with hva_ hvn_ hvc_
                    rw [hva_] at ge284_0
                    rw [hvc_] at ul284_0
                    have HL284_0 := Aside0.mk (show Kd.V k44 44 _ w.heap.size _ _ (rd_L6 x0_1 x4_2) from Kd.V_mk ul284_0 ge284_0)
                    clear hva_ hvn_ hvc_ ge284_0 ul284_0
                    clear hcc284 hce284
                    have HR284_0 := Aside0.mk hi284_0
                    have HC284_0 := Aside0.mk hl284_0
                    clear hi284_0 hl284_0
                    replace p284 := eq_true p284
                    replace q284 := eq_true q284
                    have q12 : (200 : Int) ≤ (((rd_L6 x0_1 x4_2).length : Int) : Int) := of_decide_eq_true (by first | (with_reducible assumption) | assumption)
                    obtain ⟨i012, hi012, _, hsz12, _⟩ := info_parts info44
                    have hroom12 : (rd_L6 x0_1 x4_2).length ≤ c284_0 := HC284_0.out
                    have hC12 : Kd.F k44 _ _ A284_0 (rd_L6 x0_1 x4_2).length (rd_L6 x0_1 x4_2) := (Kd.V_at (base := w.heap.size) HL284_0.out).2.2
                    have hcut12 := cut_to (P := Try.prog) 22 44 .i64 Try.underlying22 hi012 A284_0 (rd_L6 x0_1 x4_2).length c284_0 200 (by omega) q12 hroom12
                    have hr12 := Kd.F_take (m := 200) hC12 (by omega)
                    have hy12 : y285.length = (200 : Int).toNat := (by rw [Ny285.out, List.length_take]; omega)
                    rw [← Ny285.out] at hr12
                    rw [← hy12] at hcut12
                    have HO289 := Aside0.mk (show Kd.V k44 44 _ w.heap.size _ (.slice A284_0 y285.length c284_0) y285 from Kd.V_mk (by omega) hr12)
                    have HC289 := Aside0.mk (show y285.length ≤ c284_0 from by omega)
                    clear hr12 hC12 hroom12 hi012 hsz12
                    have KY12 := Aside0.mk hy12
                    clear hy12
                    replace q12 := eq_true q12
                    go_wp2_with (first | ((with_reducible refine gate_builtin (b := .append) (xs := #[.tmp 26, .tmp 28]) rfl ?_); at_builtin; refine Kd.N_append (Kd.slice 44 k44) (w0 := w) w.heap.size rfl (.tmp 26) (.tmp 28) 32 22 (.slice none 0 0) 24 rfl Try.underlying32 info22 rfl (by decide) (by omega) u3 x3_2 y285 [.slice A284_0 y285.length c284_0] (fun k_ => (P0_ k_ ∨ w.heap.size ≤ k_)) (fun k_ => ((fun k_ => (P0_ k_ ∨ w.heap.size ≤ k_))) k_ ∧ some k_ ≠ (u3 : Value).ownBlock) rfl rfl ?aP (fun _ hk => hk) ?aF ?aO ?aB ?aS ?aL ?_; (case aP => exact (Kd.FK_slice_mk (Kd.V_reads' (Kd.V_mono (ok' := (fun k_ => ((fun k_ => (P0_ k_ ∨ w.heap.size ≤ k_))) k_ ∧ some k_ ≠ (u3 : Value).ownBlock)) (HO289.out) (fun k_ hk => ⟨hk.1, hk.2⟩))).2.1 (Kd.V_F (Kd.V_mono (ok' := (fun k_ => ((fun k_ => (P0_ k_ ∨ w.heap.size ≤ k_))) k_ ∧ some k_ ≠ (u3 : Value).ownBlock)) (HO289.out) (fun k_ hk => ⟨hk.1, hk.2⟩))))); (case aB => exact (by repeat (first | (with_reducible first | exact HB.out | apply below_alloc | apply pw_below_drewN | apply below_drew1) | exact HB.out))); (case aF => exact (fun k_ hk => (.inr (Nat.le_trans (below_size (by repeat (first | (with_reducible first | exact HB.out | apply below_alloc | apply pw_below_drewN | apply below_drew1) | exact HB.out))) hk)))); (case aO => exact (by (with_reducible repeat (first | apply Kd.N_alloc | apply Kd.N_drewN | apply Kd.N_drew)); exact HO_3.out)); (case aS => exact (below_size (by repeat (first | (with_reducible first | exact HB.out | apply below_alloc | apply pw_below_drewN | apply below_drew1) | exact HB.out)))); (case aL => have := LMc10.out; omega); intro v291 w13 ho hb hg hat; rw [← Ny290.out] at ho; have n0_ := Aside0.mk (Kd.V_afterv (ok := (fun k_ => (P0_ k_ ∨ w.heap.size ≤ k_))) (by (with_reducible repeat (first | apply Kd.V_alloc | apply Kd.V_drewN | apply Kd.V_drew)); exact HO_0.out) hg hat); have n1_ := Aside0.mk (Kd.V_afterv (ok := (fun k_ => (P0_ k_ ∨ w.heap.size ≤ k_))) (by (with_reducible repeat (first | apply Kd.V_alloc | apply Kd.V_drewN | apply Kd.V_drew)); exact HL284_0.out) hg hat); have n2_ := Aside0.mk (Kd.V_afterv (ok := (fun k_ => (P0_ k_ ∨ w.heap.size ≤ k_))) (by (with_reducible repeat (first | apply Kd.V_alloc | apply Kd.V_drewN | apply Kd.V_drew)); exact HO289.out) hg hat); have n3_ := Aside0.mk (hb); have n4_ := Aside0.mk (ho); clear HO_0; clear HL284_0; clear HO289; clear HB; clear HO_3; have HO_0 := n0_; have HL284_0 := n1_; have HO289 := n2_; have HB := n3_; have HO292 := n4_; clear n0_ n1_ n2_ n3_ n4_; clear ho hb hg hat))
                    go_roundg k2
                    case measure => have := HJ1.out; have := HK2.out; omega
                    case rel => exact ⟨(y290), (wrap64 (x4_2 + 1)), (by first | rfl | (simp; done) | (simp [*]; done)), H', ⟨by have := HJ1.out; have := HK2.out; omega⟩, ⟨by (with_reducible repeat (first | apply Kd.V_alloc | apply Kd.V_drewN | apply Kd.V_drew)); exact HO_0.out⟩, ⟨by (with_reducible repeat (first | apply Kd.N_alloc | apply Kd.N_drewN | apply Kd.N_drew)); exact HO292.out⟩, ⟨by repeat (first | (with_reducible first | exact HB.out | apply below_alloc | apply pw_below_drewN | apply below_drew1) | exact HB.out)⟩⟩
                  · rw [if_neg c10] at H
                    exact absurd H (by simp)
                · rw [if_neg c9] at H
                  exact absurd H (by simp)
              · rw [if_neg c8] at H
                have c8b0 : decide (200 < ((rd_L6 x0_1 x4_2).length : Int)) = false := decide_eq_false c8
                have c8b1 : decide (200 < (rd_L6 x0_1 x4_2).length) = false := decide_eq_false (by omega)
                clear c8
                by_cases c14 : x3_2.length < 5864062014805
                · rw [if_pos c14] at H
                  have LMc14 := Aside0.mk c14
                  clear c14
                  obtain ⟨y293, hy293⟩ : ∃ y_ : List (List (S44)), y_ = (x3_2 ++ [rd_L6 x0_1 x4_2]) := ⟨_, rfl⟩
                  replace H : (staddlelaw17_few.l0 k2 x0_1 y293 (wrap64 (x4_2 + 1))) = some r := by first | (rw [hy293]; with_reducible exact H) | (have H2_ := (Option.bind_some _ _).symm.trans H; rw [hy293]; with_reducible exact H2_) | (have H2_ := (Option.bind_some _ _).symm.trans H; with_reducible exact H2_) | with_reducible exact H | (rw [hy293]; exact H) | exact H
                  have Ny293 := Aside0.mk hy293
                  clear hy293
                  have H' := Aside0.mk H
                  clear H
                  obtain ⟨Ao15, co15, eo15⟩ := Kd.V_slice HO_0.out
                  subst eo15
                  have p284 : 0 ≤ (x4_2 : Int) := of_decide_eq_true (by first | (with_reducible assumption) | assumption)
                  have q284 : x4_2 < (x0_1.length : Int) := of_decide_eq_true (by first | (with_reducible assumption) | assumption)
                  obtain ⟨ad284, A284_0, c284_0, e284, hx284_0, hl284_0, hi284_0⟩ := at_L6 (Kd.V_reads' HO_0.out).2.2 x4_2 p284 q284
                  cases e284
                  obtain ⟨ce284, hce284, hMe284, hcc284⟩ := Kd.V_get HO_0.out [] x4_2 p284 (by first | exact q284 | exact of_decide_eq_true (by first | (with_reducible assumption) | assumption) | (have e_ := (Kd.V_reads' HO_0.out).1; omega))
                  obtain ⟨ua284_0, uc284_0, rfl, ul284_0, ge284_0⟩ := Kd.FK_slice_open hMe284
                  have hv284_0 := hcc284 0 _ rfl
                  rw [Nat.add_zero, show ((Kd.slice 44 k44)).sz = 1 from rfl, Nat.mul_one] at hv284_0
                  replace hv284_0 := Option.some.inj (hv284_0.symm.trans hx284_0)
                  injection hv284_0 with hva_ hvn_ hvc_
                  rw [hva_] at ge284_0
                  rw [hvc_] at ul284_0
                  have HL284_0 := Aside0.mk (show Kd.V k44 44 _ w.heap.size _ _ (rd_L6 x0_1 x4_2) from Kd.V_mk ul284_0 ge284_0)
                  clear hva_ hvn_ hvc_ ge284_0 ul284_0
                  clear hcc284 hce284
                  have HR284_0 := Aside0.mk hi284_0
                  have HC284_0 := Aside0.mk hl284_0
                  clear hi284_0 hl284_0
                  replace p284 := eq_true p284
                  replace q284 := eq_true q284
                  go_wp2_with (first | ((with_reducible refine gate_builtin (b := .append) (xs := #[.tmp 26, .tmp 28]) rfl ?_); at_builtin; refine Kd.N_append (Kd.slice 44 k44) (w0 := w) w.heap.size rfl (.tmp 26) (.tmp 28) 32 22 (.slice none 0 0) 24 rfl Try.underlying32 info22 rfl (by decide) (by omega) u3 x3_2 (rd_L6 x0_1 x4_2) [.slice A284_0 (rd_L6 x0_1 x4_2).length c284_0] (fun k_ => (P0_ k_ ∨ w.heap.size ≤ k_)) (fun k_ => ((fun k_ => (P0_ k_ ∨ w.heap.size ≤ k_))) k_ ∧ some k_ ≠ (u3 : Value).ownBlock) rfl rfl ?aP (fun _ hk => hk) ?aF ?aO ?aB ?aS ?aL ?_; (case aP => exact (Kd.FK_slice_mk (Kd.V_reads' (Kd.V_mono (ok' := (fun k_ => ((fun k_ => (P0_ k_ ∨ w.heap.size ≤ k_))) k_ ∧ some k_ ≠ (u3 : Value).ownBlock)) (HL284_0.out) (fun k_ hk => ⟨hk.1, hk.2⟩))).2.1 (Kd.V_F (Kd.V_mono (ok' := (fun k_ => ((fun k_ => (P0_ k_ ∨ w.heap.size ≤ k_))) k_ ∧ some k_ ≠ (u3 : Value).ownBlock)) (HL284_0.out) (fun k_ hk => ⟨hk.1, hk.2⟩))))); (case aB => exact (by repeat (first | (with_reducible first | exact HB.out | apply below_alloc | apply pw_below_drewN | apply below_drew1) | exact HB.out))); (case aF => exact (fun k_ hk => (.inr (Nat.le_trans (below_size (by repeat (first | (with_reducible first | exact HB.out | apply below_alloc | apply pw_below_drewN | apply below_drew1) | exact HB.out))) hk)))); (case aO => exact (by (with_reducible repeat (first | apply Kd.N_alloc | apply Kd.N_drewN | apply Kd.N_drew)); exact HO_3.out)); (case aS => exact (below_size (by repeat (first | (with_reducible first | exact HB.out | apply below_alloc | apply pw_below_drewN | apply below_drew1) | exact HB.out)))); (case aL => have := LMc14.out; omega); intro v294 w16 ho hb hg hat; rw [← Ny293.out] at ho; have n0_ := Aside0.mk (Kd.V_afterv (ok := (fun k_ => (P0_ k_ ∨ w.heap.size ≤ k_))) (by (with_reducible repeat (first | apply Kd.V_alloc | apply Kd.V_drewN | apply Kd.V_drew)); exact HO_0.out) hg hat); have n1_ := Aside0.mk (Kd.V_afterv (ok := (fun k_ => (P0_ k_ ∨ w.heap.size ≤ k_))) (by (with_reducible repeat (first | apply Kd.V_alloc | apply Kd.V_drewN | apply Kd.V_drew)); exact HL284_0.out) hg hat); have n2_ := Aside0.mk (hb); have n3_ := Aside0.mk (ho); clear HO_0; clear HL284_0; clear HB; clear HO_3; have HO_0 := n0_; have HL284_0 := n1_; have HB := n2_; have HO295 := n3_; clear n0_ n1_ n2_ n3_; clear ho hb hg hat))
                  go_roundg k2
                  case measure => have := HJ1.out; have := HK2.out; omega
                  case rel => exact ⟨(y293), (wrap64 (x4_2 + 1)), (by first | rfl | (simp; done) | (simp [*]; done)), H', ⟨by have := HJ1.out; have := HK2.out; omega⟩, ⟨by (with_reducible repeat (first | apply Kd.V_alloc | apply Kd.V_drewN | apply Kd.V_drew)); exact HO_0.out⟩, ⟨by (with_reducible repeat (first | apply Kd.N_alloc | apply Kd.N_drewN | apply Kd.N_drew)); exact HO295.out⟩, ⟨by repeat (first | (with_reducible first | exact HB.out | apply below_alloc | apply pw_below_drewN | apply below_drew1) | exact HB.out)⟩⟩
                · rw [if_neg c14] at H
                  exact absurd H (by simp)
            · rw [if_neg c7] at H
              exact absurd H (by simp)
          · rw [if_neg c6] at H
            have c6b0 : decide (x4_2 < (x0_1.length : Int)) = false := decide_eq_false c6
            clear c6
            obtain rfl := Option.some.inj H
            obtain ⟨Ao17, co17, eo17⟩ := Kd.V_slice HO_0.out
            subst eo17
            go_wp2
            go_ret
            exact ⟨_, by first | rfl | (simp [errW_none, errW_some] <;> rfl) | (simp [*, errW_none, errW_some] <;> rfl), by (with_reducible repeat (first | apply Kd.N_alloc | apply Kd.N_drewN | apply Kd.N_drew)); exact HO_3.out, by repeat (first | (with_reducible first | exact HB.out | apply below_alloc | apply pw_below_drewN | apply below_drew1) | exact HB.out)⟩

-- NOT PRINTED: function 16 (staddlelaw17_ViewFalls)

/-! ### staddleref08_Get: function 53 -/
mutual
def staddleref08_Get.l0 : Nat → List (S44) → ByteArray → Int → Int → Option (ByteArray × Int)
  | 0, _, _, _, _ => none
  | k + 1, x0, x1, x2, x8 => if x8 < (x0.length : Int) then (if 0 ≤ x8 then (if ((rd_T44 x0 x8).f0.f0).toList = x1.toList then (staddleref08_Get.j1 k x0 x1 x2 x8 (decide (((rd_T44 x0 x8).f0.f1) ≤ x2))) else (staddleref08_Get.j1 k x0 x1 x2 x8 false)) else (none)) else (some ((⟨#[]⟩ : ByteArray), 0))
def staddleref08_Get.j1 : Nat → List (S44) → ByteArray → Int → Int → Bool → Option (ByteArray × Int)
  | 0, _, _, _, _, _ => none
  | k + 1, x0, x1, x2, x8, x32 => if x32 = true then (if 0 ≤ x8 then (if x8 < (x0.length : Int) then (if ((rd_T44 x0 x8).f0.f2) = 0 then (some ((⟨#[]⟩ : ByteArray), 1)) else (some ((rd_T44 x0 x8).f1, 2))) else (none)) else (none)) else (staddleref08_Get.l0 k x0 x1 x2 (wrap64 (x8 + 1)))
end
def staddleref08_Get.f (k : Nat) (l0 : List (S44)) (a1 : ByteArray) (a2 : Int) : Option (ByteArray × Int) := staddleref08_Get.l0 k l0 a1 a2 0
theorem staddleref08_Get.mono_l : ∀ k, (∀ y0 y1 y2 y3, LeO (staddleref08_Get.l0 k y0 y1 y2 y3) (staddleref08_Get.l0 (k + 1) y0 y1 y2 y3)) ∧ (∀ y0 y1 y2 y3 y4, LeO (staddleref08_Get.j1 k y0 y1 y2 y3 y4) (staddleref08_Get.j1 (k + 1) y0 y1 y2 y3 y4))
  | 0 => ⟨fun _ _ _ _ r h => by simp [staddleref08_Get.l0] at h, fun _ _ _ _ _ r h => by simp [staddleref08_Get.j1] at h⟩
  | k + 1 => by
    obtain ⟨ih0, ih1⟩ := staddleref08_Get.mono_l k
    refine ⟨?_, ?_⟩
    · intro y0 y1 y2 y3
      unfold staddleref08_Get.l0
      repeat' first
      | (with_reducible exact ih0 _ _ _ _)
      | (with_reducible exact ih1 _ _ _ _ _)
      | (with_reducible exact LeO.refl _)
      | (with_reducible exact LeO.none _)
      | (with_reducible refine LeO.ite ?_ ?_)
      | (with_reducible refine LeO.bind ?_ (fun _ => ?_))
      | exact ih0 _ _ _ _
      | exact ih1 _ _ _ _ _
      | exact LeO.none _
      | refine LeO.ite ?_ ?_
      | refine LeO.bind ?_ (fun _ => ?_)
    · intro y0 y1 y2 y3 y4
      unfold staddleref08_Get.j1
      repeat' first
      | (with_reducible exact ih0 _ _ _ _)
      | (with_reducible exact ih1 _ _ _ _ _)
      | (with_reducible exact LeO.refl _)
      | (with_reducible exact LeO.none _)
      | (with_reducible refine LeO.ite ?_ ?_)
      | (with_reducible refine LeO.bind ?_ (fun _ => ?_))
      | exact ih0 _ _ _ _
      | exact ih1 _ _ _ _ _
      | exact LeO.none _
      | refine LeO.ite ?_ ?_
      | refine LeO.bind ?_ (fun _ => ?_)
theorem staddleref08_Get.mono : ∀ a0 a1 a2 k, LeO (staddleref08_Get.f k a0 a1 a2) (staddleref08_Get.f (k + 1) a0 a1 a2) := by
  intro a0 a1 a2 k
  obtain ⟨ih0, ih1⟩ := staddleref08_Get.mono_l k
  unfold staddleref08_Get.f
  repeat' first
      | (with_reducible exact ih0 _ _ _ _)
      | (with_reducible exact ih1 _ _ _ _ _)
      | (with_reducible exact LeO.refl _)
      | (with_reducible exact LeO.none _)
      | (with_reducible refine LeO.ite ?_ ?_)
      | (with_reducible refine LeO.bind ?_ (fun _ => ?_))
      | exact ih0 _ _ _ _
      | exact ih1 _ _ _ _ _
      | exact LeO.none _
      | refine LeO.ite ?_ ?_
      | refine LeO.bind ?_ (fun _ => ?_)
set_option maxHeartbeats 8000000 in
set_option maxRecDepth 100000 in
theorem staddleref08_Get.calls (k : Nat) (A0 : Option Addr) (c0 : Nat) (l0 : List (S44)) (a1 : ByteArray) (a2 : Int) (r1 : ByteArray) (r2 : Int) (w : World) (hr0 : Kd.C k44 w A0 l0.length l0) (hc0 : l0.length ≤ c0) (h : staddleref08_Get.f k l0 a1 a2 = some (r1, r2)) :
    Calls Try.prog 53 #[.slice A0 l0.length c0, .string a1, .int .u64 a2] w fun e w' => e = .returned (.tuple #[.string r1, .int .i64 r2]) ∧ Drawn0 w w' := by
  have HR0 := Aside0.mk hr0
  have HC0 := Aside0.mk hc0
  clear hr0 hc0
  have H : (staddleref08_Get.l0 k l0 a1 a2 0) = some (r1, r2) := h
  clear h
  have H' := Aside0.mk H
  clear H
  go_enter Try.func53, Try.ntmps53
  go_wp2
  go_loopg [8] k (fun kq v8 w' => ∃ (x8_1 : Int), v8 = .int .i64 x8_1 ∧ Aside0 (staddleref08_Get.l0 kq l0 a1 a2 x8_1 = some (r1, r2)) ∧ Aside0 (kq ≤ k) ∧ Drawn0 w w')
  case atStart => exact ⟨(0), (by first | rfl | (simp; done) | (simp [*]; done)), H', ⟨Nat.le_refl _⟩, by repeat (first | exact Drawn0.refl _ | apply Drawn0.step)⟩
  case round =>
    clear H'
    try clear p2
    obtain ⟨x8_1, rfl, HA, HK1, ⟨m1, rfl⟩⟩ := hrel
    cases gk with
    | zero => exact absurd HA.out (by simp [staddleref08_Get.l0])
    | succ k1 =>
      have H := HA.out
      clear HA
      simp only [staddleref08_Get.l0] at H
      by_cases c4 : x8_1 < (l0.length : Int)
      · rw [if_pos c4] at H
        have c4b0 : decide (x8_1 < (l0.length : Int)) = true := decide_eq_true c4
        clear c4
        have HC5 := Aside0.mk H
        clear H
        go_upto_region 4 with (fail)
        go_cut [32] (fun v32 wc => ∃ (kq : Nat) (x32_4 : Bool), v32 = .bool x32_4 ∧ Aside0 (staddleref08_Get.j1 kq l0 a1 a2 x8_1 x32_4 = some (r1, r2)) ∧ Aside0 (kq ≤ k1) ∧ Drawn0 w wc)
        case first =>
          have H := HC5.out
          clear HC5
          by_cases c6 : 0 ≤ x8_1
          · rw [if_pos c6] at H
            have c6b0 : decide (0 ≤ x8_1) = true := decide_eq_true c6
            clear c6
            (first | rw [c6b0] | (simp only [i64_w, i32_w]; rw [c6b0]) | skip)
            by_cases c7 : ((rd_T44 l0 x8_1).f0.f0).toList = a1.toList
            · rw [if_pos c7] at H
              have c7b0 : (((rd_T44 l0 x8_1).f0.f0).toList == a1.toList) = true := beq_iff_eq.mpr c7
              have c7b1 : (((rd_T44 l0 x8_1).f0.f0).toList != a1.toList) = false := bne_eq_false_iff_eq.mpr c7
              clear c7
              have H' := Aside0.mk H
              clear H
              have p296 : 0 ≤ (x8_1 : Int) := of_decide_eq_true (by first | (with_reducible assumption) | assumption)
              have q296 : x8_1 < (l0.length : Int) := of_decide_eq_true (by first | (with_reducible assumption) | assumption)
              obtain ⟨ad296, e296, hx296_0, hx296_1, hx296_2, hx296_3⟩ := at_T44 HR0.out x8_1 p296 q296
              cases e296
              replace p296 := eq_true p296
              replace q296 := eq_true q296
              have p297 : 0 ≤ (x8_1 : Int) := of_decide_eq_true (by first | (with_reducible assumption) | assumption)
              have q297 : x8_1 < (l0.length : Int) := of_decide_eq_true (by first | (with_reducible assumption) | assumption)
              obtain ⟨ad297, e297, hx297_0, hx297_1, hx297_2, hx297_3⟩ := at_T44 HR0.out x8_1 p297 q297
              obtain rfl : ad296 = ad297 := (by injection e297)
              replace p297 := eq_true p297
              replace q297 := eq_true q297
              go_wp2
              go_meet
              case rel => exact ⟨_, (decide (((rd_T44 l0 x8_1).f0.f1) ≤ a2)), (by first | rfl | (simp; done) | (simp [*]; done)), H', ⟨by have := HK1.out; first | omega | exact Nat.le_refl _⟩, by repeat (first | exact Drawn0.refl _ | apply Drawn0.step)⟩
            · rw [if_neg c7] at H
              have c7b0 : (((rd_T44 l0 x8_1).f0.f0).toList == a1.toList) = false := beq_eq_false_iff_ne.mpr c7
              have c7b1 : (((rd_T44 l0 x8_1).f0.f0).toList != a1.toList) = true := bne_iff_ne.mpr c7
              have H' := Aside0.mk H
              clear H
              have p296 : 0 ≤ (x8_1 : Int) := of_decide_eq_true (by first | (with_reducible assumption) | assumption)
              have q296 : x8_1 < (l0.length : Int) := of_decide_eq_true (by first | (with_reducible assumption) | assumption)
              obtain ⟨ad296, e296, hx296_0, hx296_1, hx296_2, hx296_3⟩ := at_T44 HR0.out x8_1 p296 q296
              cases e296
              replace p296 := eq_true p296
              replace q296 := eq_true q296
              go_wp2
              go_meet
              case rel => exact ⟨_, (false), (by first | rfl | (simp; done) | (simp [*]; done)), H', ⟨by have := HK1.out; first | omega | exact Nat.le_refl _⟩, by repeat (first | exact Drawn0.refl _ | apply Drawn0.step)⟩
          · rw [if_neg c6] at H
            exact absurd H (by simp)
        case rest =>
          clear HC5
          try clear p2
          try clear q2
          try clear hx2
          try clear c4
          try clear c4b0
          try clear c5
          try clear c6
          try clear c6b0
          try clear c7
          try clear c7b0
          try clear c7b1
          try clear hx296_0
          try clear hx296_1
          try clear hx296_2
          try clear hx296_3
          try clear hx297_0
          try clear hx297_1
          try clear hx297_2
          try clear hx297_3
          try clear p2
          try clear p296
          try clear p297
          try clear q296
          try clear q297
          obtain ⟨kq, x32_4, rfl, HA, HJ4, ⟨mc4, rfl⟩⟩ := hcut
          cases kq with
          | zero => exact absurd HA.out (by simp [staddleref08_Get.j1])
          | succ kj4 =>
            have H := HA.out
            clear HA
            simp only [staddleref08_Get.j1] at H
            by_cases c8 : x32_4 = true
            · subst c8
              have H1 : (if 0 ≤ x8_1 then (if x8_1 < (l0.length : Int) then (if ((rd_T44 l0 x8_1).f0.f2) = 0 then (some ((⟨#[]⟩ : ByteArray), 1)) else (some ((rd_T44 l0 x8_1).f1, 2))) else (none)) else (none)) = some (r1, r2) := by rw [if_pos rfl] at H; exact H
              clear H
              have H := H1
              clear H1
              by_cases c9 : 0 ≤ x8_1
              · rw [if_pos c9] at H
                have c9b0 : decide (0 ≤ x8_1) = true := decide_eq_true c9
                clear c9
                by_cases c10 : x8_1 < (l0.length : Int)
                · rw [if_pos c10] at H
                  have c10b0 : decide (x8_1 < (l0.length : Int)) = true := decide_eq_true c10
                  clear c10
                  by_cases c11 : ((rd_T44 l0 x8_1).f0.f2) = 0
                  · rw [if_pos c11] at H
                    have c11b0 : (((rd_T44 l0 x8_1).f0.f2) == 0) = true := beq_iff_eq.mpr c11
                    have c11b1 : (((rd_T44 l0 x8_1).f0.f2) != 0) = false := bne_eq_false_iff_eq.mpr c11
                    clear c11
                    simp only [Option.some.injEq, Prod.mk.injEq] at H
                    obtain ⟨rfl, rfl⟩ := H
                    have p298 : 0 ≤ (x8_1 : Int) := of_decide_eq_true (by first | (with_reducible assumption) | assumption)
                    have q298 : x8_1 < (l0.length : Int) := of_decide_eq_true (by first | (with_reducible assumption) | assumption)
                    obtain ⟨ad298, e298, hx298_0, hx298_1, hx298_2, hx298_3⟩ := at_T44 HR0.out x8_1 p298 q298
                    cases e298
                    replace p298 := eq_true p298
                    replace q298 := eq_true q298
                    go_wp2
                    go_ret2
                    exact ⟨by first | rfl | (simp; done) | (simp [*]; done), by repeat (first | exact Drawn0.refl _ | apply Drawn0.step)⟩
                  · rw [if_neg c11] at H
                    have c11b0 : (((rd_T44 l0 x8_1).f0.f2) == 0) = false := beq_eq_false_iff_ne.mpr c11
                    have c11b1 : (((rd_T44 l0 x8_1).f0.f2) != 0) = true := bne_iff_ne.mpr c11
                    simp only [Option.some.injEq, Prod.mk.injEq] at H
                    obtain ⟨rfl, rfl⟩ := H
                    have p298 : 0 ≤ (x8_1 : Int) := of_decide_eq_true (by first | (with_reducible assumption) | assumption)
                    have q298 : x8_1 < (l0.length : Int) := of_decide_eq_true (by first | (with_reducible assumption) | assumption)
                    obtain ⟨ad298, e298, hx298_0, hx298_1, hx298_2, hx298_3⟩ := at_T44 HR0.out x8_1 p298 q298
                    cases e298
                    replace p298 := eq_true p298
                    replace q298 := eq_true q298
                    have p299 : 0 ≤ (x8_1 : Int) := of_decide_eq_true (by first | (with_reducible assumption) | assumption)
                    have q299 : x8_1 < (l0.length : Int) := of_decide_eq_true (by first | (with_reducible assumption) | assumption)
                    obtain ⟨ad299, e299, hx299_0, hx299_1, hx299_2, hx299_3⟩ := at_T44 HR0.out x8_1 p299 q299
                    obtain rfl : ad298 = ad299 := (by injection e299)
                    replace p299 := eq_true p299
                    replace q299 := eq_true q299
                    go_wp2
                    go_ret2
                    exact ⟨by first | rfl | (simp; done) | (simp [*]; done), by repeat (first | exact Drawn0.refl _ | apply Drawn0.step)⟩
                · rw [if_neg c10] at H
                  exact absurd H (by simp)
              · rw [if_neg c9] at H
                exact absurd H (by simp)
            · replace c8 := Bool.eq_false_iff.mpr c8
              subst c8
              have H1 : (staddleref08_Get.l0 kj4 l0 a1 a2 (wrap64 (x8_1 + 1))) = some (r1, r2) := by rw [if_neg (show ¬ (false = true) by decide)] at H; exact H
              clear H
              have H := H1
              clear H1
              have H' := Aside0.mk H
              clear H
              go_wp2
              go_roundg kj4
              case measure => have := HK1.out; have := HJ4.out; omega
              case rel => exact ⟨(wrap64 (x8_1 + 1)), (by first | rfl | (simp; done) | (simp [*]; done)), H', ⟨by have := HK1.out; have := HJ4.out; omega⟩, by repeat (first | exact Drawn0.refl _ | apply Drawn0.step)⟩
      · rw [if_neg c4] at H
        have c4b0 : decide (x8_1 < (l0.length : Int)) = false := decide_eq_false c4
        clear c4
        simp only [Option.some.injEq, Prod.mk.injEq] at H
        obtain ⟨rfl, rfl⟩ := H
        go_wp2
        go_ret2
        exact ⟨by first | rfl | (simp; done) | (simp [*]; done), by repeat (first | exact Drawn0.refl _ | apply Drawn0.step)⟩

-- NOT PRINTED: function 54 (view_View_Seek)

-- NOT PRINTED: function 17 (staddlelaw17_ViewSees)

-- NOT PRINTED: function 18 (staddlelaw17_ViewSeeks)

-- NOT PRINTED: function 57 (view_View_Last)

-- NOT PRINTED: function 19 (staddlelaw17_ViewTurns)

-- NOT PRINTED: function 58 (staddleref17_New)

-- NOT PRINTED: function 59 (staddlelaw17_gone)

end Go.Proofs.Ytehoojmalhloeaa.PC
