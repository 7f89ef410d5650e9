/- Contracts of the document's own functions (chapters 08, 16, 17, 19) over one set of value types, written by the kit's print program. -/
import Derived.Test.YtehoojmalhloeaaPCx0
import Derived.Test.YtehoojmalhloeaaPCx2
import Derived.Test.YtehoojmalhloeaaPCx4
namespace Go.Proofs.Ytehoojmalhloeaa.PC
open Go.RowKit Go.Proofs.YtehoojmalhloeaaW.PrintWords Go.Proofs.YtehoojmalhloeaaW.PrintLast Go.Proofs.YtehoojmalhloeaaW.PrintMore
attribute [local go_sem] max2_int min2_int max_two min_two max_three min_three max_four min_four   -- for this text's walks alone
set_option linter.unusedVariables false
set_option linter.unusedSimpArgs false

attribute [local go_sem high] eqA76
/-! ### staddleref19_Split: function 28 -/
def staddleref19_Split.l0 : Nat → List (S44) → Int → List (List (S44)) → Int → Int → Int → Option ((List (List (S44))) × Int)
  | 0, _, _, _, _, _, _ => none
  | k + 1, x0, x1, x7, x8, x9, x10 => if x10 < (x0.length : Int) then (if 0 ≤ x10 then (if x10 = (wrap64 ((x0.length : Int) - 1)) then ((some (([] : List (S44)) : List (S44))).bind fun y158 => (if 0 ≤ x8 then (if x8 ≤ (wrap64 (x10 + 1)) then (if (wrap64 (x10 + 1)) ≤ (x0.length : Int) then ((some ((x0.take ((wrap64 (x10 + 1)) : Int).toNat).drop (x8 : Int).toNat : List (S44))).bind fun y161 => (if y158.length + y161.length < 2932031007402 then (if x7.length < 5864062014805 then (staddleref19_Split.l0 k x0 x1 (x7 ++ [(y158 ++ y161)]) (wrap64 (x10 + 1)) 0 (wrap64 (x10 + 1))) else (none)) else (none))) else (none)) else (none)) else (none))) else (if (wrap64 ((wrap64 ((wrap64 (x9 + (((rd_T44 x0 x10).f0.f0).size : Int))) + (((rd_T44 x0 x10).f1).size : Int))) + 16)) ≥ x1 then (if 0 ≤ (wrap64 (x10 + 1)) then (if (wrap64 (x10 + 1)) < (x0.length : Int) then (if ((rd_T44 x0 (wrap64 (x10 + 1))).f0.f0).toList = ((rd_T44 x0 x10).f0.f0).toList then (staddleref19_Split.l0 k x0 x1 x7 x8 (wrap64 ((wrap64 ((wrap64 (x9 + (((rd_T44 x0 x10).f0.f0).size : Int))) + (((rd_T44 x0 x10).f1).size : Int))) + 16)) (wrap64 (x10 + 1))) else ((some (([] : List (S44)) : List (S44))).bind fun y173 => (if 0 ≤ x8 then (if x8 ≤ (wrap64 (x10 + 1)) then (if (wrap64 (x10 + 1)) ≤ (x0.length : Int) then ((some ((x0.take ((wrap64 (x10 + 1)) : Int).toNat).drop (x8 : Int).toNat : List (S44))).bind fun y176 => (if y173.length + y176.length < 2932031007402 then (if x7.length < 5864062014805 then (staddleref19_Split.l0 k x0 x1 (x7 ++ [(y173 ++ y176)]) (wrap64 (x10 + 1)) 0 (wrap64 (x10 + 1))) else (none)) else (none))) else (none)) else (none)) else (none)))) else (none)) else (none)) else (staddleref19_Split.l0 k x0 x1 x7 x8 (wrap64 ((wrap64 ((wrap64 (x9 + (((rd_T44 x0 x10).f0.f0).size : Int))) + (((rd_T44 x0 x10).f1).size : Int))) + 16)) (wrap64 (x10 + 1))))) else (none)) else (some (x7, 0))
def staddleref19_Split.f (k : Nat) (l0 : List (S44)) (a1 : Int) : Option ((List (List (S44))) × Int) := if a1 < 1 then (some (([] : List (List (S44))), 1)) else ((staddleref16_Rises.f k l0).bind fun t155 => (if t155 = true then (staddleref19_Split.l0 k l0 a1 ([] : List (List (S44))) 0 0 0) else (some (([] : List (List (S44))), 160))))
theorem staddleref19_Split.mono_l : ∀ k, (∀ y0 y1 y2 y3 y4 y5, LeO (staddleref19_Split.l0 k y0 y1 y2 y3 y4 y5) (staddleref19_Split.l0 (k + 1) y0 y1 y2 y3 y4 y5))
  | 0 => fun _ _ _ _ _ _ r h => by simp [staddleref19_Split.l0] at h
  | k + 1 => by
    have ih0 := staddleref19_Split.mono_l k
    · intro y0 y1 y2 y3 y4 y5
      unfold staddleref19_Split.l0
      repeat' first
      | (with_reducible exact ih0 _ _ _ _ _ _)
      | (with_reducible exact staddleref16_Rises.mono _ _)
      | (with_reducible exact LeO.refl _)
      | (with_reducible exact LeO.none _)
      | (with_reducible refine LeO.ite ?_ ?_)
      | (with_reducible refine LeO.bind ?_ (fun _ => ?_))
      | exact ih0 _ _ _ _ _ _
      | exact staddleref16_Rises.mono _ _
      | exact LeO.none _
      | refine LeO.ite ?_ ?_
      | refine LeO.bind ?_ (fun _ => ?_)
theorem staddleref19_Split.mono : ∀ a0 a1 k, LeO (staddleref19_Split.f k a0 a1) (staddleref19_Split.f (k + 1) a0 a1) := by
  intro a0 a1 k
  have ih0 := staddleref19_Split.mono_l k
  unfold staddleref19_Split.f
  repeat' first
      | (with_reducible exact ih0 _ _ _ _ _ _)
      | (with_reducible exact staddleref16_Rises.mono _ _)
      | (with_reducible exact LeO.refl _)
      | (with_reducible exact LeO.none _)
      | (with_reducible refine LeO.ite ?_ ?_)
      | (with_reducible refine LeO.bind ?_ (fun _ => ?_))
      | exact ih0 _ _ _ _ _ _
      | exact staddleref16_Rises.mono _ _
      | exact LeO.none _
      | refine LeO.ite ?_ ?_
      | refine LeO.bind ?_ (fun _ => ?_)
set_option maxHeartbeats 8000000 in
set_option maxRecDepth 100000 in
theorem staddleref19_Split.calls (k : Nat) (A0 : Option Addr) (c0 : Nat) (l0 : List (S44)) (a1 : Int) (r1 : List (List (S44))) (r2 : Int) (w : World) (hr0 : Kd.C k44 w A0 l0.length l0) (hc0 : l0.length ≤ c0) (h : staddleref19_Split.f k l0 a1 = some (r1, r2)) :
    Calls Try.prog 28 #[.slice A0 l0.length c0, .int .i64 a1] w fun e w' => ∃ v0_ : Value, e = .returned (.tuple #[v0_, .int .i64 r2]) ∧ Kd.S (Kd.slice 44 k44) 22 w' w.heap.size (fun _ => True) v0_ r1 ∧ Below w.heap.size w w' := by
  have HR0 := Aside0.mk hr0
  have HC0 := Aside0.mk hc0
  clear hr0 hc0
  have HB := Aside0.mk (Below.refl w.heap.size w)
  have H : (if a1 < 1 then (some (([] : List (List (S44))), 1)) else ((staddleref16_Rises.f k l0).bind fun t155 => (if t155 = true then (staddleref19_Split.l0 k l0 a1 ([] : List (List (S44))) 0 0 0) else (some (([] : List (List (S44))), 160))))) = some (r1, r2) := h
  clear h
  by_cases c3 : a1 < 1
  · rw [if_pos c3] at H
    have c3b0 : decide (a1 < 1) = true := decide_eq_true c3
    clear c3
    simp only [Option.some.injEq, Prod.mk.injEq] at H
    obtain ⟨rfl, rfl⟩ := H
    go_enter Try.func28, Try.ntmps28
    go_wp2
    repeat (go_quiet (fail); try go_wp2)
    go_ret2
    exact ⟨_, by first | rfl | (simp [errW_none, errW_some] <;> rfl) | (simp [*, errW_none, errW_some] <;> rfl), by first | exact Kd.S_nil _ _ _ _ _ | exact Kd.N_nil _ _ _ _ _ | exact Kd.V_nil _ _ _ _ _ | exact Kd.Q_nil _ _ _ _ _ | exact Kd.R_nil _ _ _ _ _, by repeat (first | (with_reducible first | exact HB.out | apply below_alloc | apply pw_below_drewN | apply below_drew1) | exact HB.out)⟩
  · rw [if_neg c3] at H
    have c3b0 : decide (a1 < 1) = false := decide_eq_false c3
    clear c3
    replace H := Option.bind_eq_some_iff.mp H
    obtain ⟨t155, A40, H⟩ := H
    replace H : (if t155 = true then (staddleref19_Split.l0 k l0 a1 ([] : List (List (S44))) 0 0 0) else (some (([] : List (List (S44))), 160))) = some (r1, r2) := H
    have A4 := Aside0.mk A40
    clear A40
    by_cases c5 : t155 = true
    · subst c5
      have H1 : (staddleref19_Split.l0 k l0 a1 ([] : List (List (S44))) 0 0 0) = some (r1, r2) := by rw [if_pos rfl] at H; exact H
      clear H
      have H := H1
      clear H1
      have H' := Aside0.mk H
      clear H
      go_enter Try.func28, Try.ntmps28
      go_wp2_with (first | (go_at_call 29; (with_reducible refine (staddleref16_Rises.calls k _ _ l0 true _ ?side1 ?side2 A4.out).mono ?_); (case side1 => repeat (first | exact HR0.out | (with_reducible refine Kd.C_alloc ?_ _) | (with_reducible refine Kd.C_drewN ?_ _) | (with_reducible refine Kd.C_drew ?_))); (case side2 => exact HC0.out); rintro e w6 ⟨rfl, hb⟩; have n0_ := Aside0.mk (below_step (by repeat (first | (with_reducible first | exact HB.out | apply below_alloc | apply pw_below_drewN | apply below_drew1) | exact HB.out)) hb); clear HB; have HB := n0_; clear n0_; (try clear hb); (try clear hb2); (try clear hk); (try clear hi)))
      repeat (go_quiet (first | (go_at_call 29; (with_reducible refine (staddleref16_Rises.calls k _ _ l0 true _ ?side1 ?side2 A4.out).mono ?_); (case side1 => repeat (first | exact HR0.out | (with_reducible refine Kd.C_alloc ?_ _) | (with_reducible refine Kd.C_drewN ?_ _) | (with_reducible refine Kd.C_drew ?_))); (case side2 => exact HC0.out); rintro e w6 ⟨rfl, hb⟩; have n0_ := Aside0.mk (below_step (by repeat (first | (with_reducible first | exact HB.out | apply below_alloc | apply pw_below_drewN | apply below_drew1) | exact HB.out)) hb); clear HB; have HB := n0_; clear n0_; (try clear hb); (try clear hb2); (try clear hk); (try clear hi))); try go_wp2_with (first | (go_at_call 29; (with_reducible refine (staddleref16_Rises.calls k _ _ l0 true _ ?side1 ?side2 A4.out).mono ?_); (case side1 => repeat (first | exact HR0.out | (with_reducible refine Kd.C_alloc ?_ _) | (with_reducible refine Kd.C_drewN ?_ _) | (with_reducible refine Kd.C_drew ?_))); (case side2 => exact HC0.out); rintro e w6 ⟨rfl, hb⟩; have n0_ := Aside0.mk (below_step (by repeat (first | (with_reducible first | exact HB.out | apply below_alloc | apply pw_below_drewN | apply below_drew1) | exact HB.out)) hb); clear HB; have HB := n0_; clear n0_; (try clear hb); (try clear hb2); (try clear hk); (try clear hi))))
      go_loopg [7, 8, 9, 10] k (fun kq v7 v8 v9 v10 w' => ∃ (x7_1 : List (List (S44))) (x8_1 : Int) (x9_1 : Int) (x10_1 : Int), v8 = .int .i64 x8_1 ∧ v9 = .int .i64 x9_1 ∧ v10 = .int .i64 x10_1 ∧ Aside0 (staddleref19_Split.l0 kq l0 a1 x7_1 x8_1 x9_1 x10_1 = some (r1, r2)) ∧ Aside0 (kq ≤ k) ∧ Aside0 (Kd.S (Kd.slice 44 k44) 22 w' w.heap.size (fun _ => True) v7 x7_1) ∧ Aside0 (Below w.heap.size w w'))
      case atStart => exact ⟨(([] : List (List (S44)))), (0), (0), (0), (by first | rfl | (simp; done) | (simp [*]; done)), (by first | rfl | (simp; done) | (simp [*]; done)), (by first | rfl | (simp; done) | (simp [*]; done)), H', ⟨Nat.le_refl _⟩, ⟨by first | exact Kd.S_nil _ _ _ _ _ | exact Kd.N_nil _ _ _ _ _ | exact Kd.V_nil _ _ _ _ _ | exact Kd.Q_nil _ _ _ _ _ | exact Kd.R_nil _ _ _ _ _⟩, ⟨by repeat (first | (with_reducible first | exact HB.out | apply below_alloc | apply pw_below_drewN | apply below_drew1) | exact HB.out)⟩⟩
      case round =>
        clear H'
        try clear c2
        try clear p2
        try clear c3
        try clear c3b0
        try clear c5
        obtain ⟨x7_1, x8_1, x9_1, x10_1, rfl, rfl, rfl, HA, HK1, HO_7, HB⟩ := hrel
        cases gk with
        | zero => exact absurd HA.out (by simp [staddleref19_Split.l0])
        | succ k1 =>
          have H := HA.out
          clear HA
          simp only [staddleref19_Split.l0] at H
          by_cases c7 : x10_1 < (l0.length : Int)
          · rw [if_pos c7] at H
            have c7b0 : decide (x10_1 < (l0.length : Int)) = true := decide_eq_true c7
            clear c7
            by_cases c8 : 0 ≤ x10_1
            · rw [if_pos c8] at H
              have c8b0 : decide (0 ≤ x10_1) = true := decide_eq_true c8
              clear c8
              by_cases c9 : x10_1 = (wrap64 ((l0.length : Int) - 1))
              · rw [if_pos c9] at H
                have c9b0 : (x10_1 == (wrap64 ((l0.length : Int) - 1))) = true := beq_iff_eq.mpr c9
                have c9b1 : (x10_1 != (wrap64 ((l0.length : Int) - 1))) = false := bne_eq_false_iff_eq.mpr c9
                clear c9
                obtain ⟨y158, hy158⟩ : ∃ y_ : List (S44), y_ = (([] : List (S44))) := ⟨_, rfl⟩
                replace H : (if 0 ≤ x8_1 then (if x8_1 ≤ (wrap64 (x10_1 + 1)) then (if (wrap64 (x10_1 + 1)) ≤ (l0.length : Int) then ((some ((l0.take ((wrap64 (x10_1 + 1)) : Int).toNat).drop (x8_1 : Int).toNat : List (S44))).bind fun y161 => (if y158.length + y161.length < 2932031007402 then (if x7_1.length < 5864062014805 then (staddleref19_Split.l0 k1 l0 a1 (x7_1 ++ [(y158 ++ y161)]) (wrap64 (x10_1 + 1)) 0 (wrap64 (x10_1 + 1))) else (none)) else (none))) else (none)) else (none)) else (none)) = some (r1, r2) := by first | (rw [hy158]; with_reducible exact H) | (have H2_ := (Option.bind_some _ _).symm.trans H; rw [hy158]; with_reducible exact H2_) | (have H2_ := (Option.bind_some _ _).symm.trans H; with_reducible exact H2_) | with_reducible exact H | (rw [hy158]; exact H) | exact H
                have Ny158 := Aside0.mk hy158
                clear hy158
                by_cases c10 : 0 ≤ x8_1
                · rw [if_pos c10] at H
                  have c10b0 := eq_true c10
                  have c10b1 : decide (0 ≤ x8_1) = true := decide_eq_true c10
                  clear c10
                  by_cases c11 : x8_1 ≤ (wrap64 (x10_1 + 1))
                  · rw [if_pos c11] at H
                    have c11b0 := eq_true c11
                    have c11b1 : decide (x8_1 ≤ (wrap64 (x10_1 + 1))) = true := decide_eq_true c11
                    by_cases c12 : (wrap64 (x10_1 + 1)) ≤ (l0.length : Int)
                    · rw [if_pos c12] at H
                      have c12b0 := eq_true c12
                      have c12b1 : decide ((wrap64 (x10_1 + 1)) ≤ (l0.length : Int)) = true := decide_eq_true c12
                      obtain ⟨y161, hy161⟩ : ∃ y_ : List (S44), y_ = ((l0.take ((wrap64 (x10_1 + 1)) : Int).toNat).drop (x8_1 : Int).toNat) := ⟨_, rfl⟩
                      replace H : (if y158.length + y161.length < 2932031007402 then (if x7_1.length < 5864062014805 then (staddleref19_Split.l0 k1 l0 a1 (x7_1 ++ [(y158 ++ y161)]) (wrap64 (x10_1 + 1)) 0 (wrap64 (x10_1 + 1))) else (none)) else (none)) = some (r1, r2) := by first | (rw [hy161]; with_reducible exact H) | (have H2_ := (Option.bind_some _ _).symm.trans H; rw [hy161]; with_reducible exact H2_) | (have H2_ := (Option.bind_some _ _).symm.trans H; with_reducible exact H2_) | with_reducible exact H | (rw [hy161]; exact H) | exact H
                      have Ny161 := Aside0.mk hy161
                      clear hy161
                      by_cases c13 : y158.length + y161.length < 2932031007402
                      · rw [if_pos c13] at H
                        have LMc13 := Aside0.mk c13
                        clear c13
                        obtain ⟨y165, hy165⟩ : ∃ y_ : List (S44), y_ = (y158 ++ y161) := ⟨_, rfl⟩
                        replace H : (if x7_1.length < 5864062014805 then (staddleref19_Split.l0 k1 l0 a1 (x7_1 ++ [y165]) (wrap64 (x10_1 + 1)) 0 (wrap64 (x10_1 + 1))) else (none)) = some (r1, r2) := by first | (rw [hy165]; with_reducible exact H) | (have H2_ := (Option.bind_some _ _).symm.trans H; rw [hy165]; with_reducible exact H2_) | (have H2_ := (Option.bind_some _ _).symm.trans H; with_reducible exact H2_) | with_reducible exact H | (rw [hy165]; exact H) | exact H
                        have Ny165 := Aside0.mk hy165
                        clear hy165
                        by_cases c14 : x7_1.length < 5864062014805
                        · rw [if_pos c14] at H
                          have LMc14 := Aside0.mk c14
                          clear c14
                          obtain ⟨y168, hy168⟩ : ∃ y_ : List (List (S44)), y_ = (x7_1 ++ [y165]) := ⟨_, rfl⟩
                          replace H : (staddleref19_Split.l0 k1 l0 a1 y168 (wrap64 (x10_1 + 1)) 0 (wrap64 (x10_1 + 1))) = some (r1, r2) := by first | (rw [hy168]; with_reducible exact H) | (have H2_ := (Option.bind_some _ _).symm.trans H; rw [hy168]; with_reducible exact H2_) | (have H2_ := (Option.bind_some _ _).symm.trans H; with_reducible exact H2_) | with_reducible exact H | (rw [hy168]; exact H) | exact H
                          have Ny168 := Aside0.mk hy168
                          clear hy168
                          have H' := Aside0.mk H
                          clear H
                          have p156 : 0 ≤ (x10_1 : Int) := of_decide_eq_true (by first | (with_reducible assumption) | assumption)
                          have q156 : x10_1 < (l0.length : Int) := of_decide_eq_true (by first | (with_reducible assumption) | assumption)
                          obtain ⟨ad156, e156, hx156_0, hx156_1, hx156_2, hx156_3⟩ := at_T44 HR0.out x10_1 p156 q156
                          cases e156
                          replace hx156_0 := (HB.out.cell (World.block_lt_of_cell? w _ hx156_0)).trans hx156_0
                          replace hx156_1 := (HB.out.cell (World.block_lt_of_cell? w _ hx156_1)).trans hx156_1
                          replace hx156_2 := (HB.out.cell (World.block_lt_of_cell? w _ hx156_2)).trans hx156_2
                          replace hx156_3 := (HB.out.cell (World.block_lt_of_cell? w _ hx156_3)).trans hx156_3
                          replace p156 := eq_true p156
                          replace q156 := eq_true q156
                          have p157 : 0 ≤ (x10_1 : Int) := of_decide_eq_true (by first | (with_reducible assumption) | assumption)
                          have q157 : x10_1 < (l0.length : Int) := of_decide_eq_true (by first | (with_reducible assumption) | assumption)
                          obtain ⟨ad157, e157, hx157_0, hx157_1, hx157_2, hx157_3⟩ := at_T44 HR0.out x10_1 p157 q157
                          obtain rfl : ad156 = ad157 := (by injection e157)
                          replace hx157_0 := (HB.out.cell (World.block_lt_of_cell? w _ hx157_0)).trans hx157_0
                          replace hx157_1 := (HB.out.cell (World.block_lt_of_cell? w _ hx157_1)).trans hx157_1
                          replace hx157_2 := (HB.out.cell (World.block_lt_of_cell? w _ hx157_2)).trans hx157_2
                          replace hx157_3 := (HB.out.cell (World.block_lt_of_cell? w _ hx157_3)).trans hx157_3
                          replace p157 := eq_true p157
                          replace q157 := eq_true q157
                          go_wp2_with (first | ((with_reducible refine gate_dst (N := 69) rfl ?_); refine Kd.R_lit k44 _ 44 ?hg (N := 69) ?hd (xs := ([] : List (S44))) (inner := []) (ok := fun _ => True) (okp := fun _ => True) ?hr ?hp (fun _ hk => hk) trivial (Below.refl _ _) (Nat.le_refl _) (by simp) ?_; (case hd => rfl); (case hg => rfl); (case hr => first | (go_simp; done) | (go_simp; rfl)); (case hp => exact (Reps.none _ _)); intro v159 w15 ho16 hb hg_ hnew_; clear hg_ hnew_; (first | rw [← Ny158.out] at ho16 | (simp only [Int.reduceToNat] at ho16; rw [← Ny158.out] at ho16)); have n0_ := Aside0.mk (Kd.S_elder' (by (with_reducible repeat (first | apply Kd.S_alloc | apply Kd.S_drewN | apply Kd.S_drew)); exact HO_7.out) (Kd.R_base ho16) hb); have n1_ := Aside0.mk (Kd.R_lower ho16 (below_size (by repeat (first | (with_reducible first | exact HB.out | apply below_alloc | apply pw_below_drewN | apply below_drew1) | exact HB.out)))); have n2_ := Aside0.mk (below_step (by repeat (first | (with_reducible first | exact HB.out | apply below_alloc | apply pw_below_drewN | apply below_drew1) | exact HB.out)) hb); clear HO_7; clear HB; have HO_7 := n0_; have HO160 := n1_; have HB := n2_; clear n0_ n1_ n2_; clear hb ho16; have q17 : ((wrap64 (x10_1 + 1)) : Int) ≤ ((l0.length : Int) : Int) := of_decide_eq_true (by first | (with_reducible assumption) | assumption); obtain ⟨i017, hi017, _, hsz17, _⟩ := info_parts info44; have hroom17 : l0.length ≤ c0 := HC0.out; have hC17 : Kd.C k44 _ (some ad156) l0.length l0 := HR0.out; have ql17 : (x8_1 : Int) ≤ ((wrap64 (x10_1 + 1)) : Int) := of_decide_eq_true (by first | (with_reducible assumption) | assumption); have q017 : (0 : Int) ≤ (x8_1 : Int) := of_decide_eq_true (by first | (with_reducible assumption) | assumption); have hcut17 := cut_mid (P := Try.prog) 22 44 .i64 .i64 Try.underlying22 hi017 4 hsz17 (some ad156) l0.length c0 x8_1 (wrap64 (x10_1 + 1)) q017 ql17 q17 hroom17; have hr17 := Kd.C_mid (lo := (x8_1 : Int).toNat) (hi := ((wrap64 (x10_1 + 1)) : Int).toNat) (c := c0) hC17 (by omega) (by omega) hroom17; obtain ⟨A17, hA17⟩ : ∃ A1, A1 = (if c0 = (x8_1 : Int).toNat then (some ad156) else ((some ad156) : Option Addr).map (·.add ((x8_1 : Int).toNat * 4))) := ⟨_, rfl⟩; obtain ⟨c17, hc17⟩ : ∃ c1, c1 = c0 - (x8_1 : Int).toNat := ⟨_, rfl⟩; have hy17 : y161.length = ((wrap64 (x10_1 + 1)) : Int).toNat - (x8_1 : Int).toNat := (by rw [Ny161.out, List.length_drop, List.length_take] <;> omega); rw [show ((l0).take ((wrap64 (x10_1 + 1)) : Int).toNat).drop (x8_1 : Int).toNat = y161 from Ny161.out.symm] at hr17; replace hr17 : Kd.C k44 _ A17 y161.length y161 := (by rw [hA17]; exact hr17); rw [← hy17, ← hA17, ← hc17] at hcut17; have HR164 := Aside0.mk hr17; have HC164 := Aside0.mk (show y161.length ≤ c17 from by rw [hy17, hc17]; exact Nat.sub_le_sub_right (Nat.le_trans (by omega) hroom17) _); clear hr17 hC17 hroom17 hi017 hsz17 hc17; have KY17 := Aside0.mk hy17; have KA17 := Aside0.mk hA17; clear hy17 hA17; replace q17 := eq_true q17) | ((with_reducible refine gate_builtin (b := .append) (xs := #[.tmp 69, .tmp 74]) rfl ?_); at_builtin; refine Kd.R_append_rows k44 (w0 := w) w.heap.size rfl (.tmp 69) (.tmp 74) 22 44 (.agg #[(.string ⟨#[]⟩), (.int .u64 0), (.int .i64 0), (.string ⟨#[]⟩)]) 48 rfl Try.underlying22 info44 rfl (by decide) (by omega) v159 y158 y161 _ _ _ (fun _ => True) (fun _ => False) rfl rfl ?aO ?aR (fun _ _ h => h) (fun _ h => h.elim) ?aF ?aB ?aS ?aL ?_; (case aR => repeat (first | exact (Kd.C_below HR164.out HB.out) | (with_reducible refine Kd.C_alloc ?_ _) | (with_reducible refine Kd.C_drewN ?_ _) | (with_reducible refine Kd.C_drew ?_))); (case aB => exact (by repeat (first | (with_reducible first | exact HB.out | apply below_alloc | apply pw_below_drewN | apply below_drew1) | exact HB.out))); (case aF => exact (fun _ _ => trivial)); (case aO => exact (by (with_reducible repeat (first | apply Kd.R_alloc | apply Kd.R_drewN | apply Kd.R_drew)); exact HO160.out)); (case aS => exact (below_size (by repeat (first | (with_reducible first | exact HB.out | apply below_alloc | apply pw_below_drewN | apply below_drew1) | exact HB.out)))); (case aL => have := LMc13.out; omega); intro v166 w18 ho hb hg hat; rw [← Ny165.out] at ho; have n0_ := Aside0.mk (Kd.S_after (ok := (fun _ => True)) (by (with_reducible repeat (first | apply Kd.S_alloc | apply Kd.S_drewN | apply Kd.S_drew)); exact HO_7.out) hg hat); have n1_ := Aside0.mk (hb); have n2_ := Aside0.mk (ho); clear HO_7; clear HB; clear HO160; have HO_7 := n0_; have HB := n1_; have HO167 := n2_; clear n0_ n1_ n2_; clear ho hb hg hat; obtain ⟨Ao20, co20, eo20⟩ := Kd.R_slice HO167.out; subst eo20) | ((with_reducible refine gate_builtin (b := .append) (xs := #[.tmp 68, .tmp 76]) rfl ?_); at_builtin; refine Kd.S_append (Kd.slice 44 k44) (w0 := w) w.heap.size rfl (.tmp 68) (.tmp 76) 32 22 (.slice none 0 0) 24 rfl Try.underlying32 info22 rfl (by decide) (by omega) u7 x7_1 y165 [.slice Ao20 y165.length co20] (fun _ => True) (fun k_ => some k_ = (.slice Ao20 y165.length co20 : Value).ownBlock) rfl rfl ?aP (fun k_ hk_ => ((Kd.R_mono (ok' := fun k_ => ((fun _ => True)) k_ ∧ some k_ ≠ (u7 : Value).ownBlock) (Kd.R_apart' (HO167.out) (Kd.S_typed HO_7.out) (by decide)) (fun k_ hk => ⟨trivial, hk.2⟩))).1 k_ hk_.symm) ?aF ?aO ?aB ?aS ?aL ?_; (case aP => exact Kd.M_row (Kd.R_mono (Kd.R_tight rfl (Kd.R_mono (ok' := fun k_ => ((fun _ => True)) k_ ∧ some k_ ≠ (u7 : Value).ownBlock) (Kd.R_apart' (HO167.out) (Kd.S_typed HO_7.out) (by decide)) (fun k_ hk => ⟨trivial, hk.2⟩))) (fun _ h_ => h_))); (case aB => exact (by repeat (first | (with_reducible first | exact HB.out | apply below_alloc | apply pw_below_drewN | apply below_drew1) | exact HB.out))); (case aF => exact (fun _ _ => trivial)); (case aO => exact (by (with_reducible repeat (first | apply Kd.S_alloc | apply Kd.S_drewN | apply Kd.S_drew)); exact Kd.S_mono HO_7.out (fun k_ hk => ⟨trivial, fun e_ => hk.2 e_⟩))); (case aS => exact (below_size (by repeat (first | (with_reducible first | exact HB.out | apply below_alloc | apply pw_below_drewN | apply below_drew1) | exact HB.out)))); (case aL => have := LMc14.out; omega); intro v169 w19 ho hb hg hat; rw [← Ny168.out] at ho; have n0_ := Aside0.mk (hb); have n1_ := Aside0.mk (ho); clear HB; clear HO_7; clear HO167; have HB := n0_; have HO170 := n1_; clear n0_ n1_; clear ho hb hg hat))
                          repeat (go_quiet (first | ((with_reducible refine gate_dst (N := 69) rfl ?_); refine Kd.R_lit k44 _ 44 ?hg (N := 69) ?hd (xs := ([] : List (S44))) (inner := []) (ok := fun _ => True) (okp := fun _ => True) ?hr ?hp (fun _ hk => hk) trivial (Below.refl _ _) (Nat.le_refl _) (by simp) ?_; (case hd => rfl); (case hg => rfl); (case hr => first | (go_simp; done) | (go_simp; rfl)); (case hp => exact (Reps.none _ _)); intro v159 w15 ho16 hb hg_ hnew_; clear hg_ hnew_; (first | rw [← Ny158.out] at ho16 | (simp only [Int.reduceToNat] at ho16; rw [← Ny158.out] at ho16)); have n0_ := Aside0.mk (Kd.S_elder' (by (with_reducible repeat (first | apply Kd.S_alloc | apply Kd.S_drewN | apply Kd.S_drew)); exact HO_7.out) (Kd.R_base ho16) hb); have n1_ := Aside0.mk (Kd.R_lower ho16 (below_size (by repeat (first | (with_reducible first | exact HB.out | apply below_alloc | apply pw_below_drewN | apply below_drew1) | exact HB.out)))); have n2_ := Aside0.mk (below_step (by repeat (first | (with_reducible first | exact HB.out | apply below_alloc | apply pw_below_drewN | apply below_drew1) | exact HB.out)) hb); clear HO_7; clear HB; have HO_7 := n0_; have HO160 := n1_; have HB := n2_; clear n0_ n1_ n2_; clear hb ho16; have q17 : ((wrap64 (x10_1 + 1)) : Int) ≤ ((l0.length : Int) : Int) := of_decide_eq_true (by first | (with_reducible assumption) | assumption); obtain ⟨i017, hi017, _, hsz17, _⟩ := info_parts info44; have hroom17 : l0.length ≤ c0 := HC0.out; have hC17 : Kd.C k44 _ (some ad156) l0.length l0 := HR0.out; have ql17 : (x8_1 : Int) ≤ ((wrap64 (x10_1 + 1)) : Int) := of_decide_eq_true (by first | (with_reducible assumption) | assumption); have q017 : (0 : Int) ≤ (x8_1 : Int) := of_decide_eq_true (by first | (with_reducible assumption) | assumption); have hcut17 := cut_mid (P := Try.prog) 22 44 .i64 .i64 Try.underlying22 hi017 4 hsz17 (some ad156) l0.length c0 x8_1 (wrap64 (x10_1 + 1)) q017 ql17 q17 hroom17; have hr17 := Kd.C_mid (lo := (x8_1 : Int).toNat) (hi := ((wrap64 (x10_1 + 1)) : Int).toNat) (c := c0) hC17 (by omega) (by omega) hroom17; obtain ⟨A17, hA17⟩ : ∃ A1, A1 = (if c0 = (x8_1 : Int).toNat then (some ad156) else ((some ad156) : Option Addr).map (·.add ((x8_1 : Int).toNat * 4))) := ⟨_, rfl⟩; obtain ⟨c17, hc17⟩ : ∃ c1, c1 = c0 - (x8_1 : Int).toNat := ⟨_, rfl⟩; have hy17 : y161.length = ((wrap64 (x10_1 + 1)) : Int).toNat - (x8_1 : Int).toNat := (by rw [Ny161.out, List.length_drop, List.length_take] <;> omega); rw [show ((l0).take ((wrap64 (x10_1 + 1)) : Int).toNat).drop (x8_1 : Int).toNat = y161 from Ny161.out.symm] at hr17; replace hr17 : Kd.C k44 _ A17 y161.length y161 := (by rw [hA17]; exact hr17); rw [← hy17, ← hA17, ← hc17] at hcut17; have HR164 := Aside0.mk hr17; have HC164 := Aside0.mk (show y161.length ≤ c17 from by rw [hy17, hc17]; exact Nat.sub_le_sub_right (Nat.le_trans (by omega) hroom17) _); clear hr17 hC17 hroom17 hi017 hsz17 hc17; have KY17 := Aside0.mk hy17; have KA17 := Aside0.mk hA17; clear hy17 hA17; replace q17 := eq_true q17) | ((with_reducible refine gate_builtin (b := .append) (xs := #[.tmp 69, .tmp 74]) rfl ?_); at_builtin; refine Kd.R_append_rows k44 (w0 := w) w.heap.size rfl (.tmp 69) (.tmp 74) 22 44 (.agg #[(.string ⟨#[]⟩), (.int .u64 0), (.int .i64 0), (.string ⟨#[]⟩)]) 48 rfl Try.underlying22 info44 rfl (by decide) (by omega) v159 y158 y161 _ _ _ (fun _ => True) (fun _ => False) rfl rfl ?aO ?aR (fun _ _ h => h) (fun _ h => h.elim) ?aF ?aB ?aS ?aL ?_; (case aR => repeat (first | exact (Kd.C_below HR164.out HB.out) | (with_reducible refine Kd.C_alloc ?_ _) | (with_reducible refine Kd.C_drewN ?_ _) | (with_reducible refine Kd.C_drew ?_))); (case aB => exact (by repeat (first | (with_reducible first | exact HB.out | apply below_alloc | apply pw_below_drewN | apply below_drew1) | exact HB.out))); (case aF => exact (fun _ _ => trivial)); (case aO => exact (by (with_reducible repeat (first | apply Kd.R_alloc | apply Kd.R_drewN | apply Kd.R_drew)); exact HO160.out)); (case aS => exact (below_size (by repeat (first | (with_reducible first | exact HB.out | apply below_alloc | apply pw_below_drewN | apply below_drew1) | exact HB.out)))); (case aL => have := LMc13.out; omega); intro v166 w18 ho hb hg hat; rw [← Ny165.out] at ho; have n0_ := Aside0.mk (Kd.S_after (ok := (fun _ => True)) (by (with_reducible repeat (first | apply Kd.S_alloc | apply Kd.S_drewN | apply Kd.S_drew)); exact HO_7.out) hg hat); have n1_ := Aside0.mk (hb); have n2_ := Aside0.mk (ho); clear HO_7; clear HB; clear HO160; have HO_7 := n0_; have HB := n1_; have HO167 := n2_; clear n0_ n1_ n2_; clear ho hb hg hat; obtain ⟨Ao20, co20, eo20⟩ := Kd.R_slice HO167.out; subst eo20) | ((with_reducible refine gate_builtin (b := .append) (xs := #[.tmp 68, .tmp 76]) rfl ?_); at_builtin; refine Kd.S_append (Kd.slice 44 k44) (w0 := w) w.heap.size rfl (.tmp 68) (.tmp 76) 32 22 (.slice none 0 0) 24 rfl Try.underlying32 info22 rfl (by decide) (by omega) u7 x7_1 y165 [.slice Ao20 y165.length co20] (fun _ => True) (fun k_ => some k_ = (.slice Ao20 y165.length co20 : Value).ownBlock) rfl rfl ?aP (fun k_ hk_ => ((Kd.R_mono (ok' := fun k_ => ((fun _ => True)) k_ ∧ some k_ ≠ (u7 : Value).ownBlock) (Kd.R_apart' (HO167.out) (Kd.S_typed HO_7.out) (by decide)) (fun k_ hk => ⟨trivial, hk.2⟩))).1 k_ hk_.symm) ?aF ?aO ?aB ?aS ?aL ?_; (case aP => exact Kd.M_row (Kd.R_mono (Kd.R_tight rfl (Kd.R_mono (ok' := fun k_ => ((fun _ => True)) k_ ∧ some k_ ≠ (u7 : Value).ownBlock) (Kd.R_apart' (HO167.out) (Kd.S_typed HO_7.out) (by decide)) (fun k_ hk => ⟨trivial, hk.2⟩))) (fun _ h_ => h_))); (case aB => exact (by repeat (first | (with_reducible first | exact HB.out | apply below_alloc | apply pw_below_drewN | apply below_drew1) | exact HB.out))); (case aF => exact (fun _ _ => trivial)); (case aO => exact (by (with_reducible repeat (first | apply Kd.S_alloc | apply Kd.S_drewN | apply Kd.S_drew)); exact Kd.S_mono HO_7.out (fun k_ hk => ⟨trivial, fun e_ => hk.2 e_⟩))); (case aS => exact (below_size (by repeat (first | (with_reducible first | exact HB.out | apply below_alloc | apply pw_below_drewN | apply below_drew1) | exact HB.out)))); (case aL => have := LMc14.out; omega); intro v169 w19 ho hb hg hat; rw [← Ny168.out] at ho; have n0_ := Aside0.mk (hb); have n1_ := Aside0.mk (ho); clear HB; clear HO_7; clear HO167; have HB := n0_; have HO170 := n1_; clear n0_ n1_; clear ho hb hg hat)); try go_wp2_with (first | ((with_reducible refine gate_dst (N := 69) rfl ?_); refine Kd.R_lit k44 _ 44 ?hg (N := 69) ?hd (xs := ([] : List (S44))) (inner := []) (ok := fun _ => True) (okp := fun _ => True) ?hr ?hp (fun _ hk => hk) trivial (Below.refl _ _) (Nat.le_refl _) (by simp) ?_; (case hd => rfl); (case hg => rfl); (case hr => first | (go_simp; done) | (go_simp; rfl)); (case hp => exact (Reps.none _ _)); intro v159 w15 ho16 hb hg_ hnew_; clear hg_ hnew_; (first | rw [← Ny158.out] at ho16 | (simp only [Int.reduceToNat] at ho16; rw [← Ny158.out] at ho16)); have n0_ := Aside0.mk (Kd.S_elder' (by (with_reducible repeat (first | apply Kd.S_alloc | apply Kd.S_drewN | apply Kd.S_drew)); exact HO_7.out) (Kd.R_base ho16) hb); have n1_ := Aside0.mk (Kd.R_lower ho16 (below_size (by repeat (first | (with_reducible first | exact HB.out | apply below_alloc | apply pw_below_drewN | apply below_drew1) | exact HB.out)))); have n2_ := Aside0.mk (below_step (by repeat (first | (with_reducible first | exact HB.out | apply below_alloc | apply pw_below_drewN | apply below_drew1) | exact HB.out)) hb); clear HO_7; clear HB; have HO_7 := n0_; have HO160 := n1_; have HB := n2_; clear n0_ n1_ n2_; clear hb ho16; have q17 : ((wrap64 (x10_1 + 1)) : Int) ≤ ((l0.length : Int) : Int) := of_decide_eq_true (by first | (with_reducible assumption) | assumption); obtain ⟨i017, hi017, _, hsz17, _⟩ := info_parts info44; have hroom17 : l0.length ≤ c0 := HC0.out; have hC17 : Kd.C k44 _ (some ad156) l0.length l0 := HR0.out; have ql17 : (x8_1 : Int) ≤ ((wrap64 (x10_1 + 1)) : Int) := of_decide_eq_true (by first | (with_reducible assumption) | assumption); have q017 : (0 : Int) ≤ (x8_1 : Int) := of_decide_eq_true (by first | (with_reducible assumption) | assumption); have hcut17 := cut_mid (P := Try.prog) 22 44 .i64 .i64 Try.underlying22 hi017 4 hsz17 (some ad156) l0.length c0 x8_1 (wrap64 (x10_1 + 1)) q017 ql17 q17 hroom17; have hr17 := Kd.C_mid (lo := (x8_1 : Int).toNat) (hi := ((wrap64 (x10_1 + 1)) : Int).toNat) (c := c0) hC17 (by omega) (by omega) hroom17; obtain ⟨A17, hA17⟩ : ∃ A1, A1 = (if c0 = (x8_1 : Int).toNat then (some ad156) else ((some ad156) : Option Addr).map (·.add ((x8_1 : Int).toNat * 4))) := ⟨_, rfl⟩; obtain ⟨c17, hc17⟩ : ∃ c1, c1 = c0 - (x8_1 : Int).toNat := ⟨_, rfl⟩; have hy17 : y161.length = ((wrap64 (x10_1 + 1)) : Int).toNat - (x8_1 : Int).toNat := (by rw [Ny161.out, List.length_drop, List.length_take] <;> omega); rw [show ((l0).take ((wrap64 (x10_1 + 1)) : Int).toNat).drop (x8_1 : Int).toNat = y161 from Ny161.out.symm] at hr17; replace hr17 : Kd.C k44 _ A17 y161.length y161 := (by rw [hA17]; exact hr17); rw [← hy17, ← hA17, ← hc17] at hcut17; have HR164 := Aside0.mk hr17; have HC164 := Aside0.mk (show y161.length ≤ c17 from by rw [hy17, hc17]; exact Nat.sub_le_sub_right (Nat.le_trans (by omega) hroom17) _); clear hr17 hC17 hroom17 hi017 hsz17 hc17; have KY17 := Aside0.mk hy17; have KA17 := Aside0.mk hA17; clear hy17 hA17; replace q17 := eq_true q17) | ((with_reducible refine gate_builtin (b := .append) (xs := #[.tmp 69, .tmp 74]) rfl ?_); at_builtin; refine Kd.R_append_rows k44 (w0 := w) w.heap.size rfl (.tmp 69) (.tmp 74) 22 44 (.agg #[(.string ⟨#[]⟩), (.int .u64 0), (.int .i64 0), (.string ⟨#[]⟩)]) 48 rfl Try.underlying22 info44 rfl (by decide) (by omega) v159 y158 y161 _ _ _ (fun _ => True) (fun _ => False) rfl rfl ?aO ?aR (fun _ _ h => h) (fun _ h => h.elim) ?aF ?aB ?aS ?aL ?_; (case aR => repeat (first | exact (Kd.C_below HR164.out HB.out) | (with_reducible refine Kd.C_alloc ?_ _) | (with_reducible refine Kd.C_drewN ?_ _) | (with_reducible refine Kd.C_drew ?_))); (case aB => exact (by repeat (first | (with_reducible first | exact HB.out | apply below_alloc | apply pw_below_drewN | apply below_drew1) | exact HB.out))); (case aF => exact (fun _ _ => trivial)); (case aO => exact (by (with_reducible repeat (first | apply Kd.R_alloc | apply Kd.R_drewN | apply Kd.R_drew)); exact HO160.out)); (case aS => exact (below_size (by repeat (first | (with_reducible first | exact HB.out | apply below_alloc | apply pw_below_drewN | apply below_drew1) | exact HB.out)))); (case aL => have := LMc13.out; omega); intro v166 w18 ho hb hg hat; rw [← Ny165.out] at ho; have n0_ := Aside0.mk (Kd.S_after (ok := (fun _ => True)) (by (with_reducible repeat (first | apply Kd.S_alloc | apply Kd.S_drewN | apply Kd.S_drew)); exact HO_7.out) hg hat); have n1_ := Aside0.mk (hb); have n2_ := Aside0.mk (ho); clear HO_7; clear HB; clear HO160; have HO_7 := n0_; have HB := n1_; have HO167 := n2_; clear n0_ n1_ n2_; clear ho hb hg hat; obtain ⟨Ao20, co20, eo20⟩ := Kd.R_slice HO167.out; subst eo20) | ((with_reducible refine gate_builtin (b := .append) (xs := #[.tmp 68, .tmp 76]) rfl ?_); at_builtin; refine Kd.S_append (Kd.slice 44 k44) (w0 := w) w.heap.size rfl (.tmp 68) (.tmp 76) 32 22 (.slice none 0 0) 24 rfl Try.underlying32 info22 rfl (by decide) (by omega) u7 x7_1 y165 [.slice Ao20 y165.length co20] (fun _ => True) (fun k_ => some k_ = (.slice Ao20 y165.length co20 : Value).ownBlock) rfl rfl ?aP (fun k_ hk_ => ((Kd.R_mono (ok' := fun k_ => ((fun _ => True)) k_ ∧ some k_ ≠ (u7 : Value).ownBlock) (Kd.R_apart' (HO167.out) (Kd.S_typed HO_7.out) (by decide)) (fun k_ hk => ⟨trivial, hk.2⟩))).1 k_ hk_.symm) ?aF ?aO ?aB ?aS ?aL ?_; (case aP => exact Kd.M_row (Kd.R_mono (Kd.R_tight rfl (Kd.R_mono (ok' := fun k_ => ((fun _ => True)) k_ ∧ some k_ ≠ (u7 : Value).ownBlock) (Kd.R_apart' (HO167.out) (Kd.S_typed HO_7.out) (by decide)) (fun k_ hk => ⟨trivial, hk.2⟩))) (fun _ h_ => h_))); (case aB => exact (by repeat (first | (with_reducible first | exact HB.out | apply below_alloc | apply pw_below_drewN | apply below_drew1) | exact HB.out))); (case aF => exact (fun _ _ => trivial)); (case aO => exact (by (with_reducible repeat (first | apply Kd.S_alloc | apply Kd.S_drewN | apply Kd.S_drew)); exact Kd.S_mono HO_7.out (fun k_ hk => ⟨trivial, fun e_ => hk.2 e_⟩))); (case aS => exact (below_size (by repeat (first | (with_reducible first | exact HB.out | apply below_alloc | apply pw_below_drewN | apply below_drew1) | exact HB.out)))); (case aL => have := LMc14.out; omega); intro v169 w19 ho hb hg hat; rw [← Ny168.out] at ho; have n0_ := Aside0.mk (hb); have n1_ := Aside0.mk (ho); clear HB; clear HO_7; clear HO167; have HB := n0_; have HO170 := n1_; clear n0_ n1_; clear ho hb hg hat)))
                          go_roundg k1
                          case measure => have := HK1.out; omega
                          case rel => exact ⟨(y168), (wrap64 (x10_1 + 1)), (0), (wrap64 (x10_1 + 1)), (by first | rfl | (simp; done) | (simp [*]; done)), (by first | rfl | (simp; done) | (simp [*]; done)), (by first | rfl | (simp; done) | (simp [*]; done)), H', ⟨by have := HK1.out; omega⟩, ⟨by (with_reducible repeat (first | apply Kd.S_alloc | apply Kd.S_drewN | apply Kd.S_drew)); exact HO170.out⟩, ⟨by repeat (first | (with_reducible first | exact HB.out | apply below_alloc | apply pw_below_drewN | apply below_drew1) | exact HB.out)⟩⟩
                        · rw [if_neg c14] at H
                          exact absurd H (by simp)
                      · rw [if_neg c13] at H
                        exact absurd H (by simp)
                    · rw [if_neg c12] at H
                      exact absurd H (by simp)
                  · rw [if_neg c11] at H
                    exact absurd H (by simp)
                · rw [if_neg c10] at H
                  exact absurd H (by simp)
              · rw [if_neg c9] at H
                have c9b0 : (x10_1 == (wrap64 ((l0.length : Int) - 1))) = false := beq_eq_false_iff_ne.mpr c9
                have c9b1 : (x10_1 != (wrap64 ((l0.length : Int) - 1))) = true := bne_iff_ne.mpr c9
                by_cases c21 : (wrap64 ((wrap64 ((wrap64 (x9_1 + (((rd_T44 l0 x10_1).f0.f0).size : Int))) + (((rd_T44 l0 x10_1).f1).size : Int))) + 16)) ≥ a1
                · rw [if_pos c21] at H
                  have c21b0 : decide (a1 ≤ (wrap64 ((wrap64 ((wrap64 (x9_1 + (((rd_T44 l0 x10_1).f0.f0).size : Int))) + (((rd_T44 l0 x10_1).f1).size : Int))) + 16))) = true := decide_eq_true c21
                  clear c21
                  obtain ⟨ji22, hji22⟩ : ∃ j_ : Int, (wrap64 (x10_1 + 1)) = j_ := ⟨_, rfl⟩
                  replace H : (if 0 ≤ (ji22) then (if (ji22) < (l0.length : Int) then (if ((rd_T44 l0 (ji22)).f0.f0).toList = ((rd_T44 l0 x10_1).f0.f0).toList then (staddleref19_Split.l0 k1 l0 a1 x7_1 x8_1 (wrap64 ((wrap64 ((wrap64 (x9_1 + (((rd_T44 l0 x10_1).f0.f0).size : Int))) + (((rd_T44 l0 x10_1).f1).size : Int))) + 16)) ji22) else ((some (([] : List (S44)) : List (S44))).bind fun y173 => (if 0 ≤ x8_1 then (if x8_1 ≤ (ji22) then (if (ji22) ≤ (l0.length : Int) then ((some ((l0.take ((ji22) : Int).toNat).drop (x8_1 : Int).toNat : List (S44))).bind fun y176 => (if y173.length + y176.length < 2932031007402 then (if x7_1.length < 5864062014805 then (staddleref19_Split.l0 k1 l0 a1 (x7_1 ++ [(y173 ++ y176)]) ji22 0 ji22) else (none)) else (none))) else (none)) else (none)) else (none)))) else (none)) else (none)) = some (r1, r2) := by first | (rw [hji22] at H; exact H) | (simp only [hji22] at H ⊢; exact H)
                  have hji22w : (IntKind.i64.wrap (x10_1 + 1)) = ji22 := (i64_w _).trans hji22
                  by_cases c23 : 0 ≤ (ji22)
                  · rw [if_pos c23] at H
                    have c23b0 : decide (0 ≤ (ji22)) = true := decide_eq_true c23
                    clear c23
                    by_cases c24 : (ji22) < (l0.length : Int)
                    · rw [if_pos c24] at H
                      have c24b0 : decide ((ji22) < (l0.length : Int)) = true := decide_eq_true c24
                      clear c24
                      by_cases c25 : ((rd_T44 l0 (ji22)).f0.f0).toList = ((rd_T44 l0 x10_1).f0.f0).toList
                      · rw [if_pos c25] at H
                        have c25b0 : (((rd_T44 l0 (ji22)).f0.f0).toList == ((rd_T44 l0 x10_1).f0.f0).toList) = true := beq_iff_eq.mpr c25
                        have c25b1 : (((rd_T44 l0 (ji22)).f0.f0).toList != ((rd_T44 l0 x10_1).f0.f0).toList) = false := bne_eq_false_iff_eq.mpr c25
                        clear c25
                        have H' := Aside0.mk H
                        clear H
                        have p156 : 0 ≤ (x10_1 : Int) := of_decide_eq_true (by first | (with_reducible assumption) | assumption)
                        have q156 : x10_1 < (l0.length : Int) := of_decide_eq_true (by first | (with_reducible assumption) | assumption)
                        obtain ⟨ad156, e156, hx156_0, hx156_1, hx156_2, hx156_3⟩ := at_T44 HR0.out x10_1 p156 q156
                        cases e156
                        replace hx156_0 := (HB.out.cell (World.block_lt_of_cell? w _ hx156_0)).trans hx156_0
                        replace hx156_1 := (HB.out.cell (World.block_lt_of_cell? w _ hx156_1)).trans hx156_1
                        replace hx156_2 := (HB.out.cell (World.block_lt_of_cell? w _ hx156_2)).trans hx156_2
                        replace hx156_3 := (HB.out.cell (World.block_lt_of_cell? w _ hx156_3)).trans hx156_3
                        replace p156 := eq_true p156
                        replace q156 := eq_true q156
                        have p157 : 0 ≤ (x10_1 : Int) := of_decide_eq_true (by first | (with_reducible assumption) | assumption)
                        have q157 : x10_1 < (l0.length : Int) := of_decide_eq_true (by first | (with_reducible assumption) | assumption)
                        obtain ⟨ad157, e157, hx157_0, hx157_1, hx157_2, hx157_3⟩ := at_T44 HR0.out x10_1 p157 q157
                        obtain rfl : ad156 = ad157 := (by injection e157)
                        replace hx157_0 := (HB.out.cell (World.block_lt_of_cell? w _ hx157_0)).trans hx157_0
                        replace hx157_1 := (HB.out.cell (World.block_lt_of_cell? w _ hx157_1)).trans hx157_1
                        replace hx157_2 := (HB.out.cell (World.block_lt_of_cell? w _ hx157_2)).trans hx157_2
                        replace hx157_3 := (HB.out.cell (World.block_lt_of_cell? w _ hx157_3)).trans hx157_3
                        replace p157 := eq_true p157
                        replace q157 := eq_true q157
                        have p171 : 0 ≤ ((ji22) : Int) := of_decide_eq_true (by first | (with_reducible assumption) | assumption)
                        have q171 : (ji22) < (l0.length : Int) := of_decide_eq_true (by first | (with_reducible assumption) | assumption)
                        obtain ⟨ad171, e171, hx171_0, hx171_1, hx171_2, hx171_3⟩ := at_T44 HR0.out (ji22) p171 q171
                        obtain rfl : ad156 = ad171 := (by injection e171)
                        replace hx171_0 := (HB.out.cell (World.block_lt_of_cell? w _ hx171_0)).trans hx171_0
                        replace hx171_1 := (HB.out.cell (World.block_lt_of_cell? w _ hx171_1)).trans hx171_1
                        replace hx171_2 := (HB.out.cell (World.block_lt_of_cell? w _ hx171_2)).trans hx171_2
                        replace hx171_3 := (HB.out.cell (World.block_lt_of_cell? w _ hx171_3)).trans hx171_3
                        replace p171 := eq_true p171
                        replace q171 := eq_true q171
                        have p172 : 0 ≤ (x10_1 : Int) := of_decide_eq_true (by first | (with_reducible assumption) | assumption)
                        have q172 : x10_1 < (l0.length : Int) := of_decide_eq_true (by first | (with_reducible assumption) | assumption)
                        obtain ⟨ad172, e172, hx172_0, hx172_1, hx172_2, hx172_3⟩ := at_T44 HR0.out x10_1 p172 q172
                        obtain rfl : ad156 = ad172 := (by injection e172)
                        replace hx172_0 := (HB.out.cell (World.block_lt_of_cell? w _ hx172_0)).trans hx172_0
                        replace hx172_1 := (HB.out.cell (World.block_lt_of_cell? w _ hx172_1)).trans hx172_1
                        replace hx172_2 := (HB.out.cell (World.block_lt_of_cell? w _ hx172_2)).trans hx172_2
                        replace hx172_3 := (HB.out.cell (World.block_lt_of_cell? w _ hx172_3)).trans hx172_3
                        replace p172 := eq_true p172
                        replace q172 := eq_true q172
                        go_wp2
                        repeat (go_quiet (fail); try go_wp2)
                        go_roundg k1
                        case measure => have := HK1.out; omega
                        case rel => exact ⟨(x7_1), (x8_1), (wrap64 ((wrap64 ((wrap64 (x9_1 + (((rd_T44 l0 x10_1).f0.f0).size : Int))) + (((rd_T44 l0 x10_1).f1).size : Int))) + 16)), (ji22), (by first | rfl | (simp; done) | (simp [*]; done)), (by first | rfl | (simp; done) | (simp [*]; done)), (by first | rfl | (simp; done) | (simp only [← hji22] <;> (first | rfl | simp)) | (simp [*]; done)), H', ⟨by have := HK1.out; omega⟩, ⟨by (with_reducible repeat (first | apply Kd.S_alloc | apply Kd.S_drewN | apply Kd.S_drew)); exact HO_7.out⟩, ⟨by repeat (first | (with_reducible first | exact HB.out | apply below_alloc | apply pw_below_drewN | apply below_drew1) | exact HB.out)⟩⟩
                      · rw [if_neg c25] at H
                        have c25b0 : (((rd_T44 l0 (ji22)).f0.f0).toList == ((rd_T44 l0 x10_1).f0.f0).toList) = false := beq_eq_false_iff_ne.mpr c25
                        have c25b1 : (((rd_T44 l0 (ji22)).f0.f0).toList != ((rd_T44 l0 x10_1).f0.f0).toList) = true := bne_iff_ne.mpr c25
                        obtain ⟨y173, hy173⟩ : ∃ y_ : List (S44), y_ = (([] : List (S44))) := ⟨_, rfl⟩
                        replace H : (if 0 ≤ x8_1 then (if x8_1 ≤ (ji22) then (if (ji22) ≤ (l0.length : Int) then ((some ((l0.take ((ji22) : Int).toNat).drop (x8_1 : Int).toNat : List (S44))).bind fun y176 => (if y173.length + y176.length < 2932031007402 then (if x7_1.length < 5864062014805 then (staddleref19_Split.l0 k1 l0 a1 (x7_1 ++ [(y173 ++ y176)]) ji22 0 ji22) else (none)) else (none))) else (none)) else (none)) else (none)) = some (r1, r2) := by first | (rw [hy173]; with_reducible exact H) | (have H2_ := (Option.bind_some _ _).symm.trans H; rw [hy173]; with_reducible exact H2_) | (have H2_ := (Option.bind_some _ _).symm.trans H; with_reducible exact H2_) | with_reducible exact H | (rw [hy173]; exact H) | exact H
                        have Ny173 := Aside0.mk hy173
                        clear hy173
                        by_cases c26 : 0 ≤ x8_1
                        · rw [if_pos c26] at H
                          have c26b0 := eq_true c26
                          have c26b1 : decide (0 ≤ x8_1) = true := decide_eq_true c26
                          clear c26
                          by_cases c27 : x8_1 ≤ (ji22)
                          · rw [if_pos c27] at H
                            have c27b0 := eq_true c27
                            have c27b1 : decide (x8_1 ≤ (ji22)) = true := decide_eq_true c27
                            clear c27
                            by_cases c28 : (ji22) ≤ (l0.length : Int)
                            · rw [if_pos c28] at H
                              have c28b0 := eq_true c28
                              have c28b1 : decide ((ji22) ≤ (l0.length : Int)) = true := decide_eq_true c28
                              clear c28
                              obtain ⟨y176, hy176⟩ : ∃ y_ : List (S44), y_ = ((l0.take ((ji22) : Int).toNat).drop (x8_1 : Int).toNat) := ⟨_, rfl⟩
                              replace H : (if y173.length + y176.length < 2932031007402 then (if x7_1.length < 5864062014805 then (staddleref19_Split.l0 k1 l0 a1 (x7_1 ++ [(y173 ++ y176)]) ji22 0 ji22) else (none)) else (none)) = some (r1, r2) := by first | (rw [hy176]; with_reducible exact H) | (have H2_ := (Option.bind_some _ _).symm.trans H; rw [hy176]; with_reducible exact H2_) | (have H2_ := (Option.bind_some _ _).symm.trans H; with_reducible exact H2_) | with_reducible exact H | (rw [hy176]; exact H) | exact H
                              have Ny176 := Aside0.mk hy176
                              clear hy176
                              by_cases c29 : y173.length + y176.length < 2932031007402
                              · rw [if_pos c29] at H
                                have LMc29 := Aside0.mk c29
                                clear c29
                                obtain ⟨y180, hy180⟩ : ∃ y_ : List (S44), y_ = (y173 ++ y176) := ⟨_, rfl⟩
                                replace H : (if x7_1.length < 5864062014805 then (staddleref19_Split.l0 k1 l0 a1 (x7_1 ++ [y180]) ji22 0 ji22) else (none)) = some (r1, r2) := by first | (rw [hy180]; with_reducible exact H) | (have H2_ := (Option.bind_some _ _).symm.trans H; rw [hy180]; with_reducible exact H2_) | (have H2_ := (Option.bind_some _ _).symm.trans H; with_reducible exact H2_) | with_reducible exact H | (rw [hy180]; exact H) | exact H
                                have Ny180 := Aside0.mk hy180
                                clear hy180
                                by_cases c30 : x7_1.length < 5864062014805
                                · rw [if_pos c30] at H
                                  have LMc30 := Aside0.mk c30
                                  clear c30
                                  obtain ⟨y183, hy183⟩ : ∃ y_ : List (List (S44)), y_ = (x7_1 ++ [y180]) := ⟨_, rfl⟩
                                  replace H : (staddleref19_Split.l0 k1 l0 a1 y183 ji22 0 ji22) = some (r1, r2) := by first | (rw [hy183]; with_reducible exact H) | (have H2_ := (Option.bind_some _ _).symm.trans H; rw [hy183]; with_reducible exact H2_) | (have H2_ := (Option.bind_some _ _).symm.trans H; with_reducible exact H2_) | with_reducible exact H | (rw [hy183]; exact H) | exact H
                                  have Ny183 := Aside0.mk hy183
                                  clear hy183
                                  have H' := Aside0.mk H
                                  clear H
                                  have p156 : 0 ≤ (x10_1 : Int) := of_decide_eq_true (by first | (with_reducible assumption) | assumption)
                                  have q156 : x10_1 < (l0.length : Int) := of_decide_eq_true (by first | (with_reducible assumption) | assumption)
                                  obtain ⟨ad156, e156, hx156_0, hx156_1, hx156_2, hx156_3⟩ := at_T44 HR0.out x10_1 p156 q156
                                  cases e156
                                  replace hx156_0 := (HB.out.cell (World.block_lt_of_cell? w _ hx156_0)).trans hx156_0
                                  replace hx156_1 := (HB.out.cell (World.block_lt_of_cell? w _ hx156_1)).trans hx156_1
                                  replace hx156_2 := (HB.out.cell (World.block_lt_of_cell? w _ hx156_2)).trans hx156_2
                                  replace hx156_3 := (HB.out.cell (World.block_lt_of_cell? w _ hx156_3)).trans hx156_3
                                  replace p156 := eq_true p156
                                  replace q156 := eq_true q156
                                  have p157 : 0 ≤ (x10_1 : Int) := of_decide_eq_true (by first | (with_reducible assumption) | assumption)
                                  have q157 : x10_1 < (l0.length : Int) := of_decide_eq_true (by first | (with_reducible assumption) | assumption)
                                  obtain ⟨ad157, e157, hx157_0, hx157_1, hx157_2, hx157_3⟩ := at_T44 HR0.out x10_1 p157 q157
                                  obtain rfl : ad156 = ad157 := (by injection e157)
                                  replace hx157_0 := (HB.out.cell (World.block_lt_of_cell? w _ hx157_0)).trans hx157_0
                                  replace hx157_1 := (HB.out.cell (World.block_lt_of_cell? w _ hx157_1)).trans hx157_1
                                  replace hx157_2 := (HB.out.cell (World.block_lt_of_cell? w _ hx157_2)).trans hx157_2
                                  replace hx157_3 := (HB.out.cell (World.block_lt_of_cell? w _ hx157_3)).trans hx157_3
                                  replace p157 := eq_true p157
                                  replace q157 := eq_true q157
                                  have p171 : 0 ≤ ((ji22) : Int) := of_decide_eq_true (by first | (with_reducible assumption) | assumption)
                                  have q171 : (ji22) < (l0.length : Int) := of_decide_eq_true (by first | (with_reducible assumption) | assumption)
                                  obtain ⟨ad171, e171, hx171_0, hx171_1, hx171_2, hx171_3⟩ := at_T44 HR0.out (ji22) p171 q171
                                  obtain rfl : ad156 = ad171 := (by injection e171)
                                  replace hx171_0 := (HB.out.cell (World.block_lt_of_cell? w _ hx171_0)).trans hx171_0
                                  replace hx171_1 := (HB.out.cell (World.block_lt_of_cell? w _ hx171_1)).trans hx171_1
                                  replace hx171_2 := (HB.out.cell (World.block_lt_of_cell? w _ hx171_2)).trans hx171_2
                                  replace hx171_3 := (HB.out.cell (World.block_lt_of_cell? w _ hx171_3)).trans hx171_3
                                  replace p171 := eq_true p171
                                  replace q171 := eq_true q171
                                  have p172 : 0 ≤ (x10_1 : Int) := of_decide_eq_true (by first | (with_reducible assumption) | assumption)
                                  have q172 : x10_1 < (l0.length : Int) := of_decide_eq_true (by first | (with_reducible assumption) | assumption)
                                  obtain ⟨ad172, e172, hx172_0, hx172_1, hx172_2, hx172_3⟩ := at_T44 HR0.out x10_1 p172 q172
                                  obtain rfl : ad156 = ad172 := (by injection e172)
                                  replace hx172_0 := (HB.out.cell (World.block_lt_of_cell? w _ hx172_0)).trans hx172_0
                                  replace hx172_1 := (HB.out.cell (World.block_lt_of_cell? w _ hx172_1)).trans hx172_1
                                  replace hx172_2 := (HB.out.cell (World.block_lt_of_cell? w _ hx172_2)).trans hx172_2
                                  replace hx172_3 := (HB.out.cell (World.block_lt_of_cell? w _ hx172_3)).trans hx172_3
                                  replace p172 := eq_true p172
                                  replace q172 := eq_true q172
                                  go_wp2_with (first | ((with_reducible refine gate_dst (N := 69) rfl ?_); refine Kd.R_lit k44 _ 44 ?hg (N := 69) ?hd (xs := ([] : List (S44))) (inner := []) (ok := fun _ => True) (okp := fun _ => True) ?hr ?hp (fun _ hk => hk) trivial (Below.refl _ _) (Nat.le_refl _) (by simp) ?_; (case hd => rfl); (case hg => rfl); (case hr => first | (go_simp; done) | (go_simp; rfl)); (case hp => exact (Reps.none _ _)); intro v174 w31 ho32 hb hg_ hnew_; clear hg_ hnew_; (first | rw [← Ny173.out] at ho32 | (simp only [Int.reduceToNat] at ho32; rw [← Ny173.out] at ho32)); have n0_ := Aside0.mk (Kd.S_elder' (by (with_reducible repeat (first | apply Kd.S_alloc | apply Kd.S_drewN | apply Kd.S_drew)); exact HO_7.out) (Kd.R_base ho32) hb); have n1_ := Aside0.mk (Kd.R_lower ho32 (below_size (by repeat (first | (with_reducible first | exact HB.out | apply below_alloc | apply pw_below_drewN | apply below_drew1) | exact HB.out)))); have n2_ := Aside0.mk (below_step (by repeat (first | (with_reducible first | exact HB.out | apply below_alloc | apply pw_below_drewN | apply below_drew1) | exact HB.out)) hb); clear HO_7; clear HB; have HO_7 := n0_; have HO175 := n1_; have HB := n2_; clear n0_ n1_ n2_; clear hb ho32; have q33 : ((ji22) : Int) ≤ ((l0.length : Int) : Int) := of_decide_eq_true (by first | (with_reducible assumption) | assumption); obtain ⟨i033, hi033, _, hsz33, _⟩ := info_parts info44; have hroom33 : l0.length ≤ c0 := HC0.out; have hC33 : Kd.C k44 _ (some ad156) l0.length l0 := HR0.out; have ql33 : (x8_1 : Int) ≤ ((ji22) : Int) := of_decide_eq_true (by first | (with_reducible assumption) | assumption); have q033 : (0 : Int) ≤ (x8_1 : Int) := of_decide_eq_true (by first | (with_reducible assumption) | assumption); have hcut33 := cut_mid (P := Try.prog) 22 44 .i64 .i64 Try.underlying22 hi033 4 hsz33 (some ad156) l0.length c0 x8_1 (ji22) q033 ql33 q33 hroom33; have hr33 := Kd.C_mid (lo := (x8_1 : Int).toNat) (hi := ((ji22) : Int).toNat) (c := c0) hC33 (by omega) (by omega) hroom33; obtain ⟨A33, hA33⟩ : ∃ A1, A1 = (if c0 = (x8_1 : Int).toNat then (some ad156) else ((some ad156) : Option Addr).map (·.add ((x8_1 : Int).toNat * 4))) := ⟨_, rfl⟩; obtain ⟨c33, hc33⟩ : ∃ c1, c1 = c0 - (x8_1 : Int).toNat := ⟨_, rfl⟩; have hy33 : y176.length = ((ji22) : Int).toNat - (x8_1 : Int).toNat := (by rw [Ny176.out, List.length_drop, List.length_take] <;> omega); rw [show ((l0).take ((ji22) : Int).toNat).drop (x8_1 : Int).toNat = y176 from Ny176.out.symm] at hr33; replace hr33 : Kd.C k44 _ A33 y176.length y176 := (by rw [hA33]; exact hr33); rw [← hy33, ← hA33, ← hc33] at hcut33; have HR179 := Aside0.mk hr33; have HC179 := Aside0.mk (show y176.length ≤ c33 from by rw [hy33, hc33]; exact Nat.sub_le_sub_right (Nat.le_trans (by omega) hroom33) _); clear hr33 hC33 hroom33 hi033 hsz33 hc33; have KY33 := Aside0.mk hy33; have KA33 := Aside0.mk hA33; clear hy33 hA33; replace q33 := eq_true q33) | ((with_reducible refine gate_builtin (b := .append) (xs := #[.tmp 69, .tmp 74]) rfl ?_); at_builtin; refine Kd.R_append_rows k44 (w0 := w) w.heap.size rfl (.tmp 69) (.tmp 74) 22 44 (.agg #[(.string ⟨#[]⟩), (.int .u64 0), (.int .i64 0), (.string ⟨#[]⟩)]) 48 rfl Try.underlying22 info44 rfl (by decide) (by omega) v174 y173 y176 _ _ _ (fun _ => True) (fun _ => False) rfl rfl ?aO ?aR (fun _ _ h => h) (fun _ h => h.elim) ?aF ?aB ?aS ?aL ?_; (case aR => repeat (first | exact (Kd.C_below HR179.out HB.out) | (with_reducible refine Kd.C_alloc ?_ _) | (with_reducible refine Kd.C_drewN ?_ _) | (with_reducible refine Kd.C_drew ?_))); (case aB => exact (by repeat (first | (with_reducible first | exact HB.out | apply below_alloc | apply pw_below_drewN | apply below_drew1) | exact HB.out))); (case aF => exact (fun _ _ => trivial)); (case aO => exact (by (with_reducible repeat (first | apply Kd.R_alloc | apply Kd.R_drewN | apply Kd.R_drew)); exact HO175.out)); (case aS => exact (below_size (by repeat (first | (with_reducible first | exact HB.out | apply below_alloc | apply pw_below_drewN | apply below_drew1) | exact HB.out)))); (case aL => have := LMc29.out; omega); intro v181 w34 ho hb hg hat; rw [← Ny180.out] at ho; have n0_ := Aside0.mk (Kd.S_after (ok := (fun _ => True)) (by (with_reducible repeat (first | apply Kd.S_alloc | apply Kd.S_drewN | apply Kd.S_drew)); exact HO_7.out) hg hat); have n1_ := Aside0.mk (hb); have n2_ := Aside0.mk (ho); clear HO_7; clear HB; clear HO175; have HO_7 := n0_; have HB := n1_; have HO182 := n2_; clear n0_ n1_ n2_; clear ho hb hg hat; obtain ⟨Ao36, co36, eo36⟩ := Kd.R_slice HO182.out; subst eo36) | ((with_reducible refine gate_builtin (b := .append) (xs := #[.tmp 68, .tmp 76]) rfl ?_); at_builtin; refine Kd.S_append (Kd.slice 44 k44) (w0 := w) w.heap.size rfl (.tmp 68) (.tmp 76) 32 22 (.slice none 0 0) 24 rfl Try.underlying32 info22 rfl (by decide) (by omega) u7 x7_1 y180 [.slice Ao36 y180.length co36] (fun _ => True) (fun k_ => some k_ = (.slice Ao36 y180.length co36 : Value).ownBlock) rfl rfl ?aP (fun k_ hk_ => ((Kd.R_mono (ok' := fun k_ => ((fun _ => True)) k_ ∧ some k_ ≠ (u7 : Value).ownBlock) (Kd.R_apart' (HO182.out) (Kd.S_typed HO_7.out) (by decide)) (fun k_ hk => ⟨trivial, hk.2⟩))).1 k_ hk_.symm) ?aF ?aO ?aB ?aS ?aL ?_; (case aP => exact Kd.M_row (Kd.R_mono (Kd.R_tight rfl (Kd.R_mono (ok' := fun k_ => ((fun _ => True)) k_ ∧ some k_ ≠ (u7 : Value).ownBlock) (Kd.R_apart' (HO182.out) (Kd.S_typed HO_7.out) (by decide)) (fun k_ hk => ⟨trivial, hk.2⟩))) (fun _ h_ => h_))); (case aB => exact (by repeat (first | (with_reducible first | exact HB.out | apply below_alloc | apply pw_below_drewN | apply below_drew1) | exact HB.out))); (case aF => exact (fun _ _ => trivial)); (case aO => exact (by (with_reducible repeat (first | apply Kd.S_alloc | apply Kd.S_drewN | apply Kd.S_drew)); exact Kd.S_mono HO_7.out (fun k_ hk => ⟨trivial, fun e_ => hk.2 e_⟩))); (case aS => exact (below_size (by repeat (first | (with_reducible first | exact HB.out | apply below_alloc | apply pw_below_drewN | apply below_drew1) | exact HB.out)))); (case aL => have := LMc30.out; omega); intro v184 w35 ho hb hg hat; rw [← Ny183.out] at ho; have n0_ := Aside0.mk (hb); have n1_ := Aside0.mk (ho); clear HB; clear HO_7; clear HO182; have HB := n0_; have HO185 := n1_; clear n0_ n1_; clear ho hb hg hat))
                                  repeat (go_quiet (first | ((with_reducible refine gate_dst (N := 69) rfl ?_); refine Kd.R_lit k44 _ 44 ?hg (N := 69) ?hd (xs := ([] : List (S44))) (inner := []) (ok := fun _ => True) (okp := fun _ => True) ?hr ?hp (fun _ hk => hk) trivial (Below.refl _ _) (Nat.le_refl _) (by simp) ?_; (case hd => rfl); (case hg => rfl); (case hr => first | (go_simp; done) | (go_simp; rfl)); (case hp => exact (Reps.none _ _)); intro v174 w31 ho32 hb hg_ hnew_; clear hg_ hnew_; (first | rw [← Ny173.out] at ho32 | (simp only [Int.reduceToNat] at ho32; rw [← Ny173.out] at ho32)); have n0_ := Aside0.mk (Kd.S_elder' (by (with_reducible repeat (first | apply Kd.S_alloc | apply Kd.S_drewN | apply Kd.S_drew)); exact HO_7.out) (Kd.R_base ho32) hb); have n1_ := Aside0.mk (Kd.R_lower ho32 (below_size (by repeat (first | (with_reducible first | exact HB.out | apply below_alloc | apply pw_below_drewN | apply below_drew1) | exact HB.out)))); have n2_ := Aside0.mk (below_step (by repeat (first | (with_reducible first | exact HB.out | apply below_alloc | apply pw_below_drewN | apply below_drew1) | exact HB.out)) hb); clear HO_7; clear HB; have HO_7 := n0_; have HO175 := n1_; have HB := n2_; clear n0_ n1_ n2_; clear hb ho32; have q33 : ((ji22) : Int) ≤ ((l0.length : Int) : Int) := of_decide_eq_true (by first | (with_reducible assumption) | assumption); obtain ⟨i033, hi033, _, hsz33, _⟩ := info_parts info44; have hroom33 : l0.length ≤ c0 := HC0.out; have hC33 : Kd.C k44 _ (some ad156) l0.length l0 := HR0.out; have ql33 : (x8_1 : Int) ≤ ((ji22) : Int) := of_decide_eq_true (by first | (with_reducible assumption) | assumption); have q033 : (0 : Int) ≤ (x8_1 : Int) := of_decide_eq_true (by first | (with_reducible assumption) | assumption); have hcut33 := cut_mid (P := Try.prog) 22 44 .i64 .i64 Try.underlying22 hi033 4 hsz33 (some ad156) l0.length c0 x8_1 (ji22) q033 ql33 q33 hroom33; have hr33 := Kd.C_mid (lo := (x8_1 : Int).toNat) (hi := ((ji22) : Int).toNat) (c := c0) hC33 (by omega) (by omega) hroom33; obtain ⟨A33, hA33⟩ : ∃ A1, A1 = (if c0 = (x8_1 : Int).toNat then (some ad156) else ((some ad156) : Option Addr).map (·.add ((x8_1 : Int).toNat * 4))) := ⟨_, rfl⟩; obtain ⟨c33, hc33⟩ : ∃ c1, c1 = c0 - (x8_1 : Int).toNat := ⟨_, rfl⟩; have hy33 : y176.length = ((ji22) : Int).toNat - (x8_1 : Int).toNat := (by rw [Ny176.out, List.length_drop, List.length_take] <;> omega); rw [show ((l0).take ((ji22) : Int).toNat).drop (x8_1 : Int).toNat = y176 from Ny176.out.symm] at hr33; replace hr33 : Kd.C k44 _ A33 y176.length y176 := (by rw [hA33]; exact hr33); rw [← hy33, ← hA33, ← hc33] at hcut33; have HR179 := Aside0.mk hr33; have HC179 := Aside0.mk (show y176.length ≤ c33 from by rw [hy33, hc33]; exact Nat.sub_le_sub_right (Nat.le_trans (by omega) hroom33) _); clear hr33 hC33 hroom33 hi033 hsz33 hc33; have KY33 := Aside0.mk hy33; have KA33 := Aside0.mk hA33; clear hy33 hA33; replace q33 := eq_true q33) | ((with_reducible refine gate_builtin (b := .append) (xs := #[.tmp 69, .tmp 74]) rfl ?_); at_builtin; refine Kd.R_append_rows k44 (w0 := w) w.heap.size rfl (.tmp 69) (.tmp 74) 22 44 (.agg #[(.string ⟨#[]⟩), (.int .u64 0), (.int .i64 0), (.string ⟨#[]⟩)]) 48 rfl Try.underlying22 info44 rfl (by decide) (by omega) v174 y173 y176 _ _ _ (fun _ => True) (fun _ => False) rfl rfl ?aO ?aR (fun _ _ h => h) (fun _ h => h.elim) ?aF ?aB ?aS ?aL ?_; (case aR => repeat (first | exact (Kd.C_below HR179.out HB.out) | (with_reducible refine Kd.C_alloc ?_ _) | (with_reducible refine Kd.C_drewN ?_ _) | (with_reducible refine Kd.C_drew ?_))); (case aB => exact (by repeat (first | (with_reducible first | exact HB.out | apply below_alloc | apply pw_below_drewN | apply below_drew1) | exact HB.out))); (case aF => exact (fun _ _ => trivial)); (case aO => exact (by (with_reducible repeat (first | apply Kd.R_alloc | apply Kd.R_drewN | apply Kd.R_drew)); exact HO175.out)); (case aS => exact (below_size (by repeat (first | (with_reducible first | exact HB.out | apply below_alloc | apply pw_below_drewN | apply below_drew1) | exact HB.out)))); (case aL => have := LMc29.out; omega); intro v181 w34 ho hb hg hat; rw [← Ny180.out] at ho; have n0_ := Aside0.mk (Kd.S_after (ok := (fun _ => True)) (by (with_reducible repeat (first | apply Kd.S_alloc | apply Kd.S_drewN | apply Kd.S_drew)); exact HO_7.out) hg hat); have n1_ := Aside0.mk (hb); have n2_ := Aside0.mk (ho); clear HO_7; clear HB; clear HO175; have HO_7 := n0_; have HB := n1_; have HO182 := n2_; clear n0_ n1_ n2_; clear ho hb hg hat; obtain ⟨Ao36, co36, eo36⟩ := Kd.R_slice HO182.out; subst eo36) | ((with_reducible refine gate_builtin (b := .append) (xs := #[.tmp 68, .tmp 76]) rfl ?_); at_builtin; refine Kd.S_append (Kd.slice 44 k44) (w0 := w) w.heap.size rfl (.tmp 68) (.tmp 76) 32 22 (.slice none 0 0) 24 rfl Try.underlying32 info22 rfl (by decide) (by omega) u7 x7_1 y180 [.slice Ao36 y180.length co36] (fun _ => True) (fun k_ => some k_ = (.slice Ao36 y180.length co36 : Value).ownBlock) rfl rfl ?aP (fun k_ hk_ => ((Kd.R_mono (ok' := fun k_ => ((fun _ => True)) k_ ∧ some k_ ≠ (u7 : Value).ownBlock) (Kd.R_apart' (HO182.out) (Kd.S_typed HO_7.out) (by decide)) (fun k_ hk => ⟨trivial, hk.2⟩))).1 k_ hk_.symm) ?aF ?aO ?aB ?aS ?aL ?_; (case aP => exact Kd.M_row (Kd.R_mono (Kd.R_tight rfl (Kd.R_mono (ok' := fun k_ => ((fun _ => True)) k_ ∧ some k_ ≠ (u7 : Value).ownBlock) (Kd.R_apart' (HO182.out) (Kd.S_typed HO_7.out) (by decide)) (fun k_ hk => ⟨trivial, hk.2⟩))) (fun _ h_ => h_))); (case aB => exact (by repeat (first | (with_reducible first | exact HB.out | apply below_alloc | apply pw_below_drewN | apply below_drew1) | exact HB.out))); (case aF => exact (fun _ _ => trivial)); (case aO => exact (by (with_reducible repeat (first | apply Kd.S_alloc | apply Kd.S_drewN | apply Kd.S_drew)); exact Kd.S_mono HO_7.out (fun k_ hk => ⟨trivial, fun e_ => hk.2 e_⟩))); (case aS => exact (below_size (by repeat (first | (with_reducible first | exact HB.out | apply below_alloc | apply pw_below_drewN | apply below_drew1) | exact HB.out)))); (case aL => have := LMc30.out; omega); intro v184 w35 ho hb hg hat; rw [← Ny183.out] at ho; have n0_ := Aside0.mk (hb); have n1_ := Aside0.mk (ho); clear HB; clear HO_7; clear HO182; have HB := n0_; have HO185 := n1_; clear n0_ n1_; clear ho hb hg hat)); try go_wp2_with (first | ((with_reducible refine gate_dst (N := 69) rfl ?_); refine Kd.R_lit k44 _ 44 ?hg (N := 69) ?hd (xs := ([] : List (S44))) (inner := []) (ok := fun _ => True) (okp := fun _ => True) ?hr ?hp (fun _ hk => hk) trivial (Below.refl _ _) (Nat.le_refl _) (by simp) ?_; (case hd => rfl); (case hg => rfl); (case hr => first | (go_simp; done) | (go_simp; rfl)); (case hp => exact (Reps.none _ _)); intro v174 w31 ho32 hb hg_ hnew_; clear hg_ hnew_; (first | rw [← Ny173.out] at ho32 | (simp only [Int.reduceToNat] at ho32; rw [← Ny173.out] at ho32)); have n0_ := Aside0.mk (Kd.S_elder' (by (with_reducible repeat (first | apply Kd.S_alloc | apply Kd.S_drewN | apply Kd.S_drew)); exact HO_7.out) (Kd.R_base ho32) hb); have n1_ := Aside0.mk (Kd.R_lower ho32 (below_size (by repeat (first | (with_reducible first | exact HB.out | apply below_alloc | apply pw_below_drewN | apply below_drew1) | exact HB.out)))); have n2_ := Aside0.mk (below_step (by repeat (first | (with_reducible first | exact HB.out | apply below_alloc | apply pw_below_drewN | apply below_drew1) | exact HB.out)) hb); clear HO_7; clear HB; have HO_7 := n0_; have HO175 := n1_; have HB := n2_; clear n0_ n1_ n2_; clear hb ho32; have q33 : ((ji22) : Int) ≤ ((l0.length : Int) : Int) := of_decide_eq_true (by first | (with_reducible assumption) | assumption); obtain ⟨i033, hi033, _, hsz33, _⟩ := info_parts info44; have hroom33 : l0.length ≤ c0 := HC0.out; have hC33 : Kd.C k44 _ (some ad156) l0.length l0 := HR0.out; have ql33 : (x8_1 : Int) ≤ ((ji22) : Int) := of_decide_eq_true (by first | (with_reducible assumption) | assumption); have q033 : (0 : Int) ≤ (x8_1 : Int) := of_decide_eq_true (by first | (with_reducible assumption) | assumption); have hcut33 := cut_mid (P := Try.prog) 22 44 .i64 .i64 Try.underlying22 hi033 4 hsz33 (some ad156) l0.length c0 x8_1 (ji22) q033 ql33 q33 hroom33; have hr33 := Kd.C_mid (lo := (x8_1 : Int).toNat) (hi := ((ji22) : Int).toNat) (c := c0) hC33 (by omega) (by omega) hroom33; obtain ⟨A33, hA33⟩ : ∃ A1, A1 = (if c0 = (x8_1 : Int).toNat then (some ad156) else ((some ad156) : Option Addr).map (·.add ((x8_1 : Int).toNat * 4))) := ⟨_, rfl⟩; obtain ⟨c33, hc33⟩ : ∃ c1, c1 = c0 - (x8_1 : Int).toNat := ⟨_, rfl⟩; have hy33 : y176.length = ((ji22) : Int).toNat - (x8_1 : Int).toNat := (by rw [Ny176.out, List.length_drop, List.length_take] <;> omega); rw [show ((l0).take ((ji22) : Int).toNat).drop (x8_1 : Int).toNat = y176 from Ny176.out.symm] at hr33; replace hr33 : Kd.C k44 _ A33 y176.length y176 := (by rw [hA33]; exact hr33); rw [← hy33, ← hA33, ← hc33] at hcut33; have HR179 := Aside0.mk hr33; have HC179 := Aside0.mk (show y176.length ≤ c33 from by rw [hy33, hc33]; exact Nat.sub_le_sub_right (Nat.le_trans (by omega) hroom33) _); clear hr33 hC33 hroom33 hi033 hsz33 hc33; have KY33 := Aside0.mk hy33; have KA33 := Aside0.mk hA33; clear hy33 hA33; replace q33 := eq_true q33) | ((with_reducible refine gate_builtin (b := .append) (xs := #[.tmp 69, .tmp 74]) rfl ?_); at_builtin; refine Kd.R_append_rows k44 (w0 := w) w.heap.size rfl (.tmp 69) (.tmp 74) 22 44 (.agg #[(.string ⟨#[]⟩), (.int .u64 0), (.int .i64 0), (.string ⟨#[]⟩)]) 48 rfl Try.underlying22 info44 rfl (by decide) (by omega) v174 y173 y176 _ _ _ (fun _ => True) (fun _ => False) rfl rfl ?aO ?aR (fun _ _ h => h) (fun _ h => h.elim) ?aF ?aB ?aS ?aL ?_; (case aR => repeat (first | exact (Kd.C_below HR179.out HB.out) | (with_reducible refine Kd.C_alloc ?_ _) | (with_reducible refine Kd.C_drewN ?_ _) | (with_reducible refine Kd.C_drew ?_))); (case aB => exact (by repeat (first | (with_reducible first | exact HB.out | apply below_alloc | apply pw_below_drewN | apply below_drew1) | exact HB.out))); (case aF => exact (fun _ _ => trivial)); (case aO => exact (by (with_reducible repeat (first | apply Kd.R_alloc | apply Kd.R_drewN | apply Kd.R_drew)); exact HO175.out)); (case aS => exact (below_size (by repeat (first | (with_reducible first | exact HB.out | apply below_alloc | apply pw_below_drewN | apply below_drew1) | exact HB.out)))); (case aL => have := LMc29.out; omega); intro v181 w34 ho hb hg hat; rw [← Ny180.out] at ho; have n0_ := Aside0.mk (Kd.S_after (ok := (fun _ => True)) (by (with_reducible repeat (first | apply Kd.S_alloc | apply Kd.S_drewN | apply Kd.S_drew)); exact HO_7.out) hg hat); have n1_ := Aside0.mk (hb); have n2_ := Aside0.mk (ho); clear HO_7; clear HB; clear HO175; have HO_7 := n0_; have HB := n1_; have HO182 := n2_; clear n0_ n1_ n2_; clear ho hb hg hat; obtain ⟨Ao36, co36, eo36⟩ := Kd.R_slice HO182.out; subst eo36) | ((with_reducible refine gate_builtin (b := .append) (xs := #[.tmp 68, .tmp 76]) rfl ?_); at_builtin; refine Kd.S_append (Kd.slice 44 k44) (w0 := w) w.heap.size rfl (.tmp 68) (.tmp 76) 32 22 (.slice none 0 0) 24 rfl Try.underlying32 info22 rfl (by decide) (by omega) u7 x7_1 y180 [.slice Ao36 y180.length co36] (fun _ => True) (fun k_ => some k_ = (.slice Ao36 y180.length co36 : Value).ownBlock) rfl rfl ?aP (fun k_ hk_ => ((Kd.R_mono (ok' := fun k_ => ((fun _ => True)) k_ ∧ some k_ ≠ (u7 : Value).ownBlock) (Kd.R_apart' (HO182.out) (Kd.S_typed HO_7.out) (by decide)) (fun k_ hk => ⟨trivial, hk.2⟩))).1 k_ hk_.symm) ?aF ?aO ?aB ?aS ?aL ?_; (case aP => exact Kd.M_row (Kd.R_mono (Kd.R_tight rfl (Kd.R_mono (ok' := fun k_ => ((fun _ => True)) k_ ∧ some k_ ≠ (u7 : Value).ownBlock) (Kd.R_apart' (HO182.out) (Kd.S_typed HO_7.out) (by decide)) (fun k_ hk => ⟨trivial, hk.2⟩))) (fun _ h_ => h_))); (case aB => exact (by repeat (first | (with_reducible first | exact HB.out | apply below_alloc | apply pw_below_drewN | apply below_drew1) | exact HB.out))); (case aF => exact (fun _ _ => trivial)); (case aO => exact (by (with_reducible repeat (first | apply Kd.S_alloc | apply Kd.S_drewN | apply Kd.S_drew)); exact Kd.S_mono HO_7.out (fun k_ hk => ⟨trivial, fun e_ => hk.2 e_⟩))); (case aS => exact (below_size (by repeat (first | (with_reducible first | exact HB.out | apply below_alloc | apply pw_below_drewN | apply below_drew1) | exact HB.out)))); (case aL => have := LMc30.out; omega); intro v184 w35 ho hb hg hat; rw [← Ny183.out] at ho; have n0_ := Aside0.mk (hb); have n1_ := Aside0.mk (ho); clear HB; clear HO_7; clear HO182; have HB := n0_; have HO185 := n1_; clear n0_ n1_; clear ho hb hg hat)))
                                  go_roundg k1
                                  case measure => have := HK1.out; omega
                                  case rel => exact ⟨(y183), (ji22), (0), (ji22), (by first | rfl | (simp; done) | (simp only [← hji22] <;> (first | rfl | simp)) | (simp [*]; done)), (by first | rfl | (simp; done) | (simp [*]; done)), (by first | rfl | (simp; done) | (simp only [← hji22] <;> (first | rfl | simp)) | (simp [*]; done)), H', ⟨by have := HK1.out; omega⟩, ⟨by (with_reducible repeat (first | apply Kd.S_alloc | apply Kd.S_drewN | apply Kd.S_drew)); exact HO185.out⟩, ⟨by repeat (first | (with_reducible first | exact HB.out | apply below_alloc | apply pw_below_drewN | apply below_drew1) | exact HB.out)⟩⟩
                                · rw [if_neg c30] at H
                                  exact absurd H (by simp)
                              · rw [if_neg c29] at H
                                exact absurd H (by simp)
                            · rw [if_neg c28] at H
                              exact absurd H (by simp)
                          · rw [if_neg c27] at H
                            exact absurd H (by simp)
                        · rw [if_neg c26] at H
                          exact absurd H (by simp)
                    · rw [if_neg c24] at H
                      exact absurd H (by simp)
                  · rw [if_neg c23] at H
                    exact absurd H (by simp)
                · rw [if_neg c21] at H
                  have c21b0 : decide (a1 ≤ (wrap64 ((wrap64 ((wrap64 (x9_1 + (((rd_T44 l0 x10_1).f0.f0).size : Int))) + (((rd_T44 l0 x10_1).f1).size : Int))) + 16))) = false := decide_eq_false c21
                  clear c21
                  have H' := Aside0.mk H
                  clear H
                  have p156 : 0 ≤ (x10_1 : Int) := of_decide_eq_true (by first | (with_reducible assumption) | assumption)
                  have q156 : x10_1 < (l0.length : Int) := of_decide_eq_true (by first | (with_reducible assumption) | assumption)
                  obtain ⟨ad156, e156, hx156_0, hx156_1, hx156_2, hx156_3⟩ := at_T44 HR0.out x10_1 p156 q156
                  cases e156
                  replace hx156_0 := (HB.out.cell (World.block_lt_of_cell? w _ hx156_0)).trans hx156_0
                  replace hx156_1 := (HB.out.cell (World.block_lt_of_cell? w _ hx156_1)).trans hx156_1
                  replace hx156_2 := (HB.out.cell (World.block_lt_of_cell? w _ hx156_2)).trans hx156_2
                  replace hx156_3 := (HB.out.cell (World.block_lt_of_cell? w _ hx156_3)).trans hx156_3
                  replace p156 := eq_true p156
                  replace q156 := eq_true q156
                  have p157 : 0 ≤ (x10_1 : Int) := of_decide_eq_true (by first | (with_reducible assumption) | assumption)
                  have q157 : x10_1 < (l0.length : Int) := of_decide_eq_true (by first | (with_reducible assumption) | assumption)
                  obtain ⟨ad157, e157, hx157_0, hx157_1, hx157_2, hx157_3⟩ := at_T44 HR0.out x10_1 p157 q157
                  obtain rfl : ad156 = ad157 := (by injection e157)
                  replace hx157_0 := (HB.out.cell (World.block_lt_of_cell? w _ hx157_0)).trans hx157_0
                  replace hx157_1 := (HB.out.cell (World.block_lt_of_cell? w _ hx157_1)).trans hx157_1
                  replace hx157_2 := (HB.out.cell (World.block_lt_of_cell? w _ hx157_2)).trans hx157_2
                  replace hx157_3 := (HB.out.cell (World.block_lt_of_cell? w _ hx157_3)).trans hx157_3
                  replace p157 := eq_true p157
                  replace q157 := eq_true q157
                  go_wp2
                  repeat (go_quiet (fail); try go_wp2)
                  go_roundg k1
                  case measure => have := HK1.out; omega
                  case rel => exact ⟨(x7_1), (x8_1), (wrap64 ((wrap64 ((wrap64 (x9_1 + (((rd_T44 l0 x10_1).f0.f0).size : Int))) + (((rd_T44 l0 x10_1).f1).size : Int))) + 16)), (wrap64 (x10_1 + 1)), (by first | rfl | (simp; done) | (simp [*]; done)), (by first | rfl | (simp; done) | (simp [*]; done)), (by first | rfl | (simp; done) | (simp [*]; done)), H', ⟨by have := HK1.out; omega⟩, ⟨by (with_reducible repeat (first | apply Kd.S_alloc | apply Kd.S_drewN | apply Kd.S_drew)); exact HO_7.out⟩, ⟨by repeat (first | (with_reducible first | exact HB.out | apply below_alloc | apply pw_below_drewN | apply below_drew1) | exact HB.out)⟩⟩
            · rw [if_neg c8] at H
              exact absurd H (by simp)
          · rw [if_neg c7] at H
            have c7b0 : decide (x10_1 < (l0.length : Int)) = false := decide_eq_false c7
            clear c7
            simp only [Option.some.injEq, Prod.mk.injEq] at H
            obtain ⟨rfl, rfl⟩ := H
            go_wp2
            repeat (go_quiet (fail); try go_wp2)
            go_ret2
            exact ⟨_, by first | rfl | (simp [errW_none, errW_some] <;> rfl) | (simp [*, errW_none, errW_some] <;> rfl), by (with_reducible repeat (first | apply Kd.S_alloc | apply Kd.S_drewN | apply Kd.S_drew)); exact HO_7.out, by repeat (first | (with_reducible first | exact HB.out | apply below_alloc | apply pw_below_drewN | apply below_drew1) | exact HB.out)⟩
    · replace c5 := Bool.eq_false_iff.mpr c5
      subst c5
      have H1 : (some (([] : List (List (S44))), 160)) = some (r1, r2) := by rw [if_neg (show ¬ (false = true) by decide)] at H; exact H
      clear H
      have H := H1
      clear H1
      simp only [Option.some.injEq, Prod.mk.injEq] at H
      obtain ⟨rfl, rfl⟩ := H
      go_enter Try.func28, Try.ntmps28
      go_wp2_with (first | (go_at_call 29; (with_reducible refine (staddleref16_Rises.calls k _ _ l0 false _ ?side1 ?side2 A4.out).mono ?_); (case side1 => repeat (first | exact HR0.out | (with_reducible refine Kd.C_alloc ?_ _) | (with_reducible refine Kd.C_drewN ?_ _) | (with_reducible refine Kd.C_drew ?_))); (case side2 => exact HC0.out); rintro e w37 ⟨rfl, hb⟩; have n0_ := Aside0.mk (below_step (by repeat (first | (with_reducible first | exact HB.out | apply below_alloc | apply pw_below_drewN | apply below_drew1) | exact HB.out)) hb); clear HB; have HB := n0_; clear n0_; (try clear hb); (try clear hb2); (try clear hk); (try clear hi)))
      repeat (go_quiet (first | (go_at_call 29; (with_reducible refine (staddleref16_Rises.calls k _ _ l0 false _ ?side1 ?side2 A4.out).mono ?_); (case side1 => repeat (first | exact HR0.out | (with_reducible refine Kd.C_alloc ?_ _) | (with_reducible refine Kd.C_drewN ?_ _) | (with_reducible refine Kd.C_drew ?_))); (case side2 => exact HC0.out); rintro e w37 ⟨rfl, hb⟩; have n0_ := Aside0.mk (below_step (by repeat (first | (with_reducible first | exact HB.out | apply below_alloc | apply pw_below_drewN | apply below_drew1) | exact HB.out)) hb); clear HB; have HB := n0_; clear n0_; (try clear hb); (try clear hb2); (try clear hk); (try clear hi))); try go_wp2_with (first | (go_at_call 29; (with_reducible refine (staddleref16_Rises.calls k _ _ l0 false _ ?side1 ?side2 A4.out).mono ?_); (case side1 => repeat (first | exact HR0.out | (with_reducible refine Kd.C_alloc ?_ _) | (with_reducible refine Kd.C_drewN ?_ _) | (with_reducible refine Kd.C_drew ?_))); (case side2 => exact HC0.out); rintro e w37 ⟨rfl, hb⟩; have n0_ := Aside0.mk (below_step (by repeat (first | (with_reducible first | exact HB.out | apply below_alloc | apply pw_below_drewN | apply below_drew1) | exact HB.out)) hb); clear HB; have HB := n0_; clear n0_; (try clear hb); (try clear hb2); (try clear hk); (try clear hi))))
      go_ret2
      exact ⟨_, by first | rfl | (simp [errW_none, errW_some] <;> rfl) | (simp [*, errW_none, errW_some] <;> rfl), by first | exact Kd.S_nil _ _ _ _ _ | exact Kd.N_nil _ _ _ _ _ | exact Kd.V_nil _ _ _ _ _ | exact Kd.Q_nil _ _ _ _ _ | exact Kd.R_nil _ _ _ _ _, by repeat (first | (with_reducible first | exact HB.out | apply below_alloc | apply pw_below_drewN | apply below_drew1) | exact HB.out)⟩

-- NOT PRINTED: function 4 (staddlelaw19_CompactSplits)

/-! ### staddleref17_Same: function 30 -/
def staddleref17_Same.l0 : Nat → List (S76) → List (S76) → Int → Option (Bool)
  | 0, _, _, _ => none
  | k + 1, x0, x1, x5 => if x5 < (x0.length : Int) then (if 0 ≤ x5 then (if x5 < (x1.length : Int) then (if (!((((rd_T76 x0 x5).f0).toList) == (((rd_T76 x1 x5).f0).toList)) || (!((((rd_T76 x0 x5).f1).toList) == (((rd_T76 x1 x5).f1).toList)))) = true then (some false) else (staddleref17_Same.l0 k x0 x1 (wrap64 (x5 + 1)))) else (none)) else (none)) else (some true)
def staddleref17_Same.f (k : Nat) (l0 : List (S76)) (l1 : List (S76)) : Option (Bool) := if (l0.length : Int) = (l1.length : Int) then (staddleref17_Same.l0 k l0 l1 0) else (some false)
theorem staddleref17_Same.mono_l : ∀ k, (∀ y0 y1 y2, LeO (staddleref17_Same.l0 k y0 y1 y2) (staddleref17_Same.l0 (k + 1) y0 y1 y2))
  | 0 => fun _ _ _ r h => by simp [staddleref17_Same.l0] at h
  | k + 1 => by
    have ih0 := staddleref17_Same.mono_l k
    · intro y0 y1 y2
      unfold staddleref17_Same.l0
      repeat' first
      | (with_reducible exact ih0 _ _ _)
      | (with_reducible exact LeO.refl _)
      | (with_reducible exact LeO.none _)
      | (with_reducible refine LeO.ite ?_ ?_)
      | (with_reducible refine LeO.bind ?_ (fun _ => ?_))
      | exact ih0 _ _ _
      | exact LeO.none _
      | refine LeO.ite ?_ ?_
      | refine LeO.bind ?_ (fun _ => ?_)
theorem staddleref17_Same.mono : ∀ a0 a1 k, LeO (staddleref17_Same.f k a0 a1) (staddleref17_Same.f (k + 1) a0 a1) := by
  intro a0 a1 k
  have ih0 := staddleref17_Same.mono_l k
  unfold staddleref17_Same.f
  repeat' first
      | (with_reducible exact ih0 _ _ _)
      | (with_reducible exact LeO.refl _)
      | (with_reducible exact LeO.none _)
      | (with_reducible refine LeO.ite ?_ ?_)
      | (with_reducible refine LeO.bind ?_ (fun _ => ?_))
      | exact ih0 _ _ _
      | exact LeO.none _
      | refine LeO.ite ?_ ?_
      | refine LeO.bind ?_ (fun _ => ?_)
set_option maxHeartbeats 8000000 in
set_option maxRecDepth 100000 in
theorem staddleref17_Same.calls (k : Nat) (A0 : Option Addr) (c0 : Nat) (l0 : List (S76)) (A1 : Option Addr) (c1 : Nat) (l1 : List (S76)) (r : Bool) (w : World) (hr0 : Kd.C k76 w A0 l0.length l0) (hc0 : l0.length ≤ c0) (hr1 : Kd.C k76 w A1 l1.length l1) (hc1 : l1.length ≤ c1) (h : staddleref17_Same.f k l0 l1 = some r) :
    Calls Try.prog 30 #[.slice A0 l0.length c0, .slice A1 l1.length c1] w fun e w' => e = .returned (.bool r) ∧ Drawn0 w w' := by
  have hu76 := Try.underlying76
  have HR0 := Aside0.mk hr0
  have HC0 := Aside0.mk hc0
  clear hr0 hc0
  have HR1 := Aside0.mk hr1
  have HC1 := Aside0.mk hc1
  clear hr1 hc1
  have H : (if (l0.length : Int) = (l1.length : Int) then (staddleref17_Same.l0 k l0 l1 0) else (some false)) = some r := h
  clear h
  by_cases c3 : (l0.length : Int) = (l1.length : Int)
  · rw [if_pos c3] at H
    have c3b0 : ((l0.length : Int) == (l1.length : Int)) = true := beq_iff_eq.mpr c3
    have c3b1 : ((l0.length : Int) != (l1.length : Int)) = false := bne_eq_false_iff_eq.mpr c3
    have c3b2 : (l0.length == l1.length) = true := by first | simpa using c3 | (simp at c3 ⊢; omega)
    clear c3
    have H' := Aside0.mk H
    clear H
    go_enter Try.func30, Try.ntmps30
    go_wp2
    repeat (go_quiet (fail); try go_wp2)
    go_loopg [5] k (fun kq v5 w' => ∃ (x5_1 : Int), v5 = .int .i64 x5_1 ∧ Aside0 (staddleref17_Same.l0 kq l0 l1 x5_1 = some r) ∧ Aside0 (kq ≤ k) ∧ Drawn0 w w')
    case atStart => exact ⟨(0), (by first | rfl | (simp; done) | (simp [*]; done)), H', ⟨Nat.le_refl _⟩, by repeat (first | exact Drawn0.refl _ | apply Drawn0.step)⟩
    case round =>
      clear H'
      try clear c1
      try clear p2
      try clear c3
      try clear c3b0
      try clear c3b1
      try clear c3b2
      obtain ⟨x5_1, rfl, HA, HK1, ⟨m1, rfl⟩⟩ := hrel
      cases gk with
      | zero => exact absurd HA.out (by simp [staddleref17_Same.l0])
      | succ k1 =>
        have H := HA.out
        clear HA
        simp only [staddleref17_Same.l0] at H
        by_cases c4 : x5_1 < (l0.length : Int)
        · rw [if_pos c4] at H
          have c4b0 : decide (x5_1 < (l0.length : Int)) = true := decide_eq_true c4
          clear c4
          by_cases c5 : 0 ≤ x5_1
          · rw [if_pos c5] at H
            have c5b0 : decide (0 ≤ x5_1) = true := decide_eq_true c5
            clear c5
            by_cases c6 : x5_1 < (l1.length : Int)
            · rw [if_pos c6] at H
              have c6b0 : decide (x5_1 < (l1.length : Int)) = true := decide_eq_true c6
              clear c6
              by_cases c7 : (!((((rd_T76 l0 x5_1).f0).toList) == (((rd_T76 l1 x5_1).f0).toList)) || (!((((rd_T76 l0 x5_1).f1).toList) == (((rd_T76 l1 x5_1).f1).toList)))) = true
              · rw [if_pos c7] at H
                have c7b0 : (!((((rd_T76 l0 x5_1).f0).toList) == (((rd_T76 l1 x5_1).f0).toList)) || (!((((rd_T76 l0 x5_1).f1).toList) == (((rd_T76 l1 x5_1).f1).toList)))) = true := c7
                clear c7
                obtain rfl := Option.some.inj H
                have p186 : 0 ≤ (x5_1 : Int) := of_decide_eq_true (by first | (with_reducible assumption) | assumption)
                have q186 : x5_1 < (l0.length : Int) := of_decide_eq_true (by first | (with_reducible assumption) | assumption)
                obtain ⟨ad186, e186, hx186_0, hx186_1⟩ := at_T76 HR0.out x5_1 p186 q186
                cases e186
                replace p186 := eq_true p186
                replace q186 := eq_true q186
                have p187 : 0 ≤ (x5_1 : Int) := of_decide_eq_true (by first | (with_reducible assumption) | assumption)
                have q187 : x5_1 < (l1.length : Int) := of_decide_eq_true (by first | (with_reducible assumption) | assumption)
                obtain ⟨ad187, e187, hx187_0, hx187_1⟩ := at_T76 HR1.out x5_1 p187 q187
                cases e187
                replace p187 := eq_true p187
                replace q187 := eq_true q187
                go_wp2
                repeat (go_quiet (fail); try go_wp2)
                go_ret
                exact ⟨by first | rfl | (simp; done) | (simp [*]; done), by repeat (first | exact Drawn0.refl _ | apply Drawn0.step)⟩
              · rw [if_neg c7] at H
                have c7b0 : (!((((rd_T76 l0 x5_1).f0).toList) == (((rd_T76 l1 x5_1).f0).toList)) || (!((((rd_T76 l0 x5_1).f1).toList) == (((rd_T76 l1 x5_1).f1).toList)))) = false := by simpa using c7
                clear c7
                have H' := Aside0.mk H
                clear H
                have p186 : 0 ≤ (x5_1 : Int) := of_decide_eq_true (by first | (with_reducible assumption) | assumption)
                have q186 : x5_1 < (l0.length : Int) := of_decide_eq_true (by first | (with_reducible assumption) | assumption)
                obtain ⟨ad186, e186, hx186_0, hx186_1⟩ := at_T76 HR0.out x5_1 p186 q186
                cases e186
                replace p186 := eq_true p186
                replace q186 := eq_true q186
                have p187 : 0 ≤ (x5_1 : Int) := of_decide_eq_true (by first | (with_reducible assumption) | assumption)
                have q187 : x5_1 < (l1.length : Int) := of_decide_eq_true (by first | (with_reducible assumption) | assumption)
                obtain ⟨ad187, e187, hx187_0, hx187_1⟩ := at_T76 HR1.out x5_1 p187 q187
                cases e187
                replace p187 := eq_true p187
                replace q187 := eq_true q187
                go_wp2
                repeat (go_quiet (fail); try go_wp2)
                go_roundg k1
                case measure => have := HK1.out; omega
                case rel => exact ⟨(wrap64 (x5_1 + 1)), (by first | rfl | (simp; done) | (simp [*]; done)), H', ⟨by have := HK1.out; omega⟩, by repeat (first | exact Drawn0.refl _ | apply Drawn0.step)⟩
            · rw [if_neg c6] at H
              exact absurd H (by simp)
          · rw [if_neg c5] at H
            exact absurd H (by simp)
        · rw [if_neg c4] at H
          have c4b0 : decide (x5_1 < (l0.length : Int)) = false := decide_eq_false c4
          clear c4
          obtain rfl := Option.some.inj H
          go_wp2
          repeat (go_quiet (fail); try go_wp2)
          go_ret
          exact ⟨by first | rfl | (simp; done) | (simp [*]; done), by repeat (first | exact Drawn0.refl _ | apply Drawn0.step)⟩
  · rw [if_neg c3] at H
    have c3b0 : ((l0.length : Int) == (l1.length : Int)) = false := beq_eq_false_iff_ne.mpr c3
    have c3b1 : ((l0.length : Int) != (l1.length : Int)) = true := bne_iff_ne.mpr c3
    have c3b2 : (l0.length == l1.length) = false := by first | simpa using c3 | (simp at c3 ⊢; omega)
    obtain rfl := Option.some.inj H
    go_enter Try.func30, Try.ntmps30
    go_wp2
    repeat (go_quiet (fail); try go_wp2)
    go_ret
    exact ⟨by first | rfl | (simp; done) | (simp [*]; done), by repeat (first | exact Drawn0.refl _ | apply Drawn0.step)⟩

end Go.Proofs.Ytehoojmalhloeaa.PC
