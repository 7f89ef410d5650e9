/- Contracts of the document's own functions (chapters 08, 16, 17, 19) over one set of value types, written by the kit's print program. -/
import Derived.Test.YtehoojmalhloeaaPCx0
import Derived.Test.YtehoojmalhloeaaPCx3
namespace Go.Proofs.Ytehoojmalhloeaa.PC
open Go.RowKit Go.Proofs.YtehoojmalhloeaaW.PrintWords Go.Proofs.YtehoojmalhloeaaW.PrintLast Go.Proofs.YtehoojmalhloeaaW.PrintMore
attribute [local go_sem] max2_int min2_int max_two min_two max_three min_three max_four min_four   -- for this text's walks alone
set_option linter.unusedVariables false
set_option linter.unusedSimpArgs false

/-! ### staddleref08_With: function 49 -/
def staddleref08_With.l0 : Nat → List (S44) → List (S44) → Bool → Int → ByteArray → Int → Int → ByteArray → Option ((List (S44)))
  | 0, _, _, _, _, _, _, _, _ => none
  | k + 1, x0, x5, x6, x7, x259000, x259001, x259002, x259003 => if x7 < (x0.length : Int) then (if x6 = true then (if 0 ≤ x7 then (if x5.length < 2932031007402 then (staddleref08_With.l0 k x0 (x5 ++ [(⟨(⟨(rd_T44 x0 x7).f0.f0, (rd_T44 x0 x7).f0.f1, (rd_T44 x0 x7).f0.f2⟩ : S42), (rd_T44 x0 x7).f1⟩ : S44)]) x6 (wrap64 (x7 + 1)) x259000 x259001 x259002 x259003) else (none)) else (none)) else (if 0 ≤ x7 then ((staddleref02_Compare.f k x259000 x259001 x259002 ((rd_T44 x0 x7).f0.f0) ((rd_T44 x0 x7).f0.f1) ((rd_T44 x0 x7).f0.f2)).bind fun t264 => (if t264 < 0 then (if x5.length < 2932031007402 then ((some (x5 ++ [(⟨(⟨x259000, x259001, x259002⟩ : S42), x259003⟩ : S44)] : List (S44))).bind fun y265 => (if y265.length < 2932031007402 then (staddleref08_With.l0 k x0 (y265 ++ [(⟨(⟨(rd_T44 x0 x7).f0.f0, (rd_T44 x0 x7).f0.f1, (rd_T44 x0 x7).f0.f2⟩ : S42), (rd_T44 x0 x7).f1⟩ : S44)]) true (wrap64 (x7 + 1)) x259000 x259001 x259002 x259003) else (none))) else (none)) else (if x5.length < 2932031007402 then (staddleref08_With.l0 k x0 (x5 ++ [(⟨(⟨(rd_T44 x0 x7).f0.f0, (rd_T44 x0 x7).f0.f1, (rd_T44 x0 x7).f0.f2⟩ : S42), (rd_T44 x0 x7).f1⟩ : S44)]) x6 (wrap64 (x7 + 1)) x259000 x259001 x259002 x259003) else (none)))) else (none))) else (if x6 = true then (some x5) else (if x5.length < 2932031007402 then (some (x5 ++ [(⟨(⟨x259000, x259001, x259002⟩ : S42), x259003⟩ : S44)])) else (none)))
def staddleref08_With.f (k : Nat) (l0 : List (S44)) (a1_0 : ByteArray) (a1_1 : Int) (a1_2 : Int) (a1_3 : ByteArray) : Option ((List (S44))) := staddleref08_With.l0 k l0 ([] : List (S44)) false 0 a1_0 a1_1 a1_2 a1_3
theorem staddleref08_With.mono_l : ∀ k, (∀ y0 y1 y2 y3 y4 y5 y6 y7, LeO (staddleref08_With.l0 k y0 y1 y2 y3 y4 y5 y6 y7) (staddleref08_With.l0 (k + 1) y0 y1 y2 y3 y4 y5 y6 y7))
  | 0 => fun _ _ _ _ _ _ _ _ r h => by simp [staddleref08_With.l0] at h
  | k + 1 => by
    have ih0 := staddleref08_With.mono_l k
    · intro y0 y1 y2 y3 y4 y5 y6 y7
      unfold staddleref08_With.l0
      repeat' first
      | (with_reducible exact ih0 _ _ _ _ _ _ _ _)
      | (with_reducible exact staddleref02_Compare.mono _ _ _ _ _ _ _)
      | (with_reducible exact LeO.refl _)
      | (with_reducible exact LeO.none _)
      | (with_reducible refine LeO.ite ?_ ?_)
      | (with_reducible refine LeO.bind ?_ (fun _ => ?_))
      | exact ih0 _ _ _ _ _ _ _ _
      | exact staddleref02_Compare.mono _ _ _ _ _ _ _
      | exact LeO.none _
      | refine LeO.ite ?_ ?_
      | refine LeO.bind ?_ (fun _ => ?_)
theorem staddleref08_With.mono : ∀ a0 a1 a2 a3 a4 k, LeO (staddleref08_With.f k a0 a1 a2 a3 a4) (staddleref08_With.f (k + 1) a0 a1 a2 a3 a4) := by
  intro a0 a1 a2 a3 a4 k
  have ih0 := staddleref08_With.mono_l k
  unfold staddleref08_With.f
  repeat' first
      | (with_reducible exact ih0 _ _ _ _ _ _ _ _)
      | (with_reducible exact staddleref02_Compare.mono _ _ _ _ _ _ _)
      | (with_reducible exact LeO.refl _)
      | (with_reducible exact LeO.none _)
      | (with_reducible refine LeO.ite ?_ ?_)
      | (with_reducible refine LeO.bind ?_ (fun _ => ?_))
      | exact ih0 _ _ _ _ _ _ _ _
      | exact staddleref02_Compare.mono _ _ _ _ _ _ _
      | exact LeO.none _
      | refine LeO.ite ?_ ?_
      | refine LeO.bind ?_ (fun _ => ?_)
def staddleref08_With.T6 : Bool × List (List Nat × List Nat) := (true, [([], []), ([0], [0]), ([1], [1]), ([2], [2]), ([3, 2], [2, 3]), ([2], [2]), ([2], [2]), ([5, 6, 2], [2, 5, 6]), ([7, 2], [2, 7]), ([8, 2], [2, 8]), ([4, 9, 2, 2], [2, 4, 9]), ([10, 2], [2, 10]), ([2, 11], [2, 11])])
def staddleref08_With.B6 : List Nat := [0, 1, 3, 7, 15, 7, 7, 103, 231, 487, 1023, 2047, 4095]
theorem staddleref08_With.tab6 : rtab .any (opsOf Try.f49 6) = staddleref08_With.T6 := by kernel_rfl
theorem staddleref08_With.bits6 : waitsOk staddleref08_With.T6.2 staddleref08_With.B6 = true := by kernel_rfl
set_option maxHeartbeats 8000000 in
set_option maxRecDepth 100000 in
theorem staddleref08_With.calls (k : Nat) (A0 : Option Addr) (c0 : Nat) (l0 : List (S44)) (a1_0 : ByteArray) (a1_1 : Int) (a1_2 : Int) (a1_3 : ByteArray) (r : List (S44)) (w : World) (hr0 : Kd.C k44 w A0 l0.length l0) (hc0 : l0.length ≤ c0) (h : staddleref08_With.f k l0 a1_0 a1_1 a1_2 a1_3 = some r) :
    Calls Try.prog 49 #[.slice A0 l0.length c0, .agg #[.string a1_0, .int .u64 a1_1, .int .i64 a1_2, .string a1_3]] w fun e w' => ∃ v0_ : Value, e = .returned (v0_) ∧ Kd.R k44 44 w' w.heap.size (fun _ => True) v0_ r ∧ Below w.heap.size w w' := by
  have hu44 := Try.underlying44
  have hu42 := Try.underlying42
  have HR0 := Aside0.mk hr0
  have HC0 := Aside0.mk hc0
  clear hr0 hc0
  have HB := Aside0.mk (Below.refl w.heap.size w)
  have H : (staddleref08_With.l0 k l0 ([] : List (S44)) false 0 a1_0 a1_1 a1_2 a1_3) = some r := h
  clear h
  have H' := Aside0.mk H
  clear H
  go_enter Try.func49, Try.ntmps49
  go_wp2_with (first | ((with_reducible refine gate_dst (N := 3) rfl ?_); refine box_event ?hg (N := 3) ?hd (cs := #[.string a1_0, .int .u64 a1_1, .int .i64 a1_2, .string a1_3]) (t := 44) ?hr ?_; (case hd => rfl); (case hg => rfl); (case hr => first | (go_simp; done) | (go_simp; rfl)); intro gb258 hg w3 hbox hb; have n0_ := Aside0.mk (below_step (by repeat (first | (with_reducible first | exact HB.out | apply below_alloc | apply pw_below_drewN | apply below_drew1) | exact HB.out)) hb); have n1_ := Aside0.mk (hbox); have n2_ := Aside0.mk ((by rw [hg]; exact (below_size (by repeat (first | (with_reducible first | exact HB.out | apply below_alloc | apply pw_below_drewN | apply below_drew1) | exact HB.out))) : w.heap.size ≤ gb258)); have n3_ := Aside0.mk ((by rw [hg]; exact (below_size (by repeat (first | (with_reducible first | exact HB.out | apply below_alloc | apply pw_below_drewN | apply below_drew1) | exact HB.out))) : w.heap.size ≤ gb258)); clear HB; have HB := n0_; have BK258 := n1_; have GW258 := n2_; have GE258 := n3_; clear n0_ n1_ n2_ n3_; clear hb hbox hg))
  go_loopg [5, 6, 7] k (fun kq v5 v6 v7 w' => ∃ (x5_1 : List (S44)) (x6_1 : Bool) (x7_1 : Int), v6 = .bool x6_1 ∧ v7 = .int .i64 x7_1 ∧ Aside0 (staddleref08_With.l0 kq l0 x5_1 x6_1 x7_1 a1_0 a1_1 a1_2 a1_3 = some r) ∧ Aside0 (kq ≤ k) ∧ Aside0 (Kd.R k44 44 w' w.heap.size (fun k_ => k_ ≠ gb258) v5 x5_1) ∧ Aside0 (w'.heap[gb258]? = some (.cells #[.string a1_0, .int .u64 a1_1, .int .i64 a1_2, .string a1_3] 44 (0, 0))) ∧ Aside0 (Below w.heap.size w w'))
  case atStart => exact ⟨(([] : List (S44))), (false), (0), (by first | rfl | (simp; done) | (simp [*]; done)), (by first | rfl | (simp; done) | (simp [*]; done)), H', ⟨Nat.le_refl _⟩, ⟨by first | exact Kd.R_nil _ _ _ _ _ | exact Kd.N_nil _ _ _ _ _ | exact Kd.V_nil _ _ _ _ _ | exact Kd.Q_nil _ _ _ _ _ | exact Kd.S_nil _ _ _ _ _⟩, ⟨by (with_reducible repeat (first | refine blk_drewN ?_ _ | refine blk_drew ?_ | refine blk_alloc ?_ _)); exact BK258.out⟩, ⟨by repeat (first | (with_reducible first | exact HB.out | apply below_alloc | apply pw_below_drewN | apply below_drew1 | refine below_set ?_ GE258.out) | exact HB.out)⟩⟩
  case round =>
    clear H'
    try clear p2
    obtain ⟨x5_1, x6_1, x7_1, rfl, rfl, HA, HK1, HO_5, BK258, HB⟩ := hrel
    cases gk with
    | zero => exact absurd HA.out (by simp [staddleref08_With.l0])
    | succ k1 =>
      have H := HA.out
      clear HA
      simp only [staddleref08_With.l0] at H
      by_cases c4 : x7_1 < (l0.length : Int)
      · rw [if_pos c4] at H
        have c4b0 : decide (x7_1 < (l0.length : Int)) = true := decide_eq_true c4
        clear c4
        by_cases c5 : x6_1 = true
        · subst c5
          have H1 : (if 0 ≤ x7_1 then (if x5_1.length < 2932031007402 then (staddleref08_With.l0 k1 l0 (x5_1 ++ [(⟨(⟨(rd_T44 l0 x7_1).f0.f0, (rd_T44 l0 x7_1).f0.f1, (rd_T44 l0 x7_1).f0.f2⟩ : S42), (rd_T44 l0 x7_1).f1⟩ : S44)]) true (wrap64 (x7_1 + 1)) a1_0 a1_1 a1_2 a1_3) else (none)) else (none)) = some r := by rw [if_pos rfl] at H; exact H
          clear H
          have H := H1
          clear H1
          by_cases c6 : 0 ≤ x7_1
          · rw [if_pos c6] at H
            have c6b0 : decide (0 ≤ x7_1) = true := decide_eq_true c6
            clear c6
            by_cases c7 : x5_1.length < 2932031007402
            · rw [if_pos c7] at H
              have LMc7 := Aside0.mk c7
              clear c7
              obtain ⟨y260, hy260⟩ : ∃ y_ : List (S44), y_ = (x5_1 ++ [(⟨(⟨(rd_T44 l0 x7_1).f0.f0, (rd_T44 l0 x7_1).f0.f1, (rd_T44 l0 x7_1).f0.f2⟩ : S42), (rd_T44 l0 x7_1).f1⟩ : S44)]) := ⟨_, rfl⟩
              replace H : (staddleref08_With.l0 k1 l0 y260 true (wrap64 (x7_1 + 1)) a1_0 a1_1 a1_2 a1_3) = some r := by first | (rw [hy260]; with_reducible exact H) | (have H2_ := (Option.bind_some _ _).symm.trans H; rw [hy260]; with_reducible exact H2_) | (have H2_ := (Option.bind_some _ _).symm.trans H; with_reducible exact H2_) | with_reducible exact H | (rw [hy260]; exact H) | exact H
              have Ny260 := Aside0.mk hy260
              clear hy260
              have H' := Aside0.mk H
              clear H
              try go_wp2
              have n0_ := Aside0.mk (Kd.R_drew HO_5.out)
              have n1_ := Aside0.mk (blk_drew BK258.out)
              have n2_ := Aside0.mk (below_drew1 HB.out)
              clear HO_5
              clear BK258
              clear HB
              have HO_5 := n0_
              have BK258 := n1_
              have HB := n2_
              clear n0_ n1_ n2_
              refine start_ (n := 13) (S := fun w' => True) (ds := []) #[false, false, false, false, false, false, false, false, false, false, false, false, false] (by kernel_rfl) rfl rfl trivial (fun hHeld => ?_); refine with_tabW staddleref08_With.tab6 staddleref08_With.bits6 (fun HT_ HW_ => ?_)
              generalize wr.drew = w8 at HO_5 BK258 HB hHeld ⊢
              refine pure_ (i := 0) (N := some 14) (v := ?_) (a' := ?_) #[true, false, false, false, false, false, false, false, false, false, false, false, false] rfl rfl (any_of HT_.out (by kernel_rfl)) (fun _ _ _ h => h) (Or.inl ⟨by rfl, ?_⟩) ?_ ?_
              rotate_left
              · intro w'
                go_simp
                with_reducible rfl
              rotate_left
              · simp only [Act.put, List.setIfInBounds_toArray, List.set_cons_zero, List.set_cons_succ, i64_w, i32_w]
                rfl
              refine pure_ (i := 1) (N := some 15) (v := ?_) (a' := ?_) #[true, true, false, false, false, false, false, false, false, false, false, false, false] rfl rfl (any_of HT_.out (by kernel_rfl)) (fun _ _ _ h => h) (Or.inl ⟨by rfl, ?_⟩) ?_ ?_
              rotate_left
              · intro w'
                go_simp
                with_reducible rfl
              rotate_left
              · simp only [Act.put, List.setIfInBounds_toArray, List.set_cons_zero, List.set_cons_succ, i64_w, i32_w]
                rfl
              refine pure_ (i := 2) (N := some 16) (v := ?_) (a' := ?_) #[true, true, true, false, false, false, false, false, false, false, false, false, false] rfl rfl (any_of HT_.out (by kernel_rfl)) (fun _ _ _ h => h) (Or.inl ⟨by rfl, ?_⟩) ?_ ?_
              rotate_left
              · intro w'
                go_simp
                with_reducible rfl
              rotate_left
              · simp only [Act.put, List.setIfInBounds_toArray, List.set_cons_zero, List.set_cons_succ, i64_w, i32_w]
                rfl
              refine pure_ (i := 3) (N := some 17) (v := undef) (a' := ?_) #[true, true, true, true, false, false, false, false, false, false, false, false, false] rfl rfl (any_of HT_.out (by kernel_rfl)) (fun _ _ _ h => h) (Or.inr ⟨by rfl, rfl⟩) ?_ ?_
              rotate_left
              · simp only [Act.put, List.setIfInBounds_toArray, List.set_cons_zero, List.set_cons_succ, i64_w, i32_w]
                rfl
              refine pure_ (i := 4) (N := some 18) (v := undef) (a' := ?_) #[true, true, true, true, true, false, false, false, false, false, false, false, false] rfl rfl (any_of HT_.out (by kernel_rfl)) (fun _ _ _ h => h) (Or.inr ⟨by rfl, rfl⟩) ?_ ?_
              rotate_left
              · simp only [Act.put, List.setIfInBounds_toArray, List.set_cons_zero, List.set_cons_succ, i64_w, i32_w]
                rfl
              refine pure_ (i := 5) (N := some 19) (v := undef) (a' := ?_) #[true, true, true, true, true, true, false, false, false, false, false, false, false] rfl rfl (any_of HT_.out (by kernel_rfl)) (fun _ _ _ h => h) (Or.inr ⟨by rfl, rfl⟩) ?_ ?_
              rotate_left
              · simp only [Act.put, List.setIfInBounds_toArray, List.set_cons_zero, List.set_cons_succ, i64_w, i32_w]
                rfl
              refine pure_ (i := 6) (N := some 20) (v := undef) (a' := ?_) #[true, true, true, true, true, true, true, false, false, false, false, false, false] rfl rfl (any_of HT_.out (by kernel_rfl)) (fun _ _ _ h => h) (Or.inr ⟨by rfl, rfl⟩) ?_ ?_
              rotate_left
              · simp only [Act.put, List.setIfInBounds_toArray, List.set_cons_zero, List.set_cons_succ, i64_w, i32_w]
                rfl
              refine pure_ (i := 7) (N := some 21) (v := undef) (a' := ?_) #[true, true, true, true, true, true, true, true, false, false, false, false, false] rfl rfl (any_of HT_.out (by kernel_rfl)) (fun _ _ _ h => h) (Or.inr ⟨by rfl, rfl⟩) ?_ ?_
              rotate_left
              · simp only [Act.put, List.setIfInBounds_toArray, List.set_cons_zero, List.set_cons_succ, i64_w, i32_w]
                rfl
              refine pure_ (i := 8) (N := some 22) (v := undef) (a' := ?_) #[true, true, true, true, true, true, true, true, true, false, false, false, false] rfl rfl (any_of HT_.out (by kernel_rfl)) (fun _ _ _ h => h) (Or.inr ⟨by rfl, rfl⟩) ?_ ?_
              rotate_left
              · simp only [Act.put, List.setIfInBounds_toArray, List.set_cons_zero, List.set_cons_succ, i64_w, i32_w]
                rfl
              refine pure_ (i := 9) (N := some 23) (v := undef) (a' := ?_) #[true, true, true, true, true, true, true, true, true, true, false, false, false] rfl rfl (any_of HT_.out (by kernel_rfl)) (fun _ _ _ h => h) (Or.inr ⟨by rfl, rfl⟩) ?_ ?_
              rotate_left
              · simp only [Act.put, List.setIfInBounds_toArray, List.set_cons_zero, List.set_cons_succ, i64_w, i32_w]
                rfl
              refine pure_ (i := 10) (N := some 24) (v := undef) (a' := ?_) #[true, true, true, true, true, true, true, true, true, true, true, false, false] rfl rfl (any_of HT_.out (by kernel_rfl)) (fun _ _ _ h => h) (Or.inr ⟨by rfl, rfl⟩) ?_ ?_
              rotate_left
              · simp only [Act.put, List.setIfInBounds_toArray, List.set_cons_zero, List.set_cons_succ, i64_w, i32_w]
                rfl
              refine pure_ (i := 11) (N := some 25) (v := undef) (a' := ?_) #[true, true, true, true, true, true, true, true, true, true, true, true, false] rfl rfl (any_of HT_.out (by kernel_rfl)) (fun _ _ _ h => h) (Or.inr ⟨by rfl, rfl⟩) ?_ ?_
              rotate_left
              · simp only [Act.put, List.setIfInBounds_toArray, List.set_cons_zero, List.set_cons_succ, i64_w, i32_w]
                rfl
              refine pure_ (i := 12) (N := some 26) (v := ?_) (a' := ?_) #[true, true, true, true, true, true, true, true, true, true, true, true, true] rfl rfl (any_of HT_.out (by kernel_rfl)) (fun _ _ _ h => h) (Or.inl ⟨by rfl, ?_⟩) ?_ ?_
              rotate_left
              · intro w'
                go_simp
                with_reducible rfl
              rotate_left
              · simp only [Act.put, List.setIfInBounds_toArray, List.set_cons_zero, List.set_cons_succ, i64_w, i32_w]
                rfl
              refine done_ (done_of HT_.out (by kernel_rfl)) ?_
              have p259 : 0 ≤ (x7_1 : Int) := of_decide_eq_true (by first | (with_reducible assumption) | assumption)
              have q259 : x7_1 < (l0.length : Int) := of_decide_eq_true (by first | (with_reducible assumption) | assumption)
              obtain ⟨ad259, e259, hx259_0, hx259_1, hx259_2, hx259_3⟩ := at_T44 HR0.out x7_1 p259 q259
              cases e259
              replace hx259_0 := (HB.out.cell (World.block_lt_of_cell? w _ hx259_0)).trans hx259_0
              replace hx259_1 := (HB.out.cell (World.block_lt_of_cell? w _ hx259_1)).trans hx259_1
              replace hx259_2 := (HB.out.cell (World.block_lt_of_cell? w _ hx259_2)).trans hx259_2
              replace hx259_3 := (HB.out.cell (World.block_lt_of_cell? w _ hx259_3)).trans hx259_3
              replace p259 := eq_true p259
              replace q259 := eq_true q259
              try go_wp2_with (first | ((with_reducible refine gate_builtin (b := .append) (xs := #[.tmp 31, .tmp 36]) rfl ?_); at_builtin; refine Kd.R_append k44 (w0 := w) w.heap.size rfl (.tmp 31) (.tmp 36) 22 44 (.agg #[(.string ⟨#[]⟩), (.int .u64 0), (.int .i64 0), (.string ⟨#[]⟩)]) 48 rfl Try.underlying22 info44 rfl (by decide) (by omega) u5 x5_1 (⟨(⟨(rd_T44 l0 x7_1).f0.f0, (rd_T44 l0 x7_1).f0.f1, (rd_T44 l0 x7_1).f0.f2⟩ : S42), (rd_T44 l0 x7_1).f1⟩ : S44) [.string ((rd_T44 l0 x7_1).f0.f0), .int .u64 ((rd_T44 l0 x7_1).f0.f1), .int .i64 ((rd_T44 l0 x7_1).f0.f2), .string ((rd_T44 l0 x7_1).f1)] (fun k_ => k_ ≠ gb258) (fun _ => False) rfl rfl ?aP (fun _ hk => hk.elim) ?aF ?aO ?aB ?aS ?aL ?_; (case aP => exact k44_mkM _ _ _ (⟨(⟨(rd_T44 l0 x7_1).f0.f0, (rd_T44 l0 x7_1).f0.f1, (rd_T44 l0 x7_1).f0.f2⟩ : S42), (rd_T44 l0 x7_1).f1⟩ : S44)); (case aB => exact (by repeat (first | (with_reducible first | exact HB.out | apply below_alloc | apply pw_below_drewN | apply below_drew1 | refine below_set ?_ GE258.out) | exact HB.out))); (case aF => exact (fun k_ hk => Kd.freshB (g := gb258) (o := .cells #[.string a1_0, .int .u64 a1_1, .int .i64 a1_2, .string a1_3] 44 (0, 0)) (by (with_reducible repeat (first | refine blk_drewN ?_ _ | refine blk_drew ?_ | refine blk_alloc ?_ _)); exact BK258.out) k_ hk)); (case aO => exact (by (with_reducible repeat (first | apply Kd.R_alloc | apply Kd.R_drewN | apply Kd.R_drew)); exact HO_5.out)); (case aS => exact (below_size (by repeat (first | (with_reducible first | exact HB.out | apply below_alloc | apply pw_below_drewN | apply below_drew1 | refine below_set ?_ GE258.out) | exact HB.out)))); (case aL => have := LMc7.out; omega); intro v261 w9 ho hb hg hat; rw [← Ny260.out] at ho; have n0_ := Aside0.mk (blk_grown (g := gb258) (o := .cells #[.string a1_0, .int .u64 a1_1, .int .i64 a1_2, .string a1_3] 44 (0, 0)) (by (with_reducible repeat (first | refine blk_drewN ?_ _ | refine blk_drew ?_ | refine blk_alloc ?_ _)); exact BK258.out) hg (Kd.R_away HO_5.out (fun _ hk => hk))); have n1_ := Aside0.mk (hb); have n2_ := Aside0.mk (ho); clear BK258; clear HB; clear HO_5; have BK258 := n0_; have HB := n1_; have HO262 := n2_; clear n0_ n1_ n2_; clear ho hb hg hat))
              go_roundg k1
              case measure => have := HK1.out; omega
              case rel => exact ⟨(y260), (true), (wrap64 (x7_1 + 1)), (by first | rfl | (simp; done) | (simp [*]; done)), (by first | rfl | (simp; done) | (simp [*]; done)), H', ⟨by have := HK1.out; omega⟩, ⟨by (with_reducible repeat (first | apply Kd.R_alloc | apply Kd.R_drewN | apply Kd.R_drew)); exact HO262.out⟩, ⟨by (with_reducible repeat (first | refine blk_drewN ?_ _ | refine blk_drew ?_ | refine blk_alloc ?_ _)); exact BK258.out⟩, ⟨by repeat (first | (with_reducible first | exact HB.out | apply below_alloc | apply pw_below_drewN | apply below_drew1 | refine below_set ?_ GE258.out) | exact HB.out)⟩⟩
            · rw [if_neg c7] at H
              exact absurd H (by simp)
          · rw [if_neg c6] at H
            exact absurd H (by simp)
        · replace c5 := Bool.eq_false_iff.mpr c5
          subst c5
          have H1 : (if 0 ≤ x7_1 then ((staddleref02_Compare.f k1 a1_0 a1_1 a1_2 ((rd_T44 l0 x7_1).f0.f0) ((rd_T44 l0 x7_1).f0.f1) ((rd_T44 l0 x7_1).f0.f2)).bind fun t264 => (if t264 < 0 then (if x5_1.length < 2932031007402 then ((some (x5_1 ++ [(⟨(⟨a1_0, a1_1, a1_2⟩ : S42), a1_3⟩ : S44)] : List (S44))).bind fun y265 => (if y265.length < 2932031007402 then (staddleref08_With.l0 k1 l0 (y265 ++ [(⟨(⟨(rd_T44 l0 x7_1).f0.f0, (rd_T44 l0 x7_1).f0.f1, (rd_T44 l0 x7_1).f0.f2⟩ : S42), (rd_T44 l0 x7_1).f1⟩ : S44)]) true (wrap64 (x7_1 + 1)) a1_0 a1_1 a1_2 a1_3) else (none))) else (none)) else (if x5_1.length < 2932031007402 then (staddleref08_With.l0 k1 l0 (x5_1 ++ [(⟨(⟨(rd_T44 l0 x7_1).f0.f0, (rd_T44 l0 x7_1).f0.f1, (rd_T44 l0 x7_1).f0.f2⟩ : S42), (rd_T44 l0 x7_1).f1⟩ : S44)]) false (wrap64 (x7_1 + 1)) a1_0 a1_1 a1_2 a1_3) else (none)))) else (none)) = some r := by rw [if_neg (show ¬ (false = true) by decide)] at H; exact H
          clear H
          have H := H1
          clear H1
          by_cases c10 : 0 ≤ x7_1
          · rw [if_pos c10] at H
            have c10b0 : decide (0 ≤ x7_1) = true := decide_eq_true c10
            clear c10
            replace H := Option.bind_eq_some_iff.mp H
            obtain ⟨t264, A110, H⟩ := H
            replace H : (if t264 < 0 then (if x5_1.length < 2932031007402 then ((some (x5_1 ++ [(⟨(⟨a1_0, a1_1, a1_2⟩ : S42), a1_3⟩ : S44)] : List (S44))).bind fun y265 => (if y265.length < 2932031007402 then (staddleref08_With.l0 k1 l0 (y265 ++ [(⟨(⟨(rd_T44 l0 x7_1).f0.f0, (rd_T44 l0 x7_1).f0.f1, (rd_T44 l0 x7_1).f0.f2⟩ : S42), (rd_T44 l0 x7_1).f1⟩ : S44)]) true (wrap64 (x7_1 + 1)) a1_0 a1_1 a1_2 a1_3) else (none))) else (none)) else (if x5_1.length < 2932031007402 then (staddleref08_With.l0 k1 l0 (x5_1 ++ [(⟨(⟨(rd_T44 l0 x7_1).f0.f0, (rd_T44 l0 x7_1).f0.f1, (rd_T44 l0 x7_1).f0.f2⟩ : S42), (rd_T44 l0 x7_1).f1⟩ : S44)]) false (wrap64 (x7_1 + 1)) a1_0 a1_1 a1_2 a1_3) else (none))) = some r := H
            have A11 := Aside0.mk A110
            clear A110
            by_cases c12 : t264 < 0
            · rw [if_pos c12] at H
              have c12b0 : decide (t264 < 0) = true := decide_eq_true c12
              clear c12
              by_cases c13 : x5_1.length < 2932031007402
              · rw [if_pos c13] at H
                have LMc13 := Aside0.mk c13
                clear c13
                obtain ⟨y265, hy265⟩ : ∃ y_ : List (S44), y_ = (x5_1 ++ [(⟨(⟨a1_0, a1_1, a1_2⟩ : S42), a1_3⟩ : S44)]) := ⟨_, rfl⟩
                replace H : (if y265.length < 2932031007402 then (staddleref08_With.l0 k1 l0 (y265 ++ [(⟨(⟨(rd_T44 l0 x7_1).f0.f0, (rd_T44 l0 x7_1).f0.f1, (rd_T44 l0 x7_1).f0.f2⟩ : S42), (rd_T44 l0 x7_1).f1⟩ : S44)]) true (wrap64 (x7_1 + 1)) a1_0 a1_1 a1_2 a1_3) else (none)) = some r := by first | (rw [hy265]; with_reducible exact H) | (have H2_ := (Option.bind_some _ _).symm.trans H; rw [hy265]; with_reducible exact H2_) | (have H2_ := (Option.bind_some _ _).symm.trans H; with_reducible exact H2_) | with_reducible exact H | (rw [hy265]; exact H) | exact H
                have Ny265 := Aside0.mk hy265
                clear hy265
                by_cases c14 : y265.length < 2932031007402
                · rw [if_pos c14] at H
                  have LMc14 := Aside0.mk c14
                  clear c14
                  obtain ⟨y269, hy269⟩ : ∃ y_ : List (S44), y_ = (y265 ++ [(⟨(⟨(rd_T44 l0 x7_1).f0.f0, (rd_T44 l0 x7_1).f0.f1, (rd_T44 l0 x7_1).f0.f2⟩ : S42), (rd_T44 l0 x7_1).f1⟩ : S44)]) := ⟨_, rfl⟩
                  replace H : (staddleref08_With.l0 k1 l0 y269 true (wrap64 (x7_1 + 1)) a1_0 a1_1 a1_2 a1_3) = some r := by first | (rw [hy269]; with_reducible exact H) | (have H2_ := (Option.bind_some _ _).symm.trans H; rw [hy269]; with_reducible exact H2_) | (have H2_ := (Option.bind_some _ _).symm.trans H; with_reducible exact H2_) | with_reducible exact H | (rw [hy269]; exact H) | exact H
                  have Ny269 := Aside0.mk hy269
                  clear hy269
                  have H' := Aside0.mk H
                  clear H
                  try go_wp2
                  have n0_ := Aside0.mk (Kd.R_drew HO_5.out)
                  have n1_ := Aside0.mk (blk_drew BK258.out)
                  have n2_ := Aside0.mk (below_drew1 HB.out)
                  clear HO_5
                  clear BK258
                  clear HB
                  have HO_5 := n0_
                  have BK258 := n1_
                  have HB := n2_
                  clear n0_ n1_ n2_
                  have p263 : 0 ≤ (x7_1 : Int) := of_decide_eq_true (by first | (with_reducible assumption) | assumption)
                  have q263 : x7_1 < (l0.length : Int) := of_decide_eq_true (by first | (with_reducible assumption) | assumption)
                  obtain ⟨ad263, e263, hx263_0, hx263_1, hx263_2, hx263_3⟩ := at_T44 HR0.out x7_1 p263 q263
                  have hw263_3 := hx263_3
                  have hw263_2 := hx263_2
                  have hw263_1 := hx263_1
                  have hw263_0 := hx263_0
                  cases e263
                  replace hx263_0 := (HB.out.cell (World.block_lt_of_cell? w _ hx263_0)).trans hx263_0
                  replace hx263_1 := (HB.out.cell (World.block_lt_of_cell? w _ hx263_1)).trans hx263_1
                  replace hx263_2 := (HB.out.cell (World.block_lt_of_cell? w _ hx263_2)).trans hx263_2
                  replace hx263_3 := (HB.out.cell (World.block_lt_of_cell? w _ hx263_3)).trans hx263_3
                  replace p263 := eq_true p263
                  replace q263 := eq_true q263
                  refine start_ (n := 13) (S := fun w' => w'.cell? ⟨gb258, 0, none⟩ = some (.string a1_0) ∧ w'.cell? ⟨gb258, 1, none⟩ = some (.int .u64 a1_1) ∧ w'.cell? ⟨gb258, 2, none⟩ = some (.int .i64 a1_2) ∧ w'.cell? ⟨gb258, 3, none⟩ = some (.string a1_3) ∧ w'.cell? (ad263.add ((x7_1).toNat * 4)) = some (.string ((rd_T44 l0 x7_1).f0.f0)) ∧ w'.cell? ⟨(ad263.add ((x7_1).toNat * 4)).block, (ad263.add ((x7_1).toNat * 4)).off + 1, none⟩ = some (.int .u64 ((rd_T44 l0 x7_1).f0.f1)) ∧ w'.cell? ⟨(ad263.add ((x7_1).toNat * 4)).block, (ad263.add ((x7_1).toNat * 4)).off + 2, none⟩ = some (.int .i64 ((rd_T44 l0 x7_1).f0.f2)) ∧ w'.cell? ⟨(ad263.add ((x7_1).toNat * 4)).block, (ad263.add ((x7_1).toNat * 4)).off + 3, none⟩ = some (.string ((rd_T44 l0 x7_1).f1))) (ds := []) #[false, false, false, false, false, false, false, false, false, false, false, false, false] (by kernel_rfl) rfl rfl ⟨(blk_cell BK258.out 0).trans rfl, (blk_cell BK258.out 1).trans rfl, (blk_cell BK258.out 2).trans rfl, (blk_cell BK258.out 3).trans rfl, ((HB.out.cell (World.block_lt_of_cell? w _ hw263_0)).trans hw263_0), ((HB.out.cell (World.block_lt_of_cell? w _ hw263_1)).trans hw263_1), ((HB.out.cell (World.block_lt_of_cell? w _ hw263_2)).trans hw263_2), ((HB.out.cell (World.block_lt_of_cell? w _ hw263_3)).trans hw263_3)⟩ (fun hHeld => ?_); refine with_tabW staddleref08_With.tab6 staddleref08_With.bits6 (fun HT_ HW_ => ?_)
                  generalize wr.drew = w15 at HO_5 BK258 HB hx263_0 hx263_1 hx263_2 hx263_3 hHeld ⊢
                  refine pure_ (i := 0) (N := some 14) (v := ?_) (a' := ?_) #[true, false, false, false, false, false, false, false, false, false, false, false, false] rfl rfl (any_of HT_.out (by kernel_rfl)) (fun _ _ _ h => h) (Or.inl ⟨by rfl, ?_⟩) ?_ ?_
                  rotate_left
                  · intro w'
                    go_simp
                    with_reducible rfl
                  rotate_left
                  · simp only [Act.put, List.setIfInBounds_toArray, List.set_cons_zero, List.set_cons_succ, i64_w, i32_w]
                    rfl
                  refine pure_ (i := 1) (N := some 15) (v := ?_) (a' := ?_) #[true, true, false, false, false, false, false, false, false, false, false, false, false] rfl rfl (any_of HT_.out (by kernel_rfl)) (fun _ _ _ h => h) (Or.inl ⟨by rfl, ?_⟩) ?_ ?_
                  rotate_left
                  · intro w'
                    go_simp
                    with_reducible rfl
                  rotate_left
                  · simp only [Act.put, List.setIfInBounds_toArray, List.set_cons_zero, List.set_cons_succ, i64_w, i32_w]
                    rfl
                  refine pure_ (i := 2) (N := some 16) (v := ?_) (a' := ?_) #[true, true, true, false, false, false, false, false, false, false, false, false, false] rfl rfl (any_of HT_.out (by kernel_rfl)) (fun _ _ _ h => h) (Or.inl ⟨by rfl, ?_⟩) ?_ ?_
                  rotate_left
                  · intro w'
                    go_simp
                    with_reducible rfl
                  rotate_left
                  · simp only [Act.put, List.setIfInBounds_toArray, List.set_cons_zero, List.set_cons_succ, i64_w, i32_w]
                    rfl
                  refine pure_ (i := 3) (N := some 17) (v := ?_) (a' := ?_) #[true, true, true, true, false, false, false, false, false, false, false, false, false] rfl rfl (any_of HT_.out (by kernel_rfl)) (fun _ _ _ h => h) (Or.inl ⟨by rfl, ?_⟩) ?_ ?_
                  rotate_left
                  · intro w'
                    go_simp
                    with_reducible rfl
                  rotate_left
                  · simp only [Act.put, List.setIfInBounds_toArray, List.set_cons_zero, List.set_cons_succ, i64_w, i32_w]
                    rfl
                  refine pure_ (i := 5) (N := some 19) (v := ?_) (a' := ?_) #[true, true, true, true, false, true, false, false, false, false, false, false, false] rfl rfl (any_of HT_.out (by kernel_rfl)) (fun _ _ _ h => h) (Or.inl ⟨by rfl, ?_⟩) ?_ ?_
                  rotate_left
                  · intro w'
                    go_simp
                    with_reducible rfl
                  rotate_left
                  · simp only [Act.put, List.setIfInBounds_toArray, List.set_cons_zero, List.set_cons_succ, i64_w, i32_w]
                    rfl
                  refine pure_ (i := 6) (N := some 20) (v := ?_) (a' := ?_) #[true, true, true, true, false, true, true, false, false, false, false, false, false] rfl rfl (any_of HT_.out (by kernel_rfl)) (fun _ _ _ h => h) (Or.inl ⟨by rfl, ?_⟩) ?_ ?_
                  rotate_left
                  · intro w'
                    go_simp
                    with_reducible rfl
                  rotate_left
                  · simp only [Act.put, List.setIfInBounds_toArray, List.set_cons_zero, List.set_cons_succ, i64_w, i32_w]
                    rfl
                  refine pure_ (i := 7) (N := some 21) (v := ?_) (a' := ?_) #[true, true, true, true, false, true, true, true, false, false, false, false, false] rfl rfl (any_of HT_.out (by kernel_rfl)) (fun _ _ _ h => h) (Or.inl ⟨by rfl, ?_⟩) ?_ ?_
                  rotate_left
                  · intro w'
                    go_simp
                    with_reducible rfl
                  rotate_left
                  · simp only [Act.put, List.setIfInBounds_toArray, List.set_cons_zero, List.set_cons_succ, i64_w, i32_w]
                    rfl
                  refine pure_ (i := 8) (N := some 22) (v := ?_) (a' := ?_) #[true, true, true, true, false, true, true, true, true, false, false, false, false] rfl rfl (any_of HT_.out (by kernel_rfl)) (fun _ _ _ h => h) (Or.inl ⟨by rfl, ?_⟩) ?_ ?_
                  rotate_left
                  · intro w'
                    go_simp
                    with_reducible rfl
                  rotate_left
                  · simp only [Act.put, List.setIfInBounds_toArray, List.set_cons_zero, List.set_cons_succ, i64_w, i32_w]
                    rfl
                  refine take_ (i := 4) (N := some 18) (v := ?_) (a' := ?_) #[true, true, true, true, true, true, true, true, true, false, false, false, false] rfl rfl (take_ofW HT_.out HW_.out (by kernel_rfl)) (fun _ _ _ h => h) (Or.inl ⟨by rfl, ?_⟩) hHeld ?_ ?_
                  rotate_left
                  · rintro w' ⟨s0, s1, s2, s3, s4, s5, s6, s7⟩
                    go_simp
                    with_reducible rfl
                  rotate_left
                  · simp only [Act.put, List.setIfInBounds_toArray, List.set_cons_zero, List.set_cons_succ, i64_w, i32_w]
                    rfl
                  refine take_ (i := 9) (N := some 23) (v := ?_) (a' := ?_) #[true, true, true, true, true, true, true, true, true, true, false, false, false] rfl rfl (take_ofW HT_.out HW_.out (by kernel_rfl)) (fun _ _ _ h => h) (Or.inl ⟨by rfl, ?_⟩) hHeld ?_ ?_
                  rotate_left
                  · rintro w' ⟨s0, s1, s2, s3, s4, s5, s6, s7⟩
                    go_simp
                    with_reducible rfl
                  rotate_left
                  · simp only [Act.put, List.setIfInBounds_toArray, List.set_cons_zero, List.set_cons_succ, i64_w, i32_w]
                    rfl
                  refine one_ (i := 10) (N := some 24) #[true, true, true, true, true, true, true, true, true, true, true, false, false] rfl rfl (one_of HT_.out (by kernel_rfl)) (by decide) (fun K hK => ?_)
                  refine goes_ Try.func41 (by kernel_rfl) rfl #[.agg #[.string a1_0, .int .u64 a1_1, .int .i64 a1_2], .agg #[.string ((rd_T44 l0 x7_1).f0.f0), .int .u64 ((rd_T44 l0 x7_1).f0.f1), .int .i64 ((rd_T44 l0 x7_1).f0.f2)]] (by rfl) rfl rfl (by (try simp only [List.map_toArray, List.map_cons, List.map_nil]); first | done | rfl | (simp only [List.length_drop, List.length_take]; rfl)) ?_
                  with_reducible refine (staddleref02_Compare.calls k1 a1_0 a1_1 a1_2 ((rd_T44 l0 x7_1).f0.f0) ((rd_T44 l0 x7_1).f0.f1) ((rd_T44 l0 x7_1).f0.f2) t264 _ A11.out).mono ?_
                  rintro e w16 ⟨rfl, hb⟩
                  refine ⟨_, rfl, ?_⟩
                  have n0_ := Aside0.mk (Kd.R_below (by (with_reducible repeat (first | apply Kd.R_alloc | apply Kd.R_drewN | apply Kd.R_drew)); exact HO_5.out) hb)
                  have n1_ := Aside0.mk (blk_below (g := gb258) (o := .cells #[.string a1_0, .int .u64 a1_1, .int .i64 a1_2, .string a1_3] 44 (0, 0)) (by (with_reducible repeat (first | refine blk_drewN ?_ _ | refine blk_drew ?_ | refine blk_alloc ?_ _)); exact BK258.out) hb)
                  have n2_ := Aside0.mk (below_step (by repeat (first | (with_reducible first | exact HB.out | apply below_alloc | apply pw_below_drewN | apply below_drew1 | refine below_set ?_ GE258.out) | exact HB.out)) hb)
                  clear HO_5
                  clear BK258
                  clear HB
                  have HO_5 := n0_
                  have BK258 := n1_
                  have HB := n2_
                  clear n0_ n1_ n2_
                  (try clear hb)
                  (try clear hb2)
                  (try clear hk)
                  (try clear hi)
                  refine hK.out _ _ ⟨(blk_cell BK258.out 0).trans rfl, (blk_cell BK258.out 1).trans rfl, (blk_cell BK258.out 2).trans rfl, (blk_cell BK258.out 3).trans rfl, ((HB.out.cell (World.block_lt_of_cell? w _ hw263_0)).trans hw263_0), ((HB.out.cell (World.block_lt_of_cell? w _ hw263_1)).trans hw263_1), ((HB.out.cell (World.block_lt_of_cell? w _ hw263_2)).trans hw263_2), ((HB.out.cell (World.block_lt_of_cell? w _ hw263_3)).trans hw263_3)⟩ (fun hHeld => ?_)
                  clear hK K
                  refine norm_ (a' := ?_) ?_ ?_
                  rotate_left
                  · show Act.put _ (some 24) _ = _
                    simp only [Act.put, List.setIfInBounds_toArray, List.set_cons_zero, List.set_cons_succ, i64_w, i32_w]
                    rfl
                  refine pure_ (i := 11) (N := some 25) (v := ?_) (a' := ?_) #[true, true, true, true, true, true, true, true, true, true, true, true, false] rfl rfl (any_of HT_.out (by kernel_rfl)) (fun _ _ _ h => h) (Or.inl ⟨by rfl, ?_⟩) ?_ ?_
                  rotate_left
                  · intro w'
                    go_simp
                    with_reducible rfl
                  rotate_left
                  · simp only [Act.put, List.setIfInBounds_toArray, List.set_cons_zero, List.set_cons_succ, i64_w, i32_w]
                    rfl
                  refine pure_ (i := 12) (N := some 26) (v := ?_) (a' := ?_) #[true, true, true, true, true, true, true, true, true, true, true, true, true] rfl rfl (any_of HT_.out (by kernel_rfl)) (fun _ _ _ h => h) (Or.inl ⟨by rfl, ?_⟩) ?_ ?_
                  rotate_left
                  · intro w'
                    go_simp
                    with_reducible rfl
                  rotate_left
                  · simp only [Act.put, List.setIfInBounds_toArray, List.set_cons_zero, List.set_cons_succ, i64_w, i32_w]
                    rfl
                  refine done_ (done_of HT_.out (by kernel_rfl)) ?_
                  have hcz17_0 : w16.cell? ⟨gb258, 0, none⟩ = some (.string a1_0) := (blk_cell BK258.out 0).trans rfl
                  have hcz17_1 : w16.cell? ⟨gb258, 1, none⟩ = some (.int .u64 a1_1) := (blk_cell BK258.out 1).trans rfl
                  have hcz17_2 : w16.cell? ⟨gb258, 2, none⟩ = some (.int .i64 a1_2) := (blk_cell BK258.out 2).trans rfl
                  have hcz17_3 : w16.cell? ⟨gb258, 3, none⟩ = some (.string a1_3) := (blk_cell BK258.out 3).trans rfl
                  have hfz17_0 := blk_frozen BK258.out 0
                  have hfz17_1 := blk_frozen BK258.out 1
                  have hfz17_2 := blk_frozen BK258.out 2
                  have hfz17_3 := blk_frozen BK258.out 3
                  try go_wp2_with (first | ((with_reducible refine gate_builtin (b := .append) (xs := #[.tmp 27, .tmp 29]) rfl ?_); at_builtin; refine Kd.R_append k44 (w0 := w) w.heap.size rfl (.tmp 27) (.tmp 29) 22 44 (.agg #[(.string ⟨#[]⟩), (.int .u64 0), (.int .i64 0), (.string ⟨#[]⟩)]) 48 rfl Try.underlying22 info44 rfl (by decide) (by omega) u5 x5_1 (⟨(⟨a1_0, a1_1, a1_2⟩ : S42), a1_3⟩ : S44) [.string a1_0, .int .u64 a1_1, .int .i64 a1_2, .string a1_3] (fun k_ => k_ ≠ gb258) (fun _ => False) rfl rfl ?aP (fun _ hk => hk.elim) ?aF ?aO ?aB ?aS ?aL ?_; (case aP => exact k44_mkM _ _ _ (⟨(⟨a1_0, a1_1, a1_2⟩ : S42), a1_3⟩ : S44)); (case aB => exact (by repeat (first | (with_reducible first | exact HB.out | apply below_alloc | apply pw_below_drewN | apply below_drew1 | refine below_set ?_ GE258.out) | exact HB.out))); (case aF => exact (fun k_ hk => Kd.freshB (g := gb258) (o := .cells #[.string a1_0, .int .u64 a1_1, .int .i64 a1_2, .string a1_3] 44 (0, 0)) (by (with_reducible repeat (first | refine blk_drewN ?_ _ | refine blk_drew ?_ | refine blk_alloc ?_ _)); exact BK258.out) k_ hk)); (case aO => exact (by (with_reducible repeat (first | apply Kd.R_alloc | apply Kd.R_drewN | apply Kd.R_drew)); exact HO_5.out)); (case aS => exact (below_size (by repeat (first | (with_reducible first | exact HB.out | apply below_alloc | apply pw_below_drewN | apply below_drew1 | refine below_set ?_ GE258.out) | exact HB.out)))); (case aL => have := LMc13.out; omega); intro v266 w18 ho hb hg hat; rw [← Ny265.out] at ho; have n0_ := Aside0.mk (blk_grown (g := gb258) (o := .cells #[.string a1_0, .int .u64 a1_1, .int .i64 a1_2, .string a1_3] 44 (0, 0)) (by (with_reducible repeat (first | refine blk_drewN ?_ _ | refine blk_drew ?_ | refine blk_alloc ?_ _)); exact BK258.out) hg (Kd.R_away HO_5.out (fun _ hk => hk))); have n1_ := Aside0.mk (hb); have n2_ := Aside0.mk (ho); clear BK258; clear HB; clear HO_5; have BK258 := n0_; have HB := n1_; have HO267 := n2_; clear n0_ n1_ n2_; clear ho hb hg hat; have p268 : 0 ≤ (x7_1 : Int) := of_decide_eq_true (by first | (with_reducible assumption) | assumption); have q268 : x7_1 < (l0.length : Int) := of_decide_eq_true (by first | (with_reducible assumption) | assumption); obtain ⟨ad268, e268, hx268_0, hx268_1, hx268_2, hx268_3⟩ := at_T44 HR0.out x7_1 p268 q268; obtain rfl : ad263 = ad268 := (by injection e268); replace hx268_0 := (HB.out.cell (World.block_lt_of_cell? w _ hx268_0)).trans hx268_0; replace hx268_1 := (HB.out.cell (World.block_lt_of_cell? w _ hx268_1)).trans hx268_1; replace hx268_2 := (HB.out.cell (World.block_lt_of_cell? w _ hx268_2)).trans hx268_2; replace hx268_3 := (HB.out.cell (World.block_lt_of_cell? w _ hx268_3)).trans hx268_3; replace p268 := eq_true p268; replace q268 := eq_true q268) | ((with_reducible refine gate_builtin (b := .append) (xs := #[.tmp 31, .tmp 36]) rfl ?_); at_builtin; refine Kd.R_append k44 (w0 := w) w.heap.size rfl (.tmp 31) (.tmp 36) 22 44 (.agg #[(.string ⟨#[]⟩), (.int .u64 0), (.int .i64 0), (.string ⟨#[]⟩)]) 48 rfl Try.underlying22 info44 rfl (by decide) (by omega) v266 y265 (⟨(⟨(rd_T44 l0 x7_1).f0.f0, (rd_T44 l0 x7_1).f0.f1, (rd_T44 l0 x7_1).f0.f2⟩ : S42), (rd_T44 l0 x7_1).f1⟩ : S44) [.string ((rd_T44 l0 x7_1).f0.f0), .int .u64 ((rd_T44 l0 x7_1).f0.f1), .int .i64 ((rd_T44 l0 x7_1).f0.f2), .string ((rd_T44 l0 x7_1).f1)] (fun k_ => k_ ≠ gb258) (fun _ => False) rfl rfl ?aP (fun _ hk => hk.elim) ?aF ?aO ?aB ?aS ?aL ?_; (case aP => exact k44_mkM _ _ _ (⟨(⟨(rd_T44 l0 x7_1).f0.f0, (rd_T44 l0 x7_1).f0.f1, (rd_T44 l0 x7_1).f0.f2⟩ : S42), (rd_T44 l0 x7_1).f1⟩ : S44)); (case aB => exact (by repeat (first | (with_reducible first | exact HB.out | apply below_alloc | apply pw_below_drewN | apply below_drew1 | refine below_set ?_ GE258.out) | exact HB.out))); (case aF => exact (fun k_ hk => Kd.freshB (g := gb258) (o := .cells #[.string a1_0, .int .u64 a1_1, .int .i64 a1_2, .string a1_3] 44 (0, 0)) (by (with_reducible repeat (first | refine blk_drewN ?_ _ | refine blk_drew ?_ | refine blk_alloc ?_ _)); exact BK258.out) k_ hk)); (case aO => exact (by (with_reducible repeat (first | apply Kd.R_alloc | apply Kd.R_drewN | apply Kd.R_drew)); exact HO267.out)); (case aS => exact (below_size (by repeat (first | (with_reducible first | exact HB.out | apply below_alloc | apply pw_below_drewN | apply below_drew1 | refine below_set ?_ GE258.out) | exact HB.out)))); (case aL => have := LMc14.out; omega); intro v270 w19 ho hb hg hat; rw [← Ny269.out] at ho; have n0_ := Aside0.mk (blk_grown (g := gb258) (o := .cells #[.string a1_0, .int .u64 a1_1, .int .i64 a1_2, .string a1_3] 44 (0, 0)) (by (with_reducible repeat (first | refine blk_drewN ?_ _ | refine blk_drew ?_ | refine blk_alloc ?_ _)); exact BK258.out) hg (Kd.R_away HO267.out (fun _ hk => hk))); have n1_ := Aside0.mk (hb); have n2_ := Aside0.mk (ho); clear BK258; clear HB; clear HO267; have BK258 := n0_; have HB := n1_; have HO271 := n2_; clear n0_ n1_ n2_; clear ho hb hg hat))
                  go_roundg k1
                  case measure => have := HK1.out; omega
                  case rel => exact ⟨(y269), (true), (wrap64 (x7_1 + 1)), (by first | rfl | (simp; done) | (simp [*]; done)), (by first | rfl | (simp; done) | (simp [*]; done)), H', ⟨by have := HK1.out; omega⟩, ⟨by (with_reducible repeat (first | apply Kd.R_alloc | apply Kd.R_drewN | apply Kd.R_drew)); exact HO271.out⟩, ⟨by (with_reducible repeat (first | refine blk_drewN ?_ _ | refine blk_drew ?_ | refine blk_alloc ?_ _)); exact BK258.out⟩, ⟨by repeat (first | (with_reducible first | exact HB.out | apply below_alloc | apply pw_below_drewN | apply below_drew1 | refine below_set ?_ GE258.out) | exact HB.out)⟩⟩
                · rw [if_neg c14] at H
                  exact absurd H (by simp)
              · rw [if_neg c13] at H
                exact absurd H (by simp)
            · rw [if_neg c12] at H
              have c12b0 : decide (t264 < 0) = false := decide_eq_false c12
              clear c12
              by_cases c20 : x5_1.length < 2932031007402
              · rw [if_pos c20] at H
                have LMc20 := Aside0.mk c20
                clear c20
                obtain ⟨y273, hy273⟩ : ∃ y_ : List (S44), y_ = (x5_1 ++ [(⟨(⟨(rd_T44 l0 x7_1).f0.f0, (rd_T44 l0 x7_1).f0.f1, (rd_T44 l0 x7_1).f0.f2⟩ : S42), (rd_T44 l0 x7_1).f1⟩ : S44)]) := ⟨_, rfl⟩
                replace H : (staddleref08_With.l0 k1 l0 y273 false (wrap64 (x7_1 + 1)) a1_0 a1_1 a1_2 a1_3) = some r := by first | (rw [hy273]; with_reducible exact H) | (have H2_ := (Option.bind_some _ _).symm.trans H; rw [hy273]; with_reducible exact H2_) | (have H2_ := (Option.bind_some _ _).symm.trans H; with_reducible exact H2_) | with_reducible exact H | (rw [hy273]; exact H) | exact H
                have Ny273 := Aside0.mk hy273
                clear hy273
                have H' := Aside0.mk H
                clear H
                try go_wp2
                have n0_ := Aside0.mk (Kd.R_drew HO_5.out)
                have n1_ := Aside0.mk (blk_drew BK258.out)
                have n2_ := Aside0.mk (below_drew1 HB.out)
                clear HO_5
                clear BK258
                clear HB
                have HO_5 := n0_
                have BK258 := n1_
                have HB := n2_
                clear n0_ n1_ n2_
                have p263 : 0 ≤ (x7_1 : Int) := of_decide_eq_true (by first | (with_reducible assumption) | assumption)
                have q263 : x7_1 < (l0.length : Int) := of_decide_eq_true (by first | (with_reducible assumption) | assumption)
                obtain ⟨ad263, e263, hx263_0, hx263_1, hx263_2, hx263_3⟩ := at_T44 HR0.out x7_1 p263 q263
                have hw263_3 := hx263_3
                have hw263_2 := hx263_2
                have hw263_1 := hx263_1
                have hw263_0 := hx263_0
                cases e263
                replace hx263_0 := (HB.out.cell (World.block_lt_of_cell? w _ hx263_0)).trans hx263_0
                replace hx263_1 := (HB.out.cell (World.block_lt_of_cell? w _ hx263_1)).trans hx263_1
                replace hx263_2 := (HB.out.cell (World.block_lt_of_cell? w _ hx263_2)).trans hx263_2
                replace hx263_3 := (HB.out.cell (World.block_lt_of_cell? w _ hx263_3)).trans hx263_3
                replace p263 := eq_true p263
                replace q263 := eq_true q263
                refine start_ (n := 13) (S := fun w' => w'.cell? ⟨gb258, 0, none⟩ = some (.string a1_0) ∧ w'.cell? ⟨gb258, 1, none⟩ = some (.int .u64 a1_1) ∧ w'.cell? ⟨gb258, 2, none⟩ = some (.int .i64 a1_2) ∧ w'.cell? ⟨gb258, 3, none⟩ = some (.string a1_3) ∧ w'.cell? (ad263.add ((x7_1).toNat * 4)) = some (.string ((rd_T44 l0 x7_1).f0.f0)) ∧ w'.cell? ⟨(ad263.add ((x7_1).toNat * 4)).block, (ad263.add ((x7_1).toNat * 4)).off + 1, none⟩ = some (.int .u64 ((rd_T44 l0 x7_1).f0.f1)) ∧ w'.cell? ⟨(ad263.add ((x7_1).toNat * 4)).block, (ad263.add ((x7_1).toNat * 4)).off + 2, none⟩ = some (.int .i64 ((rd_T44 l0 x7_1).f0.f2)) ∧ w'.cell? ⟨(ad263.add ((x7_1).toNat * 4)).block, (ad263.add ((x7_1).toNat * 4)).off + 3, none⟩ = some (.string ((rd_T44 l0 x7_1).f1))) (ds := []) #[false, false, false, false, false, false, false, false, false, false, false, false, false] (by kernel_rfl) rfl rfl ⟨(blk_cell BK258.out 0).trans rfl, (blk_cell BK258.out 1).trans rfl, (blk_cell BK258.out 2).trans rfl, (blk_cell BK258.out 3).trans rfl, ((HB.out.cell (World.block_lt_of_cell? w _ hw263_0)).trans hw263_0), ((HB.out.cell (World.block_lt_of_cell? w _ hw263_1)).trans hw263_1), ((HB.out.cell (World.block_lt_of_cell? w _ hw263_2)).trans hw263_2), ((HB.out.cell (World.block_lt_of_cell? w _ hw263_3)).trans hw263_3)⟩ (fun hHeld => ?_); refine with_tabW staddleref08_With.tab6 staddleref08_With.bits6 (fun HT_ HW_ => ?_)
                generalize wr.drew = w21 at HO_5 BK258 HB hx263_0 hx263_1 hx263_2 hx263_3 hHeld ⊢
                refine pure_ (i := 0) (N := some 14) (v := ?_) (a' := ?_) #[true, false, false, false, false, false, false, false, false, false, false, false, false] rfl rfl (any_of HT_.out (by kernel_rfl)) (fun _ _ _ h => h) (Or.inl ⟨by rfl, ?_⟩) ?_ ?_
                rotate_left
                · intro w'
                  go_simp
                  with_reducible rfl
                rotate_left
                · simp only [Act.put, List.setIfInBounds_toArray, List.set_cons_zero, List.set_cons_succ, i64_w, i32_w]
                  rfl
                refine pure_ (i := 1) (N := some 15) (v := ?_) (a' := ?_) #[true, true, false, false, false, false, false, false, false, false, false, false, false] rfl rfl (any_of HT_.out (by kernel_rfl)) (fun _ _ _ h => h) (Or.inl ⟨by rfl, ?_⟩) ?_ ?_
                rotate_left
                · intro w'
                  go_simp
                  with_reducible rfl
                rotate_left
                · simp only [Act.put, List.setIfInBounds_toArray, List.set_cons_zero, List.set_cons_succ, i64_w, i32_w]
                  rfl
                refine pure_ (i := 2) (N := some 16) (v := ?_) (a' := ?_) #[true, true, true, false, false, false, false, false, false, false, false, false, false] rfl rfl (any_of HT_.out (by kernel_rfl)) (fun _ _ _ h => h) (Or.inl ⟨by rfl, ?_⟩) ?_ ?_
                rotate_left
                · intro w'
                  go_simp
                  with_reducible rfl
                rotate_left
                · simp only [Act.put, List.setIfInBounds_toArray, List.set_cons_zero, List.set_cons_succ, i64_w, i32_w]
                  rfl
                refine pure_ (i := 3) (N := some 17) (v := ?_) (a' := ?_) #[true, true, true, true, false, false, false, false, false, false, false, false, false] rfl rfl (any_of HT_.out (by kernel_rfl)) (fun _ _ _ h => h) (Or.inl ⟨by rfl, ?_⟩) ?_ ?_
                rotate_left
                · intro w'
                  go_simp
                  with_reducible rfl
                rotate_left
                · simp only [Act.put, List.setIfInBounds_toArray, List.set_cons_zero, List.set_cons_succ, i64_w, i32_w]
                  rfl
                refine pure_ (i := 5) (N := some 19) (v := ?_) (a' := ?_) #[true, true, true, true, false, true, false, false, false, false, false, false, false] rfl rfl (any_of HT_.out (by kernel_rfl)) (fun _ _ _ h => h) (Or.inl ⟨by rfl, ?_⟩) ?_ ?_
                rotate_left
                · intro w'
                  go_simp
                  with_reducible rfl
                rotate_left
                · simp only [Act.put, List.setIfInBounds_toArray, List.set_cons_zero, List.set_cons_succ, i64_w, i32_w]
                  rfl
                refine pure_ (i := 6) (N := some 20) (v := ?_) (a' := ?_) #[true, true, true, true, false, true, true, false, false, false, false, false, false] rfl rfl (any_of HT_.out (by kernel_rfl)) (fun _ _ _ h => h) (Or.inl ⟨by rfl, ?_⟩) ?_ ?_
                rotate_left
                · intro w'
                  go_simp
                  with_reducible rfl
                rotate_left
                · simp only [Act.put, List.setIfInBounds_toArray, List.set_cons_zero, List.set_cons_succ, i64_w, i32_w]
                  rfl
                refine pure_ (i := 7) (N := some 21) (v := ?_) (a' := ?_) #[true, true, true, true, false, true, true, true, false, false, false, false, false] rfl rfl (any_of HT_.out (by kernel_rfl)) (fun _ _ _ h => h) (Or.inl ⟨by rfl, ?_⟩) ?_ ?_
                rotate_left
                · intro w'
                  go_simp
                  with_reducible rfl
                rotate_left
                · simp only [Act.put, List.setIfInBounds_toArray, List.set_cons_zero, List.set_cons_succ, i64_w, i32_w]
                  rfl
                refine pure_ (i := 8) (N := some 22) (v := ?_) (a' := ?_) #[true, true, true, true, false, true, true, true, true, false, false, false, false] rfl rfl (any_of HT_.out (by kernel_rfl)) (fun _ _ _ h => h) (Or.inl ⟨by rfl, ?_⟩) ?_ ?_
                rotate_left
                · intro w'
                  go_simp
                  with_reducible rfl
                rotate_left
                · simp only [Act.put, List.setIfInBounds_toArray, List.set_cons_zero, List.set_cons_succ, i64_w, i32_w]
                  rfl
                refine take_ (i := 4) (N := some 18) (v := ?_) (a' := ?_) #[true, true, true, true, true, true, true, true, true, false, false, false, false] rfl rfl (take_ofW HT_.out HW_.out (by kernel_rfl)) (fun _ _ _ h => h) (Or.inl ⟨by rfl, ?_⟩) hHeld ?_ ?_
                rotate_left
                · rintro w' ⟨s0, s1, s2, s3, s4, s5, s6, s7⟩
                  go_simp
                  with_reducible rfl
                rotate_left
                · simp only [Act.put, List.setIfInBounds_toArray, List.set_cons_zero, List.set_cons_succ, i64_w, i32_w]
                  rfl
                refine take_ (i := 9) (N := some 23) (v := ?_) (a' := ?_) #[true, true, true, true, true, true, true, true, true, true, false, false, false] rfl rfl (take_ofW HT_.out HW_.out (by kernel_rfl)) (fun _ _ _ h => h) (Or.inl ⟨by rfl, ?_⟩) hHeld ?_ ?_
                rotate_left
                · rintro w' ⟨s0, s1, s2, s3, s4, s5, s6, s7⟩
                  go_simp
                  with_reducible rfl
                rotate_left
                · simp only [Act.put, List.setIfInBounds_toArray, List.set_cons_zero, List.set_cons_succ, i64_w, i32_w]
                  rfl
                refine one_ (i := 10) (N := some 24) #[true, true, true, true, true, true, true, true, true, true, true, false, false] rfl rfl (one_of HT_.out (by kernel_rfl)) (by decide) (fun K hK => ?_)
                refine goes_ Try.func41 (by kernel_rfl) rfl #[.agg #[.string a1_0, .int .u64 a1_1, .int .i64 a1_2], .agg #[.string ((rd_T44 l0 x7_1).f0.f0), .int .u64 ((rd_T44 l0 x7_1).f0.f1), .int .i64 ((rd_T44 l0 x7_1).f0.f2)]] (by rfl) rfl rfl (by (try simp only [List.map_toArray, List.map_cons, List.map_nil]); first | done | rfl | (simp only [List.length_drop, List.length_take]; rfl)) ?_
                with_reducible refine (staddleref02_Compare.calls k1 a1_0 a1_1 a1_2 ((rd_T44 l0 x7_1).f0.f0) ((rd_T44 l0 x7_1).f0.f1) ((rd_T44 l0 x7_1).f0.f2) t264 _ A11.out).mono ?_
                rintro e w22 ⟨rfl, hb⟩
                refine ⟨_, rfl, ?_⟩
                have n0_ := Aside0.mk (Kd.R_below (by (with_reducible repeat (first | apply Kd.R_alloc | apply Kd.R_drewN | apply Kd.R_drew)); exact HO_5.out) hb)
                have n1_ := Aside0.mk (blk_below (g := gb258) (o := .cells #[.string a1_0, .int .u64 a1_1, .int .i64 a1_2, .string a1_3] 44 (0, 0)) (by (with_reducible repeat (first | refine blk_drewN ?_ _ | refine blk_drew ?_ | refine blk_alloc ?_ _)); exact BK258.out) hb)
                have n2_ := Aside0.mk (below_step (by repeat (first | (with_reducible first | exact HB.out | apply below_alloc | apply pw_below_drewN | apply below_drew1 | refine below_set ?_ GE258.out) | exact HB.out)) hb)
                clear HO_5
                clear BK258
                clear HB
                have HO_5 := n0_
                have BK258 := n1_
                have HB := n2_
                clear n0_ n1_ n2_
                (try clear hb)
                (try clear hb2)
                (try clear hk)
                (try clear hi)
                refine hK.out _ _ ⟨(blk_cell BK258.out 0).trans rfl, (blk_cell BK258.out 1).trans rfl, (blk_cell BK258.out 2).trans rfl, (blk_cell BK258.out 3).trans rfl, ((HB.out.cell (World.block_lt_of_cell? w _ hw263_0)).trans hw263_0), ((HB.out.cell (World.block_lt_of_cell? w _ hw263_1)).trans hw263_1), ((HB.out.cell (World.block_lt_of_cell? w _ hw263_2)).trans hw263_2), ((HB.out.cell (World.block_lt_of_cell? w _ hw263_3)).trans hw263_3)⟩ (fun hHeld => ?_)
                clear hK K
                refine norm_ (a' := ?_) ?_ ?_
                rotate_left
                · show Act.put _ (some 24) _ = _
                  simp only [Act.put, List.setIfInBounds_toArray, List.set_cons_zero, List.set_cons_succ, i64_w, i32_w]
                  rfl
                refine pure_ (i := 11) (N := some 25) (v := ?_) (a' := ?_) #[true, true, true, true, true, true, true, true, true, true, true, true, false] rfl rfl (any_of HT_.out (by kernel_rfl)) (fun _ _ _ h => h) (Or.inl ⟨by rfl, ?_⟩) ?_ ?_
                rotate_left
                · intro w'
                  go_simp
                  with_reducible rfl
                rotate_left
                · simp only [Act.put, List.setIfInBounds_toArray, List.set_cons_zero, List.set_cons_succ, i64_w, i32_w]
                  rfl
                refine pure_ (i := 12) (N := some 26) (v := ?_) (a' := ?_) #[true, true, true, true, true, true, true, true, true, true, true, true, true] rfl rfl (any_of HT_.out (by kernel_rfl)) (fun _ _ _ h => h) (Or.inl ⟨by rfl, ?_⟩) ?_ ?_
                rotate_left
                · intro w'
                  go_simp
                  with_reducible rfl
                rotate_left
                · simp only [Act.put, List.setIfInBounds_toArray, List.set_cons_zero, List.set_cons_succ, i64_w, i32_w]
                  rfl
                refine done_ (done_of HT_.out (by kernel_rfl)) ?_
                have p272 : 0 ≤ (x7_1 : Int) := of_decide_eq_true (by first | (with_reducible assumption) | assumption)
                have q272 : x7_1 < (l0.length : Int) := of_decide_eq_true (by first | (with_reducible assumption) | assumption)
                obtain ⟨ad272, e272, hx272_0, hx272_1, hx272_2, hx272_3⟩ := at_T44 HR0.out x7_1 p272 q272
                obtain rfl : ad263 = ad272 := (by injection e272)
                replace hx272_0 := (HB.out.cell (World.block_lt_of_cell? w _ hx272_0)).trans hx272_0
                replace hx272_1 := (HB.out.cell (World.block_lt_of_cell? w _ hx272_1)).trans hx272_1
                replace hx272_2 := (HB.out.cell (World.block_lt_of_cell? w _ hx272_2)).trans hx272_2
                replace hx272_3 := (HB.out.cell (World.block_lt_of_cell? w _ hx272_3)).trans hx272_3
                replace p272 := eq_true p272
                replace q272 := eq_true q272
                try go_wp2_with (first | ((with_reducible refine gate_builtin (b := .append) (xs := #[.tmp 31, .tmp 36]) rfl ?_); at_builtin; refine Kd.R_append k44 (w0 := w) w.heap.size rfl (.tmp 31) (.tmp 36) 22 44 (.agg #[(.string ⟨#[]⟩), (.int .u64 0), (.int .i64 0), (.string ⟨#[]⟩)]) 48 rfl Try.underlying22 info44 rfl (by decide) (by omega) u5 x5_1 (⟨(⟨(rd_T44 l0 x7_1).f0.f0, (rd_T44 l0 x7_1).f0.f1, (rd_T44 l0 x7_1).f0.f2⟩ : S42), (rd_T44 l0 x7_1).f1⟩ : S44) [.string ((rd_T44 l0 x7_1).f0.f0), .int .u64 ((rd_T44 l0 x7_1).f0.f1), .int .i64 ((rd_T44 l0 x7_1).f0.f2), .string ((rd_T44 l0 x7_1).f1)] (fun k_ => k_ ≠ gb258) (fun _ => False) rfl rfl ?aP (fun _ hk => hk.elim) ?aF ?aO ?aB ?aS ?aL ?_; (case aP => exact k44_mkM _ _ _ (⟨(⟨(rd_T44 l0 x7_1).f0.f0, (rd_T44 l0 x7_1).f0.f1, (rd_T44 l0 x7_1).f0.f2⟩ : S42), (rd_T44 l0 x7_1).f1⟩ : S44)); (case aB => exact (by repeat (first | (with_reducible first | exact HB.out | apply below_alloc | apply pw_below_drewN | apply below_drew1 | refine below_set ?_ GE258.out) | exact HB.out))); (case aF => exact (fun k_ hk => Kd.freshB (g := gb258) (o := .cells #[.string a1_0, .int .u64 a1_1, .int .i64 a1_2, .string a1_3] 44 (0, 0)) (by (with_reducible repeat (first | refine blk_drewN ?_ _ | refine blk_drew ?_ | refine blk_alloc ?_ _)); exact BK258.out) k_ hk)); (case aO => exact (by (with_reducible repeat (first | apply Kd.R_alloc | apply Kd.R_drewN | apply Kd.R_drew)); exact HO_5.out)); (case aS => exact (below_size (by repeat (first | (with_reducible first | exact HB.out | apply below_alloc | apply pw_below_drewN | apply below_drew1 | refine below_set ?_ GE258.out) | exact HB.out)))); (case aL => have := LMc20.out; omega); intro v274 w23 ho hb hg hat; rw [← Ny273.out] at ho; have n0_ := Aside0.mk (blk_grown (g := gb258) (o := .cells #[.string a1_0, .int .u64 a1_1, .int .i64 a1_2, .string a1_3] 44 (0, 0)) (by (with_reducible repeat (first | refine blk_drewN ?_ _ | refine blk_drew ?_ | refine blk_alloc ?_ _)); exact BK258.out) hg (Kd.R_away HO_5.out (fun _ hk => hk))); have n1_ := Aside0.mk (hb); have n2_ := Aside0.mk (ho); clear BK258; clear HB; clear HO_5; have BK258 := n0_; have HB := n1_; have HO275 := n2_; clear n0_ n1_ n2_; clear ho hb hg hat))
                go_roundg k1
                case measure => have := HK1.out; omega
                case rel => exact ⟨(y273), (false), (wrap64 (x7_1 + 1)), (by first | rfl | (simp; done) | (simp [*]; done)), (by first | rfl | (simp; done) | (simp [*]; done)), H', ⟨by have := HK1.out; omega⟩, ⟨by (with_reducible repeat (first | apply Kd.R_alloc | apply Kd.R_drewN | apply Kd.R_drew)); exact HO275.out⟩, ⟨by (with_reducible repeat (first | refine blk_drewN ?_ _ | refine blk_drew ?_ | refine blk_alloc ?_ _)); exact BK258.out⟩, ⟨by repeat (first | (with_reducible first | exact HB.out | apply below_alloc | apply pw_below_drewN | apply below_drew1 | refine below_set ?_ GE258.out) | exact HB.out)⟩⟩
              · rw [if_neg c20] at H
                exact absurd H (by simp)
          · rw [if_neg c10] at H
            exact absurd H (by simp)
      · rw [if_neg c4] at H
        have c4b0 : decide (x7_1 < (l0.length : Int)) = false := decide_eq_false c4
        clear c4
        by_cases c24 : x6_1 = true
        · subst c24
          have H1 : (some x5_1) = some r := by rw [if_pos rfl] at H; exact H
          clear H
          have H := H1
          clear H1
          obtain rfl := Option.some.inj H
          go_wp2
          go_ret
          exact ⟨_, by first | rfl | (simp [errW_none, errW_some] <;> rfl) | (simp [*, errW_none, errW_some] <;> rfl), by (with_reducible repeat (first | apply Kd.R_alloc | apply Kd.R_drewN | apply Kd.R_drew)); exact Kd.R_mono HO_5.out (fun _ hk => trivial), by repeat (first | (with_reducible first | exact HB.out | apply below_alloc | apply pw_below_drewN | apply below_drew1 | refine below_set ?_ GE258.out) | exact HB.out)⟩
        · replace c24 := Bool.eq_false_iff.mpr c24
          subst c24
          have H1 : (if x5_1.length < 2932031007402 then (some (x5_1 ++ [(⟨(⟨a1_0, a1_1, a1_2⟩ : S42), a1_3⟩ : S44)])) else (none)) = some r := by rw [if_neg (show ¬ (false = true) by decide)] at H; exact H
          clear H
          have H := H1
          clear H1
          by_cases c25 : x5_1.length < 2932031007402
          · rw [if_pos c25] at H
            have LMc25 := Aside0.mk c25
            clear c25
            obtain ⟨y276, hy276⟩ : ∃ y_ : List (S44), y_ = (x5_1 ++ [(⟨(⟨a1_0, a1_1, a1_2⟩ : S42), a1_3⟩ : S44)]) := ⟨_, rfl⟩
            replace H : (some y276) = some r := by first | (rw [hy276]; with_reducible exact H) | (have H2_ := (Option.bind_some _ _).symm.trans H; rw [hy276]; with_reducible exact H2_) | (have H2_ := (Option.bind_some _ _).symm.trans H; with_reducible exact H2_) | with_reducible exact H | (rw [hy276]; exact H) | exact H
            have Ny276 := Aside0.mk hy276
            clear hy276
            obtain rfl := Option.some.inj H
            have hcz26_0 : wr.cell? ⟨gb258, 0, none⟩ = some (.string a1_0) := (blk_cell BK258.out 0).trans rfl
            have hcz26_1 : wr.cell? ⟨gb258, 1, none⟩ = some (.int .u64 a1_1) := (blk_cell BK258.out 1).trans rfl
            have hcz26_2 : wr.cell? ⟨gb258, 2, none⟩ = some (.int .i64 a1_2) := (blk_cell BK258.out 2).trans rfl
            have hcz26_3 : wr.cell? ⟨gb258, 3, none⟩ = some (.string a1_3) := (blk_cell BK258.out 3).trans rfl
            have hfz26_0 := blk_frozen BK258.out 0
            have hfz26_1 := blk_frozen BK258.out 1
            have hfz26_2 := blk_frozen BK258.out 2
            have hfz26_3 := blk_frozen BK258.out 3
            go_wp2_with (first | ((with_reducible refine gate_builtin (b := .append) (xs := #[.tmp 40, .tmp 42]) rfl ?_); at_builtin; refine Kd.R_append k44 (w0 := w) w.heap.size rfl (.tmp 40) (.tmp 42) 22 44 (.agg #[(.string ⟨#[]⟩), (.int .u64 0), (.int .i64 0), (.string ⟨#[]⟩)]) 48 rfl Try.underlying22 info44 rfl (by decide) (by omega) u5 x5_1 (⟨(⟨a1_0, a1_1, a1_2⟩ : S42), a1_3⟩ : S44) [.string a1_0, .int .u64 a1_1, .int .i64 a1_2, .string a1_3] (fun k_ => k_ ≠ gb258) (fun _ => False) rfl rfl ?aP (fun _ hk => hk.elim) ?aF ?aO ?aB ?aS ?aL ?_; (case aP => exact k44_mkM _ _ _ (⟨(⟨a1_0, a1_1, a1_2⟩ : S42), a1_3⟩ : S44)); (case aB => exact (by repeat (first | (with_reducible first | exact HB.out | apply below_alloc | apply pw_below_drewN | apply below_drew1 | refine below_set ?_ GE258.out) | exact HB.out))); (case aF => exact (fun k_ hk => Kd.freshB (g := gb258) (o := .cells #[.string a1_0, .int .u64 a1_1, .int .i64 a1_2, .string a1_3] 44 (0, 0)) (by (with_reducible repeat (first | refine blk_drewN ?_ _ | refine blk_drew ?_ | refine blk_alloc ?_ _)); exact BK258.out) k_ hk)); (case aO => exact (by (with_reducible repeat (first | apply Kd.R_alloc | apply Kd.R_drewN | apply Kd.R_drew)); exact HO_5.out)); (case aS => exact (below_size (by repeat (first | (with_reducible first | exact HB.out | apply below_alloc | apply pw_below_drewN | apply below_drew1 | refine below_set ?_ GE258.out) | exact HB.out)))); (case aL => have := LMc25.out; omega); intro v277 w27 ho hb hg hat; rw [← Ny276.out] at ho; have n0_ := Aside0.mk (blk_grown (g := gb258) (o := .cells #[.string a1_0, .int .u64 a1_1, .int .i64 a1_2, .string a1_3] 44 (0, 0)) (by (with_reducible repeat (first | refine blk_drewN ?_ _ | refine blk_drew ?_ | refine blk_alloc ?_ _)); exact BK258.out) hg (Kd.R_away HO_5.out (fun _ hk => hk))); have n1_ := Aside0.mk (hb); have n2_ := Aside0.mk (ho); clear BK258; clear HB; clear HO_5; have BK258 := n0_; have HB := n1_; have HO278 := n2_; clear n0_ n1_ n2_; clear ho hb hg hat))
            go_ret
            exact ⟨_, by first | rfl | (simp [errW_none, errW_some] <;> rfl) | (simp [*, errW_none, errW_some] <;> rfl), by (with_reducible repeat (first | apply Kd.R_alloc | apply Kd.R_drewN | apply Kd.R_drew)); exact Kd.R_mono HO278.out (fun _ hk => trivial), by repeat (first | (with_reducible first | exact HB.out | apply below_alloc | apply pw_below_drewN | apply below_drew1 | refine below_set ?_ GE258.out) | exact HB.out)⟩
          · rw [if_neg c25] at H
            exact absurd H (by simp)

-- NOT PRINTED: function 51 (staddlelaw17_all)

-- NOT PRINTED: function 15 (staddlelaw17_ViewStays)

end Go.Proofs.Ytehoojmalhloeaa.PC
