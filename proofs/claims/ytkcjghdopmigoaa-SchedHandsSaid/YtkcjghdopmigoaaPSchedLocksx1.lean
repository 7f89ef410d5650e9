-- PRINTED BY print.sh 35421559b90ae4d0a3588c463048766b98c2df88dd9212a6774a882060cdf62d: not written by this session
import Derived.Test.YtkcjghdopmigoaaPSchedLocksx0
namespace Go.Proofs.Ytkcjghdopmigoaa.PSchedLocks
open Go.RowKit Go.Proofs.YtkcjghdopmigoaaW.PrintWords Go.Proofs.YtkcjghdopmigoaaW.PrintLast Go.Proofs.YtkcjghdopmigoaaW.PrintMore
attribute [local go_sem] max2_int min2_int max_two min_two max_three min_three max_four min_four   -- for this text's walks alone
set_option linter.unusedVariables false
set_option linter.unusedSimpArgs false

-- NOT PRINTED: function 19 (api_Inst_19)

-- NOT PRINTED: function 12 (api_Inst_12)

-- NOT PRINTED: function 15 (sched_task_ends)

-- NOT PRINTED: function 16 (sched_world_can)

-- NOT PRINTED: function 21 (sched_world_leave)

-- NOT PRINTED: function 17 (sched_world_step)

-- NOT PRINTED: function 18 (sched_world_state)

-- NOT PRINTED: function 10 (sched_Run)

/-! ### staddlelaw05_counts: function 11 -/
def staddlelaw05_counts.f  : Option ((List (S35))) := some (([(⟨1, 0, 0, 0⟩ : S35), (⟨5, 0, 1, 0⟩ : S35), (⟨2, 0, 0, 0⟩ : S35)] : List (S35)))
set_option maxHeartbeats 8000000 in
set_option maxRecDepth 100000 in
theorem staddlelaw05_counts.calls  (r : List (S35)) (w : World) (h : staddlelaw05_counts.f  = some r) :
    Calls Try.prog 11 #[] w fun e w' => ∃ v0_ : Value, e = .returned (v0_) ∧ Kd.R k35 35 w' w.heap.size (fun _ => True) v0_ r ∧ Below w.heap.size w w' := by
  have hu35 := Try.underlying35
  have HB := Aside0.mk (Below.refl w.heap.size w)
  have H : (some (([(⟨1, 0, 0, 0⟩ : S35), (⟨5, 0, 1, 0⟩ : S35), (⟨2, 0, 0, 0⟩ : S35)] : List (S35)))) = some r := h
  clear h
  obtain ⟨y102, hy102⟩ : ∃ y_ : List (S35), y_ = (([(⟨1, 0, 0, 0⟩ : S35), (⟨5, 0, 1, 0⟩ : S35), (⟨2, 0, 0, 0⟩ : S35)] : List (S35))) := ⟨_, rfl⟩
  replace H : (some y102) = some r := by first | (rw [hy102]; with_reducible exact H) | (have H2_ := (Option.bind_some _ _).symm.trans H; rw [hy102]; with_reducible exact H2_) | (have H2_ := (Option.bind_some _ _).symm.trans H; with_reducible exact H2_) | with_reducible exact H | (rw [hy102]; exact H) | exact H
  have Ny102 := Aside0.mk hy102
  clear hy102
  obtain rfl := Option.some.inj H
  go_enter Try.func11, Try.ntmps11
  go_wp2_with (first | ((with_reducible refine gate_dst (N := 4) rfl ?_); refine Kd.R_lit k35 _ 35 ?hg (N := 4) ?hd (xs := ([(⟨1, 0, 0, 0⟩ : S35), (⟨5, 0, 1, 0⟩ : S35), (⟨2, 0, 0, 0⟩ : S35)] : List (S35))) (inner := [.int .i64 1, .int .i64 0, .int .i64 0, .int .i64 0, .int .i64 5, .int .i64 0, .int .i64 1, .int .i64 0, .int .i64 2, .int .i64 0, .int .i64 0, .int .i64 0]) (ok := fun _ => True) (okp := fun _ => True) ?hr ?hp (fun _ hk => hk) trivial (Below.refl _ _) (Nat.le_refl _) (by simp) ?_; (case hd => rfl); (case hg => rfl); (case hr => first | (go_simp; done) | (go_simp; rfl)); (case hp => exact (Reps.c4 (show Kd.M k35 _ _ _ (⟨1, 0, 0, 0⟩ : S35) [.int .i64 1, .int .i64 0, .int .i64 0, .int .i64 0] from (k35_mkM _ _ _ (⟨1, 0, 0, 0⟩ : S35) )) (Reps.c4 (show Kd.M k35 _ _ _ (⟨5, 0, 1, 0⟩ : S35) [.int .i64 5, .int .i64 0, .int .i64 1, .int .i64 0] from (k35_mkM _ _ _ (⟨5, 0, 1, 0⟩ : S35) )) (Reps.c4 (show Kd.M k35 _ _ _ (⟨2, 0, 0, 0⟩ : S35) [.int .i64 2, .int .i64 0, .int .i64 0, .int .i64 0] from (k35_mkM _ _ _ (⟨2, 0, 0, 0⟩ : S35) )) (Reps.none _ _))))); intro v103 w1 ho2 hb hg_ hnew_; clear hg_ hnew_; (first | rw [← Ny102.out] at ho2 | (simp only [Int.reduceToNat] at ho2; rw [← Ny102.out] at ho2)); have n0_ := Aside0.mk (Kd.R_lower ho2 (below_size (by repeat (first | (with_reducible first | exact HB.out | apply below_alloc | apply pw_below_drewN | apply below_drew1) | exact HB.out)))); have n1_ := Aside0.mk (below_step (by repeat (first | (with_reducible first | exact HB.out | apply below_alloc | apply pw_below_drewN | apply below_drew1) | exact HB.out)) hb); clear HB; have HO104 := n0_; have HB := n1_; clear n0_ n1_; clear hb ho2))
  go_ret
  exact ⟨_, by first | rfl | (simp [errW_none, errW_some] <;> rfl) | (simp [*, errW_none, errW_some] <;> rfl), by (with_reducible repeat (first | apply Kd.R_alloc | apply Kd.R_drewN | apply Kd.R_drew)); exact HO104.out, by repeat (first | (with_reducible first | exact HB.out | apply below_alloc | apply pw_below_drewN | apply below_drew1) | exact HB.out)⟩

-- NOT PRINTED: function 9 (staddlelaw05_awake)

-- NOT PRINTED: function 5 (staddlelaw05_SchedLocks)

end Go.Proofs.Ytkcjghdopmigoaa.PSchedLocks
