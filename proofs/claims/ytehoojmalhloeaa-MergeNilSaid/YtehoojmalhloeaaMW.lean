/- MergeNames, MergeNil: the walks. No condition. -/
import Derived.Test.YtehoojmalhloeaaMV
namespace Go.Proofs.Ytehoojmalhloeaa.CM
open Go.RowKit Go.Proofs.YtehoojmalhloeaaW.PrintWords
set_option linter.unusedVariables false
set_option linter.unusedSimpArgs false
set_option maxRecDepth 100000

theorem mergeNames_w (w : World) : Calls Try.prog 9 #[] w fun e w' => e = .returned (.bool true) ∧ Below w.heap.size w w' := by
  go_enter Try.func9, Try.ntmps9
  go_wp2_with fail
  refine (awake16_w w).mono ?_
  rintro e w1 ⟨rfl, b⟩
  have HB := Lib.hid b
  clear b
  go_wp2_with fail
  go_ret
  exact ⟨rfl, HB.out⟩
theorem seek_nil (a : PC.S42) (w : World) : Calls Try.prog 47 #[.pointer none, .agg #[.string a.f0, .int .u64 a.f1, .int .i64 a.f2]] w (fun e w' => e = .returned (.tuple #[]) ∧ Below w.heap.size w w') := by
  have HS : ∀ v W, Calls Try.prog 71 #[.pointer none, v] W (fun e w' => e = .returned (.tuple #[]) ∧ w' = W) := fun v W => by
    go_enter Try.func71, Try.ntmps71
    go_wp2
    (try simp only [Exit.inBlock, Exit.then]); refine bodyPost_ret (results_none rfl _ _ _) rfl ?_
    exact ⟨rfl, rfl⟩
  go_enter Try.func47, Try.ntmps47
  go_wp2_with (first | (go_at_call 71; refine (HS _ _).mono ?_; rintro e w1 ⟨rfl, rfl⟩))
  go_end0
  exact ⟨rfl, (Below.refl _ _).alloc (Nat.le_refl _) _⟩
attribute [local go_sem high] PC.eqA44
set_option maxHeartbeats 8000000 in
theorem mergeNil_w (a : PC.S42) (w : World) : Calls Try.prog 14 #[.agg #[.string a.f0, .int .u64 a.f1, .int .i64 a.f2]] w fun e w' => e = .returned (.bool true) ∧ Below w.heap.size w w' := by
  obtain ⟨W1, hW1⟩ : ∃ W1, w.alloc (.cells #[.string a.f0, .int .u64 a.f1, .int .i64 a.f2] 42) = W1 := ⟨_, rfl⟩
  have B1 : Below w.heap.size w W1 := by rw [← hW1]; exact (Below.refl _ _).alloc (Nat.le_refl _) _
  have K1 : W1.heap[w.heap.size]? = some (.cells #[.string a.f0, .int .u64 a.f1, .int .i64 a.f2] 42) := by rw [← hW1]; exact World.alloc_heap_new w _
  have H1 := Lib.hid (And.intro B1 K1)
  clear B1 K1
  go_enter Try.func14, Try.ntmps14
  go_wp2_with (first | rw [hW1])
  refine (awake16_w W1).mono ?_
  rintro e w2 ⟨rfl, b⟩
  have k2 := blk_below H1.out.2 b
  have c0 : w2.cell? ⟨w.heap.size, 0, none⟩ = some (.string a.f0) := by simp [World.cell?, k2]
  have c1 : w2.cell? ⟨w.heap.size, 1, none⟩ = some (.int .u64 a.f1) := by simp [World.cell?, k2]
  have c2 : w2.cell? ⟨w.heap.size, 2, none⟩ = some (.int .i64 a.f2) := by simp [World.cell?, k2]
  have H2 := Lib.hid (H1.out.1.trans (b.mono H1.out.1.size))
  clear b k2
  go_wp2_with (first | (go_at_call 37; refine (first_nil _).mono ?_; rintro e w3 ⟨rfl, rfl⟩) | (go_at_call 42; refine (last_nil _).mono ?_; rintro e w3 ⟨rfl, rfl⟩))
  refine (seek_nil a _).mono ?_
  rintro e w4 ⟨rfl, b⟩
  have H4 := Lib.hid (H2.out.trans (b.mono H2.out.size))
  clear b c0 c1 c2
  go_wp2_with (first | (go_at_call 39; refine (next_nil _).mono ?_; rintro e w5 ⟨rfl, rfl⟩) | (go_at_call 40; refine (prev_nil _).mono ?_; rintro e w5 ⟨rfl, rfl⟩))
  refine (at_nil _).mono ?_
  rintro e w6 ⟨rfl, b⟩
  have H6 := Lib.hid (H4.out.trans (b.mono H4.out.size))
  clear b
  simp only [val44, PC.z44, PC.z42]
  go_wp2_with fail
  go_ret
  exact ⟨rfl, H6.out.trans (((Below.refl _ _).alloc (Nat.le_refl _) _).mono H6.out.size)⟩
theorem mergeNames_row (w : World) : Calls Try.prog 9 #[] w fun e w' => e = .returned (.bool true) ∧ Below w.heap.size w w' := mergeNames_w w
end Go.Proofs.Ytehoojmalhloeaa.CM
