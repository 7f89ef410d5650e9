/- sched: may an instruction be. -/
import Derived.Test.YtkcjghdopmigoaaSB
namespace Go.Proofs.Ytkcjghdopmigoaa.SC
open Go.RowKit Go.Proofs.YtkcjghdopmigoaaW.PrintWords
set_option linter.unusedVariables false
set_option linter.unusedSimpArgs false
set_option maxRecDepth 100000

theorem nums_get {l : List Int} {j : Nat} : (nums l)[j]? = (l[j]?).map (Value.int .i64) := by simp [nums]
theorem C_nums {W : World} {b t : Nat} {fr : Nat × Nat} {l : List Int} (h : W.heap[b]? = some (.cells (nums l).toArray t fr)) (hn : l.length ≤ 9223372036854775807) : Kd.C (Kd.int .i64) W (some ⟨b, 0, none⟩) l.length l := by
  refine ⟨rfl, hn, fun _ => ⟨_, rfl, fun j p hj => ⟨[.int .i64 p], rfl, rfl, fun i u hu => ?_⟩⟩⟩
  rcases i with _ | i
  · obtain rfl : Value.int .i64 p = u := by simpa using hu
    have h1 := World.news_of_block h (j * (Kd.int .i64).sz + 0) (.int .i64 p) (by
      show ((nums l).toArray).toList[j * 1 + 0]? = _
      simp [nums, hj])
    exact h1
  · simp at hu
theorem smL_one (lim n : Int) : smL lim [n] = smB lim n := by simp [smL]
theorem smL_two (lim n m : Int) : smL lim [n, m] = (smB lim n && smB lim m) := by simp [smL]
theorem small1 (lim a : Int) {W1 W2 : World} (h : W1.alloc (.cells #[.int .i64 a] 3) = W2) : Calls Try.prog 20 #[.int .i64 lim, .slice (some ⟨W1.heap.size, 0, none⟩) 1 1] W2 fun e w' => e = .returned (.bool (smB lim a)) ∧ W2 = w' := by
  subst h
  have := small_w lim (some ⟨W1.heap.size, 0, none⟩) 1 [a] (W1.alloc (.cells #[.int .i64 a] 3)) (C_nums (l := [a]) (heap_alloc_new W1 _) (by simp)) (by simp)
  rw [smL_one] at this
  exact this
theorem small2 (lim a b : Int) {W1 W2 : World} (h : W1.alloc (.cells #[.int .i64 a, .int .i64 b] 3) = W2) : Calls Try.prog 20 #[.int .i64 lim, .slice (some ⟨W1.heap.size, 0, none⟩) 2 2] W2 fun e w' => e = .returned (.bool (smB lim a && smB lim b)) ∧ W2 = w' := by
  subst h
  have := small_w lim (some ⟨W1.heap.size, 0, none⟩) 2 [a, b] (W1.alloc (.cells #[.int .i64 a, .int .i64 b] 3)) (C_nums (l := [a, b]) (heap_alloc_new W1 _) (by simp)) (by simp)
  rw [smL_two] at this
  exact this
def obj35 (x : I) : Obj := .cells #[.int .i64 x.f0, .int .i64 x.f1, .int .i64 x.f2, .int .i64 x.f3] 35
theorem obj35_cells {w : World} {b : Nat} {x : I} (h : w.heap[b]? = some (obj35 x)) : w.cell? ⟨b, 0, none⟩ = some (.int .i64 x.f0) ∧ w.cell? ⟨b, 1, none⟩ = some (.int .i64 x.f1) ∧ w.cell? ⟨b, 2, none⟩ = some (.int .i64 x.f2) ∧ w.cell? ⟨b, 3, none⟩ = some (.int .i64 x.f3) := by
  unfold obj35 at h
  refine ⟨?_, ?_, ?_, ?_⟩ <;> simp [World.cell?, h]
theorem blk_al {w : World} {b : Nat} {o : Obj} (h : w.heap[b]? = some o) (o' : Obj) : (w.alloc o').heap[b]? = some o := blk_below h ((Below.refl _ w).alloc (Nat.le_refl _) _)
theorem goodB_else {x : I} {len : Nat} (h : ∀ k : Int, k = 1 ∨ k = 2 ∨ k = 3 ∨ k = 10 ∨ k = 8 ∨ k = 9 ∨ k = 11 ∨ k = 12 ∨ k = 6 ∨ k = 7 ∨ k = 4 ∨ k = 5 ∨ k = 13 → x.f0 ≠ k) : goodB x len = (x.f0 == 14) := by
  unfold goodB
  rw [if_neg (h 1 (by simp)), if_neg (h 2 (by simp)), if_neg (h 3 (by simp)), if_neg (h 10 (by simp)), if_neg (by rintro (e | e | e | e); exact h 8 (by simp) e; exact h 9 (by simp) e; exact h 11 (by simp) e; exact h 12 (by simp) e), if_neg (h 6 (by simp)), if_neg (h 7 (by simp)), if_neg (by rintro (e | e | e); exact h 4 (by simp) e; exact h 5 (by simp) e; exact h 13 (by simp) e)]
set_option maxHeartbeats 4000000 in
theorem good1_w (x : I) (len : Nat) (w : World) (hop : x.f0 = 1) (hlen : len ≤ 1000) :
    Calls Try.prog 14 #[.agg #[.int .i64 x.f0, .int .i64 x.f1, .int .i64 x.f2, .int .i64 x.f3], .int .i64 (len : Int)] w fun e w' => e = .returned (.bool (goodB x len)) ∧ Below w.heap.size w w' := by
  have hg : goodB x len = (smB 4 x.f1 && smB 16 x.f2) := by
    unfold goodB
    rw [hop]
    rfl
  rw [hg]
  obtain ⟨W1, hW1⟩ : ∃ W1, w.alloc (.cells #[.int .i64 x.f0, .int .i64 x.f1, .int .i64 x.f2, .int .i64 x.f3] 35) = W1 := ⟨_, rfl⟩
  have b1 : Below w.heap.size w W1 := by rw [← hW1]; exact (Below.refl _ _).alloc (Nat.le_refl _) _
  have k1 : W1.heap[w.heap.size]? = some (obj35 x) := by rw [← hW1]; exact heap_alloc_new w _
  have K1 := Lib.hid (And.intro b1 k1)
  obtain ⟨e0, e1, e2, e3⟩ := obj35_cells k1
  rw [hop] at hW1 e0
  rw [hop]
  have m1 : IntKind.i64.wrap ((len : Int) + 1) = (len : Int) + 1 := by rw [IntWalk.i64_in _ (by omega)]
  clear b1 k1 hg
  go_enter Try.func14, Try.ntmps14
  obtain ⟨W2, hW2⟩ : ∃ W2, W1.alloc (.cells #[.int .i64 x.f1] 3) = W2 := ⟨_, rfl⟩
  have S1 := Lib.hid (small1 4 x.f1 hW2)
  have K2 := Lib.hid (show Below w.heap.size w W2 ∧ W2.heap[w.heap.size]? = some (obj35 x) from by rw [← hW2]; exact ⟨K1.out.1.alloc K1.out.1.size _, blk_al K1.out.2 _⟩)
  go_wp2_with (first | rw [hW1] | rw [hW2])
  refine S1.out.mono ?_
  rintro e w' ⟨rfl, rfl⟩
  cases hb : (smB 4 x.f1)
  · go_wp2_with fail
    go_ret
    exact ⟨by rw [hb]; rfl, K2.out.1⟩
  · obtain ⟨f0, f1, f2, f3⟩ := obj35_cells K2.out.2
    obtain ⟨W3, hW3⟩ : ∃ W3, W2.alloc (.cells #[.int .i64 x.f2] 3) = W3 := ⟨_, rfl⟩
    have S2 := Lib.hid (small1 16 x.f2 hW3)
    have K3 := Lib.hid (show Below w.heap.size w W3 ∧ W3.heap[w.heap.size]? = some (obj35 x) from by rw [← hW3]; exact ⟨K2.out.1.alloc K2.out.1.size _, blk_al K2.out.2 _⟩)
    go_wp2_with (first | rw [hW1] | rw [hW3])
    refine S2.out.mono ?_
    rintro e w' ⟨rfl, rfl⟩
    go_wp2_with fail
    go_ret
    exact ⟨by rw [hb]; rfl, K3.out.1⟩
set_option maxHeartbeats 4000000 in
theorem good2_w (x : I) (len : Nat) (w : World) (hop : x.f0 = 2) (hlen : len ≤ 1000) :
    Calls Try.prog 14 #[.agg #[.int .i64 x.f0, .int .i64 x.f1, .int .i64 x.f2, .int .i64 x.f3], .int .i64 (len : Int)] w fun e w' => e = .returned (.bool (goodB x len)) ∧ Below w.heap.size w w' := by
  have hg : goodB x len = (smB 16 x.f1 && smB 4 x.f2) := by
    unfold goodB
    rw [hop]
    rfl
  rw [hg]
  obtain ⟨W1, hW1⟩ : ∃ W1, w.alloc (.cells #[.int .i64 x.f0, .int .i64 x.f1, .int .i64 x.f2, .int .i64 x.f3] 35) = W1 := ⟨_, rfl⟩
  have b1 : Below w.heap.size w W1 := by rw [← hW1]; exact (Below.refl _ _).alloc (Nat.le_refl _) _
  have k1 : W1.heap[w.heap.size]? = some (obj35 x) := by rw [← hW1]; exact heap_alloc_new w _
  have K1 := Lib.hid (And.intro b1 k1)
  obtain ⟨e0, e1, e2, e3⟩ := obj35_cells k1
  rw [hop] at hW1 e0
  rw [hop]
  have m1 : IntKind.i64.wrap ((len : Int) + 1) = (len : Int) + 1 := by rw [IntWalk.i64_in _ (by omega)]
  clear b1 k1 hg
  go_enter Try.func14, Try.ntmps14
  obtain ⟨W2, hW2⟩ : ∃ W2, W1.alloc (.cells #[.int .i64 x.f1] 3) = W2 := ⟨_, rfl⟩
  have S1 := Lib.hid (small1 16 x.f1 hW2)
  have K2 := Lib.hid (show Below w.heap.size w W2 ∧ W2.heap[w.heap.size]? = some (obj35 x) from by rw [← hW2]; exact ⟨K1.out.1.alloc K1.out.1.size _, blk_al K1.out.2 _⟩)
  go_wp2_with (first | rw [hW1] | rw [hW2])
  refine S1.out.mono ?_
  rintro e w' ⟨rfl, rfl⟩
  cases hb : (smB 16 x.f1)
  · go_wp2_with fail
    go_ret
    exact ⟨by rw [hb]; rfl, K2.out.1⟩
  · obtain ⟨f0, f1, f2, f3⟩ := obj35_cells K2.out.2
    obtain ⟨W3, hW3⟩ : ∃ W3, W2.alloc (.cells #[.int .i64 x.f2] 3) = W3 := ⟨_, rfl⟩
    have S2 := Lib.hid (small1 4 x.f2 hW3)
    have K3 := Lib.hid (show Below w.heap.size w W3 ∧ W3.heap[w.heap.size]? = some (obj35 x) from by rw [← hW3]; exact ⟨K2.out.1.alloc K2.out.1.size _, blk_al K2.out.2 _⟩)
    go_wp2_with (first | rw [hW1] | rw [hW3])
    refine S2.out.mono ?_
    rintro e w' ⟨rfl, rfl⟩
    go_wp2_with fail
    go_ret
    exact ⟨by rw [hb]; rfl, K3.out.1⟩
set_option maxHeartbeats 4000000 in
theorem good3_w (x : I) (len : Nat) (w : World) (hop : x.f0 = 3) (hlen : len ≤ 1000) :
    Calls Try.prog 14 #[.agg #[.int .i64 x.f0, .int .i64 x.f1, .int .i64 x.f2, .int .i64 x.f3], .int .i64 (len : Int)] w fun e w' => e = .returned (.bool (goodB x len)) ∧ Below w.heap.size w w' := by
  have hg : goodB x len = (smB 16 x.f1 && (smB 4 x.f2 && smB 4 x.f3)) := by
    unfold goodB
    rw [hop]
    rfl
  rw [hg]
  obtain ⟨W1, hW1⟩ : ∃ W1, w.alloc (.cells #[.int .i64 x.f0, .int .i64 x.f1, .int .i64 x.f2, .int .i64 x.f3] 35) = W1 := ⟨_, rfl⟩
  have b1 : Below w.heap.size w W1 := by rw [← hW1]; exact (Below.refl _ _).alloc (Nat.le_refl _) _
  have k1 : W1.heap[w.heap.size]? = some (obj35 x) := by rw [← hW1]; exact heap_alloc_new w _
  have K1 := Lib.hid (And.intro b1 k1)
  obtain ⟨e0, e1, e2, e3⟩ := obj35_cells k1
  rw [hop] at hW1 e0
  rw [hop]
  have m1 : IntKind.i64.wrap ((len : Int) + 1) = (len : Int) + 1 := by rw [IntWalk.i64_in _ (by omega)]
  clear b1 k1 hg
  go_enter Try.func14, Try.ntmps14
  obtain ⟨W2, hW2⟩ : ∃ W2, W1.alloc (.cells #[.int .i64 x.f1] 3) = W2 := ⟨_, rfl⟩
  have S1 := Lib.hid (small1 16 x.f1 hW2)
  have K2 := Lib.hid (show Below w.heap.size w W2 ∧ W2.heap[w.heap.size]? = some (obj35 x) from by rw [← hW2]; exact ⟨K1.out.1.alloc K1.out.1.size _, blk_al K1.out.2 _⟩)
  go_wp2_with (first | rw [hW1] | rw [hW2])
  refine S1.out.mono ?_
  rintro e w' ⟨rfl, rfl⟩
  cases hb : (smB 16 x.f1)
  · go_wp2_with fail
    go_ret
    exact ⟨by rw [hb]; rfl, K2.out.1⟩
  · obtain ⟨f0, f1, f2, f3⟩ := obj35_cells K2.out.2
    obtain ⟨W3, hW3⟩ : ∃ W3, W2.alloc (.cells #[.int .i64 x.f2, .int .i64 x.f3] 3) = W3 := ⟨_, rfl⟩
    have S2 := Lib.hid (small2 4 x.f2 x.f3 hW3)
    have K3 := Lib.hid (show Below w.heap.size w W3 ∧ W3.heap[w.heap.size]? = some (obj35 x) from by rw [← hW3]; exact ⟨K2.out.1.alloc K2.out.1.size _, blk_al K2.out.2 _⟩)
    go_wp2_with (first | rw [hW1] | rw [hW3])
    refine S2.out.mono ?_
    rintro e w' ⟨rfl, rfl⟩
    go_wp2_with fail
    go_ret
    exact ⟨by rw [hb]; rfl, K3.out.1⟩
set_option maxHeartbeats 4000000 in
theorem good10_w (x : I) (len : Nat) (w : World) (hop : x.f0 = 10) (hlen : len ≤ 1000) :
    Calls Try.prog 14 #[.agg #[.int .i64 x.f0, .int .i64 x.f1, .int .i64 x.f2, .int .i64 x.f3], .int .i64 (len : Int)] w fun e w' => e = .returned (.bool (goodB x len)) ∧ Below w.heap.size w w' := by
  have hg : goodB x len = (smB 16 x.f1 && smB 16 x.f2) := by
    unfold goodB
    rw [hop]
    rfl
  rw [hg]
  obtain ⟨W1, hW1⟩ : ∃ W1, w.alloc (.cells #[.int .i64 x.f0, .int .i64 x.f1, .int .i64 x.f2, .int .i64 x.f3] 35) = W1 := ⟨_, rfl⟩
  have b1 : Below w.heap.size w W1 := by rw [← hW1]; exact (Below.refl _ _).alloc (Nat.le_refl _) _
  have k1 : W1.heap[w.heap.size]? = some (obj35 x) := by rw [← hW1]; exact heap_alloc_new w _
  have K1 := Lib.hid (And.intro b1 k1)
  obtain ⟨e0, e1, e2, e3⟩ := obj35_cells k1
  rw [hop] at hW1 e0
  rw [hop]
  have m1 : IntKind.i64.wrap ((len : Int) + 1) = (len : Int) + 1 := by rw [IntWalk.i64_in _ (by omega)]
  clear b1 k1 hg
  go_enter Try.func14, Try.ntmps14
  obtain ⟨W2, hW2⟩ : ∃ W2, W1.alloc (.cells #[.int .i64 x.f1, .int .i64 x.f2] 3) = W2 := ⟨_, rfl⟩
  have S1 := Lib.hid (small2 16 x.f1 x.f2 hW2)
  have K2 := Lib.hid (show Below w.heap.size w W2 ∧ W2.heap[w.heap.size]? = some (obj35 x) from by rw [← hW2]; exact ⟨K1.out.1.alloc K1.out.1.size _, blk_al K1.out.2 _⟩)
  go_wp2_with (first | rw [hW1] | rw [hW2])
  refine S1.out.mono ?_
  rintro e w' ⟨rfl, rfl⟩
  go_wp2_with fail
  go_ret
  exact ⟨rfl, K2.out.1⟩
set_option maxHeartbeats 4000000 in
theorem good8_w (x : I) (len : Nat) (w : World) (hop : x.f0 = 8) (hlen : len ≤ 1000) :
    Calls Try.prog 14 #[.agg #[.int .i64 x.f0, .int .i64 x.f1, .int .i64 x.f2, .int .i64 x.f3], .int .i64 (len : Int)] w fun e w' => e = .returned (.bool (goodB x len)) ∧ Below w.heap.size w w' := by
  have hg : goodB x len = (smB 16 x.f1) := by
    unfold goodB
    rw [hop]
    rfl
  rw [hg]
  obtain ⟨W1, hW1⟩ : ∃ W1, w.alloc (.cells #[.int .i64 x.f0, .int .i64 x.f1, .int .i64 x.f2, .int .i64 x.f3] 35) = W1 := ⟨_, rfl⟩
  have b1 : Below w.heap.size w W1 := by rw [← hW1]; exact (Below.refl _ _).alloc (Nat.le_refl _) _
  have k1 : W1.heap[w.heap.size]? = some (obj35 x) := by rw [← hW1]; exact heap_alloc_new w _
  have K1 := Lib.hid (And.intro b1 k1)
  obtain ⟨e0, e1, e2, e3⟩ := obj35_cells k1
  rw [hop] at hW1 e0
  rw [hop]
  have m1 : IntKind.i64.wrap ((len : Int) + 1) = (len : Int) + 1 := by rw [IntWalk.i64_in _ (by omega)]
  clear b1 k1 hg
  go_enter Try.func14, Try.ntmps14
  obtain ⟨W2, hW2⟩ : ∃ W2, W1.alloc (.cells #[.int .i64 x.f1] 3) = W2 := ⟨_, rfl⟩
  have S1 := Lib.hid (small1 16 x.f1 hW2)
  have K2 := Lib.hid (show Below w.heap.size w W2 ∧ W2.heap[w.heap.size]? = some (obj35 x) from by rw [← hW2]; exact ⟨K1.out.1.alloc K1.out.1.size _, blk_al K1.out.2 _⟩)
  go_wp2_with (first | rw [hW1] | rw [hW2])
  refine S1.out.mono ?_
  rintro e w' ⟨rfl, rfl⟩
  go_wp2_with fail
  go_ret
  exact ⟨rfl, K2.out.1⟩
set_option maxHeartbeats 4000000 in
theorem good9_w (x : I) (len : Nat) (w : World) (hop : x.f0 = 9) (hlen : len ≤ 1000) :
    Calls Try.prog 14 #[.agg #[.int .i64 x.f0, .int .i64 x.f1, .int .i64 x.f2, .int .i64 x.f3], .int .i64 (len : Int)] w fun e w' => e = .returned (.bool (goodB x len)) ∧ Below w.heap.size w w' := by
  have hg : goodB x len = (smB 16 x.f1) := by
    unfold goodB
    rw [hop]
    rfl
  rw [hg]
  obtain ⟨W1, hW1⟩ : ∃ W1, w.alloc (.cells #[.int .i64 x.f0, .int .i64 x.f1, .int .i64 x.f2, .int .i64 x.f3] 35) = W1 := ⟨_, rfl⟩
  have b1 : Below w.heap.size w W1 := by rw [← hW1]; exact (Below.refl _ _).alloc (Nat.le_refl _) _
  have k1 : W1.heap[w.heap.size]? = some (obj35 x) := by rw [← hW1]; exact heap_alloc_new w _
  have K1 := Lib.hid (And.intro b1 k1)
  obtain ⟨e0, e1, e2, e3⟩ := obj35_cells k1
  rw [hop] at hW1 e0
  rw [hop]
  have m1 : IntKind.i64.wrap ((len : Int) + 1) = (len : Int) + 1 := by rw [IntWalk.i64_in _ (by omega)]
  clear b1 k1 hg
  go_enter Try.func14, Try.ntmps14
  obtain ⟨W2, hW2⟩ : ∃ W2, W1.alloc (.cells #[.int .i64 x.f1] 3) = W2 := ⟨_, rfl⟩
  have S1 := Lib.hid (small1 16 x.f1 hW2)
  have K2 := Lib.hid (show Below w.heap.size w W2 ∧ W2.heap[w.heap.size]? = some (obj35 x) from by rw [← hW2]; exact ⟨K1.out.1.alloc K1.out.1.size _, blk_al K1.out.2 _⟩)
  go_wp2_with (first | rw [hW1] | rw [hW2])
  refine S1.out.mono ?_
  rintro e w' ⟨rfl, rfl⟩
  go_wp2_with fail
  go_ret
  exact ⟨rfl, K2.out.1⟩
set_option maxHeartbeats 4000000 in
theorem good11_w (x : I) (len : Nat) (w : World) (hop : x.f0 = 11) (hlen : len ≤ 1000) :
    Calls Try.prog 14 #[.agg #[.int .i64 x.f0, .int .i64 x.f1, .int .i64 x.f2, .int .i64 x.f3], .int .i64 (len : Int)] w fun e w' => e = .returned (.bool (goodB x len)) ∧ Below w.heap.size w w' := by
  have hg : goodB x len = (smB 16 x.f1) := by
    unfold goodB
    rw [hop]
    rfl
  rw [hg]
  obtain ⟨W1, hW1⟩ : ∃ W1, w.alloc (.cells #[.int .i64 x.f0, .int .i64 x.f1, .int .i64 x.f2, .int .i64 x.f3] 35) = W1 := ⟨_, rfl⟩
  have b1 : Below w.heap.size w W1 := by rw [← hW1]; exact (Below.refl _ _).alloc (Nat.le_refl _) _
  have k1 : W1.heap[w.heap.size]? = some (obj35 x) := by rw [← hW1]; exact heap_alloc_new w _
  have K1 := Lib.hid (And.intro b1 k1)
  obtain ⟨e0, e1, e2, e3⟩ := obj35_cells k1
  rw [hop] at hW1 e0
  rw [hop]
  have m1 : IntKind.i64.wrap ((len : Int) + 1) = (len : Int) + 1 := by rw [IntWalk.i64_in _ (by omega)]
  clear b1 k1 hg
  go_enter Try.func14, Try.ntmps14
  obtain ⟨W2, hW2⟩ : ∃ W2, W1.alloc (.cells #[.int .i64 x.f1] 3) = W2 := ⟨_, rfl⟩
  have S1 := Lib.hid (small1 16 x.f1 hW2)
  have K2 := Lib.hid (show Below w.heap.size w W2 ∧ W2.heap[w.heap.size]? = some (obj35 x) from by rw [← hW2]; exact ⟨K1.out.1.alloc K1.out.1.size _, blk_al K1.out.2 _⟩)
  go_wp2_with (first | rw [hW1] | rw [hW2])
  refine S1.out.mono ?_
  rintro e w' ⟨rfl, rfl⟩
  go_wp2_with fail
  go_ret
  exact ⟨rfl, K2.out.1⟩
set_option maxHeartbeats 4000000 in
theorem good12_w (x : I) (len : Nat) (w : World) (hop : x.f0 = 12) (hlen : len ≤ 1000) :
    Calls Try.prog 14 #[.agg #[.int .i64 x.f0, .int .i64 x.f1, .int .i64 x.f2, .int .i64 x.f3], .int .i64 (len : Int)] w fun e w' => e = .returned (.bool (goodB x len)) ∧ Below w.heap.size w w' := by
  have hg : goodB x len = (smB 16 x.f1) := by
    unfold goodB
    rw [hop]
    rfl
  rw [hg]
  obtain ⟨W1, hW1⟩ : ∃ W1, w.alloc (.cells #[.int .i64 x.f0, .int .i64 x.f1, .int .i64 x.f2, .int .i64 x.f3] 35) = W1 := ⟨_, rfl⟩
  have b1 : Below w.heap.size w W1 := by rw [← hW1]; exact (Below.refl _ _).alloc (Nat.le_refl _) _
  have k1 : W1.heap[w.heap.size]? = some (obj35 x) := by rw [← hW1]; exact heap_alloc_new w _
  have K1 := Lib.hid (And.intro b1 k1)
  obtain ⟨e0, e1, e2, e3⟩ := obj35_cells k1
  rw [hop] at hW1 e0
  rw [hop]
  have m1 : IntKind.i64.wrap ((len : Int) + 1) = (len : Int) + 1 := by rw [IntWalk.i64_in _ (by omega)]
  clear b1 k1 hg
  go_enter Try.func14, Try.ntmps14
  obtain ⟨W2, hW2⟩ : ∃ W2, W1.alloc (.cells #[.int .i64 x.f1] 3) = W2 := ⟨_, rfl⟩
  have S1 := Lib.hid (small1 16 x.f1 hW2)
  have K2 := Lib.hid (show Below w.heap.size w W2 ∧ W2.heap[w.heap.size]? = some (obj35 x) from by rw [← hW2]; exact ⟨K1.out.1.alloc K1.out.1.size _, blk_al K1.out.2 _⟩)
  go_wp2_with (first | rw [hW1] | rw [hW2])
  refine S1.out.mono ?_
  rintro e w' ⟨rfl, rfl⟩
  go_wp2_with fail
  go_ret
  exact ⟨rfl, K2.out.1⟩
set_option maxHeartbeats 4000000 in
theorem good6_w (x : I) (len : Nat) (w : World) (hop : x.f0 = 6) (hlen : len ≤ 1000) :
    Calls Try.prog 14 #[.agg #[.int .i64 x.f0, .int .i64 x.f1, .int .i64 x.f2, .int .i64 x.f3], .int .i64 (len : Int)] w fun e w' => e = .returned (.bool (goodB x len)) ∧ Below w.heap.size w w' := by
  have hg : goodB x len = (smB 4 x.f1 && smB ((len : Int) + 1) x.f2) := by
    unfold goodB
    rw [hop]
    rfl
  rw [hg]
  obtain ⟨W1, hW1⟩ : ∃ W1, w.alloc (.cells #[.int .i64 x.f0, .int .i64 x.f1, .int .i64 x.f2, .int .i64 x.f3] 35) = W1 := ⟨_, rfl⟩
  have b1 : Below w.heap.size w W1 := by rw [← hW1]; exact (Below.refl _ _).alloc (Nat.le_refl _) _
  have k1 : W1.heap[w.heap.size]? = some (obj35 x) := by rw [← hW1]; exact heap_alloc_new w _
  have K1 := Lib.hid (And.intro b1 k1)
  obtain ⟨e0, e1, e2, e3⟩ := obj35_cells k1
  rw [hop] at hW1 e0
  rw [hop]
  have m1 : IntKind.i64.wrap ((len : Int) + 1) = (len : Int) + 1 := by rw [IntWalk.i64_in _ (by omega)]
  clear b1 k1 hg
  go_enter Try.func14, Try.ntmps14
  obtain ⟨W2, hW2⟩ : ∃ W2, W1.alloc (.cells #[.int .i64 x.f1] 3) = W2 := ⟨_, rfl⟩
  have S1 := Lib.hid (small1 4 x.f1 hW2)
  have K2 := Lib.hid (show Below w.heap.size w W2 ∧ W2.heap[w.heap.size]? = some (obj35 x) from by rw [← hW2]; exact ⟨K1.out.1.alloc K1.out.1.size _, blk_al K1.out.2 _⟩)
  go_wp2_with (first | rw [hW1] | rw [hW2])
  refine S1.out.mono ?_
  rintro e w' ⟨rfl, rfl⟩
  cases hb : (smB 4 x.f1)
  · go_wp2_with fail
    go_ret
    exact ⟨by rw [hb]; rfl, K2.out.1⟩
  · obtain ⟨f0, f1, f2, f3⟩ := obj35_cells K2.out.2
    obtain ⟨W3, hW3⟩ : ∃ W3, W2.alloc (.cells #[.int .i64 x.f2] 3) = W3 := ⟨_, rfl⟩
    have S2 := Lib.hid (small1 ((len : Int) + 1) x.f2 hW3)
    have K3 := Lib.hid (show Below w.heap.size w W3 ∧ W3.heap[w.heap.size]? = some (obj35 x) from by rw [← hW3]; exact ⟨K2.out.1.alloc K2.out.1.size _, blk_al K2.out.2 _⟩)
    go_wp2_with (first | rw [hW1] | rw [hW3])
    refine S2.out.mono ?_
    rintro e w' ⟨rfl, rfl⟩
    go_wp2_with fail
    go_ret
    exact ⟨by rw [hb]; rfl, K3.out.1⟩
set_option maxHeartbeats 4000000 in
theorem good7_w (x : I) (len : Nat) (w : World) (hop : x.f0 = 7) (hlen : len ≤ 1000) :
    Calls Try.prog 14 #[.agg #[.int .i64 x.f0, .int .i64 x.f1, .int .i64 x.f2, .int .i64 x.f3], .int .i64 (len : Int)] w fun e w' => e = .returned (.bool (goodB x len)) ∧ Below w.heap.size w w' := by
  have hg : goodB x len = (smB ((len : Int) + 1) x.f2) := by
    unfold goodB
    rw [hop]
    rfl
  rw [hg]
  obtain ⟨W1, hW1⟩ : ∃ W1, w.alloc (.cells #[.int .i64 x.f0, .int .i64 x.f1, .int .i64 x.f2, .int .i64 x.f3] 35) = W1 := ⟨_, rfl⟩
  have b1 : Below w.heap.size w W1 := by rw [← hW1]; exact (Below.refl _ _).alloc (Nat.le_refl _) _
  have k1 : W1.heap[w.heap.size]? = some (obj35 x) := by rw [← hW1]; exact heap_alloc_new w _
  have K1 := Lib.hid (And.intro b1 k1)
  obtain ⟨e0, e1, e2, e3⟩ := obj35_cells k1
  rw [hop] at hW1 e0
  rw [hop]
  have m1 : IntKind.i64.wrap ((len : Int) + 1) = (len : Int) + 1 := by rw [IntWalk.i64_in _ (by omega)]
  clear b1 k1 hg
  go_enter Try.func14, Try.ntmps14
  obtain ⟨W2, hW2⟩ : ∃ W2, W1.alloc (.cells #[.int .i64 x.f2] 3) = W2 := ⟨_, rfl⟩
  have S1 := Lib.hid (small1 ((len : Int) + 1) x.f2 hW2)
  have K2 := Lib.hid (show Below w.heap.size w W2 ∧ W2.heap[w.heap.size]? = some (obj35 x) from by rw [← hW2]; exact ⟨K1.out.1.alloc K1.out.1.size _, blk_al K1.out.2 _⟩)
  go_wp2_with (first | rw [hW1] | rw [hW2])
  refine S1.out.mono ?_
  rintro e w' ⟨rfl, rfl⟩
  go_wp2_with fail
  go_ret
  exact ⟨rfl, K2.out.1⟩
set_option maxHeartbeats 4000000 in
theorem good4_w (x : I) (len : Nat) (w : World) (hop : x.f0 = 4) (hlen : len ≤ 1000) :
    Calls Try.prog 14 #[.agg #[.int .i64 x.f0, .int .i64 x.f1, .int .i64 x.f2, .int .i64 x.f3], .int .i64 (len : Int)] w fun e w' => e = .returned (.bool (goodB x len)) ∧ Below w.heap.size w w' := by
  have hg : goodB x len = (smB 4 x.f1) := by
    unfold goodB
    rw [hop]
    rfl
  rw [hg]
  obtain ⟨W1, hW1⟩ : ∃ W1, w.alloc (.cells #[.int .i64 x.f0, .int .i64 x.f1, .int .i64 x.f2, .int .i64 x.f3] 35) = W1 := ⟨_, rfl⟩
  have b1 : Below w.heap.size w W1 := by rw [← hW1]; exact (Below.refl _ _).alloc (Nat.le_refl _) _
  have k1 : W1.heap[w.heap.size]? = some (obj35 x) := by rw [← hW1]; exact heap_alloc_new w _
  have K1 := Lib.hid (And.intro b1 k1)
  obtain ⟨e0, e1, e2, e3⟩ := obj35_cells k1
  rw [hop] at hW1 e0
  rw [hop]
  have m1 : IntKind.i64.wrap ((len : Int) + 1) = (len : Int) + 1 := by rw [IntWalk.i64_in _ (by omega)]
  clear b1 k1 hg
  go_enter Try.func14, Try.ntmps14
  obtain ⟨W2, hW2⟩ : ∃ W2, W1.alloc (.cells #[.int .i64 x.f1] 3) = W2 := ⟨_, rfl⟩
  have S1 := Lib.hid (small1 4 x.f1 hW2)
  have K2 := Lib.hid (show Below w.heap.size w W2 ∧ W2.heap[w.heap.size]? = some (obj35 x) from by rw [← hW2]; exact ⟨K1.out.1.alloc K1.out.1.size _, blk_al K1.out.2 _⟩)
  go_wp2_with (first | rw [hW1] | rw [hW2])
  refine S1.out.mono ?_
  rintro e w' ⟨rfl, rfl⟩
  go_wp2_with fail
  go_ret
  exact ⟨rfl, K2.out.1⟩
set_option maxHeartbeats 4000000 in
theorem good5_w (x : I) (len : Nat) (w : World) (hop : x.f0 = 5) (hlen : len ≤ 1000) :
    Calls Try.prog 14 #[.agg #[.int .i64 x.f0, .int .i64 x.f1, .int .i64 x.f2, .int .i64 x.f3], .int .i64 (len : Int)] w fun e w' => e = .returned (.bool (goodB x len)) ∧ Below w.heap.size w w' := by
  have hg : goodB x len = (smB 4 x.f1) := by
    unfold goodB
    rw [hop]
    rfl
  rw [hg]
  obtain ⟨W1, hW1⟩ : ∃ W1, w.alloc (.cells #[.int .i64 x.f0, .int .i64 x.f1, .int .i64 x.f2, .int .i64 x.f3] 35) = W1 := ⟨_, rfl⟩
  have b1 : Below w.heap.size w W1 := by rw [← hW1]; exact (Below.refl _ _).alloc (Nat.le_refl _) _
  have k1 : W1.heap[w.heap.size]? = some (obj35 x) := by rw [← hW1]; exact heap_alloc_new w _
  have K1 := Lib.hid (And.intro b1 k1)
  obtain ⟨e0, e1, e2, e3⟩ := obj35_cells k1
  rw [hop] at hW1 e0
  rw [hop]
  have m1 : IntKind.i64.wrap ((len : Int) + 1) = (len : Int) + 1 := by rw [IntWalk.i64_in _ (by omega)]
  clear b1 k1 hg
  go_enter Try.func14, Try.ntmps14
  obtain ⟨W2, hW2⟩ : ∃ W2, W1.alloc (.cells #[.int .i64 x.f1] 3) = W2 := ⟨_, rfl⟩
  have S1 := Lib.hid (small1 4 x.f1 hW2)
  have K2 := Lib.hid (show Below w.heap.size w W2 ∧ W2.heap[w.heap.size]? = some (obj35 x) from by rw [← hW2]; exact ⟨K1.out.1.alloc K1.out.1.size _, blk_al K1.out.2 _⟩)
  go_wp2_with (first | rw [hW1] | rw [hW2])
  refine S1.out.mono ?_
  rintro e w' ⟨rfl, rfl⟩
  go_wp2_with fail
  go_ret
  exact ⟨rfl, K2.out.1⟩
set_option maxHeartbeats 4000000 in
theorem good13_w (x : I) (len : Nat) (w : World) (hop : x.f0 = 13) (hlen : len ≤ 1000) :
    Calls Try.prog 14 #[.agg #[.int .i64 x.f0, .int .i64 x.f1, .int .i64 x.f2, .int .i64 x.f3], .int .i64 (len : Int)] w fun e w' => e = .returned (.bool (goodB x len)) ∧ Below w.heap.size w w' := by
  have hg : goodB x len = (smB 4 x.f1) := by
    unfold goodB
    rw [hop]
    rfl
  rw [hg]
  obtain ⟨W1, hW1⟩ : ∃ W1, w.alloc (.cells #[.int .i64 x.f0, .int .i64 x.f1, .int .i64 x.f2, .int .i64 x.f3] 35) = W1 := ⟨_, rfl⟩
  have b1 : Below w.heap.size w W1 := by rw [← hW1]; exact (Below.refl _ _).alloc (Nat.le_refl _) _
  have k1 : W1.heap[w.heap.size]? = some (obj35 x) := by rw [← hW1]; exact heap_alloc_new w _
  have K1 := Lib.hid (And.intro b1 k1)
  obtain ⟨e0, e1, e2, e3⟩ := obj35_cells k1
  rw [hop] at hW1 e0
  rw [hop]
  have m1 : IntKind.i64.wrap ((len : Int) + 1) = (len : Int) + 1 := by rw [IntWalk.i64_in _ (by omega)]
  clear b1 k1 hg
  go_enter Try.func14, Try.ntmps14
  obtain ⟨W2, hW2⟩ : ∃ W2, W1.alloc (.cells #[.int .i64 x.f1] 3) = W2 := ⟨_, rfl⟩
  have S1 := Lib.hid (small1 4 x.f1 hW2)
  have K2 := Lib.hid (show Below w.heap.size w W2 ∧ W2.heap[w.heap.size]? = some (obj35 x) from by rw [← hW2]; exact ⟨K1.out.1.alloc K1.out.1.size _, blk_al K1.out.2 _⟩)
  go_wp2_with (first | rw [hW1] | rw [hW2])
  refine S1.out.mono ?_
  rintro e w' ⟨rfl, rfl⟩
  go_wp2_with fail
  go_ret
  exact ⟨rfl, K2.out.1⟩
set_option maxHeartbeats 4000000 in
theorem good_w (x : I) (len : Nat) (w : World) (hlen : len ≤ 1000) :
    Calls Try.prog 14 #[.agg #[.int .i64 x.f0, .int .i64 x.f1, .int .i64 x.f2, .int .i64 x.f3], .int .i64 (len : Int)] w fun e w' => e = .returned (.bool (goodB x len)) ∧ Below w.heap.size w w' := by
  by_cases h1 : x.f0 = 1
  · exact good1_w x len w h1 hlen
  by_cases h2 : x.f0 = 2
  · exact good2_w x len w h2 hlen
  by_cases h3 : x.f0 = 3
  · exact good3_w x len w h3 hlen
  by_cases h10 : x.f0 = 10
  · exact good10_w x len w h10 hlen
  by_cases h8 : x.f0 = 8
  · exact good8_w x len w h8 hlen
  by_cases h9 : x.f0 = 9
  · exact good9_w x len w h9 hlen
  by_cases h11 : x.f0 = 11
  · exact good11_w x len w h11 hlen
  by_cases h12 : x.f0 = 12
  · exact good12_w x len w h12 hlen
  by_cases h6 : x.f0 = 6
  · exact good6_w x len w h6 hlen
  by_cases h7 : x.f0 = 7
  · exact good7_w x len w h7 hlen
  by_cases h4 : x.f0 = 4
  · exact good4_w x len w h4 hlen
  by_cases h5 : x.f0 = 5
  · exact good5_w x len w h5 hlen
  by_cases h13 : x.f0 = 13
  · exact good13_w x len w h13 hlen
  rw [goodB_else (fun k hk => by rcases hk with rfl | rfl | rfl | rfl | rfl | rfl | rfl | rfl | rfl | rfl | rfl | rfl | rfl <;> assumption)]
  have d1 : (x.f0 == 1) = false := by simpa using h1
  have d2 : (x.f0 == 2) = false := by simpa using h2
  have d3 : (x.f0 == 3) = false := by simpa using h3
  have d10 : (x.f0 == 10) = false := by simpa using h10
  have d8 : (x.f0 == 8) = false := by simpa using h8
  have d9 : (x.f0 == 9) = false := by simpa using h9
  have d11 : (x.f0 == 11) = false := by simpa using h11
  have d12 : (x.f0 == 12) = false := by simpa using h12
  have d6 : (x.f0 == 6) = false := by simpa using h6
  have d7 : (x.f0 == 7) = false := by simpa using h7
  have d4 : (x.f0 == 4) = false := by simpa using h4
  have d5 : (x.f0 == 5) = false := by simpa using h5
  have d13 : (x.f0 == 13) = false := by simpa using h13
  obtain ⟨W1, hW1⟩ : ∃ W1, w.alloc (.cells #[.int .i64 x.f0, .int .i64 x.f1, .int .i64 x.f2, .int .i64 x.f3] 35) = W1 := ⟨_, rfl⟩
  have b1 : Below w.heap.size w W1 := by rw [← hW1]; exact (Below.refl _ _).alloc (Nat.le_refl _) _
  have k1 : W1.heap[w.heap.size]? = some (obj35 x) := by rw [← hW1]; exact heap_alloc_new w _
  have K1 := Lib.hid b1
  obtain ⟨e0, e1, e2, e3⟩ := obj35_cells k1
  clear b1 k1 h1 h2 h3 h10 h8 h9 h11 h12 h6 h7 h4 h5 h13
  go_enter Try.func14, Try.ntmps14
  go_wp2_with (first | rw [hW1])
  go_ret
  exact ⟨rfl, K1.out⟩
end Go.Proofs.Ytkcjghdopmigoaa.SC
