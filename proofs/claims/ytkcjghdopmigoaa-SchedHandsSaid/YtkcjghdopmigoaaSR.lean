/- sched: rows that were just built; awake. -/
import Derived.Test.YtkcjghdopmigoaaSQ
import Derived.Deep.CutBlock
namespace Go.Proofs.Ytkcjghdopmigoaa.SC
open Go.RowKit Go.Proofs.YtkcjghdopmigoaaW.PrintWords
set_option linter.unusedVariables false
set_option linter.unusedSimpArgs false
set_option maxRecDepth 100000

theorem turnW_emits (D : Wd) (p : Int) : (turnW D p).emits.length ≤ D.emits.length + 1 := by
  unfold turnW goD
  split
  · exact turn_emits
  · omega
theorem loopW_emits : ∀ (l : List Int) (s : Nat) (D : Wd), (loopW s D l).1.emits.length ≤ D.emits.length + l.length
  | [], s, D => by show D.emits.length ≤ _; omega
  | p :: t, s, D => by
    by_cases h : ableL D = []
    · rw [loopW_stop h]; show D.emits.length ≤ _; omega
    · rw [loopW_go h]
      have h1 := loopW_emits t (s + 1) (turnW D p)
      have h2 := turnW_emits D p
      rw [List.length_cons]
      omega
theorem hE_of {code : List (List I)} {cells picks : List Int} (h : picks.length ≤ 100000000) (k : Nat) : (loopW 0 (D0 code cells) (picks.take k)).1.emits.length ≤ 100000000 := by
  have h1 := loopW_emits (picks.take k) 0 (D0 code cells)
  have h2 : (D0 code cells).emits.length = 0 := rfl
  rw [h2, List.length_take] at h1
  omega
theorem add_off (n k j : Nat) : (Addr.mk n k none).add j = ⟨n, k + j, none⟩ := by
  unfold Addr.add
  by_cases hj0 : j = 0
  · subst hj0; rfl
  · simp [hj0]
theorem C_ints {w : World} {n : Nat} {cs : Array Value} {fr : Nat × Nat} {xs : List Int} (hh : w.heap[n]? = some (.cells cs 3 fr)) (hcs : cs = (nums xs).toArray) (hl : xs.length ≤ 9223372036854775807) : Kd.C (Kd.int .i64) w (some ⟨n, 0, none⟩) xs.length xs := by
  subst hcs
  refine ⟨rfl, hl, fun _ => ⟨_, rfl, fun j p hj => ⟨[.int .i64 p], rfl, rfl, fun i u hu => ?_⟩⟩⟩
  rcases i with _ | i
  · obtain rfl : Value.int .i64 p = u := by simpa using hu
    have e1 : j * (Kd.int .i64).sz + 0 = j := by show j * 1 + 0 = j; omega
    rw [e1, add_off]
    simp [World.cell?, hh, nums, hj]
  · simp at hu
theorem C_codes {w : World} {n : Nat} {cs : Array Value} {t : Nat} {fr : Nat × Nat} {ls : List (List I)} (hh : w.heap[n]? = some (.cells cs t fr)) (hcs : ∀ (j : Nat) (l : List I), ls[j]? = some l → ∃ (A : Option Addr) (c : Nat), cs[j]? = some (Value.slice A l.length c) ∧ l.length ≤ c ∧ Kd.C kI w A l.length l) (hl : ls.length ≤ 9223372036854775807) : Kd.C (Kd.slice 35 kI) w (some ⟨n, 0, none⟩) ls.length ls := by
  refine ⟨rfl, hl, fun _ => ⟨_, rfl, fun j p hj => ?_⟩⟩
  obtain ⟨A, c, h1, h2, h3⟩ := hcs j p hj
  refine ⟨[.slice A p.length c], rfl, ⟨A, c, rfl, h2, h3⟩, fun i u hu => ?_⟩
  rcases i with _ | i
  · obtain rfl : Value.slice A p.length c = u := by simpa using hu
    have e1 : j * (Kd.slice 35 kI).sz + 0 = j := by show j * 1 + 0 = j; omega
    rw [e1, add_off]
    simp [World.cell?, hh, h1]
  · simp at hu
theorem C_block {α : Type} {d : Kd α} {w : World} {n t : Nat} {cs : List Value} {fr : Nat × Nat} {xs : List α} (hh : w.heap[n]? = some (.cells cs.toArray t fr)) (hr : Reps (d.K w) d.sz xs cs) (hl : xs.length ≤ 9223372036854775807) : Kd.C d w (some ⟨n, 0, none⟩) xs.length xs := by
  refine ⟨rfl, hl, fun _ => ⟨_, rfl, fun j p hj => ⟨_, d.K_len (hr.2 j p hj), hr.2 j p hj, fun i u hu => ?_⟩⟩⟩
  rw [List.getElem?_take] at hu
  split at hu
  · rw [List.getElem?_drop] at hu
    rw [add_off]
    simp [World.cell?, hh, hu]
  · cases hu
def cellsI : List I → List Value
  | [] => []
  | x :: t => [.int .i64 x.f0, .int .i64 x.f1, .int .i64 x.f2, .int .i64 x.f3] ++ cellsI t
theorem cellsI_len : ∀ xs : List I, (cellsI xs).length = xs.length * 4
  | [] => rfl
  | x :: t => by show ([_, _, _, _] ++ cellsI t).length = _; rw [List.length_append, cellsI_len t]; simp; omega
theorem cellsI_reps {R : I → List Value → Prop} (hR : ∀ x : I, R x [.int .i64 x.f0, .int .i64 x.f1, .int .i64 x.f2, .int .i64 x.f3]) : ∀ (xs : List I), Reps R 4 xs (cellsI xs)
  | [] => ⟨rfl, fun j p h => by simp at h⟩
  | x :: t => ⟨cellsI_len _, fun j p hj => by
    rcases j with _ | j
    · obtain rfl : x = p := by simpa using hj
      exact hR x
    · have := (cellsI_reps hR t).2 j p (by simpa using hj)
      rw [show (j + 1) * 4 = 4 + j * 4 by omega, ← List.drop_drop]
      exact this⟩
theorem kI_mk (w : World) (x : I) : kI.K w x [.int .i64 x.f0, .int .i64 x.f1, .int .i64 x.f2, .int .i64 x.f3] := ⟨[.int .i64 x.f0], [.int .i64 x.f1, .int .i64 x.f2, .int .i64 x.f3], rfl, rfl, ⟨[.int .i64 x.f1], [.int .i64 x.f2, .int .i64 x.f3], rfl, rfl, ⟨[.int .i64 x.f2], [.int .i64 x.f3], rfl, rfl, rfl⟩⟩⟩
theorem C_insts {w : World} {n t : Nat} {cs : Array Value} {fr : Nat × Nat} {xs : List I} (hh : w.heap[n]? = some (.cells cs t fr)) (hcs : cs = (cellsI xs).toArray) (hl : xs.length ≤ 9223372036854775807) : Kd.C kI w (some ⟨n, 0, none⟩) xs.length xs := by
  subst hcs
  exact C_block hh (cellsI_reps (R := kI.K w) (kI_mk w) xs) hl
def cnt : List I := [⟨1, 0, 0, 0⟩, ⟨5, 0, 1, 0⟩, ⟨2, 0, 0, 0⟩]
theorem counts_w (w : World) : Calls Try.prog 11 #[] w fun e w' => ∃ A c, e = .returned (.slice A 3 c) ∧ 3 ≤ c ∧ Kd.C kI w' A 3 cnt ∧ Below w.heap.size w w' := by
  refine (PSchedLocks.staddlelaw05_counts.calls cnt w rfl).mono ?_
  rintro e w' ⟨v, rfl, hR, b⟩
  obtain ⟨A, c, rfl, hc, hC⟩ := Kd.R_reads hR
  exact ⟨A, c, rfl, hc, hC, b⟩
theorem aw1 : (loopW 0 (D0 [cnt, cnt] []) [0, 0, 0, 0, 0, 0]).1.cells.getD 0 0 = 2 := by decide +kernel
theorem aw2 : (loopW 0 (D0 [cnt, cnt] []) [0, 1, 0, 1, 0, 1]).1.cells.getD 0 0 = 1 := by decide +kernel
theorem aw3 : (loopW 0 (D0 [cnt, cnt] []) [0, 1, 0, 1, 0, 1]).2 = 6 := by decide +kernel
theorem aw4 : okB [cnt, cnt] [] = true := by decide
theorem aw5 : okB [[⟨15, 0, 0, 0⟩]] [] = false := by decide
set_option maxHeartbeats 8000000 in
theorem awake_w (w : World) : Calls Try.prog 9 #[] w fun e w' => e = .returned (.bool true) ∧ Below w.heap.size w w' := by
  go_enter Try.func9, Try.ntmps9
  go_wp2_with fail
  refine (counts_w w).mono ?_
  rintro e w1 ⟨A1, c1, rfl, hc1, hC1, b1⟩
  have H1 := Lib.hid (And.intro hc1 (And.intro hC1 b1))
  clear hc1 hC1 b1
  go_wp2_with fail
  refine (counts_w w1).mono ?_
  rintro e w2 ⟨A2, c2, rfl, hc2, hC2, b2⟩
  have H2 := Lib.hid (And.intro hc2 (And.intro hC2 b2))
  clear hc2 hC2 b2
  go_wp2_with fail
  obtain ⟨n2, hn2⟩ : ∃ n2, w2.heap.size = n2 := ⟨_, rfl⟩
  obtain ⟨W3, hW3⟩ : ∃ W3, w2.alloc (.cells #[.slice A1 3 c1, .slice A2 3 c2] 36) = W3 := ⟨_, rfl⟩
  have b3 : Below w2.heap.size w2 W3 := by rw [← hW3]; exact (Below.refl _ w2).alloc (Nat.le_refl _) _
  have k3 : W3.heap[n2]? = some (.cells #[.slice A1 3 c1, .slice A2 3 c2] 36) := by rw [← hW3, ← hn2]; exact heap_alloc_new w2 _
  have C3 : Kd.C (Kd.slice 35 kI) W3 (some ⟨n2, 0, none⟩) 2 [cnt, cnt] := C_codes (ls := [cnt, cnt]) k3 (fun j l hj => by
    rcases j with _ | _ | j
    · obtain rfl : cnt = l := by simpa using hj
      exact ⟨A1, c1, rfl, H1.out.1, keepC (keepC H1.out.2.1 (Nat.le_refl _) H2.out.2.2) (Nat.le_refl _) b3⟩
    · obtain rfl : cnt = l := by simpa using hj
      exact ⟨A2, c2, rfl, H2.out.1, keepC H2.out.2.1 (Nat.le_refl _) b3⟩
    · simp at hj) (by decide)
  have n3 : W3.heap.size = n2 + 1 := by rw [← hW3, ← hn2]; simp
  obtain ⟨W4, hW4⟩ : ∃ W4, W3.alloc (.cells #[.int .i64 0, .int .i64 0, .int .i64 0, .int .i64 0, .int .i64 0, .int .i64 0] 3) = W4 := ⟨_, rfl⟩
  have b4 : Below W3.heap.size W3 W4 := by rw [← hW4]; exact (Below.refl _ W3).alloc (Nat.le_refl _) _
  have C4 : Kd.C (Kd.int .i64) W4 (some ⟨n2 + 1, 0, none⟩) 6 [0, 0, 0, 0, 0, 0] := C_ints (xs := [0, 0, 0, 0, 0, 0]) (by rw [← hW4, ← n3]; exact heap_alloc_new W3 _) rfl (by decide)
  have H4 := Lib.hid (And.intro C3 (And.intro b3 (And.intro b4 C4)))
  have hcall := run_w (some ⟨n2, 0, none⟩) 2 [cnt, cnt] none 0 [] (some ⟨n2 + 1, 0, none⟩) 6 [0, 0, 0, 0, 0, 0] W4 (keepC C3 (Nat.le_refl _) b4) (by decide) ⟨rfl, by decide, fun h => absurd h (by decide)⟩ (by decide) C4 (by decide) (hE_of (by decide)) (by decide)
  rw [hW3, hW4, hn2]
  have HC := Lib.hid hcall
  clear hcall C3 b3 b4 C4 k3 n3
  refine HC.out.mono ?_
  rintro e w5 (⟨h, _, _⟩ | ⟨_, R, s, hl, g, Ae, ce, As, cs, rfl, hc, _, _, _, _, b5⟩)
  · exact absurd (aw4.symm.trans h) (by decide)
  have hR : R.cells.getD 0 0 = 2 := by
    have := aw1
    rw [hl] at this
    exact this
  obtain ⟨ad, e0, g0⟩ := at_int hc (i := 0) (by decide)
  injection e0 with e0
  subst e0
  rw [hR, add_off] at g0
  have H5 := Lib.hid (And.intro g0 b5)
  obtain ⟨ne, hne⟩ : ∃ ne, R.emits.length = ne := ⟨_, rfl⟩
  obtain ⟨ns, hns⟩ : ∃ ns, R.ts.length = ns := ⟨_, rfl⟩
  rw [hne, hns]
  clear hl hc b5 hR hne hns HC g0
  go_wp2_with fail
  -- the second run
  obtain ⟨n5, hn5⟩ : ∃ n5, w5.heap.size = n5 := ⟨_, rfl⟩
  obtain ⟨W6, hW6⟩ : ∃ W6, w5.alloc (.cells #[.slice (some ⟨g, 1, none⟩) 16 16, .slice Ae ne ce, .slice As ns cs, .int .i64 (s : Int)] 27) = W6 := ⟨_, rfl⟩
  have b6 : Below w5.heap.size w5 W6 := by rw [← hW6]; exact (Below.refl _ w5).alloc (Nat.le_refl _) _
  have r6 : RB W6 n5 (.slice (some ⟨g, 1, none⟩) 16 16) (.slice Ae ne ce) (.slice As ns cs) (s : Int) := by rw [← hW6, ← hn5]; exact heap_alloc_new w5 _
  have n6 : W6.heap.size = n5 + 1 := by rw [← hW6, ← hn5]; simp
  obtain ⟨W7, hW7⟩ : ∃ W7, W6.alloc (.cells #[.int .i64 0, .int .i64 1, .int .i64 0, .int .i64 1, .int .i64 0, .int .i64 1] 3) = W7 := ⟨_, rfl⟩
  have b7 : Below W6.heap.size W6 W7 := by rw [← hW7]; exact (Below.refl _ W6).alloc (Nat.le_refl _) _
  have C7 : Kd.C (Kd.int .i64) W7 (some ⟨n5 + 1, 0, none⟩) 6 [0, 1, 0, 1, 0, 1] := C_ints (xs := [0, 1, 0, 1, 0, 1]) (by rw [← hW7, ← n6]; exact heap_alloc_new W6 _) rfl (by decide)
  have b47 : Below W4.heap.size W4 W7 := (H5.out.2.trans (b6.mono H5.out.2.size)).trans (b7.mono (by have := H5.out.2.size; have := b6.size; omega))
  have C37 := keepC (keepC H4.out.1 (Nat.le_refl _) H4.out.2.2.1) (Nat.le_refl _) b47
  have hcall := run_w (some ⟨n2, 0, none⟩) 2 [cnt, cnt] none 0 [] (some ⟨n5 + 1, 0, none⟩) 6 [0, 1, 0, 1, 0, 1] W7 C37 (by decide) ⟨rfl, by decide, fun h => absurd h (by decide)⟩ (by decide) C7 (by decide) (hE_of (by decide)) (by decide)
  have H7 := Lib.hid (And.intro b6 (And.intro r6 (And.intro b7 b47)))
  rw [hW6, hW7, hn5]
  have HC := Lib.hid hcall
  clear hcall C37 b6 r6 b7 b47 C7 n6
  refine HC.out.mono ?_
  rintro e w8 (⟨h, _, _⟩ | ⟨_, R2, s2, hl, g2, Ae2, ce2, As2, cs2, rfl, hc, _, _, _, _, b8⟩)
  · exact absurd (aw4.symm.trans h) (by decide)
  have hR : R2.cells.getD 0 0 = 1 := by
    have := aw2
    rw [hl] at this
    exact this
  have hs2 : s2 = 6 := by
    have := aw3
    rw [hl] at this
    exact this
  subst hs2
  obtain ⟨ad, e0, g0⟩ := at_int hc (i := 0) (by decide)
  injection e0 with e0
  subst e0
  rw [hR, add_off] at g0
  have H8 := Lib.hid (And.intro g0 b8)
  obtain ⟨ne2, hne⟩ : ∃ ne, R2.emits.length = ne := ⟨_, rfl⟩
  obtain ⟨ns2, hns⟩ : ∃ ns, R2.ts.length = ns := ⟨_, rfl⟩
  rw [hne, hns]
  clear hl hc b8 hR hne hns HC g0
  go_wp2_with fail
  -- the third run
  obtain ⟨n8, hn8⟩ : ∃ n8, w8.heap.size = n8 := ⟨_, rfl⟩
  obtain ⟨W9, hW9⟩ : ∃ W9, w8.alloc (.cells #[.slice (some ⟨g2, 1, none⟩) 16 16, .slice Ae2 ne2 ce2, .slice As2 ns2 cs2, .int .i64 6] 27) = W9 := ⟨_, rfl⟩
  have b9 : Below w8.heap.size w8 W9 := by rw [← hW9]; exact (Below.refl _ w8).alloc (Nat.le_refl _) _
  have r9 : RB W9 n8 (.slice (some ⟨g2, 1, none⟩) 16 16) (.slice Ae2 ne2 ce2) (.slice As2 ns2 cs2) 6 := by rw [← hW9, ← hn8]; exact heap_alloc_new w8 _
  have n9 : W9.heap.size = n8 + 1 := by rw [← hW9, ← hn8]; simp
  obtain ⟨W10, hW10⟩ : ∃ W10, W9.alloc (.cells #[.int .i64 15, .int .i64 0, .int .i64 0, .int .i64 0] 35) = W10 := ⟨_, rfl⟩
  have b10 : Below W9.heap.size W9 W10 := by rw [← hW10]; exact (Below.refl _ W9).alloc (Nat.le_refl _) _
  have C10 : Kd.C kI W10 (some ⟨n8 + 1, 0, none⟩) 1 [⟨15, 0, 0, 0⟩] := C_insts (xs := [⟨15, 0, 0, 0⟩]) (by rw [← hW10, ← n9]; exact heap_alloc_new W9 _) rfl (by decide)
  have n10 : W10.heap.size = n8 + 1 + 1 := by rw [← hW10, ← n9]; simp
  obtain ⟨W11, hW11⟩ : ∃ W11, W10.alloc (.cells #[.slice (some ⟨n8 + 1, 0, none⟩) 1 1] 36) = W11 := ⟨_, rfl⟩
  have b11 : Below W10.heap.size W10 W11 := by rw [← hW11]; exact (Below.refl _ W10).alloc (Nat.le_refl _) _
  have C11 : Kd.C (Kd.slice 35 kI) W11 (some ⟨n8 + 1 + 1, 0, none⟩) 1 [[⟨15, 0, 0, 0⟩]] := C_codes (ls := [[⟨15, 0, 0, 0⟩]]) (by rw [← hW11, ← n10]; exact heap_alloc_new W10 _) (fun j l hj => by
    rcases j with _ | j
    · obtain rfl : [⟨15, 0, 0, 0⟩] = l := by simpa using hj
      exact ⟨some ⟨n8 + 1, 0, none⟩, 1, rfl, by decide, keepC C10 (Nat.le_refl _) b11⟩
    · simp at hj) (by decide)
  have b811 : Below w8.heap.size w8 W11 := (b9.trans (b10.mono b9.size)).trans (b11.mono (by have := b9.size; have := b10.size; omega))
  have hcall := run_w (some ⟨n8 + 1 + 1, 0, none⟩) 1 [[⟨15, 0, 0, 0⟩]] none 0 [] none 0 [] W11 C11 (by decide) ⟨rfl, by decide, fun h => absurd h (by decide)⟩ (by decide) ⟨rfl, by decide, fun h => absurd h (by decide)⟩ (by decide) (hE_of (by decide)) (by decide)
  have H11 := Lib.hid (And.intro (r9.below (b10.trans (b11.mono b10.size))) b811)
  rw [hn8, hW9, hW10, hW11]
  have HC := Lib.hid hcall
  clear hcall C10 C11 b9 r9 b10 b11 b811 n9 n10
  refine HC.out.mono ?_
  rintro e w12 (⟨_, rfl, b12⟩ | ⟨h, _⟩)
  rotate_left
  · exact absurd (aw5.symm.trans h) (by decide)
  obtain ⟨W13, hW13⟩ : ∃ W13, w12.alloc (.cells #[.slice none 0 0, .slice none 0 0, .slice none 0 0, .int .i64 0] 27) = W13 := ⟨_, rfl⟩
  have b13 : Below W11.heap.size W11 W13 := by rw [← hW13]; exact b12.alloc b12.size _
  have HW13 := Lib.hid hW13
  clear hW13 b12
  have bAll : Below w.heap.size w W13 := by
    have a1 := H1.out.2.2
    have a2 := a1.trans (H2.out.2.2.mono a1.size)
    have a3 := a2.trans (H4.out.2.1.mono a2.size)
    have a4 := a3.trans (H4.out.2.2.1.mono a3.size)
    have a7 := a4.trans (H7.out.2.2.2.mono a4.size)
    have a8 := a7.trans (H8.out.2.mono a7.size)
    have a11 := a8.trans (H11.out.2.mono a8.size)
    exact a11.trans (b13.mono a11.size)
  have g1 := H5.out.1
  have r1 := H7.out.2.1
  have bb : Below W6.heap.size W6 W13 := by
    have a7 := H7.out.2.2.1
    have a8 := a7.trans (H8.out.2.mono a7.size)
    have a11 := a8.trans (H11.out.2.mono a8.size)
    exact a11.trans (b13.mono a11.size)
  replace g1 := cell_up' (cell_up' g1 H7.out.1) bb
  replace r1 := r1.below bb
  have g2' := H8.out.1
  have bb2 : Below w8.heap.size w8 W13 := H11.out.2.trans (b13.mono H11.out.2.size)
  replace g2' := cell_up' g2' bb2
  have r2 := H11.out.1.below b13
  obtain ⟨x0, x1, x2, x3⟩ := r1.cells
  obtain ⟨y0, y1, y2, y3⟩ := r2.cells
  have HF := Lib.hid bAll
  clear bb bb2 b13 r1 r2 bAll HC
  unfold nilRun
  go_upto_region 5 with (fail)
  rw [HW13.out]
  go_wp2_with fail
  go_ret
  exact ⟨rfl, HF.out⟩
set_option maxHeartbeats 4000000 in
theorem names_w (w : World) : Calls Try.prog 3 #[] w fun e w' => e = .returned (.bool true) ∧ Below w.heap.size w w' := by
  go_enter Try.func3, Try.ntmps3
  go_wp2_with fail
  refine (awake_w w).mono ?_
  rintro e w1 ⟨rfl, b1⟩
  have HB := Lib.hid b1
  clear b1
  go_wp2_with fail
  go_ret
  exact ⟨rfl, HB.out⟩
end Go.Proofs.Ytkcjghdopmigoaa.SC
