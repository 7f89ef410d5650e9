/- sched: a task does an instruction: the walks. -/
import Derived.Test.YtkcjghdopmigoaaSI
namespace Go.Proofs.Ytkcjghdopmigoaa.SC
open Go.RowKit Go.Proofs.YtkcjghdopmigoaaW.PrintWords
set_option linter.unusedVariables false
set_option linter.unusedSimpArgs false
set_option maxRecDepth 100000
set_option maxHeartbeats 8000000 in
theorem step6_w {w0 w : World} {g : Nat} {T : Nat → Nat} {cv : Nat → Value} {tv es : Value} {D : Wd} (h : St w0 w g T cv tv es D) {i : Nat} {t : Tk} (ht : D.ts[i]? = some t) (hwn : t.wants = -1) {x : I} (hix : insT t = x) (hop : x.f0 = 6) (hpc : t.pc < t.code.length) (hlen : t.code.length ≤ 1000) (hi : i ≤ 1000) (hA : 0 ≤ x.f1 ∧ x.f1 < 4) (hB : 0 ≤ x.f2 ∧ x.f2 ≤ t.code.length) :
    Calls Try.prog 17 #[.pointer (some ⟨g, 0, none⟩), .int .i64 (i : Int)] w (StepEnd w0 w g T cv tv es D.ts.length (doI D i (nxT t) x)) := by
  have hin : i < D.ts.length := (List.getElem?_eq_some_iff.1 ht).1
  obtain ⟨q, cap, htv, hrow⟩ := h.tasks (by omega)
  obtain ⟨Ac, cc, hcv, hcc, hcd⟩ := h.cd i t ht
  obtain ⟨hTB, hTlo⟩ := h.tb i t ht
  obtain ⟨c0, c1, c6, c7, c8, c9⟩ := hTB.cells
  have f1 := hTB.frozen 1
  have g0 := h.wb.cells.1
  have ci := hrow i hin
  obtain ⟨ad, e, X⟩ := atI (keepC hcd (Nat.le_refl _) h.bel) t.pc hpc
  rw [show t.code.getD t.pc zI = x from hix] at X
  obtain ⟨x0, x1, x2, x3⟩ := X
  have HH := Lib.hid (And.intro h (And.intro ht (And.intro hTB hcd)))
  have Htv := Lib.hid htv
  have Hcv := Lib.hid hcv
  have Hix := Lib.hid hix
  have Hop := Lib.hid hop
  have Hwn := Lib.hid hwn
  obtain ⟨n, hn⟩ : ∃ n, D.ts.length = n := ⟨_, rfl⟩
  have Hn := Lib.hid hn
  obtain ⟨cl, hcl⟩ : ∃ cl, t.code.length = cl := ⟨_, rfl⟩
  have Hcl := Lib.hid hcl
  obtain ⟨pc, hpc'⟩ : ∃ pc, t.pc = pc := ⟨_, rfl⟩
  have Hpc := Lib.hid hpc'
  rw [hn] at htv hin
  rw [htv] at g0
  rw [hcv] at c0
  rw [hcl] at c0 hpc hlen
  rw [hpc'] at c1 x0 x1 x2 x3 hpc
  rw [hwn] at c9
  rw [hop] at x0
  subst e
  obtain ⟨b, hb⟩ : ∃ b, T i = b := ⟨_, rfl⟩
  have Hb := Lib.hid hb
  rw [hb] at c0 c1 c6 c7 c8 c9 f1 ci
  have p0 : (0 ≤ (pc : Int)) = True := by simp
  have p1 : ((pc : Int) < cl) = True := eq_true (by omega)
  have p2 : (pc < cl) = True := eq_true hpc
  have q0 : (0 ≤ (i : Int)) = True := by simp
  have q1 : ((i : Int) < n) = True := eq_true (by omega)
  have q2 : (i < n) = True := eq_true hin
  have m1 : IntKind.i64.wrap ((pc : Int) + 1) = (pc : Int) + 1 := by rw [IntWalk.i64_in _ (by omega)]
  obtain ⟨W1, hW1⟩ : ∃ W1, (w.alloc (.cells #[.int .i64 6, .int .i64 x.f1, .int .i64 x.f2, .int .i64 x.f3] 35)).drew = W1 := ⟨_, rfl⟩
  have b1 : Below w.heap.size w W1 := by rw [← hW1]; exact ((Below.refl _ w).alloc (Nat.le_refl _) _).drew
  have k1 : W1.heap[w.heap.size]? = some (obj35 x) := by
    rw [← hW1]
    unfold obj35
    rw [hop]
    exact heap_alloc_new w _
  have d1 := cell_up' c1 b1
  have d9 := cell_up' c9 b1
  have g1 : W1.frozen? ⟨b, 1, none⟩ = false := by rw [← hb]; exact ((h.below b1).tb i t ht).1.frozen 1
  obtain ⟨e0, e1, e2, e3⟩ := obj35_cells k1
  rw [hop] at e0
  obtain ⟨W2, hW2⟩ : ∃ W2, W1.setCell ⟨b, 1, none⟩ (.int .i64 ((pc : Int) + 1)) = W2 := ⟨_, rfl⟩
  have S2 : St w0 W2 g T cv tv es { D with ts := D.ts.set i (nxT t) } := by
    have h1 := (h.below b1).setT (t' := nxT t) (k := 1) (v := .int .i64 ((pc : Int) + 1)) ht rfl (by
      have := ((h.below b1).tb i t ht).1.setPc (pc + 1)
      rw [show ((pc + 1 : Nat) : Int) = (pc : Int) + 1 from by omega] at this
      rw [show nxT t = { t with pc := pc + 1 } from by unfold nxT; rw [hpc']]
      exact this)
    rw [hb, hW2] at h1
    exact h1
  have F2 : Fr (Own g T D.ts.length es) w W2 := by
    rw [← hW2]
    exact (Fr.of_below b1).set _ _ (.inr (.inl ⟨i, by rw [hn]; exact hin, hb.symm⟩))
  have k2 : W2.heap[w.heap.size]? = some (obj35 x) := by
    rw [← hW2]
    rw [heap_setCell_other _ _ _ _ (show w.heap.size ≠ b from by have := hTB.lt; rw [hb] at this; omega)]
    exact k1
  have ht2 : (D.ts.set i (nxT t))[i]? = some (nxT t) := set_get ht
  have T2 := (S2.tb i _ ht2).1
  have hxlt : w.heap.size < W2.heap.size := (Array.getElem?_eq_some_iff.1 k2).1
  have H2 := Lib.hid (And.intro S2 (And.intro F2 (And.intro k2 (And.intro ht2 T2))))
  obtain ⟨y0, y1, y2, y3⟩ := obj35_cells k2
  rw [hop] at y0
  have HW1 := Lib.hid hW1
  have HW2 := Lib.hid hW2
  clear hW1 hW2
  clear h ht hTB hcd hrow htv hcv hix hop hwn hn hcl hpc' hb b1 k1 S2 F2 k2 ht2 T2 hTlo hcc c6 c7 c8
  obtain ⟨A, hA⟩ : ∃ A : Nat, x.f1 = (A : Int) := ⟨x.f1.toNat, by omega⟩
  have lA : A < 4 := by omega
  have HA := Lib.hid hA
  rw [hA] at y1
  have A0 : (0 ≤ (A : Int)) = True := by simp
  have A1 : ((A : Int) < 4) = True := eq_true (by omega)
  have A2 : (A < 4) = True := eq_true lA
  obtain ⟨B, hBe⟩ : ∃ B : Nat, x.f2 = (B : Int) := ⟨x.f2.toNat, by omega⟩
  have HB := Lib.hid hBe
  rw [hBe] at y2
  clear hBe
  have zA := H2.out.2.2.2.2.reg lA
  rw [Hb.out] at zA
  have fzA := H2.out.2.2.2.2.frozen (2 + A)
  rw [Hb.out] at fzA
  obtain ⟨v, hv⟩ : ∃ v, (nxT t).r.getD A 0 = v := ⟨_, rfl⟩
  have Hv := Lib.hid hv
  rw [hv] at zA
  clear hv hA hB
  by_cases hv0 : v = 0
  · rw [hv0] at zA
    have Hv0 := Lib.hid hv0
    clear hv0
    go_enter Try.func17, Try.ntmps17
    go_wp2_with fail
    go_region_held3 (fun w' => w'.cell? ⟨b, 0, none⟩ = some (.slice (some ad) cl cc) ∧ w'.cell? ⟨b, 1, none⟩ = some (.int .i64 (pc : Int)) ∧ w'.cell? (ad.add (pc * 4)) = some (.int .i64 6) ∧ w'.cell? ⟨(ad.add (pc * 4)).block, (ad.add (pc * 4)).off + 1, none⟩ = some (.int .i64 x.f1) ∧ w'.cell? ⟨(ad.add (pc * 4)).block, (ad.add (pc * 4)).off + 2, none⟩ = some (.int .i64 x.f2) ∧ w'.cell? ⟨(ad.add (pc * 4)).block, (ad.add (pc * 4)).off + 3, none⟩ = some (.int .i64 x.f3)) (go_keep) (fail)
    rw [HW1.out]
    clear HW1 c0 c1 c9 x0 x1 x2 x3 f1
    go_wp2_with (first | rw [HW2.out])
    go_quiet (fail)
    obtain ⟨W3, hW3⟩ : ∃ W3, W2.drewN nq = W3 := ⟨_, rfl⟩
    have b3 : Below W2.heap.size W2 W3 := by rw [← hW3]; exact ⟨rfl, rfl, rfl, Nat.le_refl _, fun _ _ => rfl⟩
    rw [hW3]
    have S3 := H2.out.1.below b3
    have T3 := (S3.tb i _ H2.out.2.2.2.1).1
    have z1 := T3.cells.2.1
    have f1 := T3.frozen 1
    rw [Hb.out] at z1 f1
    obtain ⟨_, _, u2, _⟩ := obj35_cells (blk_below H2.out.2.2.1 b3)
    rw [HB.out] at u2
    have S4 := S3.setT (i := i) (t' := { nxT t with pc := B }) (k := 1) (v := .int .i64 (B : Int)) H2.out.2.2.2.1 rfl (T3.setPc B)
    rw [Hb.out] at S4
    have HS := Lib.hid (And.intro S4 ((H2.out.2.1.below b3).set ⟨b, 1, none⟩ (.int .i64 (B : Int)) (.inr (.inl ⟨i, by rw [Hn.out]; exact hin, Hb.out.symm⟩))))
    clear hW3 b3 S3 T3 S4 y0 y1 y2 y3 zA fzA
    go_wp2_with fail
    go_end0
    have hs := HS.out.1
    try simp only [List.set_set] at hs
    refine ⟨rfl, es, ?_, HS.out.2, .inl rfl⟩
    rw [doI6 Hop.out, HA.out, HB.out, Int.toNat_natCast, Int.toNat_natCast, Hv.out, if_neg (fun h => h Hv0.out)]
    exact hs
  · have d0 : (v == 0) = false := by simpa using hv0
    have Hv0 := Lib.hid hv0
    clear hv0
    go_enter Try.func17, Try.ntmps17
    go_wp2_with fail
    go_region_held3 (fun w' => w'.cell? ⟨b, 0, none⟩ = some (.slice (some ad) cl cc) ∧ w'.cell? ⟨b, 1, none⟩ = some (.int .i64 (pc : Int)) ∧ w'.cell? (ad.add (pc * 4)) = some (.int .i64 6) ∧ w'.cell? ⟨(ad.add (pc * 4)).block, (ad.add (pc * 4)).off + 1, none⟩ = some (.int .i64 x.f1) ∧ w'.cell? ⟨(ad.add (pc * 4)).block, (ad.add (pc * 4)).off + 2, none⟩ = some (.int .i64 x.f2) ∧ w'.cell? ⟨(ad.add (pc * 4)).block, (ad.add (pc * 4)).off + 3, none⟩ = some (.int .i64 x.f3)) (go_keep) (fail)
    rw [HW1.out]
    clear HW1 c0 c1 c9 x0 x1 x2 x3 f1
    go_wp2_with (first | rw [HW2.out])
    go_quiet (fail)
    obtain ⟨W3, hW3⟩ : ∃ W3, W2.drewN nq = W3 := ⟨_, rfl⟩
    have b3 : Below W2.heap.size W2 W3 := by rw [← hW3]; exact ⟨rfl, rfl, rfl, Nat.le_refl _, fun _ _ => rfl⟩
    rw [hW3]
    have HS := Lib.hid (And.intro (H2.out.1.below b3) (H2.out.2.1.below b3))
    clear hW3 b3
    go_wp2_with fail
    go_end0
    refine ⟨rfl, es, ?_, HS.out.2, .inl rfl⟩
    rw [doI6 Hop.out, HA.out, Int.toNat_natCast, Hv.out, if_pos Hv0.out]
    exact HS.out.1
set_option maxHeartbeats 8000000 in
theorem step7_w {w0 w : World} {g : Nat} {T : Nat → Nat} {cv : Nat → Value} {tv es : Value} {D : Wd} (h : St w0 w g T cv tv es D) {i : Nat} {t : Tk} (ht : D.ts[i]? = some t) (hwn : t.wants = -1) {x : I} (hix : insT t = x) (hop : x.f0 = 7) (hpc : t.pc < t.code.length) (hlen : t.code.length ≤ 1000) (hi : i ≤ 1000) (hB : 0 ≤ x.f2 ∧ x.f2 ≤ t.code.length) :
    Calls Try.prog 17 #[.pointer (some ⟨g, 0, none⟩), .int .i64 (i : Int)] w (StepEnd w0 w g T cv tv es D.ts.length (doI D i (nxT t) x)) := by
  have hin : i < D.ts.length := (List.getElem?_eq_some_iff.1 ht).1
  obtain ⟨q, cap, htv, hrow⟩ := h.tasks (by omega)
  obtain ⟨Ac, cc, hcv, hcc, hcd⟩ := h.cd i t ht
  obtain ⟨hTB, hTlo⟩ := h.tb i t ht
  obtain ⟨c0, c1, c6, c7, c8, c9⟩ := hTB.cells
  have f1 := hTB.frozen 1
  have g0 := h.wb.cells.1
  have ci := hrow i hin
  obtain ⟨ad, e, X⟩ := atI (keepC hcd (Nat.le_refl _) h.bel) t.pc hpc
  rw [show t.code.getD t.pc zI = x from hix] at X
  obtain ⟨x0, x1, x2, x3⟩ := X
  have HH := Lib.hid (And.intro h (And.intro ht (And.intro hTB hcd)))
  have Htv := Lib.hid htv
  have Hcv := Lib.hid hcv
  have Hix := Lib.hid hix
  have Hop := Lib.hid hop
  have Hwn := Lib.hid hwn
  obtain ⟨n, hn⟩ : ∃ n, D.ts.length = n := ⟨_, rfl⟩
  have Hn := Lib.hid hn
  obtain ⟨cl, hcl⟩ : ∃ cl, t.code.length = cl := ⟨_, rfl⟩
  have Hcl := Lib.hid hcl
  obtain ⟨pc, hpc'⟩ : ∃ pc, t.pc = pc := ⟨_, rfl⟩
  have Hpc := Lib.hid hpc'
  rw [hn] at htv hin
  rw [htv] at g0
  rw [hcv] at c0
  rw [hcl] at c0 hpc hlen
  rw [hpc'] at c1 x0 x1 x2 x3 hpc
  rw [hwn] at c9
  rw [hop] at x0
  subst e
  obtain ⟨b, hb⟩ : ∃ b, T i = b := ⟨_, rfl⟩
  have Hb := Lib.hid hb
  rw [hb] at c0 c1 c6 c7 c8 c9 f1 ci
  have p0 : (0 ≤ (pc : Int)) = True := by simp
  have p1 : ((pc : Int) < cl) = True := eq_true (by omega)
  have p2 : (pc < cl) = True := eq_true hpc
  have q0 : (0 ≤ (i : Int)) = True := by simp
  have q1 : ((i : Int) < n) = True := eq_true (by omega)
  have q2 : (i < n) = True := eq_true hin
  have m1 : IntKind.i64.wrap ((pc : Int) + 1) = (pc : Int) + 1 := by rw [IntWalk.i64_in _ (by omega)]
  obtain ⟨W1, hW1⟩ : ∃ W1, (w.alloc (.cells #[.int .i64 7, .int .i64 x.f1, .int .i64 x.f2, .int .i64 x.f3] 35)).drew = W1 := ⟨_, rfl⟩
  have b1 : Below w.heap.size w W1 := by rw [← hW1]; exact ((Below.refl _ w).alloc (Nat.le_refl _) _).drew
  have k1 : W1.heap[w.heap.size]? = some (obj35 x) := by
    rw [← hW1]
    unfold obj35
    rw [hop]
    exact heap_alloc_new w _
  have d1 := cell_up' c1 b1
  have d9 := cell_up' c9 b1
  have g1 : W1.frozen? ⟨b, 1, none⟩ = false := by rw [← hb]; exact ((h.below b1).tb i t ht).1.frozen 1
  obtain ⟨e0, e1, e2, e3⟩ := obj35_cells k1
  rw [hop] at e0
  obtain ⟨W2, hW2⟩ : ∃ W2, W1.setCell ⟨b, 1, none⟩ (.int .i64 ((pc : Int) + 1)) = W2 := ⟨_, rfl⟩
  have S2 : St w0 W2 g T cv tv es { D with ts := D.ts.set i (nxT t) } := by
    have h1 := (h.below b1).setT (t' := nxT t) (k := 1) (v := .int .i64 ((pc : Int) + 1)) ht rfl (by
      have := ((h.below b1).tb i t ht).1.setPc (pc + 1)
      rw [show ((pc + 1 : Nat) : Int) = (pc : Int) + 1 from by omega] at this
      rw [show nxT t = { t with pc := pc + 1 } from by unfold nxT; rw [hpc']]
      exact this)
    rw [hb, hW2] at h1
    exact h1
  have F2 : Fr (Own g T D.ts.length es) w W2 := by
    rw [← hW2]
    exact (Fr.of_below b1).set _ _ (.inr (.inl ⟨i, by rw [hn]; exact hin, hb.symm⟩))
  have k2 : W2.heap[w.heap.size]? = some (obj35 x) := by
    rw [← hW2]
    rw [heap_setCell_other _ _ _ _ (show w.heap.size ≠ b from by have := hTB.lt; rw [hb] at this; omega)]
    exact k1
  have ht2 : (D.ts.set i (nxT t))[i]? = some (nxT t) := set_get ht
  have T2 := (S2.tb i _ ht2).1
  have hxlt : w.heap.size < W2.heap.size := (Array.getElem?_eq_some_iff.1 k2).1
  have H2 := Lib.hid (And.intro S2 (And.intro F2 (And.intro k2 (And.intro ht2 T2))))
  obtain ⟨y0, y1, y2, y3⟩ := obj35_cells k2
  rw [hop] at y0
  have HW1 := Lib.hid hW1
  have HW2 := Lib.hid hW2
  clear hW1 hW2
  clear h ht hTB hcd hrow htv hcv hix hop hwn hn hcl hpc' hb b1 k1 S2 F2 k2 ht2 T2 hTlo hcc c6 c7 c8
  obtain ⟨B, hBe⟩ : ∃ B : Nat, x.f2 = (B : Int) := ⟨x.f2.toNat, by omega⟩
  have HB := Lib.hid hBe
  rw [hBe] at y2
  clear hBe
  have fz := H2.out.2.2.2.2.frozen 1
  rw [Hb.out] at fz
  have z1 := H2.out.2.2.2.2.cells.2.1
  rw [Hb.out] at z1
  have S3 := (H2.out.1.setT (i := i) (t := nxT t) (t' := { nxT t with pc := B }) (k := 1) (v := .int .i64 (B : Int)) H2.out.2.2.2.1 rfl (H2.out.2.2.2.2.setPc B))
  rw [Hb.out] at S3
  have F3 : Fr (Own g T D.ts.length es) w (W2.setCell ⟨b, 1, none⟩ (.int .i64 (B : Int))) := (H2.out.2.1.set ⟨b, 1, none⟩ _ (.inr (.inl ⟨i, by rw [Hn.out]; exact hin, Hb.out.symm⟩)))
  have k3 : (W2.setCell ⟨b, 1, none⟩ (.int .i64 (B : Int))).heap[w.heap.size]? = some (obj35 x) := by
    show (W2.setCell ⟨b, 1, none⟩ (.int .i64 (B : Int))).heap[w.heap.size]? = _
    rw [heap_setCell_other _ _ _ _ (show w.heap.size ≠ b from by have := HH.out.2.2.1.lt; rw [Hb.out] at this; omega)]
    exact H2.out.2.2.1
  have HS := Lib.hid (And.intro S3 F3)
  clear hB S3 F3 k3
  go_enter Try.func17, Try.ntmps17
  go_wp2_with fail
  go_region_held3 (fun w' => w'.cell? ⟨b, 0, none⟩ = some (.slice (some ad) cl cc) ∧ w'.cell? ⟨b, 1, none⟩ = some (.int .i64 (pc : Int)) ∧ w'.cell? (ad.add (pc * 4)) = some (.int .i64 7) ∧ w'.cell? ⟨(ad.add (pc * 4)).block, (ad.add (pc * 4)).off + 1, none⟩ = some (.int .i64 x.f1) ∧ w'.cell? ⟨(ad.add (pc * 4)).block, (ad.add (pc * 4)).off + 2, none⟩ = some (.int .i64 x.f2) ∧ w'.cell? ⟨(ad.add (pc * 4)).block, (ad.add (pc * 4)).off + 3, none⟩ = some (.int .i64 x.f3)) (go_keep) (fail)
  rw [HW1.out]
  clear HW1 c0 c1 c9 x0 x1 x2 x3 f1
  go_wp2_with (first | rw [HW2.out])
  go_end0
  have hs := HS.out.1
  try simp only [List.set_set] at hs
  refine ⟨rfl, es, ?_, HS.out.2, .inl rfl⟩
  rw [doI7 Hop.out, HB.out, Int.toNat_natCast]
  exact hs
set_option maxHeartbeats 8000000 in
theorem step8_w {w0 w : World} {g : Nat} {T : Nat → Nat} {cv : Nat → Value} {tv es : Value} {D : Wd} (h : St w0 w g T cv tv es D) {i : Nat} {t : Tk} (ht : D.ts[i]? = some t) (hwn : t.wants = -1) {x : I} (hix : insT t = x) (hop : x.f0 = 8) (hpc : t.pc < t.code.length) (hlen : t.code.length ≤ 1000) (hi : i ≤ 1000) (hA : 0 ≤ x.f1 ∧ x.f1 < 16) :
    Calls Try.prog 17 #[.pointer (some ⟨g, 0, none⟩), .int .i64 (i : Int)] w (StepEnd w0 w g T cv tv es D.ts.length (doI D i (nxT t) x)) := by
  have hin : i < D.ts.length := (List.getElem?_eq_some_iff.1 ht).1
  obtain ⟨q, cap, htv, hrow⟩ := h.tasks (by omega)
  obtain ⟨Ac, cc, hcv, hcc, hcd⟩ := h.cd i t ht
  obtain ⟨hTB, hTlo⟩ := h.tb i t ht
  obtain ⟨c0, c1, c6, c7, c8, c9⟩ := hTB.cells
  have f1 := hTB.frozen 1
  have g0 := h.wb.cells.1
  have ci := hrow i hin
  obtain ⟨ad, e, X⟩ := atI (keepC hcd (Nat.le_refl _) h.bel) t.pc hpc
  rw [show t.code.getD t.pc zI = x from hix] at X
  obtain ⟨x0, x1, x2, x3⟩ := X
  have HH := Lib.hid (And.intro h (And.intro ht (And.intro hTB hcd)))
  have Htv := Lib.hid htv
  have Hcv := Lib.hid hcv
  have Hix := Lib.hid hix
  have Hop := Lib.hid hop
  have Hwn := Lib.hid hwn
  obtain ⟨n, hn⟩ : ∃ n, D.ts.length = n := ⟨_, rfl⟩
  have Hn := Lib.hid hn
  obtain ⟨cl, hcl⟩ : ∃ cl, t.code.length = cl := ⟨_, rfl⟩
  have Hcl := Lib.hid hcl
  obtain ⟨pc, hpc'⟩ : ∃ pc, t.pc = pc := ⟨_, rfl⟩
  have Hpc := Lib.hid hpc'
  rw [hn] at htv hin
  rw [htv] at g0
  rw [hcv] at c0
  rw [hcl] at c0 hpc hlen
  rw [hpc'] at c1 x0 x1 x2 x3 hpc
  rw [hwn] at c9
  rw [hop] at x0
  subst e
  obtain ⟨b, hb⟩ : ∃ b, T i = b := ⟨_, rfl⟩
  have Hb := Lib.hid hb
  rw [hb] at c0 c1 c6 c7 c8 c9 f1 ci
  have p0 : (0 ≤ (pc : Int)) = True := by simp
  have p1 : ((pc : Int) < cl) = True := eq_true (by omega)
  have p2 : (pc < cl) = True := eq_true hpc
  have q0 : (0 ≤ (i : Int)) = True := by simp
  have q1 : ((i : Int) < n) = True := eq_true (by omega)
  have q2 : (i < n) = True := eq_true hin
  have m1 : IntKind.i64.wrap ((pc : Int) + 1) = (pc : Int) + 1 := by rw [IntWalk.i64_in _ (by omega)]
  obtain ⟨W1, hW1⟩ : ∃ W1, (w.alloc (.cells #[.int .i64 8, .int .i64 x.f1, .int .i64 x.f2, .int .i64 x.f3] 35)).drew = W1 := ⟨_, rfl⟩
  have b1 : Below w.heap.size w W1 := by rw [← hW1]; exact ((Below.refl _ w).alloc (Nat.le_refl _) _).drew
  have k1 : W1.heap[w.heap.size]? = some (obj35 x) := by
    rw [← hW1]
    unfold obj35
    rw [hop]
    exact heap_alloc_new w _
  have d1 := cell_up' c1 b1
  have d9 := cell_up' c9 b1
  have g1 : W1.frozen? ⟨b, 1, none⟩ = false := by rw [← hb]; exact ((h.below b1).tb i t ht).1.frozen 1
  obtain ⟨e0, e1, e2, e3⟩ := obj35_cells k1
  rw [hop] at e0
  obtain ⟨W2, hW2⟩ : ∃ W2, W1.setCell ⟨b, 1, none⟩ (.int .i64 ((pc : Int) + 1)) = W2 := ⟨_, rfl⟩
  have S2 : St w0 W2 g T cv tv es { D with ts := D.ts.set i (nxT t) } := by
    have h1 := (h.below b1).setT (t' := nxT t) (k := 1) (v := .int .i64 ((pc : Int) + 1)) ht rfl (by
      have := ((h.below b1).tb i t ht).1.setPc (pc + 1)
      rw [show ((pc + 1 : Nat) : Int) = (pc : Int) + 1 from by omega] at this
      rw [show nxT t = { t with pc := pc + 1 } from by unfold nxT; rw [hpc']]
      exact this)
    rw [hb, hW2] at h1
    exact h1
  have F2 : Fr (Own g T D.ts.length es) w W2 := by
    rw [← hW2]
    exact (Fr.of_below b1).set _ _ (.inr (.inl ⟨i, by rw [hn]; exact hin, hb.symm⟩))
  have k2 : W2.heap[w.heap.size]? = some (obj35 x) := by
    rw [← hW2]
    rw [heap_setCell_other _ _ _ _ (show w.heap.size ≠ b from by have := hTB.lt; rw [hb] at this; omega)]
    exact k1
  have ht2 : (D.ts.set i (nxT t))[i]? = some (nxT t) := set_get ht
  have T2 := (S2.tb i _ ht2).1
  have hxlt : w.heap.size < W2.heap.size := (Array.getElem?_eq_some_iff.1 k2).1
  have H2 := Lib.hid (And.intro S2 (And.intro F2 (And.intro k2 (And.intro ht2 T2))))
  obtain ⟨y0, y1, y2, y3⟩ := obj35_cells k2
  rw [hop] at y0
  have HW1 := Lib.hid hW1
  have HW2 := Lib.hid hW2
  clear hW1 hW2
  clear h ht hTB hcd hrow htv hcv hix hop hwn hn hcl hpc' hb b1 k1 S2 F2 k2 ht2 T2 hTlo hcc c6 c7 c8
  obtain ⟨A, hA⟩ : ∃ A : Nat, x.f1 = (A : Int) := ⟨x.f1.toNat, by omega⟩
  have lA : A < 16 := by omega
  have HA := Lib.hid hA
  rw [hA] at y1
  have A0 : (0 ≤ (A : Int)) = True := by simp
  have A1 : ((A : Int) < 16) = True := eq_true (by omega)
  have A2 : (A < 16) = True := eq_true lA
  have zA := H2.out.1.wb.hasc lA
  have fzA := H2.out.1.wb.frozen (17 + A)
  have S3 := (H2.out.1.setG (k := 17 + A) (v := .int .i64 (i : Int)) (c := D.cells) (hs := D.has.set A (i : Int)) (H2.out.1.wb.setHas lA (i : Int))).drew
  have F3 : Fr (Own g T D.ts.length es) w (W2.setCell ⟨g, 17 + A, none⟩ (.int .i64 (i : Int))).drew := (H2.out.2.1.set ⟨g, 17 + A, none⟩ _ (.inl rfl)).drew
  have k3 : (W2.setCell ⟨g, 17 + A, none⟩ (.int .i64 (i : Int))).drew.heap[w.heap.size]? = some (obj35 x) := by
    show (W2.setCell ⟨g, 17 + A, none⟩ (.int .i64 (i : Int))).heap[w.heap.size]? = _
    rw [heap_setCell_other _ _ _ _ (show w.heap.size ≠ g from by have := HH.out.1.wb.lt; omega)]
    exact H2.out.2.2.1
  obtain ⟨_, u1, _, _⟩ := obj35_cells k3
  rw [HA.out] at u1
  have HX := Lib.hid u1
  have HS := Lib.hid (And.intro S3 F3)
  clear hA S3 F3 k3 u1
  go_enter Try.func17, Try.ntmps17
  go_wp2_with fail
  go_region_held3 (fun w' => w'.cell? ⟨b, 0, none⟩ = some (.slice (some ad) cl cc) ∧ w'.cell? ⟨b, 1, none⟩ = some (.int .i64 (pc : Int)) ∧ w'.cell? (ad.add (pc * 4)) = some (.int .i64 8) ∧ w'.cell? ⟨(ad.add (pc * 4)).block, (ad.add (pc * 4)).off + 1, none⟩ = some (.int .i64 x.f1) ∧ w'.cell? ⟨(ad.add (pc * 4)).block, (ad.add (pc * 4)).off + 2, none⟩ = some (.int .i64 x.f2) ∧ w'.cell? ⟨(ad.add (pc * 4)).block, (ad.add (pc * 4)).off + 3, none⟩ = some (.int .i64 x.f3)) (go_keep) (fail)
  rw [HW1.out]
  clear HW1 c0 c1 c9 x0 x1 x2 x3 f1
  go_wp2_with (first | rw [HW2.out])
  go_region_held3 (fun w' => w'.cell? ⟨w.heap.size, 1, none⟩ = some (.int .i64 (A : Int))) (first | exact HX.out | go_keep) (fail)
  go_wp2_with fail
  go_end0
  have hs := HS.out.1
  try simp only [List.set_set] at hs
  refine ⟨rfl, es, ?_, HS.out.2, .inl rfl⟩
  rw [doI8 Hop.out, HA.out, Int.toNat_natCast]
  exact hs
set_option maxHeartbeats 8000000 in
theorem step9_w {w0 w : World} {g : Nat} {T : Nat → Nat} {cv : Nat → Value} {tv es : Value} {D : Wd} (h : St w0 w g T cv tv es D) {i : Nat} {t : Tk} (ht : D.ts[i]? = some t) (hwn : t.wants = -1) {x : I} (hix : insT t = x) (hop : x.f0 = 9) (hpc : t.pc < t.code.length) (hlen : t.code.length ≤ 1000) (hi : i ≤ 1000) (hA : 0 ≤ x.f1 ∧ x.f1 < 16) :
    Calls Try.prog 17 #[.pointer (some ⟨g, 0, none⟩), .int .i64 (i : Int)] w (StepEnd w0 w g T cv tv es D.ts.length (doI D i (nxT t) x)) := by
  have hin : i < D.ts.length := (List.getElem?_eq_some_iff.1 ht).1
  obtain ⟨q, cap, htv, hrow⟩ := h.tasks (by omega)
  obtain ⟨Ac, cc, hcv, hcc, hcd⟩ := h.cd i t ht
  obtain ⟨hTB, hTlo⟩ := h.tb i t ht
  obtain ⟨c0, c1, c6, c7, c8, c9⟩ := hTB.cells
  have f1 := hTB.frozen 1
  have g0 := h.wb.cells.1
  have ci := hrow i hin
  obtain ⟨ad, e, X⟩ := atI (keepC hcd (Nat.le_refl _) h.bel) t.pc hpc
  rw [show t.code.getD t.pc zI = x from hix] at X
  obtain ⟨x0, x1, x2, x3⟩ := X
  have HH := Lib.hid (And.intro h (And.intro ht (And.intro hTB hcd)))
  have Htv := Lib.hid htv
  have Hcv := Lib.hid hcv
  have Hix := Lib.hid hix
  have Hop := Lib.hid hop
  have Hwn := Lib.hid hwn
  obtain ⟨n, hn⟩ : ∃ n, D.ts.length = n := ⟨_, rfl⟩
  have Hn := Lib.hid hn
  obtain ⟨cl, hcl⟩ : ∃ cl, t.code.length = cl := ⟨_, rfl⟩
  have Hcl := Lib.hid hcl
  obtain ⟨pc, hpc'⟩ : ∃ pc, t.pc = pc := ⟨_, rfl⟩
  have Hpc := Lib.hid hpc'
  rw [hn] at htv hin
  rw [htv] at g0
  rw [hcv] at c0
  rw [hcl] at c0 hpc hlen
  rw [hpc'] at c1 x0 x1 x2 x3 hpc
  rw [hwn] at c9
  rw [hop] at x0
  subst e
  obtain ⟨b, hb⟩ : ∃ b, T i = b := ⟨_, rfl⟩
  have Hb := Lib.hid hb
  rw [hb] at c0 c1 c6 c7 c8 c9 f1 ci
  have p0 : (0 ≤ (pc : Int)) = True := by simp
  have p1 : ((pc : Int) < cl) = True := eq_true (by omega)
  have p2 : (pc < cl) = True := eq_true hpc
  have q0 : (0 ≤ (i : Int)) = True := by simp
  have q1 : ((i : Int) < n) = True := eq_true (by omega)
  have q2 : (i < n) = True := eq_true hin
  have m1 : IntKind.i64.wrap ((pc : Int) + 1) = (pc : Int) + 1 := by rw [IntWalk.i64_in _ (by omega)]
  obtain ⟨W1, hW1⟩ : ∃ W1, (w.alloc (.cells #[.int .i64 9, .int .i64 x.f1, .int .i64 x.f2, .int .i64 x.f3] 35)).drew = W1 := ⟨_, rfl⟩
  have b1 : Below w.heap.size w W1 := by rw [← hW1]; exact ((Below.refl _ w).alloc (Nat.le_refl _) _).drew
  have k1 : W1.heap[w.heap.size]? = some (obj35 x) := by
    rw [← hW1]
    unfold obj35
    rw [hop]
    exact heap_alloc_new w _
  have d1 := cell_up' c1 b1
  have d9 := cell_up' c9 b1
  have g1 : W1.frozen? ⟨b, 1, none⟩ = false := by rw [← hb]; exact ((h.below b1).tb i t ht).1.frozen 1
  obtain ⟨e0, e1, e2, e3⟩ := obj35_cells k1
  rw [hop] at e0
  obtain ⟨W2, hW2⟩ : ∃ W2, W1.setCell ⟨b, 1, none⟩ (.int .i64 ((pc : Int) + 1)) = W2 := ⟨_, rfl⟩
  have S2 : St w0 W2 g T cv tv es { D with ts := D.ts.set i (nxT t) } := by
    have h1 := (h.below b1).setT (t' := nxT t) (k := 1) (v := .int .i64 ((pc : Int) + 1)) ht rfl (by
      have := ((h.below b1).tb i t ht).1.setPc (pc + 1)
      rw [show ((pc + 1 : Nat) : Int) = (pc : Int) + 1 from by omega] at this
      rw [show nxT t = { t with pc := pc + 1 } from by unfold nxT; rw [hpc']]
      exact this)
    rw [hb, hW2] at h1
    exact h1
  have F2 : Fr (Own g T D.ts.length es) w W2 := by
    rw [← hW2]
    exact (Fr.of_below b1).set _ _ (.inr (.inl ⟨i, by rw [hn]; exact hin, hb.symm⟩))
  have k2 : W2.heap[w.heap.size]? = some (obj35 x) := by
    rw [← hW2]
    rw [heap_setCell_other _ _ _ _ (show w.heap.size ≠ b from by have := hTB.lt; rw [hb] at this; omega)]
    exact k1
  have ht2 : (D.ts.set i (nxT t))[i]? = some (nxT t) := set_get ht
  have T2 := (S2.tb i _ ht2).1
  have hxlt : w.heap.size < W2.heap.size := (Array.getElem?_eq_some_iff.1 k2).1
  have H2 := Lib.hid (And.intro S2 (And.intro F2 (And.intro k2 (And.intro ht2 T2))))
  obtain ⟨y0, y1, y2, y3⟩ := obj35_cells k2
  rw [hop] at y0
  have HW1 := Lib.hid hW1
  have HW2 := Lib.hid hW2
  clear hW1 hW2
  clear h ht hTB hcd hrow htv hcv hix hop hwn hn hcl hpc' hb b1 k1 S2 F2 k2 ht2 T2 hTlo hcc c6 c7 c8
  obtain ⟨A, hA⟩ : ∃ A : Nat, x.f1 = (A : Int) := ⟨x.f1.toNat, by omega⟩
  have lA : A < 16 := by omega
  have HA := Lib.hid hA
  rw [hA] at y1
  have A0 : (0 ≤ (A : Int)) = True := by simp
  have A1 : ((A : Int) < 16) = True := eq_true (by omega)
  have A2 : (A < 16) = True := eq_true lA
  have hL := leave_w H2.out.1 H2.out.2.2.2.1 A lA hi
  have HL := Lib.hid hL
  clear hA hL
  go_enter Try.func17, Try.ntmps17
  go_wp2_with fail
  go_region_held3 (fun w' => w'.cell? ⟨b, 0, none⟩ = some (.slice (some ad) cl cc) ∧ w'.cell? ⟨b, 1, none⟩ = some (.int .i64 (pc : Int)) ∧ w'.cell? (ad.add (pc * 4)) = some (.int .i64 9) ∧ w'.cell? ⟨(ad.add (pc * 4)).block, (ad.add (pc * 4)).off + 1, none⟩ = some (.int .i64 x.f1) ∧ w'.cell? ⟨(ad.add (pc * 4)).block, (ad.add (pc * 4)).off + 2, none⟩ = some (.int .i64 x.f2) ∧ w'.cell? ⟨(ad.add (pc * 4)).block, (ad.add (pc * 4)).off + 3, none⟩ = some (.int .i64 x.f3)) (go_keep) (fail)
  rw [HW1.out]
  clear HW1 c0 c1 c9 x0 x1 x2 x3 f1
  go_wp2_with (first | rw [HW2.out])
  refine HL.out.mono ?_
  rintro e w3 ⟨rfl, hs3, hf3⟩
  have HS := Lib.hid (And.intro hs3 (H2.out.2.1.trans hf3 (fun b' hb' h' => by
    rcases h' with h' | ⟨j, hj, rfl⟩ | h'
    · exact .inl h'
    · exact .inr (.inl ⟨j, by simpa using hj, rfl⟩)
    · exact .inr (.inr h'))))
  clear hs3 hf3
  go_wp2_with fail
  go_end0
  refine ⟨rfl, es, ?_, HS.out.2, .inl rfl⟩
  rw [doI9 Hop.out, HA.out, Int.toNat_natCast]
  have hs := HS.out.1
  rw [leaveW_set] at hs
  exact hs
set_option maxHeartbeats 8000000 in
theorem step10_w {w0 w : World} {g : Nat} {T : Nat → Nat} {cv : Nat → Value} {tv es : Value} {D : Wd} (h : St w0 w g T cv tv es D) {i : Nat} {t : Tk} (ht : D.ts[i]? = some t) (hwn : t.wants = -1) {x : I} (hix : insT t = x) (hop : x.f0 = 10) (hpc : t.pc < t.code.length) (hlen : t.code.length ≤ 1000) (hi : i ≤ 1000) (hA : 0 ≤ x.f1 ∧ x.f1 < 16) (hB : 0 ≤ x.f2 ∧ x.f2 < 16) (hbad : t.bad = false) :
    Calls Try.prog 17 #[.pointer (some ⟨g, 0, none⟩), .int .i64 (i : Int)] w (StepEnd w0 w g T cv tv es D.ts.length (doI D i (nxT t) x)) := by
  have hin : i < D.ts.length := (List.getElem?_eq_some_iff.1 ht).1
  obtain ⟨q, cap, htv, hrow⟩ := h.tasks (by omega)
  obtain ⟨Ac, cc, hcv, hcc, hcd⟩ := h.cd i t ht
  obtain ⟨hTB, hTlo⟩ := h.tb i t ht
  obtain ⟨c0, c1, c6, c7, c8, c9⟩ := hTB.cells
  have f1 := hTB.frozen 1
  have g0 := h.wb.cells.1
  have ci := hrow i hin
  obtain ⟨ad, e, X⟩ := atI (keepC hcd (Nat.le_refl _) h.bel) t.pc hpc
  rw [show t.code.getD t.pc zI = x from hix] at X
  obtain ⟨x0, x1, x2, x3⟩ := X
  have HH := Lib.hid (And.intro h (And.intro ht (And.intro hTB hcd)))
  have Htv := Lib.hid htv
  have Hcv := Lib.hid hcv
  have Hix := Lib.hid hix
  have Hop := Lib.hid hop
  have Hwn := Lib.hid hwn
  obtain ⟨n, hn⟩ : ∃ n, D.ts.length = n := ⟨_, rfl⟩
  have Hn := Lib.hid hn
  obtain ⟨cl, hcl⟩ : ∃ cl, t.code.length = cl := ⟨_, rfl⟩
  have Hcl := Lib.hid hcl
  obtain ⟨pc, hpc'⟩ : ∃ pc, t.pc = pc := ⟨_, rfl⟩
  have Hpc := Lib.hid hpc'
  rw [hn] at htv hin
  rw [htv] at g0
  rw [hcv] at c0
  rw [hcl] at c0 hpc hlen
  rw [hpc'] at c1 x0 x1 x2 x3 hpc
  rw [hwn] at c9
  rw [hop] at x0
  subst e
  obtain ⟨b, hb⟩ : ∃ b, T i = b := ⟨_, rfl⟩
  have Hb := Lib.hid hb
  rw [hb] at c0 c1 c6 c7 c8 c9 f1 ci
  have p0 : (0 ≤ (pc : Int)) = True := by simp
  have p1 : ((pc : Int) < cl) = True := eq_true (by omega)
  have p2 : (pc < cl) = True := eq_true hpc
  have q0 : (0 ≤ (i : Int)) = True := by simp
  have q1 : ((i : Int) < n) = True := eq_true (by omega)
  have q2 : (i < n) = True := eq_true hin
  have m1 : IntKind.i64.wrap ((pc : Int) + 1) = (pc : Int) + 1 := by rw [IntWalk.i64_in _ (by omega)]
  obtain ⟨W1, hW1⟩ : ∃ W1, (w.alloc (.cells #[.int .i64 10, .int .i64 x.f1, .int .i64 x.f2, .int .i64 x.f3] 35)).drew = W1 := ⟨_, rfl⟩
  have b1 : Below w.heap.size w W1 := by rw [← hW1]; exact ((Below.refl _ w).alloc (Nat.le_refl _) _).drew
  have k1 : W1.heap[w.heap.size]? = some (obj35 x) := by
    rw [← hW1]
    unfold obj35
    rw [hop]
    exact heap_alloc_new w _
  have d1 := cell_up' c1 b1
  have d9 := cell_up' c9 b1
  have g1 : W1.frozen? ⟨b, 1, none⟩ = false := by rw [← hb]; exact ((h.below b1).tb i t ht).1.frozen 1
  obtain ⟨e0, e1, e2, e3⟩ := obj35_cells k1
  rw [hop] at e0
  obtain ⟨W2, hW2⟩ : ∃ W2, W1.setCell ⟨b, 1, none⟩ (.int .i64 ((pc : Int) + 1)) = W2 := ⟨_, rfl⟩
  have S2 : St w0 W2 g T cv tv es { D with ts := D.ts.set i (nxT t) } := by
    have h1 := (h.below b1).setT (t' := nxT t) (k := 1) (v := .int .i64 ((pc : Int) + 1)) ht rfl (by
      have := ((h.below b1).tb i t ht).1.setPc (pc + 1)
      rw [show ((pc + 1 : Nat) : Int) = (pc : Int) + 1 from by omega] at this
      rw [show nxT t = { t with pc := pc + 1 } from by unfold nxT; rw [hpc']]
      exact this)
    rw [hb, hW2] at h1
    exact h1
  have F2 : Fr (Own g T D.ts.length es) w W2 := by
    rw [← hW2]
    exact (Fr.of_below b1).set _ _ (.inr (.inl ⟨i, by rw [hn]; exact hin, hb.symm⟩))
  have k2 : W2.heap[w.heap.size]? = some (obj35 x) := by
    rw [← hW2]
    rw [heap_setCell_other _ _ _ _ (show w.heap.size ≠ b from by have := hTB.lt; rw [hb] at this; omega)]
    exact k1
  have ht2 : (D.ts.set i (nxT t))[i]? = some (nxT t) := set_get ht
  have T2 := (S2.tb i _ ht2).1
  have hxlt : w.heap.size < W2.heap.size := (Array.getElem?_eq_some_iff.1 k2).1
  have H2 := Lib.hid (And.intro S2 (And.intro F2 (And.intro k2 (And.intro ht2 T2))))
  obtain ⟨y0, y1, y2, y3⟩ := obj35_cells k2
  rw [hop] at y0
  have HW1 := Lib.hid hW1
  have HW2 := Lib.hid hW2
  clear hW1 hW2
  clear h ht hTB hcd hrow htv hcv hix hop hwn hn hcl hpc' hb b1 k1 S2 F2 k2 ht2 T2 hTlo hcc c6 c7 c8
  obtain ⟨A, hA⟩ : ∃ A : Nat, x.f1 = (A : Int) := ⟨x.f1.toNat, by omega⟩
  have lA : A < 16 := by omega
  have HA := Lib.hid hA
  rw [hA] at y1
  have A0 : (0 ≤ (A : Int)) = True := by simp
  have A1 : ((A : Int) < 16) = True := eq_true (by omega)
  have A2 : (A < 16) = True := eq_true lA
  obtain ⟨B, hB⟩ : ∃ B : Nat, x.f2 = (B : Int) := ⟨x.f2.toNat, by omega⟩
  have lB : B < 16 := by omega
  have HB := Lib.hid hB
  rw [hB] at y2
  have B0 : (0 ≤ (B : Int)) = True := by simp
  have B1 : ((B : Int) < 16) = True := eq_true (by omega)
  have B2 : (B < 16) = True := eq_true lB
  have hL := leave_w H2.out.1 H2.out.2.2.2.1 B lB hi
  have HL := Lib.hid hL
  have Hbad := Lib.hid hbad
  have hXo : ¬ Own g T D.ts.length es (w.heap.size) := fun ho => by have := HH.out.1.lt ho; omega
  have HXo := Lib.hid hXo
  clear hA hB hL hXo hbad
  go_enter Try.func17, Try.ntmps17
  go_wp2_with fail
  go_region_held3 (fun w' => w'.cell? ⟨b, 0, none⟩ = some (.slice (some ad) cl cc) ∧ w'.cell? ⟨b, 1, none⟩ = some (.int .i64 (pc : Int)) ∧ w'.cell? (ad.add (pc * 4)) = some (.int .i64 10) ∧ w'.cell? ⟨(ad.add (pc * 4)).block, (ad.add (pc * 4)).off + 1, none⟩ = some (.int .i64 x.f1) ∧ w'.cell? ⟨(ad.add (pc * 4)).block, (ad.add (pc * 4)).off + 2, none⟩ = some (.int .i64 x.f2) ∧ w'.cell? ⟨(ad.add (pc * 4)).block, (ad.add (pc * 4)).off + 3, none⟩ = some (.int .i64 x.f3)) (go_keep) (fail)
  rw [HW1.out]
  clear HW1 c0 c1 c9 x0 x1 x2 x3 f1
  go_wp2_with (first | rw [HW2.out])
  refine HL.out.mono ?_
  rintro e w3 ⟨rfl, hs3, hf3⟩
  have k3 : w3.heap[w.heap.size]? = some (obj35 x) := (hf3.block _ (Array.getElem?_eq_some_iff.1 H2.out.2.2.1).1 (fun ho => HXo.out (by
    rcases ho with h' | ⟨j, hj, h'⟩ | h'
    · exact .inl h'
    · exact .inr (.inl ⟨j, by simpa using hj, h'⟩)
    · exact .inr (.inr h')))).trans H2.out.2.2.1
  have F3 : Fr (Own g T D.ts.length es) w w3 := H2.out.2.1.trans hf3 (fun b' hb' h' => by
    rcases h' with h' | ⟨j, hj, rfl⟩ | h'
    · exact .inl h'
    · exact .inr (.inl ⟨j, by simpa using hj, rfl⟩)
    · exact .inr (.inr h'))
  by_cases hv : D.has.getD B 0 ≠ (i : Int)
  · have Hv := Lib.hid hv
    have hl : leaveW { D with ts := D.ts.set i (nxT t) } i (nxT t) B = { D with ts := D.ts.set i { nxT t with bad := true } } := by
      rw [leaveW_set]
      unfold leaveW
      rw [if_pos hv]
    have Hl := Lib.hid hl
    rw [hl] at hs3
    have T3 := (hs3.tb i { nxT t with bad := true } (set_get HH.out.2.1)).1
    have z7 := T3.cells.2.2.2.1
    rw [Hb.out] at z7
    have HS := Lib.hid (And.intro hs3 F3)
    clear hv hl hs3 hf3 k3 F3 T3 y0 y1 y2 y3
    go_wp2_with fail
    go_end0
    refine ⟨rfl, es, ?_, HS.out.2, .inl rfl⟩
    rw [doI10 Hop.out, HB.out, Int.toNat_natCast, if_pos Hv.out, ← leaveW_set (t0 := nxT t), Hl.out]
    exact HS.out.1
  · replace hv : D.has.getD B 0 = (i : Int) := by simpa using hv
    have Hv := Lib.hid hv
    have hl : leaveW { D with ts := D.ts.set i (nxT t) } i (nxT t) B = { D with ts := D.ts.set i (nxT t), has := D.has.set B (-1) } := by
      rw [leaveW_set]
      unfold leaveW
      rw [if_neg (fun h => h hv)]
    rw [hl] at hs3
    have ht3 : (D.ts.set i (nxT t))[i]? = some (nxT t) := set_get HH.out.2.1
    have T3 := (hs3.tb i _ ht3).1
    have z7 := T3.cells.2.2.2.1
    have z8 := T3.cells.2.2.2.2.1
    have z9 := T3.cells.2.2.2.2.2
    have f8 := T3.frozen 8
    have f9 := T3.frozen 9
    rw [Hb.out] at z7 z8 z9 f8 f9
    rw [show (nxT t).bad = false from Hbad.out] at z7
    obtain ⟨_, u1, u2, _⟩ := obj35_cells k3
    rw [HA.out] at u1
    rw [HB.out] at u2
    have S4 := hs3.setT (i := i) (t' := { nxT t with cond := (A : Int) }) (k := 8) (v := .int .i64 (A : Int)) ht3 rfl (T3.setCond (A : Int))
    have ht4 : ((D.ts.set i (nxT t)).set i { nxT t with cond := (A : Int) })[i]? = some { nxT t with cond := (A : Int) } := set_get ht3
    have T4 := (S4.tb i _ ht4).1
    have S5 := S4.setT (i := i) (t' := { nxT t with cond := (A : Int), wants := (B : Int) }) (k := 9) (v := .int .i64 (B : Int)) ht4 rfl (T4.setWants (B : Int))
    have S5 := S5.drew
    have ht5 : (((D.ts.set i (nxT t)).set i { nxT t with cond := (A : Int) }).set i { nxT t with cond := (A : Int), wants := (B : Int) })[i]? = some { nxT t with cond := (A : Int), wants := (B : Int) } := set_get ht4
    have T5 := (S5.tb i _ ht5).1
    have S6 := S5.setT (i := i) (t' := { nxT t with cond := (A : Int), wants := (B : Int), pc := pc }) (k := 1) (v := .int .i64 (pc : Int)) ht5 rfl (T5.setPc pc)
    have z1 := T5.cells.2.1
    have f1 := T5.frozen 1
    rw [show ((({ nxT t with cond := (A : Int), wants := (B : Int) } : Tk).pc : Nat) : Int) = (pc : Int) + 1 from by show ((t.pc + 1 : Nat) : Int) = _; rw [Hpc.out]; omega] at z1
    rw [Hb.out] at S6 z1 f1
    obtain ⟨W5, hW5⟩ : ∃ W5, ((w3.setCell ⟨b, 8, none⟩ (.int .i64 (A : Int))).setCell ⟨b, 9, none⟩ (.int .i64 (B : Int))).drew = W5 := ⟨_, rfl⟩
    have hown : Own g T D.ts.length es b := .inr (.inl ⟨i, by rw [Hn.out]; exact hin, Hb.out.symm⟩)
    have F5 : Fr (Own g T D.ts.length es) w W5 := by rw [← hW5]; exact ((F3.set ⟨b, 8, none⟩ _ hown).set ⟨b, 9, none⟩ _ hown).drew
    rw [hW5] at S6 z1 f1
    have HS := Lib.hid (And.intro S6 (F5.set ⟨b, 1, none⟩ (.int .i64 (pc : Int)) hown))
    have HW5 := Lib.hid hW5
    have HY := Lib.hid (And.intro z1 f1)
    have m2 : IntKind.i64.wrap ((pc : Int) + 1 - 1) = (pc : Int) := by rw [IntWalk.i64_in _ (by omega)]; omega
    have m3 : IntKind.i64.wrap (pc : Int) = (pc : Int) := by rw [IntWalk.i64_in _ (by omega)]
    clear hv hl hs3 hf3 k3 F3 T3 S4 ht4 T4 S5 ht5 T5 S6 z1 f1 hW5 F5 hown y0 y1 y2 y3 ht3
    go_wp2_with fail
    go_region
    all_goals (
      rw [HW5.out]
      clear HW5
      obtain ⟨z1, f1⟩ := HY.out
      go_wp2_with fail
      go_end0
      have hs := HS.out.1
      try simp only [List.set_set] at hs
      refine ⟨rfl, es, ?_, HS.out.2, .inl rfl⟩
      rw [doI10 Hop.out, HA.out, HB.out, Int.toNat_natCast, if_neg (fun h => h Hv.out)]
      unfold leaveW
      rw [if_neg (fun h => h Hv.out), show (nxT t).pc - 1 = pc from by show t.pc + 1 - 1 = pc; rw [Hpc.out]; omega]
      exact hs)
end Go.Proofs.Ytkcjghdopmigoaa.SC
