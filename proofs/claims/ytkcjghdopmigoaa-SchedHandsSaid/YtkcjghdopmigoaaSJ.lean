/- sched: a task does an instruction: the walks. -/
import Derived.Test.YtkcjghdopmigoaaSI
namespace Go.Proofs.Ytkcjghdopmigoaa.SC
open Go.RowKit Go.Proofs.YtkcjghdopmigoaaW.PrintWords
set_option linter.unusedVariables false
set_option linter.unusedSimpArgs false
set_option maxRecDepth 100000
set_option maxHeartbeats 8000000 in
theorem step1_w {w0 w : World} {g : Nat} {T : Nat → Nat} {cv : Nat → Value} {tv es : Value} {D : Wd} (h : St w0 w g T cv tv es D) {i : Nat} {t : Tk} (ht : D.ts[i]? = some t) (hwn : t.wants = -1) {x : I} (hix : insT t = x) (hop : x.f0 = 1) (hpc : t.pc < t.code.length) (hlen : t.code.length ≤ 1000) (hi : i ≤ 1000) (hA : 0 ≤ x.f1 ∧ x.f1 < 4) (hB : 0 ≤ x.f2 ∧ x.f2 < 16) :
    Calls Try.prog 17 #[.pointer (some ⟨g, 0, none⟩), .int .i64 (i : Int)] w (StepEnd w0 w g T cv tv es D.ts.length (doI D i (nxT t) x)) := by
  have hin : i < D.ts.length := (List.getElem?_eq_some_iff.1 ht).1
  obtain ⟨q, cap, htv, hrow⟩ := h.tasks (by omega)
  obtain ⟨Ac, cc, hcv, hcc, hcd⟩ := h.cd i t ht
  obtain ⟨hTB, hTlo⟩ := h.tb i t ht
  obtain ⟨c0, c1, c6, c7, c8, c9⟩ := hTB.cells
  have f1 := hTB.frozen 1
  have g0 := h.wb.cells.1
  have ci := hrow i hin
  obtain ⟨ad, e, X⟩ := atI (keepC hcd (Nat.le_refl _) h.bel) t.pc hpc
  rw [show t.code.getD t.pc zI = x from hix] at X
  obtain ⟨x0, x1, x2, x3⟩ := X
  have HH := Lib.hid (And.intro h (And.intro ht (And.intro hTB hcd)))
  have Htv := Lib.hid htv
  have Hcv := Lib.hid hcv
  have Hix := Lib.hid hix
  have Hop := Lib.hid hop
  have Hwn := Lib.hid hwn
  obtain ⟨n, hn⟩ : ∃ n, D.ts.length = n := ⟨_, rfl⟩
  have Hn := Lib.hid hn
  obtain ⟨cl, hcl⟩ : ∃ cl, t.code.length = cl := ⟨_, rfl⟩
  have Hcl := Lib.hid hcl
  obtain ⟨pc, hpc'⟩ : ∃ pc, t.pc = pc := ⟨_, rfl⟩
  have Hpc := Lib.hid hpc'
  rw [hn] at htv hin
  rw [htv] at g0
  rw [hcv] at c0
  rw [hcl] at c0 hpc hlen
  rw [hpc'] at c1 x0 x1 x2 x3 hpc
  rw [hwn] at c9
  rw [hop] at x0
  subst e
  obtain ⟨b, hb⟩ : ∃ b, T i = b := ⟨_, rfl⟩
  have Hb := Lib.hid hb
  rw [hb] at c0 c1 c6 c7 c8 c9 f1 ci
  have p0 : (0 ≤ (pc : Int)) = True := by simp
  have p1 : ((pc : Int) < cl) = True := eq_true (by omega)
  have p2 : (pc < cl) = True := eq_true hpc
  have q0 : (0 ≤ (i : Int)) = True := by simp
  have q1 : ((i : Int) < n) = True := eq_true (by omega)
  have q2 : (i < n) = True := eq_true hin
  have m1 : IntKind.i64.wrap ((pc : Int) + 1) = (pc : Int) + 1 := by rw [IntWalk.i64_in _ (by omega)]
  obtain ⟨W1, hW1⟩ : ∃ W1, (w.alloc (.cells #[.int .i64 1, .int .i64 x.f1, .int .i64 x.f2, .int .i64 x.f3] 35)).drew = W1 := ⟨_, rfl⟩
  have b1 : Below w.heap.size w W1 := by rw [← hW1]; exact ((Below.refl _ w).alloc (Nat.le_refl _) _).drew
  have k1 : W1.heap[w.heap.size]? = some (obj35 x) := by
    rw [← hW1]
    unfold obj35
    rw [hop]
    exact heap_alloc_new w _
  have d1 := cell_up' c1 b1
  have d9 := cell_up' c9 b1
  have g1 : W1.frozen? ⟨b, 1, none⟩ = false := by rw [← hb]; exact ((h.below b1).tb i t ht).1.frozen 1
  obtain ⟨e0, e1, e2, e3⟩ := obj35_cells k1
  rw [hop] at e0
  obtain ⟨W2, hW2⟩ : ∃ W2, W1.setCell ⟨b, 1, none⟩ (.int .i64 ((pc : Int) + 1)) = W2 := ⟨_, rfl⟩
  have S2 : St w0 W2 g T cv tv es { D with ts := D.ts.set i (nxT t) } := by
    have h1 := (h.below b1).setT (t' := nxT t) (k := 1) (v := .int .i64 ((pc : Int) + 1)) ht rfl (by
      have := ((h.below b1).tb i t ht).1.setPc (pc + 1)
      rw [show ((pc + 1 : Nat) : Int) = (pc : Int) + 1 from by omega] at this
      rw [show nxT t = { t with pc := pc + 1 } from by unfold nxT; rw [hpc']]
      exact this)
    rw [hb, hW2] at h1
    exact h1
  have F2 : Fr (Own g T D.ts.length es) w W2 := by
    rw [← hW2]
    exact (Fr.of_below b1).set _ _ (.inr (.inl ⟨i, by rw [hn]; exact hin, hb.symm⟩))
  have k2 : W2.heap[w.heap.size]? = some (obj35 x) := by
    rw [← hW2]
    rw [heap_setCell_other _ _ _ _ (show w.heap.size ≠ b from by have := hTB.lt; rw [hb] at this; omega)]
    exact k1
  have ht2 : (D.ts.set i (nxT t))[i]? = some (nxT t) := set_get ht
  have T2 := (S2.tb i _ ht2).1
  have hxlt : w.heap.size < W2.heap.size := (Array.getElem?_eq_some_iff.1 k2).1
  have H2 := Lib.hid (And.intro S2 (And.intro F2 (And.intro k2 (And.intro ht2 T2))))
  obtain ⟨y0, y1, y2, y3⟩ := obj35_cells k2
  rw [hop] at y0
  have HW1 := Lib.hid hW1
  have HW2 := Lib.hid hW2
  clear hW1 hW2
  clear h ht hTB hcd hrow htv hcv hix hop hwn hn hcl hpc' hb b1 k1 S2 F2 k2 ht2 T2 hTlo hcc c6 c7 c8
  obtain ⟨A, hA⟩ : ∃ A : Nat, x.f1 = (A : Int) := ⟨x.f1.toNat, by omega⟩
  have lA : A < 4 := by omega
  have HA := Lib.hid hA
  rw [hA] at y1
  have A0 : (0 ≤ (A : Int)) = True := by simp
  have A1 : ((A : Int) < 4) = True := eq_true (by omega)
  have A2 : (A < 4) = True := eq_true lA
  obtain ⟨B, hB⟩ : ∃ B : Nat, x.f2 = (B : Int) := ⟨x.f2.toNat, by omega⟩
  have lB : B < 16 := by omega
  have HB := Lib.hid hB
  rw [hB] at y2
  have B0 : (0 ≤ (B : Int)) = True := by simp
  have B1 : ((B : Int) < 16) = True := eq_true (by omega)
  have B2 : (B < 16) = True := eq_true lB
  have zv := H2.out.1.wb.cel lB
  have fzv := H2.out.1.wb.frozen (1 + B)
  obtain ⟨v, hv⟩ : ∃ v, D.cells.getD B 0 = v := ⟨_, rfl⟩
  have Hv := Lib.hid hv
  rw [hv] at zv
  clear hv
  have zA := H2.out.2.2.2.2.reg lA
  rw [Hb.out] at zA
  have fzA := H2.out.2.2.2.2.frozen (2 + A)
  rw [Hb.out] at fzA
  have S3 := (H2.out.1.setT (i := i) (t := nxT t) (t' := { nxT t with r := (nxT t).r.set A v }) (k := 2 + A) (v := .int .i64 v) H2.out.2.2.2.1 rfl (H2.out.2.2.2.2.setReg lA v)).drew
  rw [Hb.out] at S3
  have F3 : Fr (Own g T D.ts.length es) w (W2.setCell ⟨b, 2 + A, none⟩ (.int .i64 v)).drew := (H2.out.2.1.set ⟨b, 2 + A, none⟩ _ (.inr (.inl ⟨i, by rw [Hn.out]; exact hin, Hb.out.symm⟩))).drew
  have k3 : (W2.setCell ⟨b, 2 + A, none⟩ (.int .i64 v)).drew.heap[w.heap.size]? = some (obj35 x) := by
    show (W2.setCell ⟨b, 2 + A, none⟩ (.int .i64 v)).heap[w.heap.size]? = _
    rw [heap_setCell_other _ _ _ _ (show w.heap.size ≠ b from by have := HH.out.2.2.1.lt; rw [Hb.out] at this; omega)]
    exact H2.out.2.2.1
  have z3 := S3.wb.cel lB
  rw [Hv.out] at z3
  obtain ⟨_, u1, u2, _⟩ := obj35_cells k3
  rw [HA.out] at u1
  rw [HB.out] at u2
  have HX := Lib.hid (And.intro u1 (And.intro u2 z3))
  have HS := Lib.hid (And.intro S3 F3)
  clear hA hB S3 F3 k3 u1 u2 z3
  go_enter Try.func17, Try.ntmps17
  go_wp2_with fail
  go_region_held3 (fun w' => w'.cell? ⟨b, 0, none⟩ = some (.slice (some ad) cl cc) ∧ w'.cell? ⟨b, 1, none⟩ = some (.int .i64 (pc : Int)) ∧ w'.cell? (ad.add (pc * 4)) = some (.int .i64 1) ∧ w'.cell? ⟨(ad.add (pc * 4)).block, (ad.add (pc * 4)).off + 1, none⟩ = some (.int .i64 x.f1) ∧ w'.cell? ⟨(ad.add (pc * 4)).block, (ad.add (pc * 4)).off + 2, none⟩ = some (.int .i64 x.f2) ∧ w'.cell? ⟨(ad.add (pc * 4)).block, (ad.add (pc * 4)).off + 3, none⟩ = some (.int .i64 x.f3)) (go_keep) (fail)
  rw [HW1.out]
  clear HW1 c0 c1 c9 x0 x1 x2 x3 f1
  go_wp2_with (first | rw [HW2.out])
  go_region_held3 (fun w' => w'.cell? ⟨w.heap.size, 1, none⟩ = some (.int .i64 (A : Int)) ∧ w'.cell? ⟨w.heap.size, 2, none⟩ = some (.int .i64 (B : Int)) ∧ w'.cell? ⟨g, 1 + B, none⟩ = some (.int .i64 v)) (first | exact HX.out | go_keep) (fail)
  go_wp2_with fail
  go_end0
  have hs := HS.out.1
  try simp only [List.set_set] at hs
  refine ⟨rfl, es, ?_, HS.out.2, .inl rfl⟩
  rw [doI1 Hop.out, HA.out, HB.out, Int.toNat_natCast, Int.toNat_natCast, Hv.out]
  exact hs
set_option maxHeartbeats 8000000 in
theorem step2_w {w0 w : World} {g : Nat} {T : Nat → Nat} {cv : Nat → Value} {tv es : Value} {D : Wd} (h : St w0 w g T cv tv es D) {i : Nat} {t : Tk} (ht : D.ts[i]? = some t) (hwn : t.wants = -1) {x : I} (hix : insT t = x) (hop : x.f0 = 2) (hpc : t.pc < t.code.length) (hlen : t.code.length ≤ 1000) (hi : i ≤ 1000) (hA : 0 ≤ x.f1 ∧ x.f1 < 16) (hB : 0 ≤ x.f2 ∧ x.f2 < 4) :
    Calls Try.prog 17 #[.pointer (some ⟨g, 0, none⟩), .int .i64 (i : Int)] w (StepEnd w0 w g T cv tv es D.ts.length (doI D i (nxT t) x)) := by
  have hin : i < D.ts.length := (List.getElem?_eq_some_iff.1 ht).1
  obtain ⟨q, cap, htv, hrow⟩ := h.tasks (by omega)
  obtain ⟨Ac, cc, hcv, hcc, hcd⟩ := h.cd i t ht
  obtain ⟨hTB, hTlo⟩ := h.tb i t ht
  obtain ⟨c0, c1, c6, c7, c8, c9⟩ := hTB.cells
  have f1 := hTB.frozen 1
  have g0 := h.wb.cells.1
  have ci := hrow i hin
  obtain ⟨ad, e, X⟩ := atI (keepC hcd (Nat.le_refl _) h.bel) t.pc hpc
  rw [show t.code.getD t.pc zI = x from hix] at X
  obtain ⟨x0, x1, x2, x3⟩ := X
  have HH := Lib.hid (And.intro h (And.intro ht (And.intro hTB hcd)))
  have Htv := Lib.hid htv
  have Hcv := Lib.hid hcv
  have Hix := Lib.hid hix
  have Hop := Lib.hid hop
  have Hwn := Lib.hid hwn
  obtain ⟨n, hn⟩ : ∃ n, D.ts.length = n := ⟨_, rfl⟩
  have Hn := Lib.hid hn
  obtain ⟨cl, hcl⟩ : ∃ cl, t.code.length = cl := ⟨_, rfl⟩
  have Hcl := Lib.hid hcl
  obtain ⟨pc, hpc'⟩ : ∃ pc, t.pc = pc := ⟨_, rfl⟩
  have Hpc := Lib.hid hpc'
  rw [hn] at htv hin
  rw [htv] at g0
  rw [hcv] at c0
  rw [hcl] at c0 hpc hlen
  rw [hpc'] at c1 x0 x1 x2 x3 hpc
  rw [hwn] at c9
  rw [hop] at x0
  subst e
  obtain ⟨b, hb⟩ : ∃ b, T i = b := ⟨_, rfl⟩
  have Hb := Lib.hid hb
  rw [hb] at c0 c1 c6 c7 c8 c9 f1 ci
  have p0 : (0 ≤ (pc : Int)) = True := by simp
  have p1 : ((pc : Int) < cl) = True := eq_true (by omega)
  have p2 : (pc < cl) = True := eq_true hpc
  have q0 : (0 ≤ (i : Int)) = True := by simp
  have q1 : ((i : Int) < n) = True := eq_true (by omega)
  have q2 : (i < n) = True := eq_true hin
  have m1 : IntKind.i64.wrap ((pc : Int) + 1) = (pc : Int) + 1 := by rw [IntWalk.i64_in _ (by omega)]
  obtain ⟨W1, hW1⟩ : ∃ W1, (w.alloc (.cells #[.int .i64 2, .int .i64 x.f1, .int .i64 x.f2, .int .i64 x.f3] 35)).drew = W1 := ⟨_, rfl⟩
  have b1 : Below w.heap.size w W1 := by rw [← hW1]; exact ((Below.refl _ w).alloc (Nat.le_refl _) _).drew
  have k1 : W1.heap[w.heap.size]? = some (obj35 x) := by
    rw [← hW1]
    unfold obj35
    rw [hop]
    exact heap_alloc_new w _
  have d1 := cell_up' c1 b1
  have d9 := cell_up' c9 b1
  have g1 : W1.frozen? ⟨b, 1, none⟩ = false := by rw [← hb]; exact ((h.below b1).tb i t ht).1.frozen 1
  obtain ⟨e0, e1, e2, e3⟩ := obj35_cells k1
  rw [hop] at e0
  obtain ⟨W2, hW2⟩ : ∃ W2, W1.setCell ⟨b, 1, none⟩ (.int .i64 ((pc : Int) + 1)) = W2 := ⟨_, rfl⟩
  have S2 : St w0 W2 g T cv tv es { D with ts := D.ts.set i (nxT t) } := by
    have h1 := (h.below b1).setT (t' := nxT t) (k := 1) (v := .int .i64 ((pc : Int) + 1)) ht rfl (by
      have := ((h.below b1).tb i t ht).1.setPc (pc + 1)
      rw [show ((pc + 1 : Nat) : Int) = (pc : Int) + 1 from by omega] at this
      rw [show nxT t = { t with pc := pc + 1 } from by unfold nxT; rw [hpc']]
      exact this)
    rw [hb, hW2] at h1
    exact h1
  have F2 : Fr (Own g T D.ts.length es) w W2 := by
    rw [← hW2]
    exact (Fr.of_below b1).set _ _ (.inr (.inl ⟨i, by rw [hn]; exact hin, hb.symm⟩))
  have k2 : W2.heap[w.heap.size]? = some (obj35 x) := by
    rw [← hW2]
    rw [heap_setCell_other _ _ _ _ (show w.heap.size ≠ b from by have := hTB.lt; rw [hb] at this; omega)]
    exact k1
  have ht2 : (D.ts.set i (nxT t))[i]? = some (nxT t) := set_get ht
  have T2 := (S2.tb i _ ht2).1
  have hxlt : w.heap.size < W2.heap.size := (Array.getElem?_eq_some_iff.1 k2).1
  have H2 := Lib.hid (And.intro S2 (And.intro F2 (And.intro k2 (And.intro ht2 T2))))
  obtain ⟨y0, y1, y2, y3⟩ := obj35_cells k2
  rw [hop] at y0
  have HW1 := Lib.hid hW1
  have HW2 := Lib.hid hW2
  clear hW1 hW2
  clear h ht hTB hcd hrow htv hcv hix hop hwn hn hcl hpc' hb b1 k1 S2 F2 k2 ht2 T2 hTlo hcc c6 c7 c8
  obtain ⟨A, hA⟩ : ∃ A : Nat, x.f1 = (A : Int) := ⟨x.f1.toNat, by omega⟩
  have lA : A < 16 := by omega
  have HA := Lib.hid hA
  rw [hA] at y1
  have A0 : (0 ≤ (A : Int)) = True := by simp
  have A1 : ((A : Int) < 16) = True := eq_true (by omega)
  have A2 : (A < 16) = True := eq_true lA
  obtain ⟨B, hB⟩ : ∃ B : Nat, x.f2 = (B : Int) := ⟨x.f2.toNat, by omega⟩
  have lB : B < 4 := by omega
  have HB := Lib.hid hB
  rw [hB] at y2
  have B0 : (0 ≤ (B : Int)) = True := by simp
  have B1 : ((B : Int) < 4) = True := eq_true (by omega)
  have B2 : (B < 4) = True := eq_true lB
  have zv := H2.out.2.2.2.2.reg lB
  rw [Hb.out] at zv
  have fzv := H2.out.2.2.2.2.frozen (2 + B)
  rw [Hb.out] at fzv
  obtain ⟨v, hv⟩ : ∃ v, (nxT t).r.getD B 0 = v := ⟨_, rfl⟩
  have Hv := Lib.hid hv
  rw [hv] at zv
  clear hv
  have zA := H2.out.1.wb.cel lA
  have fzA := H2.out.1.wb.frozen (1 + A)
  have S3 := (H2.out.1.setG (k := 1 + A) (v := .int .i64 v) (c := D.cells.set A v) (hs := D.has) (H2.out.1.wb.setCel lA v)).drew
  have F3 : Fr (Own g T D.ts.length es) w (W2.setCell ⟨g, 1 + A, none⟩ (.int .i64 v)).drew := (H2.out.2.1.set ⟨g, 1 + A, none⟩ _ (.inl rfl)).drew
  have k3 : (W2.setCell ⟨g, 1 + A, none⟩ (.int .i64 v)).drew.heap[w.heap.size]? = some (obj35 x) := by
    show (W2.setCell ⟨g, 1 + A, none⟩ (.int .i64 v)).heap[w.heap.size]? = _
    rw [heap_setCell_other _ _ _ _ (show w.heap.size ≠ g from by have := HH.out.1.wb.lt; omega)]
    exact H2.out.2.2.1
  have T3 := (S3.tb i _ H2.out.2.2.2.1).1
  have z3 := T3.reg lB
  rw [Hv.out, Hb.out] at z3
  obtain ⟨_, u1, u2, _⟩ := obj35_cells k3
  rw [HA.out] at u1
  rw [HB.out] at u2
  have HX := Lib.hid (And.intro u1 (And.intro u2 z3))
  have HS := Lib.hid (And.intro S3 F3)
  clear hA hB S3 F3 k3 u1 u2 z3 T3
  go_enter Try.func17, Try.ntmps17
  go_wp2_with fail
  go_region_held3 (fun w' => w'.cell? ⟨b, 0, none⟩ = some (.slice (some ad) cl cc) ∧ w'.cell? ⟨b, 1, none⟩ = some (.int .i64 (pc : Int)) ∧ w'.cell? (ad.add (pc * 4)) = some (.int .i64 2) ∧ w'.cell? ⟨(ad.add (pc * 4)).block, (ad.add (pc * 4)).off + 1, none⟩ = some (.int .i64 x.f1) ∧ w'.cell? ⟨(ad.add (pc * 4)).block, (ad.add (pc * 4)).off + 2, none⟩ = some (.int .i64 x.f2) ∧ w'.cell? ⟨(ad.add (pc * 4)).block, (ad.add (pc * 4)).off + 3, none⟩ = some (.int .i64 x.f3)) (go_keep) (fail)
  rw [HW1.out]
  clear HW1 c0 c1 c9 x0 x1 x2 x3 f1
  go_wp2_with (first | rw [HW2.out])
  go_region_held3 (fun w' => w'.cell? ⟨w.heap.size, 1, none⟩ = some (.int .i64 (A : Int)) ∧ w'.cell? ⟨w.heap.size, 2, none⟩ = some (.int .i64 (B : Int)) ∧ w'.cell? ⟨b, 2 + B, none⟩ = some (.int .i64 v)) (first | exact HX.out | go_keep) (fail)
  go_wp2_with fail
  go_end0
  have hs := HS.out.1
  try simp only [List.set_set] at hs
  refine ⟨rfl, es, ?_, HS.out.2, .inl rfl⟩
  rw [doI2 Hop.out, HA.out, HB.out, Int.toNat_natCast, Int.toNat_natCast, Hv.out]
  exact hs
set_option maxHeartbeats 8000000 in
theorem step3_w {w0 w : World} {g : Nat} {T : Nat → Nat} {cv : Nat → Value} {tv es : Value} {D : Wd} (h : St w0 w g T cv tv es D) {i : Nat} {t : Tk} (ht : D.ts[i]? = some t) (hwn : t.wants = -1) {x : I} (hix : insT t = x) (hop : x.f0 = 3) (hpc : t.pc < t.code.length) (hlen : t.code.length ≤ 1000) (hi : i ≤ 1000) (hA : 0 ≤ x.f1 ∧ x.f1 < 16) (hB : 0 ≤ x.f2 ∧ x.f2 < 4) (hC : 0 ≤ x.f3 ∧ x.f3 < 4) :
    Calls Try.prog 17 #[.pointer (some ⟨g, 0, none⟩), .int .i64 (i : Int)] w (StepEnd w0 w g T cv tv es D.ts.length (doI D i (nxT t) x)) := by
  have hin : i < D.ts.length := (List.getElem?_eq_some_iff.1 ht).1
  obtain ⟨q, cap, htv, hrow⟩ := h.tasks (by omega)
  obtain ⟨Ac, cc, hcv, hcc, hcd⟩ := h.cd i t ht
  obtain ⟨hTB, hTlo⟩ := h.tb i t ht
  obtain ⟨c0, c1, c6, c7, c8, c9⟩ := hTB.cells
  have f1 := hTB.frozen 1
  have g0 := h.wb.cells.1
  have ci := hrow i hin
  obtain ⟨ad, e, X⟩ := atI (keepC hcd (Nat.le_refl _) h.bel) t.pc hpc
  rw [show t.code.getD t.pc zI = x from hix] at X
  obtain ⟨x0, x1, x2, x3⟩ := X
  have HH := Lib.hid (And.intro h (And.intro ht (And.intro hTB hcd)))
  have Htv := Lib.hid htv
  have Hcv := Lib.hid hcv
  have Hix := Lib.hid hix
  have Hop := Lib.hid hop
  have Hwn := Lib.hid hwn
  obtain ⟨n, hn⟩ : ∃ n, D.ts.length = n := ⟨_, rfl⟩
  have Hn := Lib.hid hn
  obtain ⟨cl, hcl⟩ : ∃ cl, t.code.length = cl := ⟨_, rfl⟩
  have Hcl := Lib.hid hcl
  obtain ⟨pc, hpc'⟩ : ∃ pc, t.pc = pc := ⟨_, rfl⟩
  have Hpc := Lib.hid hpc'
  rw [hn] at htv hin
  rw [htv] at g0
  rw [hcv] at c0
  rw [hcl] at c0 hpc hlen
  rw [hpc'] at c1 x0 x1 x2 x3 hpc
  rw [hwn] at c9
  rw [hop] at x0
  subst e
  obtain ⟨b, hb⟩ : ∃ b, T i = b := ⟨_, rfl⟩
  have Hb := Lib.hid hb
  rw [hb] at c0 c1 c6 c7 c8 c9 f1 ci
  have p0 : (0 ≤ (pc : Int)) = True := by simp
  have p1 : ((pc : Int) < cl) = True := eq_true (by omega)
  have p2 : (pc < cl) = True := eq_true hpc
  have q0 : (0 ≤ (i : Int)) = True := by simp
  have q1 : ((i : Int) < n) = True := eq_true (by omega)
  have q2 : (i < n) = True := eq_true hin
  have m1 : IntKind.i64.wrap ((pc : Int) + 1) = (pc : Int) + 1 := by rw [IntWalk.i64_in _ (by omega)]
  obtain ⟨W1, hW1⟩ : ∃ W1, (w.alloc (.cells #[.int .i64 3, .int .i64 x.f1, .int .i64 x.f2, .int .i64 x.f3] 35)).drew = W1 := ⟨_, rfl⟩
  have b1 : Below w.heap.size w W1 := by rw [← hW1]; exact ((Below.refl _ w).alloc (Nat.le_refl _) _).drew
  have k1 : W1.heap[w.heap.size]? = some (obj35 x) := by
    rw [← hW1]
    unfold obj35
    rw [hop]
    exact heap_alloc_new w _
  have d1 := cell_up' c1 b1
  have d9 := cell_up' c9 b1
  have g1 : W1.frozen? ⟨b, 1, none⟩ = false := by rw [← hb]; exact ((h.below b1).tb i t ht).1.frozen 1
  obtain ⟨e0, e1, e2, e3⟩ := obj35_cells k1
  rw [hop] at e0
  obtain ⟨W2, hW2⟩ : ∃ W2, W1.setCell ⟨b, 1, none⟩ (.int .i64 ((pc : Int) + 1)) = W2 := ⟨_, rfl⟩
  have S2 : St w0 W2 g T cv tv es { D with ts := D.ts.set i (nxT t) } := by
    have h1 := (h.below b1).setT (t' := nxT t) (k := 1) (v := .int .i64 ((pc : Int) + 1)) ht rfl (by
      have := ((h.below b1).tb i t ht).1.setPc (pc + 1)
      rw [show ((pc + 1 : Nat) : Int) = (pc : Int) + 1 from by omega] at this
      rw [show nxT t = { t with pc := pc + 1 } from by unfold nxT; rw [hpc']]
      exact this)
    rw [hb, hW2] at h1
    exact h1
  have F2 : Fr (Own g T D.ts.length es) w W2 := by
    rw [← hW2]
    exact (Fr.of_below b1).set _ _ (.inr (.inl ⟨i, by rw [hn]; exact hin, hb.symm⟩))
  have k2 : W2.heap[w.heap.size]? = some (obj35 x) := by
    rw [← hW2]
    rw [heap_setCell_other _ _ _ _ (show w.heap.size ≠ b from by have := hTB.lt; rw [hb] at this; omega)]
    exact k1
  have ht2 : (D.ts.set i (nxT t))[i]? = some (nxT t) := set_get ht
  have T2 := (S2.tb i _ ht2).1
  have hxlt : w.heap.size < W2.heap.size := (Array.getElem?_eq_some_iff.1 k2).1
  have H2 := Lib.hid (And.intro S2 (And.intro F2 (And.intro k2 (And.intro ht2 T2))))
  obtain ⟨y0, y1, y2, y3⟩ := obj35_cells k2
  rw [hop] at y0
  have HW1 := Lib.hid hW1
  have HW2 := Lib.hid hW2
  clear hW1 hW2
  clear h ht hTB hcd hrow htv hcv hix hop hwn hn hcl hpc' hb b1 k1 S2 F2 k2 ht2 T2 hTlo hcc c6 c7 c8
  obtain ⟨A, hA⟩ : ∃ A : Nat, x.f1 = (A : Int) := ⟨x.f1.toNat, by omega⟩
  have lA : A < 16 := by omega
  have HA := Lib.hid hA
  rw [hA] at y1
  have A0 : (0 ≤ (A : Int)) = True := by simp
  have A1 : ((A : Int) < 16) = True := eq_true (by omega)
  have A2 : (A < 16) = True := eq_true lA
  obtain ⟨B, hB⟩ : ∃ B : Nat, x.f2 = (B : Int) := ⟨x.f2.toNat, by omega⟩
  have lB : B < 4 := by omega
  have HB := Lib.hid hB
  rw [hB] at y2
  have B0 : (0 ≤ (B : Int)) = True := by simp
  have B1 : ((B : Int) < 4) = True := eq_true (by omega)
  have B2 : (B < 4) = True := eq_true lB
  obtain ⟨C, hC⟩ : ∃ C : Nat, x.f3 = (C : Int) := ⟨x.f3.toNat, by omega⟩
  have lC : C < 4 := by omega
  have HC := Lib.hid hC
  rw [hC] at y3
  have C0 : (0 ≤ (C : Int)) = True := by simp
  have C1 : ((C : Int) < 4) = True := eq_true (by omega)
  have C2 : (C < 4) = True := eq_true lC
  have zv := H2.out.1.wb.cel lA
  have fzv := H2.out.1.wb.frozen (1 + A)
  have zr := H2.out.2.2.2.2.reg lB
  rw [Hb.out] at zr
  have fzr := H2.out.2.2.2.2.frozen (2 + B)
  rw [Hb.out] at fzr
  obtain ⟨v, hv⟩ : ∃ v, D.cells.getD A 0 = v := ⟨_, rfl⟩
  have Hv := Lib.hid hv
  rw [hv] at zv
  obtain ⟨r, hr⟩ : ∃ r, (nxT t).r.getD B 0 = r := ⟨_, rfl⟩
  have Hr := Lib.hid hr
  rw [hr] at zr
  clear hv hr hA hB hC
  have l3 : 3 < 4 := by omega
  by_cases hvr : v = r
  · have Hvr := Lib.hid hvr
    rw [hvr] at zv
    clear hvr
    go_enter Try.func17, Try.ntmps17
    go_wp2_with fail
    go_region_held3 (fun w' => w'.cell? ⟨b, 0, none⟩ = some (.slice (some ad) cl cc) ∧ w'.cell? ⟨b, 1, none⟩ = some (.int .i64 (pc : Int)) ∧ w'.cell? (ad.add (pc * 4)) = some (.int .i64 3) ∧ w'.cell? ⟨(ad.add (pc * 4)).block, (ad.add (pc * 4)).off + 1, none⟩ = some (.int .i64 x.f1) ∧ w'.cell? ⟨(ad.add (pc * 4)).block, (ad.add (pc * 4)).off + 2, none⟩ = some (.int .i64 x.f2) ∧ w'.cell? ⟨(ad.add (pc * 4)).block, (ad.add (pc * 4)).off + 3, none⟩ = some (.int .i64 x.f3)) (go_keep) (fail)
    rw [HW1.out]
    clear HW1 c0 c1 c9 x0 x1 x2 x3 f1
    go_wp2_with (first | rw [HW2.out])
    go_quiet (fail)
    obtain ⟨W3, hW3⟩ : ∃ W3, W2.drewN nq = W3 := ⟨_, rfl⟩
    have bW3 : Below W2.heap.size W2 W3 := by rw [← hW3]; exact ⟨rfl, rfl, rfl, Nat.le_refl _, fun _ _ => rfl⟩
    rw [hW3]
    clear hW3
    have S3 := H2.out.1.below bW3
    have T3 := (S3.tb i _ H2.out.2.2.2.1).1
    have k3 := blk_below H2.out.2.2.1 bW3
    have F3 := H2.out.2.1.below bW3
    clear bW3 y0 y1 y2 y3 zv fzv zr fzr
    have zc := T3.reg lC
    have z3 := T3.reg l3
    have f3 := T3.frozen 5
    rw [Hb.out] at zc z3 f3
    have za := S3.wb.cel lA
    have fa := S3.wb.frozen (1 + A)
    obtain ⟨rc, hrc⟩ : ∃ rc, (nxT t).r.getD C 0 = rc := ⟨_, rfl⟩
    have Hrc := Lib.hid hrc
    rw [hrc] at zc
    have S4 := (S3.setG (k := 1 + A) (v := .int .i64 rc) (c := D.cells.set A rc) (hs := D.has) (S3.wb.setCel lA rc)).drew
    have F4 : Fr (Own g T D.ts.length es) w (W3.setCell ⟨g, 1 + A, none⟩ (.int .i64 rc)).drew := (F3.set ⟨g, 1 + A, none⟩ _ (.inl rfl)).drew
    have k4 : (W3.setCell ⟨g, 1 + A, none⟩ (.int .i64 rc)).drew.heap[w.heap.size]? = some (obj35 x) := by
      show (W3.setCell ⟨g, 1 + A, none⟩ (.int .i64 rc)).heap[w.heap.size]? = _
      rw [heap_setCell_other _ _ _ _ (show w.heap.size ≠ g from by have := HH.out.1.wb.lt; omega)]
      exact k3
    have T4 := (S4.tb i _ H2.out.2.2.2.1).1
    have zc4 := T4.reg lC
    have z34 := T4.reg l3
    have f34 := T4.frozen 5
    rw [Hb.out] at zc4 z34 f34
    rw [hrc] at zc4
    obtain ⟨_, u1, _, u3⟩ := obj35_cells k4
    rw [HA.out] at u1
    rw [HC.out] at u3
    have HX := Lib.hid (And.intro u1 (And.intro u3 zc4))
    have S5 := S4.setT (i := i) (t' := { nxT t with r := (nxT t).r.set 3 0 }) (k := 5) (v := .int .i64 0) H2.out.2.2.2.1 rfl (T4.setReg l3 0)
    have ht5 : ((D.ts.set i (nxT t)).set i { nxT t with r := (nxT t).r.set 3 0 })[i]? = some { nxT t with r := (nxT t).r.set 3 0 } := set_get H2.out.2.2.2.1
    have T5 := (S5.tb i _ ht5).1
    have z35 := T5.reg l3
    have f35 := T5.frozen 5
    have S6 := S5.setT (i := i) (t' := { nxT t with r := ((nxT t).r.set 3 0).set 3 1 }) (k := 5) (v := .int .i64 1) ht5 rfl (T5.setReg l3 1)
    rw [Hb.out] at S5 S6 z35 f35
    obtain ⟨W4, hW4⟩ : ∃ W4, (W3.setCell ⟨g, 1 + A, none⟩ (.int .i64 rc)).drew = W4 := ⟨_, rfl⟩
    rw [hW4] at S5 S6 z34 f34 z35 f35 F4
    obtain ⟨W5, hW5⟩ : ∃ W5, W4.setCell ⟨b, 5, none⟩ (.int .i64 0) = W5 := ⟨_, rfl⟩
    rw [hW5] at S6 z35 f35
    have F5 : Fr (Own g T D.ts.length es) w W5 := by rw [← hW5]; exact F4.set ⟨b, 5, none⟩ _ (.inr (.inl ⟨i, by rw [Hn.out]; exact hin, Hb.out.symm⟩))
    have HS := Lib.hid (And.intro S6 (F5.set ⟨b, 5, none⟩ (.int .i64 1) (.inr (.inl ⟨i, by rw [Hn.out]; exact hin, Hb.out.symm⟩))))
    have HW4 := Lib.hid hW4
    have HW5 := Lib.hid hW5
    have H4 := Lib.hid (And.intro z34 (And.intro f34 (And.intro z35 f35)))
    have hxc := obj35_cells k3
    obtain ⟨_, x1', _, x3'⟩ := hxc
    rw [HA.out] at x1'
    rw [HC.out] at x3'
    clear hrc hW4 hW5 S4 F4 k4 T4 zc4 z34 f34 u1 u3 S5 ht5 T5 z35 f35 S6 F5 S3 T3 k3 F3 z3 f3
    go_wp2_with fail
    go_region_held3 (fun w' => w'.cell? ⟨w.heap.size, 1, none⟩ = some (.int .i64 (A : Int)) ∧ w'.cell? ⟨w.heap.size, 3, none⟩ = some (.int .i64 (C : Int)) ∧ w'.cell? ⟨b, 2 + C, none⟩ = some (.int .i64 rc)) (first | exact HX.out | go_keep) (fail)
    rw [HW4.out]
    clear HX x1' x3' zc za fa
    obtain ⟨z34, f34, z35, f35⟩ := H4.out
    clear HW4
    go_wp2_with (first | rw [HW5.out])
    go_end0
    have hs := HS.out.1
    try simp only [List.set_set] at hs
    refine ⟨rfl, es, ?_, HS.out.2, .inl rfl⟩
    rw [doI3 Hop.out, HA.out, HB.out, HC.out, Int.toNat_natCast, Int.toNat_natCast, Int.toNat_natCast, Hv.out, Hr.out, if_pos Hvr.out, Hrc.out]
    simpa only [List.set_set] using hs
  · have d0 : (v == r) = false := by simpa using hvr
    have Hvr := Lib.hid hvr
    clear hvr
    go_enter Try.func17, Try.ntmps17
    go_wp2_with fail
    go_region_held3 (fun w' => w'.cell? ⟨b, 0, none⟩ = some (.slice (some ad) cl cc) ∧ w'.cell? ⟨b, 1, none⟩ = some (.int .i64 (pc : Int)) ∧ w'.cell? (ad.add (pc * 4)) = some (.int .i64 3) ∧ w'.cell? ⟨(ad.add (pc * 4)).block, (ad.add (pc * 4)).off + 1, none⟩ = some (.int .i64 x.f1) ∧ w'.cell? ⟨(ad.add (pc * 4)).block, (ad.add (pc * 4)).off + 2, none⟩ = some (.int .i64 x.f2) ∧ w'.cell? ⟨(ad.add (pc * 4)).block, (ad.add (pc * 4)).off + 3, none⟩ = some (.int .i64 x.f3)) (go_keep) (fail)
    rw [HW1.out]
    clear HW1 c0 c1 c9 x0 x1 x2 x3 f1
    go_wp2_with (first | rw [HW2.out])
    go_quiet (fail)
    obtain ⟨W3, hW3⟩ : ∃ W3, W2.drewN nq = W3 := ⟨_, rfl⟩
    have bW3 : Below W2.heap.size W2 W3 := by rw [← hW3]; exact ⟨rfl, rfl, rfl, Nat.le_refl _, fun _ _ => rfl⟩
    rw [hW3]
    clear hW3
    have S3 := H2.out.1.below bW3
    have T3 := (S3.tb i _ H2.out.2.2.2.1).1
    have k3 := blk_below H2.out.2.2.1 bW3
    have F3 := H2.out.2.1.below bW3
    clear bW3 y0 y1 y2 y3 zv fzv zr fzr
    have z3 := T3.reg l3
    have f3 := T3.frozen 5
    have S5 := S3.setT (i := i) (t' := { nxT t with r := (nxT t).r.set 3 0 }) (k := 5) (v := .int .i64 0) H2.out.2.2.2.1 rfl (T3.setReg l3 0)
    rw [Hb.out] at S5 z3 f3
    have HS := Lib.hid (And.intro S5 (F3.set ⟨b, 5, none⟩ (.int .i64 0) (.inr (.inl ⟨i, by rw [Hn.out]; exact hin, Hb.out.symm⟩))))
    clear S3 T3 k3 F3 S5
    go_wp2_with fail
    go_end0
    have hs := HS.out.1
    try simp only [List.set_set] at hs
    refine ⟨rfl, es, ?_, HS.out.2, .inl rfl⟩
    rw [doI3 Hop.out, HA.out, HB.out, Int.toNat_natCast, Int.toNat_natCast, Hv.out, Hr.out, if_neg Hvr.out]
    exact hs
set_option maxHeartbeats 8000000 in
theorem step4_w {w0 w : World} {g : Nat} {T : Nat → Nat} {cv : Nat → Value} {tv es : Value} {D : Wd} (h : St w0 w g T cv tv es D) {i : Nat} {t : Tk} (ht : D.ts[i]? = some t) (hwn : t.wants = -1) {x : I} (hix : insT t = x) (hop : x.f0 = 4) (hpc : t.pc < t.code.length) (hlen : t.code.length ≤ 1000) (hi : i ≤ 1000) (hA : 0 ≤ x.f1 ∧ x.f1 < 4) :
    Calls Try.prog 17 #[.pointer (some ⟨g, 0, none⟩), .int .i64 (i : Int)] w (StepEnd w0 w g T cv tv es D.ts.length (doI D i (nxT t) x)) := by
  have hin : i < D.ts.length := (List.getElem?_eq_some_iff.1 ht).1
  obtain ⟨q, cap, htv, hrow⟩ := h.tasks (by omega)
  obtain ⟨Ac, cc, hcv, hcc, hcd⟩ := h.cd i t ht
  obtain ⟨hTB, hTlo⟩ := h.tb i t ht
  obtain ⟨c0, c1, c6, c7, c8, c9⟩ := hTB.cells
  have f1 := hTB.frozen 1
  have g0 := h.wb.cells.1
  have ci := hrow i hin
  obtain ⟨ad, e, X⟩ := atI (keepC hcd (Nat.le_refl _) h.bel) t.pc hpc
  rw [show t.code.getD t.pc zI = x from hix] at X
  obtain ⟨x0, x1, x2, x3⟩ := X
  have HH := Lib.hid (And.intro h (And.intro ht (And.intro hTB hcd)))
  have Htv := Lib.hid htv
  have Hcv := Lib.hid hcv
  have Hix := Lib.hid hix
  have Hop := Lib.hid hop
  have Hwn := Lib.hid hwn
  obtain ⟨n, hn⟩ : ∃ n, D.ts.length = n := ⟨_, rfl⟩
  have Hn := Lib.hid hn
  obtain ⟨cl, hcl⟩ : ∃ cl, t.code.length = cl := ⟨_, rfl⟩
  have Hcl := Lib.hid hcl
  obtain ⟨pc, hpc'⟩ : ∃ pc, t.pc = pc := ⟨_, rfl⟩
  have Hpc := Lib.hid hpc'
  rw [hn] at htv hin
  rw [htv] at g0
  rw [hcv] at c0
  rw [hcl] at c0 hpc hlen
  rw [hpc'] at c1 x0 x1 x2 x3 hpc
  rw [hwn] at c9
  rw [hop] at x0
  subst e
  obtain ⟨b, hb⟩ : ∃ b, T i = b := ⟨_, rfl⟩
  have Hb := Lib.hid hb
  rw [hb] at c0 c1 c6 c7 c8 c9 f1 ci
  have p0 : (0 ≤ (pc : Int)) = True := by simp
  have p1 : ((pc : Int) < cl) = True := eq_true (by omega)
  have p2 : (pc < cl) = True := eq_true hpc
  have q0 : (0 ≤ (i : Int)) = True := by simp
  have q1 : ((i : Int) < n) = True := eq_true (by omega)
  have q2 : (i < n) = True := eq_true hin
  have m1 : IntKind.i64.wrap ((pc : Int) + 1) = (pc : Int) + 1 := by rw [IntWalk.i64_in _ (by omega)]
  obtain ⟨W1, hW1⟩ : ∃ W1, (w.alloc (.cells #[.int .i64 4, .int .i64 x.f1, .int .i64 x.f2, .int .i64 x.f3] 35)).drew = W1 := ⟨_, rfl⟩
  have b1 : Below w.heap.size w W1 := by rw [← hW1]; exact ((Below.refl _ w).alloc (Nat.le_refl _) _).drew
  have k1 : W1.heap[w.heap.size]? = some (obj35 x) := by
    rw [← hW1]
    unfold obj35
    rw [hop]
    exact heap_alloc_new w _
  have d1 := cell_up' c1 b1
  have d9 := cell_up' c9 b1
  have g1 : W1.frozen? ⟨b, 1, none⟩ = false := by rw [← hb]; exact ((h.below b1).tb i t ht).1.frozen 1
  obtain ⟨e0, e1, e2, e3⟩ := obj35_cells k1
  rw [hop] at e0
  obtain ⟨W2, hW2⟩ : ∃ W2, W1.setCell ⟨b, 1, none⟩ (.int .i64 ((pc : Int) + 1)) = W2 := ⟨_, rfl⟩
  have S2 : St w0 W2 g T cv tv es { D with ts := D.ts.set i (nxT t) } := by
    have h1 := (h.below b1).setT (t' := nxT t) (k := 1) (v := .int .i64 ((pc : Int) + 1)) ht rfl (by
      have := ((h.below b1).tb i t ht).1.setPc (pc + 1)
      rw [show ((pc + 1 : Nat) : Int) = (pc : Int) + 1 from by omega] at this
      rw [show nxT t = { t with pc := pc + 1 } from by unfold nxT; rw [hpc']]
      exact this)
    rw [hb, hW2] at h1
    exact h1
  have F2 : Fr (Own g T D.ts.length es) w W2 := by
    rw [← hW2]
    exact (Fr.of_below b1).set _ _ (.inr (.inl ⟨i, by rw [hn]; exact hin, hb.symm⟩))
  have k2 : W2.heap[w.heap.size]? = some (obj35 x) := by
    rw [← hW2]
    rw [heap_setCell_other _ _ _ _ (show w.heap.size ≠ b from by have := hTB.lt; rw [hb] at this; omega)]
    exact k1
  have ht2 : (D.ts.set i (nxT t))[i]? = some (nxT t) := set_get ht
  have T2 := (S2.tb i _ ht2).1
  have hxlt : w.heap.size < W2.heap.size := (Array.getElem?_eq_some_iff.1 k2).1
  have H2 := Lib.hid (And.intro S2 (And.intro F2 (And.intro k2 (And.intro ht2 T2))))
  obtain ⟨y0, y1, y2, y3⟩ := obj35_cells k2
  rw [hop] at y0
  have HW1 := Lib.hid hW1
  have HW2 := Lib.hid hW2
  clear hW1 hW2
  clear h ht hTB hcd hrow htv hcv hix hop hwn hn hcl hpc' hb b1 k1 S2 F2 k2 ht2 T2 hTlo hcc c6 c7 c8
  obtain ⟨A, hA⟩ : ∃ A : Nat, x.f1 = (A : Int) := ⟨x.f1.toNat, by omega⟩
  have lA : A < 4 := by omega
  have HA := Lib.hid hA
  rw [hA] at y1
  have A0 : (0 ≤ (A : Int)) = True := by simp
  have A1 : ((A : Int) < 4) = True := eq_true (by omega)
  have A2 : (A < 4) = True := eq_true lA
  have zA := H2.out.2.2.2.2.reg lA
  rw [Hb.out] at zA
  have fzA := H2.out.2.2.2.2.frozen (2 + A)
  rw [Hb.out] at fzA
  have S3 := (H2.out.1.setT (i := i) (t := nxT t) (t' := { nxT t with r := (nxT t).r.set A 0 }) (k := 2 + A) (v := .int .i64 0) H2.out.2.2.2.1 rfl (H2.out.2.2.2.2.setReg lA 0)).drew
  rw [Hb.out] at S3
  have F3 : Fr (Own g T D.ts.length es) w (W2.setCell ⟨b, 2 + A, none⟩ (.int .i64 0)).drew := (H2.out.2.1.set ⟨b, 2 + A, none⟩ _ (.inr (.inl ⟨i, by rw [Hn.out]; exact hin, Hb.out.symm⟩))).drew
  have k3 : (W2.setCell ⟨b, 2 + A, none⟩ (.int .i64 0)).drew.heap[w.heap.size]? = some (obj35 x) := by
    show (W2.setCell ⟨b, 2 + A, none⟩ (.int .i64 0)).heap[w.heap.size]? = _
    rw [heap_setCell_other _ _ _ _ (show w.heap.size ≠ b from by have := HH.out.2.2.1.lt; rw [Hb.out] at this; omega)]
    exact H2.out.2.2.1
  obtain ⟨_, u1, _, _⟩ := obj35_cells k3
  rw [HA.out] at u1
  have HX := Lib.hid u1
  obtain ⟨W3, hW3⟩ : ∃ W3, (W2.setCell ⟨b, 2 + A, none⟩ (.int .i64 0)).drew = W3 := ⟨_, rfl⟩
  have HW3 := Lib.hid hW3
  rw [hW3] at S3 F3 k3
  have ht3 : ((D.ts.set i (nxT t)).set i { nxT t with r := (nxT t).r.set A 0 })[i]? = some { nxT t with r := (nxT t).r.set A 0 } := set_get H2.out.2.2.2.1
  have T3 := (S3.tb i _ ht3).1
  have z3 := T3.reg lA
  have f3 := T3.frozen (2 + A)
  rw [Hb.out] at z3 f3
  have hz : ((nxT t).r.set A 0).getD A 0 = 0 := by
    have h4 : (nxT t).r.length = 4 := H2.out.2.2.2.2.2
    rw [List.getD_eq_getElem?_getD, List.getElem?_set, if_pos rfl, if_pos (by rw [h4]; exact lA)]
    rfl
  rw [show ({ nxT t with r := (nxT t).r.set A 0 } : Tk).r.getD A 0 = 0 from hz] at z3
  obtain ⟨_, u1', u2', _⟩ := obj35_cells k3
  rw [HA.out] at u1'
  have S4 := (S3.setT (i := i) (t' := { nxT t with r := ((nxT t).r.set A 0).set A (wrap64 x.f2) }) (k := 2 + A) (v := .int .i64 (wrap64 x.f2)) ht3 rfl (T3.setReg lA (wrap64 x.f2))).drew
  rw [Hb.out] at S4
  have F4 : Fr (Own g T D.ts.length es) w (W3.setCell ⟨b, 2 + A, none⟩ (.int .i64 (wrap64 x.f2))).drew := (F3.set ⟨b, 2 + A, none⟩ _ (.inr (.inl ⟨i, by rw [Hn.out]; exact hin, Hb.out.symm⟩))).drew
  have HS := Lib.hid (And.intro S4 F4)
  have HY := Lib.hid (And.intro z3 (And.intro f3 (And.intro u1' u2')))
  clear hA S3 F3 k3 u1 hW3 ht3 T3 z3 f3 hz u1' u2' S4 F4
  go_enter Try.func17, Try.ntmps17
  go_wp2_with fail
  go_region_held3 (fun w' => w'.cell? ⟨b, 0, none⟩ = some (.slice (some ad) cl cc) ∧ w'.cell? ⟨b, 1, none⟩ = some (.int .i64 (pc : Int)) ∧ w'.cell? (ad.add (pc * 4)) = some (.int .i64 4) ∧ w'.cell? ⟨(ad.add (pc * 4)).block, (ad.add (pc * 4)).off + 1, none⟩ = some (.int .i64 x.f1) ∧ w'.cell? ⟨(ad.add (pc * 4)).block, (ad.add (pc * 4)).off + 2, none⟩ = some (.int .i64 x.f2) ∧ w'.cell? ⟨(ad.add (pc * 4)).block, (ad.add (pc * 4)).off + 3, none⟩ = some (.int .i64 x.f3)) (go_keep) (fail)
  rw [HW1.out]
  clear HW1 c0 c1 c9 x0 x1 x2 x3 f1
  go_wp2_with (first | rw [HW2.out])
  go_region_held3 (fun w' => w'.cell? ⟨w.heap.size, 1, none⟩ = some (.int .i64 (A : Int))) (first | exact HX.out | go_keep) (fail)
  rw [HW3.out]
  obtain ⟨z3, f3, u1, u2⟩ := HY.out
  go_wp2_with fail
  go_region
  all_goals (
    go_wp2_with fail
    go_end0
    have hs := HS.out.1
    try simp only [List.set_set] at hs
    refine ⟨rfl, es, ?_, HS.out.2, .inl rfl⟩
    rw [doI4 Hop.out, HA.out, Int.toNat_natCast]
    exact hs)
set_option maxHeartbeats 8000000 in
theorem step5_w {w0 w : World} {g : Nat} {T : Nat → Nat} {cv : Nat → Value} {tv es : Value} {D : Wd} (h : St w0 w g T cv tv es D) {i : Nat} {t : Tk} (ht : D.ts[i]? = some t) (hwn : t.wants = -1) {x : I} (hix : insT t = x) (hop : x.f0 = 5) (hpc : t.pc < t.code.length) (hlen : t.code.length ≤ 1000) (hi : i ≤ 1000) (hA : 0 ≤ x.f1 ∧ x.f1 < 4) :
    Calls Try.prog 17 #[.pointer (some ⟨g, 0, none⟩), .int .i64 (i : Int)] w (StepEnd w0 w g T cv tv es D.ts.length (doI D i (nxT t) x)) := by
  have hin : i < D.ts.length := (List.getElem?_eq_some_iff.1 ht).1
  obtain ⟨q, cap, htv, hrow⟩ := h.tasks (by omega)
  obtain ⟨Ac, cc, hcv, hcc, hcd⟩ := h.cd i t ht
  obtain ⟨hTB, hTlo⟩ := h.tb i t ht
  obtain ⟨c0, c1, c6, c7, c8, c9⟩ := hTB.cells
  have f1 := hTB.frozen 1
  have g0 := h.wb.cells.1
  have ci := hrow i hin
  obtain ⟨ad, e, X⟩ := atI (keepC hcd (Nat.le_refl _) h.bel) t.pc hpc
  rw [show t.code.getD t.pc zI = x from hix] at X
  obtain ⟨x0, x1, x2, x3⟩ := X
  have HH := Lib.hid (And.intro h (And.intro ht (And.intro hTB hcd)))
  have Htv := Lib.hid htv
  have Hcv := Lib.hid hcv
  have Hix := Lib.hid hix
  have Hop := Lib.hid hop
  have Hwn := Lib.hid hwn
  obtain ⟨n, hn⟩ : ∃ n, D.ts.length = n := ⟨_, rfl⟩
  have Hn := Lib.hid hn
  obtain ⟨cl, hcl⟩ : ∃ cl, t.code.length = cl := ⟨_, rfl⟩
  have Hcl := Lib.hid hcl
  obtain ⟨pc, hpc'⟩ : ∃ pc, t.pc = pc := ⟨_, rfl⟩
  have Hpc := Lib.hid hpc'
  rw [hn] at htv hin
  rw [htv] at g0
  rw [hcv] at c0
  rw [hcl] at c0 hpc hlen
  rw [hpc'] at c1 x0 x1 x2 x3 hpc
  rw [hwn] at c9
  rw [hop] at x0
  subst e
  obtain ⟨b, hb⟩ : ∃ b, T i = b := ⟨_, rfl⟩
  have Hb := Lib.hid hb
  rw [hb] at c0 c1 c6 c7 c8 c9 f1 ci
  have p0 : (0 ≤ (pc : Int)) = True := by simp
  have p1 : ((pc : Int) < cl) = True := eq_true (by omega)
  have p2 : (pc < cl) = True := eq_true hpc
  have q0 : (0 ≤ (i : Int)) = True := by simp
  have q1 : ((i : Int) < n) = True := eq_true (by omega)
  have q2 : (i < n) = True := eq_true hin
  have m1 : IntKind.i64.wrap ((pc : Int) + 1) = (pc : Int) + 1 := by rw [IntWalk.i64_in _ (by omega)]
  obtain ⟨W1, hW1⟩ : ∃ W1, (w.alloc (.cells #[.int .i64 5, .int .i64 x.f1, .int .i64 x.f2, .int .i64 x.f3] 35)).drew = W1 := ⟨_, rfl⟩
  have b1 : Below w.heap.size w W1 := by rw [← hW1]; exact ((Below.refl _ w).alloc (Nat.le_refl _) _).drew
  have k1 : W1.heap[w.heap.size]? = some (obj35 x) := by
    rw [← hW1]
    unfold obj35
    rw [hop]
    exact heap_alloc_new w _
  have d1 := cell_up' c1 b1
  have d9 := cell_up' c9 b1
  have g1 : W1.frozen? ⟨b, 1, none⟩ = false := by rw [← hb]; exact ((h.below b1).tb i t ht).1.frozen 1
  obtain ⟨e0, e1, e2, e3⟩ := obj35_cells k1
  rw [hop] at e0
  obtain ⟨W2, hW2⟩ : ∃ W2, W1.setCell ⟨b, 1, none⟩ (.int .i64 ((pc : Int) + 1)) = W2 := ⟨_, rfl⟩
  have S2 : St w0 W2 g T cv tv es { D with ts := D.ts.set i (nxT t) } := by
    have h1 := (h.below b1).setT (t' := nxT t) (k := 1) (v := .int .i64 ((pc : Int) + 1)) ht rfl (by
      have := ((h.below b1).tb i t ht).1.setPc (pc + 1)
      rw [show ((pc + 1 : Nat) : Int) = (pc : Int) + 1 from by omega] at this
      rw [show nxT t = { t with pc := pc + 1 } from by unfold nxT; rw [hpc']]
      exact this)
    rw [hb, hW2] at h1
    exact h1
  have F2 : Fr (Own g T D.ts.length es) w W2 := by
    rw [← hW2]
    exact (Fr.of_below b1).set _ _ (.inr (.inl ⟨i, by rw [hn]; exact hin, hb.symm⟩))
  have k2 : W2.heap[w.heap.size]? = some (obj35 x) := by
    rw [← hW2]
    rw [heap_setCell_other _ _ _ _ (show w.heap.size ≠ b from by have := hTB.lt; rw [hb] at this; omega)]
    exact k1
  have ht2 : (D.ts.set i (nxT t))[i]? = some (nxT t) := set_get ht
  have T2 := (S2.tb i _ ht2).1
  have hxlt : w.heap.size < W2.heap.size := (Array.getElem?_eq_some_iff.1 k2).1
  have H2 := Lib.hid (And.intro S2 (And.intro F2 (And.intro k2 (And.intro ht2 T2))))
  obtain ⟨y0, y1, y2, y3⟩ := obj35_cells k2
  rw [hop] at y0
  have HW1 := Lib.hid hW1
  have HW2 := Lib.hid hW2
  clear hW1 hW2
  clear h ht hTB hcd hrow htv hcv hix hop hwn hn hcl hpc' hb b1 k1 S2 F2 k2 ht2 T2 hTlo hcc c6 c7 c8
  obtain ⟨A, hA⟩ : ∃ A : Nat, x.f1 = (A : Int) := ⟨x.f1.toNat, by omega⟩
  have lA : A < 4 := by omega
  have HA := Lib.hid hA
  rw [hA] at y1
  have A0 : (0 ≤ (A : Int)) = True := by simp
  have A1 : ((A : Int) < 4) = True := eq_true (by omega)
  have A2 : (A < 4) = True := eq_true lA
  have zA := H2.out.2.2.2.2.reg lA
  rw [Hb.out] at zA
  have fzA := H2.out.2.2.2.2.frozen (2 + A)
  rw [Hb.out] at fzA
  obtain ⟨v, hv⟩ : ∃ v, (nxT t).r.getD A 0 = v := ⟨_, rfl⟩
  have Hv := Lib.hid hv
  rw [hv] at zA
  clear hv
  have S3 := (H2.out.1.setT (i := i) (t := nxT t) (t' := { nxT t with r := (nxT t).r.set A (wrap64 (v + x.f2)) }) (k := 2 + A) (v := .int .i64 (wrap64 (v + x.f2))) H2.out.2.2.2.1 rfl (H2.out.2.2.2.2.setReg lA (wrap64 (v + x.f2)))).drew
  rw [Hb.out] at S3
  have F3 : Fr (Own g T D.ts.length es) w (W2.setCell ⟨b, 2 + A, none⟩ (.int .i64 (wrap64 (v + x.f2)))).drew := (H2.out.2.1.set ⟨b, 2 + A, none⟩ _ (.inr (.inl ⟨i, by rw [Hn.out]; exact hin, Hb.out.symm⟩))).drew
  have k3 : (W2.setCell ⟨b, 2 + A, none⟩ (.int .i64 (wrap64 (v + x.f2)))).drew.heap[w.heap.size]? = some (obj35 x) := by
    show (W2.setCell ⟨b, 2 + A, none⟩ (.int .i64 (wrap64 (v + x.f2)))).heap[w.heap.size]? = _
    rw [heap_setCell_other _ _ _ _ (show w.heap.size ≠ b from by have := HH.out.2.2.1.lt; rw [Hb.out] at this; omega)]
    exact H2.out.2.2.1
  obtain ⟨_, u1, u2, _⟩ := obj35_cells k3
  rw [HA.out] at u1
  have HS := Lib.hid (And.intro S3 F3)
  clear hA S3 F3 k3 u1 u2
  go_enter Try.func17, Try.ntmps17
  go_wp2_with fail
  go_region_held3 (fun w' => w'.cell? ⟨b, 0, none⟩ = some (.slice (some ad) cl cc) ∧ w'.cell? ⟨b, 1, none⟩ = some (.int .i64 (pc : Int)) ∧ w'.cell? (ad.add (pc * 4)) = some (.int .i64 5) ∧ w'.cell? ⟨(ad.add (pc * 4)).block, (ad.add (pc * 4)).off + 1, none⟩ = some (.int .i64 x.f1) ∧ w'.cell? ⟨(ad.add (pc * 4)).block, (ad.add (pc * 4)).off + 2, none⟩ = some (.int .i64 x.f2) ∧ w'.cell? ⟨(ad.add (pc * 4)).block, (ad.add (pc * 4)).off + 3, none⟩ = some (.int .i64 x.f3)) (go_keep) (fail)
  rw [HW1.out]
  clear HW1 c0 c1 c9 x0 x1 x2 x3 f1
  go_wp2_with (first | rw [HW2.out])
  go_region
  all_goals (
    go_wp2_with fail
    go_end0
    have hs := HS.out.1
    simp only [List.set_set] at hs
    refine ⟨rfl, es, ?_, HS.out.2, .inl rfl⟩
    rw [doI5 Hop.out, HA.out, Int.toNat_natCast, Hv.out]
    exact hs)
end Go.Proofs.Ytkcjghdopmigoaa.SC
