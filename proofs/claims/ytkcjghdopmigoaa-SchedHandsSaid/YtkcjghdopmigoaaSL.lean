/- sched: a task does an instruction: the walks. -/
import Derived.Test.YtkcjghdopmigoaaSI
namespace Go.Proofs.Ytkcjghdopmigoaa.SC
open Go.RowKit Go.Proofs.YtkcjghdopmigoaaW.PrintWords
set_option linter.unusedVariables false
set_option linter.unusedSimpArgs false
set_option maxRecDepth 100000
set_option maxHeartbeats 8000000 in
theorem step11_w {w0 w : World} {g : Nat} {T : Nat → Nat} {cv : Nat → Value} {tv es : Value} {D : Wd} (h : St w0 w g T cv tv es D) {i : Nat} {t : Tk} (ht : D.ts[i]? = some t) (hwn : t.wants = -1) {x : I} (hix : insT t = x) (hop : x.f0 = 11) (hpc : t.pc < t.code.length) (hlen : t.code.length ≤ 1000) (hi : i ≤ 1000) (hA : 0 ≤ x.f1 ∧ x.f1 < 16) (hn8 : D.ts.length ≤ 1000) :
    Calls Try.prog 17 #[.pointer (some ⟨g, 0, none⟩), .int .i64 (i : Int)] w (StepEnd w0 w g T cv tv es D.ts.length (doI D i (nxT t) x)) := by
  have hin : i < D.ts.length := (List.getElem?_eq_some_iff.1 ht).1
  obtain ⟨q, cap, htv, hrow⟩ := h.tasks (by omega)
  obtain ⟨Ac, cc, hcv, hcc, hcd⟩ := h.cd i t ht
  obtain ⟨hTB, hTlo⟩ := h.tb i t ht
  obtain ⟨c0, c1, c6, c7, c8, c9⟩ := hTB.cells
  have f1 := hTB.frozen 1
  have g0 := h.wb.cells.1
  have ci := hrow i hin
  obtain ⟨ad, e, X⟩ := atI (keepC hcd (Nat.le_refl _) h.bel) t.pc hpc
  rw [show t.code.getD t.pc zI = x from hix] at X
  obtain ⟨x0, x1, x2, x3⟩ := X
  have HH := Lib.hid (And.intro h (And.intro ht (And.intro hTB hcd)))
  have Htv := Lib.hid htv
  have Hcv := Lib.hid hcv
  have Hix := Lib.hid hix
  have Hop := Lib.hid hop
  have Hwn := Lib.hid hwn
  obtain ⟨n, hn⟩ : ∃ n, D.ts.length = n := ⟨_, rfl⟩
  have Hn := Lib.hid hn
  obtain ⟨cl, hcl⟩ : ∃ cl, t.code.length = cl := ⟨_, rfl⟩
  have Hcl := Lib.hid hcl
  obtain ⟨pc, hpc'⟩ : ∃ pc, t.pc = pc := ⟨_, rfl⟩
  have Hpc := Lib.hid hpc'
  rw [hn] at htv hin
  rw [htv] at g0
  rw [hcv] at c0
  rw [hcl] at c0 hpc hlen
  rw [hpc'] at c1 x0 x1 x2 x3 hpc
  rw [hwn] at c9
  rw [hop] at x0
  subst e
  obtain ⟨b, hb⟩ : ∃ b, T i = b := ⟨_, rfl⟩
  have Hb := Lib.hid hb
  rw [hb] at c0 c1 c6 c7 c8 c9 f1 ci
  have p0 : (0 ≤ (pc : Int)) = True := by simp
  have p1 : ((pc : Int) < cl) = True := eq_true (by omega)
  have p2 : (pc < cl) = True := eq_true hpc
  have q0 : (0 ≤ (i : Int)) = True := by simp
  have q1 : ((i : Int) < n) = True := eq_true (by omega)
  have q2 : (i < n) = True := eq_true hin
  have m1 : IntKind.i64.wrap ((pc : Int) + 1) = (pc : Int) + 1 := by rw [IntWalk.i64_in _ (by omega)]
  obtain ⟨W1, hW1⟩ : ∃ W1, (w.alloc (.cells #[.int .i64 11, .int .i64 x.f1, .int .i64 x.f2, .int .i64 x.f3] 35)).drew = W1 := ⟨_, rfl⟩
  have b1 : Below w.heap.size w W1 := by rw [← hW1]; exact ((Below.refl _ w).alloc (Nat.le_refl _) _).drew
  have k1 : W1.heap[w.heap.size]? = some (obj35 x) := by
    rw [← hW1]
    unfold obj35
    rw [hop]
    exact heap_alloc_new w _
  have d1 := cell_up' c1 b1
  have d9 := cell_up' c9 b1
  have g1 : W1.frozen? ⟨b, 1, none⟩ = false := by rw [← hb]; exact ((h.below b1).tb i t ht).1.frozen 1
  obtain ⟨e0, e1, e2, e3⟩ := obj35_cells k1
  rw [hop] at e0
  obtain ⟨W2, hW2⟩ : ∃ W2, W1.setCell ⟨b, 1, none⟩ (.int .i64 ((pc : Int) + 1)) = W2 := ⟨_, rfl⟩
  have S2 : St w0 W2 g T cv tv es { D with ts := D.ts.set i (nxT t) } := by
    have h1 := (h.below b1).setT (t' := nxT t) (k := 1) (v := .int .i64 ((pc : Int) + 1)) ht rfl (by
      have := ((h.below b1).tb i t ht).1.setPc (pc + 1)
      rw [show ((pc + 1 : Nat) : Int) = (pc : Int) + 1 from by omega] at this
      rw [show nxT t = { t with pc := pc + 1 } from by unfold nxT; rw [hpc']]
      exact this)
    rw [hb, hW2] at h1
    exact h1
  have F2 : Fr (Own g T D.ts.length es) w W2 := by
    rw [← hW2]
    exact (Fr.of_below b1).set _ _ (.inr (.inl ⟨i, by rw [hn]; exact hin, hb.symm⟩))
  have k2 : W2.heap[w.heap.size]? = some (obj35 x) := by
    rw [← hW2]
    rw [heap_setCell_other _ _ _ _ (show w.heap.size ≠ b from by have := hTB.lt; rw [hb] at this; omega)]
    exact k1
  have ht2 : (D.ts.set i (nxT t))[i]? = some (nxT t) := set_get ht
  have T2 := (S2.tb i _ ht2).1
  have hxlt : w.heap.size < W2.heap.size := (Array.getElem?_eq_some_iff.1 k2).1
  have H2 := Lib.hid (And.intro S2 (And.intro F2 (And.intro k2 (And.intro ht2 T2))))
  obtain ⟨y0, y1, y2, y3⟩ := obj35_cells k2
  rw [hop] at y0
  have HW1 := Lib.hid hW1
  have HW2 := Lib.hid hW2
  clear hW1 hW2
  clear h ht hTB hcd hrow htv hcv hix hop hwn hn hcl hpc' hb b1 k1 S2 F2 k2 ht2 T2 hTlo hcc c6 c7 c8
  obtain ⟨A, hA⟩ : ∃ A : Nat, x.f1 = (A : Int) := ⟨x.f1.toNat, by omega⟩
  have lA : A < 16 := by omega
  have HA := Lib.hid hA
  rw [hA] at y1
  have A0 : (0 ≤ (A : Int)) = True := by simp
  have A1 : ((A : Int) < 16) = True := eq_true (by omega)
  have A2 : (A < 16) = True := eq_true lA
  obtain ⟨ts2, hts2⟩ : ∃ ts2, D.ts.set i (nxT t) = ts2 := ⟨_, rfl⟩
  have S2' := H2.out.1
  rw [hts2] at S2'
  have Hlen2 := Lib.hid (show ts2.length = n from by rw [← hts2, List.length_set]; exact Hn.out)
  have Hts2 := Lib.hid hts2
  have S2h := Lib.hid S2'
  have hn8' : n ≤ 1000 := by rw [← Hn.out]; exact hn8
  have HG := Lib.hid (show w.heap.size ≠ g ∧ ∀ j, j < n → T j < w.heap.size from ⟨by have := HH.out.1.wb.lt; omega, fun j hj => (HH.out.1.tb j _ (List.getElem?_eq_getElem (by rw [Hn.out]; exact hj))).1.lt⟩)
  clear hA hts2 S2' hn8 y0 y1 y2 y3
  have y0 := (obj35_cells H2.out.2.2.1).1
  have gw := H2.out.1.wb.cells.1
  rw [Htv.out, Hn.out] at gw
  rw [Hop.out] at y0
  go_enter Try.func17, Try.ntmps17
  go_wp2_with fail
  go_region_held3 (fun w' => w'.cell? ⟨b, 0, none⟩ = some (.slice (some ad) cl cc) ∧ w'.cell? ⟨b, 1, none⟩ = some (.int .i64 (pc : Int)) ∧ w'.cell? (ad.add (pc * 4)) = some (.int .i64 11) ∧ w'.cell? ⟨(ad.add (pc * 4)).block, (ad.add (pc * 4)).off + 1, none⟩ = some (.int .i64 x.f1) ∧ w'.cell? ⟨(ad.add (pc * 4)).block, (ad.add (pc * 4)).off + 2, none⟩ = some (.int .i64 x.f2) ∧ w'.cell? ⟨(ad.add (pc * 4)).block, (ad.add (pc * 4)).off + 3, none⟩ = some (.int .i64 x.f3)) (go_keep) (fail)
  rw [HW1.out]
  clear HW1 c0 c1 c9 x0 x1 x2 x3 f1
  go_wp2_with (first | rw [HW2.out])
  go_step3
  go_wp2_with fail
  go_step3
  go_wp2_with fail
  go_loopw [226] (fun v wr => ∃ k : Nat, k ≤ n ∧ v = .int .i64 (k : Int) ∧ Hid (St w0 wr g T cv tv es { D with ts := ts2 } ∧ Fr (Own g T D.ts.length es) w wr ∧ wr.heap[w.heap.size]? = some (obj35 x) ∧ ∀ j u, j < k → ts2[j]? = some u → u.cond ≠ (A : Int))) (fun v _ => n - (intOf v).toNat)
  case atStart => exact ⟨0, by omega, rfl, Lib.hid ⟨by exact S2h.out, H2.out.2.1, H2.out.2.2.1, fun j u h => by omega⟩⟩
  case round =>
    obtain ⟨k, hk, rfl, HK⟩ := hrel
    have m2 : IntKind.i64.wrap ((k : Int) + 1) = (k : Int) + 1 := by rw [IntWalk.i64_in _ (by omega)]
    by_cases hlt : k < n
    · have hkl : k < ts2.length := by rw [Hlen2.out]; exact hlt
      obtain ⟨u, hu⟩ : ∃ u, ts2[k]? = some u := ⟨ts2[k], List.getElem?_eq_getElem hkl⟩
      have Hu := Lib.hid hu
      have huk : ({ D with ts := ts2 } : Wd).ts[k]? = some u := hu
      have Huk := Lib.hid huk
      have hkk : k < ({ D with ts := ts2 } : Wd).ts.length := by show k < ts2.length; rw [Hlen2.out]; exact hlt
      obtain ⟨q', cap', htv', hrow'⟩ := HK.out.1.tasks (by omega)
      have ci' := hrow' k hkk
      have e' := Htv.out.symm.trans htv'
      injection e' with e1 e2 e3
      injection e1 with e1
      injection e1 with e1 _ _
      subst e1
      obtain ⟨hTu, _⟩ := HK.out.1.tb k u huk
      obtain ⟨bk, hbk⟩ : ∃ bk, T k = bk := ⟨_, rfl⟩
      have Hbk := Lib.hid hbk
      have z8 := hTu.cells.2.2.2.2.1
      have f8 := hTu.frozen 8
      rw [hbk] at ci' z8 f8
      obtain ⟨v0, v1, _, _⟩ := obj35_cells HK.out.2.2.1
      rw [HA.out] at v1
      rw [Hop.out] at v0
      obtain ⟨uc, huc⟩ : ∃ uc, u.cond = uc := ⟨_, rfl⟩
      have Huc := Lib.hid huc
      rw [huc] at z8
      have r0 : (0 ≤ (k : Int)) = True := by simp
      have r1 : ((k : Int) < n) = True := eq_true (by omega)
      have r2 : (k < n) = True := eq_true hlt
      have d3 : decide ((k : Int) < (n : Int)) = true := decide_eq_true (by omega)
      clear hu huk htv' hrow' hTu hbk huc hkl e2 e3 hkk
      by_cases huA : uc = (A : Int)
      · rw [huA] at z8
        have HuA := Lib.hid huA
        clear huA
        go_wp2_with fail
        go_quiet (fail)
        obtain ⟨W3, hW3⟩ : ∃ W3, wr.drewN nq = W3 := ⟨_, rfl⟩
        have bW3 : Below wr.heap.size wr W3 := by rw [← hW3]; exact ⟨rfl, rfl, rfl, Nat.le_refl _, fun _ _ => rfl⟩
        rw [hW3]
        have S3 := HK.out.1.below bW3
        have T3 := (S3.tb k u Huk.out).1
        have k3 := blk_below HK.out.2.2.1 bW3
        have F3 := HK.out.2.1.below bW3
        have S4 := S3.setT (i := k) (t' := { u with cond := -1 }) (k := 8) (v := .int .i64 (-1)) Huk.out rfl (T3.setCond (-1))
        have z8' := T3.cells.2.2.2.2.1
        have f8' := T3.frozen 8
        rw [Hbk.out] at S4 z8' f8'
        obtain ⟨W4, hW4⟩ : ∃ W4, W3.setCell ⟨bk, 8, none⟩ (.int .i64 (-1)) = W4 := ⟨_, rfl⟩
        have k4 : W4.heap[w.heap.size]? = some (obj35 x) := by
          rw [← hW4, heap_setCell_other _ _ _ _ (show w.heap.size ≠ bk from by have := HG.out.2 k hlt; rw [Hbk.out] at this; omega)]
          exact k3
        have F4 : Fr (Own g T D.ts.length es) w W4 := by rw [← hW4]; exact F3.set ⟨bk, 8, none⟩ _ (.inr (.inl ⟨k, by rw [Hn.out]; exact hlt, Hbk.out.symm⟩))
        rw [hW4] at S4
        have HW4 := Lib.hid hW4
        have HS := Lib.hid (And.intro S4 (And.intro F4 k4))
        obtain ⟨v0', _, _, _⟩ := obj35_cells k4
        rw [Hop.out] at v0'
        clear hW3 bW3 S3 T3 k3 F3 hW4 S4 F4 k4 v0 v1 z8 f8 ci'
        go_wp2_with (first | rw [HW4.out])
        go_end0
        refine ⟨rfl, es, ?_, HS.out.2.1, .inl rfl⟩
        rw [doI11 Hop.out, HA.out, Hts2.out, wakeL_one (A : Int) ts2 k u HK.out.2.2.2 Hu.out (by rw [Huc.out]; exact HuA.out)]
        exact HS.out.1
      · have d0 : (uc == (A : Int)) = false := by simpa using huA
        have HuA := Lib.hid huA
        clear huA
        go_wp2_with fail
        go_quiet (fail)
        obtain ⟨W3, hW3⟩ : ∃ W3, wr.drewN nq = W3 := ⟨_, rfl⟩
        have bW3 : Below wr.heap.size wr W3 := by rw [← hW3]; exact ⟨rfl, rfl, rfl, Nat.le_refl _, fun _ _ => rfl⟩
        rw [hW3]
        have HS := Lib.hid (And.intro (HK.out.1.below bW3) (And.intro (HK.out.2.1.below bW3) (blk_below HK.out.2.2.1 bW3)))
        clear hW3 bW3 v0 v1 z8 f8 ci'
        go_wp2_with fail
        go_roundw
        case rel => exact ⟨k + 1, by omega, by simp, Lib.hid ⟨HS.out.1, HS.out.2.1, HS.out.2.2, fun j z hj hz => by
          rcases Nat.lt_or_eq_of_le (show j ≤ k by omega) with h | h
          · exact HK.out.2.2.2 j z h hz
          · subst h; rw [Hu.out] at hz; cases hz; rw [Huc.out]; exact HuA.out⟩⟩
        case measure => simp [intOf]; omega
    · obtain rfl : k = n := by omega
      have d3 : decide ((k : Int) < (k : Int)) = false := decide_eq_false (by omega)
      go_wp2_with fail
      rw [Exit.noGoto_normal]
      go_wp2_with fail
      go_end0
      refine ⟨rfl, es, ?_, HK.out.2.1, .inl rfl⟩
      rw [doI11 Hop.out, HA.out, Hts2.out]
      rw [wakeL_none (A : Int) ts2 (fun u hu => by
        obtain ⟨j, hj⟩ := List.getElem?_of_mem hu
        exact HK.out.2.2.2 j u (by rw [← Hlen2.out]; exact (List.getElem?_eq_some_iff.1 hj).1) hj)]
      exact HK.out.1
set_option maxHeartbeats 8000000 in
theorem step12_w {w0 w : World} {g : Nat} {T : Nat → Nat} {cv : Nat → Value} {tv es : Value} {D : Wd} (h : St w0 w g T cv tv es D) {i : Nat} {t : Tk} (ht : D.ts[i]? = some t) (hwn : t.wants = -1) {x : I} (hix : insT t = x) (hop : x.f0 = 12) (hpc : t.pc < t.code.length) (hlen : t.code.length ≤ 1000) (hi : i ≤ 1000) (hA : 0 ≤ x.f1 ∧ x.f1 < 16) (hn8 : D.ts.length ≤ 1000) :
    Calls Try.prog 17 #[.pointer (some ⟨g, 0, none⟩), .int .i64 (i : Int)] w (StepEnd w0 w g T cv tv es D.ts.length (doI D i (nxT t) x)) := by
  have hin : i < D.ts.length := (List.getElem?_eq_some_iff.1 ht).1
  obtain ⟨q, cap, htv, hrow⟩ := h.tasks (by omega)
  obtain ⟨Ac, cc, hcv, hcc, hcd⟩ := h.cd i t ht
  obtain ⟨hTB, hTlo⟩ := h.tb i t ht
  obtain ⟨c0, c1, c6, c7, c8, c9⟩ := hTB.cells
  have f1 := hTB.frozen 1
  have g0 := h.wb.cells.1
  have ci := hrow i hin
  obtain ⟨ad, e, X⟩ := atI (keepC hcd (Nat.le_refl _) h.bel) t.pc hpc
  rw [show t.code.getD t.pc zI = x from hix] at X
  obtain ⟨x0, x1, x2, x3⟩ := X
  have HH := Lib.hid (And.intro h (And.intro ht (And.intro hTB hcd)))
  have Htv := Lib.hid htv
  have Hcv := Lib.hid hcv
  have Hix := Lib.hid hix
  have Hop := Lib.hid hop
  have Hwn := Lib.hid hwn
  obtain ⟨n, hn⟩ : ∃ n, D.ts.length = n := ⟨_, rfl⟩
  have Hn := Lib.hid hn
  obtain ⟨cl, hcl⟩ : ∃ cl, t.code.length = cl := ⟨_, rfl⟩
  have Hcl := Lib.hid hcl
  obtain ⟨pc, hpc'⟩ : ∃ pc, t.pc = pc := ⟨_, rfl⟩
  have Hpc := Lib.hid hpc'
  rw [hn] at htv hin
  rw [htv] at g0
  rw [hcv] at c0
  rw [hcl] at c0 hpc hlen
  rw [hpc'] at c1 x0 x1 x2 x3 hpc
  rw [hwn] at c9
  rw [hop] at x0
  subst e
  obtain ⟨b, hb⟩ : ∃ b, T i = b := ⟨_, rfl⟩
  have Hb := Lib.hid hb
  rw [hb] at c0 c1 c6 c7 c8 c9 f1 ci
  have p0 : (0 ≤ (pc : Int)) = True := by simp
  have p1 : ((pc : Int) < cl) = True := eq_true (by omega)
  have p2 : (pc < cl) = True := eq_true hpc
  have q0 : (0 ≤ (i : Int)) = True := by simp
  have q1 : ((i : Int) < n) = True := eq_true (by omega)
  have q2 : (i < n) = True := eq_true hin
  have m1 : IntKind.i64.wrap ((pc : Int) + 1) = (pc : Int) + 1 := by rw [IntWalk.i64_in _ (by omega)]
  obtain ⟨W1, hW1⟩ : ∃ W1, (w.alloc (.cells #[.int .i64 12, .int .i64 x.f1, .int .i64 x.f2, .int .i64 x.f3] 35)).drew = W1 := ⟨_, rfl⟩
  have b1 : Below w.heap.size w W1 := by rw [← hW1]; exact ((Below.refl _ w).alloc (Nat.le_refl _) _).drew
  have k1 : W1.heap[w.heap.size]? = some (obj35 x) := by
    rw [← hW1]
    unfold obj35
    rw [hop]
    exact heap_alloc_new w _
  have d1 := cell_up' c1 b1
  have d9 := cell_up' c9 b1
  have g1 : W1.frozen? ⟨b, 1, none⟩ = false := by rw [← hb]; exact ((h.below b1).tb i t ht).1.frozen 1
  obtain ⟨e0, e1, e2, e3⟩ := obj35_cells k1
  rw [hop] at e0
  obtain ⟨W2, hW2⟩ : ∃ W2, W1.setCell ⟨b, 1, none⟩ (.int .i64 ((pc : Int) + 1)) = W2 := ⟨_, rfl⟩
  have S2 : St w0 W2 g T cv tv es { D with ts := D.ts.set i (nxT t) } := by
    have h1 := (h.below b1).setT (t' := nxT t) (k := 1) (v := .int .i64 ((pc : Int) + 1)) ht rfl (by
      have := ((h.below b1).tb i t ht).1.setPc (pc + 1)
      rw [show ((pc + 1 : Nat) : Int) = (pc : Int) + 1 from by omega] at this
      rw [show nxT t = { t with pc := pc + 1 } from by unfold nxT; rw [hpc']]
      exact this)
    rw [hb, hW2] at h1
    exact h1
  have F2 : Fr (Own g T D.ts.length es) w W2 := by
    rw [← hW2]
    exact (Fr.of_below b1).set _ _ (.inr (.inl ⟨i, by rw [hn]; exact hin, hb.symm⟩))
  have k2 : W2.heap[w.heap.size]? = some (obj35 x) := by
    rw [← hW2]
    rw [heap_setCell_other _ _ _ _ (show w.heap.size ≠ b from by have := hTB.lt; rw [hb] at this; omega)]
    exact k1
  have ht2 : (D.ts.set i (nxT t))[i]? = some (nxT t) := set_get ht
  have T2 := (S2.tb i _ ht2).1
  have hxlt : w.heap.size < W2.heap.size := (Array.getElem?_eq_some_iff.1 k2).1
  have H2 := Lib.hid (And.intro S2 (And.intro F2 (And.intro k2 (And.intro ht2 T2))))
  obtain ⟨y0, y1, y2, y3⟩ := obj35_cells k2
  rw [hop] at y0
  have HW1 := Lib.hid hW1
  have HW2 := Lib.hid hW2
  clear hW1 hW2
  clear h ht hTB hcd hrow htv hcv hix hop hwn hn hcl hpc' hb b1 k1 S2 F2 k2 ht2 T2 hTlo hcc c6 c7 c8
  obtain ⟨A, hA⟩ : ∃ A : Nat, x.f1 = (A : Int) := ⟨x.f1.toNat, by omega⟩
  have lA : A < 16 := by omega
  have HA := Lib.hid hA
  rw [hA] at y1
  have A0 : (0 ≤ (A : Int)) = True := by simp
  have A1 : ((A : Int) < 16) = True := eq_true (by omega)
  have A2 : (A < 16) = True := eq_true lA
  obtain ⟨ts2, hts2⟩ : ∃ ts2, D.ts.set i (nxT t) = ts2 := ⟨_, rfl⟩
  have S2' := H2.out.1
  rw [hts2] at S2'
  have Hlen2 := Lib.hid (show ts2.length = n from by rw [← hts2, List.length_set]; exact Hn.out)
  have Hts2 := Lib.hid hts2
  have S2h := Lib.hid S2'
  have hn8' : n ≤ 1000 := by rw [← Hn.out]; exact hn8
  have HG := Lib.hid (show w.heap.size ≠ g ∧ ∀ j, j < n → T j < w.heap.size from ⟨by have := HH.out.1.wb.lt; omega, fun j hj => (HH.out.1.tb j _ (List.getElem?_eq_getElem (by rw [Hn.out]; exact hj))).1.lt⟩)
  clear hA hts2 S2' hn8 y0 y1 y2 y3
  have y0 := (obj35_cells H2.out.2.2.1).1
  have gw := H2.out.1.wb.cells.1
  rw [Htv.out, Hn.out] at gw
  rw [Hop.out] at y0
  go_enter Try.func17, Try.ntmps17
  go_wp2_with fail
  go_region_held3 (fun w' => w'.cell? ⟨b, 0, none⟩ = some (.slice (some ad) cl cc) ∧ w'.cell? ⟨b, 1, none⟩ = some (.int .i64 (pc : Int)) ∧ w'.cell? (ad.add (pc * 4)) = some (.int .i64 12) ∧ w'.cell? ⟨(ad.add (pc * 4)).block, (ad.add (pc * 4)).off + 1, none⟩ = some (.int .i64 x.f1) ∧ w'.cell? ⟨(ad.add (pc * 4)).block, (ad.add (pc * 4)).off + 2, none⟩ = some (.int .i64 x.f2) ∧ w'.cell? ⟨(ad.add (pc * 4)).block, (ad.add (pc * 4)).off + 3, none⟩ = some (.int .i64 x.f3)) (go_keep) (fail)
  rw [HW1.out]
  clear HW1 c0 c1 c9 x0 x1 x2 x3 f1
  go_wp2_with (first | rw [HW2.out])
  go_step3
  go_wp2_with fail
  go_step3
  go_wp2_with fail
  go_loopw [226] (fun v wr => ∃ k : Nat, k ≤ n ∧ v = .int .i64 (k : Int) ∧ Hid (St w0 wr g T cv tv es { D with ts := preK (A : Int) ts2 k } ∧ Fr (Own g T D.ts.length es) w wr ∧ wr.heap[w.heap.size]? = some (obj35 x))) (fun v _ => n - (intOf v).toNat)
  case atStart => exact ⟨0, by omega, rfl, Lib.hid ⟨by have := S2h.out; simpa [preK] using this, H2.out.2.1, H2.out.2.2.1⟩⟩
  case round =>
    obtain ⟨k, hk, rfl, HK⟩ := hrel
    have m2 : IntKind.i64.wrap ((k : Int) + 1) = (k : Int) + 1 := by rw [IntWalk.i64_in _ (by omega)]
    by_cases hlt : k < n
    · have hkl : k < ts2.length := by rw [Hlen2.out]; exact hlt
      obtain ⟨u, hu⟩ : ∃ u, ts2[k]? = some u := ⟨ts2[k], List.getElem?_eq_getElem hkl⟩
      have Hu := Lib.hid hu
      have huk : ({ D with ts := preK (A : Int) ts2 k } : Wd).ts[k]? = some u := (preK_get hkl).trans hu
      have Huk := Lib.hid huk
      have hkk : k < ({ D with ts := preK (A : Int) ts2 k } : Wd).ts.length := by show k < (preK (A : Int) ts2 k).length; rw [preK_len, Hlen2.out]; exact hlt
      obtain ⟨q', cap', htv', hrow'⟩ := HK.out.1.tasks (by omega)
      have ci' := hrow' k hkk
      have e' := Htv.out.symm.trans htv'
      injection e' with e1 e2 e3
      injection e1 with e1
      injection e1 with e1 _ _
      subst e1
      obtain ⟨hTu, _⟩ := HK.out.1.tb k u huk
      obtain ⟨bk, hbk⟩ : ∃ bk, T k = bk := ⟨_, rfl⟩
      have Hbk := Lib.hid hbk
      have z8 := hTu.cells.2.2.2.2.1
      have f8 := hTu.frozen 8
      rw [hbk] at ci' z8 f8
      obtain ⟨v0, v1, _, _⟩ := obj35_cells HK.out.2.2
      rw [HA.out] at v1
      rw [Hop.out] at v0
      obtain ⟨uc, huc⟩ : ∃ uc, u.cond = uc := ⟨_, rfl⟩
      have Huc := Lib.hid huc
      rw [huc] at z8
      have r0 : (0 ≤ (k : Int)) = True := by simp
      have r1 : ((k : Int) < n) = True := eq_true (by omega)
      have r2 : (k < n) = True := eq_true hlt
      have d3 : decide ((k : Int) < (n : Int)) = true := decide_eq_true (by omega)
      clear hu huk htv' hrow' hTu hbk huc hkl e2 e3 hkk
      by_cases huA : uc = (A : Int)
      · rw [huA] at z8
        have HuA := Lib.hid huA
        clear huA
        go_wp2_with fail
        go_quiet (fail)
        obtain ⟨W3, hW3⟩ : ∃ W3, wr.drewN nq = W3 := ⟨_, rfl⟩
        have bW3 : Below wr.heap.size wr W3 := by rw [← hW3]; exact ⟨rfl, rfl, rfl, Nat.le_refl _, fun _ _ => rfl⟩
        rw [hW3]
        have S3 := HK.out.1.below bW3
        have T3 := (S3.tb k u Huk.out).1
        have k3 := blk_below HK.out.2.2 bW3
        have F3 := HK.out.2.1.below bW3
        have S4 := S3.setT (i := k) (t' := { u with cond := -1 }) (k := 8) (v := .int .i64 (-1)) Huk.out rfl (T3.setCond (-1))
        have z8' := T3.cells.2.2.2.2.1
        have f8' := T3.frozen 8
        rw [Hbk.out] at S4 z8' f8'
        obtain ⟨W4, hW4⟩ : ∃ W4, W3.setCell ⟨bk, 8, none⟩ (.int .i64 (-1)) = W4 := ⟨_, rfl⟩
        have k4 : W4.heap[w.heap.size]? = some (obj35 x) := by
          rw [← hW4, heap_setCell_other _ _ _ _ (show w.heap.size ≠ bk from by have := HG.out.2 k hlt; rw [Hbk.out] at this; omega)]
          exact k3
        have F4 : Fr (Own g T D.ts.length es) w W4 := by rw [← hW4]; exact F3.set ⟨bk, 8, none⟩ _ (.inr (.inl ⟨k, by rw [Hn.out]; exact hlt, Hbk.out.symm⟩))
        rw [hW4] at S4
        have HW4 := Lib.hid hW4
        have HS := Lib.hid (And.intro S4 (And.intro F4 k4))
        obtain ⟨v0', _, _, _⟩ := obj35_cells k4
        rw [Hop.out] at v0'
        clear hW3 bW3 S3 T3 k3 F3 hW4 S4 F4 k4 v0 v1 z8 f8 ci'
        go_wp2_with (first | rw [HW4.out])
        go_roundw
        case rel => exact ⟨k + 1, by omega, by simp, Lib.hid ⟨by
          rw [preK_succ Hu.out, show unC (A : Int) u = { u with cond := -1 } from if_pos (by rw [Huc.out]; exact HuA.out)]
          exact HS.out.1, HS.out.2⟩⟩
        case measure => simp [intOf]; omega
      · have d0 : (uc == (A : Int)) = false := by simpa using huA
        have HuA := Lib.hid huA
        clear huA
        go_wp2_with fail
        go_quiet (fail)
        obtain ⟨W3, hW3⟩ : ∃ W3, wr.drewN nq = W3 := ⟨_, rfl⟩
        have bW3 : Below wr.heap.size wr W3 := by rw [← hW3]; exact ⟨rfl, rfl, rfl, Nat.le_refl _, fun _ _ => rfl⟩
        rw [hW3]
        have HS := Lib.hid (And.intro (HK.out.1.below bW3) (And.intro (HK.out.2.1.below bW3) (blk_below HK.out.2.2 bW3)))
        clear hW3 bW3 v0 v1 z8 f8 ci'
        go_wp2_with fail
        go_roundw
        case rel => exact ⟨k + 1, by omega, by simp, Lib.hid ⟨by
          rw [preK_succ Hu.out, show unC (A : Int) u = u from if_neg (by rw [Huc.out]; exact HuA.out), set_self Huk.out]
          exact HS.out.1, HS.out.2⟩⟩
        case measure => simp [intOf]; omega
    · obtain rfl : k = n := by omega
      have d3 : decide ((k : Int) < (k : Int)) = false := decide_eq_false (by omega)
      go_wp2_with fail
      rw [Exit.noGoto_normal]
      go_wp2_with fail
      go_end0
      refine ⟨rfl, es, ?_, HK.out.2.1, .inl rfl⟩
      rw [doI12 Hop.out, HA.out, Hts2.out]
      rw [wakeL_all, ← preK_end, Hlen2.out]
      exact HK.out.1
set_option maxHeartbeats 8000000 in
theorem step13_w {w0 w : World} {g : Nat} {T : Nat → Nat} {cv : Nat → Value} {tv es : Value} {D : Wd} (h : St w0 w g T cv tv es D) {i : Nat} {t : Tk} (ht : D.ts[i]? = some t) (hwn : t.wants = -1) {x : I} (hix : insT t = x) (hop : x.f0 = 13) (hpc : t.pc < t.code.length) (hlen : t.code.length ≤ 1000) (hi : i ≤ 1000) (hA : 0 ≤ x.f1 ∧ x.f1 < 4) (hE : D.emits.length ≤ 100000000) :
    Calls Try.prog 17 #[.pointer (some ⟨g, 0, none⟩), .int .i64 (i : Int)] w (StepEnd w0 w g T cv tv es D.ts.length (doI D i (nxT t) x)) := by
  have hin : i < D.ts.length := (List.getElem?_eq_some_iff.1 ht).1
  obtain ⟨q, cap, htv, hrow⟩ := h.tasks (by omega)
  obtain ⟨Ac, cc, hcv, hcc, hcd⟩ := h.cd i t ht
  obtain ⟨hTB, hTlo⟩ := h.tb i t ht
  obtain ⟨c0, c1, c6, c7, c8, c9⟩ := hTB.cells
  have f1 := hTB.frozen 1
  have g0 := h.wb.cells.1
  have ci := hrow i hin
  obtain ⟨ad, e, X⟩ := atI (keepC hcd (Nat.le_refl _) h.bel) t.pc hpc
  rw [show t.code.getD t.pc zI = x from hix] at X
  obtain ⟨x0, x1, x2, x3⟩ := X
  have HH := Lib.hid (And.intro h (And.intro ht (And.intro hTB hcd)))
  have Htv := Lib.hid htv
  have Hcv := Lib.hid hcv
  have Hix := Lib.hid hix
  have Hop := Lib.hid hop
  have Hwn := Lib.hid hwn
  obtain ⟨n, hn⟩ : ∃ n, D.ts.length = n := ⟨_, rfl⟩
  have Hn := Lib.hid hn
  obtain ⟨cl, hcl⟩ : ∃ cl, t.code.length = cl := ⟨_, rfl⟩
  have Hcl := Lib.hid hcl
  obtain ⟨pc, hpc'⟩ : ∃ pc, t.pc = pc := ⟨_, rfl⟩
  have Hpc := Lib.hid hpc'
  rw [hn] at htv hin
  rw [htv] at g0
  rw [hcv] at c0
  rw [hcl] at c0 hpc hlen
  rw [hpc'] at c1 x0 x1 x2 x3 hpc
  rw [hwn] at c9
  rw [hop] at x0
  subst e
  obtain ⟨b, hb⟩ : ∃ b, T i = b := ⟨_, rfl⟩
  have Hb := Lib.hid hb
  rw [hb] at c0 c1 c6 c7 c8 c9 f1 ci
  have p0 : (0 ≤ (pc : Int)) = True := by simp
  have p1 : ((pc : Int) < cl) = True := eq_true (by omega)
  have p2 : (pc < cl) = True := eq_true hpc
  have q0 : (0 ≤ (i : Int)) = True := by simp
  have q1 : ((i : Int) < n) = True := eq_true (by omega)
  have q2 : (i < n) = True := eq_true hin
  have m1 : IntKind.i64.wrap ((pc : Int) + 1) = (pc : Int) + 1 := by rw [IntWalk.i64_in _ (by omega)]
  obtain ⟨W1, hW1⟩ : ∃ W1, (w.alloc (.cells #[.int .i64 13, .int .i64 x.f1, .int .i64 x.f2, .int .i64 x.f3] 35)).drew = W1 := ⟨_, rfl⟩
  have b1 : Below w.heap.size w W1 := by rw [← hW1]; exact ((Below.refl _ w).alloc (Nat.le_refl _) _).drew
  have k1 : W1.heap[w.heap.size]? = some (obj35 x) := by
    rw [← hW1]
    unfold obj35
    rw [hop]
    exact heap_alloc_new w _
  have d1 := cell_up' c1 b1
  have d9 := cell_up' c9 b1
  have g1 : W1.frozen? ⟨b, 1, none⟩ = false := by rw [← hb]; exact ((h.below b1).tb i t ht).1.frozen 1
  obtain ⟨e0, e1, e2, e3⟩ := obj35_cells k1
  rw [hop] at e0
  obtain ⟨W2, hW2⟩ : ∃ W2, W1.setCell ⟨b, 1, none⟩ (.int .i64 ((pc : Int) + 1)) = W2 := ⟨_, rfl⟩
  have S2 : St w0 W2 g T cv tv es { D with ts := D.ts.set i (nxT t) } := by
    have h1 := (h.below b1).setT (t' := nxT t) (k := 1) (v := .int .i64 ((pc : Int) + 1)) ht rfl (by
      have := ((h.below b1).tb i t ht).1.setPc (pc + 1)
      rw [show ((pc + 1 : Nat) : Int) = (pc : Int) + 1 from by omega] at this
      rw [show nxT t = { t with pc := pc + 1 } from by unfold nxT; rw [hpc']]
      exact this)
    rw [hb, hW2] at h1
    exact h1
  have F2 : Fr (Own g T D.ts.length es) w W2 := by
    rw [← hW2]
    exact (Fr.of_below b1).set _ _ (.inr (.inl ⟨i, by rw [hn]; exact hin, hb.symm⟩))
  have k2 : W2.heap[w.heap.size]? = some (obj35 x) := by
    rw [← hW2]
    rw [heap_setCell_other _ _ _ _ (show w.heap.size ≠ b from by have := hTB.lt; rw [hb] at this; omega)]
    exact k1
  have ht2 : (D.ts.set i (nxT t))[i]? = some (nxT t) := set_get ht
  have T2 := (S2.tb i _ ht2).1
  have hxlt : w.heap.size < W2.heap.size := (Array.getElem?_eq_some_iff.1 k2).1
  have H2 := Lib.hid (And.intro S2 (And.intro F2 (And.intro k2 (And.intro ht2 T2))))
  obtain ⟨y0, y1, y2, y3⟩ := obj35_cells k2
  rw [hop] at y0
  have HW1 := Lib.hid hW1
  have HW2 := Lib.hid hW2
  clear hW1 hW2
  clear h ht hTB hcd hrow htv hcv hix hop hwn hn hcl hpc' hb b1 k1 S2 F2 k2 ht2 T2 hTlo hcc c6 c7 c8
  obtain ⟨A, hA⟩ : ∃ A : Nat, x.f1 = (A : Int) := ⟨x.f1.toNat, by omega⟩
  have lA : A < 4 := by omega
  have HA := Lib.hid hA
  rw [hA] at y1
  have A0 : (0 ≤ (A : Int)) = True := by simp
  have A1 : ((A : Int) < 4) = True := eq_true (by omega)
  have A2 : (A < 4) = True := eq_true lA
  have zA := H2.out.2.2.2.2.reg lA
  rw [Hb.out] at zA
  have fzA := H2.out.2.2.2.2.frozen (2 + A)
  rw [Hb.out] at fzA
  obtain ⟨v, hv⟩ : ∃ v, (nxT t).r.getD A 0 = v := ⟨_, rfl⟩
  have Hv := Lib.hid hv
  rw [hv] at zA
  clear hv hA
  have ge := H2.out.1.wb.cells.2
  have fe := H2.out.1.wb.frozen 33
  have hsz := H2.out.1.bel.size
  obtain ⟨v1, w5, hrun, hown, hg5, hat⟩ := run_appendE (w := W2.drew) (y := ⟨(i : Int), v⟩) H2.out.1.drew.em hE hsz
  obtain ⟨q5, cap5, hv1⟩ : ∃ q5 cap5, v1 = .slice (some ⟨q5, 0, none⟩) (D.emits.length + 1) cap5 := by
    rcases hown.2 with ⟨_, h0⟩ | ⟨q5, cap5, cur, e, _⟩
    · simp at h0
    · exact ⟨q5, cap5, by rw [e]; simp⟩
  subst hv1
  obtain ⟨wb5, _, S6⟩ := H2.out.1.drew.emit hown hg5
  have ge2 := cell_up (o := .cells #[.int .i64 (i : Int), .int .i64 v] 32) ge
  have f5 := wb5.frozen 33
  have c5 := wb5.cells.2
  have F6 : Fr (Own g T D.ts.length es) w (w5.setCell ⟨g, 33, none⟩ (.slice (some ⟨q5, 0, none⟩) (D.emits.length + 1) cap5)) := by
    have f1 : Fr (Own g T D.ts.length es) w (W2.drew.alloc (.cells #[.int .i64 (i : Int), .int .i64 v] 32)) := H2.out.2.1.drew.below ((Below.refl _ _).alloc (Nat.le_refl _) _)
    have f2 : Fr (fun k => es.ownBlock = some k) (W2.drew.alloc (.cells #[.int .i64 (i : Int), .int .i64 v] 32)) w5 := ⟨hg5.os, hg5.tape, hg5.output, hg5.size, fun b hb hn => hg5.block b hb (fun e => hn e.symm)⟩
    exact (f1.trans f2 (fun b _ h => .inr (.inr h))).set ⟨g, 33, none⟩ (.slice (some ⟨q5, 0, none⟩) (D.emits.length + 1) cap5) (.inl rfl)
  have hf2 := H2.out.2.1.size
  have HS := Lib.hid (And.intro S6 (And.intro F6 (show (Value.slice (some ⟨q5, 0, none⟩) (D.emits.length + 1) cap5) = es ∨ (Value.slice (some ⟨q5, 0, none⟩) (D.emits.length + 1) cap5).ownBlock = es.ownBlock ∨ ∃ b, (Value.slice (some ⟨q5, 0, none⟩) (D.emits.length + 1) cap5).ownBlock = some b ∧ w.heap.size ≤ b from by
    rcases hat with e | e
    · exact .inr (.inl e)
    · exact .inr (.inr ⟨_, e, by show w.heap.size ≤ W2.heap.size + 1; omega⟩))))
  clear hown hg5 hat S6 F6 wb5 hf2
  go_enter Try.func17, Try.ntmps17
  go_wp2_with fail
  go_region_held3 (fun w' => w'.cell? ⟨b, 0, none⟩ = some (.slice (some ad) cl cc) ∧ w'.cell? ⟨b, 1, none⟩ = some (.int .i64 (pc : Int)) ∧ w'.cell? (ad.add (pc * 4)) = some (.int .i64 13) ∧ w'.cell? ⟨(ad.add (pc * 4)).block, (ad.add (pc * 4)).off + 1, none⟩ = some (.int .i64 x.f1) ∧ w'.cell? ⟨(ad.add (pc * 4)).block, (ad.add (pc * 4)).off + 2, none⟩ = some (.int .i64 x.f2) ∧ w'.cell? ⟨(ad.add (pc * 4)).block, (ad.add (pc * 4)).off + 3, none⟩ = some (.int .i64 x.f3)) (go_keep) (fail)
  rw [HW1.out]
  clear HW1 c0 c1 c9 x0 x1 x2 x3 f1
  go_wp2_with (first | rw [HW2.out])
  go_region_law (first | (refine step_append_run rfl _ _ 25 rfl _ _ _ _ rfl rfl hrun ?_))
  all_goals (
    go_wp2_with fail
    go_end0
    refine ⟨rfl, _, ?_, HS.out.2.1, HS.out.2.2⟩
    rw [doI13 Hop.out, HA.out, Int.toNat_natCast, Hv.out]
    exact HS.out.1)
set_option maxHeartbeats 8000000 in
theorem step14_w {w0 w : World} {g : Nat} {T : Nat → Nat} {cv : Nat → Value} {tv es : Value} {D : Wd} (h : St w0 w g T cv tv es D) {i : Nat} {t : Tk} (ht : D.ts[i]? = some t) (hwn : t.wants = -1) {x : I} (hix : insT t = x) (hop : x.f0 = 14) (hpc : t.pc < t.code.length) (hlen : t.code.length ≤ 1000) (hi : i ≤ 1000) :
    Calls Try.prog 17 #[.pointer (some ⟨g, 0, none⟩), .int .i64 (i : Int)] w (StepEnd w0 w g T cv tv es D.ts.length (doI D i (nxT t) x)) := by
  have hin : i < D.ts.length := (List.getElem?_eq_some_iff.1 ht).1
  obtain ⟨q, cap, htv, hrow⟩ := h.tasks (by omega)
  obtain ⟨Ac, cc, hcv, hcc, hcd⟩ := h.cd i t ht
  obtain ⟨hTB, hTlo⟩ := h.tb i t ht
  obtain ⟨c0, c1, c6, c7, c8, c9⟩ := hTB.cells
  have f1 := hTB.frozen 1
  have g0 := h.wb.cells.1
  have ci := hrow i hin
  obtain ⟨ad, e, X⟩ := atI (keepC hcd (Nat.le_refl _) h.bel) t.pc hpc
  rw [show t.code.getD t.pc zI = x from hix] at X
  obtain ⟨x0, x1, x2, x3⟩ := X
  have HH := Lib.hid (And.intro h (And.intro ht (And.intro hTB hcd)))
  have Htv := Lib.hid htv
  have Hcv := Lib.hid hcv
  have Hix := Lib.hid hix
  have Hop := Lib.hid hop
  have Hwn := Lib.hid hwn
  obtain ⟨n, hn⟩ : ∃ n, D.ts.length = n := ⟨_, rfl⟩
  have Hn := Lib.hid hn
  obtain ⟨cl, hcl⟩ : ∃ cl, t.code.length = cl := ⟨_, rfl⟩
  have Hcl := Lib.hid hcl
  obtain ⟨pc, hpc'⟩ : ∃ pc, t.pc = pc := ⟨_, rfl⟩
  have Hpc := Lib.hid hpc'
  rw [hn] at htv hin
  rw [htv] at g0
  rw [hcv] at c0
  rw [hcl] at c0 hpc hlen
  rw [hpc'] at c1 x0 x1 x2 x3 hpc
  rw [hwn] at c9
  rw [hop] at x0
  subst e
  obtain ⟨b, hb⟩ : ∃ b, T i = b := ⟨_, rfl⟩
  have Hb := Lib.hid hb
  rw [hb] at c0 c1 c6 c7 c8 c9 f1 ci
  have p0 : (0 ≤ (pc : Int)) = True := by simp
  have p1 : ((pc : Int) < cl) = True := eq_true (by omega)
  have p2 : (pc < cl) = True := eq_true hpc
  have q0 : (0 ≤ (i : Int)) = True := by simp
  have q1 : ((i : Int) < n) = True := eq_true (by omega)
  have q2 : (i < n) = True := eq_true hin
  have m1 : IntKind.i64.wrap ((pc : Int) + 1) = (pc : Int) + 1 := by rw [IntWalk.i64_in _ (by omega)]
  obtain ⟨W1, hW1⟩ : ∃ W1, (w.alloc (.cells #[.int .i64 14, .int .i64 x.f1, .int .i64 x.f2, .int .i64 x.f3] 35)).drew = W1 := ⟨_, rfl⟩
  have b1 : Below w.heap.size w W1 := by rw [← hW1]; exact ((Below.refl _ w).alloc (Nat.le_refl _) _).drew
  have k1 : W1.heap[w.heap.size]? = some (obj35 x) := by
    rw [← hW1]
    unfold obj35
    rw [hop]
    exact heap_alloc_new w _
  have d1 := cell_up' c1 b1
  have d9 := cell_up' c9 b1
  have g1 : W1.frozen? ⟨b, 1, none⟩ = false := by rw [← hb]; exact ((h.below b1).tb i t ht).1.frozen 1
  obtain ⟨e0, e1, e2, e3⟩ := obj35_cells k1
  rw [hop] at e0
  obtain ⟨W2, hW2⟩ : ∃ W2, W1.setCell ⟨b, 1, none⟩ (.int .i64 ((pc : Int) + 1)) = W2 := ⟨_, rfl⟩
  have S2 : St w0 W2 g T cv tv es { D with ts := D.ts.set i (nxT t) } := by
    have h1 := (h.below b1).setT (t' := nxT t) (k := 1) (v := .int .i64 ((pc : Int) + 1)) ht rfl (by
      have := ((h.below b1).tb i t ht).1.setPc (pc + 1)
      rw [show ((pc + 1 : Nat) : Int) = (pc : Int) + 1 from by omega] at this
      rw [show nxT t = { t with pc := pc + 1 } from by unfold nxT; rw [hpc']]
      exact this)
    rw [hb, hW2] at h1
    exact h1
  have F2 : Fr (Own g T D.ts.length es) w W2 := by
    rw [← hW2]
    exact (Fr.of_below b1).set _ _ (.inr (.inl ⟨i, by rw [hn]; exact hin, hb.symm⟩))
  have k2 : W2.heap[w.heap.size]? = some (obj35 x) := by
    rw [← hW2]
    rw [heap_setCell_other _ _ _ _ (show w.heap.size ≠ b from by have := hTB.lt; rw [hb] at this; omega)]
    exact k1
  have ht2 : (D.ts.set i (nxT t))[i]? = some (nxT t) := set_get ht
  have T2 := (S2.tb i _ ht2).1
  have hxlt : w.heap.size < W2.heap.size := (Array.getElem?_eq_some_iff.1 k2).1
  have H2 := Lib.hid (And.intro S2 (And.intro F2 (And.intro k2 (And.intro ht2 T2))))
  obtain ⟨y0, y1, y2, y3⟩ := obj35_cells k2
  rw [hop] at y0
  have HW1 := Lib.hid hW1
  have HW2 := Lib.hid hW2
  clear hW1 hW2
  clear h ht hTB hcd hrow htv hcv hix hop hwn hn hcl hpc' hb b1 k1 S2 F2 k2 ht2 T2 hTlo hcc c6 c7 c8
  have fz := H2.out.2.2.2.2.frozen 6
  rw [Hb.out] at fz
  have z1 := H2.out.2.2.2.2.cells.2.2.1
  rw [Hb.out] at z1
  have S3 := (H2.out.1.setT (i := i) (t := nxT t) (t' := { nxT t with ended := true }) (k := 6) (v := .bool true) H2.out.2.2.2.1 rfl (H2.out.2.2.2.2.setEnded true))
  rw [Hb.out] at S3
  have F3 : Fr (Own g T D.ts.length es) w (W2.setCell ⟨b, 6, none⟩ (.bool true)) := (H2.out.2.1.set ⟨b, 6, none⟩ _ (.inr (.inl ⟨i, by rw [Hn.out]; exact hin, Hb.out.symm⟩)))
  have k3 : (W2.setCell ⟨b, 6, none⟩ (.bool true)).heap[w.heap.size]? = some (obj35 x) := by
    show (W2.setCell ⟨b, 6, none⟩ (.bool true)).heap[w.heap.size]? = _
    rw [heap_setCell_other _ _ _ _ (show w.heap.size ≠ b from by have := HH.out.2.2.1.lt; rw [Hb.out] at this; omega)]
    exact H2.out.2.2.1
  have HS := Lib.hid (And.intro S3 F3)
  clear S3 F3 k3
  go_enter Try.func17, Try.ntmps17
  go_wp2_with fail
  go_region_held3 (fun w' => w'.cell? ⟨b, 0, none⟩ = some (.slice (some ad) cl cc) ∧ w'.cell? ⟨b, 1, none⟩ = some (.int .i64 (pc : Int)) ∧ w'.cell? (ad.add (pc * 4)) = some (.int .i64 14) ∧ w'.cell? ⟨(ad.add (pc * 4)).block, (ad.add (pc * 4)).off + 1, none⟩ = some (.int .i64 x.f1) ∧ w'.cell? ⟨(ad.add (pc * 4)).block, (ad.add (pc * 4)).off + 2, none⟩ = some (.int .i64 x.f2) ∧ w'.cell? ⟨(ad.add (pc * 4)).block, (ad.add (pc * 4)).off + 3, none⟩ = some (.int .i64 x.f3)) (go_keep) (fail)
  rw [HW1.out]
  clear HW1 c0 c1 c9 x0 x1 x2 x3 f1
  go_wp2_with (first | rw [HW2.out])
  go_end0
  have hs := HS.out.1
  try simp only [List.set_set] at hs
  refine ⟨rfl, es, ?_, HS.out.2, .inl rfl⟩
  rw [doI14 Hop.out]
  exact hs
end Go.Proofs.Ytkcjghdopmigoaa.SC
