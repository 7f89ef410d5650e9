/- sched: a task does an instruction: a task that wants a mutex; all together. -/
import Derived.Test.YtkcjghdopmigoaaSJ
import Derived.Test.YtkcjghdopmigoaaSK
import Derived.Test.YtkcjghdopmigoaaSL
namespace Go.Proofs.Ytkcjghdopmigoaa.SC
open Go.RowKit Go.Proofs.YtkcjghdopmigoaaW.PrintWords
set_option linter.unusedVariables false
set_option linter.unusedSimpArgs false
set_option maxRecDepth 100000
set_option maxHeartbeats 8000000 in
theorem stepwants_w {w0 w : World} {g : Nat} {T : Nat → Nat} {cv : Nat → Value} {tv es : Value} {D : Wd} (h : St w0 w g T cv tv es D) {i : Nat} {t : Tk} (ht : D.ts[i]? = some t) (m : Nat) (hwn : t.wants = (m : Int)) (hm : m < 16) {x : I} (hix : insT t = x) (hpc : t.pc < t.code.length) (hlen : t.code.length ≤ 1000) (hi : i ≤ 1000) :
    Calls Try.prog 17 #[.pointer (some ⟨g, 0, none⟩), .int .i64 (i : Int)] w (StepEnd w0 w g T cv tv es D.ts.length (stepW D i t)) := by
  have hin : i < D.ts.length := (List.getElem?_eq_some_iff.1 ht).1
  obtain ⟨q, cap, htv, hrow⟩ := h.tasks (by omega)
  obtain ⟨Ac, cc, hcv, hcc, hcd⟩ := h.cd i t ht
  obtain ⟨hTB, hTlo⟩ := h.tb i t ht
  obtain ⟨c0, c1, c6, c7, c8, c9⟩ := hTB.cells
  have f1 := hTB.frozen 1
  have g0 := h.wb.cells.1
  have ci := hrow i hin
  obtain ⟨ad, e, X⟩ := atI (keepC hcd (Nat.le_refl _) h.bel) t.pc hpc
  rw [show t.code.getD t.pc zI = x from hix] at X
  obtain ⟨x0, x1, x2, x3⟩ := X
  have HH := Lib.hid (And.intro h (And.intro ht (And.intro hTB hcd)))
  have Htv := Lib.hid htv
  have Hcv := Lib.hid hcv
  have Hix := Lib.hid hix
  have Hwn := Lib.hid hwn
  obtain ⟨n, hn⟩ : ∃ n, D.ts.length = n := ⟨_, rfl⟩
  have Hn := Lib.hid hn
  obtain ⟨cl, hcl⟩ : ∃ cl, t.code.length = cl := ⟨_, rfl⟩
  have Hcl := Lib.hid hcl
  obtain ⟨pc, hpc'⟩ : ∃ pc, t.pc = pc := ⟨_, rfl⟩
  have Hpc := Lib.hid hpc'
  rw [hn] at htv hin
  rw [htv] at g0
  rw [hcv] at c0
  rw [hcl] at c0 hpc hlen
  rw [hpc'] at c1 x0 x1 x2 x3 hpc
  rw [hwn] at c9
  subst e
  obtain ⟨b, hb⟩ : ∃ b, T i = b := ⟨_, rfl⟩
  have Hb := Lib.hid hb
  rw [hb] at c0 c1 c6 c7 c8 c9 f1 ci
  have p0 : (0 ≤ (pc : Int)) = True := by simp
  have p1 : ((pc : Int) < cl) = True := eq_true (by omega)
  have p2 : (pc < cl) = True := eq_true hpc
  have q0 : (0 ≤ (i : Int)) = True := by simp
  have q1 : ((i : Int) < n) = True := eq_true (by omega)
  have q2 : (i < n) = True := eq_true hin
  have m1 : IntKind.i64.wrap ((pc : Int) + 1) = (pc : Int) + 1 := by rw [IntWalk.i64_in _ (by omega)]
  have wq := Lib.hid (show stepW D i t = { D with ts := D.ts.set i { t with wants := -1, pc := t.pc + 1 }, has := D.has.set m (i : Int) } from by
    unfold stepW
    rw [if_pos (by rw [hwn]; omega), hwn, Int.toNat_natCast])
  obtain ⟨W1, hW1⟩ : ∃ W1, (w.alloc (.cells #[.int .i64 x.f0, .int .i64 x.f1, .int .i64 x.f2, .int .i64 x.f3] 35)).drew = W1 := ⟨_, rfl⟩
  have b1 : Below w.heap.size w W1 := by rw [← hW1]; exact ((Below.refl _ w).alloc (Nat.le_refl _) _).drew
  have S1 := h.below b1
  have ht1 : D.ts[i]? = some t := ht
  have T1 := (S1.tb i t ht1).1
  have zm := S1.wb.hasc hm
  have fm := S1.wb.frozen (17 + m)
  have z9 := T1.cells.2.2.2.2.2
  have f9 := T1.frozen 9
  rw [hwn] at z9
  have S2 := S1.setG (k := 17 + m) (v := .int .i64 (i : Int)) (c := D.cells) (hs := D.has.set m (i : Int)) (S1.wb.setHas hm (i : Int))
  have T2 := (S2.tb i t ht1).1
  have S3 := (S2.setT (i := i) (t' := { t with wants := -1 }) (k := 9) (v := .int .i64 (-1)) ht1 rfl (T2.setWants (-1))).drew
  have ht3 : (D.ts.set i { t with wants := -1 })[i]? = some { t with wants := -1 } := set_get ht1
  have T3 := (S3.tb i _ ht3).1
  have z1 := T3.cells.2.1
  have f31 := T3.frozen 1
  have S4 := S3.setT (i := i) (t' := { t with wants := -1, pc := pc + 1 }) (k := 1) (v := .int .i64 ((pc + 1 : Nat) : Int)) ht3 rfl (T3.setPc (pc + 1))
  rw [show ((({ t with wants := -1 } : Tk).pc : Nat) : Int) = (pc : Int) from by show (t.pc : Int) = _; rw [hpc']] at z1
  rw [hb] at z9 f9 S3 z1 f31 S4
  rw [show ((pc + 1 : Nat) : Int) = (pc : Int) + 1 from by omega] at S4
  obtain ⟨W3, hW3⟩ : ∃ W3, ((W1.setCell ⟨g, 17 + m, none⟩ (.int .i64 (i : Int))).setCell ⟨b, 9, none⟩ (.int .i64 (-1))).drew = W3 := ⟨_, rfl⟩
  have hown : Own g T D.ts.length es b := .inr (.inl ⟨i, by rw [hn]; exact hin, hb.symm⟩)
  have F3 : Fr (Own g T D.ts.length es) w W3 := by rw [← hW3]; exact (((Fr.of_below b1).set ⟨g, 17 + m, none⟩ _ (.inl rfl)).set ⟨b, 9, none⟩ _ hown).drew
  rw [hW3] at S4 z1 f31
  have HS := Lib.hid (And.intro S4 (F3.set ⟨b, 1, none⟩ (.int .i64 ((pc : Int) + 1)) hown))
  have HW1 := Lib.hid hW1
  have HW3 := Lib.hid hW3
  have HY := Lib.hid (And.intro z1 f31)
  have HZ := Lib.hid (And.intro zm (And.intro fm (And.intro z9 f9)))
  have M0 : (0 ≤ (m : Int)) = True := by simp
  have M1 : ((m : Int) < 16) = True := eq_true (by omega)
  have M2 : (m < 16) = True := eq_true hm
  have d0 : ((m : Int) == -1) = false := by simp
  have d1 := cell_up' c9 b1
  clear h ht hTB hcd hrow htv hcv hix hwn hn hcl hpc' hb b1 hTlo hcc c6 c7 c8 S1 ht1 T1 zm fm z9 f9 S2 T2 S3 ht3 T3 z1 f31 S4 hown F3 hW1 hW3
  go_enter Try.func17, Try.ntmps17
  go_wp2_with fail
  go_region_held3 (fun w' => w'.cell? ⟨b, 0, none⟩ = some (.slice (some ad) cl cc) ∧ w'.cell? ⟨b, 1, none⟩ = some (.int .i64 (pc : Int)) ∧ w'.cell? (ad.add (pc * 4)) = some (.int .i64 x.f0) ∧ w'.cell? ⟨(ad.add (pc * 4)).block, (ad.add (pc * 4)).off + 1, none⟩ = some (.int .i64 x.f1) ∧ w'.cell? ⟨(ad.add (pc * 4)).block, (ad.add (pc * 4)).off + 2, none⟩ = some (.int .i64 x.f2) ∧ w'.cell? ⟨(ad.add (pc * 4)).block, (ad.add (pc * 4)).off + 3, none⟩ = some (.int .i64 x.f3)) (go_keep) (fail)
  rw [HW1.out]
  clear HW1 c0 c1 c9 x0 x1 x2 x3 f1
  obtain ⟨zm, fm, z9, f9⟩ := HZ.out
  go_wp2_with fail
  go_region
  all_goals (
    rw [HW3.out]
    clear HW3 zm fm z9 f9 d1
    obtain ⟨z1, f31⟩ := HY.out
    go_wp2_with fail
    refine bodyPost_ret (results_none rfl _ _ _) rfl ?_
    have hs := HS.out.1
    try simp only [List.set_set] at hs
    refine ⟨rfl, es, ?_, HS.out.2, .inl rfl⟩
    rw [wq.out, Hpc.out]
    exact hs)
/-- A task as the program lays and keeps it. -/
structure TOk (t : Tk) : Prop where
  code : ∀ x ∈ t.code, goodB x t.code.length = true
  len : t.code.length ≤ 64
  pc : t.pc ≤ t.code.length
  run : t.ended = false → t.pc < t.code.length
  w1 : -1 ≤ t.wants
  w2 : t.wants < 16
theorem regB_iff {n : Int} : regB n = true ↔ 0 ≤ n ∧ n < 4 := by unfold regB; simp
theorem celB_iff {n : Int} : celB n = true ↔ 0 ≤ n ∧ n < 16 := by unfold celB; simp
theorem plcB_iff {n : Int} {l : Nat} : plcB n l = true ↔ 0 ≤ n ∧ n ≤ l := by unfold plcB; simp; omega
theorem goodB_1 {x : I} {n : Nat} (h : x.f0 = 1) : goodB x n = (regB x.f1 && celB x.f2) := by unfold goodB; rw [h]; rfl
theorem goodB_2 {x : I} {n : Nat} (h : x.f0 = 2) : goodB x n = (celB x.f1 && regB x.f2) := by unfold goodB; rw [h]; rfl
theorem goodB_3 {x : I} {n : Nat} (h : x.f0 = 3) : goodB x n = (celB x.f1 && (regB x.f2 && regB x.f3)) := by unfold goodB; rw [h]; rfl
theorem goodB_10 {x : I} {n : Nat} (h : x.f0 = 10) : goodB x n = (celB x.f1 && celB x.f2) := by unfold goodB; rw [h]; rfl
theorem goodB_8 {x : I} {n : Nat} (h : x.f0 = 8) : goodB x n = (celB x.f1) := by unfold goodB; rw [h]; rfl
theorem goodB_9 {x : I} {n : Nat} (h : x.f0 = 9) : goodB x n = (celB x.f1) := by unfold goodB; rw [h]; rfl
theorem goodB_11 {x : I} {n : Nat} (h : x.f0 = 11) : goodB x n = (celB x.f1) := by unfold goodB; rw [h]; rfl
theorem goodB_12 {x : I} {n : Nat} (h : x.f0 = 12) : goodB x n = (celB x.f1) := by unfold goodB; rw [h]; rfl
theorem goodB_6 {x : I} {n : Nat} (h : x.f0 = 6) : goodB x n = (regB x.f1 && plcB x.f2 n) := by unfold goodB; rw [h]; rfl
theorem goodB_7 {x : I} {n : Nat} (h : x.f0 = 7) : goodB x n = (plcB x.f2 n) := by unfold goodB; rw [h]; rfl
theorem goodB_4 {x : I} {n : Nat} (h : x.f0 = 4) : goodB x n = (regB x.f1) := by unfold goodB; rw [h]; rfl
theorem goodB_5 {x : I} {n : Nat} (h : x.f0 = 5) : goodB x n = (regB x.f1) := by unfold goodB; rw [h]; rfl
theorem goodB_13 {x : I} {n : Nat} (h : x.f0 = 13) : goodB x n = (regB x.f1) := by unfold goodB; rw [h]; rfl
theorem canW_yes {D : Wd} {t : Tk} (h : canW D t = true) : t.ended = false ∧ t.bad = false ∧ t.cond = -1 := by
  unfold canW at h
  by_cases hc : t.ended = true ∨ t.bad = true ∨ t.cond ≠ -1
  · rw [if_pos hc] at h; cases h
  · refine ⟨?_, ?_, ?_⟩
    · cases he : t.ended
      · rfl
      · exact absurd (.inl he) hc
    · cases he : t.bad
      · rfl
      · exact absurd (.inr (.inl he)) hc
    · by_cases he : t.cond = -1
      · exact he
      · exact absurd (.inr (.inr he)) hc
theorem TOk.ins {t : Tk} (h : TOk t) (hp : t.pc < t.code.length) : goodB (insT t) t.code.length = true := h.code _ (by
  unfold insT
  rw [List.getD_eq_getElem?_getD, List.getElem?_eq_getElem hp]
  exact List.getElem_mem _)
theorem step_w {w0 w : World} {g : Nat} {T : Nat → Nat} {cv : Nat → Value} {tv es : Value} {D : Wd} (h : St w0 w g T cv tv es D) {i : Nat} {t : Tk} (ht : D.ts[i]? = some t) (hk : TOk t) (hcan : canW D t = true) (hn8 : D.ts.length ≤ 8) (hE : D.emits.length ≤ 100000000) :
    Calls Try.prog 17 #[.pointer (some ⟨g, 0, none⟩), .int .i64 (i : Int)] w (StepEnd w0 w g T cv tv es D.ts.length (stepW D i t)) := by
  obtain ⟨he, hb, hc⟩ := canW_yes hcan
  have hp := hk.run he
  have hl := hk.len
  have hi : i < D.ts.length := (List.getElem?_eq_some_iff.1 ht).1
  by_cases hwn : t.wants = -1
  · have hst : stepW D i t = doI D i (nxT t) (insT t) := by unfold stepW; rw [if_neg (fun h => h hwn)]
    rw [hst]
    have hg := hk.ins hp
    obtain ⟨x, hx⟩ : ∃ x, insT t = x := ⟨_, rfl⟩
    rw [hx] at hg ⊢
    by_cases h1 : x.f0 = 1
    · rw [goodB_1 h1] at hg
      simp only [Bool.and_eq_true, regB_iff, celB_iff, plcB_iff] at hg
      exact step1_w h ht hwn hx h1 hp (by omega) (by omega) hg.1 hg.2
    by_cases h2 : x.f0 = 2
    · rw [goodB_2 h2] at hg
      simp only [Bool.and_eq_true, regB_iff, celB_iff, plcB_iff] at hg
      exact step2_w h ht hwn hx h2 hp (by omega) (by omega) hg.1 hg.2
    by_cases h3 : x.f0 = 3
    · rw [goodB_3 h3] at hg
      simp only [Bool.and_eq_true, regB_iff, celB_iff, plcB_iff] at hg
      exact step3_w h ht hwn hx h3 hp (by omega) (by omega) hg.1 hg.2.1 hg.2.2
    by_cases h10 : x.f0 = 10
    · rw [goodB_10 h10] at hg
      simp only [Bool.and_eq_true, regB_iff, celB_iff, plcB_iff] at hg
      exact step10_w h ht hwn hx h10 hp (by omega) (by omega) hg.1 hg.2 hb
    by_cases h8 : x.f0 = 8
    · rw [goodB_8 h8] at hg
      simp only [Bool.and_eq_true, regB_iff, celB_iff, plcB_iff] at hg
      exact step8_w h ht hwn hx h8 hp (by omega) (by omega) hg
    by_cases h9 : x.f0 = 9
    · rw [goodB_9 h9] at hg
      simp only [Bool.and_eq_true, regB_iff, celB_iff, plcB_iff] at hg
      exact step9_w h ht hwn hx h9 hp (by omega) (by omega) hg
    by_cases h11 : x.f0 = 11
    · rw [goodB_11 h11] at hg
      simp only [Bool.and_eq_true, regB_iff, celB_iff, plcB_iff] at hg
      exact step11_w h ht hwn hx h11 hp (by omega) (by omega) hg (by omega)
    by_cases h12 : x.f0 = 12
    · rw [goodB_12 h12] at hg
      simp only [Bool.and_eq_true, regB_iff, celB_iff, plcB_iff] at hg
      exact step12_w h ht hwn hx h12 hp (by omega) (by omega) hg (by omega)
    by_cases h6 : x.f0 = 6
    · rw [goodB_6 h6] at hg
      simp only [Bool.and_eq_true, regB_iff, celB_iff, plcB_iff] at hg
      exact step6_w h ht hwn hx h6 hp (by omega) (by omega) hg.1 hg.2
    by_cases h7 : x.f0 = 7
    · rw [goodB_7 h7] at hg
      simp only [Bool.and_eq_true, regB_iff, celB_iff, plcB_iff] at hg
      exact step7_w h ht hwn hx h7 hp (by omega) (by omega) hg
    by_cases h4 : x.f0 = 4
    · rw [goodB_4 h4] at hg
      simp only [Bool.and_eq_true, regB_iff, celB_iff, plcB_iff] at hg
      exact step4_w h ht hwn hx h4 hp (by omega) (by omega) hg
    by_cases h5 : x.f0 = 5
    · rw [goodB_5 h5] at hg
      simp only [Bool.and_eq_true, regB_iff, celB_iff, plcB_iff] at hg
      exact step5_w h ht hwn hx h5 hp (by omega) (by omega) hg
    by_cases h13 : x.f0 = 13
    · rw [goodB_13 h13] at hg
      simp only [Bool.and_eq_true, regB_iff, celB_iff, plcB_iff] at hg
      exact step13_w h ht hwn hx h13 hp (by omega) (by omega) hg hE
    have h14 : x.f0 = 14 := by
      rw [goodB_else (fun k hk => by rcases hk with rfl | rfl | rfl | rfl | rfl | rfl | rfl | rfl | rfl | rfl | rfl | rfl | rfl <;> assumption)] at hg
      simpa using hg
    exact step14_w h ht hwn hx h14 hp (by omega) (by omega)
  · have h1 := hk.w1
    have h2 := hk.w2
    obtain ⟨m, hm⟩ : ∃ m : Nat, t.wants = (m : Int) := ⟨t.wants.toNat, by omega⟩
    exact stepwants_w h ht m hm (by omega) rfl hp (by omega) (by omega)
end Go.Proofs.Ytkcjghdopmigoaa.SC
