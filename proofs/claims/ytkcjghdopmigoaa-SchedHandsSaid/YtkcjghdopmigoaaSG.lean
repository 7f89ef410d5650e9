/- sched: can a task go; a mutex is given back; what a task is. -/
import Derived.Test.YtkcjghdopmigoaaSF
namespace Go.Proofs.Ytkcjghdopmigoaa.SC
open Go.RowKit Go.Proofs.YtkcjghdopmigoaaW.PrintWords
set_option linter.unusedVariables false
set_option linter.unusedSimpArgs false
set_option maxRecDepth 100000

/-- Where the tasks' world lies. -/
def WB (w : World) (g : Nat) (tv es : Value) (c h : List Int) : Prop := w.heap[g]? = some (.cells (wArr tv es c h).toArray 44 (0, 0)) ∧ c.length = 16 ∧ h.length = 16
section
variable {w w1 : World} {g : Nat} {tv es : Value} {c h : List Int}
theorem wArr_cel (hc : c.length = 16) {a : Nat} (ha : a < 16) : (wArr tv es c h)[1 + a]? = some (.int .i64 (c.getD a 0)) := by
  unfold wArr
  rw [Nat.add_comm, List.getElem?_cons_succ, List.getElem?_append_left (by simp [nums, hc, ha])]
  simp [nums, List.getD_eq_getElem?_getD, hc, ha]
theorem wArr_has (hc : c.length = 16) (hh : h.length = 16) {a : Nat} (ha : a < 16) : (wArr tv es c h)[17 + a]? = some (.int .i64 (h.getD a 0)) := by
  unfold wArr
  rw [show 17 + a = (16 + a) + 1 by omega, List.getElem?_cons_succ, List.getElem?_append_right (by simp [nums, hc]), List.getElem?_append_left (by simp [nums, hc, hh, ha])]
  simp [nums, List.getD_eq_getElem?_getD, hc, hh, ha]
theorem wArr_es (hc : c.length = 16) (hh : h.length = 16) : (wArr tv es c h)[33]? = some es := by
  unfold wArr
  rw [show 33 = 32 + 1 by omega, List.getElem?_cons_succ, List.getElem?_append_right (by simp [nums, hc]), List.getElem?_append_right (by simp [nums, hc, hh])]
  simp [nums, hc, hh]
theorem WB.cells (k : WB w g tv es c h) : w.cell? ⟨g, 0, none⟩ = some tv ∧ w.cell? ⟨g, 33, none⟩ = some es := by
  obtain ⟨h1, h2, h3⟩ := k
  refine ⟨by simp [World.cell?, h1, wArr], ?_⟩
  simp only [World.cell?, h1]
  rw [List.getElem?_toArray, wArr_es h2 h3]
  rfl
theorem WB.cel (k : WB w g tv es c h) {a : Nat} (ha : a < 16) : w.cell? ⟨g, 1 + a, none⟩ = some (.int .i64 (c.getD a 0)) := by
  obtain ⟨h1, h2, h3⟩ := k
  simp only [World.cell?, h1]
  rw [List.getElem?_toArray, wArr_cel h2 ha]
  rfl
theorem WB.hasc (k : WB w g tv es c h) {a : Nat} (ha : a < 16) : w.cell? ⟨g, 17 + a, none⟩ = some (.int .i64 (h.getD a 0)) := by
  obtain ⟨h1, h2, h3⟩ := k
  simp only [World.cell?, h1]
  rw [List.getElem?_toArray, wArr_has h2 h3 ha]
  rfl
theorem WB.frozen (k : WB w g tv es c h) (i : Nat) : w.frozen? ⟨g, i, none⟩ = false := by
  obtain ⟨h1, _⟩ := k
  simp [World.frozen?, h1]
theorem WB.lt (k : WB w g tv es c h) : g < w.heap.size := (Array.getElem?_eq_some_iff.1 k.1).1
theorem WB.below (k : WB w g tv es c h) (hb : Below w.heap.size w w1) : WB w1 g tv es c h := ⟨(hb.block g k.lt).trans k.1, k.2⟩
theorem nums_set (l : List Int) (a : Nat) (v : Int) : (nums l).set a (.int .i64 v) = nums (l.set a v) := by simp [nums, List.map_set]
theorem WB.setCel (k : WB w g tv es c h) {a : Nat} (ha : a < 16) (v : Int) : WB (w.setCell ⟨g, 1 + a, none⟩ (.int .i64 v)) g tv es (c.set a v) h := by
  obtain ⟨h1, h2, h3⟩ := k
  refine ⟨?_, by simpa using h2, h3⟩
  rw [heap_setCell_same w g (1 + a) _ 44 _ h1, List.setIfInBounds_toArray]
  unfold wArr
  rw [Nat.add_comm, List.set_cons_succ, List.set_append_left _ _ (by simp [nums, h2, ha]), nums_set]
theorem WB.setHas (k : WB w g tv es c h) {a : Nat} (ha : a < 16) (v : Int) : WB (w.setCell ⟨g, 17 + a, none⟩ (.int .i64 v)) g tv es c (h.set a v) := by
  obtain ⟨h1, h2, h3⟩ := k
  refine ⟨?_, h2, by simpa using h3⟩
  rw [heap_setCell_same w g (17 + a) _ 44 _ h1, List.setIfInBounds_toArray]
  unfold wArr
  rw [show 17 + a = (16 + a) + 1 by omega, List.set_cons_succ, List.set_append_right _ _ (by simp [nums, h2]), List.set_append_left _ _ (by simp [nums, h2, h3, ha])]
  rw [show 16 + a - (nums c).length = a by simp [nums, h2], nums_set]
theorem WB.setEs (k : WB w g tv es c h) (es' : Value) : WB (w.setCell ⟨g, 33, none⟩ es') g tv es' c h := by
  obtain ⟨h1, h2, h3⟩ := k
  refine ⟨?_, h2, h3⟩
  rw [heap_setCell_same w g 33 _ 44 _ h1, List.setIfInBounds_toArray]
  unfold wArr
  rw [show 33 = 32 + 1 by omega, List.set_cons_succ, List.set_append_right _ _ (by simp [nums, h2]), List.set_append_right _ _ (by simp [nums, h2, h3])]
  simp [nums, h2, h3]
theorem WB.setTv (k : WB w g tv es c h) (tv' : Value) : WB (w.setCell ⟨g, 0, none⟩ tv') g tv' es c h := by
  obtain ⟨h1, h2, h3⟩ := k
  refine ⟨?_, h2, h3⟩
  rw [heap_setCell_same w g 0 _ 44 _ h1, List.setIfInBounds_toArray]
  rfl
end
set_option maxHeartbeats 4000000 in
theorem can_w (D : Wd) (g b : Nat) (tv es : Value) (t : Tk) (A : Option Addr) (cp : Nat) (w : World) (hW : WB w g tv es D.cells D.has) (hT : TB w b t (.slice A t.code.length cp)) (hC : Kd.C kI w A t.code.length t.code) (hp : t.ended = false → t.pc < t.code.length) (hw1 : -1 ≤ t.wants) (hw2 : t.wants < 16) (hx : (insT t).f0 = 8 → 0 ≤ (insT t).f1 ∧ (insT t).f1 < 16) (hlen : t.code.length ≤ 1000) :
    Calls Try.prog 16 #[.pointer (some ⟨g, 0, none⟩), .pointer (some ⟨b, 0, none⟩)] w fun e w' => e = .returned (.bool (canW D t)) ∧ Below w.heap.size w w' := by
  obtain ⟨c0, c1, c6, c7, c8, c9⟩ := hT.cells
  have HX := Lib.hid hx
  have HP := Lib.hid hp
  have H := Lib.hid (And.intro hW (And.intro hT hC))
  clear hx hp hW hT hC
  by_cases he : t.ended = true
  · have Hf := Lib.hid (show canW D t = false from by unfold canW; rw [if_pos (.inl he)])
    rw [he] at c6
    clear he
    go_enter Try.func16, Try.ntmps16
    go_wp2_with fail
    go_ret
    exact ⟨by rw [Hf.out]; rfl, Below.refl _ _⟩
  replace he : t.ended = false := by simpa using he
  by_cases hbd : t.bad = true
  · have Hf := Lib.hid (show canW D t = false from by unfold canW; rw [if_pos (.inr (.inl hbd))])
    rw [he] at c6
    rw [hbd] at c7
    clear he hbd
    go_enter Try.func16, Try.ntmps16
    go_wp2_with fail
    go_ret
    exact ⟨by rw [Hf.out]; rfl, Below.refl _ _⟩
  replace hbd : t.bad = false := by simpa using hbd
  by_cases hcn : t.cond ≠ -1
  · have Hf := Lib.hid (show canW D t = false from by unfold canW; rw [if_pos (.inr (.inr hcn))])
    have d0 : (t.cond == -1) = false := by simpa using hcn
    rw [he] at c6
    rw [hbd] at c7
    clear he hbd hcn
    go_enter Try.func16, Try.ntmps16
    go_wp2_with fail
    go_ret
    exact ⟨by rw [Hf.out]; rfl, Below.refl _ _⟩
  replace hcn : t.cond = -1 := by simpa using hcn
  have Hno := Lib.hid (show ¬ (t.ended = true ∨ t.bad = true ∨ t.cond ≠ -1) from by rw [he, hbd]; simp [hcn])
  have hpc := HP.out he
  rw [he] at c6
  rw [hbd] at c7
  rw [hcn] at c8
  clear he hbd hcn
  by_cases hwn : t.wants ≠ -1
  · obtain ⟨m, hm⟩ : ∃ m : Nat, t.wants = (m : Int) := ⟨t.wants.toNat, by omega⟩
    have hm16 : m < 16 := by omega
    have cm := H.out.1.hasc hm16
    obtain ⟨v, hv⟩ : ∃ v, D.has.getD m 0 = v := ⟨_, rfl⟩
    have Hf := Lib.hid (show canW D t = (v == -1) from by unfold canW; rw [if_neg Hno.out, if_pos hwn, hm, Int.toNat_natCast, hv])
    have d0 : ((m : Int) == -1) = false := by simp
    rw [hm] at c9
    rw [hv] at cm
    have p0 : (0 ≤ (m : Int)) = True := by simp
    have p1 : ((m : Int) < 16) = True := eq_true (by omega)
    have p2 : (m < 16) = True := eq_true hm16
    clear hwn hm hv hw1 hw2
    go_enter Try.func16, Try.ntmps16
    go_wp2_with fail
    go_quiet (fail)
    go_wp2_with fail
    go_ret
    exact ⟨by rw [Hf.out]; rfl, ⟨rfl, rfl, rfl, Nat.le_refl _, fun _ _ => rfl⟩⟩
  · replace hwn : t.wants = -1 := by simpa using hwn
    obtain ⟨ad, e, X⟩ := atI H.out.2.2 t.pc hpc
    rw [show t.code.getD t.pc zI = insT t from rfl] at X
    obtain ⟨x, hx⟩ : ∃ x, insT t = x := ⟨_, rfl⟩
    rw [hx] at X
    have Hx := Lib.hid hx
    obtain ⟨pc, hpc'⟩ : ∃ pc, t.pc = pc := ⟨_, rfl⟩
    obtain ⟨n, hn⟩ : ∃ n, t.code.length = n := ⟨_, rfl⟩
    have Hn := Lib.hid (And.intro hpc' hn)
    rw [hpc'] at c1 X hpc
    rw [hn] at c0 hpc hlen
    subst e
    obtain ⟨x0, x1, x2, x3⟩ := X
    have Hwn := Lib.hid hwn
    rw [hwn] at c9
    have p0 : (0 ≤ (pc : Int)) = True := by simp
    have p1 : ((pc : Int) < n) = True := eq_true (by omega)
    have p2 : (pc < n) = True := eq_true hpc
    clear hpc' hn hx hwn
    go_enter Try.func16, Try.ntmps16
    go_wp2_with fail
    go_region_held3 (fun w' => w'.cell? ⟨b, 0, none⟩ = some (.slice (some ad) n cp) ∧ w'.cell? ⟨b, 1, none⟩ = some (.int .i64 (pc : Int)) ∧ w'.cell? (ad.add (pc * 4)) = some (.int .i64 x.f0) ∧ w'.cell? ⟨(ad.add (pc * 4)).block, (ad.add (pc * 4)).off + 1, none⟩ = some (.int .i64 x.f1) ∧ w'.cell? ⟨(ad.add (pc * 4)).block, (ad.add (pc * 4)).off + 2, none⟩ = some (.int .i64 x.f2) ∧ w'.cell? ⟨(ad.add (pc * 4)).block, (ad.add (pc * 4)).off + 3, none⟩ = some (.int .i64 x.f3)) (go_keep) (fail)
    obtain ⟨W1, hW1⟩ : ∃ W1, (w.alloc (.cells #[.int .i64 x.f0, .int .i64 x.f1, .int .i64 x.f2, .int .i64 x.f3] 35)).drew = W1 := ⟨_, rfl⟩
    have b1 : Below w.heap.size w W1 := by rw [← hW1]; exact ((Below.refl _ w).alloc (Nat.le_refl _) _).drew
    have k1 : W1.heap[w.heap.size]? = some (obj35 x) := by rw [← hW1]; exact heap_alloc_new w _
    obtain ⟨e0, e1, e2, e3⟩ := obj35_cells k1
    have K1 := Lib.hid b1
    rw [hW1]
    by_cases h8 : x.f0 = 8
    · obtain ⟨hx1, hx2⟩ := HX.out (by rw [Hx.out]; exact h8)
      rw [Hx.out] at hx1 hx2
      obtain ⟨m, hm⟩ : ∃ m : Nat, x.f1 = (m : Int) := ⟨x.f1.toNat, by omega⟩
      have hm16 : m < 16 := by omega
      have cm := (H.out.1.below b1).hasc hm16
      obtain ⟨v, hv⟩ : ∃ v, D.has.getD m 0 = v := ⟨_, rfl⟩
      have Hf := Lib.hid (show canW D t = (v == -1) from by
        unfold canW
        rw [if_neg Hno.out, if_neg (fun h => h Hwn.out), Hx.out, h8, hm, Int.toNat_natCast, hv]
        rfl)
      rw [h8] at e0
      rw [hm] at e1
      rw [hv] at cm
      have q0 : (0 ≤ (m : Int)) = True := by simp
      have q1 : ((m : Int) < 16) = True := eq_true (by omega)
      have q2 : (m < 16) = True := eq_true hm16
      clear h8 hx1 hx2 hm hv b1 k1 hW1
      go_wp2_with fail
      go_quiet (fail)
      go_wp2_with fail
      go_ret
      exact ⟨by rw [Hf.out]; rfl, ⟨K1.out.os, K1.out.tape, K1.out.output, K1.out.size, K1.out.block⟩⟩
    · have d8 : (x.f0 == 8) = false := by simpa using h8
      have d9 : (x.f0 != 8) = true := by simpa using h8
      have Hf := Lib.hid (show canW D t = true from by
        unfold canW
        rw [if_neg Hno.out, if_neg (fun h => h Hwn.out), Hx.out]
        simp [h8])
      clear h8 b1 k1 hW1
      go_wp2_with fail
      go_quiet (fail)
      go_wp2_with fail
      go_ret
      exact ⟨by rw [Hf.out]; rfl, ⟨K1.out.os, K1.out.tape, K1.out.output, K1.out.size, K1.out.block⟩⟩
end Go.Proofs.Ytkcjghdopmigoaa.SC
