/- merge: Seek. -/
import Derived.Test.YtehoojmalhloeaaMZ
import Derived.Shelf.Abstract
namespace Go.Proofs.Ytehoojmalhloeaa.CM
open Go.RowKit Go.Proofs.YtehoojmalhloeaaW.PrintWords
set_option linter.unusedVariables false
set_option linter.unusedSimpArgs false
set_option maxRecDepth 100000

def obj4 (y : PC.S44) : Obj := .cells #[.string y.f0.f0, .int .u64 y.f0.f1, .int .i64 y.f0.f2, .string y.f1] 44
def obj3 (a : PC.S42) : Obj := .cells #[.string a.f0, .int .u64 a.f1, .int .i64 a.f2] 42
theorem cmp80 (x : PC.S44) (a : PC.S42) (w : World) : Calls Try.prog 80 #[val44 x, kv42 a] w fun e w' => e = .returned (.int .i64 (cmpK x.f0 a)) ∧ Below w.heap.size w w' := by
  unfold val44 kv42
  obtain ⟨W1, hW1⟩ : ∃ W1, w.alloc (.cells #[.string x.f0.f0, .int .u64 x.f0.f1, .int .i64 x.f0.f2, .string x.f1] 44) = W1 := ⟨_, rfl⟩
  have b1 : Below w.heap.size w W1 := by rw [← hW1]; exact (Below.refl _ _).alloc (Nat.le_refl _) _
  have k1 : W1.heap[w.heap.size]? = some (obj4 x) := by rw [← hW1]; exact World.alloc_heap_new w _
  have s1 : w.heap.size < W1.heap.size := by rw [← hW1]; simp
  obtain ⟨W2, hW2⟩ : ∃ W2, W1.alloc (.cells #[.string a.f0, .int .u64 a.f1, .int .i64 a.f2] 42) = W2 := ⟨_, rfl⟩
  have b2 : Below W1.heap.size W1 W2 := by rw [← hW2]; exact (Below.refl _ _).alloc (Nat.le_refl _) _
  have k2 : W2.heap[W1.heap.size]? = some (obj3 a) := by rw [← hW2]; exact World.alloc_heap_new W1 _
  have k3 := blk_below k1 b2
  unfold obj4 at k3
  unfold obj3 at k2
  have a0 : W2.cell? ⟨w.heap.size, 0, none⟩ = some (.string x.f0.f0) := by simp [World.cell?, k3]
  have a1 : W2.cell? ⟨w.heap.size, 1, none⟩ = some (.int .u64 x.f0.f1) := by simp [World.cell?, k3]
  have a2 : W2.cell? ⟨w.heap.size, 2, none⟩ = some (.int .i64 x.f0.f2) := by simp [World.cell?, k3]
  have c0 : W2.cell? ⟨W1.heap.size, 0, none⟩ = some (.string a.f0) := by simp [World.cell?, k2]
  have c1 : W2.cell? ⟨W1.heap.size, 1, none⟩ = some (.int .u64 a.f1) := by simp [World.cell?, k2]
  have c2 : W2.cell? ⟨W1.heap.size, 2, none⟩ = some (.int .i64 a.f2) := by simp [World.cell?, k2]
  have HB := Lib.hid (b1.trans (b2.mono b1.size))
  have C := compare_w x.f0 a W2
  unfold kv42 at C
  have HC := Lib.hid C
  clear C b1 k1 s1 b2 k2 k3
  go_enter Try.func80, Try.ntmps80
  go_wp2_with (first | rw [hW2] | rw [hW1])
  refine HC.out.mono ?_
  rintro e w1 ⟨rfl, b⟩
  have HB2 := Lib.hid (HB.out.trans (b.mono HB.out.size))
  clear b
  go_wp2_with fail
  go_ret
  exact ⟨rfl, HB2.out⟩
theorem obj3_cells {w : World} {b : Nat} {a : PC.S42} (h : w.heap[b]? = some (obj3 a)) : w.cell? ⟨b, 0, none⟩ = some (.string a.f0) ∧ w.cell? ⟨b, 1, none⟩ = some (.int .u64 a.f1) ∧ w.cell? ⟨b, 2, none⟩ = some (.int .i64 a.f2) := by
  unfold obj3 at h
  refine ⟨?_, ?_, ?_⟩ <;> simp [World.cell?, h]
theorem cell_up' {w w1 : World} {p : Addr} {v : Value} (h : w.cell? p = some v) (hb : Below w.heap.size w w1) : w1.cell? p = some v := (hb.cell (World.block_lt_of_cell? w _ h)).trans h
theorem El.below' {w w1 : World} {ad : Addr} {x : PC.S44} (h : El w ad x) (hb : Below w.heap.size w w1) : El w1 ad x := h.below hb
/-- How many are ahead of a key. -/
def lowK (xs : List PC.S44) (a : PC.S42) : Nat := (xs.takeWhile (fun x => decide (cmpK x.f0 a < 0))).length
theorem lowK_of : ∀ (xs : List PC.S44) (a : PC.S42) (i : Nat), i ≤ xs.length → (∀ j, j < i → cmpK (xs.getD j PC.z44).f0 a < 0) → (i < xs.length → ¬ cmpK (xs.getD i PC.z44).f0 a < 0) → lowK xs a = i
  | [], a, i, hi, _, _ => by have : i = 0 := by simpa using hi
                             subst this; rfl
  | x :: t, a, 0, _, _, h2 => by
    have := h2 (by simp)
    simp only [List.getD_cons_zero] at this
    unfold lowK
    rw [List.takeWhile_cons_of_neg (by simpa using this)]
    rfl
  | x :: t, a, i + 1, hi, h1, h2 => by
    have hx := h1 0 (by omega)
    simp only [List.getD_cons_zero] at hx
    have ih := lowK_of t a i (by simpa using hi) (fun j hj => by have := h1 (j + 1) (by omega); simpa using this) (fun h => by have := h2 (by simpa using h); simpa using this)
    unfold lowK at ih ⊢
    rw [List.takeWhile_cons_of_pos (by simpa using hx), List.length_cons, ih]
theorem lowK_le (xs : List PC.S44) (a : PC.S42) : lowK xs a ≤ xs.length := (List.takeWhile_sublist _).length_le
theorem key_trans {xs : List PC.S44} (h : xs.Pairwise R) {a : PC.S42} {i j : Nat} (hij : i ≤ j) (hj : j < xs.length) (hp : cmpK (xs.getD j PC.z44).f0 a < 0) : cmpK (xs.getD i PC.z44).f0 a < 0 := by
  rcases Nat.lt_or_eq_of_le hij with h1 | rfl
  · have hr : R (xs.getD i PC.z44) (xs.getD j PC.z44) := by
      have := List.pairwise_iff_getElem.1 h i j (by omega) hj h1
      simpa [List.getD_eq_getElem?_getD, List.getElem?_eq_getElem hj, List.getElem?_eq_getElem (show i < xs.length by omega)] using this
    exact R_trans (c := ⟨a, ⟨#[]⟩⟩) hr hp
  · exact hp
set_option maxHeartbeats 8000000 in
theorem search_w (A : Option Addr) (c : Nat) (xs : List PC.S44) (a : PC.S42) (w : World) (hr : Kd.C PC.k44 w A xs.length xs) (hn : xs.length ≤ 2932031007317) (hris : xs.Pairwise R) :
    Calls Try.prog 79 #[.slice A xs.length c, kv42 a, .func (.func 80) #[] #[]] w fun e w' => ∃ b, e = .returned (.tuple #[.int .i64 (lowK xs a : Nat), .bool b]) ∧ Below w.heap.size w w' := by
  unfold kv42
  obtain ⟨W0, hW0⟩ : ∃ W0, w.alloc (.cells #[.string a.f0, .int .u64 a.f1, .int .i64 a.f2] 42) = W0 := ⟨_, rfl⟩
  have b0 : Below w.heap.size w W0 := by rw [← hW0]; exact (Below.refl _ _).alloc (Nat.le_refl _) _
  have k0 : W0.heap[w.heap.size]? = some (obj3 a) := by rw [← hW0]; exact World.alloc_heap_new w _
  have H0 := Lib.hid (And.intro k0 (And.intro (keepC hr (Nat.le_refl _) b0) (And.intro b0 hris)))
  clear k0 b0 hr hris
  go_enter Try.func79, Try.ntmps79
  go_wp2_with (first | rw [hW0])
  go_loopw [9, 10] (fun ti tj wr => ∃ i j : Nat, i ≤ j ∧ j ≤ xs.length ∧ ti = .int .i64 (i : Int) ∧ tj = .int .i64 (j : Int) ∧ Hid ((∀ m, m < i → cmpK (xs.getD m PC.z44).f0 a < 0) ∧ (j < xs.length → ¬ cmpK (xs.getD j PC.z44).f0 a < 0) ∧ Below W0.heap.size W0 wr)) (fun ti tj _ => (intOf tj - intOf ti).toNat)
  case atStart => exact ⟨0, xs.length, by omega, by omega, rfl, rfl, Lib.hid ⟨fun m h => by omega, fun h => by omega, Below.refl _ _⟩⟩
  case round =>
    obtain ⟨i, j, hij, hj, rfl, rfl, HI⟩ := hrel
    have k1 := Lib.hid (blk_below H0.out.1 HI.out.2.2)
    by_cases hlt : i < j
    · have d0 : decide ((i : Int) < (j : Int)) = true := decide_eq_true (by omega)
      have hh : (i + j) / 2 < j ∧ i ≤ (i + j) / 2 := by omega
      go_wp2_with fail
      obtain ⟨h, he⟩ : ∃ h : Nat, (i + j) / 2 = h := ⟨_, rfl⟩
      rw [he] at hh
      rw [show ((i : Int) + (j : Int)) / 2 = (h : Int) from by omega]
      have hh1 := hh.1
      have hh2 := hh.2
      clear hh he
      obtain ⟨ad, e, X0⟩ := at44 (keepC H0.out.2.1 (Nat.le_refl _) HI.out.2.2.drew) h (by omega)
      have kd := blk_below H0.out.1 HI.out.2.2.drew
      have c0 := (obj3_cells kd).1
      have c1 := (obj3_cells kd).2.1
      have c2 := (obj3_cells kd).2.2
      subst e
      obtain ⟨x, hx⟩ : ∃ x, xs.getD h PC.z44 = x := ⟨_, rfl⟩
      rw [hx] at X0
      have HX := Lib.hid (And.intro X0 (And.intro c0 (And.intro c1 c2)))
      have Hx := Lib.hid hx
      clear X0 kd c0 c1 c2 hx k1
      have p0 : (0 ≤ (h : Int)) = True := by simp
      have p1 : ((h : Int) < xs.length) = True := eq_true (by omega)
      have p4 : (h < xs.length) = True := eq_true (by omega)
      have C := cmp80 x a
      unfold val44 kv42 at C
      have HK := Lib.hid C
      clear C
      go_region_held3 (fun w' => (w'.cell? (ad.add (h * 4)) = some (.string x.f0.f0) ∧ w'.cell? ⟨(ad.add (h * 4)).block, (ad.add (h * 4)).off + 1, none⟩ = some (.int .u64 x.f0.f1) ∧ w'.cell? ⟨(ad.add (h * 4)).block, (ad.add (h * 4)).off + 2, none⟩ = some (.int .i64 x.f0.f2) ∧ w'.cell? ⟨(ad.add (h * 4)).block, (ad.add (h * 4)).off + 3, none⟩ = some (.string x.f1)) ∧ w'.cell? ⟨w.heap.size, 0, none⟩ = some (.string a.f0) ∧ w'.cell? ⟨w.heap.size, 1, none⟩ = some (.int .u64 a.f1) ∧ w'.cell? ⟨w.heap.size, 2, none⟩ = some (.int .i64 a.f2)) (first | exact HX.out | exact HB2.out) (first | (go_at_call 80; refine Calls.mono (HK.out _) ?_; rintro e w1 ⟨rfl, hb1⟩; have HB2 := Lib.hid (And.intro (El.below' HX.out.1 hb1) (And.intro (cell_up' HX.out.2.1 hb1) (And.intro (cell_up' HX.out.2.2.1 hb1) (cell_up' HX.out.2.2.2 hb1)))); have HB1 := Lib.hid ((Below.refl wr.heap.size wr).drew.trans hb1); clear hb1))
      have HW := Lib.hid (HI.out.2.2.trans (HB1.out.mono HI.out.2.2.size))
      clear HB1 HX HK HB2
      have m1 : IntKind.i64.wrap ((h : Int) + 1) = (h : Int) + 1 := by rw [IntWalk.i64_in _ (by omega)]
      by_cases hc : cmpK x.f0 a < 0
      · have d1 : decide (cmpK x.f0 a < 0) = true := decide_eq_true hc
        go_wp2_with fail
        go_roundw
        case rel => exact ⟨h + 1, j, by omega, by omega, by simp, rfl, Lib.hid ⟨fun m hm => key_trans H0.out.2.2.2 (show m ≤ h by omega) (by omega) (by rw [Hx.out]; exact hc), (fun h => by have := HI.out.2.1 h; omega), HW.out⟩⟩
        case measure => simp [intOf]; omega
      · have d1 : decide (cmpK x.f0 a < 0) = false := decide_eq_false hc
        go_wp2_with fail
        go_roundw
        case rel => exact ⟨i, h, by omega, by omega, rfl, rfl, Lib.hid ⟨HI.out.1, fun _ => by rw [Hx.out]; exact hc, HW.out⟩⟩
        case measure => simp [intOf]; omega
    · obtain rfl : i = j := by omega
      have d0 : decide ((i : Int) < (i : Int)) = false := decide_eq_false (by omega)
      have hlow := lowK_of xs a i hj HI.out.1 (fun h => by have := HI.out.2.1 h; omega)
      have HL := Lib.hid hlow
      clear hlow
      go_wp2_with fail
      by_cases hin : i < xs.length
      · have d2 : decide ((i : Int) < xs.length) = true := decide_eq_true (by omega)
        obtain ⟨ad, e, X0⟩ := at44 (keepC H0.out.2.1 (Nat.le_refl _) HI.out.2.2.drew) i (by omega)
        have kd := blk_below H0.out.1 HI.out.2.2.drew
        have c0 := (obj3_cells kd).1
        have c1 := (obj3_cells kd).2.1
        have c2 := (obj3_cells kd).2.2
        subst e
        obtain ⟨x, hx⟩ : ∃ x, xs.getD i PC.z44 = x := ⟨_, rfl⟩
        rw [hx] at X0
        have HX := Lib.hid (And.intro X0 (And.intro c0 (And.intro c1 c2)))
        have Hx := Lib.hid hx
        clear X0 kd c0 c1 c2 hx k1
        have p0 : (0 ≤ (i : Int)) = True := by simp
        have p1 : ((i : Int) < xs.length) = True := eq_true (by omega)
        have p4 : (i < xs.length) = True := eq_true (by omega)
        have C := cmp80 x a
        unfold val44 kv42 at C
        have HK := Lib.hid C
        clear C
        go_region_held3 (fun w' => (w'.cell? (ad.add (i * 4)) = some (.string x.f0.f0) ∧ w'.cell? ⟨(ad.add (i * 4)).block, (ad.add (i * 4)).off + 1, none⟩ = some (.int .u64 x.f0.f1) ∧ w'.cell? ⟨(ad.add (i * 4)).block, (ad.add (i * 4)).off + 2, none⟩ = some (.int .i64 x.f0.f2) ∧ w'.cell? ⟨(ad.add (i * 4)).block, (ad.add (i * 4)).off + 3, none⟩ = some (.string x.f1)) ∧ w'.cell? ⟨w.heap.size, 0, none⟩ = some (.string a.f0) ∧ w'.cell? ⟨w.heap.size, 1, none⟩ = some (.int .u64 a.f1) ∧ w'.cell? ⟨w.heap.size, 2, none⟩ = some (.int .i64 a.f2)) (first | exact HX.out | exact HB2.out) (first | (go_at_call 80; refine Calls.mono (HK.out _) ?_; rintro e w1 ⟨rfl, hb1⟩; have HB2 := Lib.hid (And.intro (El.below' HX.out.1 hb1) (And.intro (cell_up' HX.out.2.1 hb1) (And.intro (cell_up' HX.out.2.2.1 hb1) (cell_up' HX.out.2.2.2 hb1)))); have HB1 := Lib.hid ((Below.refl wr.heap.size wr).drew.trans hb1); clear hb1))
        have HW := Lib.hid (HI.out.2.2.trans (HB1.out.mono HI.out.2.2.size))
        clear HB1 HX HK HB2
        go_wp2_with fail
        go_ret2
        exact ⟨_, by rw [HL.out]; rfl, H0.out.2.2.1.trans (HW.out.mono H0.out.2.2.1.size)⟩
      · have d2 : decide ((i : Int) < xs.length) = false := decide_eq_false (by omega)
        go_quiet (fail)
        go_wp2_with fail
        go_ret2
        exact ⟨_, by rw [HL.out]; rfl, H0.out.2.2.1.trans ((show Below W0.heap.size W0 (wr.drewN nq) from ⟨HI.out.2.2.os, HI.out.2.2.tape, HI.out.2.2.output, HI.out.2.2.size, HI.out.2.2.block⟩).mono H0.out.2.2.1.size)⟩
end Go.Proofs.Ytehoojmalhloeaa.CM
