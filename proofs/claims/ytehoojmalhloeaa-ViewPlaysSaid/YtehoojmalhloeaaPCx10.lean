/- Contracts of the document's own functions (chapters 08, 16, 17, 19) over one set of value types, written by the kit's print program. -/
import Derived.Test.YtehoojmalhloeaaPCx0
namespace Go.Proofs.Ytehoojmalhloeaa.PC
open Go.RowKit Go.Proofs.YtehoojmalhloeaaW.PrintWords Go.Proofs.YtehoojmalhloeaaW.PrintLast Go.Proofs.YtehoojmalhloeaaW.PrintMore
attribute [local go_sem] max2_int min2_int max_two min_two max_three min_three max_four min_four   -- for this text's walks alone
set_option linter.unusedVariables false
set_option linter.unusedSimpArgs false

-- NOT PRINTED: function 6 (staddlelaw19_CompactOver)

/-! ### staddleref08_Size: function 33 -/
def staddleref08_Size.l0 : Nat → List (S44) → Int → Int → Option (Int)
  | 0, _, _, _ => none
  | k + 1, x0, x3, x4 => if x4 < (x0.length : Int) then (if 0 ≤ x4 then (staddleref08_Size.l0 k x0 (wrap64 ((wrap64 ((wrap64 (x3 + (((rd_T44 x0 x4).f0.f0).size : Int))) + (((rd_T44 x0 x4).f1).size : Int))) + 16)) (wrap64 (x4 + 1))) else (none)) else (some x3)
def staddleref08_Size.f (k : Nat) (l0 : List (S44)) : Option (Int) := staddleref08_Size.l0 k l0 0 0
theorem staddleref08_Size.mono_l : ∀ k, (∀ y0 y1 y2, LeO (staddleref08_Size.l0 k y0 y1 y2) (staddleref08_Size.l0 (k + 1) y0 y1 y2))
  | 0 => fun _ _ _ r h => by simp [staddleref08_Size.l0] at h
  | k + 1 => by
    have ih0 := staddleref08_Size.mono_l k
    · intro y0 y1 y2
      unfold staddleref08_Size.l0
      repeat' first
      | (with_reducible exact ih0 _ _ _)
      | (with_reducible exact LeO.refl _)
      | (with_reducible exact LeO.none _)
      | (with_reducible refine LeO.ite ?_ ?_)
      | (with_reducible refine LeO.bind ?_ (fun _ => ?_))
      | exact ih0 _ _ _
      | exact LeO.none _
      | refine LeO.ite ?_ ?_
      | refine LeO.bind ?_ (fun _ => ?_)
theorem staddleref08_Size.mono : ∀ a0 k, LeO (staddleref08_Size.f k a0) (staddleref08_Size.f (k + 1) a0) := by
  intro a0 k
  have ih0 := staddleref08_Size.mono_l k
  unfold staddleref08_Size.f
  repeat' first
      | (with_reducible exact ih0 _ _ _)
      | (with_reducible exact LeO.refl _)
      | (with_reducible exact LeO.none _)
      | (with_reducible refine LeO.ite ?_ ?_)
      | (with_reducible refine LeO.bind ?_ (fun _ => ?_))
      | exact ih0 _ _ _
      | exact LeO.none _
      | refine LeO.ite ?_ ?_
      | refine LeO.bind ?_ (fun _ => ?_)
set_option maxHeartbeats 8000000 in
set_option maxRecDepth 100000 in
theorem staddleref08_Size.calls (k : Nat) (A0 : Option Addr) (c0 : Nat) (l0 : List (S44)) (r : Int) (w : World) (hr0 : Kd.C k44 w A0 l0.length l0) (hc0 : l0.length ≤ c0) (h : staddleref08_Size.f k l0 = some r) :
    Calls Try.prog 33 #[.slice A0 l0.length c0] w fun e w' => e = .returned (.int .i64 r) ∧ Drawn0 w w' := by
  have HR0 := Aside0.mk hr0
  have HC0 := Aside0.mk hc0
  clear hr0 hc0
  have H : (staddleref08_Size.l0 k l0 0 0) = some r := h
  clear h
  have H' := Aside0.mk H
  clear H
  go_enter Try.func33, Try.ntmps33
  go_wp2
  repeat (go_quiet (fail); try go_wp2)
  go_loopg [3, 4] k (fun kq v3 v4 w' => ∃ (x3_1 : Int) (x4_1 : Int), v3 = .int .i64 x3_1 ∧ v4 = .int .i64 x4_1 ∧ Aside0 (staddleref08_Size.l0 kq l0 x3_1 x4_1 = some r) ∧ Aside0 (kq ≤ k) ∧ Drawn0 w w')
  case atStart => exact ⟨(0), (0), (by first | rfl | (simp; done) | (simp [*]; done)), (by first | rfl | (simp; done) | (simp [*]; done)), H', ⟨Nat.le_refl _⟩, by repeat (first | exact Drawn0.refl _ | apply Drawn0.step)⟩
  case round =>
    clear H'
    obtain ⟨x3_1, x4_1, rfl, rfl, HA, HK1, ⟨m1, rfl⟩⟩ := hrel
    cases gk with
    | zero => exact absurd HA.out (by simp [staddleref08_Size.l0])
    | succ k1 =>
      have H := HA.out
      clear HA
      simp only [staddleref08_Size.l0] at H
      by_cases c2 : x4_1 < (l0.length : Int)
      · rw [if_pos c2] at H
        have c2b0 : decide (x4_1 < (l0.length : Int)) = true := decide_eq_true c2
        clear c2
        by_cases c3 : 0 ≤ x4_1
        · rw [if_pos c3] at H
          have c3b0 : decide (0 ≤ x4_1) = true := decide_eq_true c3
          clear c3
          have H' := Aside0.mk H
          clear H
          have p217 : 0 ≤ (x4_1 : Int) := of_decide_eq_true (by first | (with_reducible assumption) | assumption)
          have q217 : x4_1 < (l0.length : Int) := of_decide_eq_true (by first | (with_reducible assumption) | assumption)
          obtain ⟨ad217, e217, hx217_0, hx217_1, hx217_2, hx217_3⟩ := at_T44 HR0.out x4_1 p217 q217
          cases e217
          replace p217 := eq_true p217
          replace q217 := eq_true q217
          have p218 : 0 ≤ (x4_1 : Int) := of_decide_eq_true (by first | (with_reducible assumption) | assumption)
          have q218 : x4_1 < (l0.length : Int) := of_decide_eq_true (by first | (with_reducible assumption) | assumption)
          obtain ⟨ad218, e218, hx218_0, hx218_1, hx218_2, hx218_3⟩ := at_T44 HR0.out x4_1 p218 q218
          obtain rfl : ad217 = ad218 := (by injection e218)
          replace p218 := eq_true p218
          replace q218 := eq_true q218
          go_wp2
          repeat (go_quiet (fail); try go_wp2)
          go_roundg k1
          case measure => have := HK1.out; omega
          case rel => exact ⟨(wrap64 ((wrap64 ((wrap64 (x3_1 + (((rd_T44 l0 x4_1).f0.f0).size : Int))) + (((rd_T44 l0 x4_1).f1).size : Int))) + 16)), (wrap64 (x4_1 + 1)), (by first | rfl | (simp; done) | (simp [*]; done)), (by first | rfl | (simp; done) | (simp [*]; done)), H', ⟨by have := HK1.out; omega⟩, by repeat (first | exact Drawn0.refl _ | apply Drawn0.step)⟩
        · rw [if_neg c3] at H
          exact absurd H (by simp)
      · rw [if_neg c2] at H
        have c2b0 : decide (x4_1 < (l0.length : Int)) = false := decide_eq_false c2
        clear c2
        obtain rfl := Option.some.inj H
        go_wp2
        repeat (go_quiet (fail); try go_wp2)
        go_ret
        exact ⟨by first | rfl | (simp; done) | (simp [*]; done), by repeat (first | exact Drawn0.refl _ | apply Drawn0.step)⟩

-- NOT PRINTED: function 7 (staddlelaw19_CompactParts)

-- NOT PRINTED: function 8 (staddlelaw19_CompactMore)

-- NOT PRINTED: function 70 (api_KV_70)

-- NOT PRINTED: function 36 (merge_New)

-- NOT PRINTED: function 103 (heap_down)

-- NOT PRINTED: function 104 (heap_up)

-- NOT PRINTED: function 95 (heap_Fix)

-- NOT PRINTED: function 96 (heap_Pop)

-- NOT PRINTED: function 74 (merge_Iter_on)

-- NOT PRINTED: function 97 (heap_Init)

-- NOT PRINTED: function 77 (merge_Iter_lineUp)

-- NOT PRINTED: function 71 (merge_Iter_set)

-- NOT PRINTED: function 37 (merge_Iter_First)

-- NOT PRINTED: function 38 (merge_Iter_At)

-- NOT PRINTED: function 73 (merge_Iter_move)

-- NOT PRINTED: function 39 (merge_Iter_Next)

-- NOT PRINTED: function 76 (merge_behind)

-- NOT PRINTED: function 75 (merge_Iter_back)

-- NOT PRINTED: function 40 (merge_Iter_Prev)

-- NOT PRINTED: function 34 (staddlelaw16_awake)

-- NOT PRINTED: function 9 (staddlelaw16_MergeNames)

/-! ### staddlelaw16_few: function 35 -/
mutual
def staddlelaw16_few.j0 : Nat → List (List (S44)) → Option ((List (List (S44))))
  | 0, _ => none
  | k + 1, x0 => staddlelaw16_few.l0 k x0 ([] : List (List (S44))) 0
def staddlelaw16_few.l0 : Nat → List (List (S44)) → List (List (S44)) → Int → Option ((List (List (S44))))
  | 0, _, _, _ => none
  | k + 1, x0, x3, x4 => if x4 < (x0.length : Int) then (if 0 ≤ x4 then (if ((rd_L6 x0 x4).length : Int) > 200 then (if 200 ≤ ((rd_L6 x0 x4).length : Int) then (if x3.length < 5864062014805 then (staddlelaw16_few.l0 k x0 (x3 ++ [((rd_L6 x0 x4).take 200)]) (wrap64 (x4 + 1))) else (none)) else (none)) else (if x3.length < 5864062014805 then (staddlelaw16_few.l0 k x0 (x3 ++ [rd_L6 x0 x4]) (wrap64 (x4 + 1))) else (none))) else (none)) else (some x3)
end
def staddlelaw16_few.f (k : Nat) (l0 : List (List (S44))) : Option ((List (List (S44)))) := if (l0.length : Int) > 40 then (if 40 ≤ (l0.length : Int) then (staddlelaw16_few.j0 k (l0.take 40)) else (none)) else (staddlelaw16_few.j0 k l0)
theorem staddlelaw16_few.mono_l : ∀ k, (∀ y0, LeO (staddlelaw16_few.j0 k y0) (staddlelaw16_few.j0 (k + 1) y0)) ∧ (∀ y0 y1 y2, LeO (staddlelaw16_few.l0 k y0 y1 y2) (staddlelaw16_few.l0 (k + 1) y0 y1 y2))
  | 0 => ⟨fun _ r h => by simp [staddlelaw16_few.j0] at h, fun _ _ _ r h => by simp [staddlelaw16_few.l0] at h⟩
  | k + 1 => by
    obtain ⟨ih0, ih1⟩ := staddlelaw16_few.mono_l k
    refine ⟨?_, ?_⟩
    · intro y0
      unfold staddlelaw16_few.j0
      repeat' first
      | (with_reducible exact ih0 _)
      | (with_reducible exact ih1 _ _ _)
      | (with_reducible exact LeO.refl _)
      | (with_reducible exact LeO.none _)
      | (with_reducible refine LeO.ite ?_ ?_)
      | (with_reducible refine LeO.bind ?_ (fun _ => ?_))
      | exact ih0 _
      | exact ih1 _ _ _
      | exact LeO.none _
      | refine LeO.ite ?_ ?_
      | refine LeO.bind ?_ (fun _ => ?_)
    · intro y0 y1 y2
      unfold staddlelaw16_few.l0
      repeat' first
      | (with_reducible exact ih0 _)
      | (with_reducible exact ih1 _ _ _)
      | (with_reducible exact LeO.refl _)
      | (with_reducible exact LeO.none _)
      | (with_reducible refine LeO.ite ?_ ?_)
      | (with_reducible refine LeO.bind ?_ (fun _ => ?_))
      | exact ih0 _
      | exact ih1 _ _ _
      | exact LeO.none _
      | refine LeO.ite ?_ ?_
      | refine LeO.bind ?_ (fun _ => ?_)
theorem staddlelaw16_few.mono : ∀ a0 k, LeO (staddlelaw16_few.f k a0) (staddlelaw16_few.f (k + 1) a0) := by
  intro a0 k
  obtain ⟨ih0, ih1⟩ := staddlelaw16_few.mono_l k
  unfold staddlelaw16_few.f
  repeat' first
      | (with_reducible exact ih0 _)
      | (with_reducible exact ih1 _ _ _)
      | (with_reducible exact LeO.refl _)
      | (with_reducible exact LeO.none _)
      | (with_reducible refine LeO.ite ?_ ?_)
      | (with_reducible refine LeO.bind ?_ (fun _ => ?_))
      | exact ih0 _
      | exact ih1 _ _ _
      | exact LeO.none _
      | refine LeO.ite ?_ ?_
      | refine LeO.bind ?_ (fun _ => ?_)
set_option maxHeartbeats 8000000 in
set_option maxRecDepth 100000 in
theorem staddlelaw16_few.calls (k : Nat) (P0_ : Nat → Prop) (A0 : Option Addr) (c0 : Nat) (l0 : List (List (S44))) (r : List (List (S44))) (w : World) (hs0 : Kd.V (Kd.slice 44 k44) 22 w w.heap.size (fun k_ => P0_ k_) (.slice A0 l0.length c0) l0) (h : staddlelaw16_few.f k l0 = some r) :
    Calls Try.prog 35 #[.slice A0 l0.length c0] w fun e w' => ∃ v0_ : Value, e = .returned (v0_) ∧ Kd.N (Kd.slice 44 k44) 22 w' w.heap.size (fun k_ => (P0_ k_ ∨ w.heap.size ≤ k_)) v0_ r ∧ Below w.heap.size w w' := by
  have HO0 := Aside0.mk (show Kd.V (Kd.slice 44 k44) 22 w w.heap.size (fun k_ => (P0_ k_ ∨ w.heap.size ≤ k_)) (.slice A0 l0.length c0) l0 from Kd.V_mono hs0 (fun k_ hk => .inl hk))
  have HB := Aside0.mk (Below.refl w.heap.size w)
  have H : (if (l0.length : Int) > 40 then (if 40 ≤ (l0.length : Int) then (staddlelaw16_few.j0 k (l0.take 40)) else (none)) else (staddlelaw16_few.j0 k l0)) = some r := h
  clear h
  have HC2 := Aside0.mk H
  clear H
  go_enter Try.func35, Try.ntmps35
  go_upto_if 8 with (fail)
  go_cut [0] (fun v0 wc => ∃ (kq : Nat) (x0_1 : List (List (S44))), Aside0 (staddlelaw16_few.j0 kq x0_1 = some r) ∧ Aside0 (kq ≤ k) ∧ Aside0 (Kd.V (Kd.slice 44 k44) 22 wc w.heap.size (fun k_ => (P0_ k_ ∨ w.heap.size ≤ k_)) v0 x0_1) ∧ Aside0 (Below w.heap.size w wc))
  case first =>
    have H := HC2.out
    clear HC2
    by_cases c3 : (l0.length : Int) > 40
    · rw [if_pos c3] at H
      have c3b0 : decide (40 < (l0.length : Int)) = true := decide_eq_true c3
      have c3b1 : decide (40 < l0.length) = true := decide_eq_true (by omega)
      clear c3
      (first | rw [c3b0] | (simp only [i64_w, i32_w]; rw [c3b0]) | skip)
      by_cases c4 : 40 ≤ (l0.length : Int)
      · rw [if_pos c4] at H
        have c4b0 := eq_true c4
        have c4b1 : decide (40 ≤ (l0.length : Int)) = true := decide_eq_true c4
        clear c4
        obtain ⟨y228, hy228⟩ : ∃ y_ : List (List (S44)), y_ = (l0.take 40) := ⟨_, rfl⟩
        replace H : (staddlelaw16_few.j0 k y228) = some r := by first | (rw [hy228]; with_reducible exact H) | (have H2_ := (Option.bind_some _ _).symm.trans H; rw [hy228]; with_reducible exact H2_) | (have H2_ := (Option.bind_some _ _).symm.trans H; with_reducible exact H2_) | with_reducible exact H | (rw [hy228]; exact H) | exact H
        have Ny228 := Aside0.mk hy228
        clear hy228
        have H' := Aside0.mk H
        clear H
        have q5 : (40 : Int) ≤ ((l0.length : Int) : Int) := of_decide_eq_true (by first | (with_reducible assumption) | assumption)
        obtain ⟨i05, hi05, _, hsz5, _⟩ := info_parts info22
        have hroom5 : l0.length ≤ c0 := (Kd.V_reads' HO0.out).2.1
        have hC5 : Kd.F (Kd.slice 44 k44) _ _ A0 l0.length l0 := (Kd.V_at (base := w.heap.size) HO0.out).2.2
        have hcut5 := cut_to (P := Try.prog) 32 22 .i64 Try.underlying32 hi05 A0 l0.length c0 40 (by omega) q5 hroom5
        have hr5 := Kd.F_take (m := 40) hC5 (by omega)
        have hy5 : y228.length = (40 : Int).toNat := (by rw [Ny228.out, List.length_take]; omega)
        rw [← Ny228.out] at hr5
        rw [← hy5] at hcut5
        have HO232 := Aside0.mk (show Kd.V (Kd.slice 44 k44) 22 _ w.heap.size _ (.slice A0 y228.length c0) y228 from Kd.V_mk (by omega) hr5)
        have HC232 := Aside0.mk (show y228.length ≤ c0 from by omega)
        clear hr5 hC5 hroom5 hi05 hsz5
        have KY5 := Aside0.mk hy5
        clear hy5
        replace q5 := eq_true q5
        go_wp2
        go_meet
        case rel => exact ⟨_, (y228), H', ⟨by first | omega | exact Nat.le_refl _⟩, ⟨by (with_reducible repeat (first | apply Kd.V_alloc | apply Kd.V_drewN | apply Kd.V_drew)); exact HO232.out⟩, ⟨by repeat (first | (with_reducible first | exact HB.out | apply below_alloc | apply pw_below_drewN | apply below_drew1) | exact HB.out)⟩⟩
      · rw [if_neg c4] at H
        exact absurd H (by simp)
    · rw [if_neg c3] at H
      have c3b0 : decide (40 < (l0.length : Int)) = false := decide_eq_false c3
      have c3b1 : decide (40 < l0.length) = false := decide_eq_false (by omega)
      clear c3
      (first | rw [c3b0] | (simp only [i64_w, i32_w]; rw [c3b0]) | skip)
      have H' := Aside0.mk H
      clear H
      go_wp2
      go_meet
      case rel => exact ⟨_, (l0), H', ⟨by first | omega | exact Nat.le_refl _⟩, ⟨by (with_reducible repeat (first | apply Kd.V_alloc | apply Kd.V_drewN | apply Kd.V_drew)); exact HO0.out⟩, ⟨by repeat (first | (with_reducible first | exact HB.out | apply below_alloc | apply pw_below_drewN | apply below_drew1) | exact HB.out)⟩⟩
  case rest =>
    clear HC2
    try clear p2
    try clear c3
    try clear c3b0
    try clear c3b1
    try clear c4
    try clear c4b0
    try clear c4b1
    try clear q5
    try clear q5
    obtain ⟨kq, x0_1, HA, HJ1, HO_0, HB⟩ := hcut
    cases kq with
    | zero => exact absurd HA.out (by simp [staddlelaw16_few.j0])
    | succ kj1 =>
      have H := HA.out
      clear HA
      simp only [staddlelaw16_few.j0] at H
      have H' := Aside0.mk H
      clear H
      go_wp2
      go_loopg [3, 4] kj1 (fun kq v3 v4 w' => ∃ (x3_2 : List (List (S44))) (x4_2 : Int), v4 = .int .i64 x4_2 ∧ Aside0 (staddlelaw16_few.l0 kq x0_1 x3_2 x4_2 = some r) ∧ Aside0 (kq ≤ kj1) ∧ Aside0 (Kd.V (Kd.slice 44 k44) 22 w' w.heap.size (fun k_ => (P0_ k_ ∨ w.heap.size ≤ k_) ∧ some k_ ≠ (v3 : Value).ownBlock) u0 x0_1) ∧ Aside0 (Kd.N (Kd.slice 44 k44) 22 w' w.heap.size (fun k_ => (P0_ k_ ∨ w.heap.size ≤ k_)) v3 x3_2) ∧ Aside0 (Below w.heap.size w w'))
      case atStart => exact ⟨(([] : List (List (S44)))), (0), (by first | rfl | (simp; done) | (simp [*]; done)), H', ⟨Nat.le_refl _⟩, ⟨by (with_reducible repeat (first | apply Kd.V_alloc | apply Kd.V_drewN | apply Kd.V_drew)); exact Kd.V_mono HO_0.out (fun _ hk => ⟨hk, (by simp [Value.ownBlock])⟩)⟩, ⟨by first | exact Kd.S_nil _ _ _ _ _ | exact Kd.N_nil _ _ _ _ _ | exact Kd.V_nil _ _ _ _ _ | exact Kd.Q_nil _ _ _ _ _ | exact Kd.R_nil _ _ _ _ _⟩, ⟨by repeat (first | (with_reducible first | exact HB.out | apply below_alloc | apply pw_below_drewN | apply below_drew1) | exact HB.out)⟩⟩
      case round =>
        clear H'
        try clear p2
        try clear c3
        try clear c3b0
        try clear c3b1
        try clear c4
        try clear c4b0
        try clear c4b1
        try clear q5
        try clear p2
        try clear q5
        obtain ⟨x3_2, x4_2, rfl, HA, HK2, HO_0, HO_3, HB⟩ := hrel
        cases gk with
        | zero => exact absurd HA.out (by simp [staddlelaw16_few.l0])
        | succ k2 =>
          have H := HA.out
          clear HA
          simp only [staddlelaw16_few.l0] at H
          by_cases c6 : x4_2 < (x0_1.length : Int)
          · rw [if_pos c6] at H
            have c6b0 : decide (x4_2 < (x0_1.length : Int)) = true := decide_eq_true c6
            clear c6
            by_cases c7 : 0 ≤ x4_2
            · rw [if_pos c7] at H
              have c7b0 : decide (0 ≤ x4_2) = true := decide_eq_true c7
              clear c7
              by_cases c8 : ((rd_L6 x0_1 x4_2).length : Int) > 200
              · rw [if_pos c8] at H
                have c8b0 : decide (200 < ((rd_L6 x0_1 x4_2).length : Int)) = true := decide_eq_true c8
                have c8b1 : decide (200 < (rd_L6 x0_1 x4_2).length) = true := decide_eq_true (by omega)
                clear c8
                by_cases c9 : 200 ≤ ((rd_L6 x0_1 x4_2).length : Int)
                · rw [if_pos c9] at H
                  have c9b0 := eq_true c9
                  have c9b1 : decide (200 ≤ ((rd_L6 x0_1 x4_2).length : Int)) = true := decide_eq_true c9
                  clear c9
                  obtain ⟨y234, hy234⟩ : ∃ y_ : List (S44), y_ = ((rd_L6 x0_1 x4_2).take 200) := ⟨_, rfl⟩
                  replace H : (if x3_2.length < 5864062014805 then (staddlelaw16_few.l0 k2 x0_1 (x3_2 ++ [y234]) (wrap64 (x4_2 + 1))) else (none)) = some r := by first | (rw [hy234]; with_reducible exact H) | (have H2_ := (Option.bind_some _ _).symm.trans H; rw [hy234]; with_reducible exact H2_) | (have H2_ := (Option.bind_some _ _).symm.trans H; with_reducible exact H2_) | with_reducible exact H | (rw [hy234]; exact H) | exact H
                  have Ny234 := Aside0.mk hy234
                  clear hy234
                  by_cases c10 : x3_2.length < 5864062014805
                  · rw [if_pos c10] at H
                    have LMc10 := Aside0.mk c10
                    clear c10
                    obtain ⟨y239, hy239⟩ : ∃ y_ : List (List (S44)), y_ = (x3_2 ++ [y234]) := ⟨_, rfl⟩
                    replace H : (staddlelaw16_few.l0 k2 x0_1 y239 (wrap64 (x4_2 + 1))) = some r := by first | (rw [hy239]; with_reducible exact H) | (have H2_ := (Option.bind_some _ _).symm.trans H; rw [hy239]; with_reducible exact H2_) | (have H2_ := (Option.bind_some _ _).symm.trans H; with_reducible exact H2_) | with_reducible exact H | (rw [hy239]; exact H) | exact H
                    have Ny239 := Aside0.mk hy239
                    clear hy239
                    have H' := Aside0.mk H
                    clear H
                    obtain ⟨Ao11, co11, eo11⟩ := Kd.V_slice HO_0.out
                    subst eo11
                    have p233 : 0 ≤ (x4_2 : Int) := of_decide_eq_true (by first | (with_reducible assumption) | assumption)
                    have q233 : x4_2 < (x0_1.length : Int) := of_decide_eq_true (by first | (with_reducible assumption) | assumption)
                    obtain ⟨ad233, A233_0, c233_0, e233, hx233_0, hl233_0, hi233_0⟩ := at_L6 (Kd.V_reads' HO_0.out).2.2 x4_2 p233 q233
                    cases e233
                    obtain ⟨ce233, hce233, hMe233, hcc233⟩ := Kd.V_get HO_0.out [] x4_2 p233 (by first | exact q233 | exact of_decide_eq_true (by first | (with_reducible assumption) | assumption) | (have e_ := (Kd.V_reads' HO_0.out).1; omega))
                    obtain ⟨ua233_0, uc233_0, rfl, ul233_0, ge233_0⟩ := Kd.FK_slice_open hMe233
                    have hv233_0 := hcc233 0 _ rfl
                    rw [Nat.add_zero, show ((Kd.slice 44 k44)).sz = 1 from rfl, Nat.mul_one] at hv233_0
                    replace hv233_0 := Option.some.inj (hv233_0.symm.trans hx233_0)
                    injection hv233_0 with hva_ hvn_ hvc_
                    rw [hva_] at ge233_0
                    rw [hvc_] at ul233_0
                    have HL233_0 := Aside0.mk (show Kd.V k44 44 _ w.heap.size _ _ (rd_L6 x0_1 x4_2) from Kd.V_mk ul233_0 ge233_0)
                    clear hva_ hvn_ hvc_ ge233_0 ul233_0
                    clear hcc233 hce233
                    have HR233_0 := Aside0.mk hi233_0
                    have HC233_0 := Aside0.mk hl233_0
                    clear hi233_0 hl233_0
                    replace p233 := eq_true p233
                    replace q233 := eq_true q233
                    have q12 : (200 : Int) ≤ (((rd_L6 x0_1 x4_2).length : Int) : Int) := of_decide_eq_true (by first | (with_reducible assumption) | assumption)
                    obtain ⟨i012, hi012, _, hsz12, _⟩ := info_parts info44
                    have hroom12 : (rd_L6 x0_1 x4_2).length ≤ c233_0 := HC233_0.out
                    have hC12 : Kd.F k44 _ _ A233_0 (rd_L6 x0_1 x4_2).length (rd_L6 x0_1 x4_2) := (Kd.V_at (base := w.heap.size) HL233_0.out).2.2
                    have hcut12 := cut_to (P := Try.prog) 22 44 .i64 Try.underlying22 hi012 A233_0 (rd_L6 x0_1 x4_2).length c233_0 200 (by omega) q12 hroom12
                    have hr12 := Kd.F_take (m := 200) hC12 (by omega)
                    have hy12 : y234.length = (200 : Int).toNat := (by rw [Ny234.out, List.length_take]; omega)
                    rw [← Ny234.out] at hr12
                    rw [← hy12] at hcut12
                    have HO238 := Aside0.mk (show Kd.V k44 44 _ w.heap.size _ (.slice A233_0 y234.length c233_0) y234 from Kd.V_mk (by omega) hr12)
                    have HC238 := Aside0.mk (show y234.length ≤ c233_0 from by omega)
                    clear hr12 hC12 hroom12 hi012 hsz12
                    have KY12 := Aside0.mk hy12
                    clear hy12
                    replace q12 := eq_true q12
                    go_wp2_with (first | ((with_reducible refine gate_builtin (b := .append) (xs := #[.tmp 26, .tmp 28]) rfl ?_); at_builtin; refine Kd.N_append (Kd.slice 44 k44) (w0 := w) w.heap.size rfl (.tmp 26) (.tmp 28) 32 22 (.slice none 0 0) 24 rfl Try.underlying32 info22 rfl (by decide) (by omega) u3 x3_2 y234 [.slice A233_0 y234.length c233_0] (fun k_ => (P0_ k_ ∨ w.heap.size ≤ k_)) (fun k_ => ((fun k_ => (P0_ k_ ∨ w.heap.size ≤ k_))) k_ ∧ some k_ ≠ (u3 : Value).ownBlock) rfl rfl ?aP (fun _ hk => hk) ?aF ?aO ?aB ?aS ?aL ?_; (case aP => exact (Kd.FK_slice_mk (Kd.V_reads' (Kd.V_mono (ok' := (fun k_ => ((fun k_ => (P0_ k_ ∨ w.heap.size ≤ k_))) k_ ∧ some k_ ≠ (u3 : Value).ownBlock)) (HO238.out) (fun k_ hk => ⟨hk.1, hk.2⟩))).2.1 (Kd.V_F (Kd.V_mono (ok' := (fun k_ => ((fun k_ => (P0_ k_ ∨ w.heap.size ≤ k_))) k_ ∧ some k_ ≠ (u3 : Value).ownBlock)) (HO238.out) (fun k_ hk => ⟨hk.1, hk.2⟩))))); (case aB => exact (by repeat (first | (with_reducible first | exact HB.out | apply below_alloc | apply pw_below_drewN | apply below_drew1) | exact HB.out))); (case aF => exact (fun k_ hk => (.inr (Nat.le_trans (below_size (by repeat (first | (with_reducible first | exact HB.out | apply below_alloc | apply pw_below_drewN | apply below_drew1) | exact HB.out))) hk)))); (case aO => exact (by (with_reducible repeat (first | apply Kd.N_alloc | apply Kd.N_drewN | apply Kd.N_drew)); exact HO_3.out)); (case aS => exact (below_size (by repeat (first | (with_reducible first | exact HB.out | apply below_alloc | apply pw_below_drewN | apply below_drew1) | exact HB.out)))); (case aL => have := LMc10.out; omega); intro v240 w13 ho hb hg hat; rw [← Ny239.out] at ho; have n0_ := Aside0.mk (Kd.V_afterv (ok := (fun k_ => (P0_ k_ ∨ w.heap.size ≤ k_))) (by (with_reducible repeat (first | apply Kd.V_alloc | apply Kd.V_drewN | apply Kd.V_drew)); exact HO_0.out) hg hat); have n1_ := Aside0.mk (Kd.V_afterv (ok := (fun k_ => (P0_ k_ ∨ w.heap.size ≤ k_))) (by (with_reducible repeat (first | apply Kd.V_alloc | apply Kd.V_drewN | apply Kd.V_drew)); exact HL233_0.out) hg hat); have n2_ := Aside0.mk (Kd.V_afterv (ok := (fun k_ => (P0_ k_ ∨ w.heap.size ≤ k_))) (by (with_reducible repeat (first | apply Kd.V_alloc | apply Kd.V_drewN | apply Kd.V_drew)); exact HO238.out) hg hat); have n3_ := Aside0.mk (hb); have n4_ := Aside0.mk (ho); clear HO_0; clear HL233_0; clear HO238; clear HB; clear HO_3; have HO_0 := n0_; have HL233_0 := n1_; have HO238 := n2_; have HB := n3_; have HO241 := n4_; clear n0_ n1_ n2_ n3_ n4_; clear ho hb hg hat))
                    go_roundg k2
                    case measure => have := HJ1.out; have := HK2.out; omega
                    case rel => exact ⟨(y239), (wrap64 (x4_2 + 1)), (by first | rfl | (simp; done) | (simp [*]; done)), H', ⟨by have := HJ1.out; have := HK2.out; omega⟩, ⟨by (with_reducible repeat (first | apply Kd.V_alloc | apply Kd.V_drewN | apply Kd.V_drew)); exact HO_0.out⟩, ⟨by (with_reducible repeat (first | apply Kd.N_alloc | apply Kd.N_drewN | apply Kd.N_drew)); exact HO241.out⟩, ⟨by repeat (first | (with_reducible first | exact HB.out | apply below_alloc | apply pw_below_drewN | apply below_drew1) | exact HB.out)⟩⟩
                  · rw [if_neg c10] at H
                    exact absurd H (by simp)
                · rw [if_neg c9] at H
                  exact absurd H (by simp)
              · rw [if_neg c8] at H
                have c8b0 : decide (200 < ((rd_L6 x0_1 x4_2).length : Int)) = false := decide_eq_false c8
                have c8b1 : decide (200 < (rd_L6 x0_1 x4_2).length) = false := decide_eq_false (by omega)
                clear c8
                by_cases c14 : x3_2.length < 5864062014805
                · rw [if_pos c14] at H
                  have LMc14 := Aside0.mk c14
                  clear c14
                  obtain ⟨y242, hy242⟩ : ∃ y_ : List (List (S44)), y_ = (x3_2 ++ [rd_L6 x0_1 x4_2]) := ⟨_, rfl⟩
                  replace H : (staddlelaw16_few.l0 k2 x0_1 y242 (wrap64 (x4_2 + 1))) = some r := by first | (rw [hy242]; with_reducible exact H) | (have H2_ := (Option.bind_some _ _).symm.trans H; rw [hy242]; with_reducible exact H2_) | (have H2_ := (Option.bind_some _ _).symm.trans H; with_reducible exact H2_) | with_reducible exact H | (rw [hy242]; exact H) | exact H
                  have Ny242 := Aside0.mk hy242
                  clear hy242
                  have H' := Aside0.mk H
                  clear H
                  obtain ⟨Ao15, co15, eo15⟩ := Kd.V_slice HO_0.out
                  subst eo15
                  have p233 : 0 ≤ (x4_2 : Int) := of_decide_eq_true (by first | (with_reducible assumption) | assumption)
                  have q233 : x4_2 < (x0_1.length : Int) := of_decide_eq_true (by first | (with_reducible assumption) | assumption)
                  obtain ⟨ad233, A233_0, c233_0, e233, hx233_0, hl233_0, hi233_0⟩ := at_L6 (Kd.V_reads' HO_0.out).2.2 x4_2 p233 q233
                  cases e233
                  obtain ⟨ce233, hce233, hMe233, hcc233⟩ := Kd.V_get HO_0.out [] x4_2 p233 (by first | exact q233 | exact of_decide_eq_true (by first | (with_reducible assumption) | assumption) | (have e_ := (Kd.V_reads' HO_0.out).1; omega))
                  obtain ⟨ua233_0, uc233_0, rfl, ul233_0, ge233_0⟩ := Kd.FK_slice_open hMe233
                  have hv233_0 := hcc233 0 _ rfl
                  rw [Nat.add_zero, show ((Kd.slice 44 k44)).sz = 1 from rfl, Nat.mul_one] at hv233_0
                  replace hv233_0 := Option.some.inj (hv233_0.symm.trans hx233_0)
                  injection hv233_0 with hva_ hvn_ hvc_
                  rw [hva_] at ge233_0
                  rw [hvc_] at ul233_0
                  have HL233_0 := Aside0.mk (show Kd.V k44 44 _ w.heap.size _ _ (rd_L6 x0_1 x4_2) from Kd.V_mk ul233_0 ge233_0)
                  clear hva_ hvn_ hvc_ ge233_0 ul233_0
                  clear hcc233 hce233
                  have HR233_0 := Aside0.mk hi233_0
                  have HC233_0 := Aside0.mk hl233_0
                  clear hi233_0 hl233_0
                  replace p233 := eq_true p233
                  replace q233 := eq_true q233
                  go_wp2_with (first | ((with_reducible refine gate_builtin (b := .append) (xs := #[.tmp 26, .tmp 28]) rfl ?_); at_builtin; refine Kd.N_append (Kd.slice 44 k44) (w0 := w) w.heap.size rfl (.tmp 26) (.tmp 28) 32 22 (.slice none 0 0) 24 rfl Try.underlying32 info22 rfl (by decide) (by omega) u3 x3_2 (rd_L6 x0_1 x4_2) [.slice A233_0 (rd_L6 x0_1 x4_2).length c233_0] (fun k_ => (P0_ k_ ∨ w.heap.size ≤ k_)) (fun k_ => ((fun k_ => (P0_ k_ ∨ w.heap.size ≤ k_))) k_ ∧ some k_ ≠ (u3 : Value).ownBlock) rfl rfl ?aP (fun _ hk => hk) ?aF ?aO ?aB ?aS ?aL ?_; (case aP => exact (Kd.FK_slice_mk (Kd.V_reads' (Kd.V_mono (ok' := (fun k_ => ((fun k_ => (P0_ k_ ∨ w.heap.size ≤ k_))) k_ ∧ some k_ ≠ (u3 : Value).ownBlock)) (HL233_0.out) (fun k_ hk => ⟨hk.1, hk.2⟩))).2.1 (Kd.V_F (Kd.V_mono (ok' := (fun k_ => ((fun k_ => (P0_ k_ ∨ w.heap.size ≤ k_))) k_ ∧ some k_ ≠ (u3 : Value).ownBlock)) (HL233_0.out) (fun k_ hk => ⟨hk.1, hk.2⟩))))); (case aB => exact (by repeat (first | (with_reducible first | exact HB.out | apply below_alloc | apply pw_below_drewN | apply below_drew1) | exact HB.out))); (case aF => exact (fun k_ hk => (.inr (Nat.le_trans (below_size (by repeat (first | (with_reducible first | exact HB.out | apply below_alloc | apply pw_below_drewN | apply below_drew1) | exact HB.out))) hk)))); (case aO => exact (by (with_reducible repeat (first | apply Kd.N_alloc | apply Kd.N_drewN | apply Kd.N_drew)); exact HO_3.out)); (case aS => exact (below_size (by repeat (first | (with_reducible first | exact HB.out | apply below_alloc | apply pw_below_drewN | apply below_drew1) | exact HB.out)))); (case aL => have := LMc14.out; omega); intro v243 w16 ho hb hg hat; rw [← Ny242.out] at ho; have n0_ := Aside0.mk (Kd.V_afterv (ok := (fun k_ => (P0_ k_ ∨ w.heap.size ≤ k_))) (by (with_reducible repeat (first | apply Kd.V_alloc | apply Kd.V_drewN | apply Kd.V_drew)); exact HO_0.out) hg hat); have n1_ := Aside0.mk (Kd.V_afterv (ok := (fun k_ => (P0_ k_ ∨ w.heap.size ≤ k_))) (by (with_reducible repeat (first | apply Kd.V_alloc | apply Kd.V_drewN | apply Kd.V_drew)); exact HL233_0.out) hg hat); have n2_ := Aside0.mk (hb); have n3_ := Aside0.mk (ho); clear HO_0; clear HL233_0; clear HB; clear HO_3; have HO_0 := n0_; have HL233_0 := n1_; have HB := n2_; have HO244 := n3_; clear n0_ n1_ n2_ n3_; clear ho hb hg hat))
                  go_roundg k2
                  case measure => have := HJ1.out; have := HK2.out; omega
                  case rel => exact ⟨(y242), (wrap64 (x4_2 + 1)), (by first | rfl | (simp; done) | (simp [*]; done)), H', ⟨by have := HJ1.out; have := HK2.out; omega⟩, ⟨by (with_reducible repeat (first | apply Kd.V_alloc | apply Kd.V_drewN | apply Kd.V_drew)); exact HO_0.out⟩, ⟨by (with_reducible repeat (first | apply Kd.N_alloc | apply Kd.N_drewN | apply Kd.N_drew)); exact HO244.out⟩, ⟨by repeat (first | (with_reducible first | exact HB.out | apply below_alloc | apply pw_below_drewN | apply below_drew1) | exact HB.out)⟩⟩
                · rw [if_neg c14] at H
                  exact absurd H (by simp)
            · rw [if_neg c7] at H
              exact absurd H (by simp)
          · rw [if_neg c6] at H
            have c6b0 : decide (x4_2 < (x0_1.length : Int)) = false := decide_eq_false c6
            clear c6
            obtain rfl := Option.some.inj H
            obtain ⟨Ao17, co17, eo17⟩ := Kd.V_slice HO_0.out
            subst eo17
            go_wp2
            go_ret
            exact ⟨_, by first | rfl | (simp [errW_none, errW_some] <;> rfl) | (simp [*, errW_none, errW_some] <;> rfl), by (with_reducible repeat (first | apply Kd.N_alloc | apply Kd.N_drewN | apply Kd.N_drew)); exact HO_3.out, by repeat (first | (with_reducible first | exact HB.out | apply below_alloc | apply pw_below_drewN | apply below_drew1) | exact HB.out)⟩

-- NOT PRINTED: function 10 (staddlelaw16_MergeHolds)

-- NOT PRINTED: function 11 (staddlelaw16_MergeOne)

-- NOT PRINTED: function 42 (merge_Iter_Last)

-- NOT PRINTED: function 12 (staddlelaw16_MergeGoes)

-- NOT PRINTED: function 43 (staddleref16_New)

-- NOT PRINTED: function 47 (merge_Iter_Seek)

-- NOT PRINTED: function 44 (staddlelaw16_gone)

-- NOT PRINTED: function 45 (staddleref16_Iter_Go)

-- NOT PRINTED: function 46 (staddleref16_Iter_Told)

-- NOT PRINTED: function 13 (staddlelaw16_MergePlays)

-- NOT PRINTED: function 14 (staddlelaw16_MergeNil)

-- NOT PRINTED: function 50 (view_New)

-- NOT PRINTED: function 55 (view_View_At)

/-! ### view_start: function 81 -/
def view_start.f (a0 : ByteArray) : Option (ByteArray × Int × Int) := some (a0, 18446744073709551615, 9223372036854775807)
set_option maxHeartbeats 8000000 in
set_option maxRecDepth 100000 in
theorem view_start.calls (a0 : ByteArray) (r1 : ByteArray) (r2 : Int) (r3 : Int) (w : World) (h : view_start.f a0 = some (r1, r2, r3)) :
    Calls Try.prog 81 #[.string a0] w fun e w' => e = .returned (.agg #[.string r1, .int .u64 r2, .int .i64 r3]) ∧ Below w.heap.size w w' := by
  have hu42 := Try.underlying42
  have HB := Aside0.mk (Below.refl w.heap.size w)
  have H : (some (a0, 18446744073709551615, 9223372036854775807)) = some (r1, r2, r3) := h
  clear h
  simp only [Option.some.injEq, Prod.mk.injEq] at H
  obtain ⟨rfl, rfl, rfl⟩ := H
  go_enter Try.func81, Try.ntmps81
  go_wp2_with (first | ((with_reducible refine gate_dst (N := 2) rfl ?_); refine box_event ?hg (N := 2) ?hd (cs := #[.string (⟨#[]⟩ : ByteArray), .int .u64 0, .int .i64 0]) (t := 42) ?hr ?_; (case hd => rfl); (case hg => rfl); (case hr => first | (go_simp; done) | (go_simp; rfl)); intro gb251 hg w2 hbox hb; have n0_ := Aside0.mk (below_step (by repeat (first | (with_reducible first | exact HB.out | apply below_alloc | apply pw_below_drewN | apply below_drew1) | exact HB.out)) hb); have n1_ := Aside0.mk (hbox); have n2_ := Aside0.mk ((by rw [hg]; exact (below_size (by repeat (first | (with_reducible first | exact HB.out | apply below_alloc | apply pw_below_drewN | apply below_drew1) | exact HB.out))) : w.heap.size ≤ gb251)); have n3_ := Aside0.mk ((by rw [hg]; exact (below_size (by repeat (first | (with_reducible first | exact HB.out | apply below_alloc | apply pw_below_drewN | apply below_drew1) | exact HB.out))) : w.heap.size ≤ gb251)); clear HB; have HB := n0_; have BK251 := n1_; have GW251 := n2_; have GE251 := n3_; clear n0_ n1_ n2_ n3_; clear hb hbox hg; have hcz3_0 : w2.cell? ⟨gb251, 0, none⟩ = some (.string (⟨#[]⟩ : ByteArray)) := (blk_cell BK251.out 0).trans rfl; have hcz3_1 : w2.cell? ⟨gb251, 1, none⟩ = some (.int .u64 0) := (blk_cell BK251.out 1).trans rfl; have hcz3_2 : w2.cell? ⟨gb251, 2, none⟩ = some (.int .i64 0) := (blk_cell BK251.out 2).trans rfl; have hfz3_0 := blk_frozen BK251.out 0; have hfz3_1 := blk_frozen BK251.out 1; have hfz3_2 := blk_frozen BK251.out 2))
  refine bodyPost_ret (results_cell_row rfl _ _ gb251 42 #[.string a0, .int .u64 18446744073709551615, .int .i64 9223372036854775807] (0, 0) _ rfl (by (with_reducible repeat (first | refine blk_drewN ?_ _ | refine blk_drew ?_ | refine blk_alloc ?_ _)); refine blk_put (cs := #[.string a0, .int .u64 18446744073709551615, .int .i64 0]) ?_ 2 _ rfl; (with_reducible repeat (first | refine blk_drewN ?_ _ | refine blk_drew ?_ | refine blk_alloc ?_ _)); refine blk_put (cs := #[.string a0, .int .u64 0, .int .i64 0]) ?_ 1 _ rfl; (with_reducible repeat (first | refine blk_drewN ?_ _ | refine blk_drew ?_ | refine blk_alloc ?_ _)); refine blk_put (cs := #[.string (⟨#[]⟩ : ByteArray), .int .u64 0, .int .i64 0]) ?_ 0 _ rfl; (with_reducible repeat (first | refine blk_drewN ?_ _ | refine blk_drew ?_ | refine blk_alloc ?_ _)); exact BK251.out) Try.underlying42 rfl (by kernel_rfl)) rfl ?_
  exact ⟨by first | rfl | (simp [errW_none, errW_some] <;> rfl) | (simp [*, errW_none, errW_some] <;> rfl), by repeat (first | (with_reducible first | exact HB.out | apply below_alloc | apply pw_below_drewN | apply below_drew1 | refine below_set ?_ GE251.out) | exact HB.out)⟩

-- NOT PRINTED: function 98 (view_View_entries)

-- NOT PRINTED: function 83 (view_View_back)

-- NOT PRINTED: function 56 (view_View_Prev)

-- NOT PRINTED: function 82 (view_View_on)

-- NOT PRINTED: function 62 (view_View_First)

-- NOT PRINTED: function 63 (view_View_Next)

-- NOT PRINTED: function 48 (staddlelaw17_awake)

end Go.Proofs.Ytehoojmalhloeaa.PC
