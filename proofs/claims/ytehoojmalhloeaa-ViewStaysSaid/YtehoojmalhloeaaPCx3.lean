/- Contracts of the document's own functions (chapters 08, 16, 17, 19) over one set of value types, written by the kit's print program. -/
import Derived.Test.YtehoojmalhloeaaPCx0
import Derived.Test.YtehoojmalhloeaaCY
namespace Go.Proofs.Ytehoojmalhloeaa.PC
open Go.RowKit Go.Proofs.YtehoojmalhloeaaW.PrintWords Go.Proofs.YtehoojmalhloeaaW.PrintLast Go.Proofs.YtehoojmalhloeaaW.PrintMore
attribute [local go_sem] max2_int min2_int max_two min_two max_three min_three max_four min_four   -- for this text's walks alone
set_option linter.unusedVariables false
set_option linter.unusedSimpArgs false

-- NOT PRINTED: function 69 (ikey_Compare)

-- NOT PRINTED: function 64 (compact_rises)

-- NOT PRINTED: function 65 (compact_users)

-- NOT PRINTED: function 99 (slices_IndexFunc_uint64_uint64)

-- NOT PRINTED: function 85 (slices_ContainsFunc_uint64_uint64)

-- NOT PRINTED: function 66 (compact_counted)

-- NOT PRINTED: function 67 (compact_settled)

-- NOT PRINTED: function 24 (compact_Drop)

-- NOT PRINTED: function 27 (compact_Split)

-- NOT PRINTED: function 22 (staddlelaw19_awake)

/-! ### staddlelaw19_few: function 23 -/
def staddlelaw19_few.f (l0 : List (S44)) (l1 : List Int) : Option ((List (S44)) × List Int) := if (l0.length : Int) > 200 then (if 200 ≤ (l0.length : Int) then ((some (l0.take (200 : Int).toNat : List (S44))).bind fun y116 => (if (l1.length : Int) > 50 then (if 50 ≤ (l1.length : Int) then (some (y116, (l1.take (50 : Int).toNat))) else (none)) else (some (y116, l1)))) else (none)) else (if (l1.length : Int) > 50 then (if 50 ≤ (l1.length : Int) then (some (l0, (l1.take (50 : Int).toNat))) else (none)) else (some (l0, l1)))
set_option maxHeartbeats 8000000 in
set_option maxRecDepth 100000 in
theorem staddlelaw19_few.calls (P0_ : Nat → Prop) (u9000_ : Value) (l0 : List (S44)) (P1_ : Nat → Prop) (u9001_ : Value) (l1 : List Int) (r1 : List (S44)) (r2 : List Int) (w0 w : World) (hB : Below w0.heap.size w0 w) (ho0 : Kd.R k44 44 w w0.heap.size P0_ u9000_ l0) (ho1 : Kd.R (Kd.int .u64) 37 w w0.heap.size P1_ u9001_ l1) (h : staddlelaw19_few.f l0 l1 = some (r1, r2)) :
    Calls Try.prog 23 #[u9000_, u9001_] w fun e w' => ∃ v0_ v1_ : Value, e = .returned (.tuple #[v0_, v1_]) ∧ Kd.R k44 44 w' w0.heap.size (fun k_ => ((P0_ k_ ∨ P1_ k_) ∨ w.heap.size ≤ k_)) v0_ r1 ∧ Kd.R (Kd.int .u64) 37 w' w0.heap.size (fun k_ => ((P0_ k_ ∨ P1_ k_) ∨ w.heap.size ≤ k_)) v1_ r2 ∧ Below w0.heap.size w0 w' ∧ Kept w w' (fun k_ => P0_ k_ ∨ P1_ k_) := by
  have HO0 := Aside0.mk (show Kd.R k44 44 w w0.heap.size (fun k_ => ((P0_ k_ ∨ P1_ k_) ∨ w.heap.size ≤ k_)) u9000_ l0 from Kd.R_mono ho0 (fun k_ hk => (.inl (.inl hk))))
  have HO1 := Aside0.mk (show Kd.R (Kd.int .u64) 37 w w0.heap.size (fun k_ => ((P0_ k_ ∨ P1_ k_) ∨ w.heap.size ≤ k_)) u9001_ l1 from Kd.R_mono ho1 (fun k_ hk => (.inl (.inr hk))))
  have HK := Aside0.mk (Kept.refl w (fun k_ => P0_ k_ ∨ P1_ k_))
  have HW0 := Aside0.mk hB.size
  have HB := Aside0.mk hB
  clear hB
  have H : (if (l0.length : Int) > 200 then (if 200 ≤ (l0.length : Int) then ((some (l0.take (200 : Int).toNat : List (S44))).bind fun y116 => (if (l1.length : Int) > 50 then (if 50 ≤ (l1.length : Int) then (some (y116, (l1.take (50 : Int).toNat))) else (none)) else (some (y116, l1)))) else (none)) else (if (l1.length : Int) > 50 then (if 50 ≤ (l1.length : Int) then (some (l0, (l1.take (50 : Int).toNat))) else (none)) else (some (l0, l1)))) = some (r1, r2) := h
  clear h
  by_cases c3 : (l0.length : Int) > 200
  · rw [if_pos c3] at H
    have c3b0 : decide (200 < (l0.length : Int)) = true := decide_eq_true c3
    have c3b1 : decide (200 < l0.length) = true := decide_eq_true (by omega)
    clear c3
    by_cases c4 : 200 ≤ (l0.length : Int)
    · rw [if_pos c4] at H
      have c4b0 := eq_true c4
      have c4b1 : decide (200 ≤ (l0.length : Int)) = true := decide_eq_true c4
      clear c4
      obtain ⟨y116, hy116⟩ : ∃ y_ : List (S44), y_ = (l0.take (200 : Int).toNat) := ⟨_, rfl⟩
      replace H : (if (l1.length : Int) > 50 then (if 50 ≤ (l1.length : Int) then (some (y116, (l1.take (50 : Int).toNat))) else (none)) else (some (y116, l1))) = some (r1, r2) := by first | (rw [hy116]; with_reducible exact H) | (have H2_ := (Option.bind_some _ _).symm.trans H; rw [hy116]; with_reducible exact H2_) | (have H2_ := (Option.bind_some _ _).symm.trans H; with_reducible exact H2_) | with_reducible exact H | (rw [hy116]; exact H) | exact H
      have Ny116 := Aside0.mk hy116
      clear hy116
      by_cases c5 : (l1.length : Int) > 50
      · rw [if_pos c5] at H
        have c5b0 : decide (50 < (l1.length : Int)) = true := decide_eq_true c5
        have c5b1 : decide (50 < l1.length) = true := decide_eq_true (by omega)
        clear c5
        by_cases c6 : 50 ≤ (l1.length : Int)
        · rw [if_pos c6] at H
          have c6b0 := eq_true c6
          have c6b1 : decide (50 ≤ (l1.length : Int)) = true := decide_eq_true c6
          clear c6
          obtain ⟨y119, hy119⟩ : ∃ y_ : List Int, y_ = (l1.take (50 : Int).toNat) := ⟨_, rfl⟩
          replace H : (some (y116, y119)) = some (r1, r2) := by first | (rw [hy119]; with_reducible exact H) | (have H2_ := (Option.bind_some _ _).symm.trans H; rw [hy119]; with_reducible exact H2_) | (have H2_ := (Option.bind_some _ _).symm.trans H; with_reducible exact H2_) | with_reducible exact H | (rw [hy119]; exact H) | exact H
          have Ny119 := Aside0.mk hy119
          clear hy119
          simp only [Option.some.injEq, Prod.mk.injEq] at H
          obtain ⟨rfl, rfl⟩ := H
          obtain ⟨Ao7, co7, eo7⟩ := Kd.R_slice HO0.out
          subst eo7
          have q8 : (200 : Int) ≤ ((l0.length : Int) : Int) := of_decide_eq_true (by first | (with_reducible assumption) | assumption)
          obtain ⟨i08, hi08, _, hsz8, _⟩ := info_parts info44
          have hcut8 := cut_to (P := Try.prog) 22 44 .i64 Try.underlying22 hi08 Ao7 l0.length co7 200 (by omega) q8 (Kd.R_reads' HO0.out).2.1
          have hr8 := Kd.R_take (m := (200 : Int).toNat) HO0.out (by omega)
          have hy8 : y116.length = (200 : Int).toNat := (by rw [Ny116.out, List.length_take]; omega)
          rw [← Ny116.out] at hr8
          rw [← hy8] at hr8 hcut8
          clear hy8 hi08 hsz8 HO0
          have HO118 := Aside0.mk hr8
          clear hr8
          replace q8 := eq_true q8
          obtain ⟨Ao9, co9, eo9⟩ := Kd.R_slice HO1.out
          subst eo9
          have q10 : (50 : Int) ≤ ((l1.length : Int) : Int) := of_decide_eq_true (by first | (with_reducible assumption) | assumption)
          obtain ⟨i010, hi010, _, hsz10, _⟩ := info_parts info37
          have hcut10 := cut_to (P := Try.prog) 23 37 .i64 Try.underlying23 hi010 Ao9 l1.length co9 50 (by omega) q10 (Kd.R_reads' HO1.out).2.1
          have hr10 := Kd.R_take (m := (50 : Int).toNat) HO1.out (by omega)
          have hy10 : y119.length = (50 : Int).toNat := (by rw [Ny119.out, List.length_take]; omega)
          rw [← Ny119.out] at hr10
          rw [← hy10] at hr10 hcut10
          clear hy10 hi010 hsz10 HO1
          have HO121 := Aside0.mk hr10
          clear hr10
          replace q10 := eq_true q10
          go_enter Try.func23, Try.ntmps23
          go_wp2
          go_ret2
          exact ⟨_, _, by first | rfl | (simp [errW_none, errW_some] <;> rfl) | (simp [*, errW_none, errW_some] <;> rfl), by (with_reducible repeat (first | apply Kd.R_alloc | apply Kd.R_drewN | apply Kd.R_drew)); exact HO118.out, by (with_reducible repeat (first | apply Kd.R_alloc | apply Kd.R_drewN | apply Kd.R_drew)); exact HO121.out, by repeat (first | (with_reducible first | exact HB.out | apply below_alloc | apply pw_below_drewN | apply below_drew1) | exact HB.out), by repeat (first | (with_reducible first | exact HK.out | apply Kept.alloc | apply Kept.drewN | apply Kept.drew) | exact HK.out)⟩
        · rw [if_neg c6] at H
          exact absurd H (by simp)
      · rw [if_neg c5] at H
        have c5b0 : decide (50 < (l1.length : Int)) = false := decide_eq_false c5
        have c5b1 : decide (50 < l1.length) = false := decide_eq_false (by omega)
        clear c5
        simp only [Option.some.injEq, Prod.mk.injEq] at H
        obtain ⟨rfl, rfl⟩ := H
        obtain ⟨Ao11, co11, eo11⟩ := Kd.R_slice HO0.out
        subst eo11
        have q12 : (200 : Int) ≤ ((l0.length : Int) : Int) := of_decide_eq_true (by first | (with_reducible assumption) | assumption)
        obtain ⟨i012, hi012, _, hsz12, _⟩ := info_parts info44
        have hcut12 := cut_to (P := Try.prog) 22 44 .i64 Try.underlying22 hi012 Ao11 l0.length co11 200 (by omega) q12 (Kd.R_reads' HO0.out).2.1
        have hr12 := Kd.R_take (m := (200 : Int).toNat) HO0.out (by omega)
        have hy12 : y116.length = (200 : Int).toNat := (by rw [Ny116.out, List.length_take]; omega)
        rw [← Ny116.out] at hr12
        rw [← hy12] at hr12 hcut12
        clear hy12 hi012 hsz12 HO0
        have HO118 := Aside0.mk hr12
        clear hr12
        replace q12 := eq_true q12
        obtain ⟨Ao13, co13, eo13⟩ := Kd.R_slice HO1.out
        subst eo13
        go_enter Try.func23, Try.ntmps23
        go_wp2
        go_ret2
        exact ⟨_, _, by first | rfl | (simp [errW_none, errW_some] <;> rfl) | (simp [*, errW_none, errW_some] <;> rfl), by (with_reducible repeat (first | apply Kd.R_alloc | apply Kd.R_drewN | apply Kd.R_drew)); exact HO118.out, by (with_reducible repeat (first | apply Kd.R_alloc | apply Kd.R_drewN | apply Kd.R_drew)); exact HO1.out, by repeat (first | (with_reducible first | exact HB.out | apply below_alloc | apply pw_below_drewN | apply below_drew1) | exact HB.out), by repeat (first | (with_reducible first | exact HK.out | apply Kept.alloc | apply Kept.drewN | apply Kept.drew) | exact HK.out)⟩
    · rw [if_neg c4] at H
      exact absurd H (by simp)
  · rw [if_neg c3] at H
    have c3b0 : decide (200 < (l0.length : Int)) = false := decide_eq_false c3
    have c3b1 : decide (200 < l0.length) = false := decide_eq_false (by omega)
    clear c3
    by_cases c14 : (l1.length : Int) > 50
    · rw [if_pos c14] at H
      have c14b0 : decide (50 < (l1.length : Int)) = true := decide_eq_true c14
      have c14b1 : decide (50 < l1.length) = true := decide_eq_true (by omega)
      clear c14
      by_cases c15 : 50 ≤ (l1.length : Int)
      · rw [if_pos c15] at H
        have c15b0 := eq_true c15
        have c15b1 : decide (50 ≤ (l1.length : Int)) = true := decide_eq_true c15
        clear c15
        obtain ⟨y122, hy122⟩ : ∃ y_ : List Int, y_ = (l1.take (50 : Int).toNat) := ⟨_, rfl⟩
        replace H : (some (l0, y122)) = some (r1, r2) := by first | (rw [hy122]; with_reducible exact H) | (have H2_ := (Option.bind_some _ _).symm.trans H; rw [hy122]; with_reducible exact H2_) | (have H2_ := (Option.bind_some _ _).symm.trans H; with_reducible exact H2_) | with_reducible exact H | (rw [hy122]; exact H) | exact H
        have Ny122 := Aside0.mk hy122
        clear hy122
        simp only [Option.some.injEq, Prod.mk.injEq] at H
        obtain ⟨rfl, rfl⟩ := H
        obtain ⟨Ao16, co16, eo16⟩ := Kd.R_slice HO0.out
        subst eo16
        obtain ⟨Ao17, co17, eo17⟩ := Kd.R_slice HO1.out
        subst eo17
        have q18 : (50 : Int) ≤ ((l1.length : Int) : Int) := of_decide_eq_true (by first | (with_reducible assumption) | assumption)
        obtain ⟨i018, hi018, _, hsz18, _⟩ := info_parts info37
        have hcut18 := cut_to (P := Try.prog) 23 37 .i64 Try.underlying23 hi018 Ao17 l1.length co17 50 (by omega) q18 (Kd.R_reads' HO1.out).2.1
        have hr18 := Kd.R_take (m := (50 : Int).toNat) HO1.out (by omega)
        have hy18 : y122.length = (50 : Int).toNat := (by rw [Ny122.out, List.length_take]; omega)
        rw [← Ny122.out] at hr18
        rw [← hy18] at hr18 hcut18
        clear hy18 hi018 hsz18 HO1
        have HO124 := Aside0.mk hr18
        clear hr18
        replace q18 := eq_true q18
        go_enter Try.func23, Try.ntmps23
        go_wp2
        go_ret2
        exact ⟨_, _, by first | rfl | (simp [errW_none, errW_some] <;> rfl) | (simp [*, errW_none, errW_some] <;> rfl), by (with_reducible repeat (first | apply Kd.R_alloc | apply Kd.R_drewN | apply Kd.R_drew)); exact HO0.out, by (with_reducible repeat (first | apply Kd.R_alloc | apply Kd.R_drewN | apply Kd.R_drew)); exact HO124.out, by repeat (first | (with_reducible first | exact HB.out | apply below_alloc | apply pw_below_drewN | apply below_drew1) | exact HB.out), by repeat (first | (with_reducible first | exact HK.out | apply Kept.alloc | apply Kept.drewN | apply Kept.drew) | exact HK.out)⟩
      · rw [if_neg c15] at H
        exact absurd H (by simp)
    · rw [if_neg c14] at H
      have c14b0 : decide (50 < (l1.length : Int)) = false := decide_eq_false c14
      have c14b1 : decide (50 < l1.length) = false := decide_eq_false (by omega)
      clear c14
      simp only [Option.some.injEq, Prod.mk.injEq] at H
      obtain ⟨rfl, rfl⟩ := H
      obtain ⟨Ao19, co19, eo19⟩ := Kd.R_slice HO0.out
      subst eo19
      obtain ⟨Ao20, co20, eo20⟩ := Kd.R_slice HO1.out
      subst eo20
      go_enter Try.func23, Try.ntmps23
      go_wp2
      go_ret2
      exact ⟨_, _, by first | rfl | (simp [errW_none, errW_some] <;> rfl) | (simp [*, errW_none, errW_some] <;> rfl), by (with_reducible repeat (first | apply Kd.R_alloc | apply Kd.R_drewN | apply Kd.R_drew)); exact HO0.out, by (with_reducible repeat (first | apply Kd.R_alloc | apply Kd.R_drewN | apply Kd.R_drew)); exact HO1.out, by repeat (first | (with_reducible first | exact HB.out | apply below_alloc | apply pw_below_drewN | apply below_drew1) | exact HB.out), by repeat (first | (with_reducible first | exact HK.out | apply Kept.alloc | apply Kept.drewN | apply Kept.drew) | exact HK.out)⟩

/-! ### staddleref02_Compare: function 41 -/
def staddleref02_Compare.j0 : Nat → Bool → ByteArray → Int → Int → ByteArray → Int → Int → Option (Int)
  | 0, _, _, _, _, _, _, _ => none
  | k + 1, x33, x126000, x126001, x126002, x127000, x127001, x127002 => if x33 = true then (some (-1)) else (if x126001 < x127001 then (some 1) else (if x126002 < x127002 then (some 1) else (some 0)))
def staddleref02_Compare.f (k : Nat) (a0_0 : ByteArray) (a0_1 : Int) (a0_2 : Int) (a1_0 : ByteArray) (a1_1 : Int) (a1_2 : Int) : Option (Int) := if (Op.bytesLess a0_0.toList a1_0.toList) = true then (some (-1)) else (if (Op.bytesLess a1_0.toList a0_0.toList) = true then (some 1) else (if a0_1 > a1_1 then (staddleref02_Compare.j0 k true a0_0 a0_1 a0_2 a1_0 a1_1 a1_2) else (if a0_1 = a1_1 then (staddleref02_Compare.j0 k (decide (a0_2 > a1_2)) a0_0 a0_1 a0_2 a1_0 a1_1 a1_2) else (staddleref02_Compare.j0 k false a0_0 a0_1 a0_2 a1_0 a1_1 a1_2))))
theorem staddleref02_Compare.mono_l : ∀ k, (∀ y0 y1 y2 y3 y4 y5 y6, LeO (staddleref02_Compare.j0 k y0 y1 y2 y3 y4 y5 y6) (staddleref02_Compare.j0 (k + 1) y0 y1 y2 y3 y4 y5 y6))
  | 0 => fun _ _ _ _ _ _ _ r h => by simp [staddleref02_Compare.j0] at h
  | k + 1 => by
    have ih0 := staddleref02_Compare.mono_l k
    · intro y0 y1 y2 y3 y4 y5 y6
      unfold staddleref02_Compare.j0
      repeat' first
      | (with_reducible exact ih0 _ _ _ _ _ _ _)
      | (with_reducible exact LeO.refl _)
      | (with_reducible exact LeO.none _)
      | (with_reducible refine LeO.ite ?_ ?_)
      | (with_reducible refine LeO.bind ?_ (fun _ => ?_))
      | exact ih0 _ _ _ _ _ _ _
      | exact LeO.none _
      | refine LeO.ite ?_ ?_
      | refine LeO.bind ?_ (fun _ => ?_)
theorem staddleref02_Compare.mono : ∀ a0 a1 a2 a3 a4 a5 k, LeO (staddleref02_Compare.f k a0 a1 a2 a3 a4 a5) (staddleref02_Compare.f (k + 1) a0 a1 a2 a3 a4 a5) := by
  intro a0 a1 a2 a3 a4 a5 k
  have ih0 := staddleref02_Compare.mono_l k
  unfold staddleref02_Compare.f
  repeat' first
      | (with_reducible exact ih0 _ _ _ _ _ _ _)
      | (with_reducible exact LeO.refl _)
      | (with_reducible exact LeO.none _)
      | (with_reducible refine LeO.ite ?_ ?_)
      | (with_reducible refine LeO.bind ?_ (fun _ => ?_))
      | exact ih0 _ _ _ _ _ _ _
      | exact LeO.none _
      | refine LeO.ite ?_ ?_
      | refine LeO.bind ?_ (fun _ => ?_)
set_option maxHeartbeats 8000000 in
set_option maxRecDepth 100000 in
theorem staddleref02_Compare.calls (k : Nat) (a0_0 : ByteArray) (a0_1 : Int) (a0_2 : Int) (a1_0 : ByteArray) (a1_1 : Int) (a1_2 : Int) (r : Int) (w : World) (h : staddleref02_Compare.f k a0_0 a0_1 a0_2 a1_0 a1_1 a1_2 = some r) :
    Calls Try.prog 41 #[.agg #[.string a0_0, .int .u64 a0_1, .int .i64 a0_2], .agg #[.string a1_0, .int .u64 a1_1, .int .i64 a1_2]] w fun e w' => e = .returned (.int .i64 r) ∧ Below w.heap.size w w' := by
  have e : r = CM.refK ⟨a0_0, a0_1, a0_2⟩ ⟨a1_0, a1_1, a1_2⟩ := by
    unfold staddleref02_Compare.f at h
    unfold CM.refK
    simp only at h ⊢
    by_cases c1 : Op.bytesLess a0_0.toList a1_0.toList = true
    · rw [if_pos c1] at h ⊢
      exact (Option.some.inj h).symm
    rw [if_neg c1] at h ⊢
    by_cases c2 : Op.bytesLess a1_0.toList a0_0.toList = true
    · rw [if_pos c2] at h ⊢
      exact (Option.some.inj h).symm
    rw [if_neg c2] at h ⊢
    cases k with
    | zero =>
      simp only [staddleref02_Compare.j0] at h
      repeat' split at h
      all_goals cases h
    | succ k =>
      simp only [staddleref02_Compare.j0] at h
      repeat' split at h
      all_goals (have h := Option.some.inj h; subst h)
      all_goals (repeat' split)
      all_goals (simp only [decide_eq_true_eq, Bool.false_eq_true] at *)
      all_goals first | omega | (exfalso; simp_all; done) | (simp_all; omega)
  subst e
  exact CM.refCompare_w ⟨a0_0, a0_1, a0_2⟩ ⟨a1_0, a1_1, a1_2⟩ w

end Go.Proofs.Ytehoojmalhloeaa.PC
