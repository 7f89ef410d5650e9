/- The contract of the statement CompactSplits, written by a program over the contracts of what it calls. -/
import Derived.Test.YtehoojmalhloeaaPE0
import Derived.Test.YtehoojmalhloeaaPCx5
import Derived.Test.YtehoojmalhloeaaPCx6
namespace Go.Proofs.Ytehoojmalhloeaa.PC
open Go.RowKit Go.Proofs.YtehoojmalhloeaaW.PrintWords Go.Proofs.YtehoojmalhloeaaW.PrintLast Go.Proofs.YtehoojmalhloeaaW.PrintMore
attribute [local go_sem] max2_int min2_int max_two min_two max_three min_three max_four min_four   -- for this text's walks alone
set_option linter.unusedVariables false
set_option linter.unusedSimpArgs false

/-! ### staddlelaw19_CompactSplits: function 4 -/
mutual
def staddlelaw19_CompactSplits.j0 : Nat → Bool → List (List (S44)) → List (List (S44)) → Bool → Option (Bool)
  | 0, _, _, _, _ => none
  | k + 1, x5, x6, x8, x34 => if x34 = true then (some false) else (staddlelaw19_CompactSplits.l0 k x5 x6 x8 0)
def staddlelaw19_CompactSplits.l0 : Nat → Bool → List (List (S44)) → List (List (S44)) → Int → Option (Bool)
  | 0, _, _, _, _ => none
  | k + 1, x5, x6, x8, x10 => if x10 < (x6.length : Int) then (if 0 ≤ x10 then (if x10 < (x8.length : Int) then ((staddleref08_Same.f k (rd_L6 x6 x10) (rd_L6 x8 x10)).bind fun t233 => (if t233 = true then (staddlelaw19_CompactSplits.l0 k x5 x6 x8 (wrap64 (x10 + 1))) else (some false))) else (none)) else (none)) else (some x5)
end
def staddlelaw19_CompactSplits.f (k : Nat) (l0 : List (S44)) (a1 : Int) : Option (Bool) := (staddlelaw19_awake.f).bind fun t222 => ((compact_Split.f k l0 a1).bind fun bt223 => ((staddleref19_Split.f k l0 a1).bind fun bt227 => (if (bt223.1.length : Int) = (bt227.1.length : Int) then (staddlelaw19_CompactSplits.j0 k t222 bt223.1 bt227.1 (bt223.2 != bt227.2)) else (staddlelaw19_CompactSplits.j0 k t222 bt223.1 bt227.1 true))))
theorem staddlelaw19_CompactSplits.mono_l : ∀ k, (∀ y0 y1 y2 y3, LeO (staddlelaw19_CompactSplits.j0 k y0 y1 y2 y3) (staddlelaw19_CompactSplits.j0 (k + 1) y0 y1 y2 y3)) ∧ (∀ y0 y1 y2 y3, LeO (staddlelaw19_CompactSplits.l0 k y0 y1 y2 y3) (staddlelaw19_CompactSplits.l0 (k + 1) y0 y1 y2 y3))
  | 0 => ⟨fun _ _ _ _ r h => by simp [staddlelaw19_CompactSplits.j0] at h, fun _ _ _ _ r h => by simp [staddlelaw19_CompactSplits.l0] at h⟩
  | k + 1 => by
    obtain ⟨ih0, ih1⟩ := staddlelaw19_CompactSplits.mono_l k
    refine ⟨?_, ?_⟩
    · intro y0 y1 y2 y3
      unfold staddlelaw19_CompactSplits.j0
      repeat' first
      | (with_reducible exact ih0 _ _ _ _)
      | (with_reducible exact ih1 _ _ _ _)
      | (with_reducible exact compact_Split.mono _ _ _)
      | (with_reducible exact staddleref08_Same.mono _ _ _)
      | (with_reducible exact staddleref19_Split.mono _ _ _)
      | (with_reducible exact LeO.refl _)
      | (with_reducible exact LeO.none _)
      | (with_reducible refine LeO.ite ?_ ?_)
      | (with_reducible refine LeO.bind ?_ (fun _ => ?_))
      | exact ih0 _ _ _ _
      | exact ih1 _ _ _ _
      | exact compact_Split.mono _ _ _
      | exact staddleref08_Same.mono _ _ _
      | exact staddleref19_Split.mono _ _ _
      | exact LeO.none _
      | refine LeO.ite ?_ ?_
      | refine LeO.bind ?_ (fun _ => ?_)
    · intro y0 y1 y2 y3
      unfold staddlelaw19_CompactSplits.l0
      repeat' first
      | (with_reducible exact ih0 _ _ _ _)
      | (with_reducible exact ih1 _ _ _ _)
      | (with_reducible exact compact_Split.mono _ _ _)
      | (with_reducible exact staddleref08_Same.mono _ _ _)
      | (with_reducible exact staddleref19_Split.mono _ _ _)
      | (with_reducible exact LeO.refl _)
      | (with_reducible exact LeO.none _)
      | (with_reducible refine LeO.ite ?_ ?_)
      | (with_reducible refine LeO.bind ?_ (fun _ => ?_))
      | exact ih0 _ _ _ _
      | exact ih1 _ _ _ _
      | exact compact_Split.mono _ _ _
      | exact staddleref08_Same.mono _ _ _
      | exact staddleref19_Split.mono _ _ _
      | exact LeO.none _
      | refine LeO.ite ?_ ?_
      | refine LeO.bind ?_ (fun _ => ?_)
theorem staddlelaw19_CompactSplits.mono : ∀ a0 a1 k, LeO (staddlelaw19_CompactSplits.f k a0 a1) (staddlelaw19_CompactSplits.f (k + 1) a0 a1) := by
  intro a0 a1 k
  obtain ⟨ih0, ih1⟩ := staddlelaw19_CompactSplits.mono_l k
  unfold staddlelaw19_CompactSplits.f
  repeat' first
      | (with_reducible exact ih0 _ _ _ _)
      | (with_reducible exact ih1 _ _ _ _)
      | (with_reducible exact compact_Split.mono _ _ _)
      | (with_reducible exact staddleref08_Same.mono _ _ _)
      | (with_reducible exact staddleref19_Split.mono _ _ _)
      | (with_reducible exact LeO.refl _)
      | (with_reducible exact LeO.none _)
      | (with_reducible refine LeO.ite ?_ ?_)
      | (with_reducible refine LeO.bind ?_ (fun _ => ?_))
      | exact ih0 _ _ _ _
      | exact ih1 _ _ _ _
      | exact compact_Split.mono _ _ _
      | exact staddleref08_Same.mono _ _ _
      | exact staddleref19_Split.mono _ _ _
      | exact LeO.none _
      | refine LeO.ite ?_ ?_
      | refine LeO.bind ?_ (fun _ => ?_)
set_option maxHeartbeats 8000000 in
set_option maxRecDepth 100000 in
theorem staddlelaw19_CompactSplits.calls (k : Nat) (A0 : Option Addr) (c0 : Nat) (l0 : List (S44)) (a1 : Int) (r : Bool) (w : World) (hr0 : Kd.C k44 w A0 l0.length l0) (hc0 : l0.length ≤ c0) (h : staddlelaw19_CompactSplits.f k l0 a1 = some r) :
    Calls Try.prog 4 #[.slice A0 l0.length c0, .int .i64 a1] w fun e w' => e = .returned (.bool r) ∧ Below w.heap.size w w' := by
  have HR0 := Aside0.mk hr0
  have HC0 := Aside0.mk hc0
  clear hr0 hc0
  have HB := Aside0.mk (Below.refl w.heap.size w)
  have H : ((staddlelaw19_awake.f).bind fun t222 => ((compact_Split.f k l0 a1).bind fun bt223 => ((staddleref19_Split.f k l0 a1).bind fun bt227 => (if (bt223.1.length : Int) = (bt227.1.length : Int) then (staddlelaw19_CompactSplits.j0 k t222 bt223.1 bt227.1 (bt223.2 != bt227.2)) else (staddlelaw19_CompactSplits.j0 k t222 bt223.1 bt227.1 true))))) = some r := h
  clear h
  replace H := Option.bind_eq_some_iff.mp H
  obtain ⟨t222, A30, H⟩ := H
  replace H : ((compact_Split.f k l0 a1).bind fun bt223 => ((staddleref19_Split.f k l0 a1).bind fun bt227 => (if (bt223.1.length : Int) = (bt227.1.length : Int) then (staddlelaw19_CompactSplits.j0 k t222 bt223.1 bt227.1 (bt223.2 != bt227.2)) else (staddlelaw19_CompactSplits.j0 k t222 bt223.1 bt227.1 true)))) = some r := H
  have A3 := Aside0.mk A30
  clear A30
  replace H := Option.bind_eq_some_iff.mp H
  obtain ⟨⟨t223, t224⟩, A40, H⟩ := H
  replace H : ((staddleref19_Split.f k l0 a1).bind fun bt227 => (if (t223.length : Int) = (bt227.1.length : Int) then (staddlelaw19_CompactSplits.j0 k t222 t223 bt227.1 (t224 != bt227.2)) else (staddlelaw19_CompactSplits.j0 k t222 t223 bt227.1 true))) = some r := H
  have A4 := Aside0.mk A40
  clear A40
  replace H := Option.bind_eq_some_iff.mp H
  obtain ⟨⟨t227, t228⟩, A50, H⟩ := H
  replace H : (if (t223.length : Int) = (t227.length : Int) then (staddlelaw19_CompactSplits.j0 k t222 t223 t227 (t224 != t228)) else (staddlelaw19_CompactSplits.j0 k t222 t223 t227 true)) = some r := H
  have A5 := Aside0.mk A50
  clear A50
  have HC6 := Aside0.mk H
  clear H
  go_enter Try.func4, Try.ntmps4
  go_upto_region 4 with (first | (go_at_call 22; (with_reducible refine (staddlelaw19_awake.calls  t222 _ A3.out).mono ?_); rintro e w7 ⟨rfl, hb⟩; have n0_ := Aside0.mk (below_step (by repeat (first | (with_reducible first | exact HB.out | apply below_alloc | apply pw_below_drewN | apply below_drew1) | exact HB.out)) hb); clear HB; have HB := n0_; clear n0_; (try clear hb); (try clear hb2); (try clear hk); (try clear hi)) | (go_at_call 27; (with_reducible refine (compact_Split.calls k _ _ l0 a1 t223 t224 _ ?side1 ?side2 A4.out).mono ?_); (case side1 => repeat (first | exact (Kd.C_below HR0.out HB.out) | (with_reducible refine Kd.C_alloc ?_ _) | (with_reducible refine Kd.C_drewN ?_ _) | (with_reducible refine Kd.C_drew ?_))); (case side2 => exact HC0.out); rintro e w8 ⟨v225, rfl, ho0, hb⟩; have n0_ := Aside0.mk (Kd.S_lower ho0 (below_size (by repeat (first | (with_reducible first | exact HB.out | apply below_alloc | apply pw_below_drewN | apply below_drew1) | exact HB.out)))); have n1_ := Aside0.mk (below_step (by repeat (first | (with_reducible first | exact HB.out | apply below_alloc | apply pw_below_drewN | apply below_drew1) | exact HB.out)) hb); clear HB; have HO226 := n0_; have HB := n1_; clear n0_ n1_; (try clear hb); (try clear hb2); (try clear hk); (try clear hi); (try clear ho0)) | (go_at_call 28; (with_reducible refine (staddleref19_Split.calls k _ _ l0 a1 t227 t228 _ ?side1 ?side2 A5.out).mono ?_); (case side1 => repeat (first | exact (Kd.C_below HR0.out HB.out) | (with_reducible refine Kd.C_alloc ?_ _) | (with_reducible refine Kd.C_drewN ?_ _) | (with_reducible refine Kd.C_drew ?_))); (case side2 => exact HC0.out); rintro e w9 ⟨v229, rfl, ho0, hb⟩; have n0_ := Aside0.mk (Kd.S_elder' (by (with_reducible repeat (first | apply Kd.S_alloc | apply Kd.S_drewN | apply Kd.S_drew)); exact HO226.out) (Kd.S_base ho0) hb); have n1_ := Aside0.mk (Kd.S_lower (Kd.S_new' ho0 (Kd.S_lt (by (with_reducible repeat (first | apply Kd.S_alloc | apply Kd.S_drewN | apply Kd.S_drew)); exact HO226.out))) (below_size (by repeat (first | (with_reducible first | exact HB.out | apply below_alloc | apply pw_below_drewN | apply below_drew1) | exact HB.out)))); have n2_ := Aside0.mk (below_step (by repeat (first | (with_reducible first | exact HB.out | apply below_alloc | apply pw_below_drewN | apply below_drew1) | exact HB.out)) hb); clear HO226; clear HB; have HO226 := n0_; have HO230 := n1_; have HB := n2_; clear n0_ n1_ n2_; (try clear hb); (try clear hb2); (try clear hk); (try clear hi); (try clear ho0)))
  repeat (go_quiet (first | (go_at_call 22; (with_reducible refine (staddlelaw19_awake.calls  t222 _ A3.out).mono ?_); rintro e w7 ⟨rfl, hb⟩; have n0_ := Aside0.mk (below_step (by repeat (first | (with_reducible first | exact HB.out | apply below_alloc | apply pw_below_drewN | apply below_drew1) | exact HB.out)) hb); clear HB; have HB := n0_; clear n0_; (try clear hb); (try clear hb2); (try clear hk); (try clear hi)) | (go_at_call 27; (with_reducible refine (compact_Split.calls k _ _ l0 a1 t223 t224 _ ?side1 ?side2 A4.out).mono ?_); (case side1 => repeat (first | exact (Kd.C_below HR0.out HB.out) | (with_reducible refine Kd.C_alloc ?_ _) | (with_reducible refine Kd.C_drewN ?_ _) | (with_reducible refine Kd.C_drew ?_))); (case side2 => exact HC0.out); rintro e w8 ⟨v225, rfl, ho0, hb⟩; have n0_ := Aside0.mk (Kd.S_lower ho0 (below_size (by repeat (first | (with_reducible first | exact HB.out | apply below_alloc | apply pw_below_drewN | apply below_drew1) | exact HB.out)))); have n1_ := Aside0.mk (below_step (by repeat (first | (with_reducible first | exact HB.out | apply below_alloc | apply pw_below_drewN | apply below_drew1) | exact HB.out)) hb); clear HB; have HO226 := n0_; have HB := n1_; clear n0_ n1_; (try clear hb); (try clear hb2); (try clear hk); (try clear hi); (try clear ho0)) | (go_at_call 28; (with_reducible refine (staddleref19_Split.calls k _ _ l0 a1 t227 t228 _ ?side1 ?side2 A5.out).mono ?_); (case side1 => repeat (first | exact (Kd.C_below HR0.out HB.out) | (with_reducible refine Kd.C_alloc ?_ _) | (with_reducible refine Kd.C_drewN ?_ _) | (with_reducible refine Kd.C_drew ?_))); (case side2 => exact HC0.out); rintro e w9 ⟨v229, rfl, ho0, hb⟩; have n0_ := Aside0.mk (Kd.S_elder' (by (with_reducible repeat (first | apply Kd.S_alloc | apply Kd.S_drewN | apply Kd.S_drew)); exact HO226.out) (Kd.S_base ho0) hb); have n1_ := Aside0.mk (Kd.S_lower (Kd.S_new' ho0 (Kd.S_lt (by (with_reducible repeat (first | apply Kd.S_alloc | apply Kd.S_drewN | apply Kd.S_drew)); exact HO226.out))) (below_size (by repeat (first | (with_reducible first | exact HB.out | apply below_alloc | apply pw_below_drewN | apply below_drew1) | exact HB.out)))); have n2_ := Aside0.mk (below_step (by repeat (first | (with_reducible first | exact HB.out | apply below_alloc | apply pw_below_drewN | apply below_drew1) | exact HB.out)) hb); clear HO226; clear HB; have HO226 := n0_; have HO230 := n1_; have HB := n2_; clear n0_ n1_ n2_; (try clear hb); (try clear hb2); (try clear hk); (try clear hi); (try clear ho0))); go_upto_region 4 with (first | (go_at_call 22; (with_reducible refine (staddlelaw19_awake.calls  t222 _ A3.out).mono ?_); rintro e w7 ⟨rfl, hb⟩; have n0_ := Aside0.mk (below_step (by repeat (first | (with_reducible first | exact HB.out | apply below_alloc | apply pw_below_drewN | apply below_drew1) | exact HB.out)) hb); clear HB; have HB := n0_; clear n0_; (try clear hb); (try clear hb2); (try clear hk); (try clear hi)) | (go_at_call 27; (with_reducible refine (compact_Split.calls k _ _ l0 a1 t223 t224 _ ?side1 ?side2 A4.out).mono ?_); (case side1 => repeat (first | exact (Kd.C_below HR0.out HB.out) | (with_reducible refine Kd.C_alloc ?_ _) | (with_reducible refine Kd.C_drewN ?_ _) | (with_reducible refine Kd.C_drew ?_))); (case side2 => exact HC0.out); rintro e w8 ⟨v225, rfl, ho0, hb⟩; have n0_ := Aside0.mk (Kd.S_lower ho0 (below_size (by repeat (first | (with_reducible first | exact HB.out | apply below_alloc | apply pw_below_drewN | apply below_drew1) | exact HB.out)))); have n1_ := Aside0.mk (below_step (by repeat (first | (with_reducible first | exact HB.out | apply below_alloc | apply pw_below_drewN | apply below_drew1) | exact HB.out)) hb); clear HB; have HO226 := n0_; have HB := n1_; clear n0_ n1_; (try clear hb); (try clear hb2); (try clear hk); (try clear hi); (try clear ho0)) | (go_at_call 28; (with_reducible refine (staddleref19_Split.calls k _ _ l0 a1 t227 t228 _ ?side1 ?side2 A5.out).mono ?_); (case side1 => repeat (first | exact (Kd.C_below HR0.out HB.out) | (with_reducible refine Kd.C_alloc ?_ _) | (with_reducible refine Kd.C_drewN ?_ _) | (with_reducible refine Kd.C_drew ?_))); (case side2 => exact HC0.out); rintro e w9 ⟨v229, rfl, ho0, hb⟩; have n0_ := Aside0.mk (Kd.S_elder' (by (with_reducible repeat (first | apply Kd.S_alloc | apply Kd.S_drewN | apply Kd.S_drew)); exact HO226.out) (Kd.S_base ho0) hb); have n1_ := Aside0.mk (Kd.S_lower (Kd.S_new' ho0 (Kd.S_lt (by (with_reducible repeat (first | apply Kd.S_alloc | apply Kd.S_drewN | apply Kd.S_drew)); exact HO226.out))) (below_size (by repeat (first | (with_reducible first | exact HB.out | apply below_alloc | apply pw_below_drewN | apply below_drew1) | exact HB.out)))); have n2_ := Aside0.mk (below_step (by repeat (first | (with_reducible first | exact HB.out | apply below_alloc | apply pw_below_drewN | apply below_drew1) | exact HB.out)) hb); clear HO226; clear HB; have HO226 := n0_; have HO230 := n1_; have HB := n2_; clear n0_ n1_ n2_; (try clear hb); (try clear hb2); (try clear hk); (try clear hi); (try clear ho0))))
  (try simp only [Act.put, List.setIfInBounds_toArray, List.set_cons_zero, List.set_cons_succ])
  go_cut [34] (fun v34 wc => ∃ (kq : Nat) (x34_5 : Bool), v34 = .bool x34_5 ∧ Aside0 (staddlelaw19_CompactSplits.j0 kq t222 t223 t227 x34_5 = some r) ∧ Aside0 (kq ≤ k) ∧ Aside0 (Kd.S (Kd.slice 44 k44) 22 wc w.heap.size (fun k_ => some k_ ≠ (v229 : Value).ownBlock) v225 t223) ∧ Aside0 (Kd.S (Kd.slice 44 k44) 22 wc w.heap.size (fun k_ => some k_ ≠ (v225 : Value).ownBlock) v229 t227) ∧ Aside0 (Below w.heap.size w wc))
  case first =>
    have H := HC6.out
    clear HC6
    by_cases c10 : (t223.length : Int) = (t227.length : Int)
    · rw [if_pos c10] at H
      have c10b0 : ((t223.length : Int) == (t227.length : Int)) = true := beq_iff_eq.mpr c10
      have c10b1 : ((t223.length : Int) != (t227.length : Int)) = false := bne_eq_false_iff_eq.mpr c10
      have c10b2 : (t223.length == t227.length) = true := by first | simpa using c10 | (simp at c10 ⊢; omega)
      clear c10
      (first | rw [c10b0] | (simp only [i64_w, i32_w]; rw [c10b0]) | skip)
      have H' := Aside0.mk H
      clear H
      obtain ⟨Ao11, co11, eo11⟩ := Kd.S_slice HO226.out
      subst eo11
      obtain ⟨Ao12, co12, eo12⟩ := Kd.S_slice HO230.out
      subst eo12
      go_wp2
      repeat (go_quiet (fail); try go_wp2)
      go_meet
      case rel => exact ⟨_, ((t224 != t228)), (by first | rfl | (simp; done) | (simp [*]; done)), H', ⟨by first | omega | exact Nat.le_refl _⟩, ⟨by (with_reducible repeat (first | apply Kd.S_alloc | apply Kd.S_drewN | apply Kd.S_drew)); exact Kd.S_mono HO226.out (fun _ hk => hk.2)⟩, ⟨by (with_reducible repeat (first | apply Kd.S_alloc | apply Kd.S_drewN | apply Kd.S_drew)); exact Kd.S_mono HO230.out (fun _ hk => hk.2)⟩, ⟨by repeat (first | (with_reducible first | exact HB.out | apply below_alloc | apply pw_below_drewN | apply below_drew1) | exact HB.out)⟩⟩
    · rw [if_neg c10] at H
      have c10b0 : ((t223.length : Int) == (t227.length : Int)) = false := beq_eq_false_iff_ne.mpr c10
      have c10b1 : ((t223.length : Int) != (t227.length : Int)) = true := bne_iff_ne.mpr c10
      have c10b2 : (t223.length == t227.length) = false := by first | simpa using c10 | (simp at c10 ⊢; omega)
      (first | rw [c10b0] | (simp only [i64_w, i32_w]; rw [c10b0]) | skip)
      have H' := Aside0.mk H
      clear H
      obtain ⟨Ao13, co13, eo13⟩ := Kd.S_slice HO226.out
      subst eo13
      obtain ⟨Ao14, co14, eo14⟩ := Kd.S_slice HO230.out
      subst eo14
      go_wp2
      repeat (go_quiet (fail); try go_wp2)
      go_meet
      case rel => exact ⟨_, (true), (by first | rfl | (simp; done) | (simp [*]; done)), H', ⟨by first | omega | exact Nat.le_refl _⟩, ⟨by (with_reducible repeat (first | apply Kd.S_alloc | apply Kd.S_drewN | apply Kd.S_drew)); exact Kd.S_mono HO226.out (fun _ hk => hk.2)⟩, ⟨by (with_reducible repeat (first | apply Kd.S_alloc | apply Kd.S_drewN | apply Kd.S_drew)); exact Kd.S_mono HO230.out (fun _ hk => hk.2)⟩, ⟨by repeat (first | (with_reducible first | exact HB.out | apply below_alloc | apply pw_below_drewN | apply below_drew1) | exact HB.out)⟩⟩
  case rest =>
    clear HC6
    try clear c1
    try clear p2
    try clear c4
    try clear c10
    try clear c10b0
    try clear c10b1
    try clear c10b2
    obtain ⟨kq, x34_5, rfl, HA, HJ5, HO_6, HO_8, HB⟩ := hcut
    cases kq with
    | zero => exact absurd HA.out (by simp [staddlelaw19_CompactSplits.j0])
    | succ kj5 =>
      have H := HA.out
      clear HA
      simp only [staddlelaw19_CompactSplits.j0] at H
      by_cases c15 : x34_5 = true
      · subst c15
        have H1 : (some false) = some r := by rw [if_pos rfl] at H; exact H
        clear H
        have H := H1
        clear H1
        obtain rfl := Option.some.inj H
        go_wp2
        repeat (go_quiet (fail); try go_wp2)
        go_ret
        exact ⟨by first | rfl | (simp [errW_none, errW_some] <;> rfl) | (simp [*, errW_none, errW_some] <;> rfl), by repeat (first | (with_reducible first | exact HB.out | apply below_alloc | apply pw_below_drewN | apply below_drew1) | exact HB.out)⟩
      · replace c15 := Bool.eq_false_iff.mpr c15
        subst c15
        have H1 : (staddlelaw19_CompactSplits.l0 kj5 t222 t223 t227 0) = some r := by rw [if_neg (show ¬ (false = true) by decide)] at H; exact H
        clear H
        have H := H1
        clear H1
        have H' := Aside0.mk H
        clear H
        go_wp2
        repeat (go_quiet (fail); try go_wp2)
        go_loopg [10] kj5 (fun kq v10 w' => ∃ (x10_2 : Int), v10 = .int .i64 x10_2 ∧ Aside0 (staddlelaw19_CompactSplits.l0 kq t222 t223 t227 x10_2 = some r) ∧ Aside0 (kq ≤ kj5) ∧ Aside0 (Kd.S (Kd.slice 44 k44) 22 w' w.heap.size (fun k_ => some k_ ≠ (v229 : Value).ownBlock) v225 t223) ∧ Aside0 (Kd.S (Kd.slice 44 k44) 22 w' w.heap.size (fun k_ => some k_ ≠ (v225 : Value).ownBlock) v229 t227) ∧ Aside0 (Below w.heap.size w w'))
        case atStart => exact ⟨(0), (by first | rfl | (simp; done) | (simp [*]; done)), H', ⟨Nat.le_refl _⟩, ⟨by (with_reducible repeat (first | apply Kd.S_alloc | apply Kd.S_drewN | apply Kd.S_drew)); exact HO_6.out⟩, ⟨by (with_reducible repeat (first | apply Kd.S_alloc | apply Kd.S_drewN | apply Kd.S_drew)); exact HO_8.out⟩, ⟨by repeat (first | (with_reducible first | exact HB.out | apply below_alloc | apply pw_below_drewN | apply below_drew1) | exact HB.out)⟩⟩
        case round =>
          clear H'
          try clear c1
          try clear p2
          try clear c4
          try clear c10
          try clear c10b0
          try clear c10b1
          try clear c10b2
          try clear c15
          try clear p2
          obtain ⟨x10_2, rfl, HA, HK2, HO_6, HO_8, HB⟩ := hrel
          cases gk with
          | zero => exact absurd HA.out (by simp [staddlelaw19_CompactSplits.l0])
          | succ k2 =>
            have H := HA.out
            clear HA
            simp only [staddlelaw19_CompactSplits.l0] at H
            by_cases c16 : x10_2 < (t223.length : Int)
            · rw [if_pos c16] at H
              have c16b0 : decide (x10_2 < (t223.length : Int)) = true := decide_eq_true c16
              clear c16
              by_cases c17 : 0 ≤ x10_2
              · rw [if_pos c17] at H
                have c17b0 : decide (0 ≤ x10_2) = true := decide_eq_true c17
                clear c17
                by_cases c18 : x10_2 < (t227.length : Int)
                · rw [if_pos c18] at H
                  have c18b0 : decide (x10_2 < (t227.length : Int)) = true := decide_eq_true c18
                  clear c18
                  replace H := Option.bind_eq_some_iff.mp H
                  obtain ⟨t233, A190, H⟩ := H
                  replace H : (if t233 = true then (staddlelaw19_CompactSplits.l0 k2 t222 t223 t227 (wrap64 (x10_2 + 1))) else (some false)) = some r := H
                  have A19 := Aside0.mk A190
                  clear A190
                  by_cases c20 : t233 = true
                  · subst c20
                    have H1 : (staddlelaw19_CompactSplits.l0 k2 t222 t223 t227 (wrap64 (x10_2 + 1))) = some r := by rw [if_pos rfl] at H; exact H
                    clear H
                    have H := H1
                    clear H1
                    have H' := Aside0.mk H
                    clear H
                    obtain ⟨Ao21, co21, eo21⟩ := Kd.S_slice HO_6.out
                    subst eo21
                    have p231 : 0 ≤ (x10_2 : Int) := of_decide_eq_true (by first | (with_reducible assumption) | assumption)
                    have q231 : x10_2 < (t223.length : Int) := of_decide_eq_true (by first | (with_reducible assumption) | assumption)
                    obtain ⟨ad231, A231_0, c231_0, e231, hx231_0, hl231_0, hi231_0⟩ := at_L6 (Kd.S_reads' HO_6.out).2.2 x10_2 p231 q231
                    cases e231
                    obtain ⟨ce231, hce231, hMe231, hcc231⟩ := Kd.S_get HO_6.out [] x10_2 p231 (by first | exact q231 | exact of_decide_eq_true (by first | (with_reducible assumption) | assumption) | (have e_ := (Kd.S_reads' HO_6.out).1; omega))
                    obtain ⟨ve231_0, rfl, ge231_0⟩ := hMe231
                    have hv231_0 := hcc231 0 _ rfl
                    rw [Nat.add_zero, show ((Kd.slice 44 k44)).sz = 1 from rfl, Nat.mul_one] at hv231_0
                    replace hv231_0 := Option.some.inj (hv231_0.symm.trans hx231_0)
                    rw [hv231_0] at ge231_0
                    have HL231_0 := Aside0.mk (show Kd.R k44 44 _ _ _ _ (rd_L6 t223 x10_2) from ge231_0)
                    clear hv231_0 ge231_0
                    clear hcc231 hce231
                    have HR231_0 := Aside0.mk hi231_0
                    have HC231_0 := Aside0.mk hl231_0
                    clear hi231_0 hl231_0
                    replace p231 := eq_true p231
                    replace q231 := eq_true q231
                    obtain ⟨Ao22, co22, eo22⟩ := Kd.S_slice HO_8.out
                    subst eo22
                    have p232 : 0 ≤ (x10_2 : Int) := of_decide_eq_true (by first | (with_reducible assumption) | assumption)
                    have q232 : x10_2 < (t227.length : Int) := of_decide_eq_true (by first | (with_reducible assumption) | assumption)
                    obtain ⟨ad232, A232_0, c232_0, e232, hx232_0, hl232_0, hi232_0⟩ := at_L6 (Kd.S_reads' HO_8.out).2.2 x10_2 p232 q232
                    cases e232
                    obtain ⟨ce232, hce232, hMe232, hcc232⟩ := Kd.S_get HO_8.out [] x10_2 p232 (by first | exact q232 | exact of_decide_eq_true (by first | (with_reducible assumption) | assumption) | (have e_ := (Kd.S_reads' HO_8.out).1; omega))
                    obtain ⟨ve232_0, rfl, ge232_0⟩ := hMe232
                    have hv232_0 := hcc232 0 _ rfl
                    rw [Nat.add_zero, show ((Kd.slice 44 k44)).sz = 1 from rfl, Nat.mul_one] at hv232_0
                    replace hv232_0 := Option.some.inj (hv232_0.symm.trans hx232_0)
                    rw [hv232_0] at ge232_0
                    have HL232_0 := Aside0.mk (show Kd.R k44 44 _ _ _ _ (rd_L6 t227 x10_2) from ge232_0)
                    clear hv232_0 ge232_0
                    clear hcc232 hce232
                    have HR232_0 := Aside0.mk hi232_0
                    have HC232_0 := Aside0.mk hl232_0
                    clear hi232_0 hl232_0
                    replace p232 := eq_true p232
                    replace q232 := eq_true q232
                    go_wp2_with (first | (go_at_call 26; (with_reducible refine (staddleref08_Same.calls k2 _ _ (rd_L6 t223 x10_2) _ _ (rd_L6 t227 x10_2) true _ ?side1 ?side2 ?side3 ?side4 A19.out).mono ?_); (case side1 => repeat (first | exact (by repeat (first | (with_reducible exact HR231_0.out) | (with_reducible refine Kd.C_alloc ?_ _) | (with_reducible refine Kd.C_drewN ?_ _) | (with_reducible refine Kd.C_drew ?_) | exact HR231_0.out)) | (with_reducible refine Kd.C_alloc ?_ _) | (with_reducible refine Kd.C_drewN ?_ _) | (with_reducible refine Kd.C_drew ?_))); (case side2 => exact HC231_0.out); (case side3 => repeat (first | exact (by repeat (first | (with_reducible exact HR232_0.out) | (with_reducible refine Kd.C_alloc ?_ _) | (with_reducible refine Kd.C_drewN ?_ _) | (with_reducible refine Kd.C_drew ?_) | exact HR232_0.out)) | (with_reducible refine Kd.C_alloc ?_ _) | (with_reducible refine Kd.C_drewN ?_ _) | (with_reducible refine Kd.C_drew ?_))); (case side4 => exact HC232_0.out); rintro e w' ⟨rfl, ⟨nd, rfl⟩⟩; (try first | exact ⟨rfl, _, World.drewN_drewN _ _ _⟩ | exact ⟨rfl, _, Eq.trans (World.drewN_drewN _ _ _) (congrArg (World.drewN _) (Nat.add_assoc _ _ _))⟩)))
                    repeat (go_quiet (first | (go_at_call 26; (with_reducible refine (staddleref08_Same.calls k2 _ _ (rd_L6 t223 x10_2) _ _ (rd_L6 t227 x10_2) true _ ?side1 ?side2 ?side3 ?side4 A19.out).mono ?_); (case side1 => repeat (first | exact (by repeat (first | (with_reducible exact HR231_0.out) | (with_reducible refine Kd.C_alloc ?_ _) | (with_reducible refine Kd.C_drewN ?_ _) | (with_reducible refine Kd.C_drew ?_) | exact HR231_0.out)) | (with_reducible refine Kd.C_alloc ?_ _) | (with_reducible refine Kd.C_drewN ?_ _) | (with_reducible refine Kd.C_drew ?_))); (case side2 => exact HC231_0.out); (case side3 => repeat (first | exact (by repeat (first | (with_reducible exact HR232_0.out) | (with_reducible refine Kd.C_alloc ?_ _) | (with_reducible refine Kd.C_drewN ?_ _) | (with_reducible refine Kd.C_drew ?_) | exact HR232_0.out)) | (with_reducible refine Kd.C_alloc ?_ _) | (with_reducible refine Kd.C_drewN ?_ _) | (with_reducible refine Kd.C_drew ?_))); (case side4 => exact HC232_0.out); rintro e w' ⟨rfl, ⟨nd, rfl⟩⟩; (try first | exact ⟨rfl, _, World.drewN_drewN _ _ _⟩ | exact ⟨rfl, _, Eq.trans (World.drewN_drewN _ _ _) (congrArg (World.drewN _) (Nat.add_assoc _ _ _))⟩))); try go_wp2_with (first | (go_at_call 26; (with_reducible refine (staddleref08_Same.calls k2 _ _ (rd_L6 t223 x10_2) _ _ (rd_L6 t227 x10_2) true _ ?side1 ?side2 ?side3 ?side4 A19.out).mono ?_); (case side1 => repeat (first | exact (by repeat (first | (with_reducible exact HR231_0.out) | (with_reducible refine Kd.C_alloc ?_ _) | (with_reducible refine Kd.C_drewN ?_ _) | (with_reducible refine Kd.C_drew ?_) | exact HR231_0.out)) | (with_reducible refine Kd.C_alloc ?_ _) | (with_reducible refine Kd.C_drewN ?_ _) | (with_reducible refine Kd.C_drew ?_))); (case side2 => exact HC231_0.out); (case side3 => repeat (first | exact (by repeat (first | (with_reducible exact HR232_0.out) | (with_reducible refine Kd.C_alloc ?_ _) | (with_reducible refine Kd.C_drewN ?_ _) | (with_reducible refine Kd.C_drew ?_) | exact HR232_0.out)) | (with_reducible refine Kd.C_alloc ?_ _) | (with_reducible refine Kd.C_drewN ?_ _) | (with_reducible refine Kd.C_drew ?_))); (case side4 => exact HC232_0.out); rintro e w' ⟨rfl, ⟨nd, rfl⟩⟩; (try first | exact ⟨rfl, _, World.drewN_drewN _ _ _⟩ | exact ⟨rfl, _, Eq.trans (World.drewN_drewN _ _ _) (congrArg (World.drewN _) (Nat.add_assoc _ _ _))⟩))))
                    go_roundg k2
                    case measure => have := HJ5.out; have := HK2.out; omega
                    case rel => exact ⟨(wrap64 (x10_2 + 1)), (by first | rfl | (simp; done) | (simp [*]; done)), H', ⟨by have := HJ5.out; have := HK2.out; omega⟩, ⟨by (with_reducible repeat (first | apply Kd.S_alloc | apply Kd.S_drewN | apply Kd.S_drew)); exact HO_6.out⟩, ⟨by (with_reducible repeat (first | apply Kd.S_alloc | apply Kd.S_drewN | apply Kd.S_drew)); exact HO_8.out⟩, ⟨by repeat (first | (with_reducible first | exact HB.out | apply below_alloc | apply pw_below_drewN | apply below_drew1) | exact HB.out)⟩⟩
                  · replace c20 := Bool.eq_false_iff.mpr c20
                    subst c20
                    have H1 : (some false) = some r := by rw [if_neg (show ¬ (false = true) by decide)] at H; exact H
                    clear H
                    have H := H1
                    clear H1
                    obtain rfl := Option.some.inj H
                    obtain ⟨Ao23, co23, eo23⟩ := Kd.S_slice HO_6.out
                    subst eo23
                    have p231 : 0 ≤ (x10_2 : Int) := of_decide_eq_true (by first | (with_reducible assumption) | assumption)
                    have q231 : x10_2 < (t223.length : Int) := of_decide_eq_true (by first | (with_reducible assumption) | assumption)
                    obtain ⟨ad231, A231_0, c231_0, e231, hx231_0, hl231_0, hi231_0⟩ := at_L6 (Kd.S_reads' HO_6.out).2.2 x10_2 p231 q231
                    cases e231
                    obtain ⟨ce231, hce231, hMe231, hcc231⟩ := Kd.S_get HO_6.out [] x10_2 p231 (by first | exact q231 | exact of_decide_eq_true (by first | (with_reducible assumption) | assumption) | (have e_ := (Kd.S_reads' HO_6.out).1; omega))
                    obtain ⟨ve231_0, rfl, ge231_0⟩ := hMe231
                    have hv231_0 := hcc231 0 _ rfl
                    rw [Nat.add_zero, show ((Kd.slice 44 k44)).sz = 1 from rfl, Nat.mul_one] at hv231_0
                    replace hv231_0 := Option.some.inj (hv231_0.symm.trans hx231_0)
                    rw [hv231_0] at ge231_0
                    have HL231_0 := Aside0.mk (show Kd.R k44 44 _ _ _ _ (rd_L6 t223 x10_2) from ge231_0)
                    clear hv231_0 ge231_0
                    clear hcc231 hce231
                    have HR231_0 := Aside0.mk hi231_0
                    have HC231_0 := Aside0.mk hl231_0
                    clear hi231_0 hl231_0
                    replace p231 := eq_true p231
                    replace q231 := eq_true q231
                    obtain ⟨Ao24, co24, eo24⟩ := Kd.S_slice HO_8.out
                    subst eo24
                    have p232 : 0 ≤ (x10_2 : Int) := of_decide_eq_true (by first | (with_reducible assumption) | assumption)
                    have q232 : x10_2 < (t227.length : Int) := of_decide_eq_true (by first | (with_reducible assumption) | assumption)
                    obtain ⟨ad232, A232_0, c232_0, e232, hx232_0, hl232_0, hi232_0⟩ := at_L6 (Kd.S_reads' HO_8.out).2.2 x10_2 p232 q232
                    cases e232
                    obtain ⟨ce232, hce232, hMe232, hcc232⟩ := Kd.S_get HO_8.out [] x10_2 p232 (by first | exact q232 | exact of_decide_eq_true (by first | (with_reducible assumption) | assumption) | (have e_ := (Kd.S_reads' HO_8.out).1; omega))
                    obtain ⟨ve232_0, rfl, ge232_0⟩ := hMe232
                    have hv232_0 := hcc232 0 _ rfl
                    rw [Nat.add_zero, show ((Kd.slice 44 k44)).sz = 1 from rfl, Nat.mul_one] at hv232_0
                    replace hv232_0 := Option.some.inj (hv232_0.symm.trans hx232_0)
                    rw [hv232_0] at ge232_0
                    have HL232_0 := Aside0.mk (show Kd.R k44 44 _ _ _ _ (rd_L6 t227 x10_2) from ge232_0)
                    clear hv232_0 ge232_0
                    clear hcc232 hce232
                    have HR232_0 := Aside0.mk hi232_0
                    have HC232_0 := Aside0.mk hl232_0
                    clear hi232_0 hl232_0
                    replace p232 := eq_true p232
                    replace q232 := eq_true q232
                    go_wp2_with (first | (go_at_call 26; (with_reducible refine (staddleref08_Same.calls k2 _ _ (rd_L6 t223 x10_2) _ _ (rd_L6 t227 x10_2) false _ ?side1 ?side2 ?side3 ?side4 A19.out).mono ?_); (case side1 => repeat (first | exact (by repeat (first | (with_reducible exact HR231_0.out) | (with_reducible refine Kd.C_alloc ?_ _) | (with_reducible refine Kd.C_drewN ?_ _) | (with_reducible refine Kd.C_drew ?_) | exact HR231_0.out)) | (with_reducible refine Kd.C_alloc ?_ _) | (with_reducible refine Kd.C_drewN ?_ _) | (with_reducible refine Kd.C_drew ?_))); (case side2 => exact HC231_0.out); (case side3 => repeat (first | exact (by repeat (first | (with_reducible exact HR232_0.out) | (with_reducible refine Kd.C_alloc ?_ _) | (with_reducible refine Kd.C_drewN ?_ _) | (with_reducible refine Kd.C_drew ?_) | exact HR232_0.out)) | (with_reducible refine Kd.C_alloc ?_ _) | (with_reducible refine Kd.C_drewN ?_ _) | (with_reducible refine Kd.C_drew ?_))); (case side4 => exact HC232_0.out); rintro e w' ⟨rfl, ⟨nd, rfl⟩⟩; (try first | exact ⟨rfl, _, World.drewN_drewN _ _ _⟩ | exact ⟨rfl, _, Eq.trans (World.drewN_drewN _ _ _) (congrArg (World.drewN _) (Nat.add_assoc _ _ _))⟩)))
                    repeat (go_quiet (first | (go_at_call 26; (with_reducible refine (staddleref08_Same.calls k2 _ _ (rd_L6 t223 x10_2) _ _ (rd_L6 t227 x10_2) false _ ?side1 ?side2 ?side3 ?side4 A19.out).mono ?_); (case side1 => repeat (first | exact (by repeat (first | (with_reducible exact HR231_0.out) | (with_reducible refine Kd.C_alloc ?_ _) | (with_reducible refine Kd.C_drewN ?_ _) | (with_reducible refine Kd.C_drew ?_) | exact HR231_0.out)) | (with_reducible refine Kd.C_alloc ?_ _) | (with_reducible refine Kd.C_drewN ?_ _) | (with_reducible refine Kd.C_drew ?_))); (case side2 => exact HC231_0.out); (case side3 => repeat (first | exact (by repeat (first | (with_reducible exact HR232_0.out) | (with_reducible refine Kd.C_alloc ?_ _) | (with_reducible refine Kd.C_drewN ?_ _) | (with_reducible refine Kd.C_drew ?_) | exact HR232_0.out)) | (with_reducible refine Kd.C_alloc ?_ _) | (with_reducible refine Kd.C_drewN ?_ _) | (with_reducible refine Kd.C_drew ?_))); (case side4 => exact HC232_0.out); rintro e w' ⟨rfl, ⟨nd, rfl⟩⟩; (try first | exact ⟨rfl, _, World.drewN_drewN _ _ _⟩ | exact ⟨rfl, _, Eq.trans (World.drewN_drewN _ _ _) (congrArg (World.drewN _) (Nat.add_assoc _ _ _))⟩))); try go_wp2_with (first | (go_at_call 26; (with_reducible refine (staddleref08_Same.calls k2 _ _ (rd_L6 t223 x10_2) _ _ (rd_L6 t227 x10_2) false _ ?side1 ?side2 ?side3 ?side4 A19.out).mono ?_); (case side1 => repeat (first | exact (by repeat (first | (with_reducible exact HR231_0.out) | (with_reducible refine Kd.C_alloc ?_ _) | (with_reducible refine Kd.C_drewN ?_ _) | (with_reducible refine Kd.C_drew ?_) | exact HR231_0.out)) | (with_reducible refine Kd.C_alloc ?_ _) | (with_reducible refine Kd.C_drewN ?_ _) | (with_reducible refine Kd.C_drew ?_))); (case side2 => exact HC231_0.out); (case side3 => repeat (first | exact (by repeat (first | (with_reducible exact HR232_0.out) | (with_reducible refine Kd.C_alloc ?_ _) | (with_reducible refine Kd.C_drewN ?_ _) | (with_reducible refine Kd.C_drew ?_) | exact HR232_0.out)) | (with_reducible refine Kd.C_alloc ?_ _) | (with_reducible refine Kd.C_drewN ?_ _) | (with_reducible refine Kd.C_drew ?_))); (case side4 => exact HC232_0.out); rintro e w' ⟨rfl, ⟨nd, rfl⟩⟩; (try first | exact ⟨rfl, _, World.drewN_drewN _ _ _⟩ | exact ⟨rfl, _, Eq.trans (World.drewN_drewN _ _ _) (congrArg (World.drewN _) (Nat.add_assoc _ _ _))⟩))))
                    go_ret
                    exact ⟨by first | rfl | (simp [errW_none, errW_some] <;> rfl) | (simp [*, errW_none, errW_some] <;> rfl), by repeat (first | (with_reducible first | exact HB.out | apply below_alloc | apply pw_below_drewN | apply below_drew1) | exact HB.out)⟩
                · rw [if_neg c18] at H
                  exact absurd H (by simp)
              · rw [if_neg c17] at H
                exact absurd H (by simp)
            · rw [if_neg c16] at H
              have c16b0 : decide (x10_2 < (t223.length : Int)) = false := decide_eq_false c16
              clear c16
              obtain rfl := Option.some.inj H
              obtain ⟨Ao25, co25, eo25⟩ := Kd.S_slice HO_6.out
              subst eo25
              go_wp2
              repeat (go_quiet (fail); try go_wp2)
              go_ret
              exact ⟨by first | rfl | (simp [errW_none, errW_some] <;> rfl) | (simp [*, errW_none, errW_some] <;> rfl), by repeat (first | (with_reducible first | exact HB.out | apply below_alloc | apply pw_below_drewN | apply below_drew1) | exact HB.out)⟩


end Go.Proofs.Ytehoojmalhloeaa.PC
