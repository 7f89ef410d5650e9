/- sched: who counts by comparing and swapping: the walk. -/
import Derived.Test.YtkcjghdopmigoaaTC
import Derived.Test.YtkcjghdopmigoaaSW
namespace Go.Proofs.Ytkcjghdopmigoaa.SC
open Go.RowKit Go.Proofs.YtkcjghdopmigoaaW.PrintWords
set_option linter.unusedVariables false
set_option linter.unusedSimpArgs false
set_option maxRecDepth 100000

theorem codeB_S : codeB codeS = true := rfl
theorem sumE_take {e : List Em} {i : Nat} {x : Em} (h : e[i]? = some x) : sumE (e.take (i + 1)) = sumE (e.take i) + x.value := by
  unfold sumE
  rw [List.take_add_one, h, sumZ_app]
  simp [sumZ]
theorem wrap_add (a b : Int) : wrap64 (wrap64 a + b) = wrap64 (a + b) := by
  unfold wrap64
  omega
set_option maxHeartbeats 8000000 in
theorem swaps_w (t : Int) (P : Option Addr) (p : Nat) (picks : List Int) (w : World) (ht : In64 t) (hP : Kd.C (Kd.int .i64) w P picks.length picks) (hp : picks.length ≤ p) (hs : picks.length * 8 ≤ 140737488351232) (hpr : ∀ x ∈ picks, In64 x) (hPn : P = none → p = 0) :
    Calls Try.prog 6 #[.int .i64 t, .slice P picks.length p] w (TrueEnd w) := by
  have HP := Lib.hid (And.intro hP (And.intro hp (And.intro hs hPn)))
  have HPR := Lib.hid hpr
  have hpl : picks.length ≤ 17592186043904 := by omega
  clear hP hp hpr hs hPn
  obtain ⟨n, hn, hn1, hn8, hn0, hnm⟩ := abs_mod ht 8 (by omega)
  have Hn := Lib.hid (show 1 + absP t % 8 = (n : Int) from hn)
  clear hn
  obtain ⟨ht1, ht2⟩ := ht
  go_enter Try.func6, Try.ntmps6
  go_wp2_with fail
  refine (awake_w w).mono ?_
  rintro e w1 ⟨rfl, b1⟩
  have H1 := Lib.hid b1
  clear b1
  go_upto_if 19 with (fail)
  go_cut [0] from 18 to 22 (fun v wx => v = .int .i64 (absP t) ∧ w1 = wx)
  case first =>
    by_cases hpn : t < 0
    · have d1 : decide (t < 0) = true := decide_eq_true hpn
      have d2 : absP t = -t - 1 := if_pos hpn
      go_wp2_with fail
      go_meet
      case rel =>
        refine ⟨?_, rfl⟩
        rw [d2, show -(t + 1) = -t - 1 by omega]
    · have d1 : decide (t < 0) = false := decide_eq_false hpn
      have d2 : absP t = t := if_neg hpn
      go_wp2_with fail
      go_meet
      case rel => exact ⟨by rw [d2], rfl⟩
  case rest =>
  obtain ⟨hz, hw⟩ := hcut
  subst hz
  subst hw
  obtain ⟨g1, hg1⟩ : ∃ g1, w1.heap.size = g1 := ⟨_, rfl⟩
  go_upto_block 0 with (fail)
  rw [Hn.out]
  generalize hW2 : w1.alloc _ = W2
  have b2 : Below w.heap.size w W2 := by rw [← hW2]; exact H1.out.alloc H1.out.size _
  have C2 : Kd.C kI W2 (some ⟨g1, 0, none⟩) 6 codeS := C_insts (xs := codeS) (by rw [← hW2, ← hg1]; exact heap_alloc_new w1 _) rfl (by decide)
  have H6 := Lib.hid (And.intro b2 C2)
  clear hW2 C2 b2 hg1 H1
  rename World => w6
  go_cut [7] from 33 to 41 (fun v wc => ∃ CB cd, v = .slice CB n cd ∧ Hid (n ≤ cd ∧ Kd.C (Kd.slice 35 kI) wc CB n (List.replicate n codeS) ∧ Below w6.heap.size w6 wc))
  case first =>
    go_wp2_with fail
    go_loopw [7, 8] (fun v t wr => ∃ (i : Nat) (CB : Option Addr) (cd : Nat), i ≤ n ∧ t = .int .i64 (i : Int) ∧ v = .slice CB i cd ∧ Hid (wr.ownsRow w6.heap.size 36 1 (.slice CB i cd) i (List.replicate i (.slice (some ⟨g1, 0, none⟩) 6 6)) ∧ Below w6.heap.size w6 wr)) (fun _ t _ => n - (intOf t).toNat)
    case atStart => exact ⟨0, none, 0, by omega, rfl, rfl, Lib.hid ⟨World.ownsRow_nil _ _ _ _, Below.refl _ _⟩⟩
    case round =>
      rename World => wr
      obtain ⟨i, CB, cd, hi, rfl, rfl, HI⟩ := hrel
      have m1 : IntKind.i64.wrap ((i : Int) + 1) = (i : Int) + 1 := by rw [IntWalk.i64_in _ (by omega)]
      by_cases hin : i < n
      · have p3 : decide ((i : Int) < (n : Int)) = true := decide_eq_true (by omega)
        obtain ⟨v1, w3, hrun, hown, hg3⟩ := run_apC (W := wr.alloc (.cells #[.slice (some ⟨g1, 0, none⟩) 6 6] 36)) (B := ⟨wr.heap.size, 0, none⟩) (HI.out.1.alloc _) (cell_top rfl rfl) (by omega) (by have := HI.out.2.size; simp; omega)
        have b3 : Below w6.heap.size w6 w3 := (HI.out.2.alloc HI.out.2.size _).grown hg3 (by have := HI.out.2.size; simp; omega) (fun k hk => own_base HI.out.1 k hk)
        obtain ⟨CB1, cd1, rfl⟩ := own_form' hown
        rw [← List.replicate_succ'] at hown
        have H3 := Lib.hid (And.intro hown b3)
        clear hown b3 hg3
        go_wp2_with (at_builtin; refine wpList_append_run _ rfl (.tmp 38) (.tmp 40) 23 rfl _ _ _ _ rfl rfl hrun ?_; clear hrun)
        exact ⟨⟨i + 1, CB1, cd1, by omega, by simp, rfl, H3⟩, by simp [intOf]; omega⟩
      · obtain rfl : i = n := by omega
        have p3 : decide ((i : Int) < (i : Int)) = false := decide_eq_false (by omega)
        go_wp2_with fail
        go_meet
        case rel =>
          obtain ⟨CB1, cd1, e, h1, h2⟩ := own_readsC (l := codeS) HI.out.1 (keepC H6.out.2 (Nat.le_refl _) HI.out.2) (by decide)
          injection e with e1 e2 e3
          subst e1 e3
          exact ⟨CB, cd, rfl, Lib.hid ⟨h1, h2, HI.out.2⟩⟩
  case rest =>
  rename World => w7
  obtain ⟨CB, cd, rfl, H7⟩ := hcut
  go_upto_region 11 with (fail)
  obtain ⟨g8, hg8⟩ : ∃ g8, w7.heap.size = g8 := ⟨_, rfl⟩
  obtain ⟨W8, hW8⟩ : ∃ W8, w7.alloc (.cells #[] 3) = W8 := ⟨_, rfl⟩
  have b8 : Below w7.heap.size w7 W8 := by rw [← hW8]; exact (Below.refl _ w7).alloc (Nat.le_refl _) _
  have b7 := H6.out.1.trans (H7.out.2.2.mono H6.out.1.size)
  have b8w := b7.trans (b8.mono b7.size)
  have o8 : W8.ownsRow w7.heap.size 3 1 (.slice (some ⟨g8, 0, none⟩) 0 0) 0 [] := own_lit (cs := #[]) (by rw [← hW8, ← hg8]; exact heap_alloc_new w7 _) (by omega) rfl rfl (by decide)
  obtain ⟨v9, w9, hrun, o9, gr9⟩ := run_copyN (p := p) o8 (keepC HP.out.1 (Nat.le_refl _) b8w) (by omega) b8.size HP.out.2.2.2
  have b9 := b8.grown gr9 b8.size (fun k hk => by injection hk with hk; omega)
  obtain ⟨A9, k9, rfl⟩ := own_form' o9
  have H9 := Lib.hid (And.intro (show OwnN w9 w7.heap.size picks.length (.slice A9 picks.length k9) (picks ++ List.replicate 0 0) from ⟨by simp, by simpa using o9⟩) (And.intro b9 b7))
  have H8 := Lib.hid (And.intro hW8 hg8)
  clear hW8 hg8 b8 b7 b8w o8 o9 gr9 b9
  obtain ⟨z, hz⟩ : ∃ z, 6 * n * n = z := ⟨_, rfl⟩
  have hz384 : z ≤ 384 := by
    have h1 : 6 * n * n ≤ 48 * 8 := Nat.mul_le_mul (by omega) hn8
    omega
  have m6 : IntKind.i64.wrap (6 * (n : Int) * (n : Int)) = (z : Int) := by
    rw [show 6 * (n : Int) * (n : Int) = (z : Int) by rw [← hz]; push_cast; rfl, IntWalk.i64_in _ (by omega)]
  have Hz := Lib.hid hz
  clear hz
  go_upto_block 2 with (first | (rw [H8.out.1, H8.out.2]) | (at_builtin; refine wpList_append_run _ rfl (.tmp 42) (.tmp 43) 24 rfl _ _ _ _ rfl rfl hrun ?_; clear hrun))
  go_cut [9] from 45 to 56 (fun v wc => ∃ PB q pd, v = .slice PB q pd ∧ Hid (OwnN wc w7.heap.size q v (picks ++ List.replicate (z + 60) 0) ∧ Below w7.heap.size w7 wc))
  case first =>
    go_wp2_with fail
    go_loopw [9, 10] (fun v t wr => ∃ (i : Nat) (PB : Option Addr) (q pd : Nat), i ≤ z + 60 ∧ t = .int .i64 (i : Int) ∧ v = .slice PB q pd ∧ Hid (OwnN wr w7.heap.size q (.slice PB q pd) (picks ++ List.replicate i 0) ∧ Below w7.heap.size w7 wr)) (fun _ t _ => z + 60 - (intOf t).toNat)
    case atStart => exact ⟨0, A9, _, k9, by omega, rfl, rfl, Lib.hid ⟨H9.out.1, H9.out.2.1⟩⟩
    case round =>
      rename World => wr
      obtain ⟨i, PB, q, pd, hi, rfl, rfl, HI⟩ := hrel
      have m1 : IntKind.i64.wrap ((i : Int) + 1) = (i : Int) + 1 := by rw [IntWalk.i64_in _ (by omega)]
      by_cases hin : i < z + 60
      · have p3 : decide ((i : Int) < (z : Int) + 60) = true := decide_eq_true (by omega)
        obtain ⟨q1, PB1, pd1, w3, hrun, hown, hg3⟩ := OwnN.push (W := wr.alloc (.cells #[.int .i64 0] 3)) (B := ⟨wr.heap.size, 0, none⟩) (x := 0) ⟨HI.out.1.1, HI.out.1.2.alloc _⟩ (cell_top rfl rfl) (by have := HI.out.1.1; rw [List.length_append, List.length_replicate] at this; omega) (by have := HI.out.2.size; simp; omega)
        have b3 : Below w7.heap.size w7 w3 := (HI.out.2.alloc HI.out.2.size _).grown hg3 (by have := HI.out.2.size; simp; omega) (fun k hk => own_base HI.out.1.2 k hk)
        rw [List.append_assoc, ← List.replicate_succ'] at hown
        have H3 := Lib.hid (And.intro hown b3)
        clear hown b3 hg3
        go_wp2_with (at_builtin; refine wpList_append_run _ rfl (.tmp 54) (.tmp 55) 24 rfl _ _ _ _ rfl rfl hrun ?_; clear hrun)
        exact ⟨⟨i + 1, PB1, q1, pd1, by omega, by simp, rfl, H3⟩, by simp [intOf]; omega⟩
      · obtain rfl : i = z + 60 := by omega
        have p3 : decide (((z + 60 : Nat) : Int) < (z : Int) + 60) = false := decide_eq_false (by omega)
        have p4 : decide ((z : Int) + 60 < (z : Int) + 60) = false := decide_eq_false (by omega)
        go_wp2_with fail
        go_meet
        case rel => exact ⟨PB, q, pd, rfl, HI⟩
  case rest =>
  rename World => w11
  obtain ⟨PB, q, pd, rfl, H11⟩ := hcut
  clear m6
  have hq := H11.out.1.1
  have R11 := H11.out.1.reads
  have C7 := keepC H7.out.2.1 (Nat.le_refl _) H11.out.2
  have hem : ∀ kk, (loopW 0 (D0 (List.replicate n codeS) []) ((picks ++ List.replicate (z + 60) 0).take kk)).1.emits.length ≤ n := fun kk => swaps_emits hn8 _
  have hcall := run_w CB cd (List.replicate n codeS) none 0 [] PB pd (picks ++ List.replicate (z + 60) 0) w11 (by simpa using C7) (by simpa using H7.out.1) ⟨rfl, by decide, fun h => absurd h (by decide)⟩ (by decide) (hq ▸ R11.2) (hq ▸ R11.1) (fun kk => by have := hem kk; omega) (fun x hx => by
    rcases List.mem_append.1 hx with hx | hx
    · have := HPR.out x hx; unfold In64 at this; omega
    · obtain rfl := List.eq_of_mem_replicate hx
      omega)
  rw [List.length_replicate, ← hq] at hcall
  have HC := Lib.hid hcall
  clear hcall R11 C7 hem
  have HQ := Lib.hid hq
  clear hq
  go_wp2_with fail
  refine HC.out.mono ?_
  rintro e w12 HR
  obtain ⟨A0, l0, j0, A1, l1, j1, A2, l2, j2, sa, ea, rfl, b12, G1⟩ := run_got HR
  clear HR HC
  rcases G1 with ⟨h, _⟩ | ⟨_, rfl, R, kk, hl, rfl, g, Ae, ce, As, cs, e1, e2, e3, h1, h2, h3⟩
  · exact absurd ((okB_rep codeB_S hn8).symm.trans h) (by decide)
  obtain ⟨l1', l2', l3', l4', l5'⟩ := swaps hn1 hn8 (by rw [List.length_append, List.length_replicate, Hz.out]; omega) hl
  injection e1 with e11 e12 e13
  injection e2 with e21 e22 e23
  injection e3 with e31 e32 e33
  subst e11 e12 e13 e21 e22 e23 e31 e32 e33
  rw [l1'] at h3 ⊢
  rw [l4'] at h2 ⊢
  have H12 := Lib.hid (And.intro b12 (And.intro h1 (And.intro h2 (And.intro h3 (And.intro l2' (And.intro l3' (And.intro l4' l5')))))))
  clear l1' l2' l3' l4' l5' h1 h2 h3 hl b12
  obtain ⟨n2, hn2⟩ : ∃ n2, w12.heap.size = n2 := ⟨_, rfl⟩
  obtain ⟨W3, hW3⟩ : ∃ W3, w12.alloc (.cells #[.slice none 0 0, .slice none 0 0, .slice none 0 0, .int .i64 0] 27) = W3 := ⟨_, rfl⟩
  have r3 := (run_put (a := nilS) (b := nilS) (c := nilS) (s := 0) hn2 hW3 rfl).1
  have H3 := Lib.hid hn2
  have HW3 := Lib.hid hW3
  obtain ⟨x0, x1, x2, x3⟩ := r3.cells
  have f0 := r3.frozen 0
  have f1 := r3.frozen 1
  have f2 := r3.frozen 2
  have f3 := r3.frozen 3
  clear hn2 hW3 r3
  go_upto_region 17 with (first | rw [HW3.out, H3.out])
  generalize hW4 : World.setCell (World.setCell (World.setCell (World.setCell W3 _ _) _ _) _ _) _ _ = W4
  obtain ⟨_, q1, q2⟩ := run_put H3.out HW3.out hW4
  have c0 := keepC H12.out.2.1 (Nat.le_refl _) q2
  have c1 := keepC H12.out.2.2.1 (Nat.le_refl _) q2
  have c2 := keepC H12.out.2.2.2.1 (Nat.le_refl _) q2
  have bF := (H9.out.2.2.trans (H11.out.2.mono H9.out.2.2.size)).trans ((H12.out.1.trans (q2.mono H12.out.1.size)).mono (H9.out.2.2.trans (H11.out.2.mono H9.out.2.2.size)).size)
  have H4 := Lib.hid (And.intro q1 (And.intro c0 (And.intro c1 (And.intro c2 bF))))
  clear hW4 x0 x1 x2 x3 f0 f1 f2 f3 HW3 H3 q1 q2 c0 c1 c2 bF
  obtain ⟨x0, x1, x2, x3⟩ := H4.out.1.cells
  go_upto_block 4 with fail
  have HX := Lib.hid (And.intro x0 (And.intro x1 x2))
  clear x0 x1 x2 x3
  go_cut [13] from 78 to 92 (fun v wc => v = .int .i64 (n : Int) ∧ Hid (Below W4.heap.size W4 wc))
  case first =>
    have x2 := HX.out.2.2
    go_wp2_with fail
    clear x2
    go_loopw [13, 14] (fun v t wr => ∃ (i : Nat), i ≤ n ∧ t = .int .i64 (i : Int) ∧ v = .int .i64 (i : Int) ∧ Hid (Below W4.heap.size W4 wr)) (fun _ t _ => n - (intOf t).toNat)
    case atStart => exact ⟨0, by omega, rfl, rfl, Lib.hid (Below.refl _ _)⟩
    case round =>
      rename World => wr
      obtain ⟨i, hi, rfl, rfl, HI⟩ := hrel
      have m1 : IntKind.i64.wrap ((i : Int) + 1) = (i : Int) + 1 := by rw [IntWalk.i64_in _ (by omega)]
      have x2 := cell_up' HX.out.2.2 HI.out
      by_cases hin : i < n
      · have p3 : decide ((i : Int) < (n : Int)) = true := decide_eq_true (by omega)
        obtain ⟨ad, rfl, c2⟩ := at_int (keepC H4.out.2.2.2.1 (Nat.le_refl _) HI.out) hin
        rw [H12.out.2.2.2.2.1, show (List.replicate n (2 : Int)).getD i 0 = 2 by rw [List.getD_eq_getElem?_getD, List.getElem?_replicate, if_pos hin]; rfl] at c2
        have p0 : (0 ≤ (i : Int)) = True := by simp
        have p4 : ((i : Int) < (n : Int)) = True := eq_true (by omega)
        have p5 : (i < n) = True := eq_true hin
        go_wp2_with (go_quiet (fail))
        exact ⟨⟨i + 1, by omega, by simp, by simp, HI⟩, by simp [intOf]; omega⟩
      · obtain rfl : i = n := by omega
        have p3 : decide ((i : Int) < (i : Int)) = false := decide_eq_false (by omega)
        go_wp2_with fail
        go_meet
        case rel => exact ⟨rfl, HI⟩
  case rest =>
  obtain ⟨rfl, H13⟩ := hcut
  rename World => w13
  have x1 := cell_up' HX.out.2.1 H13.out
  go_upto_block 6 with fail
  go_cut [15] from 93 to 107 (fun v wc => ∃ s, v = .int .i64 s ∧ Hid (s = wrap64 (sumE R.emits) ∧ Below W4.heap.size W4 wc))
  case first =>
    go_wp2_with fail
    clear x1
    go_loopw [15, 16] (fun v t wr => ∃ (i : Nat) (s : Int), i ≤ n ∧ t = .int .i64 (i : Int) ∧ v = .int .i64 s ∧ Hid (s = wrap64 (sumE (R.emits.take i)) ∧ Below W4.heap.size W4 wr)) (fun _ t _ => n - (intOf t).toNat)
    case atStart => exact ⟨0, 0, by omega, rfl, rfl, Lib.hid ⟨(IntWalk.wrap64_in 0 (by omega)).symm, H13.out⟩⟩
    case round =>
      rename World => wr
      obtain ⟨i, s, hi, rfl, rfl, HI⟩ := hrel
      have m1 : IntKind.i64.wrap ((i : Int) + 1) = (i : Int) + 1 := by rw [IntWalk.i64_in _ (by omega)]
      have x2 := cell_up' HX.out.2.1 HI.out.2
      by_cases hin : i < n
      · have p3 : decide ((i : Int) < (n : Int)) = true := decide_eq_true (by omega)
        obtain ⟨x, hx⟩ : ∃ x, R.emits[i]? = some x := ⟨_, List.getElem?_eq_getElem (by have := H12.out.2.2.2.2.2.2.1; omega)⟩
        obtain ⟨ad, rfl, c2, c3⟩ := at_em (keepC H4.out.2.2.1 (Nat.le_refl _) HI.out.2) hx
        have Hx := Lib.hid hx
        clear hx
        have p0 : (0 ≤ (i : Int)) = True := by simp
        have p4 : ((i : Int) < (n : Int)) = True := eq_true (by omega)
        have p5 : (i < n) = True := eq_true hin
        go_wp2_with (go_quiet (fail))
        refine ⟨⟨i + 1, _, by omega, by simp, rfl, Lib.hid ⟨?_, HI.out.2⟩⟩, by simp [intOf]; omega⟩
        rw [sumE_take Hx.out, ← wrap_add (sumE (R.emits.take i)), ← HI.out.1]
      · obtain rfl : i = n := by omega
        have p3 : decide ((i : Int) < (i : Int)) = false := decide_eq_false (by omega)
        go_wp2_with fail
        go_meet
        case rel =>
          refine ⟨s, rfl, Lib.hid ⟨?_, HI.out.2⟩⟩
          have h1 := HI.out.1
          rw [List.take_of_length_le (by have := H12.out.2.2.2.2.2.2.1; omega)] at h1
          exact h1
  case rest =>
  obtain ⟨s, rfl, H14⟩ := hcut
  rename World => w20
  have x0 := cell_up' HX.out.1 H14.out.2
  have x1 := cell_up' HX.out.2.1 H14.out.2
  obtain ⟨ad, e0, c0⟩ := at_int (keepC H4.out.2.1 (Nat.le_refl _) H14.out.2) (i := 0) (by decide)
  injection e0 with e0
  subst e0
  rw [H12.out.2.2.2.2.2.1, add_off] at c0
  have HF := Lib.hid (H4.out.2.2.2.2.trans (H14.out.2.mono H4.out.2.2.2.2.size))
  obtain ⟨y, hy⟩ : ∃ y : Nat, n * (n + 1) = y := ⟨_, rfl⟩
  have hy72 : y ≤ 72 := by
    have h1 : n * (n + 1) ≤ 8 * 9 := Nat.mul_le_mul hn8 (by omega)
    omega
  have hyi : (n : Int) * ((n : Int) + 1) = (y : Int) := by rw [← hy]; push_cast; rfl
  have hse : s = (y : Int) / 2 := by
    have h1 := H12.out.2.2.2.2.2.2.2
    rw [hyi] at h1
    have h2 := H14.out.1
    rw [IntWalk.wrap64_in _ (by omega)] at h2
    omega
  subst hse
  clear hy
  go_wp2_with (go_quiet (fail))
  go_ret
  exact ⟨rfl, HF.out⟩
end Go.Proofs.Ytkcjghdopmigoaa.SC
