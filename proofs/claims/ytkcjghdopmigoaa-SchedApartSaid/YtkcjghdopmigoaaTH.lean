/- sched: who shares nothing: the walk. -/
import Derived.Test.YtkcjghdopmigoaaTG
namespace Go.Proofs.Ytkcjghdopmigoaa.SC
open Go.RowKit Go.ChangeShapes Go.WideShapes Go.Proofs.YtkcjghdopmigoaaW.PrintWords
set_option linter.unusedVariables false
set_option linter.unusedSimpArgs false
set_option maxRecDepth 100000

set_option maxHeartbeats 8000000 in
theorem apart_w (t r : Int) (P : Option Addr) (p : Nat) (picks : List Int) (w : World) (ht : In64 t) (hr : In64 r) (hP : Kd.C (Kd.int .i64) w P picks.length picks) (hp : picks.length ≤ p) (hs : picks.length * 8 ≤ 140737488351232) (hpr : ∀ x ∈ picks, In64 x) (hPn : P = none → p = 0) :
    Calls Try.prog 7 #[.int .i64 t, .int .i64 r, .slice P picks.length p] w (TrueEnd w) := by
  have HP := Lib.hid (And.intro hP (And.intro hp (And.intro hs hPn)))
  have HPR := Lib.hid hpr
  have hpl : picks.length ≤ 17592186043904 := by omega
  clear hP hp hpr hs hPn
  obtain ⟨a, hn, ha20, hn0, hnm⟩ := abs_mod0 ht 20 (by omega)
  obtain ⟨b, hk, hb20, hk0, hkm⟩ := abs_mod0 hr 20 (by omega)
  have Hn := Lib.hid (show absP t % 20 = (a : Int) from hn)
  have Hk := Lib.hid (show absP r % 20 = (b : Int) from hk)
  clear hn hk
  obtain ⟨ht1, ht2⟩ := ht
  obtain ⟨hr1, hr2⟩ := hr
  go_enter Try.func7, Try.ntmps7
  go_wp2_with fail
  refine (awake_w w).mono ?_
  rintro e w1 ⟨rfl, b1⟩
  have H1 := Lib.hid b1
  clear b1
  go_upto_if 18 with (fail)
  go_cut [0] from 17 to 21 (fun v wx => v = .int .i64 (absP t) ∧ w1 = wx)
  case first =>
    by_cases hpn : t < 0
    · have d1 : decide (t < 0) = true := decide_eq_true hpn
      have d2 : absP t = -t - 1 := if_pos hpn
      go_wp2_with fail
      go_meet
      case rel =>
        refine ⟨?_, rfl⟩
        rw [d2, show -(t + 1) = -t - 1 by omega]
    · have d1 : decide (t < 0) = false := decide_eq_false hpn
      have d2 : absP t = t := if_neg hpn
      go_wp2_with fail
      go_meet
      case rel => exact ⟨by rw [d2], rfl⟩
  case rest =>
  obtain ⟨hz, hw⟩ := hcut
  subst hz
  subst hw
  go_upto_if 23 with (fail)
  go_cut [1] from 22 to 26 (fun v wx => v = .int .i64 (absP r) ∧ w1 = wx)
  case first =>
    by_cases hpn : r < 0
    · have d1 : decide (r < 0) = true := decide_eq_true hpn
      have d2 : absP r = -r - 1 := if_pos hpn
      go_wp2_with fail
      go_meet
      case rel =>
        refine ⟨?_, rfl⟩
        rw [d2, show -(r + 1) = -r - 1 by omega]
    · have d1 : decide (r < 0) = false := decide_eq_false hpn
      have d2 : absP r = r := if_neg hpn
      go_wp2_with fail
      go_meet
      case rel => exact ⟨by rw [d2], rfl⟩
  case rest =>
  obtain ⟨hz, hw⟩ := hcut
  subst hz
  subst hw
  go_upto_block 0 with (fail)
  rw [Hn.out, Hk.out]
  go_cut [8] from 31 to 41 (fun v wc => ∃ OA q c, v = .slice OA q c ∧ Hid (OwnI wc w1.heap.size q v (oneA a) ∧ Below w1.heap.size w1 wc))
  case first =>
    go_wp2_with fail
    go_loopw [8, 10] (fun v t wr => ∃ (i : Nat) (OA : Option Addr) (q c : Nat), i ≤ a ∧ t = .int .i64 (i : Int) ∧ v = .slice OA q c ∧ Hid (OwnI wr w1.heap.size q (.slice OA q c) (oneA i) ∧ Below w1.heap.size w1 wr)) (fun _ t _ => a - (intOf t).toNat)
    case atStart => exact ⟨0, none, 0, 0, by omega, rfl, rfl, Lib.hid ⟨OwnI.nil _ _, Below.refl _ _⟩⟩
    case round =>
      rename World => wr
      obtain ⟨i, OA, q, c, hi, rfl, rfl, HI⟩ := hrel
      have m1 : IntKind.i64.wrap ((i : Int) + 1) = (i : Int) + 1 := by rw [IntWalk.i64_in _ (by omega)]
      by_cases hin : i < a
      · have p3 : decide ((i : Int) < (a : Int)) = true := decide_eq_true (by omega)
        obtain ⟨q1, A1, c1, w3, hrun, hown, b3⟩ := OwnI.lit HI.out.1 [⟨1, 0, 1, 0⟩, ⟨5, 0, 1, 0⟩, ⟨2, 1, 0, 0⟩] #[.int .i64 1, .int .i64 0, .int .i64 1, .int .i64 0, .int .i64 5, .int .i64 0, .int .i64 1, .int .i64 0, .int .i64 2, .int .i64 1, .int .i64 0, .int .i64 0] rfl (m := 3) rfl HI.out.2 (Nat.le_refl _) HI.out.2.size (by have := HI.out.1.1; rw [show (oneA i).length = 3 * i from rep3_len _ _ _ i] at this; omega)
        have H3 := Lib.hid (show OwnI w3 w1.heap.size q1 (.slice A1 q1 c1) (oneA (i + 1)) ∧ Below w1.heap.size w1 w3 from ⟨hown, b3⟩)
        clear hown b3
        go_wp2_with (at_builtin; refine wpList_append_run _ rfl (.tmp 36) (.tmp 40) 36 rfl _ _ _ _ rfl rfl hrun ?_; clear hrun)
        exact ⟨⟨i + 1, A1, q1, c1, by omega, by simp, rfl, H3⟩, by simp [intOf]; omega⟩
      · obtain rfl : i = a := by omega
        have p3 : decide ((i : Int) < (i : Int)) = false := decide_eq_false (by omega)
        go_wp2_with fail
        go_meet
        case rel => exact ⟨OA, q, c, rfl, HI⟩
  case rest =>
  rename World => w5
  obtain ⟨OA, qa, ca, rfl, H5⟩ := hcut
  go_upto_block 2 with fail
  go_cut [9] from 42 to 52 (fun v wc => ∃ OA q c, v = .slice OA q c ∧ Hid (OwnI wc w5.heap.size q v (twoA b) ∧ Below w5.heap.size w5 wc))
  case first =>
    go_wp2_with fail
    go_loopw [9, 11] (fun v t wr => ∃ (i : Nat) (OA : Option Addr) (q c : Nat), i ≤ b ∧ t = .int .i64 (i : Int) ∧ v = .slice OA q c ∧ Hid (OwnI wr w5.heap.size q (.slice OA q c) (twoA i) ∧ Below w5.heap.size w5 wr)) (fun _ t _ => b - (intOf t).toNat)
    case atStart => exact ⟨0, none, 0, 0, by omega, rfl, rfl, Lib.hid ⟨OwnI.nil _ _, Below.refl _ _⟩⟩
    case round =>
      rename World => wr
      obtain ⟨i, OB, q, c, hi, rfl, rfl, HI⟩ := hrel
      have m1 : IntKind.i64.wrap ((i : Int) + 1) = (i : Int) + 1 := by rw [IntWalk.i64_in _ (by omega)]
      by_cases hin : i < b
      · have p3 : decide ((i : Int) < (b : Int)) = true := decide_eq_true (by omega)
        obtain ⟨q1, A1, c1, w3, hrun, hown, b3⟩ := OwnI.lit HI.out.1 [⟨1, 2, 2, 0⟩, ⟨5, 2, 2, 0⟩, ⟨2, 2, 2, 0⟩] #[.int .i64 1, .int .i64 2, .int .i64 2, .int .i64 0, .int .i64 5, .int .i64 2, .int .i64 2, .int .i64 0, .int .i64 2, .int .i64 2, .int .i64 2, .int .i64 0] rfl (m := 3) rfl HI.out.2 (Nat.le_refl _) HI.out.2.size (by have := HI.out.1.1; rw [show (twoA i).length = 3 * i from rep3_len _ _ _ i] at this; omega)
        have H3 := Lib.hid (show OwnI w3 w5.heap.size q1 (.slice A1 q1 c1) (twoA (i + 1)) ∧ Below w5.heap.size w5 w3 from ⟨hown, b3⟩)
        clear hown b3
        go_wp2_with (at_builtin; refine wpList_append_run _ rfl (.tmp 47) (.tmp 51) 36 rfl _ _ _ _ rfl rfl hrun ?_; clear hrun)
        exact ⟨⟨i + 1, A1, q1, c1, by omega, by simp, rfl, H3⟩, by simp [intOf]; omega⟩
      · obtain rfl : i = b := by omega
        have p3 : decide ((i : Int) < (i : Int)) = false := decide_eq_false (by omega)
        go_wp2_with fail
        go_meet
        case rel => exact ⟨OB, q, c, rfl, HI⟩
  case rest =>
  rename World => w7
  obtain ⟨OB, qb, cb, rfl, H7⟩ := hcut
  go_upto_if 55 with (fail)
  go_cut [2] from 53 to 57 (fun v wx => ∃ m, v = .slice P m p ∧ m ≤ 200 ∧ Hid (m = min picks.length 200) ∧ w7 = wx)
  case first =>
    have hp0 : P = none → p = 0 := HP.out.2.2.2
    have hmp : picks.length ≤ p := HP.out.2.1
    by_cases hpn : 200 < picks.length
    · have d1 : decide (200 < (picks.length : Int)) = true := decide_eq_true (by omega)
      have d2 : decide (200 < picks.length) = true := decide_eq_true hpn
      go_wp2_with fail
      go_meet
      case rel => exact ⟨200, rfl, by omega, Lib.hid (by omega), rfl⟩
    · have d1 : decide (200 < (picks.length : Int)) = false := decide_eq_false (by omega)
      have d2 : decide (200 < picks.length) = false := decide_eq_false hpn
      go_wp2_with fail
      go_meet
      case rel => exact ⟨picks.length, rfl, by omega, Lib.hid (by omega), rfl⟩
  case rest =>
  obtain ⟨m, hz, hm200, HM, hw⟩ := hcut
  subst hz
  subst hw
  have hml : (picks.take m).length = m := by have := HM.out; rw [List.length_take]; omega
  have HML := Lib.hid hml
  clear hml
  go_upto_region 20 with fail
  obtain ⟨g8, hg8⟩ : ∃ g8, w7.heap.size = g8 := ⟨_, rfl⟩
  obtain ⟨W8, hW8⟩ : ∃ W8, w7.alloc (.cells #[] 3) = W8 := ⟨_, rfl⟩
  have b8 : Below w7.heap.size w7 W8 := by rw [← hW8]; exact (Below.refl _ w7).alloc (Nat.le_refl _) _
  have b5 := H1.out.trans (H5.out.2.mono H1.out.size)
  have b7 := b5.trans (H7.out.2.mono b5.size)
  have b8w := b7.trans (b8.mono b7.size)
  have o8 : W8.ownsRow w7.heap.size 3 1 (.slice (some ⟨g8, 0, none⟩) 0 0) 0 [] := own_lit (cs := #[]) (by rw [← hW8, ← hg8]; exact heap_alloc_new w7 _) (by omega) rfl rfl (by decide)
  obtain ⟨v9, w9, hrun, o9, gr9⟩ := run_copyN (p := p) o8 (C_take (keepC HP.out.1 (Nat.le_refl _) b8w) (m := m) (by have := HM.out; omega)) (by have := HML.out; omega) b8.size HP.out.2.2.2
  rw [HML.out] at hrun o9
  have b9 := b8.grown gr9 b8.size (fun k hk => by injection hk with hk; omega)
  obtain ⟨A9, k9, rfl⟩ := own_form' o9
  have H9 := Lib.hid (And.intro (show OwnN w9 w7.heap.size m (.slice A9 m k9) (picks.take m ++ upL 0) from ⟨by simp [upL, HML.out], by simpa [upL] using o9⟩) (And.intro b9 b7))
  have H8 := Lib.hid (And.intro hW8 hg8)
  clear hW8 hg8 b8 b7 b5 b8w o8 o9 gr9 b9
  go_upto_block 4 with (first | (rw [H8.out.1, H8.out.2]) | (at_builtin; refine wpList_append_run _ rfl (.tmp 58) (.tmp 59) 24 rfl _ _ _ _ rfl rfl hrun ?_; clear hrun))
  go_cut [12] from 61 to 72 (fun v wc => ∃ PB q pd, v = .slice PB q pd ∧ Hid (OwnN wc w7.heap.size q v (picks.take m ++ upL (3 * (a + b))) ∧ Below w7.heap.size w7 wc))
  case first =>
    go_wp2_with fail
    go_loopw [12, 13] (fun v t wr => ∃ (i : Nat) (PB : Option Addr) (q pd : Nat), i ≤ 3 * (a + b) ∧ t = .int .i64 (i : Int) ∧ v = .slice PB q pd ∧ Hid (OwnN wr w7.heap.size q (.slice PB q pd) (picks.take m ++ upL i) ∧ Below w7.heap.size w7 wr)) (fun _ t _ => 3 * (a + b) - (intOf t).toNat)
    case atStart => exact ⟨0, A9, _, k9, by omega, rfl, rfl, Lib.hid ⟨H9.out.1, H9.out.2.1⟩⟩
    case round =>
      rename World => wr
      obtain ⟨i, PB, q, pd, hi, rfl, rfl, HI⟩ := hrel
      have m1 : IntKind.i64.wrap ((i : Int) + 1) = (i : Int) + 1 := by rw [IntWalk.i64_in _ (by omega)]
      by_cases hin : i < 3 * (a + b)
      · have p3 : decide ((i : Int) < 3 * ((a : Int) + (b : Int))) = true := decide_eq_true (by omega)
        obtain ⟨q1, PB1, pd1, w3, hrun, hown, hg3⟩ := OwnN.push (W := wr.alloc (.cells #[.int .i64 (i : Int)] 3)) (B := ⟨wr.heap.size, 0, none⟩) (x := (i : Int)) ⟨HI.out.1.1, HI.out.1.2.alloc _⟩ (cell_top rfl rfl) (by have := HI.out.1.1; rw [List.length_append, upL_len, HML.out] at this; omega) (by have := HI.out.2.size; simp; omega)
        have b3 : Below w7.heap.size w7 w3 := (HI.out.2.alloc HI.out.2.size _).grown hg3 (by have := HI.out.2.size; simp; omega) (fun k hk => own_base HI.out.1.2 k hk)
        rw [List.append_assoc, ← upL_succ] at hown
        have H3 := Lib.hid (And.intro hown b3)
        clear hown b3 hg3
        go_wp2_with (at_builtin; refine wpList_append_run _ rfl (.tmp 69) (.tmp 71) 24 rfl _ _ _ _ rfl rfl hrun ?_; clear hrun)
        exact ⟨⟨i + 1, PB1, q1, pd1, by omega, by simp, rfl, H3⟩, by simp [intOf]; omega⟩
      · have p3 : decide ((i : Int) < 3 * ((a : Int) + (b : Int))) = false := decide_eq_false (by omega)
        have hie : i = 3 * (a + b) := by omega
        have Hie := Lib.hid hie
        clear hie
        go_wp2_with fail
        go_meet
        case rel => exact ⟨PB, q, pd, rfl, by rw [← Hie.out]; exact HI⟩
  case rest =>
  rename World => w11
  obtain ⟨PB, q, pd, rfl, H11⟩ := hcut
  obtain ⟨g11, hg11⟩ : ∃ g11, w11.heap.size = g11 := ⟨_, rfl⟩
  obtain ⟨W12, hW12⟩ : ∃ W12, w11.alloc (.cells #[.slice OA qa ca, .slice OB qb cb] 36) = W12 := ⟨_, rfl⟩
  have b12 : Below w11.heap.size w11 W12 := by rw [← hW12]; exact (Below.refl _ w11).alloc (Nat.le_refl _) _
  have b712 := H11.out.2.trans (b12.mono H11.out.2.size)
  have b512 := H7.out.2.trans (b712.mono H7.out.2.size)
  have RA := H5.out.1.reads
  have RB_ := H7.out.1.reads
  have CA := keepC RA.2 (Nat.le_refl _) b512
  have CB := keepC RB_.2 (Nat.le_refl _) b712
  have hqa : qa = (oneA a).length := H5.out.1.1
  have hqb : qb = (twoA b).length := H7.out.1.1
  have C12 : Kd.C (Kd.slice 35 kI) W12 (some ⟨g11, 0, none⟩) 2 [oneA a, twoA b] := C_codes (ls := [oneA a, twoA b]) (by rw [← hW12, ← hg11]; exact heap_alloc_new w11 _) (fun j l hj => by
    rcases j with _ | _ | j
    · obtain rfl : oneA a = l := by simpa using hj
      exact ⟨OA, ca, by rw [← hqa]; rfl, by rw [← hqa]; exact RA.1, by rw [← hqa]; exact CA⟩
    · obtain rfl : twoA b = l := by simpa using hj
      exact ⟨OB, cb, by rw [← hqb]; rfl, by rw [← hqb]; exact RB_.1, by rw [← hqb]; exact CB⟩
    · simp at hj) (by simp)
  have hq := H11.out.1.1
  have R11 := H11.out.1.upto b12
  have R12 := R11.reads
  have hem : ∀ kk, (loopW 0 (D0 [oneA a, twoA b] []) ((picks.take m ++ upL (3 * (a + b))).take kk)).1.emits = [] := fun kk => aparts_emits (by omega) (by omega) _
  have hcall := run_w (some ⟨g11, 0, none⟩) 2 [oneA a, twoA b] none 0 [] PB pd (picks.take m ++ upL (3 * (a + b))) W12 C12 (by simp) ⟨rfl, by decide, fun h => absurd h (by decide)⟩ (by decide) (hq ▸ R12.2) (hq ▸ R12.1) (fun kk => by rw [hem kk]; simp) (fun x hx => by
    rcases List.mem_append.1 hx with hx | hx
    · have := HPR.out x (List.mem_of_mem_take hx); unfold In64 at this; omega
    · exact upL_in (by omega) x hx)
  rw [← hq] at hcall
  have HC := Lib.hid hcall
  have HQ := Lib.hid hq
  have H12 := Lib.hid (And.intro hW12 (And.intro hg11 (H9.out.2.2.trans (b712.mono H9.out.2.2.size))))
  clear hcall hq R11 R12 C12 hem hqa hqb CA CB RA RB_ b12 b712 b512 hW12 hg11
  go_wp2_with fail
  rw [H12.out.1, H12.out.2.1]
  refine HC.out.mono ?_
  rintro e w12 HR
  obtain ⟨A0, l0, j0, A1, l1, j1, A2, l2, j2, sa, ea, rfl, b12, G1⟩ := run_got HR
  clear HR HC
  have hok : okB [oneA a, twoA b] [] = true := by
    unfold okB
    simp [codeB_A (show a ≤ 20 by omega), codeB_A2 (show b ≤ 20 by omega)]
  rcases G1 with ⟨h, _⟩ | ⟨_, rfl, R, kk, hl, rfl, g, Ae, ce, As, cs, e1, e2, e3, h1, h2, h3⟩
  · exact absurd (hok.symm.trans h) (by decide)
  obtain ⟨l1', l2', l3', l4', l5', l6'⟩ := aparts (a := a) (b := b) (by omega) (by omega) (by rw [List.length_append, upL_len]; omega) hl
  injection e1 with e11 e12 e13
  injection e2 with e21 e22 e23
  injection e3 with e31 e32 e33
  subst e11 e12 e13 e21 e22 e23 e31 e32 e33
  rw [l1'] at h3 ⊢
  rw [l6']
  subst l5'
  have H13 := Lib.hid (And.intro b12 (And.intro h1 (And.intro h3 (And.intro l2' (And.intro l3' l4')))))
  clear l1' l2' l3' l4' l6' h1 h2 h3 hl b12 hok
  obtain ⟨n2, hn2⟩ : ∃ n2, w12.heap.size = n2 := ⟨_, rfl⟩
  obtain ⟨W3, hW3⟩ : ∃ W3, w12.alloc (.cells #[.slice none 0 0, .slice none 0 0, .slice none 0 0, .int .i64 0] 27) = W3 := ⟨_, rfl⟩
  have r3 := (run_put (a := nilS) (b := nilS) (c := nilS) (s := 0) hn2 hW3 rfl).1
  have H3 := Lib.hid hn2
  have HW3 := Lib.hid hW3
  obtain ⟨x0, x1, x2, x3⟩ := r3.cells
  have f0 := r3.frozen 0
  have f1 := r3.frozen 1
  have f2 := r3.frozen 2
  have f3 := r3.frozen 3
  clear hn2 hW3 r3
  go_upto_region 26 with (first | rw [HW3.out, H3.out])
  generalize hW4 : World.setCell (World.setCell (World.setCell (World.setCell W3 _ _) _ _) _ _) _ _ = W4
  obtain ⟨_, q1, q2⟩ := run_put H3.out HW3.out hW4
  have c0 := keepC H13.out.2.1 (Nat.le_refl _) q2
  have c1 := keepC H13.out.2.2.1 (Nat.le_refl _) q2
  have bF := H12.out.2.2.trans ((H13.out.1.trans (q2.mono H13.out.1.size)).mono H12.out.2.2.size)
  have HF := Lib.hid bF
  clear hW4 x0 x1 x2 x3 f0 f1 f2 f3 HW3 H3 q2 bF
  obtain ⟨x0, x1, x2, x3⟩ := q1.cells
  obtain ⟨ad, e0, y1⟩ := at_int c0 (i := 1) (by decide)
  injection e0 with e0
  subst e0
  rw [H13.out.2.2.2.2.1, add_off] at y1
  obtain ⟨ad, e0, y2⟩ := at_int c0 (i := 2) (by decide)
  injection e0 with e0
  subst e0
  rw [H13.out.2.2.2.2.2, add_off] at y2
  obtain ⟨ad, rfl, z0⟩ := at_int c1 (i := 0) (by decide)
  obtain ⟨ad', e0, z1⟩ := at_int c1 (i := 1) (by decide)
  injection e0 with e0
  subst e0
  rw [H13.out.2.2.2.1] at z0 z1
  rw [show ad.add 0 = ad by simp [Addr.add]] at z0
  replace z1 : W4.cell? ⟨ad.block, ad.off + 1, none⟩ = some (.int .i64 2) := z1
  replace z0 : W4.cell? ad = some (.int .i64 2) := z0
  clear q1 c0 c1
  go_wp2_with (go_quiet (fail))
  go_ret
  exact ⟨rfl, HF.out⟩
theorem schedApart_row (t r : Int) (P : Option Addr) (q p : Nat) (w : World) (F0 : (Lit.int .i64 t).wf = true) (F1 : (Lit.int .i64 r).wf = true)
    (F2 : ∃ A' len cap xs, Value.slice P q p = .slice A' len cap ∧ Kd.C (Kd.int .i64) w A' len xs ∧ len ≤ cap ∧ len * 8 ≤ 140737488351232 ∧ (∀ p ∈ xs, In64 p) ∧ (A' = none → cap = 0)) :
    Calls Try.prog 7 #[.int .i64 t, .int .i64 r, .slice P q p] w (TrueEnd w) := by
  obtain ⟨_, _, _, picks, e2, c1, c2, c5, c3, c4⟩ := F2
  cases e2
  obtain rfl : picks.length = q := c1.1
  exact apart_w t r P p picks w (wf_i64 t F0) (wf_i64 r F1) c1 c2 c5 c3 c4
end Go.Proofs.Ytkcjghdopmigoaa.SC
