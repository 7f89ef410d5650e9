/- sched: what is handed over is had: the walk. -/
import Derived.Test.YtkcjghdopmigoaaTG
import Derived.Test.YtkcjghdopmigoaaSY
namespace Go.Proofs.Ytkcjghdopmigoaa.SC
open Go.RowKit Go.ChangeShapes Go.WideShapes Go.Proofs.YtkcjghdopmigoaaW.PrintWords
set_option linter.unusedVariables false
set_option linter.unusedSimpArgs false
set_option maxRecDepth 100000

/-- One literal more behind a row, in a world of its own; another row stays. -/
theorem OwnI.lit2 {w0 W : World} {base q q' : Nat} {v v' : Value} {xs xs' : List I} (h : OwnI W base q v xs) (h' : OwnI W base q' v' xs') (hd : ∀ k, v.ownBlock = some k → v'.ownBlock ≠ some k) (ys : List I) (cs : Array Value) (hcs : cs = (cellsI ys).toArray) {m : Nat} (hm : ys.length = m) (hb : Below w0.heap.size w0 W) (hbase : w0.heap.size ≤ base) (hbW : base ≤ W.heap.size) (hl : q + m ≤ 1000000) :
    ∃ q1 A1 c1 w1, (Builtin.append_ #[36, 36] 36 #[v, .slice (some ⟨W.heap.size, 0, none⟩) m m]).run Try.prog (W.alloc (.cells cs 35)) = .ok (.slice A1 q1 c1) w1 ∧ OwnI w1 base q1 (.slice A1 q1 c1) (xs ++ ys) ∧ OwnI w1 base q' v' xs' ∧ (∀ k, (Value.slice A1 q1 c1).ownBlock = some k → v'.ownBlock ≠ some k) ∧ Below w0.heap.size w0 w1 := by
  obtain ⟨rfl, h⟩ := h
  subst hm
  have hC : Kd.C kI (W.alloc (.cells cs 35)) (some ⟨W.heap.size, 0, none⟩) ys.length ys := C_insts (heap_alloc_new W _) hcs (by omega)
  obtain ⟨i0, hi, hzz⟩ := Option.map_eq_some_iff.1 info35
  simp only [Prod.mk.injEq] at hzz
  obtain ⟨hz0, hz1, hz2⟩ := hzz
  obtain ⟨v1, w1, hrun, h2, hg, _, hat⟩ := run_append_own_at (P := Try.prog) (W.alloc (.cells cs 35)) base 36 36 35 i0 _ 4 32 (by kernel_rfl) hi hz0 hz1 hz2 rfl (by omega) v xs.length (cellsI xs) (h.alloc _) ⟨W.heap.size, 0, none⟩ ys.length ys.length (cellsI ys) (cellsI_len ys)
    (C_cellsI hC) (cellsI_one ys) (by simp only [maxLen]; omega) (by omega) (by simp; omega)
  obtain ⟨A1, c1, rfl⟩ := own_form' h2
  have h'' : (W.alloc (.cells cs 35)).ownsRow base 35 4 v' q' (cellsI xs') := h'.2.alloc _
  refine ⟨_, A1, c1, w1, hrun, ⟨(by rw [List.length_append]), by rw [cellsI_app]; exact h2⟩, ⟨h'.1, own_move h'' (fun k hk => hg.block k (own_lt h'' k hk) (fun e => hd k e.symm hk))⟩, fun k hk e => ?_, (hb.alloc hb.size _).grown hg (by have := hb.size; simp; omega) (fun k hk => Nat.le_trans hbase (own_base h k hk))⟩
  rcases hat with hat | hat
  · rw [hat] at hk
    exact hd k hk e
  · rw [hat] at hk
    injection hk with hk
    have := own_lt h'.2 k e
    simp at hk
    omega
theorem okB_H {n : Nat} (h1 : 1 ≤ n) (h6 : n ≤ 6) : okB [giveL n, takeL n] [] = true := by
  match n, h1, h6 with
  | 1, _, _ => decide +kernel
  | 2, _, _ => decide +kernel
  | 3, _, _ => decide +kernel
  | 4, _, _ => decide +kernel
  | 5, _, _ => decide +kernel
  | 6, _, _ => decide +kernel
set_option maxHeartbeats 8000000 in
theorem hands_w (t : Int) (P : Option Addr) (p : Nat) (picks : List Int) (w : World) (ht : In64 t) (hP : Kd.C (Kd.int .i64) w P picks.length picks) (hp : picks.length ≤ p) (hs : picks.length * 8 ≤ 140737488351232) (hpr : ∀ x ∈ picks, In64 x) (hPn : P = none → p = 0) :
    Calls Try.prog 8 #[.int .i64 t, .slice P picks.length p] w (TrueEnd w) := by
  have HP := Lib.hid (And.intro hP (And.intro hp (And.intro hs hPn)))
  have HPR := Lib.hid hpr
  have hpl : picks.length ≤ 17592186043904 := by omega
  clear hP hp hpr hs hPn
  obtain ⟨n, hn, hn1, hn6, hn0, hnm⟩ := abs_mod ht 6 (by omega)
  have Hn := Lib.hid (show 1 + absP t % 6 = (n : Int) from hn)
  clear hn
  obtain ⟨ht1, ht2⟩ := ht
  go_enter Try.func8, Try.ntmps8
  go_wp2_with fail
  refine (awake_w w).mono ?_
  rintro e w1 ⟨rfl, b1⟩
  have H1 := Lib.hid b1
  clear b1
  go_upto_if 17 with (fail)
  go_cut [0] from 16 to 20 (fun v wx => v = .int .i64 (absP t) ∧ w1 = wx)
  case first =>
    by_cases hpn : t < 0
    · have d1 : decide (t < 0) = true := decide_eq_true hpn
      have d2 : absP t = -t - 1 := if_pos hpn
      go_wp2_with fail
      go_meet
      case rel =>
        refine ⟨?_, rfl⟩
        rw [d2, show -(t + 1) = -t - 1 by omega]
    · have d1 : decide (t < 0) = false := decide_eq_false hpn
      have d2 : absP t = t := if_neg hpn
      go_wp2_with fail
      go_meet
      case rel => exact ⟨by rw [d2], rfl⟩
  case rest =>
  obtain ⟨hz, hw⟩ := hcut
  subst hz
  subst hw
  go_upto_block 0 with (fail)
  rw [Hn.out]
  go_cut [6, 7] from 24 to 69 (fun v u wc => ∃ OA qa ca OB qb cb, v = .slice OA qa ca ∧ u = .slice OB qb cb ∧ Hid (OwnI wc w1.heap.size qa v (giveL n) ∧ OwnI wc w1.heap.size qb u (takeL n) ∧ Below w1.heap.size w1 wc))
  case first =>
    go_wp2_with fail
    go_loopw [6, 7, 8] (fun v u t wr => ∃ (i : Nat) (OA : Option Addr) (qa ca : Nat) (OB : Option Addr) (qb cb : Nat), i ≤ n ∧ t = .int .i64 (i : Int) ∧ v = .slice OA qa ca ∧ u = .slice OB qb cb ∧ qa ≤ 100 ∧ qb ≤ 100 ∧ Hid (OwnI wr w1.heap.size qa (.slice OA qa ca) (giveL i) ∧ OwnI wr w1.heap.size qb (.slice OB qb cb) (takeL i) ∧ (∀ k, (Value.slice OA qa ca).ownBlock = some k → (Value.slice OB qb cb).ownBlock ≠ some k) ∧ Below w1.heap.size w1 wr)) (fun _ _ t _ => n - (intOf t).toNat)
    case atStart => exact ⟨0, none, 0, 0, none, 0, 0, by omega, rfl, rfl, rfl, by omega, by omega, Lib.hid ⟨OwnI.nil _ _, OwnI.nil _ _, fun k hk => by simp [Value.ownBlock] at hk, Below.refl _ _⟩⟩
    case round =>
      rename World => wr
      obtain ⟨i, OA, qa, ca, OB, qb, cb, hi, rfl, rfl, rfl, hqa, hqb, HI⟩ := hrel
      have m1 : IntKind.i64.wrap ((i : Int) + 1) = (i : Int) + 1 := by rw [IntWalk.i64_in _ (by omega)]
      by_cases hin : i < n
      · have p3 : decide ((i : Int) < (n : Int)) = true := decide_eq_true (by omega)
        have hqa' : qa = 9 * i := by have := HI.out.1.1; rw [giveL_len] at this; exact this
        have hqb' : qb = 10 * i := by have := HI.out.2.1.1; rw [takeL_len] at this; exact this
        obtain ⟨q1, A1, c1, w3, hrun, hown, hoth, hdis, b3⟩ := OwnI.lit2 HI.out.1 HI.out.2.1 HI.out.2.2.1 (giveB i qa) #[.int .i64 8, .int .i64 0, .int .i64 0, .int .i64 0, .int .i64 1, .int .i64 0, .int .i64 0, .int .i64 0, .int .i64 6, .int .i64 0, .int .i64 ((qa : Int) + 5), .int .i64 0, .int .i64 10, .int .i64 1, .int .i64 0, .int .i64 0, .int .i64 7, .int .i64 0, .int .i64 ((qa : Int) + 1), .int .i64 0, .int .i64 4, .int .i64 1, .int .i64 ((i : Int) + 1), .int .i64 0, .int .i64 2, .int .i64 0, .int .i64 1, .int .i64 0, .int .i64 11, .int .i64 0, .int .i64 0, .int .i64 0, .int .i64 9, .int .i64 0, .int .i64 0, .int .i64 0] rfl (m := 9) rfl HI.out.2.2.2 (Nat.le_refl _) HI.out.2.2.2.size (by omega)
        obtain ⟨q2, A2, c2, w5, hrun2, hown2, hoth2, hdis2, b5⟩ := OwnI.lit2 hoth hown (fun k h1 h2 => hdis k h2 h1) (takeB qb) #[.int .i64 8, .int .i64 0, .int .i64 0, .int .i64 0, .int .i64 1, .int .i64 0, .int .i64 0, .int .i64 0, .int .i64 6, .int .i64 0, .int .i64 ((qb : Int) + 4), .int .i64 0, .int .i64 7, .int .i64 0, .int .i64 ((qb : Int) + 6), .int .i64 0, .int .i64 10, .int .i64 0, .int .i64 0, .int .i64 0, .int .i64 7, .int .i64 0, .int .i64 ((qb : Int) + 1), .int .i64 0, .int .i64 13, .int .i64 0, .int .i64 0, .int .i64 0, .int .i64 2, .int .i64 0, .int .i64 1, .int .i64 0, .int .i64 11, .int .i64 1, .int .i64 0, .int .i64 0, .int .i64 9, .int .i64 0, .int .i64 0, .int .i64 0] rfl (m := 10) rfl b3 (Nat.le_refl _) b3.size (by omega)
        have e1 : giveL i ++ giveB i qa = giveL (i + 1) := by rw [hqa']; rfl
        have e2 : takeL i ++ takeB qb = takeL (i + 1) := by rw [hqb']; rfl
        rw [e1] at hoth2
        rw [e2] at hown2
        have hq1 : q1 ≤ 100 := by have := hoth2.1; rw [giveL_len] at this; omega
        have hq2 : q2 ≤ 100 := by have := hown2.1; rw [takeL_len] at this; omega
        have H3 := Lib.hid (show OwnI w5 w1.heap.size q1 (.slice A1 q1 c1) (giveL (i + 1)) ∧ OwnI w5 w1.heap.size q2 (.slice A2 q2 c2) (takeL (i + 1)) ∧ (∀ k, (Value.slice A1 q1 c1).ownBlock = some k → (Value.slice A2 q2 c2).ownBlock ≠ some k) ∧ Below w1.heap.size w1 w5 from ⟨hoth2, hown2, fun k h1 h2 => hdis2 k h2 h1, b5⟩)
        clear hown hoth hdis b3 hown2 hoth2 hdis2 b5 e1 e2 hqa' hqb'
        go_upto_region 12 with (at_builtin; refine wpList_append_run _ rfl (.tmp 31) (.tmp 47) 36 rfl _ _ _ _ rfl rfl hrun ?_; clear hrun)
        go_wp2_with (at_builtin; refine wpList_append_run _ rfl (.tmp 51) (.tmp 68) 36 rfl _ _ _ _ rfl rfl hrun2 ?_; clear hrun2)
        exact ⟨⟨i + 1, A1, q1, c1, A2, q2, c2, by omega, by simp, rfl, rfl, hq1, hq2, H3⟩, by simp [intOf]; omega⟩
      · obtain rfl : i = n := by omega
        have p3 : decide ((i : Int) < (i : Int)) = false := decide_eq_false (by omega)
        go_wp2_with fail
        go_meet
        case rel => exact ⟨OA, qa, ca, OB, qb, cb, rfl, rfl, Lib.hid ⟨HI.out.1, HI.out.2.1, HI.out.2.2.2⟩⟩
  case rest =>
  rename World => w7
  obtain ⟨OA, qa, ca, OB, qb, cb, rfl, rfl, H7⟩ := hcut
  go_upto_if 72 with (fail)
  go_cut [1] from 70 to 74 (fun v wx => ∃ m, v = .slice P m p ∧ m ≤ 300 ∧ Hid (m = min picks.length 300) ∧ w7 = wx)
  case first =>
    have hp0 : P = none → p = 0 := HP.out.2.2.2
    have hmp : picks.length ≤ p := HP.out.2.1
    by_cases hpn : 300 < picks.length
    · have d1 : decide (300 < (picks.length : Int)) = true := decide_eq_true (by omega)
      have d2 : decide (300 < picks.length) = true := decide_eq_true hpn
      go_wp2_with fail
      go_meet
      case rel => exact ⟨300, rfl, by omega, Lib.hid (by omega), rfl⟩
    · have d1 : decide (300 < (picks.length : Int)) = false := decide_eq_false (by omega)
      have d2 : decide (300 < picks.length) = false := decide_eq_false hpn
      go_wp2_with fail
      go_meet
      case rel => exact ⟨picks.length, rfl, by omega, Lib.hid (by omega), rfl⟩
  case rest =>
  obtain ⟨m, hz, hm300, HM, hw⟩ := hcut
  subst hz
  subst hw
  have hml : (picks.take m).length = m := by have := HM.out; rw [List.length_take]; omega
  have HML := Lib.hid hml
  clear hml
  go_upto_region 16 with fail
  obtain ⟨g8, hg8⟩ : ∃ g8, w7.heap.size = g8 := ⟨_, rfl⟩
  obtain ⟨W8, hW8⟩ : ∃ W8, w7.alloc (.cells #[] 3) = W8 := ⟨_, rfl⟩
  have b8 : Below w7.heap.size w7 W8 := by rw [← hW8]; exact (Below.refl _ w7).alloc (Nat.le_refl _) _
  have b7 := H1.out.trans (H7.out.2.2.mono H1.out.size)
  have b8w := b7.trans (b8.mono b7.size)
  have o8 : W8.ownsRow w7.heap.size 3 1 (.slice (some ⟨g8, 0, none⟩) 0 0) 0 [] := own_lit (cs := #[]) (by rw [← hW8, ← hg8]; exact heap_alloc_new w7 _) (by omega) rfl rfl (by decide)
  obtain ⟨v9, w9, hrun, o9, gr9⟩ := run_copyN (p := p) o8 (C_take (keepC HP.out.1 (Nat.le_refl _) b8w) (m := m) (by have := HM.out; omega)) (by have := HML.out; omega) b8.size HP.out.2.2.2
  rw [HML.out] at hrun o9
  have b9 := b8.grown gr9 b8.size (fun k hk => by injection hk with hk; omega)
  obtain ⟨A9, k9, rfl⟩ := own_form' o9
  have H9 := Lib.hid (And.intro (show OwnN w9 w7.heap.size m (.slice A9 m k9) (picks.take m ++ upL 0) from ⟨by simp [upL, HML.out], by simpa [upL] using o9⟩) (And.intro b9 b7))
  have H8 := Lib.hid (And.intro hW8 hg8)
  clear hW8 hg8 b8 b7 b8w o8 o9 gr9 b9
  go_upto_block 2 with (first | (rw [H8.out.1, H8.out.2]) | (at_builtin; refine wpList_append_run _ rfl (.tmp 75) (.tmp 76) 24 rfl _ _ _ _ rfl rfl hrun ?_; clear hrun))
  go_cut [10] from 78 to 85 (fun v wc => ∃ PB q pd, v = .slice PB q pd ∧ Hid (OwnN wc w7.heap.size q v (picks.take m ++ upL 400) ∧ Below w7.heap.size w7 wc))
  case first =>
    go_wp2_with fail
    go_loopw [10, 11] (fun v t wr => ∃ (i : Nat) (PB : Option Addr) (q pd : Nat), i ≤ 400 ∧ t = .int .i64 (i : Int) ∧ v = .slice PB q pd ∧ Hid (OwnN wr w7.heap.size q (.slice PB q pd) (picks.take m ++ upL i) ∧ Below w7.heap.size w7 wr)) (fun _ t _ => 400 - (intOf t).toNat)
    case atStart => exact ⟨0, A9, _, k9, by omega, rfl, rfl, Lib.hid ⟨H9.out.1, H9.out.2.1⟩⟩
    case round =>
      rename World => wr
      obtain ⟨i, PB, q, pd, hi, rfl, rfl, HI⟩ := hrel
      have m1 : IntKind.i64.wrap ((i : Int) + 1) = (i : Int) + 1 := by rw [IntWalk.i64_in _ (by omega)]
      by_cases hin : i < 400
      · have p3 : decide ((i : Int) < 400) = true := decide_eq_true (by omega)
        obtain ⟨q1, PB1, pd1, w3, hrun, hown, hg3⟩ := OwnN.push (W := wr.alloc (.cells #[.int .i64 (i : Int)] 3)) (B := ⟨wr.heap.size, 0, none⟩) (x := (i : Int)) ⟨HI.out.1.1, HI.out.1.2.alloc _⟩ (cell_top rfl rfl) (by have := HI.out.1.1; rw [List.length_append, upL_len, HML.out] at this; omega) (by have := HI.out.2.size; simp; omega)
        have b3 : Below w7.heap.size w7 w3 := (HI.out.2.alloc HI.out.2.size _).grown hg3 (by have := HI.out.2.size; simp; omega) (fun k hk => own_base HI.out.1.2 k hk)
        rw [List.append_assoc, ← upL_succ] at hown
        have H3 := Lib.hid (And.intro hown b3)
        clear hown b3 hg3
        go_wp2_with (at_builtin; refine wpList_append_run _ rfl (.tmp 82) (.tmp 84) 24 rfl _ _ _ _ rfl rfl hrun ?_; clear hrun)
        exact ⟨⟨i + 1, PB1, q1, pd1, by omega, by simp, rfl, H3⟩, by simp [intOf]; omega⟩
      · obtain rfl : i = 400 := by omega
        have p3 : decide (((400 : Nat) : Int) < 400) = false := decide_eq_false (by omega)
        go_wp2_with fail
        go_meet
        case rel => exact ⟨PB, q, pd, rfl, HI⟩
  case rest =>
  rename World => w11
  obtain ⟨PB, q, pd, rfl, H11⟩ := hcut
  obtain ⟨g11, hg11⟩ : ∃ g11, w11.heap.size = g11 := ⟨_, rfl⟩
  obtain ⟨W12, hW12⟩ : ∃ W12, w11.alloc (.cells #[.slice OA qa ca, .slice OB qb cb] 36) = W12 := ⟨_, rfl⟩
  have b12 : Below w11.heap.size w11 W12 := by rw [← hW12]; exact (Below.refl _ w11).alloc (Nat.le_refl _) _
  have b712 := H11.out.2.trans (b12.mono H11.out.2.size)
  have RA := H7.out.1.reads
  have RB_ := H7.out.2.1.reads
  have CA := keepC RA.2 (Nat.le_refl _) b712
  have CB := keepC RB_.2 (Nat.le_refl _) b712
  have hqa : qa = (giveL n).length := H7.out.1.1
  have hqb : qb = (takeL n).length := H7.out.2.1.1
  have C12 : Kd.C (Kd.slice 35 kI) W12 (some ⟨g11, 0, none⟩) 2 [giveL n, takeL n] := C_codes (ls := [giveL n, takeL n]) (by rw [← hW12, ← hg11]; exact heap_alloc_new w11 _) (fun j l hj => by
    rcases j with _ | _ | j
    · obtain rfl : giveL n = l := by simpa using hj
      exact ⟨OA, ca, by rw [← hqa]; rfl, by rw [← hqa]; exact RA.1, by rw [← hqa]; exact CA⟩
    · obtain rfl : takeL n = l := by simpa using hj
      exact ⟨OB, cb, by rw [← hqb]; rfl, by rw [← hqb]; exact RB_.1, by rw [← hqb]; exact CB⟩
    · simp at hj) (by simp)
  have hq := H11.out.1.1
  have R11 := H11.out.1.upto b12
  have R12 := R11.reads
  have hlen : (picks.take m ++ upL 400).length ≤ 700 := by rw [List.length_append, upL_len, HML.out]; omega
  have hcall := run_w (some ⟨g11, 0, none⟩) 2 [giveL n, takeL n] none 0 [] PB pd (picks.take m ++ upL 400) W12 C12 (by simp) ⟨rfl, by decide, fun h => absurd h (by decide)⟩ (by decide) (hq ▸ R12.2) (hq ▸ R12.1) (hE_of (by omega)) (fun x hx => by
    rcases List.mem_append.1 hx with hx | hx
    · have := HPR.out x (List.mem_of_mem_take hx); unfold In64 at this; omega
    · exact upL_in (by omega) x hx)
  rw [← hq] at hcall
  have HC := Lib.hid hcall
  have HQ := Lib.hid hq
  have H12 := Lib.hid (And.intro hW12 (And.intro hg11 (H9.out.2.2.trans (b712.mono H9.out.2.2.size))))
  clear hcall hq R11 R12 C12 hqa hqb CA CB RA RB_ b12 b712 hW12 hg11 hlen
  go_wp2_with fail
  rw [H12.out.1, H12.out.2.1]
  refine HC.out.mono ?_
  rintro e w12 HR
  obtain ⟨A0, l0, j0, A1, l1, j1, A2, l2, j2, sa, ea, rfl, b12, G1⟩ := run_got HR
  clear HR HC
  rcases G1 with ⟨h, _⟩ | ⟨_, rfl, R, kk, hl, rfl, g, Ae, ce, As, cs, e1, e2, e3, h1, h2, h3⟩
  · exact absurd ((okB_H hn1 hn6).symm.trans h) (by decide)
  obtain ⟨l1', l2', l3'⟩ := hands (n := n) hn1 hn6 (by rw [List.length_append, upL_len]; omega) hl
  have l4' : R.emits.length = n := by rw [l3']; simp
  injection e1 with e11 e12 e13
  injection e2 with e21 e22 e23
  injection e3 with e31 e32 e33
  subst e11 e12 e13 e21 e22 e23 e31 e32 e33
  rw [l1'] at h3 ⊢
  rw [l4'] at h2 ⊢
  have H13 := Lib.hid (And.intro b12 (And.intro h2 (And.intro h3 (And.intro l2' l3'))))
  clear l1' l2' l3' l4' h1 h2 h3 hl b12
  obtain ⟨n2, hn2⟩ : ∃ n2, w12.heap.size = n2 := ⟨_, rfl⟩
  obtain ⟨W3, hW3⟩ : ∃ W3, w12.alloc (.cells #[.slice none 0 0, .slice none 0 0, .slice none 0 0, .int .i64 0] 27) = W3 := ⟨_, rfl⟩
  have r3 := (run_put (a := nilS) (b := nilS) (c := nilS) (s := 0) hn2 hW3 rfl).1
  have H3 := Lib.hid hn2
  have HW3 := Lib.hid hW3
  obtain ⟨x0, x1, x2, x3⟩ := r3.cells
  have f0 := r3.frozen 0
  have f1 := r3.frozen 1
  have f2 := r3.frozen 2
  have f3 := r3.frozen 3
  clear hn2 hW3 r3
  go_upto_region 22 with (first | rw [HW3.out, H3.out])
  generalize hW4 : World.setCell (World.setCell (World.setCell (World.setCell W3 _ _) _ _) _ _) _ _ = W4
  obtain ⟨_, q1, q2⟩ := run_put H3.out HW3.out hW4
  have c0 := keepC H13.out.2.1 (Nat.le_refl _) q2
  have c1 := keepC H13.out.2.2.1 (Nat.le_refl _) q2
  have bF := H12.out.2.2.trans ((H13.out.1.trans (q2.mono H13.out.1.size)).mono H12.out.2.2.size)
  have HF := Lib.hid (And.intro bF (And.intro c0 (And.intro c1 q1)))
  clear hW4 x0 x1 x2 x3 f0 f1 f2 f3 HW3 H3 q2 bF c0 c1
  obtain ⟨x0, x1, x2, x3⟩ := q1.cells
  clear q1
  go_upto_block 4 with fail
  have HX := Lib.hid (And.intro x1 x2)
  clear x0 x1 x2 x3
  go_cut [] from 109 to 131 (fun wc => Hid (Below W4.heap.size W4 wc))
  case first =>
    go_wp2_with fail
    go_loopw [14] (fun t wr => ∃ (i : Nat), i ≤ n ∧ t = .int .i64 (i : Int) ∧ Hid (Below W4.heap.size W4 wr)) (fun t _ => n - (intOf t).toNat)
    case atStart => exact ⟨0, by omega, rfl, Lib.hid (Below.refl _ _)⟩
    case round =>
      rename World => wr
      obtain ⟨i, hi, rfl, HI⟩ := hrel
      have m1 : IntKind.i64.wrap ((i : Int) + 1) = (i : Int) + 1 := by rw [IntWalk.i64_in _ (by omega)]
      by_cases hin : i < n
      · have p3 : decide ((i : Int) < (n : Int)) = true := decide_eq_true (by omega)
        have hx : R.emits[i]? = some ⟨1, (i : Int) + 1⟩ := by
          rw [H13.out.2.2.2.2, List.getElem?_map, List.getElem?_range hin]
          rfl
        obtain ⟨ad, rfl, c2, c3⟩ := at_em (keepC HF.out.2.1 (Nat.le_refl _) HI.out) hx
        clear hx
        have x2 := cell_up' HX.out.1 HI.out
        have p0 : (0 ≤ (i : Int)) = True := by simp
        have p4 : ((i : Int) < (n : Int)) = True := eq_true (by omega)
        have p5 : (i < n) = True := eq_true hin
        go_wp2_with (go_quiet (fail))
        exact ⟨⟨i + 1, by omega, by simp, HI⟩, by simp [intOf]; omega⟩
      · obtain rfl : i = n := by omega
        have p3 : decide ((i : Int) < (i : Int)) = false := decide_eq_false (by omega)
        go_wp2_with fail
        go_meet
        case rel => exact HI
  case rest =>
  rename World => w20
  have x2 := cell_up' HX.out.2 hcut.out
  have c1 := keepC HF.out.2.2.1 (Nat.le_refl _) hcut.out
  obtain ⟨ad, rfl, z0⟩ := at_int c1 (i := 0) (by decide)
  obtain ⟨ad', e0, z1⟩ := at_int c1 (i := 1) (by decide)
  injection e0 with e0
  subst e0
  rw [H13.out.2.2.2.1] at z0 z1
  rw [show ad.add 0 = ad by simp [Addr.add]] at z0
  replace z1 : w20.cell? ⟨ad.block, ad.off + 1, none⟩ = some (.int .i64 2) := z1
  replace z0 : w20.cell? ad = some (.int .i64 2) := z0
  have HZ := Lib.hid (HF.out.1.trans (hcut.out.mono HF.out.1.size))
  clear c1
  go_wp2_with (go_quiet (fail))
  go_ret
  exact ⟨rfl, HZ.out⟩
theorem schedHands_row (t : Int) (P : Option Addr) (q p : Nat) (w : World) (F0 : (Lit.int .i64 t).wf = true)
    (F2 : ∃ A' len cap xs, Value.slice P q p = .slice A' len cap ∧ Kd.C (Kd.int .i64) w A' len xs ∧ len ≤ cap ∧ len * 8 ≤ 140737488351232 ∧ (∀ p ∈ xs, In64 p) ∧ (A' = none → cap = 0)) :
    Calls Try.prog 8 #[.int .i64 t, .slice P q p] w (TrueEnd w) := by
  obtain ⟨_, _, _, picks, e2, c1, c2, c5, c3, c4⟩ := F2
  cases e2
  obtain rfl : picks.length = q := c1.1
  exact hands_w t P p picks w (wf_i64 t F0) c1 c2 c5 c3 c4
end Go.Proofs.Ytkcjghdopmigoaa.SC
