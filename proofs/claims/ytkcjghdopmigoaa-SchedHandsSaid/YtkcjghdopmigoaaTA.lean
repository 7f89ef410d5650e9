/- sched: a run with fewer picks: the walk. -/
import Derived.Test.YtkcjghdopmigoaaSZ
namespace Go.Proofs.Ytkcjghdopmigoaa.SC
open Go.RowKit Go.Proofs.YtkcjghdopmigoaaW.PrintWords
set_option linter.unusedVariables false
set_option linter.unusedSimpArgs false
set_option maxRecDepth 100000

theorem C_take {α : Type} {d : Kd α} {w : World} {A : Option Addr} {n : Nat} {xs : List α} (h : Kd.C d w A n xs) {m : Nat} (hm : m ≤ n) : Kd.C d w A (xs.take m).length (xs.take m) := by
  have hl : (xs.take m).length ≤ n := by rw [List.length_take]; omega
  refine ⟨rfl, by have := h.2.1; omega, fun h0 => ?_⟩
  obtain ⟨a, e, ha⟩ := h.2.2 (by omega)
  refine ⟨a, e, fun j p hj => ha j p ?_⟩
  rw [List.getElem?_take] at hj
  split at hj
  · exact hj
  · cases hj
theorem at_em {w : World} {A : Option Addr} {n : Nat} {xs : List Em} (h : Kd.C kE w A n xs) {i : Nat} {x : Em} (hi : xs[i]? = some x) : ∃ ad, A = some ad ∧ w.cell? (ad.add (i * 2)) = some (.int .i64 x.task) ∧ w.cell? ⟨(ad.add (i * 2)).block, (ad.add (i * 2)).off + 1, none⟩ = some (.int .i64 x.value) := by
  have hl : 0 < n := by
    have := (List.getElem?_eq_some_iff.1 hi).1
    have := h.1
    omega
  obtain ⟨a, e, ha⟩ := h.2.2 hl
  obtain ⟨cs, _, hK, hc⟩ := ha i x hi
  obtain rfl := kE_open hK
  exact ⟨a, e, hc 0 _ rfl, by rw [← add_field _ _ 1 (by omega)]; exact hc 1 _ rfl⟩
def TrueEnd (w : World) (e : Ending) (w' : World) : Prop := e = .returned (.bool true) ∧ Below w.heap.size w w'
/-- What a run gave, and where it lies. -/
def Got (code : List (List I)) (cells picks : List Int) (w' : World) (a b c : Value) (s er : Int) : Prop :=
  (okB code cells = false ∧ a = nilS ∧ b = nilS ∧ c = nilS ∧ s = 0 ∧ er = 50) ∨
  (okB code cells = true ∧ er = 0 ∧ ∃ R k, loopW 0 (D0 code cells) picks = (R, k) ∧ s = (k : Int) ∧ ∃ g Ae ce As cs, a = .slice (some ⟨g, 1, none⟩) 16 16 ∧ b = .slice Ae R.emits.length ce ∧ c = .slice As R.ts.length cs ∧
    Kd.C (Kd.int .i64) w' (some ⟨g, 1, none⟩) 16 R.cells ∧ Kd.C kE w' Ae R.emits.length R.emits ∧ Kd.C (Kd.int .i64) w' As R.ts.length (R.ts.map (stateW R)))
theorem run_got {code : List (List I)} {cells picks : List Int} {w w' : World} {e : Ending} (h : RunEnd code cells picks w e w') :
    ∃ A0 l0 k0 A1 l1 k1 A2 l2 k2 s er, e = .returned (.tuple #[.agg #[.slice A0 l0 k0, .slice A1 l1 k1, .slice A2 l2 k2, .int .i64 s], .int .i64 er]) ∧ Below w.heap.size w w' ∧ Got code cells picks w' (.slice A0 l0 k0) (.slice A1 l1 k1) (.slice A2 l2 k2) s er := by
  rcases h with ⟨h, rfl, b⟩ | ⟨h, R, s, hl, g, Ae, ce, As, cs, rfl, hc1, _, hc2, _, hc3, b⟩
  · exact ⟨none, 0, 0, none, 0, 0, none, 0, 0, 0, 50, rfl, b, .inl ⟨h, rfl, rfl, rfl, rfl, rfl⟩⟩
  · exact ⟨_, _, _, _, _, _, _, _, _, _, _, rfl, b, .inr ⟨h, rfl, R, s, hl, rfl, g, Ae, ce, As, cs, rfl, rfl, rfl, hc1, hc2, hc3⟩⟩
theorem Got.below {code : List (List I)} {cells picks : List Int} {w w' : World} {a b c : Value} {s er : Int} (h : Got code cells picks w a b c s er) {m : Nat} (hm : w.heap.size ≤ m) (hb : Below m w w') : Got code cells picks w' a b c s er := by
  rcases h with h | ⟨h, he, R, k, hl, hs, g, Ae, ce, As, cs, ea, eb, ec, h1, h2, h3⟩
  · exact .inl h
  · exact .inr ⟨h, he, R, k, hl, hs, g, Ae, ce, As, cs, ea, eb, ec, keepC h1 hm hb, keepC h2 hm hb, keepC h3 hm hb⟩
/-- The result of a run is put into a variable. -/
theorem run_put {w : World} {a b c : Value} {s : Int} {n : Nat} (hn : w.heap.size = n) {W W' : World} (hW : w.alloc (.cells #[.slice none 0 0, .slice none 0 0, .slice none 0 0, .int .i64 0] 27) = W) (hW' : (((W.setCell ⟨n, 0, none⟩ a).setCell ⟨n, 1, none⟩ b).setCell ⟨n, 2, none⟩ c).setCell ⟨n, 3, none⟩ (.int .i64 s) = W') :
    RB W n nilS nilS nilS 0 ∧ RB W' n a b c s ∧ Below w.heap.size w W' := by
  subst hW hW' hn
  have r : RB (w.alloc (.cells #[.slice none 0 0, .slice none 0 0, .slice none 0 0, .int .i64 0] 27)) w.heap.size nilS nilS nilS 0 := heap_alloc_new w _
  have l := Nat.le_refl w.heap.size
  exact ⟨r, r.set4, (((((Below.refl _ w).alloc l _).setCell l _).setCell l _).setCell l _).setCell l _⟩
set_option maxHeartbeats 8000000 in
theorem begins_w (A : Option Addr) (c : Nat) (code : List (List I)) (B : Option Addr) (d : Nat) (cells : List Int) (P : Option Addr) (p : Nat) (picks : List Int) (n : Int) (w : World) (hA : Kd.C (Kd.slice 35 kI) w A code.length code) (hc : code.length ≤ c) (hB : Kd.C (Kd.int .i64) w B cells.length cells) (hd : cells.length ≤ d) (hP : Kd.C (Kd.int .i64) w P picks.length picks) (hp : picks.length ≤ p) (hs : picks.length ≤ 1048576) (hpr : ∀ x ∈ picks, In64 x) (hn : In64 n) (hPn : P = none → p = 0) :
    Calls Try.prog 4 #[.slice A code.length c, .slice B cells.length d, .slice P picks.length p, .int .i64 n] w (TrueEnd w) := by
  have HA := Lib.hid (And.intro hA hc)
  have HB := Lib.hid (And.intro hB hd)
  have HP := Lib.hid (And.intro hP (And.intro hp (And.intro hs hPn)))
  have HPR := Lib.hid hpr
  have hpl : picks.length ≤ 1048576 := hs
  clear hA hc hB hd hP hp hpr hs hPn
  obtain ⟨hn1, hn2⟩ := hn
  go_enter Try.func4, Try.ntmps4
  go_wp2_with fail
  refine (awake_w w).mono ?_
  rintro e w1 ⟨rfl, b1⟩
  have H1 := Lib.hid b1
  clear b1
  go_upto_if 17 with (fail)
  go_cut [3] from 16 to 20 (fun v wx => v = .int .i64 (absP n) ∧ w1 = wx)
  case first =>
    by_cases hpn : n < 0
    · have d1 : decide (n < 0) = true := decide_eq_true hpn
      have d2 : absP n = -n - 1 := if_pos hpn
      go_wp2_with fail
      go_meet
      case rel =>
        refine ⟨?_, rfl⟩
        rw [d2, show -(n + 1) = -n - 1 by omega]
    · have d1 : decide (n < 0) = false := decide_eq_false hpn
      have d2 : absP n = n := if_neg hpn
      go_wp2_with fail
      go_meet
      case rel => exact ⟨by rw [d2], rfl⟩
  case rest =>
    obtain ⟨hz, hw⟩ := hcut
    subst hz
    subst hw
    have ha0 : 0 ≤ absP n := by unfold absP; split <;> omega
    have ha1 : absP n ≤ 9223372036854775807 := by unfold absP; split <;> omega
    obtain ⟨m, hm⟩ : ∃ m : Nat, absP n % ((picks.length : Int) + 1) = m := ⟨(absP n % ((picks.length : Int) + 1)).toNat, by have := Int.emod_nonneg (absP n) (show (picks.length : Int) + 1 ≠ 0 by omega); omega⟩
    have hml : m ≤ picks.length := by have := Int.emod_lt_of_pos (absP n) (show (0 : Int) < (picks.length : Int) + 1 by omega); omega
    have Hm := Lib.hid hm
    clear hm
    have hcall := run_w A c code B d cells P p picks w1 (keepC HA.out.1 (Nat.le_refl _) H1.out) HA.out.2 (keepC HB.out.1 (Nat.le_refl _) H1.out) HB.out.2 (keepC HP.out.1 (Nat.le_refl _) H1.out) HP.out.2.1 (hE_of (by omega)) (fun x hx => by have := HPR.out x hx; unfold In64 at this; omega)
    have HC := Lib.hid hcall
    clear hcall
    go_wp2_with fail
    refine HC.out.mono ?_
    rintro e w2 HR
    rw [Hm.out]
    have HPm := Lib.hid (show (picks.take m).length = m from by rw [List.length_take]; omega)
    have hslice : (Value.slice P m p) = .slice P (picks.take m).length p := by rw [HPm.out]
    have hcall2 : ∀ wx, Below w1.heap.size w1 wx → Calls Try.prog 10 #[.slice A code.length c, .slice B cells.length d, .slice P m p] wx (RunEnd code cells (picks.take m) wx) := fun wx hb => by
      have h1 := H1.out.trans (hb.mono H1.out.size)
      rw [hslice]
      exact run_w A c code B d cells P p (picks.take m) wx (keepC HA.out.1 (Nat.le_refl _) h1) HA.out.2 (keepC HB.out.1 (Nat.le_refl _) h1) HB.out.2 (C_take (keepC HP.out.1 (Nat.le_refl _) h1) (by omega)) (by have := HP.out.2.1; rw [HPm.out]; omega) (hE_of (by rw [HPm.out]; omega)) (fun x hx => by have := HPR.out x (List.mem_of_mem_take hx); unfold In64 at this; omega)
    have HC2 := Lib.hid hcall2
    have hp0 : P = none → p = 0 := HP.out.2.2.2
    have hmp : m ≤ p := by have := HP.out.2.1; omega
    have Hp0 := Lib.hid hp0
    clear hslice hcall2 HC hp0
    obtain ⟨A0, l0, k0, A1, l1, k1, A2, l2, k2, sa, ea, rfl, b2, G1⟩ := run_got HR
    clear HR
    obtain ⟨n2, hn2⟩ : ∃ n2, w2.heap.size = n2 := ⟨_, rfl⟩
    obtain ⟨W3, hW3⟩ : ∃ W3, w2.alloc (.cells #[.slice none 0 0, .slice none 0 0, .slice none 0 0, .int .i64 0] 27) = W3 := ⟨_, rfl⟩
    have r3 := (run_put (a := nilS) (b := nilS) (c := nilS) (s := 0) hn2 hW3 rfl).1
    have H3 := Lib.hid (And.intro b2 (And.intro G1 hn2))
    have HW3 := Lib.hid hW3
    obtain ⟨x0, x1, x2, x3⟩ := r3.cells
    have f0 := r3.frozen 0
    have f1 := r3.frozen 1
    have f2 := r3.frozen 2
    have f3 := r3.frozen 3
    clear hn2 hW3 r3 b2 G1
    go_upto_region 6 with (first | rw [HW3.out, H3.out.2.2])
    generalize hW4 : World.setCell (World.setCell (World.setCell (World.setCell W3 _ _) _ _) _ _) _ _ = W4
    obtain ⟨_, q1, q2⟩ := run_put H3.out.2.2 HW3.out hW4
    have H4 := Lib.hid (And.intro q1 (And.intro (H3.out.1.trans (q2.mono H3.out.1.size)) (H3.out.2.1.below (Nat.le_refl _) q2)))
    have HC3 := Lib.hid (HC2.out W4 H4.out.2.1)
    clear hW4 x0 x1 x2 x3 f0 f1 f2 f3 HW3 H3 q1 q2 HC2
    go_wp2_with fail
    refine HC3.out.mono ?_
    rintro e w5 HR
    obtain ⟨B0, m0, j0, B1, m1, j1, B2, m2, j2, sb, eb, rfl, b5, G2⟩ := run_got HR
    clear HR
    obtain ⟨n5, hn5⟩ : ∃ n5, w5.heap.size = n5 := ⟨_, rfl⟩
    obtain ⟨W6, hW6⟩ : ∃ W6, w5.alloc (.cells #[.slice none 0 0, .slice none 0 0, .slice none 0 0, .int .i64 0] 27) = W6 := ⟨_, rfl⟩
    have r6 := (run_put (a := nilS) (b := nilS) (c := nilS) (s := 0) hn5 hW6 rfl).1
    have H5 := Lib.hid (And.intro b5 (And.intro G2 hn5))
    have HW6 := Lib.hid hW6
    obtain ⟨x0, x1, x2, x3⟩ := r6.cells
    have f0 := r6.frozen 0
    have f1 := r6.frozen 1
    have f2 := r6.frozen 2
    have f3 := r6.frozen 3
    clear hn5 hW6 r6 b5 G2
    go_upto_region 7 with (first | rw [HW6.out, H5.out.2.2])
    generalize hW7 : World.setCell (World.setCell (World.setCell (World.setCell W6 _ _) _ _) _ _) _ _ = W7
    obtain ⟨_, q1, q2⟩ := run_put H5.out.2.2 HW6.out hW7
    have q3 := H5.out.1.trans (q2.mono H5.out.1.size)
    have H7 := Lib.hid (And.intro q1 (And.intro (H4.out.1.below q3) (And.intro (H4.out.2.1.trans (q3.mono H4.out.2.1.size)) (And.intro (H4.out.2.2.below (Nat.le_refl _) q3) (H5.out.2.1.below (Nat.le_refl _) q2)))))
    clear hW7 x0 x1 x2 x3 f0 f1 f2 f3 HW6 H5 q1 q2 q3 H4
    obtain ⟨z0, z1, z2, z3⟩ := H7.out.1.cells
    obtain ⟨y0, y1, y2, y3⟩ := H7.out.2.1.cells
    have HF := Lib.hid (H1.out.trans (H7.out.2.2.1.mono H1.out.size))
    have HG := Lib.hid H7.out.2.2.2
    clear H7
    rcases HG.out with ⟨⟨ok1, e1, e2, e3, rfl, rfl⟩ | ⟨ok1, rfl, R, k, hl, rfl, g, Ae, ce, As, cs, e1, e2, e3, h1, h2, h3⟩, ⟨ok2, e4, e5, e6, rfl, rfl⟩ | ⟨ok2, rfl, R2, k2, hl2, rfl, g2, Ae2, ce2, As2, cs2, e4, e5, e6, i1, i2, i3⟩⟩
    · clear e1 e2 e3 e4 e5 e6 ok1 ok2
      go_wp2_with fail
      go_ret
      exact ⟨rfl, HF.out⟩
    · exact absurd (ok1.symm.trans ok2) (by decide)
    · exact absurd (ok2.symm.trans ok1) (by decide)
    · obtain ⟨t1, t2, t3, t4⟩ := begins hml hl hl2
      injection e2 with ea eb ec
      injection e5 with ed ee ef
      subst ea eb ec ed ee ef
      have t5 := t4.length_le
      have t6 : R2.emits.length ≤ 1048576 := by
        have h1 := loopW_emits (picks.take m) 0 (D0 code cells)
        rw [hl2] at h1
        have h2 : R2.emits.length ≤ 0 + (picks.take m).length := h1
        have := HPm.out
        omega
      have HL := Lib.hid (And.intro t4 (And.intro h2 i2))
      clear e1 e3 e4 e6 ok1 ok2 h1 h2 h3 i1 i2 i3 hl hl2 t4
      have d1 : decide ((m : Int) < (k2 : Int)) = false := decide_eq_false (by omega)
      have d2 : decide (m < k2) = false := decide_eq_false (by omega)
      have d3 : decide ((k : Int) < (k2 : Int)) = false := decide_eq_false (by omega)
      have d4 : decide (k < k2) = false := decide_eq_false (by omega)
      have d5 : decide ((R.emits.length : Int) < (R2.emits.length : Int)) = false := decide_eq_false (by omega)
      have d6 : decide (R.emits.length < R2.emits.length) = false := decide_eq_false (by omega)
      have HS := Lib.hid t3
      clear t3
      obtain ⟨na, hna⟩ : ∃ na, R.emits.length = na := ⟨_, rfl⟩
      obtain ⟨nb, hnb⟩ : ∃ nb, R2.emits.length = nb := ⟨_, rfl⟩
      have HN := Lib.hid (And.intro hna hnb)
      rw [hnb] at z1
      rw [hna] at y1
      rw [hna, hnb] at d5 d6 t5
      rw [hnb] at t6
      try rw [hna]
      try rw [hnb]
      clear hna hnb
      rcases Nat.lt_or_ge k2 m with hlt | hge
      case' inl =>
        obtain rfl := HS.out hlt
        have d7 : decide ((k : Int) < (m : Int)) = true := decide_eq_true (by omega)
        have d8 : decide (k < m) = true := decide_eq_true (by omega)
        have d9 : ((k : Int) != (k : Int)) = false := by simp
        go_upto_block 0 with fail
        clear d1 d2 d3 d4 d5 d6 d7 d8 d9
      case' inr =>
        have d7 : decide ((k2 : Int) < (m : Int)) = false := decide_eq_false (by omega)
        have d8 : decide (k2 < m) = false := decide_eq_false (by omega)
        go_upto_block 0 with fail
        clear d1 d2 d3 d4 d5 d6 d7 d8
      all_goals (
        have HZ := Lib.hid (And.intro z1 y1)
        clear z0 z1 z2 z3 y0 y1 y2 y3
        go_cut [14] from 91 to 108 (fun v wx => Hid (Below W7.heap.size W7 wx))
        case first =>
          have z1 := HZ.out.1
          go_wp2_with fail
          clear z1
          go_loopw [14] (fun v wr => ∃ i : Nat, i ≤ nb ∧ v = .int .i64 (i : Int) ∧ Hid (Below W7.heap.size W7 wr)) (fun v _ => nb - (intOf v).toNat)
          case atStart => exact ⟨0, by omega, rfl, Lib.hid (Below.refl _ _)⟩
          case round =>
            obtain ⟨i, hi, rfl, HI⟩ := hrel
            rename World => wr
            have z1 := cell_up' HZ.out.1 HI.out
            have y1 := cell_up' HZ.out.2 HI.out
            have m1 : IntKind.i64.wrap ((i : Int) + 1) = (i : Int) + 1 := by rw [IntWalk.i64_in _ (by omega)]
            by_cases hin : i < nb
            · have p0 : (0 ≤ (i : Int)) = True := by simp
              have p3 : decide ((i : Int) < (nb : Int)) = true := decide_eq_true (by omega)
              obtain ⟨x, hx2⟩ : ∃ x, R2.emits[i]? = some x := ⟨_, List.getElem?_eq_getElem (by have := HN.out.2; omega)⟩
              have hx1 : R.emits[i]? = some x := by
                obtain ⟨l, hl⟩ := HL.out.1
                rw [← hl, List.getElem?_append_left (List.getElem?_eq_some_iff.1 hx2).1]
                exact hx2
              obtain ⟨ad1, rfl, c11, c12⟩ := at_em (keepC HL.out.2.1 (Nat.le_refl _) HI.out) hx1
              obtain ⟨ad2, rfl, c21, c22⟩ := at_em (keepC HL.out.2.2 (Nat.le_refl _) HI.out) hx2
              clear hx1 hx2
              have p4 : ((i : Int) < (na : Int)) = True := eq_true (by omega)
              have p5 : ((i : Int) < (nb : Int)) = True := eq_true (by omega)
              have p6 : (i < na) = True := eq_true (by omega)
              have p7 : (i < nb) = True := eq_true hin
              go_upto_region 16 with fail
              go_quiet (fail)
              go_wp2_with fail
              exact ⟨⟨i + 1, by omega, by simp, Lib.hid (pw_below_drewN HI.out _)⟩, by simp [intOf]; omega⟩
            · obtain rfl : i = nb := by omega
              have p3 : decide ((i : Int) < (i : Int)) = false := decide_eq_false (by omega)
              go_wp2_with fail
              go_meet
              case rel => exact HI
        case rest =>
          go_wp2_with fail
          go_ret
          exact ⟨rfl, HF.out.trans (hcut.out.mono HF.out.size)⟩)
end Go.Proofs.Ytkcjghdopmigoaa.SC
