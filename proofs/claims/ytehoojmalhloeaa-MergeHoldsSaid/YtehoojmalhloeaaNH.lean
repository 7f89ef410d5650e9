/- MergeHolds: the walk. No condition. -/
import Derived.Test.YtehoojmalhloeaaMZ
import Derived.Deep.LoopGhost
namespace Go.Proofs.Ytehoojmalhloeaa.CM
open Go.RowKit Go.Proofs.YtehoojmalhloeaaW.PrintWords
set_option linter.unusedVariables false
set_option linter.unusedSimpArgs false
set_option maxRecDepth 100000
attribute [local go_sem high] eqV44
set_option maxHeartbeats 8000000 in
theorem mergeHolds_w (A : Option Addr) (c : Nat) (L : List (List PC.S44)) (w : World) (hr : Kd.C (Kd.slice 44 PC.k44) w A L.length L) (hc : L.length ≤ c) :
    Calls Try.prog 10 #[.slice A L.length c] w fun e w' => e = .returned (.bool true) ∧ Below w.heap.size w w' := by
  have HA := Lib.hid (And.intro hr hc)
  clear hr hc
  go_enter Try.func10, Try.ntmps10
  go_wp2_with fail
  refine (awake16_w w).mono ?_
  rintro e w1 ⟨rfl, b⟩
  have H1 := Lib.hid (And.intro (keepC HA.out.1 (Nat.le_refl _) b) b)
  clear b
  go_wp2_with fail
  refine (few16_w A c L w1 H1.out.1 HA.out.2).mono ?_
  rintro e w2 ⟨A2, c2, rfl, h1, h2, h3⟩
  have hD1 := cut16_len L
  have hD2 := cut16_row L
  obtain ⟨D, hD⟩ : ∃ D, cut16 L = D := ⟨_, rfl⟩
  rw [hD] at h1 h2 hD1 hD2 ⊢
  have H2 := Lib.hid (And.intro h2 (And.intro hD2 (H1.out.2.trans (h3.mono H1.out.2.size))))
  have HN := Lib.hid (new_w A2 c2 D w2 h2 (by omega) (fun j _ => by have := hD2 j; omega))
  clear h1 h2 h3 hD2 hD
  go_wp2_with fail
  refine HN.out.mono ?_
  rintro e w3 (⟨rfl, _, b⟩ | ⟨X, s, rfl, hris, hL, hM⟩)
  · have H3 := Lib.hid (H2.out.2.2.trans (b.mono H2.out.2.2.size))
    clear b
    go_wp2_with fail
    go_ret
    exact ⟨rfl, H3.out⟩
  · have N0 := hM.nw (fun j hj => by show risesB (s.L.getD j []) = true; rw [hL]; exact hris j (by rw [← hL]; exact hj))
    obtain ⟨F0, hF0⟩ : ∃ F, Foot X s (.slice none 0 0) = F := ⟨_, rfl⟩
    rw [hF0] at N0
    have H3 := Lib.hid N0
    have HL := Lib.hid hL
    clear N0 hF0 hM hris hL
    go_wp2_with fail
    go_loopw [6] (fun t wr => ∃ n : Nat, n ≤ D.length ∧ t = .int .i64 (n : Int) ∧ Hid (∃ q F, Nw w2 wr X s q F)) (fun t _ => D.length - (intOf t).toNat)
    case atStart => exact ⟨0, by omega, rfl, Lib.hid ⟨_, _, H3.out⟩⟩
    case round =>
      obtain ⟨n, hn, rfl, HI⟩ := hrel
      obtain ⟨Wo, rfl⟩ : ∃ Wo, Wo = wr := ⟨_, rfl⟩
      have m1 : IntKind.i64.wrap ((n : Int) + 1) = (n : Int) + 1 := by rw [IntWalk.i64_in _ (by omega)]
      by_cases hlt : n < D.length
      · have hltz : (n : Int) < D.length := by omega
        obtain ⟨q, F, NI⟩ := HI.out
        have HQ := Lib.hid NI
        clear NI HI
        obtain ⟨l, hlD⟩ : ∃ l, PC.rd_L6 D (n : Int) = l := ⟨_, rfl⟩
        have hlD' : D.getD n [] = l := by rw [← hlD]; simp [PC.rd_L6]
        have hll : l.length ≤ 200 := by rw [← hlD']; exact H2.out.2.1 n
        have hsl : s.l n = l := by show s.L.getD n [] = l; rw [HL.out]; exact hlD'
        have hrow : ∃ ad, A2 = some ad ∧ ∀ W : World, Below w2.heap.size w2 W → ∃ A0 c0, W.cell? (ad.add n) = some (.slice A0 l.length c0) ∧ l.length ≤ c0 ∧ PC.k44.C W A0 l.length l := by
          obtain ⟨ad0, A0, c0_, e0, g0, g1, g2⟩ := PC.at_L6 H2.out.1 (n : Int) (by omega) (by omega)
          refine ⟨ad0, e0, fun W hb => ?_⟩
          obtain ⟨ad1, A1, c1, e1, g0, g1, g2⟩ := PC.at_L6 (keepC H2.out.1 (Nat.le_refl _) hb) (n : Int) (by omega) (by omega)
          rw [e0] at e1
          obtain rfl : ad0 = ad1 := by injection e1
          rw [hlD] at g0 g1 g2
          simp only [Int.toNat_natCast] at g0
          exact ⟨A1, c1, g0, g1, g2⟩
        obtain ⟨ad, rfl, hrow⟩ := hrow
        have HC := Lib.hid hrow
        clear hrow
        have HS := Lib.hid hsl
        clear hlD hlD' hsl
        go_wp2_with fail
        refine (first_q HQ.out.it).mono ?_
        rintro e w4 ⟨rfl, g⟩
        obtain ⟨F4, N4, f4, n4⟩ := HQ.out.goes g
        have H4 := Lib.hid N4
        clear g N4 f4 n4
        go_wp2_with fail
        go_loopg [7] s.N (fun k t wr => ∃ (a p : Nat), p ≤ s.N ∧ k = s.N - p ∧ t = .int .i64 (a : Int) ∧ a ≤ l.length ∧ Hid (ats s p n ≤ a ∧ ∃ F, Nw w2 wr X s (if p < s.N then some p else none) F))
        case atStart => exact ⟨0, 0, by omega, by omega, rfl, by omega, Lib.hid ⟨Nat.le_refl _, _, H4.out⟩⟩
        case round =>
          obtain ⟨a, p, hp, rfl, rfl, hal, HP⟩ := hrel
          obtain ⟨hat, F5, N5⟩ := HP.out
          have H5 := Lib.hid N5
          have Hat := Lib.hid hat
          clear N5 hat HP
          go_wp2_with fail
          refine (at_q H5.out.it).mono ?_
          rintro e w6 ⟨rfl, b6⟩
          have H6 := Lib.hid (H5.out.below b6)
          clear b6
          by_cases hpN : p < s.N
          · rw [if_pos hpN]
            obtain ⟨y, hy⟩ : ∃ y, itm s p = y := ⟨_, rfl⟩
            have Hy := Lib.hid hy
            rw [show told s (some p) = (y, true) from (by show (itm s p, true) = _; rw [hy])]
            clear hy
            simp only [val44]
            obtain ⟨W6, hW6⟩ : ∃ W6, w6.alloc (.cells #[.string y.f0.f0, .int .u64 y.f0.f1, .int .i64 y.f0.f2, .string y.f1] 44) = W6 := ⟨_, rfl⟩
            have bl6 : Below w6.heap.size w6 W6 := by rw [← hW6]; exact (Below.refl _ _).alloc (Nat.le_refl _) _
            have k0 : W6.heap[w6.heap.size]? = some (.cells #[.string y.f0.f0, .int .u64 y.f0.f1, .int .i64 y.f0.f2, .string y.f1] 44) := by rw [← hW6]; exact World.alloc_heap_new w6 _
            have N6 := H6.out.below bl6
            have e0 : W6.cell? ⟨w6.heap.size, 0, none⟩ = some (.string y.f0.f0) := by simp [World.cell?, k0]
            have e1 : W6.cell? ⟨w6.heap.size, 1, none⟩ = some (.int .u64 y.f0.f1) := by simp [World.cell?, k0]
            have e2 : W6.cell? ⟨w6.heap.size, 2, none⟩ = some (.int .i64 y.f0.f2) := by simp [World.cell?, k0]
            have e3 : W6.cell? ⟨w6.heap.size, 3, none⟩ = some (.string y.f1) := by simp [World.cell?, k0]
            obtain ⟨A0, c0, g0, g1, g2⟩ := HC.out W6 N6.bel
            have K6 := Lib.hid (And.intro N6 g1)
            clear bl6 k0 N6 g1
            have p0 : ((n : Int) < D.length) = True := eq_true hltz
            have p1 : (0 ≤ (n : Int)) = True := by simp
            have p2 : (n < D.length) = True := eq_true hlt
            by_cases ha : a < l.length
            · obtain ⟨ad1, rfl, X0⟩ := at44 g2 a ha
              obtain ⟨x, hx⟩ : ∃ x, l.getD a PC.z44 = x := ⟨_, rfl⟩
              rw [hx] at X0
              obtain ⟨x0, x1, x2, x3⟩ := X0
              have Hx := Lib.hid hx
              have d1 : decide ((a : Int) < l.length) = true := decide_eq_true (by omega)
              have p3 : ((a : Int) < l.length) = True := eq_true (by omega)
              have p4 : (0 ≤ (a : Int)) = True := by simp
              have p5 : (a < l.length) = True := eq_true ha
              clear hx g2
              go_wp2_with (first | rw [hW6])
              by_cases hyx : y = x
              · have d2 : eqB y x = true := eqB_iff.2 hyx
                have HG := Lib.hid ((greedy hpN Hat.out (by rw [HS.out]; exact hal)).1 ⟨by rw [HS.out]; exact ha, by rw [HS.out, Hx.out, Hy.out]; exact hyx⟩)
                clear hyx
                go_quiet (fail)
                obtain ⟨W7, hW7⟩ : ∃ W7, W6.drewN nq = W7 := ⟨_, rfl⟩
                have N7 := Lib.hid (K6.out.1.below (show Below W6.heap.size W6 W7 from by rw [← hW7]; exact ⟨rfl, rfl, rfl, Nat.le_refl _, fun _ _ => rfl⟩))
                rw [hW7]
                clear hW7 e0 e1 e2 e3 g0 x0 x1 x2 x3
                go_wp2_with fail
                refine (next_q N7.out.it).mono ?_
                rintro e w8 ⟨rfl, g⟩
                rw [if_pos hpN] at g N7
                obtain ⟨F8, N8, f8, n8⟩ := N7.out.goes g
                have H8 := Lib.hid N8
                clear g N8 f8 n8
                go_wp2_with fail
                go_roundg (s.N - (p + 1))
                case measure => omega
                case rel => exact ⟨a + 1, p + 1, by omega, rfl, by simp, by omega, Lib.hid ⟨HG.out, F8, H8.out⟩⟩
              · have d2 : eqB y x = false := by rw [← Bool.not_eq_true, eqB_iff]; exact hyx
                have HG := Lib.hid ((greedy hpN Hat.out (by rw [HS.out]; exact hal)).2 (fun h => hyx (by rw [← Hy.out, ← Hx.out, ← HS.out]; exact h.2)))
                clear hyx
                go_quiet (fail)
                obtain ⟨W7, hW7⟩ : ∃ W7, W6.drewN nq = W7 := ⟨_, rfl⟩
                have N7 := Lib.hid (K6.out.1.below (show Below W6.heap.size W6 W7 from by rw [← hW7]; exact ⟨rfl, rfl, rfl, Nat.le_refl _, fun _ _ => rfl⟩))
                rw [hW7]
                clear hW7 e0 e1 e2 e3 g0 x0 x1 x2 x3
                go_wp2_with fail
                refine (next_q N7.out.it).mono ?_
                rintro e w8 ⟨rfl, g⟩
                rw [if_pos hpN] at g N7
                obtain ⟨F8, N8, f8, n8⟩ := N7.out.goes g
                have H8 := Lib.hid N8
                clear g N8 f8 n8
                go_wp2_with fail
                go_roundg (s.N - (p + 1))
                case measure => omega
                case rel => exact ⟨a, p + 1, by omega, rfl, by rfl, by omega, Lib.hid ⟨HG.out, F8, H8.out⟩⟩
            · have d1 : decide ((a : Int) < l.length) = false := decide_eq_false (by omega)
              clear g2
              go_wp2_with (first | rw [hW6])
              have HG := Lib.hid ((greedy hpN Hat.out (by rw [HS.out]; exact hal)).2 (fun h => ha (by rw [← HS.out]; exact h.1)))
              go_quiet (fail)
              obtain ⟨W7, hW7⟩ : ∃ W7, W6.drewN nq = W7 := ⟨_, rfl⟩
              have N7 := Lib.hid (K6.out.1.below (show Below W6.heap.size W6 W7 from by rw [← hW7]; exact ⟨rfl, rfl, rfl, Nat.le_refl _, fun _ _ => rfl⟩))
              rw [hW7]
              clear hW7 e0 e1 e2 e3 g0 
              go_wp2_with fail
              refine (next_q N7.out.it).mono ?_
              rintro e w8 ⟨rfl, g⟩
              rw [if_pos hpN] at g N7
              obtain ⟨F8, N8, f8, n8⟩ := N7.out.goes g
              have H8 := Lib.hid N8
              clear g N8 f8 n8
              go_wp2_with fail
              go_roundg (s.N - (p + 1))
              case measure => omega
              case rel => exact ⟨a, p + 1, by omega, rfl, by rfl, by omega, Lib.hid ⟨HG.out, F8, H8.out⟩⟩
          · rw [if_neg hpN]
            rw [show told s none = (PC.z44, false) from rfl]
            obtain ⟨y, hz⟩ : ∃ y, PC.z44 = y := ⟨_, rfl⟩
            rw [hz]
            clear hz
            simp only [val44]
            have hpe : p = s.N := by omega
            have hae : a = l.length := by
              have h1 := Hat.out
              rw [hpe, ats_end, HS.out] at h1
              omega
            clear hpe hal
            subst hae
            obtain ⟨W6, hW6⟩ : ∃ W6, w6.alloc (.cells #[.string y.f0.f0, .int .u64 y.f0.f1, .int .i64 y.f0.f2, .string y.f1] 44) = W6 := ⟨_, rfl⟩
            have bl6 : Below w6.heap.size w6 W6 := by rw [← hW6]; exact (Below.refl _ _).alloc (Nat.le_refl _) _
            have N6 := H6.out.below bl6
            obtain ⟨A0, c0, g0, g1, g2⟩ := HC.out W6 N6.bel
            have K6 := Lib.hid (And.intro N6 (And.intro g1 g2))
            clear bl6 N6 g1 g2
            have p0 : ((n : Int) < D.length) = True := eq_true hltz
            have p1 : (0 ≤ (n : Int)) = True := by simp
            have p2 : (n < D.length) = True := eq_true hlt
            go_wp2_with (first | rw [hW6])
            exact ⟨⟨n + 1, by omega, by simp, Lib.hid ⟨_, _, K6.out.1⟩⟩, by simp [intOf]; omega⟩
      · obtain rfl : n = D.length := by omega
        have hltz : decide ((D.length : Int) < (D.length : Int)) = false := decide_eq_false (by omega)
        go_wp2_with fail
        go_ret
        obtain ⟨q, F, N⟩ := HI.out
        exact ⟨rfl, H2.out.2.2.trans (N.bel.mono H2.out.2.2.size)⟩
end Go.Proofs.Ytehoojmalhloeaa.CM
