/- MergeGoes: the walk. No condition. -/
import Derived.Test.YtehoojmalhloeaaNJ
namespace Go.Proofs.Ytehoojmalhloeaa.CM
open Go.RowKit Go.Proofs.YtehoojmalhloeaaW.PrintWords
set_option linter.unusedVariables false
set_option linter.unusedSimpArgs false
set_option maxRecDepth 100000
attribute [local go_sem high] eqV44
set_option maxHeartbeats 16000000 in
theorem mergeGoes_w (A : Option Addr) (c : Nat) (L : List (List PC.S44)) (w : World) (hr : Kd.C (Kd.slice 44 PC.k44) w A L.length L) (hc : L.length ≤ c) :
    Calls Try.prog 12 #[.slice A L.length c] w fun e w' => e = .returned (.bool true) ∧ Below w.heap.size w w' := by
  have HA := Lib.hid (And.intro hr hc)
  clear hr hc
  go_enter Try.func12, Try.ntmps12
  go_wp2_with fail
  refine (awake16_w w).mono ?_
  rintro e w1 ⟨rfl, b⟩
  have H1 := Lib.hid (And.intro (keepC HA.out.1 (Nat.le_refl _) b) b)
  clear b
  go_wp2_with fail
  refine (few16_w A c L w1 H1.out.1 HA.out.2).mono ?_
  rintro e w2 ⟨A2, c2, rfl, h1, h2, h3⟩
  have hD1 := cut16_len L
  have hD2 := cut16_row L
  obtain ⟨D, hD⟩ : ∃ D, cut16 L = D := ⟨_, rfl⟩
  rw [hD] at h1 h2 hD1 hD2 ⊢
  have H2 := Lib.hid (And.intro h2 (And.intro hD2 (H1.out.2.trans (h3.mono H1.out.2.size))))
  have HN := Lib.hid (new_w A2 c2 D w2 h2 (by omega) (fun j _ => by have := hD2 j; omega))
  clear h1 h2 h3 hD2 hD
  go_wp2_with fail
  refine HN.out.mono ?_
  rintro e w3 (⟨rfl, _, b⟩ | ⟨X, s, rfl, hris, hL, hM⟩)
  · have H3 := Lib.hid (H2.out.2.2.trans (b.mono H2.out.2.2.size))
    clear b
    go_wp2_with fail
    go_ret
    exact ⟨rfl, H3.out⟩
  · have N0 := hM.nw (fun j hj => by show risesB (s.L.getD j []) = true; rw [hL]; exact hris j (by rw [← hL]; exact hj))
    obtain ⟨F0, hF0⟩ : ∃ F, Foot X s (.slice none 0 0) = F := ⟨_, rfl⟩
    rw [hF0] at N0
    have HR := Lib.hid (ris_of N0.it)
    have HT := Lib.hid (N_of hL)
    have S3 := Lib.hid (St.mk N0 (Row.nil _ _ _))
    have HL := Lib.hid hL
    have hNb : s.N ≤ 8000 := by
      rw [HT.out]
      have := tot_bound (fun j => (D.getD j []).length) 200 D.length (fun j _ => H2.out.2.1 j)
      omega
    clear N0 hF0 hM hris hL HN
    go_wp2_with fail
    go_loop [6, 7] (fun a t => ∃ n : Nat, n ≤ D.length ∧ t = .int .i64 (n : Int) ∧ a = .int .i64 (tot (fun j => (D.getD j []).length) n : Nat)) (fun _ t => D.length - (intOf t).toNat)
    case atStart => exact ⟨0, by omega, rfl, rfl⟩
    case round =>
      obtain ⟨n, hn, rfl, rfl⟩ := hrel
      have m1 : IntKind.i64.wrap ((n : Int) + 1) = (n : Int) + 1 := by rw [IntWalk.i64_in _ (by omega)]
      by_cases hlt : n < D.length
      · have hltz : (n : Int) < D.length := by omega
        obtain ⟨ad, A0, c0, e0, g0, g1, g2⟩ := PC.at_L6 (keepC H2.out.1 (Nat.le_refl _) S3.out.nw.bel) (n : Int) (by omega) (by omega)
        obtain ⟨l, hlD⟩ : ∃ l, PC.rd_L6 D (n : Int) = l := ⟨_, rfl⟩
        rw [hlD] at g0 g1 g2
        simp only [Int.toNat_natCast] at g0
        have hlD' : D.getD n [] = l := by rw [← hlD]; simp [PC.rd_L6]
        have hll : l.length ≤ 200 := by rw [← hlD']; exact H2.out.2.1 n
        have hte : tot (fun j => (D.getD j []).length) (n + 1) = tot (fun j => (D.getD j []).length) n + l.length := by show _ + (D.getD n []).length = _; rw [hlD']
        have htb := tot_bound (fun j => (D.getD j []).length) 200 n (fun j _ => H2.out.2.1 j)
        have Hte := Lib.hid hte
        obtain ⟨t, ht⟩ : ∃ t, tot (fun j => (D.getD j []).length) n = t := ⟨_, rfl⟩
        rw [ht] at Hte htb ⊢
        have m2 : IntKind.i64.wrap ((t : Int) + (l.length : Int)) = ((t + l.length : Nat) : Int) := by rw [IntWalk.i64_in _ (by omega)]; omega
        subst e0
        have p0 : ((n : Int) < D.length) = True := eq_true hltz
        have p1 : (0 ≤ (n : Int)) = True := by simp
        have p2 : (n < D.length) = True := eq_true hlt
        clear hlD hlD' hll hte htb ht g1 g2
        go_wp2_with fail
        go_round
        case rel => exact ⟨n + 1, by omega, by simp, by rw [Hte.out]; simp⟩
        case measure => simp [intOf]; omega
      · obtain rfl : n = D.length := by omega
        have hltz : decide ((D.length : Int) < (D.length : Int)) = false := decide_eq_false (by omega)
        rw [← HT.out]
        go_wp2_with fail
        refine (first_q S3.out.nw.it).mono ?_
        rintro e w4 ⟨rfl, g⟩
        obtain ⟨F4, S, _⟩ := S3.out.goes g
        have S4 := Lib.hid S
        clear g S
        go_wp2_with fail
        go_loopw [8, 9] (fun v t wr => ∃ i : Nat, i ≤ s.N ∧ t = .int .i64 (i : Int) ∧ Hid (∃ F, St w2 wr X s (plc s i) F v (upto s i))) (fun _ t _ => s.N + 1 - (intOf t).toNat)
        case atStart => exact ⟨0, by omega, rfl, Lib.hid ⟨F4, S4.out⟩⟩
        case round =>
          obtain ⟨i, hi, rfl, HI⟩ := hrel
          obtain ⟨F5, S⟩ := HI.out
          have S5 := Lib.hid S
          clear S HI
          have d0 : decide ((i : Int) ≤ (s.N : Int)) = true := decide_eq_true (by omega)
          have m3 : IntKind.i64.wrap ((i : Int) + 1) = (i : Int) + 1 := by rw [IntWalk.i64_in _ (by omega)]
          go_wp2_with fail
          refine (at_q S5.out.nw.it).mono ?_
          rintro e w6 ⟨rfl, b⟩
          have S6 := Lib.hid (S5.out.below b)
          clear b
          by_cases hiN : i < s.N
          · rw [plc_lt hiN] at S6 ⊢
            obtain ⟨y, hy⟩ : ∃ y, itm s i = y := ⟨_, rfl⟩
            have Hy := Lib.hid hy
            rw [show told s (some i) = (y, true) from (by show (itm s i, true) = _; rw [hy])]
            clear hy
            simp only [val44]
            obtain ⟨W7, hW7⟩ : ∃ W7, w6.alloc (.cells #[.string y.f0.f0, .int .u64 y.f0.f1, .int .i64 y.f0.f2, .string y.f1] 44) = W7 := ⟨_, rfl⟩
            have bl : Below w6.heap.size w6 W7 := by rw [← hW7]; exact (Below.refl _ _).alloc (Nat.le_refl _) _
            have kk := Kp.new S6.out.nw.it (obj y)
            rw [show w6.alloc (obj y) = W7 from hW7] at kk
            have S7 := Lib.hid (And.intro (S6.out.below bl) kk)
            clear kk
            have HE := Lib.hid (eqB_self y)
            by_cases hi0 : 0 < i
            · have d1 : decide (0 < (i : Int)) = true := decide_eq_true (by omega)
              go_wp2_with (first | rw [hW7])
              refine (prev_q S7.out.1.nw.it).mono ?_
              rintro e w8 ⟨rfl, g⟩
              obtain ⟨F8, S, K⟩ := S7.out.1.goes g
              have S8 := Lib.hid (And.intro S (K _ _ S7.out.2))
              clear g S K
              go_wp2_with fail
              refine (next_q S8.out.1.nw.it).mono ?_
              rintro e w9 ⟨rfl, g⟩
              obtain ⟨F9, S, K⟩ := S8.out.1.goes g
              have S9' := And.intro S (K _ _ S8.out.2)
              clear g S K
              rw [show nxtQ s (prvQ (some i)) = some i from (by obtain ⟨j, rfl⟩ : ∃ j, i = j + 1 := ⟨i - 1, by omega⟩; show (if j + 1 < s.N then _ else _) = _; rw [if_pos hiN])] at S9'
              have S9 := Lib.hid S9'
              clear S9' d1
              go_wp2_with fail
              refine (at_q S9.out.1.nw.it).mono ?_
              rintro e w10 ⟨rfl, b⟩
              rw [show told s (some i) = (y, true) from (by show (itm s i, true) = _; rw [Hy.out])]
              simp only [val44]
              have S10 := Lib.hid (S9.out.1.below b)
              have K10 := S9.out.2.below b
              obtain ⟨W11, hW11⟩ : ∃ W11, w10.alloc (.cells #[.string y.f0.f0, .int .u64 y.f0.f1, .int .i64 y.f0.f2, .string y.f1] 44) = W11 := ⟨_, rfl⟩
              have bl2 : Below w10.heap.size w10 W11 := by rw [← hW11]; exact (Below.refl _ _).alloc (Nat.le_refl _) _
              obtain ⟨a0, a1, a2, a3⟩ := obj_cells (K10.below bl2).blk
              obtain ⟨b0, b1, b2, b3⟩ := obj_cells (w := W11) (b := w10.heap.size) (y := y) (by rw [← hW11]; exact World.alloc_heap_new w10 _)
              obtain ⟨v1, w12, hrun, hS⟩ := (S10.out.below bl2).app y (by rw [upto_len]; omega)
              have S12 := Lib.hid hS
              have hE := HE.out
              clear b K10 bl2 hS
              go_wp2_with (first | rw [hW11] | (at_builtin; refine wpList_append_run _ rfl (.tmp 81) (.tmp 83) 22 rfl _ _ _ _ rfl rfl hrun ?_; clear hrun))
              refine (next_q S12.out.nw.it).mono ?_
              rintro e w13 ⟨rfl, g⟩
              obtain ⟨F13, S, _⟩ := S12.out.goes g
              have S13 := Lib.hid S
              clear g S a0 a1 a2 a3 b0 b1 b2 b3
              go_wp2_with fail
              go_roundw
              case rel => exact ⟨i + 1, by omega, by simp, Lib.hid ⟨F13, by rw [upto_succ, Hy.out]; exact S13.out⟩⟩
              case measure => simp [intOf]; omega
            · have d1 : decide (0 < (i : Int)) = false := decide_eq_false (by omega)
              go_wp2_with (first | rw [hW7])
              have S9 := Lib.hid S7.out
              clear d1
              refine (at_q S9.out.1.nw.it).mono ?_
              rintro e w10 ⟨rfl, b⟩
              rw [show told s (some i) = (y, true) from (by show (itm s i, true) = _; rw [Hy.out])]
              simp only [val44]
              have S10 := Lib.hid (S9.out.1.below b)
              have K10 := S9.out.2.below b
              obtain ⟨W11, hW11⟩ : ∃ W11, w10.alloc (.cells #[.string y.f0.f0, .int .u64 y.f0.f1, .int .i64 y.f0.f2, .string y.f1] 44) = W11 := ⟨_, rfl⟩
              have bl2 : Below w10.heap.size w10 W11 := by rw [← hW11]; exact (Below.refl _ _).alloc (Nat.le_refl _) _
              obtain ⟨a0, a1, a2, a3⟩ := obj_cells (K10.below bl2).blk
              obtain ⟨b0, b1, b2, b3⟩ := obj_cells (w := W11) (b := w10.heap.size) (y := y) (by rw [← hW11]; exact World.alloc_heap_new w10 _)
              obtain ⟨v1, w12, hrun, hS⟩ := (S10.out.below bl2).app y (by rw [upto_len]; omega)
              have S12 := Lib.hid hS
              have hE := HE.out
              clear b K10 bl2 hS
              go_wp2_with (first | rw [hW11] | (at_builtin; refine wpList_append_run _ rfl (.tmp 81) (.tmp 83) 22 rfl _ _ _ _ rfl rfl hrun ?_; clear hrun))
              refine (next_q S12.out.nw.it).mono ?_
              rintro e w13 ⟨rfl, g⟩
              obtain ⟨F13, S, _⟩ := S12.out.goes g
              have S13 := Lib.hid S
              clear g S a0 a1 a2 a3 b0 b1 b2 b3
              go_wp2_with fail
              go_roundw
              case rel => exact ⟨i + 1, by omega, by simp, Lib.hid ⟨F13, by rw [upto_succ, Hy.out]; exact S13.out⟩⟩
              case measure => simp [intOf]; omega
          · obtain rfl : i = s.N := by omega
            rw [plc_end] at S6 ⊢
            rw [show told s none = (PC.z44, false) from rfl]
            obtain ⟨y, hz⟩ : ∃ y, PC.z44 = y := ⟨_, rfl⟩
            rw [hz]
            clear hz
            simp only [val44]
            obtain ⟨W7, hW7⟩ : ∃ W7, w6.alloc (.cells #[.string y.f0.f0, .int .u64 y.f0.f1, .int .i64 y.f0.f2, .string y.f1] 44) = W7 := ⟨_, rfl⟩
            have bl : Below w6.heap.size w6 W7 := by rw [← hW7]; exact (Below.refl _ _).alloc (Nat.le_refl _) _
            have kk := Kp.new S6.out.nw.it (obj y)
            rw [show w6.alloc (obj y) = W7 from hW7] at kk
            have S7 := Lib.hid (And.intro (S6.out.below bl) kk)
            clear kk
            obtain ⟨Al, cl, hvl, hle, hC⟩ := Kd.R_reads S7.out.1.row.r
            subst hvl
            rw [upto_len] at S7 hle hC ⊢
            have S7b := Lib.hid S7.out.1
            have HC7 := Lib.hid hC
            clear hC hle S7 S6 S5 d0
            go_wp2_with (first | rw [hW7])
            refine (at_q S7b.out.nw.it).mono ?_
            rintro e w8 ⟨rfl, b⟩
            have S8 := Lib.hid (S7b.out.below b)
            rw [show told s none = (PC.z44, false) from rfl]
            obtain ⟨z, hz⟩ : ∃ y, PC.z44 = y := ⟨_, rfl⟩
            rw [hz]
            clear hz b
            simp only [val44]
            obtain ⟨W9, hW9⟩ : ∃ W9, w8.alloc (.cells #[.string z.f0.f0, .int .u64 z.f0.f1, .int .i64 z.f0.f2, .string z.f1] 44) = W9 := ⟨_, rfl⟩
            have bl : Below w8.heap.size w8 W9 := by rw [← hW9]; exact (Below.refl _ _).alloc (Nat.le_refl _) _
            have kk := Kp.new S8.out.nw.it (obj z)
            rw [show w8.alloc (obj z) = W9 from hW9] at kk
            have S9a := Lib.hid (And.intro (S8.out.below bl) kk)
            clear kk
            have S9 := Lib.hid S9a.out.1
            clear S9a
            go_wp2_with (first | rw [hW9])
            go_loopw [16] (fun t wr => ∃ i : Nat, (i + 1 ≤ s.N ∨ i = 0) ∧ t = .int .i64 (i : Int) ∧ Hid (Below W9.heap.size W9 wr)) (fun t _ => s.N - (intOf t).toNat)
            case atStart => exact ⟨0, Or.inr rfl, rfl, Lib.hid (Below.refl _ _)⟩
            case round =>
              obtain ⟨i, hi3, rfl, HB⟩ := hrel
              have m4 : IntKind.i64.wrap ((i : Int) + 1) = (i : Int) + 1 := by rw [IntWalk.i64_in _ (by omega)]
              have S10 := Lib.hid (S9.out.below HB.out)
              obtain ⟨hx1, hx2, hx3⟩ := Kd.R_reads' S10.out.row.r
              have HX3 := Lib.hid hx3
              clear hx1 hx2 hx3
              by_cases hlt3 : i + 1 < s.N
              · have d2 : decide ((i : Int) + 1 < s.N) = true := decide_eq_true (by omega)
                rw [upto_len] at HX3
                obtain ⟨ad, e, X0⟩ := at44 (keepC HX3.out (Nat.le_refl _) (Below.refl wr.heap.size wr).drew) i (by omega)
                obtain ⟨ad2, e2, Y0⟩ := at44 (keepC HX3.out (Nat.le_refl _) (Below.refl wr.heap.size wr).drew) (i + 1) (by omega)
                obtain rfl : ad = ad2 := by rw [e] at e2; injection e2
                subst e
                rw [upto_get s (by omega)] at X0 Y0
                have hle3 := itm_le HR.out hlt3
                obtain ⟨a, ha⟩ : ∃ a, itm s i = a := ⟨_, rfl⟩
                obtain ⟨b, hb⟩ : ∃ b, itm s (i + 1) = b := ⟨_, rfl⟩
                rw [ha] at X0 hle3
                rw [hb] at Y0 hle3
                have HX := Lib.hid (And.intro X0 Y0)
                clear X0 Y0 ha hb e2
                have p0 : (0 ≤ (i : Int)) = True := by simp
                have p1 : ((i : Int) < s.N) = True := eq_true (by omega)
                have p2 : (0 ≤ (i : Int) + 1) = True := eq_true (by omega)
                have p3 : ((i : Int) + 1 < s.N) = True := eq_true (by omega)
                have p4 : (i < s.N) = True := eq_true (by omega)
                have p5 : (i + 1 < s.N) = True := eq_true (by omega)
                have C := refCompare_w a.f0 b.f0
                unfold kv42 at C
                simp only [refK_eq] at C
                have HK := Lib.hid C
                clear C
                go_wp2_with fail
                go_region_held3 (fun w' => (w'.cell? (ad.add (i * 4)) = some (.string a.f0.f0) ∧ w'.cell? ⟨(ad.add (i * 4)).block, (ad.add (i * 4)).off + 1, none⟩ = some (.int .u64 a.f0.f1) ∧ w'.cell? ⟨(ad.add (i * 4)).block, (ad.add (i * 4)).off + 2, none⟩ = some (.int .i64 a.f0.f2) ∧ w'.cell? ⟨(ad.add (i * 4)).block, (ad.add (i * 4)).off + 3, none⟩ = some (.string a.f1)) ∧ w'.cell? (ad.add ((i + 1) * 4)) = some (.string b.f0.f0) ∧ w'.cell? ⟨(ad.add ((i + 1) * 4)).block, (ad.add ((i + 1) * 4)).off + 1, none⟩ = some (.int .u64 b.f0.f1) ∧ w'.cell? ⟨(ad.add ((i + 1) * 4)).block, (ad.add ((i + 1) * 4)).off + 2, none⟩ = some (.int .i64 b.f0.f2) ∧ w'.cell? ⟨(ad.add ((i + 1) * 4)).block, (ad.add ((i + 1) * 4)).off + 3, none⟩ = some (.string b.f1)) (first | exact HX.out | exact HB2.out) (first | (go_at_call 41; refine Calls.mono (HK.out _) ?_; rintro e w1 ⟨rfl, hb1⟩; have HB2 := Lib.hid (And.intro (HX.out.1.below hb1) (HX.out.2.below hb1)); have HB1 := Lib.hid ((Below.refl wr.heap.size wr).drew.trans hb1); clear hb1))
                have HW := Lib.hid (HB.out.trans (HB1.out.mono HB.out.size))
                have d3 : decide (0 < cmpK a.f0 b.f0) = false := decide_eq_false (by omega)
                clear HB1 HX HK HB2
                go_wp2_with fail
                go_roundw
                case rel => exact ⟨i + 1, Or.inl (by omega), by simp, Lib.hid HW.out⟩
                case measure => simp [intOf]; omega
              · have d2 : decide ((i : Int) + 1 < s.N) = false := decide_eq_false (by omega)
                go_wp2_with fail
                refine (last_q S10.out.nw.it).mono ?_
                rintro e w11 ⟨rfl, g⟩
                obtain ⟨F11, S, _⟩ := S10.out.goes g
                have S11 := Lib.hid S
                have m5 : IntKind.i64.wrap ((s.N : Int) - 1) = (s.N : Int) - 1 := by rw [IntWalk.i64_in _ (by omega)]
                clear g S
                go_wp2_with fail
                go_loopw [17] (fun t wr => ∃ j : Nat, j ≤ s.N ∧ t = .int .i64 ((j : Int) - 1) ∧ Hid (∃ F, St w2 wr X s (prvQ (some j)) F (.slice Al s.N cl) (upto s s.N))) (fun t _ => (intOf t + 1).toNat)
                case atStart => exact ⟨s.N, Nat.le_refl _, rfl, Lib.hid ⟨F11, S11.out⟩⟩
                case round =>
                  obtain ⟨j, hj, rfl, HJ⟩ := hrel
                  obtain ⟨F12, S⟩ := HJ.out
                  have S12 := Lib.hid S
                  clear S HJ
                  rcases j with _ | k
                  · have d4 : decide ((0 : Int) ≤ ((0 : Nat) : Int) - 1) = false := by decide
                    go_wp2_with fail
                    refine (at_q S12.out.nw.it).mono ?_
                    rintro e w13 ⟨rfl, b⟩
                    have S13 := Lib.hid (S12.out.below b)
                    rw [show told s (prvQ (some 0)) = (PC.z44, false) from rfl]
                    simp only [val44]
                    go_wp2_with fail
                    go_ret
                    exact ⟨rfl, H2.out.2.2.trans (S13.out.nw.bel.mono H2.out.2.2.size)⟩
                  · have e1 : ((k + 1 : Nat) : Int) - 1 = (k : Int) := by omega
                    rw [e1]
                    have d4 : decide ((0 : Int) ≤ (k : Int)) = true := by simp
                    rw [prv_some] at S12
                    go_wp2_with fail
                    refine (at_q S12.out.nw.it).mono ?_
                    rintro e w13 ⟨rfl, b⟩
                    have S13 := Lib.hid (S12.out.below b)
                    clear b
                    obtain ⟨y2, hy⟩ : ∃ y, itm s k = y := ⟨_, rfl⟩
                    have Hy := Lib.hid hy
                    rw [show told s (some k) = (y2, true) from (by show (itm s k, true) = _; rw [hy])]
                    clear hy
                    simp only [val44]
                    obtain ⟨W14, hW14⟩ : ∃ W14, w13.alloc (.cells #[.string y2.f0.f0, .int .u64 y2.f0.f1, .int .i64 y2.f0.f2, .string y2.f1] 44) = W14 := ⟨_, rfl⟩
                    have bl : Below w13.heap.size w13 W14 := by rw [← hW14]; exact (Below.refl _ _).alloc (Nat.le_refl _) _
                    have kk := Kp.new S13.out.nw.it (obj y2)
                    rw [show w13.alloc (obj y2) = W14 from hW14] at kk
                    have S14 := Lib.hid (And.intro (S13.out.below bl) kk)
                    clear kk
                    obtain ⟨a0, a1, a2, a3⟩ := obj_cells S14.out.2.blk
                    obtain ⟨hx1, hx2, hx3⟩ := Kd.R_reads' S14.out.1.row.r
                    rw [upto_len] at hx3
                    obtain ⟨ad, e, X0⟩ := at44 hx3 k (by omega)
                    rw [upto_get s (by omega), Hy.out] at X0
                    obtain ⟨x0, x1, x2, x3⟩ := X0
                    subst e
                    have hE := eqB_self y2
                    have p0 : (0 ≤ (k : Int)) = True := by simp
                    have p1 : ((k : Int) < s.N) = True := eq_true (by omega)
                    have p4 : (k < s.N) = True := eq_true (by omega)
                    have m6 : IntKind.i64.wrap ((k : Int) - 1) = (k : Int) - 1 := by rw [IntWalk.i64_in _ (by omega)]
                    clear hx1 hx2 hx3
                    go_wp2_with (first | rw [hW14])
                    go_quiet (fail)
                    obtain ⟨W15, hW15⟩ : ∃ W15, W14.drewN nq = W15 := ⟨_, rfl⟩
                    have S15 := Lib.hid (S14.out.1.below (show Below W14.heap.size W14 W15 from by rw [← hW15]; exact ⟨rfl, rfl, rfl, Nat.le_refl _, fun _ _ => rfl⟩))
                    rw [hW15]
                    clear hW15 a0 a1 a2 a3 x0 x1 x2 x3 e1
                    go_wp2_with fail
                    refine (prev_q S15.out.nw.it).mono ?_
                    rintro e w16 ⟨rfl, g⟩
                    obtain ⟨F16, S, _⟩ := S15.out.goes g
                    have S16 := Lib.hid S
                    clear g S
                    go_wp2_with fail
                    go_roundw
                    case rel => exact ⟨k, by omega, rfl, Lib.hid ⟨F16, S16.out⟩⟩
                    case measure => simp [intOf]
end Go.Proofs.Ytehoojmalhloeaa.CM
