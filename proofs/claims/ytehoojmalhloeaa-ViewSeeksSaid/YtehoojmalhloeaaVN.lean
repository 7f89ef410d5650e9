/- ViewSeeks: the walk. No condition. -/
import Derived.Test.YtehoojmalhloeaaVQ
import Derived.Test.YtehoojmalhloeaaVF
namespace Go.Proofs.Ytehoojmalhloeaa.CM
open Go.RowKit Go.Proofs.YtehoojmalhloeaaW.PrintWords
set_option linter.unusedVariables false
set_option linter.unusedSimpArgs false
set_option maxRecDepth 100000
theorem rnk_le (L : List PC.S76) (u : List UInt8) : rnk L u ≤ L.length := (List.takeWhile_sublist _).length_le
theorem rnk_lt {L : List PC.S76} {u : List UInt8} (n : Nat) (y : PC.S76) (hy : L[n]? = some y) (h : n < rnk L u) : Op.bytesLess y.f0.toList u = true := by
  unfold rnk at h
  have hm : (L.takeWhile (fun y => Op.bytesLess y.f0.toList u))[n]? = L[n]? := by
    obtain ⟨t, ht⟩ := List.takeWhile_prefix (l := L) (fun y : PC.S76 => Op.bytesLess y.f0.toList u)
    conv => rhs; rw [← ht]
    rw [List.getElem?_append_left h]
  rw [hy] at hm
  have := List.mem_of_getElem? hm
  exact List.all_eq_true.1 (List.all_takeWhile (p := fun y : PC.S76 => Op.bytesLess y.f0.toList u) (l := L)) y this
theorem rnk_stop {L : List PC.S76} {u : List UInt8} (y : PC.S76) (hy : L[rnk L u]? = some y) : Op.bytesLess y.f0.toList u = false := by
  induction L with
  | nil => cases hy
  | cons x t ih =>
    have e : rnk (x :: t) u = if Op.bytesLess x.f0.toList u = true then rnk t u + 1 else 0 := by
      unfold rnk
      rw [List.takeWhile_cons]
      split <;> simp
    rw [e] at hy
    by_cases h : Op.bytesLess x.f0.toList u = true
    · rw [if_pos h] at hy
      exact ih (by simpa using hy)
    · rw [if_neg h] at hy
      obtain rfl : x = y := by simpa using hy
      simpa using h
attribute [local go_sem high] eqV76
set_option maxHeartbeats 16000000 in
theorem viewSeeks_w (A : Option Addr) (c : Nat) (L : List (List PC.S44)) (seq : Int) (user : ByteArray) (w : World) (hr : Kd.C (Kd.slice 44 PC.k44) w A L.length L) (hc : L.length ≤ c) (hF : ∀ l ∈ L, ∀ x ∈ l, Fits x) :
    Calls Try.prog 18 #[.slice A L.length c, .int .u64 seq, .string user] w fun e w' => e = .returned (.bool true) ∧ Below w.heap.size w w' := by
  have HA := Lib.hid (And.intro hr hc)
  have HF := Lib.hid (fits_cut hF)
  clear hr hc hF
  go_enter Try.func18, Try.ntmps18
  go_wp2_with fail
  refine (awake17_w w).mono ?_
  rintro e w1 ⟨rfl, b⟩
  have H1 := Lib.hid (And.intro (keepC HA.out.1 (Nat.le_refl _) b) b)
  clear b
  go_wp2_with fail
  refine (few17_w A c L w1 H1.out.1 HA.out.2).mono ?_
  rintro e w2 ⟨A2, c2, rfl, h1, h2, h3⟩
  have hD1 := cut16_len L
  have hD2 := cut16_row L
  obtain ⟨D, hD⟩ : ∃ D, cut16 L = D := ⟨_, rfl⟩
  rw [hD] at h1 h2 hD1 hD2 HF ⊢
  have H2 := Lib.hid (And.intro h2 (And.intro hD2 (H1.out.2.trans (h3.mono H1.out.2.size))))
  have HN := Lib.hid (vnew_w A2 c2 D seq w2 h2 (by omega) (fun j _ => by have := hD2 j; omega))
  clear h1 h2 h3 hD2 hD
  go_wp2_with fail
  refine HN.out.mono ?_
  rintro e w3 (⟨rfl, _, b⟩ | ⟨V, X, s, G, rfl, hris, hL, hV, hG, b⟩)
  · have H3 := Lib.hid (H2.out.2.2.trans (b.mono H2.out.2.2.size))
    clear b
    go_wp2_with fail
    go_ret
    exact ⟨rfl, H3.out⟩
  · have HT := Lib.hid (N_of hL)
    have HK := Lib.hid (fk_upto hL HF.out)
    have HV := Lib.hid hV
    have HG := Lib.hid (And.intro hG b)
    have HC2 := Lib.hid (keepC H2.out.1 (Nat.le_refl _) b)
    have hNb : s.N ≤ 8000 := by
      rw [HT.out]
      have := tot_bound (fun j => (D.getD j []).length) 200 D.length (fun j _ => H2.out.2.1 j)
      omega
    have hSb := seen_len s seq
    clear hV hG b hris hL HN
    go_wp2_with fail
    go_loop [10, 11] (fun a t => ∃ n : Nat, n ≤ D.length ∧ t = .int .i64 (n : Int) ∧ a = .int .i64 (tot (fun j => (D.getD j []).length) n : Nat)) (fun _ t => D.length - (intOf t).toNat)
    case atStart => exact ⟨0, by omega, rfl, rfl⟩
    case round =>
      obtain ⟨n, hn, rfl, rfl⟩ := hrel
      have m1 : IntKind.i64.wrap ((n : Int) + 1) = (n : Int) + 1 := by rw [IntWalk.i64_in _ (by omega)]
      by_cases hlt : n < D.length
      · have hltz : (n : Int) < D.length := by omega
        obtain ⟨ad, A0, c0, e0, g0, g1, g2⟩ := PC.at_L6 HC2.out (n : Int) (by omega) (by omega)
        obtain ⟨l, hlD⟩ : ∃ l, PC.rd_L6 D (n : Int) = l := ⟨_, rfl⟩
        rw [hlD] at g0 g1 g2
        simp only [Int.toNat_natCast] at g0
        have hlD' : D.getD n [] = l := by rw [← hlD]; simp [PC.rd_L6]
        have hll : l.length ≤ 200 := by rw [← hlD']; exact H2.out.2.1 n
        have hte : tot (fun j => (D.getD j []).length) (n + 1) = tot (fun j => (D.getD j []).length) n + l.length := by show _ + (D.getD n []).length = _; rw [hlD']
        have htb := tot_bound (fun j => (D.getD j []).length) 200 n (fun j _ => H2.out.2.1 j)
        have Hte := Lib.hid hte
        obtain ⟨t, ht⟩ : ∃ t, tot (fun j => (D.getD j []).length) n = t := ⟨_, rfl⟩
        rw [ht] at Hte htb ⊢
        have m2 : IntKind.i64.wrap ((t : Int) + (l.length : Int)) = ((t + l.length : Nat) : Int) := by rw [IntWalk.i64_in _ (by omega)]; omega
        subst e0
        have p0 : ((n : Int) < D.length) = True := eq_true hltz
        have p1 : (0 ≤ (n : Int)) = True := by simp
        have p2 : (n < D.length) = True := eq_true hlt
        clear hlD hlD' hll hte htb ht g1 g2
        go_wp2_with fail
        go_round
        case rel => exact ⟨n + 1, by omega, by simp, by rw [Hte.out]; simp⟩
        case measure => simp [intOf]; omega
      · obtain rfl : n = D.length := by omega
        have hltz : decide ((D.length : Int) < (D.length : Int)) = false := decide_eq_false (by omega)
        rw [← HT.out]
        go_wp2_with fail
        have HQ := Lib.hid (all_w HV.out HK.out s.N hSb (by omega))
        have HP := Lib.hid (seen_pw (vi_ris HV.out) seq)
        obtain ⟨Q, hQ⟩ : ∃ Q, seen s seq = Q := ⟨_, rfl⟩
        rw [hQ] at HQ HP hSb
        have HQE := Lib.hid hQ
        clear hQ
        refine HQ.out.mono ?_
        rintro e w4 ⟨Al, cl, G4, rfl, S⟩
        have S4 := Lib.hid S
        clear S HQ
        obtain ⟨r, hr⟩ : ∃ r, rnk Q user.toList = r := ⟨_, rfl⟩
        have hrl : r ≤ Q.length := by rw [← hr]; exact rnk_le _ _
        have HR := Lib.hid hr
        have HRL : ∀ n y, Q[n]? = some y → n < r → Op.bytesLess y.f0.toList user.toList = true := by rw [← hr]; exact rnk_lt
        have HRE : ∀ y, Q[r]? = some y → Op.bytesLess y.f0.toList user.toList = false := by rw [← hr]; exact rnk_stop
        have HRR := Lib.hid (And.intro HRL HRE)
        clear hr HRL HRE
        go_wp2_with fail
        go_loop [14] (fun t => ∃ n : Nat, n ≤ r ∧ t = .int .i64 (n : Int)) (fun t => r - (intOf t).toNat)
        case atStart => exact ⟨0, by omega, rfl⟩
        case round =>
          obtain ⟨n, hn, rfl⟩ := hrel
          have m3 : IntKind.i64.wrap ((n : Int) + 1) = (n : Int) + 1 := by rw [IntWalk.i64_in _ (by omega)]
          have p0 : (0 ≤ (n : Int)) = True := by simp
          by_cases hlt : n < r
          · obtain ⟨y, hyy⟩ : ∃ y, Q[n] = y := ⟨_, rfl⟩
            have hy : Q[n]? = some y := by rw [← hyy]; exact List.getElem?_eq_getElem (by omega)
            have hL := HRR.out.1 n y hy hlt
            obtain ⟨hx1, hx2, hx3⟩ := Kd.R_reads' S4.out.2.2.2.r
            obtain ⟨ad, e, x0, x1⟩ := PC.at_T76 hx3 ((n : Nat) : Int) (by omega) (by omega)
            rw [show PC.rd_T76 Q ((n : Nat) : Int) = y from by unfold PC.rd_T76; rw [Int.toNat_natCast, List.getD_eq_getElem?_getD, hy]; rfl, Int.toNat_natCast] at x0 x1
            subst e
            have d0 : decide ((n : Int) < (Q.length : Int)) = true := decide_eq_true (by omega)
            have p1 : ((n : Int) < Q.length) = True := eq_true (by omega)
            have p4 : (n < Q.length) = True := eq_true (by omega)
            clear hx1 hx2 hx3 hy hyy x1
            go_wp2_with fail
            go_round
            case rel => exact ⟨n + 1, by omega, by simp⟩
            case measure => simp [intOf]; omega
          · obtain rfl : n = r := by omega
            by_cases hrN : n < Q.length
            · obtain ⟨y, hyy⟩ : ∃ y, Q[n] = y := ⟨_, rfl⟩
              have hy : Q[n]? = some y := by rw [← hyy]; exact List.getElem?_eq_getElem (by omega)
              have Hy := Lib.hid hy
              have hL := HRR.out.2 y hy
              obtain ⟨hx1, hx2, hx3⟩ := Kd.R_reads' S4.out.2.2.2.r
              obtain ⟨ad, e, x0, x1⟩ := PC.at_T76 hx3 ((n : Nat) : Int) (by omega) (by omega)
              rw [show PC.rd_T76 Q ((n : Nat) : Int) = y from by unfold PC.rd_T76; rw [Int.toNat_natCast, List.getD_eq_getElem?_getD, hy]; rfl, Int.toNat_natCast] at x0 x1
              have HE := Lib.hid e
              subst e
              have d0 : decide ((n : Int) < (Q.length : Int)) = true := decide_eq_true (by omega)
              have d1 : decide (n < Q.length) = true := decide_eq_true hrN
              have p1 : ((n : Int) < Q.length) = True := eq_true (by omega)
              have p4 : (n < Q.length) = True := eq_true (by omega)
              clear hx1 hx2 hx3 hy hyy x1
              go_wp2_with fail
              refine (pseek_w S4.out.1 HK.out user).mono ?_
              rintro e w5 ⟨rfl, g⟩
              rw [HQE.out, HR.out, Hy.out] at g
              obtain ⟨G5, S⟩ := S4.out.go g
              have S5 := Lib.hid S
              clear g S x0 hL
              go_wp2_with fail
              refine (vat_w S5.out.1).mono ?_
              rintro e w6 ⟨rfl, b⟩
              have S6 := Lib.hid (S5.out.below b)
              clear b
              simp only [toldV, val76]
              obtain ⟨W7, hW7⟩ : ∃ W7, w6.alloc (.cells #[.string y.f0, .string y.f1] 76) = W7 := ⟨_, rfl⟩
              have bl : Below w6.heap.size w6 W7 := by rw [← hW7]; exact (Below.refl _ _).alloc (Nat.le_refl _) _
              have S6 := Lib.hid (S6.out.below bl)
              have kb0 : W7.heap[w6.heap.size]? = some (.cells #[.string y.f0, .string y.f1] 76 (0, 0)) := by rw [← hW7]; exact World.alloc_heap_new w6 _
              have b0 : W7.cell? ⟨w6.heap.size, 0, none⟩ = some (.string y.f0) := by simp [World.cell?, kb0]
              have b0' : W7.cell? ⟨w6.heap.size, 1, none⟩ = some (.string y.f1) := by simp [World.cell?, kb0]
              clear bl kb0
              obtain ⟨hx1, hx2, hx3⟩ := Kd.R_reads' S6.out.2.2.2.r
              obtain ⟨ad2, e, x0, x1⟩ := PC.at_T76 hx3 ((n : Nat) : Int) (by omega) (by omega)
              rw [show PC.rd_T76 Q ((n : Nat) : Int) = y from by unfold PC.rd_T76; rw [Int.toNat_natCast, List.getD_eq_getElem?_getD, Hy.out]; rfl, Int.toNat_natCast] at x0 x1
              obtain rfl : ad = ad2 := by injection e
              clear e hx1 hx2 hx3
              have hE := eqI_self y
              go_wp2_with (first | rw [hW7])
              go_quiet (fail)
              obtain ⟨W8, hW8⟩ : ∃ W8, W7.drewN nq = W8 := ⟨_, rfl⟩
              have S6 := Lib.hid (S6.out.below (show Below W7.heap.size W7 W8 from by rw [← hW8]; exact ⟨rfl, rfl, rfl, Nat.le_refl _, fun _ _ => rfl⟩))
              rw [hW8]
              clear hW8 b0 b0' x0 x1
              go_wp2_with fail
              have hn2 := S6.out.1
              rw [← Hy.out, ← HQE.out] at hn2
              refine (pprev_w hn2 HK.out (by rw [HQE.out]; omega)).mono ?_
              rintro e w9 ⟨rfl, g⟩
              rw [HQE.out] at g
              obtain ⟨G9, S⟩ := S6.out.go g
              have S9 := Lib.hid S
              clear hn2 g S
              go_wp2_with fail
              refine (vat_w S9.out.1).mono ?_
              rintro e w10 ⟨rfl, b⟩
              have S10 := Lib.hid (S9.out.below b)
              clear b
              rcases n with _ | k
              · simp only [prvI, toldV, val76]
                obtain ⟨z, hz⟩ : ∃ z, zi = z := ⟨_, rfl⟩
                rw [hz]
                clear hz
                obtain ⟨W11, hW11⟩ : ∃ W11, w10.alloc (.cells #[.string z.f0, .string z.f1] 76) = W11 := ⟨_, rfl⟩
                have bl : Below w10.heap.size w10 W11 := by rw [← hW11]; exact (Below.refl _ _).alloc (Nat.le_refl _) _
                have S10 := Lib.hid (S10.out.below bl)
                have kb1 : W11.heap[w10.heap.size]? = some (.cells #[.string z.f0, .string z.f1] 76 (0, 0)) := by rw [← hW11]; exact World.alloc_heap_new w10 _
                have b1 : W11.cell? ⟨w10.heap.size, 0, none⟩ = some (.string z.f0) := by simp [World.cell?, kb1]
                have b1' : W11.cell? ⟨w10.heap.size, 1, none⟩ = some (.string z.f1) := by simp [World.cell?, kb1]
                clear bl kb1
                have d5 : decide ((0 : Int) < ((0 : Nat) : Int)) = false := by decide
                go_wp2_with (first | rw [hW11])
                go_quiet (fail)
                obtain ⟨W12, hW12⟩ : ∃ W12, W11.drewN nq = W12 := ⟨_, rfl⟩
                have S10 := Lib.hid (S10.out.below (show Below W11.heap.size W11 W12 from by rw [← hW12]; exact ⟨rfl, rfl, rfl, Nat.le_refl _, fun _ _ => rfl⟩))
                rw [hW12]
                clear hW12 b1 b1'
                go_wp2_with fail
                go_ret
                exact ⟨rfl, H2.out.2.2.trans ((HG.out.2.trans ((S10.out.2.1.to_below HG.out.2.size HG.out.1))).mono H2.out.2.2.size)⟩
              · obtain ⟨x, hxx⟩ : ∃ x, Q[k] = x := ⟨_, rfl⟩
                have hx : Q[k]? = some x := by rw [← hxx]; exact List.getElem?_eq_getElem (by omega)
                rw [show prvI Q (k + 1) = some x from hx]
                have Hx := Lib.hid hx
                clear hx hxx
                simp only [toldV, val76]
                have d5 : decide ((0 : Int) < ((k + 1 : Nat) : Int)) = true := decide_eq_true (by omega)
                have e5 : ((k + 1 : Nat) : Int) - 1 = (k : Int) := by omega
                have m5 : IntKind.i64.wrap (((k + 1 : Nat) : Int) - 1) = (k : Int) := by rw [IntWalk.i64_in _ (by omega)]; omega
                have q0 : (0 ≤ (k : Int)) = True := by simp
                have q1 : ((k : Int) < Q.length) = True := eq_true (by omega)
                have q4 : (k < Q.length) = True := eq_true (by omega)
                obtain ⟨W11, hW11⟩ : ∃ W11, w10.alloc (.cells #[.string x.f0, .string x.f1] 76) = W11 := ⟨_, rfl⟩
                have bl : Below w10.heap.size w10 W11 := by rw [← hW11]; exact (Below.refl _ _).alloc (Nat.le_refl _) _
                have S10 := Lib.hid (S10.out.below bl)
                have kb1 : W11.heap[w10.heap.size]? = some (.cells #[.string x.f0, .string x.f1] 76 (0, 0)) := by rw [← hW11]; exact World.alloc_heap_new w10 _
                have b1 : W11.cell? ⟨w10.heap.size, 0, none⟩ = some (.string x.f0) := by simp [World.cell?, kb1]
                have b1' : W11.cell? ⟨w10.heap.size, 1, none⟩ = some (.string x.f1) := by simp [World.cell?, kb1]
                clear bl kb1
                obtain ⟨hx1, hx2, hx3⟩ := Kd.R_reads' S10.out.2.2.2.r
                obtain ⟨ad2, e, x0, x1⟩ := PC.at_T76 hx3 ((k : Nat) : Int) (by omega) (by omega)
                rw [show PC.rd_T76 Q ((k : Nat) : Int) = x from by unfold PC.rd_T76; rw [Int.toNat_natCast, List.getD_eq_getElem?_getD, Hx.out]; rfl, Int.toNat_natCast] at x0 x1
                obtain rfl : ad = ad2 := by injection e
                clear e hx1 hx2 hx3
                have hE2 := eqI_self x
                go_wp2_with (first | rw [hW11])
                go_quiet (fail)
                obtain ⟨W12, hW12⟩ : ∃ W12, W11.drewN nq = W12 := ⟨_, rfl⟩
                have S10 := Lib.hid (S10.out.below (show Below W11.heap.size W11 W12 from by rw [← hW12]; exact ⟨rfl, rfl, rfl, Nat.le_refl _, fun _ _ => rfl⟩))
                rw [hW12]
                clear hW12 b1 b1' x0 x1
                go_wp2_with fail
                go_ret
                exact ⟨rfl, H2.out.2.2.trans ((HG.out.2.trans ((S10.out.2.1.to_below HG.out.2.size HG.out.1))).mono H2.out.2.2.size)⟩
            · obtain rfl : n = Q.length := by omega
              have d0 : decide ((Q.length : Int) < (Q.length : Int)) = false := decide_eq_false (by omega)
              have hno : Q[Q.length]? = none := List.getElem?_eq_none (Nat.le_refl _)
              have Hno := Lib.hid hno
              clear hno
              go_wp2_with fail
              refine (pseek_w S4.out.1 HK.out user).mono ?_
              rintro e w5 ⟨rfl, g⟩
              rw [HQE.out, HR.out, Hno.out] at g
              obtain ⟨G5, S⟩ := S4.out.go g
              have S5 := Lib.hid S
              clear g S
              go_wp2_with fail
              refine (vat_w S5.out.1).mono ?_
              rintro e w6 ⟨rfl, b⟩
              have S6 := Lib.hid (S5.out.below b)
              clear b
              simp only [toldV, val76]
              obtain ⟨y, hz⟩ : ∃ z, zi = z := ⟨_, rfl⟩
              rw [hz]
              clear hz
              obtain ⟨W7, hW7⟩ : ∃ W7, w6.alloc (.cells #[.string y.f0, .string y.f1] 76) = W7 := ⟨_, rfl⟩
              have bl : Below w6.heap.size w6 W7 := by rw [← hW7]; exact (Below.refl _ _).alloc (Nat.le_refl _) _
              have S6 := Lib.hid (S6.out.below bl)
              have kb0 : W7.heap[w6.heap.size]? = some (.cells #[.string y.f0, .string y.f1] 76 (0, 0)) := by rw [← hW7]; exact World.alloc_heap_new w6 _
              have b0 : W7.cell? ⟨w6.heap.size, 0, none⟩ = some (.string y.f0) := by simp [World.cell?, kb0]
              have b0' : W7.cell? ⟨w6.heap.size, 1, none⟩ = some (.string y.f1) := by simp [World.cell?, kb0]
              clear bl kb0
              go_wp2_with (first | rw [hW7])
              go_quiet (fail)
              obtain ⟨W8, hW8⟩ : ∃ W8, W7.drewN nq = W8 := ⟨_, rfl⟩
              have S6 := Lib.hid (S6.out.below (show Below W7.heap.size W7 W8 from by rw [← hW8]; exact ⟨rfl, rfl, rfl, Nat.le_refl _, fun _ _ => rfl⟩))
              rw [hW8]
              clear hW8 b0 b0'
              go_wp2_with fail
              refine (pprev_none S6.out.1).mono ?_
              rintro e w9 ⟨rfl, g⟩
              obtain ⟨G9, S⟩ := S6.out.go g
              have S9 := Lib.hid S
              clear g S
              go_wp2_with fail
              refine (vat_w S9.out.1).mono ?_
              rintro e w10 ⟨rfl, b⟩
              have S10 := Lib.hid (S9.out.below b)
              clear b
              simp only [toldV, val76]
              obtain ⟨z, hz⟩ : ∃ z, zi = z := ⟨_, rfl⟩
              rw [hz]
              clear hz
              obtain ⟨W11, hW11⟩ : ∃ W11, w10.alloc (.cells #[.string z.f0, .string z.f1] 76) = W11 := ⟨_, rfl⟩
              have bl : Below w10.heap.size w10 W11 := by rw [← hW11]; exact (Below.refl _ _).alloc (Nat.le_refl _) _
              have S10 := Lib.hid (S10.out.below bl)
              have kb1 : W11.heap[w10.heap.size]? = some (.cells #[.string z.f0, .string z.f1] 76 (0, 0)) := by rw [← hW11]; exact World.alloc_heap_new w10 _
              have b1 : W11.cell? ⟨w10.heap.size, 0, none⟩ = some (.string z.f0) := by simp [World.cell?, kb1]
              have b1' : W11.cell? ⟨w10.heap.size, 1, none⟩ = some (.string z.f1) := by simp [World.cell?, kb1]
              clear bl kb1
              go_wp2_with (first | rw [hW11])
              go_quiet (fail)
              obtain ⟨W12, hW12⟩ : ∃ W12, W11.drewN nq = W12 := ⟨_, rfl⟩
              have S10 := Lib.hid (S10.out.below (show Below W11.heap.size W11 W12 from by rw [← hW12]; exact ⟨rfl, rfl, rfl, Nat.le_refl _, fun _ _ => rfl⟩))
              rw [hW12]
              clear hW12 b1 b1'
              go_wp2_with fail
              go_ret
              exact ⟨rfl, H2.out.2.2.trans ((HG.out.2.trans ((S10.out.2.1.to_below HG.out.2.size HG.out.1))).mono H2.out.2.2.size)⟩
theorem viewSeeks_row (a0 : Option Addr) (len0 cap0 : Nat) (seq : Int) (user : ByteArray) (w : World)
    (F0 : ∃ A len cap xs, Value.slice a0 len0 cap0 = .slice A len cap ∧ Kd.C (Kd.slice 44 PC.k44) w A len xs ∧ len ≤ cap ∧ len * 24 ≤ 140737488351232 ∧ (∀ p ∈ xs, p.length * 48 ≤ 140737488351232 ∧ ∀ y ∈ p, Fits y) ∧ (A = none → cap = 0))
    (hq : (Lit.int .u64 seq).wf = true) {p0 : Prop} (_ : p0) :
    Calls Try.prog 18 #[.slice a0 len0 cap0, .int .u64 seq, .string user] w fun e w' => e = .returned (.bool true) ∧ Below w.heap.size w w' := by
  obtain ⟨A, len, cap, xs, hv, h1, h2, _, h4, _⟩ := F0
  cases hv
  obtain rfl : len0 = xs.length := h1.1.symm
  exact viewSeeks_w _ _ _ seq user w h1 h2 (fun l hl x hx => (h4 l hl).2 x hx)
end Go.Proofs.Ytehoojmalhloeaa.CM
