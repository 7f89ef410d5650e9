/- ViewTurns: the walk. No condition. -/
import Derived.Test.YtehoojmalhloeaaVQ
import Derived.Test.YtehoojmalhloeaaVF
namespace Go.Proofs.Ytehoojmalhloeaa.CM
open Go.RowKit Go.Proofs.YtehoojmalhloeaaW.PrintWords
set_option linter.unusedVariables false
set_option linter.unusedSimpArgs false
set_option maxRecDepth 100000
attribute [local go_sem high] eqV76
set_option maxHeartbeats 16000000 in
theorem viewTurns_w (A : Option Addr) (c : Nat) (L : List (List PC.S44)) (seq : Int) (w : World) (hr : Kd.C (Kd.slice 44 PC.k44) w A L.length L) (hc : L.length ≤ c) (hF : ∀ l ∈ L, ∀ x ∈ l, Fits x) :
    Calls Try.prog 19 #[.slice A L.length c, .int .u64 seq] w fun e w' => e = .returned (.bool true) ∧ Below w.heap.size w w' := by
  have HA := Lib.hid (And.intro hr hc)
  have HF := Lib.hid (fits_cut hF)
  clear hr hc hF
  go_enter Try.func19, Try.ntmps19
  go_wp2_with fail
  refine (awake17_w w).mono ?_
  rintro e w1 ⟨rfl, b⟩
  have H1 := Lib.hid (And.intro (keepC HA.out.1 (Nat.le_refl _) b) b)
  clear b
  go_wp2_with fail
  refine (few17_w A c L w1 H1.out.1 HA.out.2).mono ?_
  rintro e w2 ⟨A2, c2, rfl, h1, h2, h3⟩
  have hD1 := cut16_len L
  have hD2 := cut16_row L
  obtain ⟨D, hD⟩ : ∃ D, cut16 L = D := ⟨_, rfl⟩
  rw [hD] at h1 h2 hD1 hD2 HF ⊢
  have H2 := Lib.hid (And.intro h2 (And.intro hD2 (H1.out.2.trans (h3.mono H1.out.2.size))))
  have HN := Lib.hid (vnew_w A2 c2 D seq w2 h2 (by omega) (fun j _ => by have := hD2 j; omega))
  clear h1 h2 h3 hD2 hD
  go_wp2_with fail
  refine HN.out.mono ?_
  rintro e w3 (⟨rfl, _, b⟩ | ⟨V, X, s, G, rfl, hris, hL, hV, hG, b⟩)
  · have H3 := Lib.hid (H2.out.2.2.trans (b.mono H2.out.2.2.size))
    clear b
    go_wp2_with fail
    go_ret
    exact ⟨rfl, H3.out⟩
  · have HT := Lib.hid (N_of hL)
    have HK := Lib.hid (fk_upto hL HF.out)
    have HV := Lib.hid hV
    have HG := Lib.hid (And.intro hG b)
    have HC2 := Lib.hid (keepC H2.out.1 (Nat.le_refl _) b)
    have hNb : s.N ≤ 8000 := by
      rw [HT.out]
      have := tot_bound (fun j => (D.getD j []).length) 200 D.length (fun j _ => H2.out.2.1 j)
      omega
    have hSb := seen_len s seq
    clear hV hG b hris hL HN
    go_wp2_with fail
    go_loop [8, 9] (fun a t => ∃ n : Nat, n ≤ D.length ∧ t = .int .i64 (n : Int) ∧ a = .int .i64 (tot (fun j => (D.getD j []).length) n : Nat)) (fun _ t => D.length - (intOf t).toNat)
    case atStart => exact ⟨0, by omega, rfl, rfl⟩
    case round =>
      obtain ⟨n, hn, rfl, rfl⟩ := hrel
      have m1 : IntKind.i64.wrap ((n : Int) + 1) = (n : Int) + 1 := by rw [IntWalk.i64_in _ (by omega)]
      by_cases hlt : n < D.length
      · have hltz : (n : Int) < D.length := by omega
        obtain ⟨ad, A0, c0, e0, g0, g1, g2⟩ := PC.at_L6 HC2.out (n : Int) (by omega) (by omega)
        obtain ⟨l, hlD⟩ : ∃ l, PC.rd_L6 D (n : Int) = l := ⟨_, rfl⟩
        rw [hlD] at g0 g1 g2
        simp only [Int.toNat_natCast] at g0
        have hlD' : D.getD n [] = l := by rw [← hlD]; simp [PC.rd_L6]
        have hll : l.length ≤ 200 := by rw [← hlD']; exact H2.out.2.1 n
        have hte : tot (fun j => (D.getD j []).length) (n + 1) = tot (fun j => (D.getD j []).length) n + l.length := by show _ + (D.getD n []).length = _; rw [hlD']
        have htb := tot_bound (fun j => (D.getD j []).length) 200 n (fun j _ => H2.out.2.1 j)
        have Hte := Lib.hid hte
        obtain ⟨t, ht⟩ : ∃ t, tot (fun j => (D.getD j []).length) n = t := ⟨_, rfl⟩
        rw [ht] at Hte htb ⊢
        have m2 : IntKind.i64.wrap ((t : Int) + (l.length : Int)) = ((t + l.length : Nat) : Int) := by rw [IntWalk.i64_in _ (by omega)]; omega
        subst e0
        have p0 : ((n : Int) < D.length) = True := eq_true hltz
        have p1 : (0 ≤ (n : Int)) = True := by simp
        have p2 : (n < D.length) = True := eq_true hlt
        clear hlD hlD' hll hte htb ht g1 g2
        go_wp2_with fail
        go_round
        case rel => exact ⟨n + 1, by omega, by simp, by rw [Hte.out]; simp⟩
        case measure => simp [intOf]; omega
      · obtain rfl : n = D.length := by omega
        have hltz : decide ((D.length : Int) < (D.length : Int)) = false := decide_eq_false (by omega)
        rw [← HT.out]
        go_wp2_with fail
        have HQ := Lib.hid (all_w HV.out HK.out s.N hSb (by omega))
        have HP := Lib.hid (seen_pw (vi_ris HV.out) seq)
        obtain ⟨Q, hQ⟩ : ∃ Q, seen s seq = Q := ⟨_, rfl⟩
        rw [hQ] at HQ HP hSb
        have HQE := Lib.hid hQ
        clear hQ
        refine HQ.out.mono ?_
        rintro e w4 ⟨Al, cl, G4, rfl, S⟩
        have S4 := Lib.hid S
        clear S HQ
        go_wp2_with fail
        refine (plast_w S4.out.1).mono ?_
        rintro e w5 ⟨rfl, g⟩
        rw [HQE.out, show Q.getLast? = prvI Q Q.length from by
          cases Q with
          | nil => rfl
          | cons y t => rw [List.getLast?_eq_getElem?]; rfl] at g
        obtain ⟨G5, S⟩ := S4.out.go g
        have S5 := Lib.hid S
        clear g S
        have m5 : IntKind.i64.wrap ((Q.length : Int) - 1) = (Q.length : Int) - 1 := by rw [IntWalk.i64_in _ (by omega)]
        go_wp2_with fail
        go_loopw [12] (fun t wr => ∃ j : Nat, j ≤ Q.length ∧ t = .int .i64 ((j : Int) - 1) ∧ Hid (∃ G', AllS w3 V X s seq G (prvI Q j) G' (.slice Al Q.length cl) Q wr)) (fun t _ => (intOf t + 1).toNat)
        case atStart => exact ⟨Q.length, Nat.le_refl _, rfl, Lib.hid ⟨G5, S5.out⟩⟩
        case round =>
          obtain ⟨j, hj, rfl, HJ⟩ := hrel
          obtain ⟨G6, S⟩ := HJ.out
          have S6 := Lib.hid S
          clear S HJ
          rcases j with _ | k
          · have d4 : decide ((0 : Int) ≤ ((0 : Nat) : Int) - 1) = false := by decide
            go_wp2_with fail
            refine (vat_w S6.out.1).mono ?_
            rintro e w7 ⟨rfl, b⟩
            have S7 := Lib.hid (S6.out.below b)
            simp only [prvI, toldV, val76]
            obtain ⟨z, hz⟩ : ∃ z, zi = z := ⟨_, rfl⟩
            rw [hz]
            clear hz b
            obtain ⟨W8, hW8⟩ : ∃ W8, w7.alloc (.cells #[.string z.f0, .string z.f1] 76) = W8 := ⟨_, rfl⟩
            have bl : Below w7.heap.size w7 W8 := by rw [← hW8]; exact (Below.refl _ _).alloc (Nat.le_refl _) _
            have S8 := Lib.hid (S7.out.below bl)
            clear bl
            go_wp2_with (first | rw [hW8])
            go_ret
            refine ⟨rfl, H2.out.2.2.trans ((HG.out.2.trans ((S8.out.2.1.to_below HG.out.2.size HG.out.1))).mono H2.out.2.2.size)⟩
          · have e1 : ((k + 1 : Nat) : Int) - 1 = (k : Int) := by omega
            rw [e1]
            have d4 : decide ((0 : Int) ≤ (k : Int)) = true := by simp
            obtain ⟨y, hyy⟩ : ∃ y, Q[k] = y := ⟨_, rfl⟩
            have hy : Q[k]? = some y := by rw [← hyy]; exact List.getElem?_eq_getElem (by omega)
            have Hy := Lib.hid hy
            have hpk : prvI Q (k + 1) = some y := hy
            rw [hpk] at S6
            go_wp2_with fail
            refine (vat_w S6.out.1).mono ?_
            rintro e w7 ⟨rfl, b⟩
            have S7 := Lib.hid (S6.out.below b)
            clear b hyy hy hpk
            simp only [toldV, val76]
            obtain ⟨W8, hW8⟩ : ∃ W8, w7.alloc (.cells #[.string y.f0, .string y.f1] 76) = W8 := ⟨_, rfl⟩
            have bl : Below w7.heap.size w7 W8 := by rw [← hW8]; exact (Below.refl _ _).alloc (Nat.le_refl _) _
            have S8 := Lib.hid (S7.out.below bl)
            have kb : W8.heap[w7.heap.size]? = some (.cells #[.string y.f0, .string y.f1] 76 (0, 0)) := by rw [← hW8]; exact World.alloc_heap_new w7 _
            have b0 : W8.cell? ⟨w7.heap.size, 0, none⟩ = some (.string y.f0) := by simp [World.cell?, kb]
            have b1 : W8.cell? ⟨w7.heap.size, 1, none⟩ = some (.string y.f1) := by simp [World.cell?, kb]
            obtain ⟨hx1, hx2, hx3⟩ := Kd.R_reads' S8.out.2.2.2.r
            obtain ⟨ad, e, x0, x1⟩ := PC.at_T76 hx3 (k : Int) (by omega) (by omega)
            rw [show PC.rd_T76 Q (k : Int) = y from by unfold PC.rd_T76; rw [Int.toNat_natCast, List.getD_eq_getElem?_getD, Hy.out]; rfl, Int.toNat_natCast] at x0 x1
            subst e
            have hE := eqI_self y
            have p0 : (0 ≤ (k : Int)) = True := by simp
            have p1 : ((k : Int) < Q.length) = True := eq_true (by omega)
            have p4 : (k < Q.length) = True := eq_true (by omega)
            have m6 : IntKind.i64.wrap ((k : Int) - 1) = (k : Int) - 1 := by rw [IntWalk.i64_in _ (by omega)]
            clear hx1 hx2 hx3 kb bl
            go_wp2_with (first | rw [hW8])
            go_quiet (fail)
            obtain ⟨W9, hW9⟩ : ∃ W9, W8.drewN nq = W9 := ⟨_, rfl⟩
            have S9 := Lib.hid (S8.out.below (show Below W8.heap.size W8 W9 from by rw [← hW9]; exact ⟨rfl, rfl, rfl, Nat.le_refl _, fun _ _ => rfl⟩))
            rw [hW9]
            clear hW9 b0 b1 x0 x1 e1
            go_wp2_with fail
            have hn := S9.out.1
            rw [← Hy.out, ← HQE.out] at hn
            refine (pprev_w hn HK.out (by rw [HQE.out]; omega)).mono ?_
            rintro e w10 ⟨rfl, g⟩
            rw [HQE.out] at g
            obtain ⟨G10, S⟩ := S9.out.go g
            have S10 := Lib.hid S
            clear hn g S
            go_wp2_with fail
            go_roundw
            case rel => exact ⟨k, by omega, rfl, Lib.hid ⟨G10, S10.out⟩⟩
            case measure => simp [intOf]
theorem viewTurns_row (a0 : Option Addr) (len0 cap0 : Nat) (seq : Int) (w : World)
    (F0 : ∃ A len cap xs, Value.slice a0 len0 cap0 = .slice A len cap ∧ Kd.C (Kd.slice 44 PC.k44) w A len xs ∧ len ≤ cap ∧ len * 24 ≤ 140737488351232 ∧ (∀ p ∈ xs, p.length * 48 ≤ 140737488351232 ∧ ∀ y ∈ p, Fits y) ∧ (A = none → cap = 0))
    (hq : (Lit.int .u64 seq).wf = true) :
    Calls Try.prog 19 #[.slice a0 len0 cap0, .int .u64 seq] w fun e w' => e = .returned (.bool true) ∧ Below w.heap.size w w' := by
  obtain ⟨A, len, cap, xs, hv, h1, h2, _, h4, _⟩ := F0
  cases hv
  obtain rfl : len0 = xs.length := h1.1.symm
  exact viewTurns_w _ _ _ seq  w h1 h2 (fun l hl x hx => (h4 l hl).2 x hx)
end Go.Proofs.Ytehoojmalhloeaa.CM
