/- ViewSees: the walk. No condition. -/
import Derived.Test.YtehoojmalhloeaaVO
namespace Go.Proofs.Ytehoojmalhloeaa.CM
open Go.RowKit Go.Proofs.YtehoojmalhloeaaW.PrintWords
set_option linter.unusedVariables false
set_option linter.unusedSimpArgs false
set_option maxRecDepth 100000
theorem rnk_stop2 {L : List PC.S76} {u : List UInt8} (y : PC.S76) (hy : L[rnk L u]? = some y) : Op.bytesLess y.f0.toList u = false := by
  induction L with
  | nil => cases hy
  | cons x t ih =>
    have e : rnk (x :: t) u = if Op.bytesLess x.f0.toList u = true then rnk t u + 1 else 0 := by
      unfold rnk
      rw [List.takeWhile_cons]
      split <;> simp
    rw [e] at hy
    by_cases h : Op.bytesLess x.f0.toList u = true
    · rw [if_pos h] at hy
      exact ih (by simpa using hy)
    · rw [if_neg h] at hy
      obtain rfl : x = y := by simpa using hy
      simpa using h
set_option maxHeartbeats 16000000 in
theorem viewSees_w (A : Option Addr) (c : Nat) (L : List PC.S44) (seq : Int) (user : ByteArray) (w : World) (hr : Kd.C PC.k44 w A L.length L) (hc : L.length ≤ c) (hF : ∀ x ∈ L, Fits x) :
    Calls Try.prog 17 #[.slice A L.length c, .int .u64 seq, .string user] w fun e w' => e = .returned (.bool true) ∧ Below w.heap.size w w' := by
  have HA := Lib.hid (And.intro hr hc)
  have HF := Lib.hid hF
  clear hr hc hF
  go_enter Try.func17, Try.ntmps17
  go_wp2_with fail
  refine (awake17_w w).mono ?_
  rintro e w1 ⟨rfl, b⟩
  have H1 := Lib.hid (And.intro (keepC HA.out.1 (Nat.le_refl _) b) b)
  clear b
  go_upto_if 26 with (fail)
  go_cut [0] (fun v wc => ∃ n, v = .slice A n c ∧ n = (L.take 300).length ∧ Hid (wc = w1))
  case first =>
    by_cases h3 : 300 < L.length
    · have d0 : decide (300 < (L.length : Int)) = true := decide_eq_true (by omega)
      have d1 : decide (300 < L.length) = true := decide_eq_true h3
      have q5 : (300 : Int) ≤ ((L.length : Int) : Int) := by omega
      obtain ⟨i05, hi05, _, hsz5, _⟩ := info_parts PC.info44
      have hcut5 := cut_to (P := Try.prog) 22 44 .i64 Try.underlying22 hi05 A L.length c 300 (by omega) q5 HA.out.2
      replace q5 := eq_true q5
      go_wp2
      go_meet
      case rel => exact ⟨300, rfl, by rw [List.length_take]; omega, Lib.hid rfl⟩
    · have d0 : decide (300 < (L.length : Int)) = false := decide_eq_false (by omega)
      have d1 : decide (300 < L.length) = false := decide_eq_false h3
      go_wp2
      go_meet
      case rel => exact ⟨L.length, rfl, by rw [List.length_take]; omega, Lib.hid rfl⟩
  case rest =>
    obtain ⟨n, rfl, hn, hw⟩ := hcut
    obtain rfl := hw.out
    have hD0 : (L.take 300).length ≤ 300 := by rw [List.length_take]; omega
    have hDc : (L.take 300).length ≤ c := by have := HA.out.2; rw [List.length_take]; omega
    have hC1 : Kd.C PC.k44 wc A (L.take 300).length (L.take 300) := by
      by_cases h : 300 ≤ L.length
      · exact Kd.C_take H1.out.1 h
      · rw [List.take_of_length_le (by omega)]; exact H1.out.1
    have hFD : ∀ x ∈ L.take 300, Fits x := fun x hx => HF.out x (List.mem_of_mem_take hx)
    obtain ⟨D, hD⟩ : ∃ D, L.take 300 = D := ⟨_, rfl⟩
    rw [hD] at hn hD0 hDc hC1 hFD
    subst hn
    clear hw hD HF
    obtain ⟨W2, hW2⟩ : ∃ W2, wc.alloc (.cells #[.slice A D.length c] 22) = W2 := ⟨_, rfl⟩
    have B2' : Below wc.heap.size wc W2 := by rw [← hW2]; exact (Below.refl _ _).alloc (Nat.le_refl _) _
    have C2 := C_one (c := c) hC1 hDc rfl
    rw [hW2] at C2
    have hlen : ∀ j, j < ([D] : List (List PC.S44)).length → (([D] : List (List PC.S44)).getD j []).length ≤ 2932031007317 := fun j hj => by
      rcases j with _ | j
      · show D.length ≤ _; omega
      · exact absurd (show j + 1 < 1 from hj) (by omega)
    have HN := Lib.hid (vnew_w _ 1 [D] seq W2 C2 (show 1 ≤ 2932031007317 by decide) hlen)
    have hb2 := H1.out.2.trans (B2'.mono H1.out.2.size)
    have H2 := Lib.hid (And.intro (keepC hC1 (Nat.le_refl _) B2') (And.intro hDc hb2))
    have HFD := Lib.hid hFD
    clear B2' C2 hlen hb2 hC1 hDc hFD
    go_wp2_with (first | rw [hW2])
    refine HN.out.mono ?_
    rintro e w3 (⟨rfl, _, b⟩ | ⟨V, X, s, G, rfl, hris, hL, hV, hG, b⟩)
    · have H3 := Lib.hid (H2.out.2.2.trans (b.mono H2.out.2.2.size))
      clear b
      go_wp2_with fail
      go_ret
      exact ⟨rfl, H3.out⟩
    · have hu : upto s s.N = D := upto_one (vi_ris hV) (by rw [hL]; simp) (pw_of_rises _ (hris 0 (by simp)))
      have hN : s.N = D.length := by rw [← upto_len s s.N, hu]
      have HU := Lib.hid hu
      have HK := Lib.hid (show ∀ x ∈ upto s s.N, FK x from by rw [hu]; exact fun x hx => fk_of (HFD.out x hx))
      have HV := Lib.hid hV
      have HG := Lib.hid (And.intro hG b)
      have HC3 := Lib.hid (keepC H2.out.1 (Nat.le_refl _) b)
      have HCk := Lib.hid (fun (wr : World) (hf : Fr G w3 wr) => keepC H2.out.1 (Nat.le_refl _) (b.trans (hf.to_below b.size hG)))
      have hSb : (seen s seq).length ≤ D.length := by rw [← hN]; exact seen_len s seq
      clear hV hG b hris hL HN hu hN
      go_wp2_with fail
      go_loop [10] (fun t => ∃ n : Nat, n ≤ D.length ∧ t = .int .i64 (n : Int) ∧ ∀ j x, j < n → D[j]? = some x → x.f0.f2 = 0 ∨ x.f0.f2 = 1) (fun t => D.length - (intOf t).toNat)
      case atStart => exact ⟨0, by omega, rfl, fun j x h => by omega⟩
      case round =>
        obtain ⟨n, hn, rfl, hkn⟩ := hrel
        have m1 : IntKind.i64.wrap ((n : Int) + 1) = (n : Int) + 1 := by rw [IntWalk.i64_in _ (by omega)]
        by_cases hlt : n < D.length
        · obtain ⟨x, hxx⟩ : ∃ x, D[n] = x := ⟨_, rfl⟩
          have hx : D[n]? = some x := by rw [← hxx]; exact List.getElem?_eq_getElem hlt
          have Hx := Lib.hid hx
          have Hk := Lib.hid hkn
          obtain ⟨ad, e, X0⟩ := at44 (HC3.out) n (by omega)
          rw [show D.getD n PC.z44 = x from by rw [List.getD_eq_getElem?_getD, hx]; rfl] at X0
          obtain ⟨x0, x1, x2, x3⟩ := X0
          subst e
          have p0 : (0 ≤ (n : Int)) = True := by simp
          have d0 : decide ((n : Int) < (D.length : Int)) = true := decide_eq_true (by omega)
          have p1 : ((n : Int) < D.length) = True := eq_true (by omega)
          have p4 : (n < D.length) = True := eq_true hlt
          clear hx hxx hkn x0 x1 x3
          by_cases k0 : x.f0.f2 = 0
          · rw [k0] at x2
            go_wp2_with fail
            go_round
            case rel => exact ⟨n + 1, by omega, by simp, fun j z hj hz => by
              rcases Nat.lt_or_eq_of_le (show j ≤ n by omega) with h | h
              · exact Hk.out j z h hz
              · subst h; rw [Hx.out] at hz; cases hz; exact .inl k0⟩
            case measure => simp [intOf]; omega
          · by_cases k1 : x.f0.f2 = 1
            · rw [k1] at x2
              go_wp2_with fail
              go_round
              case rel => exact ⟨n + 1, by omega, by simp, fun j z hj hz => by
                rcases Nat.lt_or_eq_of_le (show j ≤ n by omega) with h | h
                · exact Hk.out j z h hz
                · subst h; rw [Hx.out] at hz; cases hz; exact .inr k1⟩
              case measure => simp [intOf]; omega
            · have z0 : (x.f0.f2 != 0) = true := by simpa using k0
              have z1 : (x.f0.f2 != 1) = true := by simpa using k1
              go_wp2_with fail
              go_ret
              exact ⟨rfl, H2.out.2.2.trans (HG.out.2.mono H2.out.2.2.size)⟩
        · obtain rfl : n = D.length := by omega
          have HD := Lib.hid (show ∀ x ∈ D, x.f0.f2 = 0 ∨ x.f0.f2 = 1 from fun x hx => by
            obtain ⟨j, hj⟩ := List.getElem?_of_mem hx
            exact hkn j x (List.getElem?_eq_some_iff.1 hj).1 hj)
          have d0 : decide ((D.length : Int) < (D.length : Int)) = false := decide_eq_false (by omega)
          have HQ := Lib.hid (all_w HV.out HK.out D.length hSb (by omega))
          have HP := Lib.hid (seen_pw (vi_ris HV.out) seq)
          have HSG := Lib.hid (And.intro (fun y hy => seen_get (vi_ris HV.out) HU.out HD.out seq (y := y) hy) (get_seen (vi_ris HV.out) HU.out HD.out seq))
          obtain ⟨Q, hQ⟩ : ∃ Q, seen s seq = Q := ⟨_, rfl⟩
          rw [hQ] at HQ HP hSb HSG
          have HQE := Lib.hid hQ
          clear hQ hkn
          go_wp2_with fail
          refine HQ.out.mono ?_
          rintro e w4 ⟨Al, cl, G4, rfl, S⟩
          have S4 := Lib.hid S
          clear S HQ
          go_wp2_with fail
          go_loopw [13] (fun t wr => ∃ n : Nat, n ≤ Q.length ∧ t = .int .i64 (n : Int) ∧ Hid (AllS w3 V X s seq G none G4 (.slice Al Q.length cl) Q wr)) (fun t _ => Q.length - (intOf t).toNat)
          case atStart => exact ⟨0, by omega, rfl, Lib.hid S4.out⟩
          case round =>
            obtain ⟨n, hn, rfl, HS⟩ := hrel
            have m1 : IntKind.i64.wrap ((n : Int) + 1) = (n : Int) + 1 := by rw [IntWalk.i64_in _ (by omega)]
            by_cases hlt : n < Q.length
            · have hlt' := hlt
              obtain ⟨y, yy⟩ : ∃ y, Q[n] = y := ⟨_, rfl⟩
              have hy : Q[n]? = some y := by rw [← yy]; exact List.getElem?_eq_getElem (by omega)
              clear yy
              have Hy := Lib.hid hy
              obtain ⟨hx1, hx2, hx3⟩ := Kd.R_reads' HS.out.2.2.2.r
              obtain ⟨ad, e, x0, x1⟩ := PC.at_T76 hx3 ((n : Nat) : Int) (by omega) (by omega)
              rw [show PC.rd_T76 Q ((n : Nat) : Int) = y from by unfold PC.rd_T76; rw [Int.toNat_natCast, List.getD_eq_getElem?_getD, hy]; rfl, Int.toNat_natCast] at x0 x1
              subst e
              have p0 : (0 ≤ (n : Int)) = True := by simp
              have d1 : decide ((n : Int) < (Q.length : Int)) = true := decide_eq_true (by omega)
              have p1 : ((n : Int) < Q.length) = True := eq_true (by omega)
              have p4 : (n < Q.length) = True := eq_true hlt
              have HGt := Lib.hid (get_w A c D y.f0 seq wr (HCk.out wr HS.out.2.1) H2.out.2.1 (by omega))
              have HX1 := Lib.hid x1
              clear hx1 hx2 hx3 hy x1
              go_wp2_with fail
              refine HGt.out.mono ?_
              rintro e w5 ⟨rfl, b⟩
              rw [HSG.out.1 y (List.mem_of_getElem? Hy.out)]
              have S5 := Lib.hid (HS.out.below b)
              have x1 := cell_up' HX1.out b
              clear b x0
              go_wp2_with fail
              go_roundw
              case rel => exact ⟨n + 1, by omega, by simp, Lib.hid S5.out⟩
              case measure => simp [intOf]; omega
            · obtain rfl : n = Q.length := by omega
              have d1 : decide ((Q.length : Int) < (Q.length : Int)) = false := decide_eq_false (by omega)
              go_wp2_with fail
              go_loopw [16] (fun t wr => ∃ n : Nat, n ≤ D.length ∧ t = .int .i64 (n : Int) ∧ Hid (∃ here G', AllS w3 V X s seq G here G' (.slice Al Q.length cl) Q wr)) (fun t _ => D.length - (intOf t).toNat)
              case atStart => exact ⟨0, by omega, rfl, Lib.hid ⟨_, _, HS.out⟩⟩
              case round =>
                obtain ⟨n, hn, rfl, HS2⟩ := hrel
                obtain ⟨here, G5, S⟩ := HS2.out
                have S5 := Lib.hid S
                clear S HS2
                have m1 : IntKind.i64.wrap ((n : Int) + 1) = (n : Int) + 1 := by rw [IntWalk.i64_in _ (by omega)]
                by_cases hlt : n < D.length
                · obtain ⟨x, hxx⟩ : ∃ x, D[n] = x := ⟨_, rfl⟩
                  have hx : D[n]? = some x := by rw [← hxx]; exact List.getElem?_eq_getElem hlt
                  have Hx := Lib.hid hx
                  obtain ⟨ad, e, X0⟩ := at44 (HCk.out wr S5.out.2.1) n (by omega)
                  rw [show D.getD n PC.z44 = x from by rw [List.getD_eq_getElem?_getD, hx]; rfl] at X0
                  obtain ⟨x0, x1, x2, x3⟩ := X0
                  subst e
                  have p0 : (0 ≤ (n : Int)) = True := by simp
                  have d0 : decide ((n : Int) < (D.length : Int)) = true := decide_eq_true (by omega)
                  have p1 : ((n : Int) < D.length) = True := eq_true (by omega)
                  have p4 : (n < D.length) = True := eq_true hlt
                  have HGt := Lib.hid (get_w (some ad) c D x.f0.f0 seq wr (HCk.out wr S5.out.2.1) H2.out.2.1 (by omega))
                  have HX0 := Lib.hid x0
                  clear hx hxx x1 x2 x3
                  go_wp2_with fail
                  refine HGt.out.mono ?_
                  rintro e w6 ⟨rfl, b⟩
                  have hgs := HSG.out.2 x.f0.f0
                  obtain ⟨r1, r2, hrr⟩ : ∃ r1 r2, getL D x.f0.f0 seq = (r1, r2) := ⟨_, _, rfl⟩
                  rw [hrr] at hgs ⊢
                  have HGS := Lib.hid hgs
                  have S6 := Lib.hid (S5.out.below b)
                  have x0 := cell_up' HX0.out b
                  clear b hrr hgs
                  go_wp2_with fail
                  refine (pseek_w S6.out.1 HK.out x.f0.f0).mono ?_
                  rintro e w7 ⟨rfl, g⟩
                  rw [HQE.out] at g
                  obtain ⟨G7, S⟩ := S6.out.go g
                  have S7 := Lib.hid S
                  clear g S x0
                  go_wp2_with fail
                  refine (vat_w S7.out.1).mono ?_
                  rintro e w8 ⟨rfl, b⟩
                  have S8 := Lib.hid (S7.out.below b)
                  clear b
                  cases hq : Q[rnk Q x.f0.f0.toList]? with
                  | none =>
                    rw [hq] at S8 HGS
                    have hr2 : r2 ≠ 2 := fun h => by obtain ⟨y, h, _⟩ := HGS.out.1 h; cases h
                    have z0 : (r2 == 2) = false := by simpa using hr2
                    have z1 : decide (r2 = 2) = false := decide_eq_false hr2
                    clear hr2
                    simp only [toldV, val76]
                    obtain ⟨y, hz⟩ : ∃ z, zi = z := ⟨_, rfl⟩
                    rw [hz]
                    clear hz
                    obtain ⟨W9, hW9⟩ : ∃ W9, w8.alloc (.cells #[.string y.f0, .string y.f1] 76) = W9 := ⟨_, rfl⟩
                    have bl : Below w8.heap.size w8 W9 := by rw [← hW9]; exact (Below.refl _ _).alloc (Nat.le_refl _) _
                    have S8 := Lib.hid (S8.out.below bl)
                    have kb0 : W9.heap[w8.heap.size]? = some (.cells #[.string y.f0, .string y.f1] 76 (0, 0)) := by rw [← hW9]; exact World.alloc_heap_new w8 _
                    have b0 : W9.cell? ⟨w8.heap.size, 0, none⟩ = some (.string y.f0) := by simp [World.cell?, kb0]
                    have b0' : W9.cell? ⟨w8.heap.size, 1, none⟩ = some (.string y.f1) := by simp [World.cell?, kb0]
                    clear bl kb0
                    go_wp2_with (first | rw [hW9])
                    go_quiet (fail)
                    obtain ⟨W10, hW10⟩ : ∃ W10, W9.drewN nq = W10 := ⟨_, rfl⟩
                    have S8 := Lib.hid (S8.out.below (show Below W9.heap.size W9 W10 from by rw [← hW10]; exact ⟨rfl, rfl, rfl, Nat.le_refl _, fun _ _ => rfl⟩))
                    rw [hW10]
                    clear hW10 b0 b0'
                    go_wp2_with fail
                    go_roundw
                    case rel => exact ⟨n + 1, by omega, by simp, Lib.hid ⟨_, _, S8.out⟩⟩
                    case measure => simp [intOf]; omega
                  | some y =>
                    rw [hq] at S8 HGS
                    simp only [toldV, val76]
                    obtain ⟨W9, hW9⟩ : ∃ W9, w8.alloc (.cells #[.string y.f0, .string y.f1] 76) = W9 := ⟨_, rfl⟩
                    have bl : Below w8.heap.size w8 W9 := by rw [← hW9]; exact (Below.refl _ _).alloc (Nat.le_refl _) _
                    have S8 := Lib.hid (S8.out.below bl)
                    have kb0 : W9.heap[w8.heap.size]? = some (.cells #[.string y.f0, .string y.f1] 76 (0, 0)) := by rw [← hW9]; exact World.alloc_heap_new w8 _
                    have b0 : W9.cell? ⟨w8.heap.size, 0, none⟩ = some (.string y.f0) := by simp [World.cell?, kb0]
                    have b0' : W9.cell? ⟨w8.heap.size, 1, none⟩ = some (.string y.f1) := by simp [World.cell?, kb0]
                    clear bl kb0
                    obtain ⟨ad2, e, X0⟩ := at44 (HCk.out W9 S8.out.2.1) n (by omega)
                    rw [show D.getD n PC.z44 = x from by rw [List.getD_eq_getElem?_getD, Hx.out]; rfl] at X0
                    obtain ⟨x0, x1, x2, x3⟩ := X0
                    obtain rfl : ad = ad2 := by injection e
                    clear e
                    clear x1 x2 x3
                    by_cases hyu : y.f0.toList = x.f0.f0.toList
                    · obtain rfl : r2 = 2 := HGS.out.2 ⟨y, rfl, hyu⟩
                      have hyu2 : y.f0 = x.f0.f0 := bytes_eq hyu
                      rw [hyu2] at b0
                      clear hyu hyu2
                      go_wp2_with (first | rw [hW9])
                      go_quiet (fail)
                      obtain ⟨W10, hW10⟩ : ∃ W10, W9.drewN nq = W10 := ⟨_, rfl⟩
                      have S8 := Lib.hid (S8.out.below (show Below W9.heap.size W9 W10 from by rw [← hW10]; exact ⟨rfl, rfl, rfl, Nat.le_refl _, fun _ _ => rfl⟩))
                      rw [hW10]
                      clear hW10 b0 b0' x0
                      go_wp2_with fail
                      go_roundw
                      case rel => exact ⟨n + 1, by omega, by simp, Lib.hid ⟨_, _, S8.out⟩⟩
                      case measure => simp [intOf]; omega
                    · have hr2 : r2 ≠ 2 := fun h => by
                        obtain ⟨z, h1, h2⟩ := HGS.out.1 h
                        cases h1
                        exact hyu h2
                      have z0 : (r2 == 2) = false := by simpa using hr2
                      have z1 : decide (r2 = 2) = false := decide_eq_false hr2
                      have z2 : (y.f0.toList == x.f0.f0.toList) = false := by simpa using hyu
                      clear hr2 hyu
                      go_wp2_with (first | rw [hW9])
                      go_quiet (fail)
                      obtain ⟨W10, hW10⟩ : ∃ W10, W9.drewN nq = W10 := ⟨_, rfl⟩
                      have S8 := Lib.hid (S8.out.below (show Below W9.heap.size W9 W10 from by rw [← hW10]; exact ⟨rfl, rfl, rfl, Nat.le_refl _, fun _ _ => rfl⟩))
                      rw [hW10]
                      clear hW10 b0 b0' x0
                      go_wp2_with fail
                      go_roundw
                      case rel => exact ⟨n + 1, by omega, by simp, Lib.hid ⟨_, _, S8.out⟩⟩
                      case measure => simp [intOf]; omega
                · obtain rfl : n = D.length := by omega
                  have d0 : decide ((D.length : Int) < (D.length : Int)) = false := decide_eq_false (by omega)
                  go_wp2_with fail
                  refine (pseek_w S5.out.1 HK.out user).mono ?_
                  rintro e w7 ⟨rfl, g⟩
                  rw [HQE.out] at g
                  obtain ⟨G7, S⟩ := S5.out.go g
                  have S7 := Lib.hid S
                  clear g S
                  go_wp2_with fail
                  refine (vat_w S7.out.1).mono ?_
                  rintro e w8 ⟨rfl, b⟩
                  have S8 := Lib.hid (S7.out.below b)
                  clear b
                  cases hq : Q[rnk Q user.toList]? with
                  | none =>
                    rw [hq] at S8
                    simp only [toldV, val76]
                    obtain ⟨y, hz⟩ : ∃ z, zi = z := ⟨_, rfl⟩
                    rw [hz]
                    clear hz
                    obtain ⟨W9, hW9⟩ : ∃ W9, w8.alloc (.cells #[.string y.f0, .string y.f1] 76) = W9 := ⟨_, rfl⟩
                    have bl : Below w8.heap.size w8 W9 := by rw [← hW9]; exact (Below.refl _ _).alloc (Nat.le_refl _) _
                    have S8 := Lib.hid (S8.out.below bl)
                    have kb0 : W9.heap[w8.heap.size]? = some (.cells #[.string y.f0, .string y.f1] 76 (0, 0)) := by rw [← hW9]; exact World.alloc_heap_new w8 _
                    have b0 : W9.cell? ⟨w8.heap.size, 0, none⟩ = some (.string y.f0) := by simp [World.cell?, kb0]
                    have b0' : W9.cell? ⟨w8.heap.size, 1, none⟩ = some (.string y.f1) := by simp [World.cell?, kb0]
                    clear bl kb0
                    go_wp2_with (first | rw [hW9])
                    go_ret
                    exact ⟨rfl, H2.out.2.2.trans ((HG.out.2.trans ((S8.out.2.1.to_below HG.out.2.size HG.out.1))).mono H2.out.2.2.size)⟩
                  | some y =>
                    have hst := rnk_stop2 y hq
                    rw [hq] at S8
                    simp only [toldV, val76]
                    obtain ⟨W9, hW9⟩ : ∃ W9, w8.alloc (.cells #[.string y.f0, .string y.f1] 76) = W9 := ⟨_, rfl⟩
                    have bl : Below w8.heap.size w8 W9 := by rw [← hW9]; exact (Below.refl _ _).alloc (Nat.le_refl _) _
                    have S8 := Lib.hid (S8.out.below bl)
                    have kb0 : W9.heap[w8.heap.size]? = some (.cells #[.string y.f0, .string y.f1] 76 (0, 0)) := by rw [← hW9]; exact World.alloc_heap_new w8 _
                    have b0 : W9.cell? ⟨w8.heap.size, 0, none⟩ = some (.string y.f0) := by simp [World.cell?, kb0]
                    have b0' : W9.cell? ⟨w8.heap.size, 1, none⟩ = some (.string y.f1) := by simp [World.cell?, kb0]
                    clear bl kb0
                    clear hq
                    go_wp2_with (first | rw [hW9])
                    go_ret
                    exact ⟨rfl, H2.out.2.2.trans ((HG.out.2.trans ((S8.out.2.1.to_below HG.out.2.size HG.out.1))).mono H2.out.2.2.size)⟩
theorem viewSees_row (a0 : Option Addr) (len0 cap0 : Nat) (seq : Int) (user : ByteArray) (w : World)
    (F0 : ∃ A len cap xs, Value.slice a0 len0 cap0 = .slice A len cap ∧ Kd.C PC.k44 w A len xs ∧ len ≤ cap ∧ len * 48 ≤ 140737488351232 ∧ (∀ p ∈ xs, Fits p) ∧ (A = none → cap = 0))
    (hq : (Lit.int .u64 seq).wf = true) {p : Prop} (_ : p) :
    Calls Try.prog 17 #[.slice a0 len0 cap0, .int .u64 seq, .string user] w fun e w' => e = .returned (.bool true) ∧ Below w.heap.size w w' := by
  obtain ⟨A, len, cap, xs, hv, h1, h2, _, h4, _⟩ := F0
  cases hv
  obtain rfl : len0 = xs.length := h1.1.symm
  exact viewSees_w _ _ _ seq user w h1 h2 h4
end Go.Proofs.Ytehoojmalhloeaa.CM
