/- ViewFalls: the walk. No condition. -/
import Derived.Test.YtehoojmalhloeaaVT
import Derived.Test.YtehoojmalhloeaaVU
namespace Go.Proofs.Ytehoojmalhloeaa.CM
open Go.RowKit Go.Proofs.YtehoojmalhloeaaW.PrintWords
set_option linter.unusedVariables false
set_option linter.unusedSimpArgs false
set_option maxRecDepth 100000
/-- The two entries put above. -/
def eY (u : ByteArray) (q : Int) : PC.S44 := ⟨⟨u, q, 0⟩, ⟨#[]⟩⟩
def eZ (u : ByteArray) (q : Int) (v : ByteArray) : PC.S44 := ⟨⟨u, q, 1⟩, v⟩
theorem rises_e (e : PC.S44) : risesB [e] = true := rfl
theorem rises_cons {e : PC.S44} {D : List (List PC.S44)} (h : ∀ j, j < D.length → risesB (D.getD j []) = true) : ∀ j, j < ([e] :: D).length → risesB (([e] :: D).getD j []) = true := fun j hj => by
  rcases j with _ | j
  · exact rises_e e
  · exact h j (by simpa using hj)
theorem ln_cons {e : PC.S44} {D : List (List PC.S44)} (h : ∀ j, (D.getD j []).length ≤ 200) : ∀ j, j < ([e] :: D).length → (([e] :: D).getD j []).length ≤ 2932031007317 := fun j hj => by
  rcases j with _ | j
  · show 1 ≤ _; omega
  · have := h j
    show (D.getD j []).length ≤ _; omega
attribute [local go_sem high] eqV76
set_option maxHeartbeats 32000000 in
theorem viewFalls_w (A : Option Addr) (c : Nat) (L : List (List PC.S44)) (seq : Int) (user value : ByteArray) (w : World) (hr : Kd.C (Kd.slice 44 PC.k44) w A L.length L) (hc : L.length ≤ c) (hF : ∀ l ∈ L, ∀ x ∈ l, Fits x) (hs0 : 0 ≤ seq) (hus : user.size ≤ 140737488351232) :
    Calls Try.prog 16 #[.slice A L.length c, .int .u64 seq, .string user, .string value] w fun e w' => e = .returned (.bool true) ∧ Below w.heap.size w w' := by
  have HA := Lib.hid (And.intro hr hc)
  have HF := Lib.hid (fits_cut hF)
  clear hr hc hF
  go_enter Try.func16, Try.ntmps16
  go_wp2_with fail
  refine (awake17_w w).mono ?_
  rintro e w1 ⟨rfl, b⟩
  have H1 := Lib.hid (And.intro (keepC HA.out.1 (Nat.le_refl _) b) b)
  clear b
  go_wp2_with fail
  refine (few17_w A c L w1 H1.out.1 HA.out.2).mono ?_
  rintro e w2 ⟨A2, c2, rfl, h1, h2, h3⟩
  have hD1 := cut16_len L
  have hD2 := cut16_row L
  obtain ⟨D, hD⟩ : ∃ D, cut16 L = D := ⟨_, rfl⟩
  rw [hD] at h1 h2 hD1 hD2 HF ⊢
  have H2 := Lib.hid (And.intro h2 (And.intro hD2 (H1.out.2.trans (h3.mono H1.out.2.size))))
  have HN := Lib.hid (vnew_w A2 c2 D seq w2 h2 (by omega) (fun j _ => by have := hD2 j; omega))
  clear h1 h2 h3 hD2 hD
  go_wp2_with fail
  refine HN.out.mono ?_
  rintro e w3 (⟨rfl, _, b⟩ | ⟨V, X, s, G, rfl, hris, hL, hV, hG, b⟩)
  · have H3 := Lib.hid (H2.out.2.2.trans (b.mono H2.out.2.2.size))
    clear b
    go_wp2_with fail
    go_ret
    exact ⟨rfl, H3.out⟩
  · have HT := Lib.hid (N_of hL)
    have HR := Lib.hid hris
    have HNs := Lib.hid (N_flat hL)
    have H3 := Lib.hid (And.intro (keepC H2.out.1 (Nat.le_refl _) b) (H2.out.2.2.trans (b.mono H2.out.2.2.size)))
    have hNb : s.N ≤ 8000 := by
      rw [HT.out]
      have := tot_bound (fun j => (D.getD j []).length) 200 D.length (fun j _ => H2.out.2.1 j)
      omega
    clear hV hG b hris hL HN
    by_cases hbig : 1152921504606846976 < seq
    · have dB : decide ((1152921504606846976 : Int) < seq) = true := decide_eq_true hbig
      go_wp2_with fail
      go_ret
      exact ⟨rfl, H3.out.2⟩
    · have dB : decide ((1152921504606846976 : Int) < seq) = false := decide_eq_false hbig
      go_wp2_with fail
      go_loop [12, 13] (fun a t => ∃ n : Nat, n ≤ D.length ∧ t = .int .i64 (n : Int) ∧ a = .int .i64 (1 + tot (fun j => (D.getD j []).length) n : Nat)) (fun _ t => D.length - (intOf t).toNat)
      case atStart => exact ⟨0, by omega, rfl, rfl⟩
      case round =>
        obtain ⟨n, hn, rfl, rfl⟩ := hrel
        have m1 : IntKind.i64.wrap ((n : Int) + 1) = (n : Int) + 1 := by rw [IntWalk.i64_in _ (by omega)]
        by_cases hlt : n < D.length
        · have hltz : (n : Int) < D.length := by omega
          obtain ⟨ad, A0, c0, e0, g0, g1, g2⟩ := PC.at_L6 H3.out.1 (n : Int) (by omega) (by omega)
          obtain ⟨l, hlD⟩ : ∃ l, PC.rd_L6 D (n : Int) = l := ⟨_, rfl⟩
          rw [hlD] at g0 g1 g2
          simp only [Int.toNat_natCast] at g0
          have hlD' : D.getD n [] = l := by rw [← hlD]; simp [PC.rd_L6]
          have hll : l.length ≤ 200 := by rw [← hlD']; exact H2.out.2.1 n
          have hte : tot (fun j => (D.getD j []).length) (n + 1) = tot (fun j => (D.getD j []).length) n + l.length := by show _ + (D.getD n []).length = _; rw [hlD']
          have htb := tot_bound (fun j => (D.getD j []).length) 200 n (fun j _ => H2.out.2.1 j)
          have Hte := Lib.hid hte
          obtain ⟨t0, ht0⟩ : ∃ t, tot (fun j => (D.getD j []).length) n = t := ⟨_, rfl⟩
          rw [ht0] at Hte htb ⊢
          obtain ⟨t, ht⟩ : ∃ t, 1 + t0 = t := ⟨_, rfl⟩
          rw [ht]
          have m2 : IntKind.i64.wrap ((t : Int) + (l.length : Int)) = ((t + l.length : Nat) : Int) := by rw [IntWalk.i64_in _ (by omega)]; omega
          subst e0
          have p0 : ((n : Int) < D.length) = True := eq_true hltz
          have p1 : (0 ≤ (n : Int)) = True := by simp
          have p2 : (n < D.length) = True := eq_true hlt
          have Ht := Lib.hid ht
          clear hlD hlD' hll hte htb ht ht0 g1 g2
          go_wp2_with fail
          go_round
          case rel => exact ⟨n + 1, by omega, by simp, by rw [Hte.out, ← Nat.add_assoc, Ht.out]; simp⟩
          case measure => simp [intOf]; omega
        · obtain rfl : n = D.length := by omega
          have hltz : decide ((D.length : Int) < (D.length : Int)) = false := decide_eq_false (by omega)
          rw [← HT.out]
          obtain ⟨q, hq⟩ : ∃ q, seq + 1 = q := ⟨_, rfl⟩
          have mq : IntKind.u64.wrap (seq + 1) = q := by rw [← hq]; exact IntWalk.u64_in _ (by omega)
          have hqb : q ≤ 1152921504606846977 := by omega
          clear hbig dB hq
          obtain ⟨W1, hW1⟩ : ∃ W1, w3.alloc (.cells #[.string user, .int .u64 q, .int .i64 0, .string ⟨#[]⟩] 44) = W1 := ⟨_, rfl⟩
          have B1 : Below w3.heap.size w3 W1 := by rw [← hW1]; exact (Below.refl _ _).alloc (Nat.le_refl _) _
          have C1 : Kd.C PC.k44 W1 (some ⟨w3.heap.size, 0, none⟩) 1 [eY user q] := by
            rw [← hW1]
            exact C44_block (W := w3.alloc _) (xs := [eY user q]) (World.alloc_heap_new w3 _) (show 1 ≤ 9223372036854775807 by decide)
          obtain ⟨Ay, cy, w4, hrun, hCy, hcy, b4⟩ := app_lists (c2 := c2) (cb := 1) C1 (Nat.le_refl _) (keepC H3.out.1 (Nat.le_refl _) B1) (by omega)
          have b34 := B1.trans (b4.mono B1.size)
          have HNY := Lib.hid (vnew_w Ay cy ([eY user q] :: D) q w4 hCy (by simp; omega) (ln_cons H2.out.2.1))
          have H4 := Lib.hid (And.intro (keepC H3.out.1 (Nat.le_refl _) b34) (H3.out.2.trans (b34.mono H3.out.2.size)))
          clear B1 C1 hCy hcy b4 b34
          simp only [List.length_singleton] at hrun
          go_wp2_with (first | rw [hW1] | (at_builtin; refine wpList_append_run _ rfl (.tmp 80) (.tmp 81) 32 rfl _ _ _ _ rfl rfl hrun ?_; clear hrun))
          refine HNY.out.mono ?_
          rintro e w5 (⟨_, ⟨j, hj, hf⟩, _⟩ | ⟨Vy, Xy, sY, Gy, rfl, _, hLy, hVy, hGy, b5⟩)
          · exact absurd (hf.symm.trans (rises_cons HR.out j hj)) (by decide)
          have HVy := Lib.hid (And.intro hVy (And.intro hGy (And.intro H4.out.2.size b5.size)))
          have HLy := Lib.hid hLy
          have H5 := Lib.hid (And.intro (keepC H4.out.1 (Nat.le_refl _) b5) (H4.out.2.trans (b5.mono H4.out.2.size)))
          clear hVy hGy hLy b5 HNY
          obtain ⟨W6, hW6⟩ : ∃ W6, w5.alloc (.cells #[.string user, .int .u64 q, .int .i64 1, .string value] 44) = W6 := ⟨_, rfl⟩
          have B6 : Below w5.heap.size w5 W6 := by rw [← hW6]; exact (Below.refl _ _).alloc (Nat.le_refl _) _
          have C6 : Kd.C PC.k44 W6 (some ⟨w5.heap.size, 0, none⟩) 1 [eZ user q value] := by
            rw [← hW6]
            exact C44_block (W := w5.alloc _) (xs := [eZ user q value]) (World.alloc_heap_new w5 _) (show 1 ≤ 9223372036854775807 by decide)
          obtain ⟨Az, cz, w7, hrun, hCz, hcz, b7⟩ := app_lists (c2 := c2) (cb := 1) C6 (Nat.le_refl _) (keepC H5.out.1 (Nat.le_refl _) B6) (by omega)
          have b57 := B6.trans (b7.mono B6.size)
          have HNZ := Lib.hid (vnew_w Az cz ([eZ user q value] :: D) q w7 hCz (by simp; omega) (ln_cons H2.out.2.1))
          have H7 := Lib.hid (And.intro (keepC H5.out.1 (Nat.le_refl _) b57) (And.intro (H5.out.2.trans (b57.mono H5.out.2.size)) b57))
          clear B6 C6 hCz hcz b7 b57
          simp only [List.length_singleton] at hrun
          go_wp2_with (first | rw [hW6] | (at_builtin; refine wpList_append_run _ rfl (.tmp 96) (.tmp 97) 32 rfl _ _ _ _ rfl rfl hrun ?_; clear hrun))
          refine HNZ.out.mono ?_
          rintro e w8 (⟨_, ⟨j, hj, hf⟩, _⟩ | ⟨Vz, Xz, sZ, Gz, rfl, _, hLz, hVz, hGz, b8⟩)
          · exact absurd (hf.symm.trans (rises_cons HR.out j hj)) (by decide)
          have HVz := Lib.hid (And.intro hVz (And.intro hGz (And.intro H7.out.2.1.size b8.size)))
          have HLz := Lib.hid hLz
          have H8 := Lib.hid (And.intro (keepC H7.out.1 (Nat.le_refl _) b8) (And.intro (H7.out.2.1.trans (b8.mono H7.out.2.1.size)) (H7.out.2.2.trans (b8.mono H7.out.2.2.size))))
          have HNW := Lib.hid (vnew_w A2 c2 D q w8 H8.out.1 (by omega) (fun j _ => by have := H2.out.2.1 j; omega))
          clear hVz hGz hLz b8 HNZ
          go_wp2_with fail
          refine HNW.out.mono ?_
          rintro e w9 (⟨_, ⟨j, hj, hf⟩, _⟩ | ⟨Vw, Xw, sW, Gw, rfl, _, hLw, hVw, hGw, b9⟩)
          · exact absurd (hf.symm.trans (HR.out j hj)) (by decide)
          have HVw := Lib.hid (And.intro hVw hGw)
          have HLw := Lib.hid hLw
          have H9 := Lib.hid (And.intro (keepC H8.out.1 (Nat.le_refl _) b9) (And.intro (H8.out.2.1.trans (b9.mono H8.out.2.1.size)) (And.intro (H8.out.2.2.trans (b9.mono H8.out.2.2.size)) b9)))
          clear hVw hGw hLw b9 HNW
          go_wp2_with fail
          go_loop [20] (fun t => ∃ n : Nat, n ≤ D.length ∧ t = .int .i64 (n : Int) ∧ ∀ j l, j < n → D[j]? = some l → ∀ x ∈ l, x.f0.f1 ≠ q) (fun t => D.length - (intOf t).toNat)
          case atStart => exact ⟨0, by omega, rfl, fun j l h => by omega⟩
          case round =>
            obtain ⟨n, hn, rfl, hno⟩ := hrel
            have m1 : IntKind.i64.wrap ((n : Int) + 1) = (n : Int) + 1 := by rw [IntWalk.i64_in _ (by omega)]
            by_cases hlt : n < D.length
            · have hltz : decide ((n : Int) < (D.length : Int)) = true := decide_eq_true (by omega)
              obtain ⟨ad, A0, c0, e0, g0, g1, g2⟩ := PC.at_L6 H9.out.1 (n : Int) (by omega) (by omega)
              obtain ⟨l, hlD⟩ : ∃ l, PC.rd_L6 D (n : Int) = l := ⟨_, rfl⟩
              rw [hlD] at g0 g1 g2
              simp only [Int.toNat_natCast] at g0
              have hlD' : D[n]? = some l := by rw [← hlD, List.getElem?_eq_getElem hlt]; simp [PC.rd_L6, hlt]
              have Hno := Lib.hid (And.intro hno hlD')
              have Hg2 := Lib.hid g2
              have hll : l.length ≤ 200 := by have := H2.out.2.1 n; rw [List.getD_eq_getElem?_getD, hlD'] at this; exact this
              subst e0
              have p0 : ((n : Int) < D.length) = True := eq_true (by omega)
              have p1 : (0 ≤ (n : Int)) = True := by simp
              have p2 : (n < D.length) = True := eq_true hlt
              clear hlD hlD' g1 g2 hno
              go_wp2_with fail
              go_loop [21] (fun t => ∃ k : Nat, k ≤ l.length ∧ t = .int .i64 (k : Int) ∧ ∀ j x, j < k → l[j]? = some x → x.f0.f1 ≠ q) (fun t => l.length - (intOf t).toNat)
              case atStart => exact ⟨0, by omega, rfl, fun j x h => by omega⟩
              case round =>
                obtain ⟨k, hk, rfl, hnk⟩ := hrel
                have m1 : IntKind.i64.wrap ((k : Int) + 1) = (k : Int) + 1 := by rw [IntWalk.i64_in _ (by omega)]
                by_cases hlt2 : k < l.length
                · obtain ⟨x, hxx⟩ : ∃ x, l[k] = x := ⟨_, rfl⟩
                  have hx : l[k]? = some x := by rw [← hxx]; exact List.getElem?_eq_getElem hlt2
                  have Hnk := Lib.hid (And.intro hnk hx)
                  obtain ⟨ad2, e, X0⟩ := at44 Hg2.out k (by omega)
                  rw [show l.getD k PC.z44 = x from by rw [List.getD_eq_getElem?_getD, hx]; rfl] at X0
                  obtain ⟨_, x1, _, _⟩ := X0
                  subst e
                  have q0 : (0 ≤ (k : Int)) = True := by simp
                  have q1 : ((k : Int) < l.length) = True := eq_true (by omega)
                  have q2 : (k < l.length) = True := eq_true hlt2
                  have q3 : decide ((k : Int) < (l.length : Int)) = true := decide_eq_true (by omega)
                  clear hx hxx hnk
                  by_cases hxq : x.f0.f1 = q
                  · rw [hxq] at x1
                    go_wp2_with fail
                    go_ret
                    exact ⟨rfl, H9.out.2.1⟩
                  · have z0 : (x.f0.f1 == q) = false := by simpa using hxq
                    go_wp2_with fail
                    go_round
                    case rel => exact ⟨k + 1, by omega, by simp, fun j z hj hz => by
                      rcases Nat.lt_or_eq_of_le (show j ≤ k by omega) with h | h
                      · exact Hnk.out.1 j z h hz
                      · subst h; rw [Hnk.out.2] at hz; cases hz; exact hxq⟩
                    case measure => simp [intOf]; omega
                · obtain rfl : k = l.length := by omega
                  have q3 : decide ((l.length : Int) < (l.length : Int)) = false := decide_eq_false (by omega)
                  have Hnk := Lib.hid hnk
                  clear hnk
                  go_wp2_with fail
                  go_round
                  case rel => exact ⟨n + 1, by omega, by simp, fun j z hj hz => by
                    rcases Nat.lt_or_eq_of_le (show j ≤ n by omega) with h | h
                    · exact Hno.out.1 j z h hz
                    · subst h; rw [Hno.out.2] at hz; cases hz
                      intro x hx
                      obtain ⟨i, hi⟩ := List.getElem?_of_mem hx
                      exact Hnk.out i x (List.getElem?_eq_some_iff.1 hi).1 hi⟩
                  case measure => simp [intOf]; omega
            · obtain rfl : n = D.length := by omega
              have hltz : decide ((D.length : Int) < (D.length : Int)) = false := decide_eq_false (by omega)
              have HNO := Lib.hid (show ∀ l ∈ D, ∀ x ∈ l, x.f0.f1 ≠ q from fun l hl => by
                obtain ⟨j, hj⟩ := List.getElem?_of_mem hl
                exact hno j l (List.getElem?_eq_some_iff.1 hj).1 hj)
              clear hno
              go_wp2_with fail
              have hAY : Above (eY user q) q D sW sY := ⟨vi_ris HVw.out.1, vi_ris HVy.out.1, HLw.out, HLy.out, rfl, HNO.out⟩
              have hAZ : Above (eZ user q value) q D sW sZ := ⟨vi_ris HVw.out.1, vi_ris HVz.out.1, HLw.out, HLz.out, rfl, HNO.out⟩
              have hKe : ∀ e : PC.S44, e.f0.f0 = user → e.f0.f1 = q → e.f0.f2 ≤ 1 → ∀ l ∈ ([e] :: D : List (List PC.S44)), ∀ x ∈ l, FK x := fun e e1 e2 e3 l hl x hx => by
                rcases List.mem_cons.1 hl with rfl | hl
                · obtain rfl : x = e := by simpa using hx
                  exact ⟨by rw [e2]; omega, by omega, by rw [e1]; exact hus⟩
                · exact fk_of (HF.out l hl x hx)
              have HKw := Lib.hid (fk_upto HLw.out HF.out)
              have HKy := Lib.hid (fk_upto2 HLy.out (hKe (eY user q) rfl rfl (by show (0 : Int) ≤ 1; omega)))
              have HKz := Lib.hid (fk_upto2 HLz.out (hKe (eZ user q value) rfl rfl (by show (1 : Int) ≤ 1; omega)))
              have lw : (seen sW q).length ≤ 1 + s.N := by
                have := seen_len sW q
                rw [N_flat HLw.out] at this
                rw [HNs.out]; omega
              have ly : (seen sY q).length ≤ 1 + s.N := by
                have := seen_len sY q
                rw [N_flat HLy.out, List.flatten_cons, List.length_append] at this
                rw [HNs.out]; simpa using this
              have lz : (seen sZ q).length ≤ 1 + s.N := by
                have := seen_len sZ q
                rw [N_flat HLz.out, List.flatten_cons, List.length_append] at this
                rw [HNs.out]; simpa using this
              have HL := Lib.hid (show seen sY q = nou user (seen sW q) ∧ nou user (seen sZ q) = nou user (seen sW q) ∧ (seen sZ q).filter (fun y => y.f0.toList == user.toList) = [⟨user, value⟩] from ⟨hAY.gone (by show (0 : Int) ≠ 1; omega), hAZ.nous, hAZ.shown rfl⟩)
              have HQw := Lib.hid (all_w HVw.out.1 HKw.out (1 + s.N) lw (by omega))
              obtain ⟨QW, hQW⟩ : ∃ Q, seen sW q = Q := ⟨_, rfl⟩
              obtain ⟨QY, hQY⟩ : ∃ Q, seen sY q = Q := ⟨_, rfl⟩
              obtain ⟨QZ, hQZ⟩ : ∃ Q, seen sZ q = Q := ⟨_, rfl⟩
              rw [hQW] at HQw lw
              rw [hQW, hQY, hQZ] at HL
              rw [hQY] at ly
              rw [hQZ] at lz
              have HEY := Lib.hid hQY
              have HEZ := Lib.hid hQZ
              clear hQW hQY hQZ hAY hAZ hKe
              rw [show (1 : Int) + (s.N : Int) = ((1 + s.N : Nat) : Int) by omega]
              obtain ⟨M, hM⟩ : ∃ M, 1 + s.N = M := ⟨_, rfl⟩
              rw [hM] at HQw lw ly lz ⊢
              have hMb : M ≤ 8001 := by omega
              clear hM
              refine HQw.out.mono ?_
              rintro e wa ⟨Aw, cw, Ga, rfl, S⟩
              have vy := (HVy.out.1.below H9.out.2.2.1).fr S.2.1 (fun b h1 h2 => by have := HVw.out.2 b h1; have := HVy.out.1.lt h2; have := H8.out.2.2.size; omega)
              have vz := (HVz.out.1.below H9.out.2.2.2).fr S.2.1 (fun b h1 h2 => by have := HVw.out.2 b h1; have := HVz.out.1.lt h2; omega)
              have HQy := Lib.hid (all_w vy HKy.out M (by rw [HEY.out]; exact ly) (by omega))
              rw [HEY.out] at HQy
              have Ha := Lib.hid (And.intro S.2.2.2.r (And.intro vz (And.intro S.2.1 (And.intro S.2.1.size (H9.out.2.1.trans (S.2.1.to_below H9.out.2.1.size (fun b h => by have := HVw.out.2 b h; have := H8.out.2.1.size; omega)))))))
              clear S vy vz HQw
              go_wp2_with fail
              refine HQy.out.mono ?_
              rintro e wb ⟨Ab, cb, Gb, rfl, S⟩
              have vz := Ha.out.2.1.fr S.2.1 (fun b h1 h2 => by have := HVy.out.1.lt h1; have := HVz.out.2.1 b h2; have := H7.out.2.2.size; omega)
              have HQz := Lib.hid (all_w vz HKz.out M (by rw [HEZ.out]; exact lz) (by omega))
              rw [HEZ.out] at HQz
              have rw1 := R_fr76 Ha.out.1 S.2.1 (fun b h => by have := HVy.out.1.lt h; have := H9.out.2.2.1.size; omega)
              have Hb := Lib.hid (And.intro rw1 (And.intro S.2.2.2.r (And.intro S.2.1.size (Ha.out.2.2.2.2.trans (S.2.1.to_below Ha.out.2.2.2.2.size (fun b h => by have := HVy.out.2.1 b h; have := H4.out.2.size; omega))))))
              clear S vz HQy rw1
              go_wp2_with fail
              refine HQz.out.mono ?_
              rintro e wc ⟨Ac, cc, Gc, rfl, S⟩
              have r1 := R_fr76 Hb.out.1 S.2.1 (fun b h => by have := HVz.out.1.lt h; have := H9.out.2.2.2.size; omega)
              have r2 := R_fr76 Hb.out.2.1 S.2.1 (fun b h => by have := HVz.out.1.lt h; have := H9.out.2.2.2.size; have := Ha.out.2.2.2.1; omega)
              have Hc := Lib.hid (And.intro (Kd.R_reads' r1) (And.intro (Kd.R_reads' r2) (And.intro (Kd.R_reads' S.2.2.2.r) (Hb.out.2.2.2.trans (S.2.1.to_below Hb.out.2.2.2.size (fun b h => by have := HVz.out.2.1 b h; have := H7.out.2.1.size; omega))))))
              clear S HQz r1 r2
              go_wp2_with fail
              go_loopw [28, 29] (fun v t wr => ∃ n : Nat, n ≤ QW.length ∧ t = .int .i64 (n : Int) ∧ Hid (Kd.R PC.k76 76 wr wc.heap.size (fun _ => True) v (nou user (QW.take n)) ∧ Below wc.heap.size wc wr)) (fun _ t _ => QW.length - (intOf t).toNat)
              case atStart => exact ⟨0, by omega, rfl, Lib.hid ⟨Kd.R_nil _ _ _ _ _, Below.refl _ _⟩⟩
              case round =>
                obtain ⟨n, hn, rfl, HI⟩ := hrel
                have m1 : IntKind.i64.wrap ((n : Int) + 1) = (n : Int) + 1 := by rw [IntWalk.i64_in _ (by omega)]
                by_cases hlt : n < QW.length
                · obtain ⟨y, hyy⟩ : ∃ y, QW[n] = y := ⟨_, rfl⟩
                  have hy : QW[n]? = some y := by rw [← hyy]; exact List.getElem?_eq_getElem hlt
                  have hte : QW.take (n + 1) = QW.take n ++ [y] := by rw [List.take_add_one, hy]; rfl
                  have Hte := Lib.hid hte
                  obtain ⟨ad, e, x0, x1⟩ := PC.at_T76 (keepC Hc.out.1.2.2 (Nat.le_refl _) HI.out.2) (n : Int) (by omega) (by omega)
                  rw [show PC.rd_T76 QW (n : Int) = y from by unfold PC.rd_T76; rw [Int.toNat_natCast, List.getD_eq_getElem?_getD, hy]; rfl, Int.toNat_natCast] at x0 x1
                  subst e
                  have p0 : (0 ≤ (n : Int)) = True := by simp
                  have p1 : ((n : Int) < QW.length) = True := eq_true (by omega)
                  have p2 : (n < QW.length) = True := eq_true hlt
                  have p3 : decide ((n : Int) < (QW.length : Int)) = true := decide_eq_true (by omega)
                  clear hyy hy hte
                  by_cases hu : y.f0.toList = user.toList
                  · have hu2 : y.f0 = user := bytes_eq hu
                    rw [hu2] at x0
                    have he : nou user (QW.take (n + 1)) = nou user (QW.take n) := by
                      rw [Hte.out]; unfold nou; rw [List.filter_append]; simp [hu]
                    have He := Lib.hid he
                    clear hu hu2 he
                    go_wp2_with fail
                    go_roundw
                    case rel => exact ⟨n + 1, by omega, by simp, by rw [He.out]; exact HI⟩
                    case measure => simp [intOf]; omega
                  · have z0 : (y.f0.toList == user.toList) = false := by simpa using hu
                    have he : nou user (QW.take n) ++ [y] = nou user (QW.take (n + 1)) := by
                      rw [Hte.out]; unfold nou; rw [List.filter_append]; simp [hu]
                    obtain ⟨v1, w10, hrun, hR1, hg, _⟩ := run_append76 y HI.out.1 (by have := List.length_filter_le (fun y : PC.S76 => !(y.f0.toList == user.toList)) (QW.take n); rw [List.length_take] at this; unfold nou; omega) HI.out.2.size
                    rw [he] at hR1
                    have H10 := Lib.hid (And.intro hR1 ((HI.out.2.alloc HI.out.2.size _).grown hg (by have := HI.out.2.size; simp; omega) (fun k hk => Kd.R_base HI.out.1 k hk)))
                    clear hu he hR1 hg
                    go_wp2_with (first | (at_builtin; refine wpList_append_run _ rfl (.tmp 191) (.tmp 196) 39 rfl _ _ _ _ rfl rfl hrun ?_; clear hrun))
                    go_roundw
                    case rel => exact ⟨n + 1, by omega, by simp, H10⟩
                    case measure => simp [intOf]; omega
                · obtain rfl : n = QW.length := by omega
                  have p3 : decide ((QW.length : Int) < (QW.length : Int)) = false := decide_eq_false (by omega)
                  rw [List.take_of_length_le (Nat.le_refl _)] at HI
                  obtain ⟨Al, cl, hvl, hle, hCl⟩ := Kd.R_reads HI.out.1
                  subst hvl
                  have Hd := Lib.hid (And.intro hCl (And.intro hle (And.intro (keepC Hc.out.2.1.2.2 (Nat.le_refl _) HI.out.2) (And.intro (keepC Hc.out.2.2.1.2.2 (Nat.le_refl _) HI.out.2) (Hc.out.2.2.2.trans (HI.out.2.mono Hc.out.2.2.2.size))))))
                  clear hle hCl HI
                  go_wp2_with fail
                  go_loopw [30, 31, 32] (fun v cn t wq => ∃ n : Nat, n ≤ QZ.length ∧ t = .int .i64 (n : Int) ∧ cn = .int .i64 (((QZ.take n).filter (fun y => y.f0.toList == user.toList)).length : Nat) ∧ Hid (Kd.R PC.k76 76 wq wr.heap.size (fun _ => True) v (nou user (QZ.take n)) ∧ Below wr.heap.size wr wq)) (fun _ _ t _ => QZ.length - (intOf t).toNat)
                  case atStart => exact ⟨0, by omega, rfl, rfl, Lib.hid ⟨Kd.R_nil _ _ _ _ _, Below.refl _ _⟩⟩
                  case round =>
                    obtain ⟨n, hn, rfl, rfl, HI⟩ := hrel
                    have m1 : IntKind.i64.wrap ((n : Int) + 1) = (n : Int) + 1 := by rw [IntWalk.i64_in _ (by omega)]
                    by_cases hlt : n < QZ.length
                    · obtain ⟨y, hyy⟩ : ∃ y, QZ[n] = y := ⟨_, rfl⟩
                      have hy : QZ[n]? = some y := by rw [← hyy]; exact List.getElem?_eq_getElem hlt
                      have hte : QZ.take (n + 1) = QZ.take n ++ [y] := by rw [List.take_add_one, hy]; rfl
                      have Hte := Lib.hid hte
                      obtain ⟨ad, e, x0, x1⟩ := PC.at_T76 (keepC Hd.out.2.2.2.1 (Nat.le_refl _) HI.out.2) (n : Int) (by omega) (by omega)
                      rw [show PC.rd_T76 QZ (n : Int) = y from by unfold PC.rd_T76; rw [Int.toNat_natCast, List.getD_eq_getElem?_getD, hy]; rfl, Int.toNat_natCast] at x0 x1
                      subst e
                      have hcb : ((QZ.take n).filter (fun y => y.f0.toList == user.toList)).length ≤ n := by
                        have := List.length_filter_le (fun y : PC.S76 => y.f0.toList == user.toList) (QZ.take n)
                        rw [List.length_take] at this
                        omega
                      have Hy := Lib.hid (List.mem_of_getElem? hy)
                      have p0 : (0 ≤ (n : Int)) = True := by simp
                      have p1 : ((n : Int) < QZ.length) = True := eq_true (by omega)
                      have p2 : (n < QZ.length) = True := eq_true hlt
                      have p3 : decide ((n : Int) < (QZ.length : Int)) = true := decide_eq_true (by omega)
                      clear hyy hy hte
                      by_cases hu : y.f0.toList = user.toList
                      · have hu2 : y = ⟨user, value⟩ := by
                          have : y ∈ QZ.filter (fun y => y.f0.toList == user.toList) := List.mem_filter.2 ⟨Hy.out, by simpa using hu⟩
                          rw [HL.out.2.2] at this
                          exact List.mem_singleton.1 this
                        rw [hu2] at x0 x1
                        have he : nou user (QZ.take (n + 1)) = nou user (QZ.take n) := by
                          rw [Hte.out]; unfold nou; rw [List.filter_append]; simp [hu]
                        have hc1 : ((QZ.take (n + 1)).filter (fun y => y.f0.toList == user.toList)).length = ((QZ.take n).filter (fun y => y.f0.toList == user.toList)).length + 1 := by
                          rw [Hte.out, List.filter_append]; simp [hu]
                        have He := Lib.hid (And.intro he hc1)
                        obtain ⟨cn, hcn⟩ : ∃ cn, ((QZ.take n).filter (fun y => y.f0.toList == user.toList)).length = cn := ⟨_, rfl⟩
                        rw [hcn] at He hcb ⊢
                        have m2 : IntKind.i64.wrap ((cn : Int) + 1) = (cn : Int) + 1 := by rw [IntWalk.i64_in _ (by omega)]
                        clear hu hu2 he hc1 hcn
                        go_wp2_with fail
                        go_roundw
                        case rel => exact ⟨n + 1, by omega, by simp, by rw [He.out.2]; simp, by rw [He.out.1]; exact HI⟩
                        case measure => simp [intOf]; omega
                      · have z0 : (y.f0.toList == user.toList) = false := by simpa using hu
                        have he : nou user (QZ.take n) ++ [y] = nou user (QZ.take (n + 1)) := by
                          rw [Hte.out]; unfold nou; rw [List.filter_append]; simp [hu]
                        have hc1 : ((QZ.take (n + 1)).filter (fun y => y.f0.toList == user.toList)).length = ((QZ.take n).filter (fun y => y.f0.toList == user.toList)).length := by
                          rw [Hte.out, List.filter_append]; simp [hu]
                        have He := Lib.hid hc1
                        obtain ⟨v1, w10, hrun, hR1, hg, _⟩ := run_append76 y HI.out.1 (by have := List.length_filter_le (fun y : PC.S76 => !(y.f0.toList == user.toList)) (QZ.take n); rw [List.length_take] at this; unfold nou; omega) HI.out.2.size
                        rw [he] at hR1
                        have H10 := Lib.hid (And.intro hR1 ((HI.out.2.alloc HI.out.2.size _).grown hg (by have := HI.out.2.size; simp; omega) (fun k hk => Kd.R_base HI.out.1 k hk)))
                        obtain ⟨cn, hcn⟩ : ∃ cn, ((QZ.take n).filter (fun y => y.f0.toList == user.toList)).length = cn := ⟨_, rfl⟩
                        rw [hcn] at He hcb ⊢
                        clear hu he hR1 hg hc1 hcn
                        go_wp2_with (first | (at_builtin; refine wpList_append_run _ rfl (.tmp 220) (.tmp 225) 39 rfl _ _ _ _ rfl rfl hrun ?_; clear hrun))
                        go_roundw
                        case rel => exact ⟨n + 1, by omega, by simp, by rw [He.out], H10⟩
                        case measure => simp [intOf]; omega
                    · obtain rfl : n = QZ.length := by omega
                      have p3 : decide ((QZ.length : Int) < (QZ.length : Int)) = false := decide_eq_false (by omega)
                      rw [List.take_of_length_le (Nat.le_refl _)] at HI ⊢
                      rw [HL.out.2.2]
                      simp only [List.length_singleton]
                      obtain ⟨Ao, co, hvo, hleo, hCo⟩ := Kd.R_reads HI.out.1
                      subst hvo
                      have HS1 := Lib.hid (same_w Ab Al cb cl QY (nou user QW) _ HL.out.1 (keepC Hd.out.2.2.1 (Nat.le_refl _) HI.out.2) Hc.out.2.1.2.1 (keepC Hd.out.1 (Nat.le_refl _) HI.out.2) Hd.out.2.1 (by omega))
                      have He := Lib.hid (And.intro hCo (And.intro hleo (And.intro (keepC Hd.out.1 (Nat.le_refl _) HI.out.2) (Hd.out.2.2.2.2.trans (HI.out.2.mono Hd.out.2.2.2.2.size)))))
                      have hno := List.length_filter_le (fun y : PC.S76 => !(y.f0.toList == user.toList)) QZ
                      clear hCo hleo HI
                      go_wp2_with fail
                      refine HS1.out.mono ?_
                      rintro e w11 ⟨rfl, b⟩
                      have HS2 := Lib.hid (same_w Ao Al co cl (nou user QZ) (nou user QW) w11 HL.out.2.1 (keepC He.out.1 (Nat.le_refl _) b) He.out.2.1 (keepC He.out.2.2.1 (Nat.le_refl _) b) Hd.out.2.1 (by unfold nou; omega))
                      have Hf := Lib.hid (He.out.2.2.2.trans (b.mono He.out.2.2.2.size))
                      clear b
                      go_wp2_with fail
                      refine HS2.out.mono ?_
                      rintro e w12 ⟨rfl, b⟩
                      have Hg := Lib.hid (Hf.out.trans (b.mono Hf.out.size))
                      clear b
                      go_wp2_with fail
                      go_ret
                      exact ⟨rfl, Hg.out⟩
theorem viewFalls_row (a0 : Option Addr) (len0 cap0 : Nat) (seq : Int) (user value : ByteArray) (w : World)
    (F0 : ∃ A len cap xs, Value.slice a0 len0 cap0 = .slice A len cap ∧ Kd.C (Kd.slice 44 PC.k44) w A len xs ∧ len ≤ cap ∧ len * 24 ≤ 140737488351232 ∧ (∀ p ∈ xs, p.length * 48 ≤ 140737488351232 ∧ ∀ y ∈ p, Fits y) ∧ (A = none → cap = 0))
    (hq : (Lit.int .u64 seq).wf = true) (hu : user.size ≤ 140737488351232) {p : Prop} (_ : p) :
    Calls Try.prog 16 #[.slice a0 len0 cap0, .int .u64 seq, .string user, .string value] w fun e w' => e = .returned (.bool true) ∧ Below w.heap.size w w' := by
  obtain ⟨A, len, cap, xs, hv, h1, h2, _, h4, _⟩ := F0
  cases hv
  obtain rfl : len0 = xs.length := h1.1.symm
  exact viewFalls_w _ _ xs seq user value w h1 h2 (fun l hl x hx => (h4 l hl).2 x hx) (wf_u64 seq hq).1 hu
end Go.Proofs.Ytehoojmalhloeaa.CM
