/- CompactKeeps: the walk: the statement's function answers true. Its conditions are that its arguments can be read. -/
import Derived.Test.YtehoojmalhloeaaDM
import Derived.Test.YtehoojmalhloeaaDE
namespace Go.Proofs.Ytehoojmalhloeaa.CM
open Go.RowKit Go.Proofs.YtehoojmalhloeaaW.PrintWords
set_option linter.unusedVariables false
set_option linter.unusedSimpArgs false
set_option maxRecDepth 100000

theorem Same17_l0_refl (l : List PC.S76) (hl : l.length ≤ 9223372036854775806) : ∀ (n k i : Nat), l.length - i ≤ n → n + 1 ≤ k → PC.staddleref17_Same.l0 k l l (i : Int) = some true
  | n, 0, i, _, hk => by omega
  | n, k + 1, i, hn, hk => by
    unfold PC.staddleref17_Same.l0
    by_cases h : i < l.length
    · rw [if_pos (by omega), if_pos (by omega), if_pos (by omega), if_neg (by simp), w64 ((i : Int) + 1) (by omega)]
      exact Same17_l0_refl l hl (n - 1) k (i + 1) (by omega) (by omega)
    · rw [if_neg (by omega)]
theorem Same17_f_refl (l : List PC.S76) (k : Nat) (hl : l.length ≤ 9223372036854775806) (hk : l.length + 1 ≤ k) : PC.staddleref17_Same.f k l l = some true := by
  unfold PC.staddleref17_Same.f
  rw [if_pos rfl]
  exact Same17_l0_refl l hl l.length k 0 (by omega) hk
theorem same17_w (A : Option Addr) (n c : Nat) (A2 : Option Addr) (n2 c2 : Nat) (l : List PC.S76) (w : World) (hn : n = l.length) (hn2 : n2 = l.length) (hr : Kd.C PC.k76 w A l.length l) (hc : l.length ≤ c) (hr2 : Kd.C PC.k76 w A2 l.length l) (hc2 : l.length ≤ c2) (hl : l.length ≤ 9223372036854775806) :
    Calls Try.prog 30 #[.slice A n c, .slice A2 n2 c2] w fun e w' => e = .returned (.bool true) ∧ Below w.heap.size w w' := by
  subst hn hn2
  refine (PC.staddleref17_Same.calls (l.length + 1) A c l A2 c2 l true w hr hc hr2 hc2 (Same17_f_refl l _ hl (Nat.le_refl _))).mono ?_
  rintro e w' ⟨rfl, hd⟩
  exact ⟨rfl, hd.below⟩
theorem VS_len (s : Int) : ∀ (l pre : List PC.S44), (VS s pre l).length ≤ l.length
  | [], _ => Nat.le_refl _
  | x :: t, pre => by
    have := VS_len s t (x :: pre)
    unfold VS
    split <;> simp <;> omega
theorem seen_w (A : Option Addr) (n c : Nat) (l : List PC.S44) (s : Int) (w : World) (hn : n = l.length) (hr : Kd.C PC.k44 w A l.length l) (hc : l.length ≤ c) (hl : l.length ≤ 4398046511103) :
    Calls Try.prog 31 #[.slice A n c, .int .u64 s] w fun e w' => ∃ v, e = .returned v ∧ Kd.R PC.k76 76 w' w.heap.size (fun _ => True) v (VS s [] l) ∧ Below w.heap.size w w' := by
  subst hn
  exact PC.staddleref17_Seen.calls (4 * l.length + 1) A c l s (VS s [] l) w hr hc (Seen_f l s _ hl (Nat.le_refl _))
theorem rises16_w (A : Option Addr) (n c : Nat) (l : List PC.S44) (r : Bool) (w : World) (hn : n = l.length) (hr : Kd.C PC.k44 w A l.length l) (hc : l.length ≤ c) (hl : l.length ≤ 4398046511103) (h : risesB l = r) :
    Calls Try.prog 29 #[.slice A n c] w fun e w' => e = .returned (.bool r) ∧ Below w.heap.size w w' := by
  subst hn h
  exact PC.staddleref16_Rises.calls (l.length + 1) A c l (risesB l) w hr hc (Rises_f l _ (by omega) (Nat.le_refl _))
theorem kint_cell {w : World} {A : Option Addr} {n : Nat} {xs : List Int} (h : Kd.C (Kd.int .u64) w A n xs) (k : Nat) (hk : k < n) : ∃ ad, A = some ad ∧ w.cell? (ad.add k) = some (.int .u64 (xs.getD k 0)) := by
  obtain ⟨ad, e, hc⟩ := h.2.2 (by omega)
  have hl : k < xs.length := by have := h.1; omega
  obtain ⟨c, hs, hr, hcell⟩ := hc k _ (List.getElem?_eq_getElem hl)
  have hr : c = [.int .u64 xs[k]] := hr
  subst hr
  refine ⟨ad, e, ?_⟩
  have := hcell 0 _ rfl
  rw [show k * (Kd.int IntKind.u64).sz + 0 = k from Nat.mul_one k] at this
  rw [this]
  simp [List.getD_eq_getElem?_getD, List.getElem?_eq_getElem hl]

set_option maxHeartbeats 16000000 in
theorem compactKeeps_w (A : Option Addr) (n c : Nat) (l : List PC.S44) (A2 : Option Addr) (n2 c2 : Nat) (snaps : List Int) (bottom : Bool) (w : World) (hr : Kd.C PC.k44 w A n l) (hc : n ≤ c) (hr2 : Kd.C (Kd.int .u64) w A2 n2 snaps) (hc2 : n2 ≤ c2)
    (hv : ∀ y ∈ l, okN y) :
    Calls Try.prog 5 #[.slice A n c, .slice A2 n2 c2, .bool bottom] w fun e w' => e = .returned (.bool true) ∧ Below w.heap.size w w' := by
  obtain rfl : l.length = n := hr.1
  obtain rfl : snaps.length = n2 := hr2.1
  obtain ⟨m, hm⟩ : ∃ m, m = if 200 < l.length then 200 else l.length := ⟨_, rfl⟩
  obtain ⟨m2, hm2⟩ : ∃ m2, m2 = if 50 < snaps.length then 50 else snaps.length := ⟨_, rfl⟩
  have few := few_w A l.length c A2 snaps.length c2 m m2
  have hml : m ≤ l.length ∧ m ≤ 200 := by rw [hm]; split <;> omega
  have hml2 : m2 ≤ snaps.length ∧ m2 ≤ 50 := by rw [hm2]; split <;> omega
  have hcl := Kd.C_take hr hml.1
  have hcl2 := Kd.C_take hr2 hml2.1
  obtain ⟨l1, hl1⟩ : ∃ l1, l.take m = l1 := ⟨_, rfl⟩
  obtain ⟨s1, hs1⟩ : ∃ s1, snaps.take m2 = s1 := ⟨_, rfl⟩
  have hlen1 : l1.length = m := by rw [← hl1, List.length_take]; omega
  have hlen2 : s1.length = m2 := by rw [← hs1, List.length_take]; omega
  have hv1 : ∀ y ∈ l1, okN y := fun y hy => hv y (by rw [← hl1] at hy; exact List.mem_of_mem_take hy)
  rw [hl1] at hcl
  rw [hs1] at hcl2
  have HF := Lib.hid (fun w => few w hm hm2 hc hc2)
  have HB := Lib.hid (And.intro hml hml2)
  have HC := Lib.hid (And.intro hcl hcl2)
  have HV := Lib.hid hv1
  have hmc : m ≤ c := by omega
  have hmc2 : m2 ≤ c2 := by omega
  have hm200 : m ≤ 200 := hml.2
  have hm50 : m2 ≤ 50 := hml2.2
  clear few hm hm2 hml hml2 hcl hcl2 hv1 hv hr hr2 hl1 hs1
  have H1 := Lib.hid hlen1
  have H2 := Lib.hid hlen2
  clear hlen1 hlen2
  by_cases hup : risesB l1 = true
  · have hX : dropA s1 bottom l1 = (dropL s1 bottom l1, 0) := if_pos hup
    obtain ⟨X, hXX⟩ : ∃ X, dropL s1 bottom l1 = X := ⟨_, rfl⟩
    rw [hXX] at hX
    have hpw := pw_of_rises l1 hup
    have hsub := dropL_sub s1 bottom l1 HV.out
    rw [hXX] at hsub
    have hXr : risesB X = true := rises_of_pw X (hpw.sublist hsub)
    have hXl : X.length ≤ m := by have := hsub.length_le; rw [H1.out] at this; exact this
    have hXX2 : dropA s1 bottom X = (X, 0) := by
      unfold dropA
      rw [if_pos hXr]
      have := dropL_twice s1 bottom l1 HV.out hpw
      rw [hXX] at this
      rw [this]
    obtain ⟨Y, hY⟩ : ∃ Y, dropL [] bottom l1 = Y := ⟨_, rfl⟩
    have hYA : dropA [] bottom l1 = (Y, 0) := by unfold dropA; rw [if_pos hup, hY]
    have hYp : Y.Pairwise (fun x y => sameU x y = false) := by rw [← hY]; exact dropL_one bottom l1 HV.out hpw
    have hYl : Y.length ≤ m := by have := (dropL_sub [] bottom l1 HV.out).length_le; rw [hY, H1.out] at this; exact this
    have hseen : ∀ s, (s ∈ s1 ∨ s = topU) → VS s [] X = VS s [] l1 := fun s hs => by
      have := keeps_seen s1 bottom l1 HV.out hpw s hs
      rw [hXX] at this
      exact this
    have HX := Lib.hid (And.intro hX (And.intro hXr (And.intro hXX2 (And.intro hYA (And.intro hYp hseen)))))
    clear hX hXX hpw hsub hXr hXX2 hYA hYp hseen hY hup
    have dl : decide (m < X.length) = false := decide_eq_false (by omega)
    go_enter Try.func5, Try.ntmps5
    go_wp2_with fail
    refine (awake19_w _).mono ?_
    rintro e w1 ⟨rfl, b1⟩
    have B1 := Lib.hid b1
    clear b1
    go_wp2_with fail
    refine (HF.out _).mono ?_
    rintro e w1 ⟨rfl, rfl⟩
    have D := drop_any A c l1 A2 m2 c2 s1 bottom w1 (keepC HC.out.1 (Nat.le_refl _) B1.out) (by rw [H1.out]; exact hmc) H2.out.symm (keepC HC.out.2 (Nat.le_refl _) B1.out) (by have := H1.out; omega)
    rw [H1.out, HX.out.1] at D
    have HD := Lib.hid D
    clear D
    go_wp2_with fail
    refine HD.out.mono ?_
    rintro e w4 ⟨va, rfl, ra, b4⟩
    obtain ⟨Aa, ca, hva, hla, hCa⟩ := Kd.R_reads ra
    try simp only at hva hla hCa
    subst hva
    have B4 := Lib.hid (B1.out.trans (b4.mono B1.out.size))
    have G4 := Lib.hid (And.intro hla hCa)
    clear ra b4 hla hCa HD
    go_wp2_with fail
    have HD := Lib.hid (rises16_w Aa X.length ca X true w4 rfl G4.out.2 G4.out.1 (by omega) HX.out.2.1)
    refine HD.out.mono ?_
    rintro e w5 ⟨rfl, b5⟩
    have B5 := Lib.hid (And.intro b5 (B4.out.trans (b5.mono B4.out.size)))
    clear b5 HD
    go_wp2_with fail
    go_loopw [11] (fun t wr => ∃ j : Nat, j ≤ m2 + 1 ∧ t = .int .i64 (j : Int) ∧ Hid (Below w5.heap.size w5 wr)) (fun t _ => m2 + 1 - (intOf t).toNat)
    case atStart => exact ⟨0, by omega, rfl, Lib.hid (Below.refl _ _)⟩
    case round =>
      obtain ⟨j, hj, rfl, HR⟩ := hrel
      by_cases hle : j ≤ m2
      · have dle : decide ((j : Int) ≤ (m2 : Int)) = true := decide_eq_true (by omega)
        have hw1 : IntKind.i64.wrap ((j : Int) + 1) = (j : Int) + 1 := by rw [IntWalk.i64_in _ (by omega)]
        have BR := Lib.hid (And.intro (B5.out.1.trans (HR.out.mono B5.out.1.size)) (B5.out.2.trans (HR.out.mono B5.out.2.size)))
        by_cases hlt : j < m2
        · have dlt : decide ((j : Int) < (m2 : Int)) = true := decide_eq_true (by omega)
          obtain ⟨ad, e, hcell⟩ := kint_cell (keepC HC.out.2 (Nat.le_refl _) BR.out.2) j (by rw [H2.out]; exact hlt)
          subst e
          obtain ⟨s, hs⟩ : ∃ s, s1.getD j 0 = s := ⟨_, rfl⟩
          rw [hs] at hcell
          have hsm : s ∈ s1 := by
            rw [← hs, List.getD_eq_getElem?_getD, List.getElem?_eq_getElem (by rw [H2.out]; exact hlt)]
            exact List.getElem_mem _
          have HS := Lib.hid (HX.out.2.2.2.2.2 s (.inl hsm))
          have p0 : (j < m2) = True := eq_true hlt
          clear hs hsm
          go_wp2_with fail
          have HD := Lib.hid (seen_w Aa X.length ca X s wr rfl (keepC G4.out.2 (Nat.le_refl _) BR.out.1) G4.out.1 (by omega))
          refine HD.out.mono ?_
          rintro e w6 ⟨v1, rfl, r1, b6⟩
          obtain ⟨A6, k6, hv6, hl6, hC6⟩ := Kd.R_reads r1
          subst hv6
          have G6 := Lib.hid (And.intro hl6 (And.intro hC6 b6))
          clear r1 b6 hl6 hC6 HD
          go_wp2_with fail
          have HD := Lib.hid (seen_w A m c l1 s w6 H1.out.symm (keepC HC.out.1 (Nat.le_refl _) (BR.out.2.trans (G6.out.2.2.mono BR.out.2.size))) (by rw [H1.out]; exact hmc) (by have := H1.out; omega))
          refine HD.out.mono ?_
          rintro e w7 ⟨v2, rfl, r2, b7⟩
          rw [← HS.out] at r2
          obtain ⟨A7, k7, hv7, hl7, hC7⟩ := Kd.R_reads r2
          subst hv7
          have HD := Lib.hid (same17_w A6 _ k6 A7 _ k7 (VS s [] X) w7 rfl rfl (keepC G6.out.2.1 (Nat.le_refl _) b7) G6.out.1 hC7 hl7 (by have := VS_len s X []; omega))
          have G7 := Lib.hid b7
          clear r2 b7 hl7 hC7
          go_wp2_with fail
          refine HD.out.mono ?_
          rintro e w8 ⟨rfl, b8⟩
          have G8 := Lib.hid (HR.out.trans (((G6.out.2.2.mono HR.out.size).trans (G7.out.mono (Nat.le_trans HR.out.size G6.out.2.2.size))).trans (b8.mono (Nat.le_trans HR.out.size (Nat.le_trans G6.out.2.2.size G7.out.size)))))
          clear b8 HD
          go_wp2_with fail
          exact ⟨⟨j + 1, by omega, by simp, G8⟩, by simp [intOf]; omega⟩
        · have dlt : decide ((j : Int) < (m2 : Int)) = false := decide_eq_false (by omega)
          have HS := Lib.hid (HX.out.2.2.2.2.2 18446744073709551615 (.inr rfl))
          go_wp2_with fail
          have HD := Lib.hid (seen_w Aa X.length ca X 18446744073709551615 wr rfl (keepC G4.out.2 (Nat.le_refl _) BR.out.1) G4.out.1 (by omega))
          refine HD.out.mono ?_
          rintro e w6 ⟨v1, rfl, r1, b6⟩
          obtain ⟨A6, k6, hv6, hl6, hC6⟩ := Kd.R_reads r1
          subst hv6
          have G6 := Lib.hid (And.intro hl6 (And.intro hC6 b6))
          clear r1 b6 hl6 hC6 HD
          go_wp2_with fail
          have HD := Lib.hid (seen_w A m c l1 18446744073709551615 w6 H1.out.symm (keepC HC.out.1 (Nat.le_refl _) (BR.out.2.trans (G6.out.2.2.mono BR.out.2.size))) (by rw [H1.out]; exact hmc) (by have := H1.out; omega))
          refine HD.out.mono ?_
          rintro e w7 ⟨v2, rfl, r2, b7⟩
          rw [← HS.out] at r2
          obtain ⟨A7, k7, hv7, hl7, hC7⟩ := Kd.R_reads r2
          subst hv7
          have HD := Lib.hid (same17_w A6 _ k6 A7 _ k7 (VS 18446744073709551615 [] X) w7 rfl rfl (keepC G6.out.2.1 (Nat.le_refl _) b7) G6.out.1 hC7 hl7 (by have := VS_len 18446744073709551615 X []; omega))
          have G7 := Lib.hid b7
          clear r2 b7 hl7 hC7
          go_wp2_with fail
          refine HD.out.mono ?_
          rintro e w8 ⟨rfl, b8⟩
          have G8 := Lib.hid (HR.out.trans (((G6.out.2.2.mono HR.out.size).trans (G7.out.mono (Nat.le_trans HR.out.size G6.out.2.2.size))).trans (b8.mono (Nat.le_trans HR.out.size (Nat.le_trans G6.out.2.2.size G7.out.size)))))
          clear b8 HD
          go_wp2_with fail
          exact ⟨⟨j + 1, by omega, by simp, G8⟩, by simp [intOf]; omega⟩
      · have dle : decide ((j : Int) ≤ (m2 : Int)) = false := decide_eq_false (by omega)
        have B6 := Lib.hid (And.intro (B5.out.1.trans (HR.out.mono B5.out.1.size)) (B5.out.2.trans (HR.out.mono B5.out.2.size)))
        have D := drop_any Aa ca X A2 m2 c2 s1 bottom wr (keepC G4.out.2 (Nat.le_refl _) B6.out.1) G4.out.1 H2.out.symm (keepC HC.out.2 (Nat.le_refl _) B6.out.2) (by omega)
        rw [HX.out.2.2.1] at D
        have HD := Lib.hid D
        clear D
        go_wp2_with fail
        refine HD.out.mono ?_
        rintro e w6 ⟨vb, rfl, rb, b6⟩
        obtain ⟨Ab, cb, hvb, hlb, hCb⟩ := Kd.R_reads rb
        subst hvb
        have G6 := Lib.hid (And.intro hlb (And.intro hCb (And.intro (B6.out.1.trans (b6.mono B6.out.1.size)) (B6.out.2.trans (b6.mono B6.out.2.size)))))
        clear rb b6 hlb hCb HD
        go_wp2_with fail
        have HD := Lib.hid (same_refl_w Aa X.length ca Ab X.length cb X w6 rfl rfl (keepC G4.out.2 (Nat.le_refl _) G6.out.2.2.1) G4.out.1 G6.out.2.1 G6.out.1 (by omega))
        refine HD.out.mono ?_
        rintro e w7 ⟨rfl, b7⟩
        have G7 := Lib.hid (G6.out.2.2.2.trans (b7.mono G6.out.2.2.2.size))
        clear b7 HD
        have D := drop_any A c l1 none 0 0 [] bottom w7 (keepC HC.out.1 (Nat.le_refl _) G7.out) (by rw [H1.out]; exact hmc) rfl ⟨rfl, by decide, fun h => absurd h (by decide)⟩ (by have := H1.out; omega)
        rw [H1.out, HX.out.2.2.2.1] at D
        have HD := Lib.hid D
        clear D
        go_wp2_with fail
        refine HD.out.mono ?_
        rintro e w8 ⟨vc, rfl, rc, b8⟩
        obtain ⟨Ac, cc, hvc, hlc, hCc⟩ := Kd.R_reads rc
        subst hvc
        have G8 := Lib.hid (And.intro hlc (And.intro hCc (G7.out.trans (b8.mono G7.out.size))))
        clear rc b8 hlc hCc HD
        go_wp2_with fail
        go_loopw [19] (fun t wr => ∃ j : Nat, t = .int .i64 (j : Int) ∧ (j ≤ Y.length) ∧ Hid (∃ q, wr = w8.drewN q)) (fun t _ => Y.length - (intOf t).toNat)
        case atStart => exact ⟨0, rfl, by omega, Lib.hid ⟨0, rfl⟩⟩
        case round =>
          obtain ⟨i, rfl, hi, HW⟩ := hrel
          obtain ⟨q, hq⟩ := HW.out
          subst hq
          have hw1 : IntKind.i64.wrap ((i : Int) + 1) = (i : Int) + 1 := by rw [IntWalk.i64_in _ (by omega)]
          by_cases hlt : i + 1 < Y.length
          · have dlt : decide ((i : Int) + 1 < (Y.length : Int)) = true := decide_eq_true (by omega)
            obtain ⟨ad, e, X0, _⟩ := at44 G8.out.2.1 i (by omega)
            obtain ⟨ad2, e2, Y0, _⟩ := at44 G8.out.2.1 (i + 1) (by omega)
            obtain rfl : ad = ad2 := by rw [e] at e2; injection e2
            subst e
            have hne : ((Y.getD i PC.z44).f0.f0.toList == (Y.getD (i + 1) PC.z44).f0.f0.toList) = false := by
              have h9 := List.pairwise_iff_getElem.1 HX.out.2.2.2.2.1 i (i + 1) (by omega) hlt (by omega)
              simp only [List.getD_eq_getElem?_getD, List.getElem?_eq_getElem (show i < Y.length by omega), List.getElem?_eq_getElem hlt, Option.getD_some]
              exact h9
            obtain ⟨x, hx⟩ : ∃ x, Y.getD i PC.z44 = x := ⟨_, rfl⟩
            obtain ⟨y, hy⟩ : ∃ y, Y.getD (i + 1) PC.z44 = y := ⟨_, rfl⟩
            rw [hx] at X0 hne
            rw [hy] at Y0 hne
            have p0 : (i < Y.length) = True := eq_true (by omega)
            have p1 : (i + 1 < Y.length) = True := eq_true hlt
            clear hx hy e2
            go_wp2_with fail
            go_quiet (fail)
            go_wp2
            exact ⟨⟨i + 1, by simp, by omega, Lib.hid ⟨_, rfl⟩⟩, by simp [intOf]; omega⟩
          · have dlt : decide ((i : Int) + 1 < (Y.length : Int)) = false := decide_eq_false (by omega)
            go_wp2_with fail
            go_ret
            exact ⟨by simp, below_drewN G8.out.2.2 _⟩
  · have hX : dropA s1 bottom l1 = ([], 160) := if_neg hup
    have HX := Lib.hid hX
    clear hX hup
    go_enter Try.func5, Try.ntmps5
    go_wp2_with fail
    refine (awake19_w _).mono ?_
    rintro e w1 ⟨rfl, b1⟩
    have B1 := Lib.hid b1
    clear b1
    go_wp2_with fail
    refine (HF.out _).mono ?_
    rintro e w1 ⟨rfl, rfl⟩
    have D := drop_any A c l1 A2 m2 c2 s1 bottom w1 (keepC HC.out.1 (Nat.le_refl _) B1.out) (by rw [H1.out]; exact hmc) H2.out.symm (keepC HC.out.2 (Nat.le_refl _) B1.out) (by have := H1.out; omega)
    rw [H1.out, HX.out] at D
    have HD := Lib.hid D
    clear D
    go_wp2_with fail
    refine HD.out.mono ?_
    rintro e w4 ⟨va, rfl, ra, b4⟩
    obtain ⟨Aa, ca, hva, hla, hCa⟩ := Kd.R_reads ra
    subst hva
    have B4 := Lib.hid (B1.out.trans (b4.mono B1.out.size))
    clear ra b4 hla hCa HD
    go_wp2_with fail
    go_ret
    exact ⟨by simp, B4.out⟩

theorem compactKeeps_row (a0 : Option Addr) (len0 cap0 : Nat) (a1 : Option Addr) (len1 cap1 : Nat) (a2 : Bool) (w : World)
    (F0 : ∃ A len cap xs, Value.slice a0 len0 cap0 = .slice A len cap ∧ Kd.C PC.k44 w A len xs ∧ len ≤ cap ∧ len * 48 ≤ 140737488351232 ∧ (∀ p ∈ xs, Fits p) ∧ (A = none → cap = 0))
    (F1 : ∃ A len cap xs, Value.slice a1 len1 cap1 = .slice A len cap ∧ Kd.C (Kd.int .u64) w A len xs ∧ len ≤ cap ∧ len * 8 ≤ 140737488351232 ∧ (∀ p ∈ xs, 0 ≤ p ∧ p ≤ 18446744073709551615) ∧ (A = none → cap = 0)) :
    Calls Try.prog 5 #[.slice a0 len0 cap0, .slice a1 len1 cap1, .bool a2] w fun e w' => e = .returned (.bool true) ∧ Below w.heap.size w w' := by
  obtain ⟨A, len, cap, xs, h0, h1, h2, _, h3, _⟩ := F0
  obtain ⟨A2, len2, cap2, xs2, k0, k1, k2, _, k3, _⟩ := F1
  cases h0
  cases k0
  exact compactKeeps_w _ _ _ xs _ _ _ xs2 a2 w h1 h2 k1 k2 (fun y hy => (h3 y hy).okN)

end Go.Proofs.Ytehoojmalhloeaa.CM
