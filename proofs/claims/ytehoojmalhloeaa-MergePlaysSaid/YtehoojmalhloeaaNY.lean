/- MergePlays: the walk. -/
import Derived.Test.YtehoojmalhloeaaNV
import Derived.Test.YtehoojmalhloeaaNX
namespace Go.Proofs.Ytehoojmalhloeaa.CM
open Go.RowKit Go.Proofs.YtehoojmalhloeaaW.PrintWords
set_option linter.unusedVariables false
set_option linter.unusedSimpArgs false
set_option maxRecDepth 100000

/-- The program's iterator and the document's, side by side. -/
structure Pl (w0 w : World) (X : Nat) (s : Sh) (q : Option Nat) (F : Nat → Prop) (Rb : Nat) (LA : Option Addr) (cp : Nat) (v : Int) : Prop where
  it : It w X s q F
  rf : Rf w Rb LA cp (upto s s.N) v
  n1 : ¬ F Rb
  n2 : ∀ a, LA = some a → ¬ F a.block
  lt : ∀ a, LA = some a → a.block < w.heap.size
  lo : ∀ b, F b → w0.heap.size ≤ b
  lo2 : w0.heap.size ≤ Rb
  bel : Below w0.heap.size w0 w
section
variable {w0 w w1 : World} {X Rb cp : Nat} {s : Sh} {q q' : Option Nat} {F : Nat → Prop} {LA : Option Addr} {v v' : Int}
theorem Pl.goes (h : Pl w0 w X s q F Rb LA cp v) (g : Goes w X s F q' w1) : ∃ F', Pl w0 w1 X s q' F' Rb LA cp v := by
  obtain ⟨F', h1, h2, h3⟩ := g
  have hs := h2.size
  refine ⟨F', h1, h.rf.fr h2 h.n1 h.n2, fun hF => ?_, fun a e hF => ?_, fun a e => by have := h.lt a e; omega, fun b hF => ?_, h.lo2, h.bel.trans (h2.to_below h.bel.size h.lo)⟩
  · rcases h3 _ hF with h4 | h4
    · exact h.n1 h4
    · have := h.rf.lt; omega
  · rcases h3 _ hF with h4 | h4
    · exact h.n2 a e h4
    · have := h.lt a e; omega
  · rcases h3 b hF with h4 | h4
    · exact h.lo b h4
    · have := h.bel.size; omega
theorem Pl.below (h : Pl w0 w X s q F Rb LA cp v) (hb : Below w.heap.size w w1) : Pl w0 w1 X s q F Rb LA cp v :=
  ⟨h.it.below hb, h.rf.below hb, h.n1, h.n2, fun a e => by have := h.lt a e; have := hb.size; omega, h.lo, h.lo2, h.bel.trans (hb.mono h.bel.size)⟩
theorem Pl.ref (h : Pl w0 w X s q F Rb LA cp v) (hr : Rf w1 Rb LA cp (upto s s.N) v') (hf : Fr (fun b => b = Rb) w w1) : Pl w0 w1 X s q F Rb LA cp v' :=
  ⟨h.it.fr hf (fun b _ hb hF => h.n1 (hb ▸ hF)), hr, h.n1, h.n2, fun a e => by have := h.lt a e; have := hf.size; omega, h.lo, h.lo2, h.bel.trans (hf.to_below h.bel.size (fun b hb => by have := h.lo2; omega))⟩
end
theorem refgo_w {w : World} {Rb cp : Nat} {LA : Option Addr} {L : List PC.S44} {at_ : Int} (h : Rf w Rb LA cp L at_) (kind : Int) (a : PC.S42) (h1 : 1 ≤ kind) (h5 : kind ≤ 5) (hat1 : -1 ≤ at_) (hat2 : at_ < L.length) :
    Calls Try.prog 45 #[.pointer (some ⟨Rb, 0, none⟩), .int .i64 kind, kv42 a] w (GoEnd w Rb cp LA L (refGo L kind a at_)) := by
  have hk : kind = 1 ∨ kind = 2 ∨ kind = 3 ∨ kind = 4 ∨ kind = 5 := by omega
  rcases hk with rfl | rfl | rfl | rfl | rfl
  · exact refgo1_w h a hat1 hat2
  · exact refgo2_w h a hat1 hat2
  · exact refgo3_w h a hat1 hat2
  · exact refgo4_w h a hat1 hat2
  · exact refgo5_w h a hat1 hat2
theorem atV_bounds {s : Sh} {q : Option Nat} (hq : ∀ p, q = some p → p < s.N) : -1 ≤ atV q ∧ atV q < (upto s s.N).length := by
  rw [upto_len]
  cases q with
  | none => exact ⟨by decide, by show (-1 : Int) < _; omega⟩
  | some p => have := hq p rfl; exact ⟨by show (-1 : Int) ≤ (p : Int); omega, by show (p : Int) < _; omega⟩
attribute [local go_sem high] eqV44
set_option maxHeartbeats 16000000 in
theorem mergePlays_w (A : Option Addr) (c : Nat) (L : List (List PC.S44)) (B : Option Addr) (d : Nat) (ways : List S63) (w : World) (hr : Kd.C (Kd.slice 44 PC.k44) w A L.length L) (hc : L.length ≤ c) (hw : Kd.C k63 w B ways.length ways) (hwl : ways.length ≤ 9223372036854775806) :
    Calls Try.prog 13 #[.slice A L.length c, .slice B ways.length d] w fun e w' => e = .returned (.bool true) ∧ Below w.heap.size w w' := by
  have HA := Lib.hid (And.intro hr (And.intro hc hw))
  clear hr hc hw
  go_enter Try.func13, Try.ntmps13
  go_wp2_with fail
  refine (awake16_w w).mono ?_
  rintro e w1 ⟨rfl, b⟩
  have H1 := Lib.hid (And.intro (keepC HA.out.1 (Nat.le_refl _) b) b)
  clear b
  go_wp2_with fail
  refine (few16_w A c L w1 H1.out.1 HA.out.2.1).mono ?_
  rintro e w2 ⟨A2, c2, rfl, h1, h2, h3⟩
  have hD1 := cut16_len L
  have hD2 := cut16_row L
  obtain ⟨D, hD⟩ : ∃ D, cut16 L = D := ⟨_, rfl⟩
  rw [hD] at h1 h2 hD1 hD2 ⊢
  have H2 := Lib.hid (And.intro h2 (And.intro hD2 (And.intro (H1.out.2.trans (h3.mono H1.out.2.size)) h1)))
  clear h1 h2 h3 hD2 hD
  go_wp2_with fail
  go_loopw [6, 7] (fun v t wr => ∃ i : Nat, i ≤ D.length ∧ t = .int .i64 (i : Int) ∧ Hid (Lent w2 D i v wr)) (fun _ t _ => D.length - (intOf t).toNat)
  case atStart => exact ⟨0, by omega, rfl, Lib.hid (Lent.nil w2 D w2 (Below.refl _ _))⟩
  case round =>
    obtain ⟨i, hi, rfl, HI⟩ := hrel
    have m1 : IntKind.i64.wrap ((i : Int) + 1) = (i : Int) + 1 := by rw [IntWalk.i64_in _ (by omega)]
    by_cases hlt : i < D.length
    · have hltz : (i : Int) < D.length := by omega
      obtain ⟨ad, A0, c0, e0, g0, g1, g2⟩ := PC.at_L6 (keepC H2.out.1 (Nat.le_refl _) HI.out.1) (i : Int) (by omega) (by omega)
      subst e0
      obtain ⟨l, hlD⟩ : ∃ l, PC.rd_L6 D (i : Int) = l := ⟨_, rfl⟩
      rw [hlD] at g0 g1 g2
      simp only [Int.toNat_natCast] at g0
      have hlD' : D.getD i [] = l := by rw [← hlD]; simp [PC.rd_L6]
      have hll : l.length ≤ 200 := by rw [← hlD']; exact H2.out.2.1 i
      obtain ⟨A1, k1, w3, hrun1, v2, w4, hrun2, hL⟩ := HI.out.push (c0 := c0) hlD' g2 hll (by omega)
      have g0' := (cell_up (o := .cells #[] 44) g0)
      have HL := Lib.hid hL
      have p0 : ((i : Int) < D.length) = True := eq_true hltz
      have p1 : (0 ≤ (i : Int)) = True := by simp
      have p2 : (i < D.length) = True := eq_true hlt
      clear hlD hlD' hll g1 g2 hL
      go_wp2_with (first | (at_builtin; refine wpList_append_run _ rfl (.tmp 31) (.tmp 35) 22 rfl _ _ _ _ rfl rfl hrun1 ?_; clear hrun1) | (at_builtin; refine wpList_append_run _ rfl (.tmp 30) (.tmp 37) 32 rfl _ _ _ _ rfl rfl hrun2 ?_; clear hrun2))
      refine ⟨⟨i + 1, by omega, by simp, HL⟩, by simp [intOf]; omega⟩
    · obtain rfl : i = D.length := by omega
      have hltz : decide ((D.length : Int) < (D.length : Int)) = false := decide_eq_false (by omega)
      obtain ⟨A3, c3, hv, hc3, hC3⟩ := HI.out.reads hD1
      have HZ := Lib.hid (And.intro HI.out.zer HI.out.1)
      subst hv
      have HN := Lib.hid (new_w A3 c3 D wr hC3 (by omega) (fun j _ => by have := H2.out.2.1 j; omega))
      obtain ⟨m0, hm0⟩ : ∃ m, w2.heap.size = m := ⟨_, rfl⟩
      obtain ⟨mE, hmE⟩ : ∃ m, wr.heap.size = m := ⟨_, rfl⟩
      have HM := Lib.hid (And.intro hm0 hmE)
      rw [hm0, hmE] at HZ
      clear hC3 hc3 HI hm0 hmE
      obtain ⟨w3, rfl⟩ : ∃ w3, w3 = wr := ⟨_, rfl⟩
      go_wp2_with fail
      refine HN.out.mono ?_
      rintro e w4 (⟨rfl, hbad, b⟩ | ⟨X, s, rfl, hris, hL, hM⟩)
      · have HB := Lib.hid (And.intro hbad b)
        have HZ4 := Lib.hid (HZ.out.1.below b)
        clear hbad b HN
        go_wp2_with fail
        go_loopw [10] (fun t wr => ∃ i : Nat, i ≤ D.length ∧ t = .int .i64 (i : Int) ∧ Hid (Zer m0 mE D (.slice A3 D.length c3) wr ∧ Fr (fun b => m0 ≤ b ∧ b < mE) w4 wr)) (fun t _ => D.length - (intOf t).toNat)
        case atStart => exact ⟨0, by omega, rfl, Lib.hid ⟨HZ4.out, Fr.refl _ _⟩⟩
        case round =>
          obtain ⟨i, hi, rfl, HI⟩ := hrel
          have m1 : IntKind.i64.wrap ((i : Int) + 1) = (i : Int) + 1 := by rw [IntWalk.i64_in _ (by omega)]
          obtain ⟨Wo, rfl⟩ : ∃ Wo, Wo = wr := ⟨_, rfl⟩
          by_cases hlt : i < D.length
          · have hltz : (i : Int) < D.length := by omega
            have p0 : ((i : Int) < D.length) = True := eq_true hltz
            have p1 : (0 ≤ (i : Int)) = True := by simp
            have p2 : (i < D.length) = True := eq_true hlt
            obtain ⟨o, _, _, rfl, _, _, _⟩ := HI.out.1.row hlt
            obtain ⟨l, hlD⟩ : ∃ l, D.getD i [] = l := ⟨_, rfl⟩
            have hll : l.length ≤ 200 := by rw [← hlD]; exact H2.out.2.1 i
            have Hl := Lib.hid hlD
            clear hlD
            go_wp2_with fail
            go_loopw [11] (fun t wr => ∃ k : Nat, k ≤ l.length ∧ t = .int .i64 (k : Int) ∧ Hid (Zer m0 mE D (.slice (some ⟨o, 0, none⟩) D.length c3) wr ∧ Fr (fun b => m0 ≤ b ∧ b < mE) w4 wr)) (fun t _ => l.length - (intOf t).toNat)
            case atStart => exact ⟨0, by omega, rfl, Lib.hid HI.out⟩
            case round =>
              obtain ⟨k, hk, rfl, HK⟩ := hrel
              have m2 : IntKind.i64.wrap ((k : Int) + 1) = (k : Int) + 1 := by rw [IntWalk.i64_in _ (by omega)]
              obtain ⟨o', Ak, ck, eo, _, hrow, hin⟩ := HK.out.1.row hlt
              cases eo
              rw [Hl.out] at hrow hin
              by_cases hkl : k < l.length
              · obtain ⟨g, cells, rfl, h5, h6, h7, h8⟩ := hin (by omega)
                obtain ⟨u0, b0⟩ := cells_at (m := k * 4) h7 (by omega)
                obtain ⟨u1, b1⟩ := cells_at (m := k * 4 + 1) h7 (by omega)
                obtain ⟨u2, b2⟩ := cells_at (m := k * 4 + 2) h7 (by omega)
                obtain ⟨u3, b3⟩ := cells_at (m := k * 4 + 3) h7 (by omega)
                have f0 := cells_fr (m := k * 4) h7
                have f1 := cells_fr (m := k * 4 + 1) h7
                have f2 := cells_fr (m := k * 4 + 2) h7
                have f3 := cells_fr (m := k * 4 + 3) h7
                have q0 : decide ((k : Int) < l.length) = true := decide_eq_true (by omega)
                have q1 : ((k : Int) < l.length) = True := eq_true (by omega)
                have q2 : (0 ≤ (k : Int)) = True := by simp
                have q3 : (k < l.length) = True := eq_true hkl
                have H7 := Lib.hid (And.intro h5 (And.intro h6 h7))
                clear hin h5 h6 h7 h8
                go_wp2_with fail
                refine ⟨⟨k + 1, by omega, by simp, Lib.hid ⟨HK.out.1.set4 H7.out.2.2 _ _ _ _, ?_⟩⟩, by simp [intOf]; omega⟩
                have hP : m0 ≤ g ∧ g < mE := ⟨H7.out.1, H7.out.2.1⟩
                exact (((HK.out.2.set _ _ hP).set _ _ hP).set _ _ hP).set _ _ hP
              · have q0 : decide ((k : Int) < l.length) = false := decide_eq_false (by omega)
                clear hin
                go_wp2_with fail
                refine ⟨⟨i + 1, by omega, by simp, HK⟩, by simp [intOf]; omega⟩
          · obtain rfl : i = D.length := by omega
            have hltz : decide ((D.length : Int) < (D.length : Int)) = false := decide_eq_false (by omega)
            have HQ := Lib.hid HI.out.2
            clear HI HZ4
            have hsz3 : m0 ≤ mE := by rw [← HM.out.1, ← HM.out.2]; exact HZ.out.2.size
            have B2 : Below w2.heap.size w2 Wo := by
              have h2' := HZ.out.2
              rw [← HM.out.1] at h2'
              have h4 := h2'.trans (HB.out.2.mono h2'.size)
              exact h4.trans (HQ.out.to_below h4.size (fun b hb => by have := HM.out.1; omega))
            have HB2 := Lib.hid B2
            clear B2
            go_wp2_with fail
            refine (refnew_w A2 c2 D Wo (keepC H2.out.1 (Nat.le_refl _) HB2.out) H2.out.2.2.2 hD1 H2.out.2.1).mono ?_
            rintro e w5 (⟨rfl, _, b⟩ | ⟨Rb, LA, cp, rfl, hris, _⟩)
            · have HE := Lib.hid (HB2.out.trans (b.mono HB2.out.size))
              clear b
              go_wp2_with fail
              go_ret
              exact ⟨rfl, H2.out.2.2.1.trans (HE.out.mono H2.out.2.2.1.size)⟩
            · exfalso
              obtain ⟨j, hj, hf⟩ := HB.out.1
              rw [hris j hj] at hf
              cases hf
      · have HB := Lib.hid hM.bel
        have HZ4 := Lib.hid (HZ.out.1.below hM.bel)
        have N0 := hM.nw (fun j hj => by show risesB (s.L.getD j []) = true; rw [hL]; exact hris j (by rw [← hL]; exact hj))
        obtain ⟨F0, hF0⟩ : ∃ F, Foot X s (.slice none 0 0) = F := ⟨_, rfl⟩
        rw [hF0] at N0
        have HR := Lib.hid (And.intro hris hL)
        have HX := Lib.hid N0
        clear N0 hF0 hM hris hL HN
        go_wp2_with fail
        go_loopw [10] (fun t wr => ∃ i : Nat, i ≤ D.length ∧ t = .int .i64 (i : Int) ∧ Hid (Zer m0 mE D (.slice A3 D.length c3) wr ∧ Fr (fun b => m0 ≤ b ∧ b < mE) w4 wr)) (fun t _ => D.length - (intOf t).toNat)
        case atStart => exact ⟨0, by omega, rfl, Lib.hid ⟨HZ4.out, Fr.refl _ _⟩⟩
        case round =>
          obtain ⟨i, hi, rfl, HI⟩ := hrel
          have m1 : IntKind.i64.wrap ((i : Int) + 1) = (i : Int) + 1 := by rw [IntWalk.i64_in _ (by omega)]
          obtain ⟨Wo, rfl⟩ : ∃ Wo, Wo = wr := ⟨_, rfl⟩
          by_cases hlt : i < D.length
          · have hltz : (i : Int) < D.length := by omega
            have p0 : ((i : Int) < D.length) = True := eq_true hltz
            have p1 : (0 ≤ (i : Int)) = True := by simp
            have p2 : (i < D.length) = True := eq_true hlt
            obtain ⟨o, _, _, rfl, _, _, _⟩ := HI.out.1.row hlt
            obtain ⟨l, hlD⟩ : ∃ l, D.getD i [] = l := ⟨_, rfl⟩
            have hll : l.length ≤ 200 := by rw [← hlD]; exact H2.out.2.1 i
            have Hl := Lib.hid hlD
            clear hlD
            go_wp2_with fail
            go_loopw [11] (fun t wr => ∃ k : Nat, k ≤ l.length ∧ t = .int .i64 (k : Int) ∧ Hid (Zer m0 mE D (.slice (some ⟨o, 0, none⟩) D.length c3) wr ∧ Fr (fun b => m0 ≤ b ∧ b < mE) w4 wr)) (fun t _ => l.length - (intOf t).toNat)
            case atStart => exact ⟨0, by omega, rfl, Lib.hid HI.out⟩
            case round =>
              obtain ⟨k, hk, rfl, HK⟩ := hrel
              have m2 : IntKind.i64.wrap ((k : Int) + 1) = (k : Int) + 1 := by rw [IntWalk.i64_in _ (by omega)]
              obtain ⟨o', Ak, ck, eo, _, hrow, hin⟩ := HK.out.1.row hlt
              cases eo
              rw [Hl.out] at hrow hin
              by_cases hkl : k < l.length
              · obtain ⟨g, cells, rfl, h5, h6, h7, h8⟩ := hin (by omega)
                obtain ⟨u0, b0⟩ := cells_at (m := k * 4) h7 (by omega)
                obtain ⟨u1, b1⟩ := cells_at (m := k * 4 + 1) h7 (by omega)
                obtain ⟨u2, b2⟩ := cells_at (m := k * 4 + 2) h7 (by omega)
                obtain ⟨u3, b3⟩ := cells_at (m := k * 4 + 3) h7 (by omega)
                have f0 := cells_fr (m := k * 4) h7
                have f1 := cells_fr (m := k * 4 + 1) h7
                have f2 := cells_fr (m := k * 4 + 2) h7
                have f3 := cells_fr (m := k * 4 + 3) h7
                have q0 : decide ((k : Int) < l.length) = true := decide_eq_true (by omega)
                have q1 : ((k : Int) < l.length) = True := eq_true (by omega)
                have q2 : (0 ≤ (k : Int)) = True := by simp
                have q3 : (k < l.length) = True := eq_true hkl
                have H7 := Lib.hid (And.intro h5 (And.intro h6 h7))
                clear hin h5 h6 h7 h8
                go_wp2_with fail
                refine ⟨⟨k + 1, by omega, by simp, Lib.hid ⟨HK.out.1.set4 H7.out.2.2 _ _ _ _, ?_⟩⟩, by simp [intOf]; omega⟩
                have hP : m0 ≤ g ∧ g < mE := ⟨H7.out.1, H7.out.2.1⟩
                exact (((HK.out.2.set _ _ hP).set _ _ hP).set _ _ hP).set _ _ hP
              · have q0 : decide ((k : Int) < l.length) = false := decide_eq_false (by omega)
                clear hin
                go_wp2_with fail
                refine ⟨⟨i + 1, by omega, by simp, HK⟩, by simp [intOf]; omega⟩
          · obtain rfl : i = D.length := by omega
            have hltz : decide ((D.length : Int) < (D.length : Int)) = false := decide_eq_false (by omega)
            have HQ := Lib.hid HI.out.2
            clear HI HZ4
            have hsz3 : m0 ≤ mE := by rw [← HM.out.1, ← HM.out.2]; exact HZ.out.2.size
            have B2 : Below w2.heap.size w2 Wo := by
              have h2' := HZ.out.2
              rw [← HM.out.1] at h2'
              have h4 := h2'.trans (HB.out.mono h2'.size)
              exact h4.trans (HQ.out.to_below h4.size (fun b hb => by have := HM.out.1; omega))
            have HB2 := Lib.hid B2
            clear B2
            have hWo : w4.heap.size ≤ Wo.heap.size := HQ.out.size
            have itW := HX.out.it.fr HQ.out (fun b _ hP hF => by have := HX.out.lo b hF; have := HM.out.2; omega)
            have HI4 := Lib.hid itW
            clear itW
            go_wp2_with fail
            refine (refnew_w A2 c2 D Wo (keepC H2.out.1 (Nat.le_refl _) HB2.out) H2.out.2.2.2 hD1 H2.out.2.1).mono ?_
            rintro e w5 (⟨rfl, ⟨j, hj, hf⟩, _⟩ | ⟨Rb, LA, cp, rfl, _, hRf, b, hRb, hLA⟩)
            · exfalso
              rw [HR.out.1 j hj] at hf
              cases hf
            · have hP : Pl w2 w5 X s none F0 Rb LA cp (atV none) := by
                have hF : ∀ b, F0 b → b < Wo.heap.size := fun b hb => by have := HX.out.it.lt hb; omega
                refine ⟨HI4.out.below b, ?_, fun h => ?_, fun a e h => ?_, fun a e => (hLA a e).2, fun b hb => ?_, ?_, HB2.out.trans (b.mono HB2.out.size)⟩
                · rw [← allL_upto, HR.out.2]; exact hRf
                · have := hF _ h; omega
                · have := hF _ h; have := (hLA a e).1; omega
                · have := HX.out.lo b hb; have := HZ.out.2.size; omega
                · have := HB2.out.size; omega
              have S5 := Lib.hid hP
              clear hP hRf b hRb hLA hWo hsz3
              go_wp2_with fail
              refine (at_q S5.out.it).mono ?_
              rintro e w6 ⟨rfl, b⟩
              rw [show told s none = (PC.z44, false) from rfl]
              obtain ⟨z, hz⟩ : ∃ y, PC.z44 = y := ⟨_, rfl⟩
              rw [hz]
              clear hz
              simp only [val44]
              obtain ⟨W7, hW7⟩ : ∃ W7, w6.alloc (.cells #[.string z.f0.f0, .int .u64 z.f0.f1, .int .i64 z.f0.f2, .string z.f1] 44) = W7 := ⟨_, rfl⟩
              have bl7 : Below w6.heap.size w6 W7 := by rw [← hW7]; exact (Below.refl _ _).alloc (Nat.le_refl _) _
              have S7 := Lib.hid ((S5.out.below b).below bl7)
              clear b bl7
              go_wp2_with (first | rw [hW7])
              go_loopw [16] (fun t wr => ∃ i : Nat, i ≤ ways.length ∧ t = .int .i64 (i : Int) ∧ Hid (∃ q F, Pl w2 wr X s q F Rb LA cp (atV q) ∧ ∀ p, q = some p → p < s.N)) (fun t _ => ways.length - (intOf t).toNat)
              case atStart => exact ⟨0, by omega, rfl, Lib.hid ⟨none, F0, S7.out, fun p h => by cases h⟩⟩
              case round =>
                obtain ⟨i, hi, rfl, HI⟩ := hrel
                have m1 : IntKind.i64.wrap ((i : Int) + 1) = (i : Int) + 1 := by rw [IntWalk.i64_in _ (by omega)]
                obtain ⟨q, F1, hS, hq⟩ := HI.out
                have S1 := Lib.hid hS
                have HQ1 := Lib.hid hq
                clear hS hq HI
                by_cases hlt : i < ways.length
                · have hltz : decide ((i : Int) < ways.length) = true := decide_eq_true (by omega)
                  obtain ⟨y, hy⟩ : ∃ y, ways.getD i z63 = y := ⟨_, rfl⟩
                  have hrow : ∃ ad, B = some ad ∧ ∀ W : World, Below w.heap.size w W → W.cell? (ad.add (i * 4)) = some (.int .i64 y.kind) ∧ W.cell? ⟨(ad.add (i * 4)).block, (ad.add (i * 4)).off + 1, none⟩ = some (.string y.k.f0) ∧ W.cell? ⟨(ad.add (i * 4)).block, (ad.add (i * 4)).off + 2, none⟩ = some (.int .u64 y.k.f1) ∧ W.cell? ⟨(ad.add (i * 4)).block, (ad.add (i * 4)).off + 3, none⟩ = some (.int .i64 y.k.f2) := by
                    obtain ⟨ad, e, _⟩ := at63 HA.out.2.2 i hlt
                    refine ⟨ad, e, fun W hb => ?_⟩
                    obtain ⟨ad', e', h⟩ := at63 (keepC HA.out.2.2 (Nat.le_refl _) hb) i hlt
                    rw [e] at e'
                    obtain rfl : ad = ad' := by injection e'
                    rw [hy] at h
                    exact h
                  obtain ⟨ad, rfl, hrow⟩ := hrow
                  have HW := Lib.hid hrow
                  clear hrow hy
                  have hbw : ∀ W, Below w2.heap.size w2 W → Below w.heap.size w W := fun W hb => H2.out.2.2.1.trans (hb.mono H2.out.2.2.1.size)
                  have HBW := Lib.hid hbw
                  obtain ⟨z0, z1, z2, z3⟩ := HW.out _ (hbw _ S1.out.bel)
                  have p0 : ((i : Int) < ways.length) = True := eq_true (by omega)
                  have p1 : (0 ≤ (i : Int)) = True := by simp
                  have p2 : (i < ways.length) = True := eq_true hlt
                  clear hbw
                  go_wp2_with fail
                  refine (gone_w S1.out.it y.kind y.k).mono ?_
                  rintro e w6b ⟨rfl, g⟩
                  obtain ⟨F2, hP⟩ := S1.out.goes g
                  have S2 := Lib.hid hP
                  have HQ9 := Lib.hid (goQ_lt (s := s) (kind := y.kind) (a := y.k) HQ1.out)
                  obtain ⟨q', hq'⟩ : ∃ q', goQ s y.kind y.k q = q' := ⟨_, rfl⟩
                  obtain ⟨x, tb, hxt⟩ : ∃ x tb, told s q' = (x, tb) := ⟨_, _, rfl⟩
                  have HT := Lib.hid hxt
                  have Hq' := Lib.hid hq'
                  rw [hq'] at S2 HQ9
                  clear z0 z1 z2 z3 g hP hxt hq'
                  obtain ⟨z0, z1, z2, z3⟩ := HW.out _ (HBW.out _ S2.out.bel)
                  obtain ⟨kd, hkd⟩ : ∃ kd, y.kind = kd := ⟨_, rfl⟩
                  have Hkd := Lib.hid hkd
                  rw [hkd] at z0
                  clear hkd
                  by_cases h1 : 1 ≤ kd
                  · have d1 : decide (1 ≤ kd) = true := decide_eq_true h1
                    by_cases h5 : kd ≤ 5
                    · have d5 : decide (kd ≤ 5) = true := decide_eq_true h5
                      have bdr : Below w6b.heap.size w6b w6b.drew := (Below.refl _ _).drew
                      have SD := S2.out.below bdr
                      have hat := atV_bounds HQ1.out
                      have K := refgo_w SD.rf kd y.k h1 h5 hat.1 hat.2
                      rw [← Hkd.out, refGo_at (by rw [Hkd.out]; exact h1) (by rw [Hkd.out]; exact h5) HQ1.out, Hq'.out, Hkd.out] at K
                      unfold kv42 at K
                      have HK := Lib.hid K
                      have HSD := Lib.hid SD
                      have zd := HW.out _ (HBW.out _ SD.bel)
                      rw [Hkd.out] at zd
                      have HX2 := Lib.hid zd
                      clear K SD bdr zd hat
                      go_wp2_with fail
                      go_region_held3 (fun w' => w'.cell? (ad.add (i * 4)) = some (.int .i64 kd) ∧ w'.cell? ⟨(ad.add (i * 4)).block, (ad.add (i * 4)).off + 1, none⟩ = some (.string y.k.f0) ∧ w'.cell? ⟨(ad.add (i * 4)).block, (ad.add (i * 4)).off + 2, none⟩ = some (.int .u64 y.k.f1) ∧ w'.cell? ⟨(ad.add (i * 4)).block, (ad.add (i * 4)).off + 3, none⟩ = some (.int .i64 y.k.f2)) (first | exact HX2.out | exact HX3.out) (first | (go_at_call 45; refine Calls.mono HK.out ?_; rintro e w7 ⟨rfl, hR7, hF7⟩; have hP7 := HSD.out.ref hR7 hF7; have zz := HW.out _ (HBW.out _ hP7.bel); rw [Hkd.out] at zz; have HX3 := Lib.hid zz; have S8 := Lib.hid hP7; clear hR7 hF7 hP7 zz))
                      clear HX2 HX3 HK
                      go_wp2_with fail
                      refine (at_q S8.out.it).mono ?_
                      rintro e w8 ⟨rfl, b8⟩
                      rw [HT.out]
                      simp only [val44]
                      obtain ⟨W9, hW9⟩ : ∃ W9, w8.alloc (.cells #[.string x.f0.f0, .int .u64 x.f0.f1, .int .i64 x.f0.f2, .string x.f1] 44) = W9 := ⟨_, rfl⟩
                      have bl9 : Below w8.heap.size w8 W9 := by rw [← hW9]; exact (Below.refl _ _).alloc (Nat.le_refl _) _
                      have k9 : W9.heap[w8.heap.size]? = some (obj x) := by rw [← hW9]; exact World.alloc_heap_new w8 _
                      have S9 := Lib.hid ((S8.out.below b8).below bl9)
                      have K9 := Lib.hid k9
                      clear b8 bl9 k9 z0 z1 z2 z3
                      go_wp2_with (first | rw [hW9])
                      refine (told_w S9.out.rf HQ9.out).mono ?_
                      rintro e wa ⟨rfl, ba⟩
                      rw [HT.out]
                      simp only [val44]
                      obtain ⟨Wb, hWb⟩ : ∃ Wb, wa.alloc (.cells #[.string x.f0.f0, .int .u64 x.f0.f1, .int .i64 x.f0.f2, .string x.f1] 44) = Wb := ⟨_, rfl⟩
                      have blb : Below wa.heap.size wa Wb := by rw [← hWb]; exact (Below.refl _ _).alloc (Nat.le_refl _) _
                      have kb : Wb.heap[wa.heap.size]? = some (obj x) := by rw [← hWb]; exact World.alloc_heap_new wa _
                      obtain ⟨a0, a1, a2, a3⟩ := obj_cells (blk_below (blk_below K9.out ba) blb)
                      obtain ⟨b0, b1, b2, b3⟩ := obj_cells kb
                      have Sb := Lib.hid ((S9.out.below ba).below blb)
                      have hE := eqB_self x
                      clear ba blb kb
                      go_wp2_with (first | rw [hWb])
                      exact ⟨⟨i + 1, by omega, by simp, Lib.hid ⟨_, _, Sb.out, HQ9.out⟩⟩, by simp [intOf]; omega⟩
                    · have d5 : decide (kd ≤ 5) = false := decide_eq_false h5
                      have S8' := S2.out
                      rw [show q = q' from by rw [← Hq'.out]; unfold goQ; rw [Hkd.out, if_neg (by omega), if_neg (by omega), if_neg (by omega), if_neg (by omega), if_neg (by omega)]] at S8'
                      have S8 := Lib.hid S8'
                      clear S8'
                      go_wp2_with fail
                      refine (at_q S8.out.it).mono ?_
                      rintro e w8 ⟨rfl, b8⟩
                      rw [HT.out]
                      simp only [val44]
                      obtain ⟨W9, hW9⟩ : ∃ W9, w8.alloc (.cells #[.string x.f0.f0, .int .u64 x.f0.f1, .int .i64 x.f0.f2, .string x.f1] 44) = W9 := ⟨_, rfl⟩
                      have bl9 : Below w8.heap.size w8 W9 := by rw [← hW9]; exact (Below.refl _ _).alloc (Nat.le_refl _) _
                      have k9 : W9.heap[w8.heap.size]? = some (obj x) := by rw [← hW9]; exact World.alloc_heap_new w8 _
                      have S9 := Lib.hid ((S8.out.below b8).below bl9)
                      have K9 := Lib.hid k9
                      clear b8 bl9 k9 z0 z1 z2 z3
                      go_wp2_with (first | rw [hW9])
                      refine (told_w S9.out.rf HQ9.out).mono ?_
                      rintro e wa ⟨rfl, ba⟩
                      rw [HT.out]
                      simp only [val44]
                      obtain ⟨Wb, hWb⟩ : ∃ Wb, wa.alloc (.cells #[.string x.f0.f0, .int .u64 x.f0.f1, .int .i64 x.f0.f2, .string x.f1] 44) = Wb := ⟨_, rfl⟩
                      have blb : Below wa.heap.size wa Wb := by rw [← hWb]; exact (Below.refl _ _).alloc (Nat.le_refl _) _
                      have kb : Wb.heap[wa.heap.size]? = some (obj x) := by rw [← hWb]; exact World.alloc_heap_new wa _
                      obtain ⟨a0, a1, a2, a3⟩ := obj_cells (blk_below (blk_below K9.out ba) blb)
                      obtain ⟨b0, b1, b2, b3⟩ := obj_cells kb
                      have Sb := Lib.hid ((S9.out.below ba).below blb)
                      have hE := eqB_self x
                      clear ba blb kb
                      go_wp2_with (first | rw [hWb])
                      exact ⟨⟨i + 1, by omega, by simp, Lib.hid ⟨_, _, Sb.out, HQ9.out⟩⟩, by simp [intOf]; omega⟩
                  · have d1 : decide (1 ≤ kd) = false := decide_eq_false h1
                    have S8' := S2.out
                    rw [show q = q' from by rw [← Hq'.out]; unfold goQ; rw [Hkd.out, if_neg (by omega), if_neg (by omega), if_neg (by omega), if_neg (by omega), if_neg (by omega)]] at S8'
                    have S8 := Lib.hid S8'
                    clear S8'
                    go_wp2_with fail
                    refine (at_q S8.out.it).mono ?_
                    rintro e w8 ⟨rfl, b8⟩
                    rw [HT.out]
                    simp only [val44]
                    obtain ⟨W9, hW9⟩ : ∃ W9, w8.alloc (.cells #[.string x.f0.f0, .int .u64 x.f0.f1, .int .i64 x.f0.f2, .string x.f1] 44) = W9 := ⟨_, rfl⟩
                    have bl9 : Below w8.heap.size w8 W9 := by rw [← hW9]; exact (Below.refl _ _).alloc (Nat.le_refl _) _
                    have k9 : W9.heap[w8.heap.size]? = some (obj x) := by rw [← hW9]; exact World.alloc_heap_new w8 _
                    have S9 := Lib.hid ((S8.out.below b8).below bl9)
                    have K9 := Lib.hid k9
                    clear b8 bl9 k9 z0 z1 z2 z3
                    go_wp2_with (first | rw [hW9])
                    refine (told_w S9.out.rf HQ9.out).mono ?_
                    rintro e wa ⟨rfl, ba⟩
                    rw [HT.out]
                    simp only [val44]
                    obtain ⟨Wb, hWb⟩ : ∃ Wb, wa.alloc (.cells #[.string x.f0.f0, .int .u64 x.f0.f1, .int .i64 x.f0.f2, .string x.f1] 44) = Wb := ⟨_, rfl⟩
                    have blb : Below wa.heap.size wa Wb := by rw [← hWb]; exact (Below.refl _ _).alloc (Nat.le_refl _) _
                    have kb : Wb.heap[wa.heap.size]? = some (obj x) := by rw [← hWb]; exact World.alloc_heap_new wa _
                    obtain ⟨a0, a1, a2, a3⟩ := obj_cells (blk_below (blk_below K9.out ba) blb)
                    obtain ⟨b0, b1, b2, b3⟩ := obj_cells kb
                    have Sb := Lib.hid ((S9.out.below ba).below blb)
                    have hE := eqB_self x
                    clear ba blb kb
                    go_wp2_with (first | rw [hWb])
                    exact ⟨⟨i + 1, by omega, by simp, Lib.hid ⟨_, _, Sb.out, HQ9.out⟩⟩, by simp [intOf]; omega⟩
                · obtain rfl : i = ways.length := by omega
                  have hltz : decide ((ways.length : Int) < (ways.length : Int)) = false := decide_eq_false (by omega)
                  go_wp2_with fail
                  go_ret
                  exact ⟨rfl, H2.out.2.2.1.trans (S1.out.bel.mono H2.out.2.2.1.size)⟩
end Go.Proofs.Ytehoojmalhloeaa.CM
