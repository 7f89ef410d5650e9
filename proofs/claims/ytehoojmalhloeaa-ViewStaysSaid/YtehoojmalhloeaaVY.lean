/- ViewStays: the walk. No condition. -/
import Derived.Test.YtehoojmalhloeaaVU
import Derived.Test.YtehoojmalhloeaaVX
namespace Go.Proofs.Ytehoojmalhloeaa.CM
open Go.RowKit Go.Proofs.YtehoojmalhloeaaW.PrintWords
set_option linter.unusedVariables false
set_option linter.unusedSimpArgs false
set_option maxRecDepth 100000
def lowF (seq : Int) (l : List PC.S44) : List PC.S44 := l.filter (fun x => decide (x.f0.f1 ≤ seq))
theorem lowF_len (seq : Int) (l : List PC.S44) : (lowF seq l).length ≤ l.length := List.length_filter_le _ _
theorem lowF_yes {seq : Int} {l : List PC.S44} {n : Nat} {x : PC.S44} (hx : l[n]? = some x) (h : x.f0.f1 ≤ seq) : lowF seq (l.take n) ++ [x] = lowF seq (l.take (n + 1)) := by
  rw [List.take_add_one, hx]; unfold lowF; rw [List.filter_append]; simp [h]
theorem lowF_no {seq : Int} {l : List PC.S44} {n : Nat} {x : PC.S44} (hx : l[n]? = some x) (h : ¬ x.f0.f1 ≤ seq) : lowF seq (l.take n) = lowF seq (l.take (n + 1)) := by
  rw [List.take_add_one, hx]; unfold lowF; rw [List.filter_append]; simp [h]
theorem perm_with {J a b : List PC.S44} {n : Nat} {y : PC.S44} (h : J.Perm (a ++ b.take n)) (hy : b[n]? = some y) : (withL y J).Perm (a ++ b.take (n + 1)) := by
  refine (withL_perm y J).trans ((h.cons y).trans ?_)
  rw [List.take_add_one, hy, ← List.append_assoc]
  exact (List.perm_append_singleton y _).symm
/-- Are two keys one? -/
def eqK (a b : PC.S42) : Bool := a.f0.toList == b.f0.toList && (a.f1 == b.f1 && a.f2 == b.f2)
theorem eqV42 (d : Nat) (w : World) (a b : PC.S42) :
    (Op.equalIn (d + 2) 42 (.agg #[.string a.f0, .int .u64 a.f1, .int .i64 a.f2]) (.agg #[.string b.f0, .int .u64 b.f1, .int .i64 b.f2])).run Try.prog w = .ok (eqK a b) w := PC.eqA42 d w _ _ _ _ _ _
theorem eqK_E {x y : PC.S44} (h : E y x) : eqK x.f0 y.f0 = true := by
  obtain ⟨h1, h2, h3⟩ := h
  have h1 : y.f0.f0.toList = x.f0.f0.toList := by simpa [sameU] using h1
  unfold eqK
  rw [h1, h2, h3]
  simp
attribute [local go_sem high] eqV42
set_option maxHeartbeats 32000000 in
theorem viewStays_w (A B : Option Addr) (c d : Nat) (a b : List PC.S44) (seq : Int) (w : World) (hra : Kd.C PC.k44 w A a.length a) (hca : a.length ≤ c) (hrb : Kd.C PC.k44 w B b.length b) (hcb : b.length ≤ d) (hF : ∀ x ∈ a ++ b, Fits x) :
    Calls Try.prog 15 #[.slice A a.length c, .slice B b.length d, .int .u64 seq] w fun e w' => e = .returned (.bool true) ∧ Below w.heap.size w w' := by
  have HA := Lib.hid (And.intro hra hca)
  have HB := Lib.hid (And.intro hrb hcb)
  have HF := Lib.hid hF
  clear hra hca hrb hcb hF
  go_enter Try.func15, Try.ntmps15
  go_wp2_with fail
  refine (awake17_w w).mono ?_
  rintro e w1 ⟨rfl, bb⟩
  have H1 := Lib.hid (And.intro (keepC HA.out.1 (Nat.le_refl _) bb) (And.intro (keepC HB.out.1 (Nat.le_refl _) bb) bb))
  clear bb
  by_cases ha : 200 < a.length
  · have d0 : decide (200 < (a.length : Int)) = true := decide_eq_true (by omega)
    have d1 : decide (200 < a.length) = true := decide_eq_true ha
    go_wp2_with fail
    go_ret
    exact ⟨rfl, H1.out.2.2⟩
  have d0 : decide (200 < (a.length : Int)) = false := decide_eq_false (by omega)
  have d1 : decide (200 < a.length) = false := decide_eq_false ha
  by_cases hb : 200 < b.length
  · have d2 : decide (200 < (b.length : Int)) = true := decide_eq_true (by omega)
    have d3 : decide (200 < b.length) = true := decide_eq_true hb
    go_wp2_with fail
    go_ret
    exact ⟨rfl, H1.out.2.2⟩
  have d2 : decide (200 < (b.length : Int)) = false := decide_eq_false (by omega)
  have d3 : decide (200 < b.length) = false := decide_eq_false hb
  obtain ⟨v2, w3, hrun, hR3, hg3, hat3⟩ := run_append44 (c := c) 22 (R_empty44 w1 w1.heap.size (Nat.le_refl _)) (keepC H1.out.1 (Nat.le_refl _) ((Below.refl _ w1).alloc (Nat.le_refl _) _)) (by simp; omega) (by simp)
  have hB3 : Below w1.heap.size w1 w3 := ((Below.refl _ w1).alloc (Nat.le_refl _) _).grown hg3 (by simp) (fun j e => by simp [Value.ownBlock] at e; omega)
  obtain ⟨Aj, cj, hvl, hll, hCl⟩ := Kd.R_reads hR3
  rw [List.nil_append] at hvl hll hCl
  subst hvl
  have H3 := Lib.hid (And.intro (keepC H1.out.1 (Nat.le_refl _) hB3) (And.intro (keepC H1.out.2.1 (Nat.le_refl _) hB3) (H1.out.2.2.trans (hB3.mono H1.out.2.2.size))))
  have HJ := Lib.hid (And.intro hCl hll)
  clear hB3 hCl hll hg3 hat3 hR3
  go_wp2_with (at_builtin; refine wpList_append_run _ rfl (.tmp 40) (.tmp 41) 22 rfl _ _ _ _ rfl rfl hrun ?_; clear hrun)
  clear d0 d1 d2 d3
  go_loopw [8, 10] (fun v t wr => ∃ n : Nat, n ≤ a.length ∧ t = .int .i64 (n : Int) ∧ Hid (Kd.R PC.k44 44 wr w3.heap.size (fun _ => True) v (lowF seq (a.take n)) ∧ Below w3.heap.size w3 wr)) (fun _ t _ => a.length - (intOf t).toNat)
  case atStart => exact ⟨0, by omega, rfl, Lib.hid ⟨Kd.R_nil _ _ _ _ _, Below.refl _ _⟩⟩
  case round =>
    obtain ⟨n, hn, rfl, HI⟩ := hrel
    have m1 : IntKind.i64.wrap ((n : Int) + 1) = (n : Int) + 1 := by rw [IntWalk.i64_in _ (by omega)]
    by_cases hlt : n < a.length
    · obtain ⟨x, hxx⟩ : ∃ x, a[n] = x := ⟨_, rfl⟩
      have hx : a[n]? = some x := by rw [← hxx]; exact List.getElem?_eq_getElem hlt
      have Hx := Lib.hid hx
      obtain ⟨ad, e, X0⟩ := at44 (keepC H3.out.1 (Nat.le_refl _) HI.out.2) n (by omega)
      rw [show a.getD n PC.z44 = x from by rw [List.getD_eq_getElem?_getD, hx]; rfl] at X0
      obtain ⟨x0, x1, x2, x3⟩ := X0
      subst e
      have p0 : (0 ≤ (n : Int)) = True := by simp
      have p1 : ((n : Int) < a.length) = True := eq_true (by omega)
      have p2 : (n < a.length) = True := eq_true hlt
      have p3 : decide ((n : Int) < (a.length : Int)) = true := decide_eq_true (by omega)
      clear hx hxx
      by_cases hq : x.f0.f1 ≤ seq
      · have d0 : decide (x.f0.f1 ≤ seq) = true := decide_eq_true hq
        have he := lowF_yes (seq := seq) Hx.out hq
        obtain ⟨W, hW⟩ : ∃ W, wr.alloc (.cells #[.string x.f0.f0, .int .u64 x.f0.f1, .int .i64 x.f0.f2, .string x.f1] 44) = W := ⟨_, rfl⟩
        have bl : Below wr.heap.size wr W := by rw [← hW]; exact (Below.refl _ _).alloc (Nat.le_refl _) _
        have hC : Kd.C PC.k44 W (some ⟨wr.heap.size, 0, none⟩) 1 [x] := by rw [← hW]; exact C44_block (W := wr.alloc _) (xs := [x]) (World.alloc_heap_new wr _) (by simp)
        obtain ⟨v1, w4, hrun, hR1, hg, _⟩ := run_append44 (c := 1) 22 (Kd.R_below HI.out.1 bl) hC (by have := lowF_len seq (a.take n); rw [List.length_take] at this; omega) (Nat.le_trans HI.out.2.size bl.size)
        rw [he] at hR1
        have H4 := Lib.hid (And.intro hR1 ((HI.out.2.trans (bl.mono HI.out.2.size)).grown hg (Nat.le_trans HI.out.2.size bl.size) (fun k hk => Kd.R_base HI.out.1 k hk)))
        clear hq he hR1 hg bl hC
        go_wp2_with (first | rw [hW] | (at_builtin; refine wpList_append_run _ rfl (.tmp 57) (.tmp 62) 22 rfl _ _ _ _ rfl rfl hrun ?_; clear hrun))
        go_roundw
        case rel => exact ⟨n + 1, by omega, by simp, H4⟩
        case measure => simp [intOf]; omega
      · have d0 : decide (x.f0.f1 ≤ seq) = false := decide_eq_false hq
        have he := lowF_no (seq := seq) Hx.out hq
        have He := Lib.hid he
        clear hq he
        go_wp2_with fail
        go_roundw
        case rel => exact ⟨n + 1, by omega, by simp, by rw [← He.out]; exact HI⟩
        case measure => simp [intOf]; omega
    · obtain rfl : n = a.length := by omega
      have p3 : decide ((a.length : Int) < (a.length : Int)) = false := decide_eq_false (by omega)
      rw [List.take_of_length_le (Nat.le_refl _)] at HI
      obtain ⟨Al, cl, hvl, hle, hCl⟩ := Kd.R_reads HI.out.1
      subst hvl
      have hlow := lowF_len seq a
      have H4 := Lib.hid (And.intro (keepC H3.out.1 (Nat.le_refl _) HI.out.2) (And.intro (keepC H3.out.2.1 (Nat.le_refl _) HI.out.2) (And.intro (H3.out.2.2.trans (HI.out.2.mono H3.out.2.2.size)) (And.intro hCl hle))))
      have HJ := Lib.hid (And.intro (keepC HJ.out.1 (Nat.le_refl _) HI.out.2) HJ.out.2)
      clear HI hCl hle
      go_wp2_with fail
      go_loopw [9, 11] (fun v t wq => ∃ (n : Nat) (J : List PC.S44) (Aj : Option Addr) (cj : Nat), n ≤ b.length ∧ J.length ≤ a.length + n ∧ a.length + n ≤ J.length ∧ t = .int .i64 (n : Int) ∧ v = .slice Aj J.length cj ∧ Hid (Kd.C PC.k44 wq Aj J.length J ∧ J.length ≤ cj ∧ J.Perm (a ++ b.take n) ∧ (a.Pairwise R → J.Pairwise R) ∧ Below wr.heap.size wr wq)) (fun _ t _ => b.length - (intOf t).toNat)
      case atStart => exact ⟨0, a, Aj, cj, by omega, by omega, by omega, rfl, rfl, Lib.hid ⟨HJ.out.1, HJ.out.2, by simp, fun h => h, Below.refl _ _⟩⟩
      case round =>
        rename World => wq
        obtain ⟨n, J, Aj, cj, hn, hJ1, hJ2, rfl, rfl, HI⟩ := hrel
        have m1 : IntKind.i64.wrap ((n : Int) + 1) = (n : Int) + 1 := by rw [IntWalk.i64_in _ (by omega)]
        by_cases hlt : n < b.length
        · obtain ⟨y, hyy⟩ : ∃ y, b[n] = y := ⟨_, rfl⟩
          have hy : b[n]? = some y := by rw [← hyy]; exact List.getElem?_eq_getElem hlt
          have Hy := Lib.hid hy
          obtain ⟨ad, e, Y0⟩ := at44 (keepC H4.out.2.1 (Nat.le_refl _) HI.out.2.2.2.2) n (by omega)
          rw [show b.getD n PC.z44 = y from by rw [List.getD_eq_getElem?_getD, hy]; rfl] at Y0
          have HY := Lib.hid Y0
          subst e
          have p0 : (0 ≤ (n : Int)) = True := by simp
          have p1 : ((n : Int) < b.length) = True := eq_true (by omega)
          have p2 : (n < b.length) = True := eq_true hlt
          have p3 : decide ((n : Int) < (b.length : Int)) = true := decide_eq_true (by omega)
          clear hy hyy Y0
          go_wp2_with fail
          go_loopw [12] (fun t wi => ∃ k : Nat, k ≤ J.length ∧ t = .int .i64 (k : Int) ∧ Hid ((∀ j x, j < k → J[j]? = some x → eqK x.f0 y.f0 = false) ∧ Below wq.heap.size wq wi)) (fun t _ => J.length - (intOf t).toNat)
          case atStart => exact ⟨0, by omega, rfl, Lib.hid ⟨fun j x h => by omega, Below.refl _ _⟩⟩
          case round =>
            rename World => wi
            obtain ⟨k, hk, rfl, HK⟩ := hrel
            have m2 : IntKind.i64.wrap ((k : Int) + 1) = (k : Int) + 1 := by rw [IntWalk.i64_in _ (by omega)]
            by_cases hlk : k < J.length
            · obtain ⟨x, hxx⟩ : ∃ x, J[k] = x := ⟨_, rfl⟩
              have hx : J[k]? = some x := by rw [← hxx]; exact List.getElem?_eq_getElem hlk
              have Hx := Lib.hid hx
              obtain ⟨ad2, e, X0⟩ := at44 (keepC HI.out.1 (Nat.le_refl _) HK.out.2) k (by omega)
              rw [show J.getD k PC.z44 = x from by rw [List.getD_eq_getElem?_getD, hx]; rfl] at X0
              obtain ⟨x0, x1, x2, _⟩ := X0
              obtain ⟨y0, y1, y2, _⟩ := HY.out.below HK.out.2
              subst e
              have q0 : (0 ≤ (k : Int)) = True := by simp
              have q1 : ((k : Int) < J.length) = True := eq_true (by omega)
              have q2 : (k < J.length) = True := eq_true hlk
              have q3 : decide ((k : Int) < (J.length : Int)) = true := decide_eq_true (by omega)
              clear hx hxx
              cases hE : eqK x.f0 y.f0
              · go_wp2_with fail
                go_quiet (fail)
                obtain ⟨W9, hW9⟩ : ∃ W9, wi.drewN nq = W9 := ⟨_, rfl⟩
                have H9 := Lib.hid (show Below wi.heap.size wi W9 from by rw [← hW9]; exact ⟨rfl, rfl, rfl, Nat.le_refl _, fun _ _ => rfl⟩)
                have HE := Lib.hid hE
                rw [hW9]
                clear hW9 hE x0 x1 x2 y0 y1 y2
                go_wp2_with fail
                go_roundw
                case rel => exact ⟨k + 1, by omega, by simp, Lib.hid ⟨fun j z hj hz => by
                  rcases Nat.lt_or_eq_of_le (show j ≤ k by omega) with h | h
                  · exact HK.out.1 j z h hz
                  · subst h; rw [Hx.out] at hz; cases hz; exact HE.out, HK.out.2.trans (H9.out.mono HK.out.2.size)⟩⟩
                case measure => simp [intOf]; omega
              · go_wp2_with fail
                go_quiet (fail)
                obtain ⟨W9, hW9⟩ : ∃ W9, wi.drewN nq = W9 := ⟨_, rfl⟩
                have H9 := Lib.hid (show Below wi.heap.size wi W9 from by rw [← hW9]; exact ⟨rfl, rfl, rfl, Nat.le_refl _, fun _ _ => rfl⟩)
                rw [hW9]
                clear hW9 hE x0 x1 x2 y0 y1 y2
                go_wp2_with fail
                go_ret
                exact ⟨rfl, H4.out.2.2.1.trans ((HI.out.2.2.2.2.trans ((HK.out.2.trans (H9.out.mono HK.out.2.size)).mono HI.out.2.2.2.2.size)).mono H4.out.2.2.1.size)⟩
            · obtain rfl : k = J.length := by omega
              have q3 : decide ((J.length : Int) < (J.length : Int)) = false := decide_eq_false (by omega)
              obtain ⟨y0, y1, y2, y3⟩ := HY.out.below HK.out.2
              have HW := Lib.hid (with_w Aj cj J y wi (keepC HI.out.1 (Nat.le_refl _) HK.out.2) HI.out.2.1 (by omega))
              have HNE := Lib.hid (show ∀ z ∈ J, ¬ E y z from fun z hz hE => by
                obtain ⟨j, hj⟩ := List.getElem?_of_mem hz
                have h1 := HK.out.1 j z (List.getElem?_eq_some_iff.1 hj).1 hj
                rw [eqK_E hE] at h1
                cases h1)
              go_wp2_with fail
              refine HW.out.mono ?_
              rintro e w5 ⟨A5, c5, rfl, h1, h2, h3⟩
              have H5 := Lib.hid (And.intro h1 (And.intro h2 h3))
              clear h1 h2 h3 y0 y1 y2 y3
              go_wp2_with fail
              go_roundw
              case rel => exact ⟨n + 1, withL y J, A5, c5, by omega, by rw [withL_len]; omega, by rw [withL_len]; omega, by simp, rfl, Lib.hid ⟨H5.out.2.1, H5.out.1, perm_with HI.out.2.2.1 Hy.out, fun h => withL_pw J (HI.out.2.2.2.1 h) HNE.out, HI.out.2.2.2.2.trans ((HK.out.2.trans (H5.out.2.2.mono HK.out.2.size)).mono HI.out.2.2.2.2.size)⟩⟩
              case measure => simp [intOf]; omega
        · obtain rfl : n = b.length := by omega
          have p3 : decide ((b.length : Int) < (b.length : Int)) = false := decide_eq_false (by omega)
          rw [List.take_of_length_le (Nat.le_refl _)] at HI
          have H5 := Lib.hid (And.intro (keepC H4.out.1 (Nat.le_refl _) HI.out.2.2.2.2) (And.intro (keepC H4.out.2.2.2.1 (Nat.le_refl _) HI.out.2.2.2.2) (H4.out.2.2.1.trans (HI.out.2.2.2.2.mono H4.out.2.2.1.size))))
          obtain ⟨W5, hW5⟩ : ∃ W5, wq.alloc (.cells #[.slice A a.length c, .slice B b.length d] 22) = W5 := ⟨_, rfl⟩
          have bl : Below wq.heap.size wq W5 := by rw [← hW5]; exact (Below.refl _ _).alloc (Nat.le_refl _) _
          have C5 := C_two H5.out.1 HA.out.2 (keepC H4.out.2.1 (Nat.le_refl _) HI.out.2.2.2.2) HB.out.2 rfl rfl
          rw [hW5] at C5
          have HNX := Lib.hid (vnew_w _ 2 [a, b] seq W5 C5 (by show (2 : Nat) ≤ _; omega) (fun j hj => by
            rcases j with _ | _ | j
            · show a.length ≤ _; omega
            · show b.length ≤ _; omega
            · exact absurd (show j + 1 + 1 < 2 from hj) (by omega)))
          have HBL := Lib.hid bl
          clear C5 bl
          go_wp2_with (first | rw [hW5])
          refine HNX.out.mono ?_
          rintro e w6 (⟨rfl, _, b6⟩ | ⟨V, X, s, G, rfl, hris, hL, hV, hG, b6⟩)
          · have B6 := Lib.hid (HBL.out.trans (b6.mono HBL.out.size))
            clear b6 HNX hW5
            obtain ⟨W7, hW7⟩ : ∃ W7, w6.alloc (.cells #[.slice Aj J.length cj] 22) = W7 := ⟨_, rfl⟩
            have bl : Below w6.heap.size w6 W7 := by rw [← hW7]; exact (Below.refl _ _).alloc (Nat.le_refl _) _
            have C7 := C_one (keepC HI.out.1 (Nat.le_refl _) B6.out) HI.out.2.1 rfl
            rw [hW7] at C7
            have HNY := Lib.hid (vnew_w _ 1 [J] seq W7 C7 (by show (1 : Nat) ≤ _; omega) (fun j hj => by
              rcases j with _ | j
              · show J.length ≤ _; omega
              · exact absurd (show j + 1 < 1 from hj) (by omega)))
            have B7 := Lib.hid (H5.out.2.2.trans ((B6.out.trans (bl.mono B6.out.size)).mono H5.out.2.2.size))
            clear C7 bl
            go_wp2_with (first | rw [hW7])
            refine HNY.out.mono ?_
            rintro e w8 (⟨rfl, _, b8⟩ | ⟨U, Y, t, K, rfl, _, _, _, _, b8⟩)
            · have B8 := Lib.hid (B7.out.trans (b8.mono B7.out.size))
              clear b8
              go_wp2_with fail
              go_ret
              exact ⟨rfl, B8.out⟩
            · have B8 := Lib.hid (B7.out.trans (b8.mono B7.out.size))
              clear b8
              go_wp2_with fail
              go_ret
              exact ⟨rfl, B8.out⟩
          · have hpa : a.Pairwise R := pw_of_rises a (hris 0 (by simp))
            have HP := Lib.hid (And.intro hpa (HI.out.2.2.2.1 hpa))
            have HL := Lib.hid hL
            have HV := Lib.hid (And.intro hV hG)
            have B6 := Lib.hid (HBL.out.trans (b6.mono HBL.out.size))
            have Z6 := Lib.hid (And.intro HBL.out.size b6.size)
            clear b6 HNX hW5 hpa hris hL hV hG
            obtain ⟨W7, hW7⟩ : ∃ W7, w6.alloc (.cells #[.slice Aj J.length cj] 22) = W7 := ⟨_, rfl⟩
            have bl : Below w6.heap.size w6 W7 := by rw [← hW7]; exact (Below.refl _ _).alloc (Nat.le_refl _) _
            have C7 := C_one (keepC HI.out.1 (Nat.le_refl _) B6.out) HI.out.2.1 rfl
            rw [hW7] at C7
            have HNY := Lib.hid (vnew_w _ 1 [J] seq W7 C7 (by show (1 : Nat) ≤ _; omega) (fun j hj => by
              rcases j with _ | j
              · show J.length ≤ _; omega
              · exact absurd (show j + 1 < 1 from hj) (by omega)))
            have B7 := Lib.hid bl
            clear C7 bl
            go_wp2_with (first | rw [hW7])
            refine HNY.out.mono ?_
            rintro e w8 (⟨_, ⟨j, hj, hf⟩, _⟩ | ⟨U, Y, t, K, rfl, _, hL2, hV2, hG2, b8⟩)
            · exfalso
              rcases j with _ | j
              · rw [show ([J] : List (List PC.S44)).getD 0 [] = J from rfl, rises_of_pw _ HP.out.2] at hf; cases hf
              · exact absurd (show j + 1 < 1 from hj) (by omega)
            · have HVy := Lib.hid (And.intro hV2 hG2)
              have B8 := Lib.hid (B7.out.trans (b8.mono B7.out.size))
              have Z8 := Lib.hid (And.intro Z6.out.1 (And.intro Z6.out.2 (And.intro B7.out.size b8.size)))
              have hNx : s.N = a.length + b.length := by rw [N_flat HL.out]; simp
              have hNy : t.N = J.length := by rw [N_flat hL2]; simp
              have heq : seen t seq = seen s seq := (seen_join (vi_ris HV.out.1) (vi_ris hV2) HP.out.2 HI.out.2.2.1 HL.out hL2).symm
              have hsl := seen_len s seq
              have HKx := Lib.hid (fk_upto HL.out (fun l hl x hx => by
                rcases List.mem_cons.1 hl with rfl | hl
                · exact HF.out x (List.mem_append_left _ hx)
                · obtain rfl := List.mem_singleton.1 hl
                  exact HF.out x (List.mem_append_right _ hx)))
              have HKy := Lib.hid (fk_upto hL2 (fun l hl x hx => by
                obtain rfl := List.mem_singleton.1 hl
                exact HF.out x (HI.out.2.2.1.mem_iff.1 hx)))
              have HQx := Lib.hid (all_w (HV.out.1.below B8.out) HKx.out J.length (by omega) (by omega))
              have HE := Lib.hid heq
              obtain ⟨QX, hQX⟩ : ∃ Q, seen s seq = Q := ⟨_, rfl⟩
              rw [hQX] at HQx HE hsl
              clear hQX hV2 hG2 b8 HNY hW7 hL2 heq
              go_wp2_with fail
              refine HQx.out.mono ?_
              rintro e w9 ⟨Ax, cx, Gx, rfl, S⟩
              have vy := HVy.out.1.fr S.2.1 (fun b h1 h2 => by have := HVy.out.2 b h2; have := HV.out.1.lt h1; have := Z8.out; omega)
              have HQy := Lib.hid (all_w vy HKy.out J.length (by rw [HE.out]; omega) (by omega))
              rw [HE.out] at HQy
              have B9 := Lib.hid ((B6.out.trans (B8.out.mono B6.out.size)).trans (S.2.1.to_below (by have := Z8.out; omega) (fun b h => by have := HV.out.2 b h; have := Z8.out; omega)))
              have H9 := Lib.hid (And.intro S.2.2.2.r S.2.1.size)
              clear S vy HQx
              go_wp2_with fail
              refine HQy.out.mono ?_
              rintro e w10 ⟨Ay, cy, Gy, rfl, S⟩
              have r1 := Kd.R_reads' (R_fr76 H9.out.1 S.2.1 (fun b h => HVy.out.1.lt h))
              have r2 := Kd.R_reads' S.2.2.2.r
              have HS := Lib.hid (same_w Ax Ay cx cy QX QX w10 rfl r1.2.2 r1.2.1 r2.2.2 r2.2.1 (by omega))
              have B10 := Lib.hid (B9.out.trans (S.2.1.to_below (by have := Z8.out; have := H9.out.2; omega) (fun b h => by have := HVy.out.2 b h; have := Z8.out; omega)))
              clear S HQy r1 r2
              go_wp2_with fail
              refine HS.out.mono ?_
              rintro e w11 ⟨rfl, b11⟩
              have B11 := Lib.hid (B10.out.trans (b11.mono B10.out.size))
              clear b11 HS H9 B9 Z8 HE HKx HKy HVy HV B7 B8 Z6
              obtain ⟨W12, hW12⟩ : ∃ W12, w11.alloc (.cells #[.slice A a.length c] 22) = W12 := ⟨_, rfl⟩
              have bl : Below w11.heap.size w11 W12 := by rw [← hW12]; exact (Below.refl _ _).alloc (Nat.le_refl _) _
              have C12 := C_one (keepC H5.out.1 (Nat.le_refl _) B11.out) HA.out.2 rfl
              rw [hW12] at C12
              have HNZ := Lib.hid (vnew_w _ 1 [a] seq W12 C12 (by show (1 : Nat) ≤ _; omega) (fun j hj => by
                rcases j with _ | j
                · show a.length ≤ _; omega
                · exact absurd (show j + 1 < 1 from hj) (by omega)))
              have B12 := Lib.hid bl
              clear C12 bl
              go_wp2_with (first | rw [hW12])
              refine HNZ.out.mono ?_
              rintro e w13 (⟨_, ⟨j, hj, hf⟩, _⟩ | ⟨Vz, Xz, sz, Gz, rfl, _, hLz, hVz, hGz, b13⟩)
              · exfalso
                rcases j with _ | j
                · rw [show ([a] : List (List PC.S44)).getD 0 [] = a from rfl, rises_of_pw _ HP.out.1] at hf; cases hf
                · exact absurd (show j + 1 < 1 from hj) (by omega)
              · have HVz := Lib.hid (And.intro hVz (And.intro hGz hLz))
                have Z13 := Lib.hid (And.intro B12.out.size b13.size)
                have B13 := Lib.hid (B11.out.trans ((B12.out.trans (b13.mono B12.out.size)).mono B11.out.size))
                clear hVz hGz hLz b13 HNZ hW12
                obtain ⟨W14, hW14⟩ : ∃ W14, w13.alloc (.cells #[.slice Al (lowF seq a).length cl] 22) = W14 := ⟨_, rfl⟩
                have bl : Below w13.heap.size w13 W14 := by rw [← hW14]; exact (Below.refl _ _).alloc (Nat.le_refl _) _
                have C14 := C_one (keepC H5.out.2.1 (Nat.le_refl _) B13.out) H4.out.2.2.2.2 rfl
                rw [hW14] at C14
                have HNW := Lib.hid (vnew_w _ 1 [lowF seq a] seq W14 C14 (by show (1 : Nat) ≤ _; omega) (fun j hj => by
                  rcases j with _ | j
                  · show (lowF seq a).length ≤ _; omega
                  · exact absurd (show j + 1 < 1 from hj) (by omega)))
                have B14 := Lib.hid bl
                clear C14 bl
                go_wp2_with (first | rw [hW14])
                refine HNW.out.mono ?_
                rintro e w15 (⟨_, ⟨j, hj, hf⟩, _⟩ | ⟨Vw, Xw, sw, Gw, rfl, _, hLw, hVw, hGw, b15⟩)
                · exfalso
                  rcases j with _ | j
                  · rw [show ([lowF seq a] : List (List PC.S44)).getD 0 [] = lowF seq a from rfl, rises_of_pw _ (show (lowF seq a).Pairwise R from HP.out.1.sublist List.filter_sublist)] at hf; cases hf
                  · exact absurd (show j + 1 < 1 from hj) (by omega)
                · have HVw := Lib.hid (And.intro hVw hGw)
                  have B15 := Lib.hid (B14.out.trans (b15.mono B14.out.size))
                  have Z15 := Lib.hid (And.intro Z13.out.1 (And.intro Z13.out.2 (And.intro B14.out.size (And.intro b15.size B13.out.size))))
                  have hNz : sz.N = a.length := by rw [N_flat HVz.out.2.2]; simp
                  have heq : seen sw seq = seen sz seq := (seen_low (vi_ris HVz.out.1) (vi_ris hVw) HP.out.1 HVz.out.2.2 hLw).symm
                  have hsl := seen_len sz seq
                  have HKz := Lib.hid (fk_upto HVz.out.2.2 (fun l hl x hx => by
                    obtain rfl := List.mem_singleton.1 hl
                    exact HF.out x (List.mem_append_left _ hx)))
                  have HKw := Lib.hid (fk_upto hLw (fun l hl x hx => by
                    obtain rfl := List.mem_singleton.1 hl
                    exact HF.out x (List.mem_append_left _ (List.mem_filter.1 (show x ∈ a.filter _ from hx)).1)))
                  have HQz := Lib.hid (all_w (HVz.out.1.below B15.out) HKz.out a.length (by omega) (by omega))
                  have HE := Lib.hid heq
                  obtain ⟨QZ, hQZ⟩ : ∃ Q, seen sz seq = Q := ⟨_, rfl⟩
                  rw [hQZ] at HQz HE hsl
                  clear hQZ hVw hGw b15 HNW hW14 hLw heq
                  go_wp2_with fail
                  refine HQz.out.mono ?_
                  rintro e w16 ⟨Az, cz, Gz', rfl, S⟩
                  have vw := HVw.out.1.fr S.2.1 (fun b h1 h2 => by have := HVw.out.2 b h2; have := HVz.out.1.lt h1; have := Z15.out; omega)
                  have HQw := Lib.hid (all_w vw HKw.out a.length (by rw [HE.out]; omega) (by omega))
                  rw [HE.out] at HQw
                  have B16 := Lib.hid ((B13.out.trans (B15.out.mono B13.out.size)).trans (S.2.1.to_below (by have := Z15.out; omega) (fun b h => by have := HVz.out.2.1 b h; have := Z15.out; have := B11.out.size; omega)))
                  have H16 := Lib.hid (And.intro S.2.2.2.r S.2.1.size)
                  clear S vw HQz
                  go_wp2_with fail
                  refine HQw.out.mono ?_
                  rintro e w17 ⟨Aw, cw, Gw', rfl, S⟩
                  have r1 := Kd.R_reads' (R_fr76 H16.out.1 S.2.1 (fun b h => HVw.out.1.lt h))
                  have r2 := Kd.R_reads' S.2.2.2.r
                  have HS := Lib.hid (same_w Az Aw cz cw QZ QZ w17 rfl r1.2.2 r1.2.1 r2.2.2 r2.2.1 (by omega))
                  have B17 := Lib.hid (B16.out.trans (S.2.1.to_below (by have := Z15.out; have := H16.out.2; omega) (fun b h => by have := HVw.out.2 b h; have := Z15.out; omega)))
                  clear S HQw r1 r2
                  go_wp2_with fail
                  refine HS.out.mono ?_
                  rintro e w18 ⟨rfl, b18⟩
                  have B18 := Lib.hid (H5.out.2.2.trans ((B17.out.trans (b18.mono B17.out.size)).mono H5.out.2.2.size))
                  clear b18
                  go_wp2_with fail
                  go_ret
                  exact ⟨rfl, B18.out⟩
theorem viewStays_row (a0 : Option Addr) (len0 cap0 : Nat) (a1 : Option Addr) (len1 cap1 : Nat) (seq : Int) (w : World)
    (F0 : ∃ A len cap xs, Value.slice a0 len0 cap0 = .slice A len cap ∧ Kd.C PC.k44 w A len xs ∧ len ≤ cap ∧ len * 48 ≤ 140737488351232 ∧ (∀ p ∈ xs, Fits p) ∧ (A = none → cap = 0))
    (F1 : ∃ A len cap xs, Value.slice a1 len1 cap1 = .slice A len cap ∧ Kd.C PC.k44 w A len xs ∧ len ≤ cap ∧ len * 48 ≤ 140737488351232 ∧ (∀ p ∈ xs, Fits p) ∧ (A = none → cap = 0))
    (hq : (Lit.int .u64 seq).wf = true) :
    Calls Try.prog 15 #[.slice a0 len0 cap0, .slice a1 len1 cap1, .int .u64 seq] w fun e w' => e = .returned (.bool true) ∧ Below w.heap.size w w' := by
  obtain ⟨A, len, cap, xs, hv, h1, h2, _, h4, _⟩ := F0
  cases hv
  obtain rfl : len0 = xs.length := h1.1.symm
  obtain ⟨A', len', cap', ys, hv, g1, g2, _, g4, _⟩ := F1
  cases hv
  obtain rfl : len1 = ys.length := g1.1.symm
  exact viewStays_w _ _ _ _ xs ys seq w h1 h2 g1 g2 (fun x hx => (List.mem_append.1 hx).elim (h4 x) (g4 x))
end Go.Proofs.Ytehoojmalhloeaa.CM
