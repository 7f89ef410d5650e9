/- MergeOne: the walk. -/
import Derived.Test.YtehoojmalhloeaaNN
namespace Go.Proofs.Ytehoojmalhloeaa.CM
open Go.RowKit Go.Proofs.YtehoojmalhloeaaW.PrintWords
set_option linter.unusedVariables false
set_option linter.unusedSimpArgs false
set_option maxRecDepth 100000
attribute [local go_sem high] eqV44
theorem len3 (l : List PC.S44) (hl : l.length ≤ 2932031007317) (j : Nat) : (([[], l, []] : List (List PC.S44)).getD j []).length ≤ 2932031007317 := by
  rcases j with _ | _ | _ | j <;> simp [hl]
theorem one_facts {s : Sh} {l : List PC.S44} (hr : Ris s) (hp : s.L.flatten.Perm l) (hl : l.Pairwise R) : s.N = l.length ∧ ∀ i, i < l.length → itm s i = l.getD i PC.z44 := by
  have h := upto_one hr hp hl
  have hN : s.N = l.length := by rw [← h, upto_len]
  exact ⟨hN, fun i hi => upto_itm h (by omega)⟩
set_option maxHeartbeats 16000000 in
theorem mergeOne_w (A : Option Addr) (c : Nat) (l : List PC.S44) (ct0 : Int) (w : World) (hr : Kd.C PC.k44 w A l.length l) (hc : l.length ≤ c) (hl : l.length ≤ 2932031007317) :
    Calls Try.prog 11 #[.slice A l.length c, .int .i64 ct0] w fun e w' => e = .returned (.bool true) ∧ Below w.heap.size w w' := by
  have HA := Lib.hid (And.intro hr hc)
  clear hr hc
  go_enter Try.func11, Try.ntmps11
  go_wp2_with fail
  refine (awake16_w w).mono ?_
  rintro e w1 ⟨rfl, b⟩
  obtain ⟨W1, hW1⟩ : ∃ W1, w1.alloc (.cells #[.slice none 0 0, .slice A l.length c, .slice none 0 0] 22) = W1 := ⟨_, rfl⟩
  have bl : Below w1.heap.size w1 W1 := by rw [← hW1]; exact (Below.refl _ _).alloc (Nat.le_refl _) _
  have C1 := C_three (keepC HA.out.1 (Nat.le_refl _) b) HA.out.2 rfl
  rw [hW1] at C1
  have HN := Lib.hid (new_w _ 3 [[], l, []] W1 C1 (by show (3 : Nat) ≤ _; omega) (fun j _ => len3 l hl j))
  have B1 := Lib.hid (b.trans (bl.mono b.size))
  clear b bl C1
  go_wp2_with (first | rw [hW1])
  refine HN.out.mono ?_
  rintro e w2 (⟨rfl, _, b⟩ | ⟨X, s, rfl, hris, hL, hM⟩)
  · have H3 := Lib.hid (B1.out.trans (b.mono B1.out.size))
    clear b
    go_wp2_with fail
    go_ret
    exact ⟨rfl, H3.out⟩
  · have N0 := hM.nw (fun j hj => by show risesB (s.L.getD j []) = true; rw [hL]; exact hris j (by rw [← hL]; exact hj))
    obtain ⟨F0, hF0⟩ : ∃ F, Foot X s (.slice none 0 0) = F := ⟨_, rfl⟩
    rw [hF0] at N0
    have hpw : l.Pairwise R := pw_of_rises l (hris 1 (by show 1 < 3; omega))
    have HO := Lib.hid (one_facts (ris_of N0.it) (by rw [hL]; simp) hpw)
    have HP := Lib.hid hpw
    have S2 := Lib.hid (Two.mk N0 (Row.nil _ _ _) (Row.nil _ _ _) (fun k hk => by simp [Value.ownBlock] at hk))
    clear N0 hF0 hM hris hL HN hpw hW1
    go_upto_if 44 with (fail)
    go_cut [1] (fun v wc => ∃ ct : Int, v = .int .i64 ct ∧ Hid (wc = w2))
    case first =>
      by_cases hneg : ct0 < 0
      · have d1 : decide (ct0 < 0) = true := decide_eq_true hneg
        go_wp2_with fail
        go_meet
        case rel => exact ⟨_, rfl, Lib.hid rfl⟩
      · have d1 : decide (ct0 < 0) = false := decide_eq_false hneg
        go_wp2_with fail
        go_meet
        case rel => exact ⟨_, rfl, Lib.hid rfl⟩
    case rest =>
      obtain ⟨ct, rfl, hw⟩ := hcut
      obtain rfl := hw.out
      clear hw
      --REST
      go_wp2_with fail
      obtain ⟨f, hf⟩ : ∃ f : Nat → Bool, ∀ j : Nat, ((wrap64 ((j : Int) + ct)).tmod 3 == 0) = f j := ⟨_, fun j => rfl⟩
      have Hf := Lib.hid hf
      clear hf
      go_loopw [8, 9, 10] (fun va vb t wr => ∃ i : Nat, i ≤ l.length ∧ t = .int .i64 (i : Int) ∧ Hid (Two W1 wr X s none F0 va (sel f l i) vb (sel (fun j => !f j) l i))) (fun _ _ t _ => l.length - (intOf t).toNat)
      case atStart => exact ⟨0, by omega, rfl, Lib.hid S2.out⟩
      case round =>
        obtain ⟨i, hi, rfl, HI⟩ := hrel
        have m3 : IntKind.i64.wrap ((i : Int) + 1) = (i : Int) + 1 := by rw [IntWalk.i64_in _ (by omega)]
        have S3 := Lib.hid HI.out
        clear HI
        by_cases hlt : i < l.length
        · have d0 : decide ((i : Int) < l.length) = true := decide_eq_true (by omega)
          obtain ⟨ad, rfl, X0⟩ := at44 (keepC HA.out.1 (Nat.le_refl _) (B1.out.trans (S3.out.nw.bel.mono B1.out.size))) i hlt
          obtain ⟨x, hx⟩ : ∃ x, l.getD i PC.z44 = x := ⟨_, rfl⟩
          rw [hx] at X0
          have Hx := Lib.hid hx
          obtain ⟨x0, x1, x2, x3⟩ := X0
          have p0 : (0 ≤ (i : Int)) = True := by simp
          have p1 : ((i : Int) < l.length) = True := eq_true (by omega)
          have p4 : (i < l.length) = True := eq_true hlt
          have d5 := Hf.out i
          clear hx
          cases hb : f i
          · rw [hb] at d5
            obtain ⟨v1, W4, hrun, hS⟩ := S3.out.swap.app x (by have := sel_len (fun j => !f j) l i; omega)
            have S4 := Lib.hid hS.swap
            clear hS
            go_wp2_with (first | (at_builtin; refine wpList_append_run _ rfl (.tmp 66) (.tmp 71) 22 rfl _ _ _ _ rfl rfl hrun ?_; clear hrun))
            refine ⟨⟨i + 1, by omega, by simp, Lib.hid ?_⟩, by simp [intOf]; omega⟩
            have e1 : sel f l (i + 1) = sel f l i := by show (if f i then _ else _) = _; rw [hb]; rfl
            have e2 : sel (fun j => !f j) l (i + 1) = sel (fun j => !f j) l i ++ [x] := by rw [← Hx.out]; show (if (!f i) = true then _ else _) = _; rw [hb]; rfl
            rw [e1, e2]
            exact S4.out
          · rw [hb] at d5
            obtain ⟨v1, W4, hrun, hS⟩ := S3.out.app x (by have := sel_len f l i; omega)
            have S4 := Lib.hid hS
            clear hS
            go_wp2_with (first | (at_builtin; refine wpList_append_run _ rfl (.tmp 59) (.tmp 64) 22 rfl _ _ _ _ rfl rfl hrun ?_; clear hrun))
            refine ⟨⟨i + 1, by omega, by simp, Lib.hid ?_⟩, by simp [intOf]; omega⟩
            have e1 : sel f l (i + 1) = sel f l i ++ [x] := by rw [← Hx.out]; show (if f i then _ else _) = _; rw [hb]; rfl
            have e2 : sel (fun j => !f j) l (i + 1) = sel (fun j => !f j) l i := by show (if (!f i) = true then _ else _) = _; rw [hb]; rfl
            rw [e1, e2]
            exact S4.out
        · obtain rfl : i = l.length := by omega
          have d0 : decide ((l.length : Int) < (l.length : Int)) = false := decide_eq_false (by omega)
          obtain ⟨Aa, ca, hva, hla, hCa⟩ := Kd.R_reads S3.out.a.r
          obtain ⟨Ab, cb, hvb, hlb, hCb⟩ := Kd.R_reads S3.out.b.r
          have hxa := sel_len f l l.length
          have hxb := sel_len (fun j => !f j) l l.length
          have hpa := sel_pw (f := f) HP.out
          have hpb := sel_pw (f := fun j => !f j) HP.out
          have hpp := sel_all f l
          obtain ⟨xa, exa⟩ : ∃ xa, sel f l l.length = xa := ⟨_, rfl⟩
          obtain ⟨xb, exb⟩ : ∃ xb, sel (fun j => !f j) l l.length = xb := ⟨_, rfl⟩
          rw [exa] at hva hla hCa hxa hpa hpp
          rw [exb] at hvb hlb hCb hxb hpb hpp
          subst hva hvb
          obtain ⟨WB, hWB⟩ : ∃ WB, wr.alloc (.cells #[.slice Ab xb.length cb, .slice Aa xa.length ca] 22) = WB := ⟨_, rfl⟩
          have bl : Below wr.heap.size wr WB := by rw [← hWB]; exact (Below.refl _ _).alloc (Nat.le_refl _) _
          have C2 := C_two hCb hlb hCa hla rfl rfl
          rw [hWB] at C2
          have HN := Lib.hid (new_w _ 2 [xb, xa] WB C2 (by show (2 : Nat) ≤ _; omega) (fun j hj => by
            rcases j with _ | _ | j
            · show xb.length ≤ _; omega
            · show xa.length ≤ _; omega
            · exact absurd (show j + 1 + 1 < 2 from hj) (by omega)))
          have NX := Lib.hid (S3.out.nw.below bl)
          have HQ := Lib.hid (And.intro hpa (And.intro hpb hpp))
          clear hCa hla hCb hlb hxa hxb hpa hpb hpp exa exb bl C2 S3 S2
          go_wp2_with (first | rw [hWB])
          refine HN.out.mono ?_
          rintro e w4 (⟨rfl, ⟨j, hj, hrj⟩, b⟩ | ⟨Y, t, rfl, hris, hL, hM⟩)
          · exfalso
            rcases j with _ | _ | j
            · rw [show ([xb, xa] : List (List PC.S44)).getD 0 [] = xb from rfl, rises_of_pw _ HQ.out.2.1] at hrj; cases hrj
            · rw [show ([xb, xa] : List (List PC.S44)).getD (0 + 1) [] = xa from rfl, rises_of_pw _ HQ.out.1] at hrj; cases hrj
            · exact absurd (show j + 1 + 1 < 2 from hj) (by omega)
          · have N0 := hM.nw (fun j hj => by show risesB (t.L.getD j []) = true; rw [hL]; exact hris j (by rw [← hL]; exact hj))
            obtain ⟨G0, hG0⟩ : ∃ F, Foot Y t (.slice none 0 0) = F := ⟨_, rfl⟩
            rw [hG0] at N0
            have HO2 := Lib.hid (one_facts (s := t) (ris_of N0.it) (by rw [hL]; simpa using HQ.out.2.2) HP.out)
            have T4 := Lib.hid (Both.mk' NX.out hM.bel N0)
            clear N0 hG0 hM hris hL HN HQ NX hWB
            go_wp2_with fail
            refine (first_q T4.out.x).mono ?_
            rintro e w5 ⟨rfl, g⟩
            obtain ⟨F5, T⟩ := T4.out.go g
            have T5 := Lib.hid T
            clear g T
            go_wp2_with fail
            refine (first_q T5.out.y).mono ?_
            rintro e w6 ⟨rfl, g⟩
            obtain ⟨G6, T⟩ := T5.out.go2 g
            have T6 := Lib.hid T
            clear g T
            go_wp2_with fail
            go_loopw [13] (fun tt wr => ∃ i : Nat, i ≤ l.length ∧ tt = .int .i64 (i : Int) ∧ Hid (∃ F G, Both W1 wr X s (plc s i) F Y t (plc t i) G)) (fun tt _ => l.length - (intOf tt).toNat)
            case atStart => exact ⟨0, by omega, rfl, Lib.hid ⟨F5, G6, T6.out⟩⟩
            case round =>
              obtain ⟨i, hi, rfl, HI⟩ := hrel
              have m3 : IntKind.i64.wrap ((i : Int) + 1) = (i : Int) + 1 := by rw [IntWalk.i64_in _ (by omega)]
              obtain ⟨F7, G7, T⟩ := HI.out
              have T7 := Lib.hid T
              clear T HI
              by_cases hlt : i < l.length
              · have d0 : decide ((i : Int) < l.length) = true := decide_eq_true (by omega)
                obtain ⟨x, hx⟩ : ∃ x, l.getD i PC.z44 = x := ⟨_, rfl⟩
                have hx1 : itm s i = x := by rw [HO.out.2 i hlt, hx]
                have hx2 : itm t i = x := by rw [HO2.out.2 i hlt, hx]
                have hs : i < s.N := by rw [HO.out.1]; exact hlt
                have ht : i < t.N := by rw [HO2.out.1]; exact hlt
                have Hx := Lib.hid hx
                have Hs := Lib.hid (And.intro hs ht)
                have T7' := T7.out
                rw [plc_lt hs, plc_lt ht] at T7'
                have T7 := Lib.hid T7'
                have told1 := Lib.hid (show told s (some i) = (x, true) from by show (itm s i, true) = _; rw [hx1])
                have told2 := Lib.hid (show told t (some i) = (x, true) from by show (itm t i, true) = _; rw [hx2])
                clear hx hx1 hx2 hs ht T7'
                go_wp2_with fail
                refine (at_q T7.out.x).mono ?_
                rintro e w8 ⟨rfl, b8⟩
                rw [told1.out]
                simp only [val44]
                obtain ⟨W8, hW8⟩ : ∃ W8, w8.alloc (.cells #[.string x.f0.f0, .int .u64 x.f0.f1, .int .i64 x.f0.f2, .string x.f1] 44) = W8 := ⟨_, rfl⟩
                have k8l : Below w8.heap.size w8 W8 := by rw [← hW8]; exact (Below.refl _ _).alloc (Nat.le_refl _) _
                have k8 : W8.heap[w8.heap.size]? = some (obj x) := by rw [← hW8]; exact World.alloc_heap_new w8 _
                have T8 := Lib.hid ((T7.out.below b8).below k8l)
                have K8 := Lib.hid k8
                clear b8 k8l k8
                go_wp2_with (first | rw [hW8])
                refine (at_q T8.out.y).mono ?_
                rintro e w9 ⟨rfl, b9⟩
                rw [told2.out]
                simp only [val44]
                obtain ⟨W9, hW9⟩ : ∃ W9, w9.alloc (.cells #[.string x.f0.f0, .int .u64 x.f0.f1, .int .i64 x.f0.f2, .string x.f1] 44) = W9 := ⟨_, rfl⟩
                have k9l : Below w9.heap.size w9 W9 := by rw [← hW9]; exact (Below.refl _ _).alloc (Nat.le_refl _) _
                have k9 : W9.heap[w9.heap.size]? = some (obj x) := by rw [← hW9]; exact World.alloc_heap_new w9 _
                obtain ⟨a0, a1, a2, a3⟩ := obj_cells (blk_below (blk_below K8.out b9) k9l)
                obtain ⟨b0, b1, b2, b3⟩ := obj_cells k9
                have T9 := Lib.hid ((T8.out.below b9).below k9l)
                obtain ⟨ad, rfl, X0⟩ := at44 (keepC HA.out.1 (Nat.le_refl _) (B1.out.trans (T9.out.bel.mono B1.out.size))) i hlt
                rw [Hx.out] at X0
                obtain ⟨x0, x1, x2, x3⟩ := X0
                have p0 : (0 ≤ (i : Int)) = True := by simp
                have p1 : ((i : Int) < l.length) = True := eq_true (by omega)
                have p4 : (i < l.length) = True := eq_true hlt
                have hE := eqB_self x
                clear b9 k9l k9
                go_wp2_with (first | rw [hW9])
                go_quiet (fail)
                obtain ⟨Wa, hWa⟩ : ∃ Wa, W9.drewN nq = Wa := ⟨_, rfl⟩
                have Ta := Lib.hid (T9.out.below (show Below W9.heap.size W9 Wa from by rw [← hWa]; exact ⟨rfl, rfl, rfl, Nat.le_refl _, fun _ _ => rfl⟩))
                rw [hWa]
                clear hWa a0 a1 a2 a3 b0 b1 b2 b3 x0 x1 x2 x3
                go_wp2_with fail
                refine (next_q Ta.out.x).mono ?_
                rintro e wb ⟨rfl, g⟩
                obtain ⟨Fb, T⟩ := Ta.out.go g
                have Tb := Lib.hid T
                clear g T
                go_wp2_with fail
                refine (next_q Tb.out.y).mono ?_
                rintro e wc2 ⟨rfl, g⟩
                obtain ⟨Gc, T⟩ := Tb.out.go2 g
                have Tc := Lib.hid T
                clear g T
                go_wp2_with fail
                refine ⟨⟨i + 1, by omega, by simp, Lib.hid ⟨Fb, Gc, Tc.out⟩⟩, by simp [intOf]; omega⟩
              · obtain rfl : i = l.length := by omega
                have d0 : decide ((l.length : Int) < (l.length : Int)) = false := decide_eq_false (by omega)
                have T7' := T7.out
                rw [show plc s l.length = none from (by rw [← HO.out.1]; exact plc_end s), show plc t l.length = none from (by rw [← HO2.out.1]; exact plc_end t)] at T7'
                have T7 := Lib.hid T7'
                clear T7'
                go_wp2_with fail
                refine (at_q T7.out.x).mono ?_
                rintro e w8 ⟨rfl, b8⟩
                rw [show told s none = (PC.z44, false) from rfl]
                obtain ⟨z, hz⟩ : ∃ y, PC.z44 = y := ⟨_, rfl⟩
                rw [hz]
                simp only [val44]
                obtain ⟨W8, hW8⟩ : ∃ W8, w8.alloc (.cells #[.string z.f0.f0, .int .u64 z.f0.f1, .int .i64 z.f0.f2, .string z.f1] 44) = W8 := ⟨_, rfl⟩
                have k8l : Below w8.heap.size w8 W8 := by rw [← hW8]; exact (Below.refl _ _).alloc (Nat.le_refl _) _
                have k8 : W8.heap[w8.heap.size]? = some (obj z) := by rw [← hW8]; exact World.alloc_heap_new w8 _
                have T8 := Lib.hid ((T7.out.below b8).below k8l)
                clear b8 k8l k8
                go_wp2_with (first | rw [hW8])
                refine (at_q T8.out.y).mono ?_
                rintro e w9 ⟨rfl, b9⟩
                rw [show told t none = (PC.z44, false) from rfl, hz]
                simp only [val44]
                obtain ⟨W9, hW9⟩ : ∃ W9, w9.alloc (.cells #[.string z.f0.f0, .int .u64 z.f0.f1, .int .i64 z.f0.f2, .string z.f1] 44) = W9 := ⟨_, rfl⟩
                have k9l : Below w9.heap.size w9 W9 := by rw [← hW9]; exact (Below.refl _ _).alloc (Nat.le_refl _) _
                have k9 : W9.heap[w9.heap.size]? = some (obj z) := by rw [← hW9]; exact World.alloc_heap_new w9 _
                have T9 := Lib.hid ((T8.out.below b9).below k9l)
                clear b9 k9l k9
                go_wp2_with (first | rw [hW9])
                go_ret
                exact ⟨rfl, B1.out.trans (T9.out.bel.mono B1.out.size)⟩
end Go.Proofs.Ytehoojmalhloeaa.CM
