/- merge: New. -/
import Derived.Test.YtehoojmalhloeaaMQ
namespace Go.Proofs.Ytehoojmalhloeaa.CM
open Go.RowKit Go.Proofs.YtehoojmalhloeaaW.PrintWords
set_option linter.unusedVariables false
set_option linter.unusedSimpArgs false
set_option maxRecDepth 100000

theorem step_append_run {P : Program} {ops : Array Oper} {o : Oper} {a : Act} {w : World} {K : Act → World → Prop} {Q : Exit → Act → World → Prop} {E : Prop}
    (hg : o.guard = none) (s x : Operand) (t : TypeId) (hop : o.op = Op.call { callee := Callee.builtin Builtin.append, args := #[s, x], argTypes := #[t, t] })
    (v u v1 : Value) (w1 : World) (hs : a.eval s = v) (hx : a.eval x = u) (hrun : (Builtin.append_ #[t, t] o.type #[v, u]).run P w = .ok v1 w1) (hK : K (a.put o.dst v1) w1) :
    if Region.wanted o (yielded ops a.tmps) = true then Oper.wp P o a w K Q else E := by
  have hw : Region.wanted o (yielded ops a.tmps) = true := by simp [Region.wanted, hg]
  rw [if_pos hw]
  unfold Oper.wp
  simp [execOp, hop, resolve, invoke, builtin, hs, hx, hrun, Result.andThen]
  exact hK

def NewEnd (L : List (List PC.S44)) (w : World) (e : Ending) (w' : World) : Prop :=
  (e = .returned (.tuple #[.pointer none, .int .i64 160]) ∧ (∃ j, j < L.length ∧ risesB (L.getD j []) = false) ∧ Below w.heap.size w w') ∨
      ∃ X s, e = .returned (.tuple #[.pointer (some ⟨X, 0, none⟩), .int .i64 0]) ∧ (∀ j, j < L.length → risesB (L.getD j []) = true) ∧ s.L = L ∧ Mk w w' X s

set_option maxHeartbeats 8000000 in
theorem new_w (LA : Option Addr) (lc : Nat) (L : List (List PC.S44)) (w : World) (hr : Kd.C (Kd.slice 44 PC.k44) w LA L.length L) (hn : L.length ≤ 2932031007317) (hl : ∀ j, j < L.length → (L.getD j []).length ≤ 2932031007317) :
    Calls Try.prog 36 #[.slice LA L.length lc] w (NewEnd L w) := by
  have HR := Lib.hid (And.intro hr hl)
  clear hr hl
  go_enter Try.func36, Try.ntmps36
  go_wp2_with fail
  obtain ⟨X, hX⟩ : ∃ X, w.heap.size = X := ⟨_, rfl⟩
  obtain ⟨W0, hW0⟩ : ∃ W0, w.alloc (.cells #[.slice none 0 0, .slice none 0 0, .slice none 0 0, .pointer none] 110) = W0 := ⟨_, rfl⟩
  have M0 : Mk w W0 X ⟨[], 0, none, 0, fun _ => 0, fun _ => none, fun _ => 0⟩ := by
    have hx : W0.heap[X]? = some (.cells #[.slice none 0 0, .slice none 0 0, .slice none 0 0, .pointer none] 110 (0, 0)) := by rw [← hW0, ← hX]; exact World.alloc_heap_new w _
    refine ⟨⟨hx, ⟨fun i hi => (Nat.not_lt_zero i hi).elim, fun i hi => (Nat.not_lt_zero i hi).elim, fun i hi => (Nat.not_lt_zero i hi).elim⟩, ⟨fun h => (Nat.not_lt_zero 0 h).elim, fun i hi => (Nat.not_lt_zero i hi).elim, fun i hi => (Nat.not_lt_zero i hi).elim⟩⟩, ⟨Nat.zero_le _, fun i hi => (Nat.not_lt_zero i hi).elim, fun i j hi => (Nat.not_lt_zero i hi).elim, fun i hi => (Nat.not_lt_zero i hi).elim⟩, World.ownsRow_nil _ _ _ _, ?_, by omega, fun i hi => (Nat.not_lt_zero i hi).elim, fun i hi => (Nat.not_lt_zero i hi).elim, fun i hi => (Nat.not_lt_zero i hi).elim, fun i hi => (Nat.not_lt_zero i hi).elim⟩
    rw [← hW0]
    exact (Below.refl _ w).alloc (Nat.le_refl _) _
  rw [hW0, hX]
  have H0 := Lib.hid M0
  clear M0 hW0
  go_loopw [12] (fun t wr => ∃ (i : Nat) (s : Sh), i ≤ L.length ∧ t = .int .i64 (i : Int) ∧ Hid ((∀ j, j < i → risesB (L.getD j []) = true) ∧ s.L = L.take i ∧ Mk w wr X s)) (fun t _ => L.length - (intOf t).toNat)
  case atStart => exact ⟨0, _, by omega, rfl, Lib.hid ⟨fun j h => by omega, rfl, H0.out⟩⟩
  case round =>
    obtain ⟨i, s, hi, rfl, HI⟩ := hrel
    obtain ⟨Wo, rfl⟩ : ∃ Wo, Wo = wr := ⟨_, rfl⟩
    have m1 : IntKind.i64.wrap ((i : Int) + 1) = (i : Int) + 1 := by rw [IntWalk.i64_in _ (by omega)]
    by_cases hlt : i < L.length
    · have hltz : (i : Int) < L.length := by omega
      obtain ⟨ad0, A0, c0_, e0, g0, g1, g2⟩ := PC.at_L6 (Kd.C_below HR.out.1 HI.out.2.2.bel) (i : Int) (by omega) (by omega)
      subst e0
      obtain ⟨l, hlD⟩ : ∃ l, PC.rd_L6 L (i : Int) = l := ⟨_, rfl⟩
      rw [hlD] at g0 g1 g2
      have hlD' : L.getD i [] = l := by rw [← hlD]; simp [PC.rd_L6]
      have hll : l.length ≤ 2932031007317 := by rw [← hlD']; exact HR.out.2 i hlt
      have HC := Lib.hid (And.intro g2 (And.intro g1 hlD'))
      simp only [Int.toNat_natCast] at g0
      clear g1 g2 hlD hlD'
      go_wp2_with fail
      go_loopw [7] (fun t w2 => ∃ k : Nat, (k + 1 ≤ l.length ∨ k = 0) ∧ t = .int .i64 ((k : Int) + 1) ∧ Hid ((∀ j : Nat, j < k → cmpK (l.getD j PC.z44).f0 (l.getD (j + 1) PC.z44).f0 < 0) ∧ Below Wo.heap.size Wo w2)) (fun t _ => l.length - (intOf t).toNat)
      case atStart => exact ⟨0, Or.inr rfl, rfl, Lib.hid ⟨fun j h => by omega, Below.refl _ _⟩⟩
      case round =>
        obtain ⟨k, hi2, rfl, HZ⟩ := hrel
        by_cases hlt2 : (k : Int) + 1 < l.length
        · have hj : IntKind.i64.wrap ((k : Int) + 1 - 1) = (k : Int) := by rw [IntWalk.i64_in _ (by omega)]; omega
          have hj2 : IntKind.i64.wrap ((k : Int) + 1 + 1) = (k : Int) + 1 + 1 := by rw [IntWalk.i64_in _ (by omega)]
          obtain ⟨ad, e, X0⟩ := at44 (keepC HC.out.1 (Nat.le_refl _) HZ.out.2.drew) k (by omega)
          obtain ⟨ad2, e2, Y0⟩ := at44 (keepC HC.out.1 (Nat.le_refl _) HZ.out.2.drew) (k + 1) (by omega)
          obtain rfl : ad = ad2 := by rw [e] at e2; injection e2
          subst e
          obtain ⟨a, ha⟩ : ∃ a, l.getD k PC.z44 = a := ⟨_, rfl⟩
          obtain ⟨b, hb⟩ : ∃ b, l.getD (k + 1) PC.z44 = b := ⟨_, rfl⟩
          rw [ha] at X0
          rw [hb] at Y0
          have HX := Lib.hid (And.intro X0 Y0)
          have Ha := Lib.hid (And.intro ha hb)
          clear X0 Y0 ha hb e2
          have p0 : (0 ≤ (k : Int)) = True := by simp
          have p1 : ((k : Int) < l.length) = True := eq_true (by omega)
          have p2 : (0 ≤ (k : Int) + 1) = True := eq_true (by omega)
          have p3 : ((k : Int) + 1 < l.length) = True := eq_true hlt2
          have p4 : (k < l.length) = True := eq_true (by omega)
          have p5 : (k + 1 < l.length) = True := eq_true (by omega)
          have hj3 : IntKind.i64.wrap (k : Int) = (k : Int) := by rw [IntWalk.i64_in _ (by omega)]
          have C := compare_w a.f0 b.f0
          unfold kv42 at C
          have HK := Lib.hid C
          clear C
          go_wp2_with fail
          go_region_held3 (fun w' => (w'.cell? (ad.add (k * 4)) = some (.string a.f0.f0) ∧ w'.cell? ⟨(ad.add (k * 4)).block, (ad.add (k * 4)).off + 1, none⟩ = some (.int .u64 a.f0.f1) ∧ w'.cell? ⟨(ad.add (k * 4)).block, (ad.add (k * 4)).off + 2, none⟩ = some (.int .i64 a.f0.f2) ∧ w'.cell? ⟨(ad.add (k * 4)).block, (ad.add (k * 4)).off + 3, none⟩ = some (.string a.f1)) ∧ w'.cell? (ad.add ((k + 1) * 4)) = some (.string b.f0.f0) ∧ w'.cell? ⟨(ad.add ((k + 1) * 4)).block, (ad.add ((k + 1) * 4)).off + 1, none⟩ = some (.int .u64 b.f0.f1) ∧ w'.cell? ⟨(ad.add ((k + 1) * 4)).block, (ad.add ((k + 1) * 4)).off + 2, none⟩ = some (.int .i64 b.f0.f2) ∧ w'.cell? ⟨(ad.add ((k + 1) * 4)).block, (ad.add ((k + 1) * 4)).off + 3, none⟩ = some (.string b.f1)) (first | exact HX.out | exact HB2.out) (first | (go_at_call 69; refine Calls.mono (HK.out _) ?_; rintro e w1 ⟨rfl, hb1⟩; have HB2 := Lib.hid (And.intro (HX.out.1.below hb1) (HX.out.2.below hb1)); have HB1 := Lib.hid ((Below.refl wr.heap.size wr).drew.trans hb1); clear hb1))
          have HW := Lib.hid (HZ.out.2.trans (HB1.out.mono HZ.out.2.size))
          clear HB1 HX HK HB2
          by_cases hc1 : 0 ≤ cmpK a.f0 b.f0
          · have hc2 : decide (0 ≤ cmpK a.f0 b.f0) = true := decide_eq_true hc1
            go_wp2_with fail
            go_ret2
            refine .inl ⟨rfl, ⟨i, hlt, ?_⟩, HI.out.2.2.bel.trans (HW.out.mono HI.out.2.2.bel.size)⟩
            rw [HC.out.2.2]
            exact risesB_false (j := k) (by omega) (by rw [Ha.out.1, Ha.out.2]; omega)
          · have hc2 : decide (0 ≤ cmpK a.f0 b.f0) = false := decide_eq_false hc1
            go_wp2_with fail
            go_roundw
            case rel => exact ⟨k + 1, Or.inl (by omega), by simp, Lib.hid ⟨fun j hj => (by
              rcases Nat.lt_succ_iff_lt_or_eq.1 hj with h | rfl
              · exact HZ.out.1 j h
              · rw [Ha.out.1, Ha.out.2]; omega), HW.out⟩⟩
            case measure => simp [intOf]; omega
        · have hlt3 : decide ((k : Int) + 1 < l.length) = false := decide_eq_false hlt2
          have hri : risesB l = true := by
            rw [risesB_iff]
            exact fun j hj => HZ.out.1 j (by omega)
          have MW := HI.out.2.2.below HZ.out.2
          have hsn : s.n = i := by show s.L.length = i; rw [HI.out.2.1, List.length_take]; omega
          have HM := Lib.hid (And.intro MW (And.intro hri hsn))
          have c0 := MW.bk.cell.1
          have cf := MW.bk.cell.2.2.2.2 0
          have HCl := Lib.hid (clone_w A0 l.length c0_ l wr.drew (keepC HC.out.1 (Nat.le_refl _) HZ.out.2.drew) hll)
          rw [hsn] at c0
          clear MW hri hsn
          go_wp2_with fail
          go_region_law (first | (refine step_append_run rfl _ _ 104 rfl _ _ _ _ rfl rfl hrun ?_) | (go_simp; go_at_call 70; refine HCl.out.mono ?_; rintro e w3 ⟨A1, k1, rfl, h1, h2, h3, h4⟩; have hpush := Mk.push HM.out.1 ((Below.refl wr.heap.size wr).drew.trans h4) l A1 k1 h1 h2 h3 hll (by have := HM.out.2.2; omega); rw [HM.out.2.2] at hpush; obtain ⟨g, cap, w6, hrun, d0, df, s', hL, hMk⟩ := hpush; have c3 := ((HM.out.1.below ((Below.refl wr.heap.size wr).drew.trans h4)).bk.cell.1); rw [HM.out.2.2] at c3; have c4 := cell_up (o := .cells #[.slice A1 l.length k1, .int .i64 0, .int .i64 (i : Nat)] 112) c3; have c5 := cell_up (o := .cells #[.pointer (some ⟨w3.heap.size, 0, none⟩)] 108) c4; have HP := Lib.hid (And.intro hL hMk); clear hL hMk h1 h2 h3 h4))
          all_goals
            go_wp2_with fail
            refine ⟨⟨i + 1, s', by omega, by simp, Lib.hid ⟨fun j hj => ?_, ?_, HP.out.2⟩⟩, by simp [intOf]; omega⟩
            · rcases Nat.lt_succ_iff_lt_or_eq.1 hj with h | rfl
              · exact HI.out.1 j h
              · rw [HC.out.2.2]; exact HM.out.2.1
            · rw [HP.out.1, HI.out.2.1, ← HC.out.2.2]
              have e : L.getD i [] = L[i] := by simp [hlt]
              rw [e, List.take_append_getElem]
    · obtain rfl : i = L.length := by omega
      have hltz : decide ((L.length : Int) < (L.length : Int)) = false := decide_eq_false (by omega)
      go_wp2_with fail
      go_ret2
      exact .inr ⟨X, s, rfl, HI.out.1, by rw [HI.out.2.1, List.take_length], HI.out.2.2⟩
end Go.Proofs.Ytehoojmalhloeaa.CM
