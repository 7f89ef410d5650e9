/- CompactDrops: the walk: the statement's function answers true. Its conditions are that its arguments can be read. -/
import Derived.Test.YtehoojmalhloeaaDX
import Derived.Test.YtehoojmalhloeaaDR
namespace Go.Proofs.Ytehoojmalhloeaa.CM
open Go.RowKit Go.Proofs.YtehoojmalhloeaaW.PrintWords
set_option linter.unusedVariables false
set_option linter.unusedSimpArgs false
set_option maxRecDepth 100000

theorem R_empty44 (w : World) (base : Nat) (hb : base ≤ w.heap.size) : Kd.R PC.k44 44 (w.alloc (.cells #[] 44)) base (fun _ => True) (.slice (some ⟨w.heap.size, 0, none⟩) 0 0) [] :=
  R_of44 ⟨rfl, .inr ⟨_, 0, _, rfl, hb, World.alloc_heap_new w _, Nat.le_refl _, by decide, rfl, rfl⟩⟩

set_option maxHeartbeats 8000000 in
theorem compactDrops_w (A : Option Addr) (n c : Nat) (l : List PC.S44) (A2 : Option Addr) (n2 c2 : Nat) (snaps : List Int) (bottom : Bool) (w : World) (hr : Kd.C PC.k44 w A n l) (hc : n ≤ c) (hr2 : Kd.C (Kd.int .u64) w A2 n2 snaps) (hc2 : n2 ≤ c2)
    (hv : ∀ y ∈ l, okN y) :
    Calls Try.prog 3 #[.slice A n c, .slice A2 n2 c2, .bool bottom] w fun e w' => e = .returned (.bool true) ∧ Below w.heap.size w w' := by
  obtain rfl : l.length = n := hr.1
  obtain rfl : snaps.length = n2 := hr2.1
  obtain ⟨m, hm⟩ : ∃ m, m = if 200 < l.length then 200 else l.length := ⟨_, rfl⟩
  obtain ⟨m2, hm2⟩ : ∃ m2, m2 = if 50 < snaps.length then 50 else snaps.length := ⟨_, rfl⟩
  have few := few_w A l.length c A2 snaps.length c2 m m2
  have hml : m ≤ l.length ∧ m ≤ 200 := by rw [hm]; split <;> omega
  have hml2 : m2 ≤ snaps.length ∧ m2 ≤ 50 := by rw [hm2]; split <;> omega
  have hcl := Kd.C_take hr hml.1
  have hcl2 := Kd.C_take hr2 hml2.1
  obtain ⟨l1, hl1⟩ : ∃ l1, l.take m = l1 := ⟨_, rfl⟩
  obtain ⟨s1, hs1⟩ : ∃ s1, snaps.take m2 = s1 := ⟨_, rfl⟩
  have hlen1 : l1.length = m := by rw [← hl1, List.length_take]; omega
  have hlen2 : s1.length = m2 := by rw [← hs1, List.length_take]; omega
  have hv1 : ∀ y ∈ l1, okN y := fun y hy => hv y (by rw [← hl1] at hy; exact List.mem_of_mem_take hy)
  rw [hl1] at hcl
  rw [hs1] at hcl2
  have HF := Lib.hid (fun w => few w hm hm2 hc hc2)
  have HB := Lib.hid (And.intro hml hml2)
  have HC := Lib.hid (And.intro hcl hcl2)
  have HV := Lib.hid hv1
  have hmc : m ≤ c := by omega
  have hmc2 : m2 ≤ c2 := by omega
  clear few hm hm2 hml hml2 hcl hcl2 hv1 hv hr hr2 hl1 hs1
  obtain ⟨X, E, hX⟩ : ∃ X E, dropA s1 bottom l1 = (X, E) := ⟨_, _, rfl⟩
  have hXl : X.length ≤ m := by have := dropA_len s1 bottom l1; rw [hX] at this; simp only at this; omega
  have HX := Lib.hid hX
  have H1 := Lib.hid hlen1
  have H2 := Lib.hid hlen2
  clear hX hlen1 hlen2
  go_enter Try.func3, Try.ntmps3
  go_wp2_with fail
  refine (awake19_w _).mono ?_
  rintro e w1 ⟨rfl, b1⟩
  have B1 := Lib.hid b1
  clear b1
  go_wp2_with fail
  refine (HF.out _).mono ?_
  rintro e w1 ⟨rfl, rfl⟩
  obtain ⟨v2, w3, hrun, hR3, hg3, hat3⟩ := run_append44 (c := c) 22 (R_empty44 w1 w1.heap.size (Nat.le_refl _)) (H1.out ▸ keepC HC.out.1 (Nat.le_refl _) (B1.out.trans ((Below.refl _ w1).alloc B1.out.size _))) (by have := HB.out; simp; omega) (by simp)
  have hB3 : Below w1.heap.size w1 w3 := ((Below.refl _ w1).alloc (Nat.le_refl _) _).grown hg3 (by simp) (fun j e => by simp [Value.ownBlock] at e; omega)
  obtain ⟨Al, cl, hvl, hll, hCl⟩ := Kd.R_reads hR3
  rw [show (([] : List PC.S44) ++ l1).length = m from H1.out] at hvl
  subst hvl
  have G3 := Lib.hid (And.intro hB3 (And.intro hCl hll))
  clear hB3 hCl hll hg3 hat3 hR3
  go_wp2_with (at_builtin; refine wpList_append_run _ rfl (.tmp 22) (.tmp 23) 22 rfl _ _ _ _ rfl rfl hrun ?_; clear hrun)
  have B3 := B1.out.trans (G3.out.1.mono B1.out.size)
  have D := drop_any Al cl l1 A2 m2 c2 s1 bottom w3 G3.out.2.1 G3.out.2.2 H2.out.symm (keepC HC.out.2 (Nat.le_refl _) B3) (by have := HB.out; have := H1.out; omega)
  rw [H1.out, HX.out] at D
  have HD := Lib.hid D
  have HB3 := Lib.hid B3
  clear D B3
  refine HD.out.mono ?_
  rintro e w4 ⟨va, rfl, ra, b4⟩
  obtain ⟨Aa, ca, hva, hla, hCa⟩ := Kd.R_reads ra
  simp only at hva hla hCa
  subst hva
  have B4 := Lib.hid (HB3.out.trans (b4.mono HB3.out.size))
  have G4 := Lib.hid (And.intro b4 (And.intro hla hCa))
  clear ra b4 hla hCa HD
  go_wp2_with fail
  have D := PC.staddleref19_Drop.calls (5 * l1.length + s1.length + 10) A c l1 A2 c2 s1 bottom X E w4 (keepC HC.out.1 (Nat.le_refl _) B4.out) (by rw [H1.out]; exact hmc) (keepC HC.out.2 (Nat.le_refl _) B4.out) (by rw [H2.out]; exact hmc2)
    (by rw [← HX.out]; exact refDropA l1 s1 bottom _ (by have := HB.out; have := H1.out; omega) (by have := HB.out; have := H2.out; omega) (Nat.le_refl _) HV.out)
  rw [H1.out, H2.out] at D
  have HD := Lib.hid D
  clear D
  refine HD.out.mono ?_
  rintro e w5 ⟨vb, rfl, rb, b5⟩
  obtain ⟨Ab, cb, hvb, hlb, hCb⟩ := Kd.R_reads rb
  subst hvb
  have B5 := Lib.hid (B4.out.trans (b5.mono B4.out.size))
  have G5 := Lib.hid (And.intro (keepC G4.out.2.2 (Nat.le_refl _) b5) (And.intro hCb (And.intro hlb (keepC G3.out.2.1 (Nat.le_refl _) (G4.out.1.trans (b5.mono G4.out.1.size))))))
  clear rb b5 hlb hCb HD
  go_wp2_with fail
  have HD := Lib.hid (same_refl_w Aa X.length ca Ab X.length cb X w5 rfl rfl G5.out.1 G4.out.2.1 G5.out.2.1 G5.out.2.2.1 (by have := HB.out; omega))
  refine HD.out.mono ?_
  rintro e w6 ⟨rfl, b6⟩
  have B6 := Lib.hid (B5.out.trans (b6.mono B5.out.size))
  have hl6 := keepC G5.out.2.2.2 (Nat.le_refl _) b6
  have HD := Lib.hid (same_refl_w Al m cl A m c l1 w6 H1.out.symm H1.out.symm hl6 G3.out.2.2 (keepC HC.out.1 (Nat.le_refl _) B6.out) (by rw [H1.out]; exact hmc) (by have := HB.out; have := H1.out; omega))
  clear b6 hl6
  go_wp2_with fail
  refine HD.out.mono ?_
  rintro e w7 ⟨rfl, b7⟩
  have B7 := Lib.hid (B6.out.trans (b7.mono B6.out.size))
  clear b7
  go_wp2_with fail
  go_ret
  exact ⟨by simp, B7.out⟩

theorem Fits.okN {x : PC.S44} (h : Fits x) : okN x := h.1
theorem compactDrops_row (a0 : Option Addr) (len0 cap0 : Nat) (a1 : Option Addr) (len1 cap1 : Nat) (a2 : Bool) (w : World)
    (F0 : ∃ A len cap xs, Value.slice a0 len0 cap0 = .slice A len cap ∧ Kd.C PC.k44 w A len xs ∧ len ≤ cap ∧ len * 48 ≤ 140737488351232 ∧ (∀ p ∈ xs, Fits p) ∧ (A = none → cap = 0))
    (F1 : ∃ A len cap xs, Value.slice a1 len1 cap1 = .slice A len cap ∧ Kd.C (Kd.int .u64) w A len xs ∧ len ≤ cap ∧ len * 8 ≤ 140737488351232 ∧ (∀ p ∈ xs, 0 ≤ p ∧ p ≤ 18446744073709551615) ∧ (A = none → cap = 0)) :
    Calls Try.prog 3 #[.slice a0 len0 cap0, .slice a1 len1 cap1, .bool a2] w fun e w' => e = .returned (.bool true) ∧ Below w.heap.size w w' := by
  obtain ⟨A, len, cap, xs, h0, h1, h2, _, h3, _⟩ := F0
  obtain ⟨A2, len2, cap2, xs2, k0, k1, k2, _, k3, _⟩ := F1
  cases h0
  cases k0
  exact compactDrops_w _ _ _ xs _ _ _ xs2 a2 w h1 h2 k1 k2 (fun y hy => (h3 y hy).okN)

end Go.Proofs.Ytehoojmalhloeaa.CM
