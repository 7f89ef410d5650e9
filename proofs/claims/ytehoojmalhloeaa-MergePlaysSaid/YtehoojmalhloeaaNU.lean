/- merge: the document's iterator goes. -/
import Derived.Test.YtehoojmalhloeaaNT
namespace Go.Proofs.Ytehoojmalhloeaa.CM
open Go.RowKit Go.Proofs.YtehoojmalhloeaaW.PrintWords
set_option linter.unusedVariables false
set_option linter.unusedSimpArgs false
set_option maxRecDepth 100000

def GoEnd (w : World) (Rb cp : Nat) (LA : Option Addr) (L : List PC.S44) (v : Int) (e : Ending) (w' : World) : Prop := e = .returned (.tuple #[]) ∧ Rf w' Rb LA cp L v ∧ Fr (fun b => b = Rb) w w'
set_option maxHeartbeats 4000000 in
theorem refgo1_w {w : World} {Rb cp : Nat} {LA : Option Addr} {L : List PC.S44} {at_ : Int} (h : Rf w Rb LA cp L at_) (a : PC.S42) (hat1 : -1 ≤ at_) (hat2 : at_ < L.length) :
    Calls Try.prog 45 #[.pointer (some ⟨Rb, 0, none⟩), .int .i64 1, kv42 a] w (GoEnd w Rb cp LA L (refGo L 1 a at_)) := by
  unfold kv42
  obtain ⟨W0, hW0⟩ : ∃ W0, w.alloc (.cells #[.string a.f0, .int .u64 a.f1, .int .i64 a.f2] 42) = W0 := ⟨_, rfl⟩
  have b0 : Below w.heap.size w W0 := by rw [← hW0]; exact (Below.refl _ _).alloc (Nat.le_refl _) _
  have k0 : W0.heap[w.heap.size]? = some (obj3 a) := by rw [← hW0]; exact World.alloc_heap_new w _
  have hlt := h.lt
  have hlen := h.len
  have h0 := h.below b0
  obtain ⟨r0, r1, r2⟩ := h0.cells
  have H0 := Lib.hid (And.intro h0 (And.intro k0 (Fr.of_below (O := fun b => b = Rb) b0)))
  clear h0 k0 b0 h
  go_enter Try.func45, Try.ntmps45
  by_cases hnil : L = []
  · subst hnil
    have hT : refT [] 1 a at_ = 0 := by
      unfold refT
      simp only [if_true, if_false]
    obtain ⟨V, hV⟩ : ∃ V, W0.setCell ⟨Rb, 1, none⟩ (.int .i64 (0)) = V := ⟨_, rfl⟩
    have RV := Lib.hid (show Rf V Rb LA cp [] (0) ∧ Fr (fun b => b = Rb) w V from by rw [← hV]; exact ⟨H0.out.1.set _, H0.out.2.2.set _ _ rfl⟩)
    obtain ⟨s0, s1, s2⟩ := RV.out.1.cells
    by_cases hge : (([] : List PC.S44).length : Int) ≤ 0
    · have dg : decide ((([] : List PC.S44).length : Int) ≤ 0) = true := decide_eq_true hge
      go_wp2_with (first | rw [hW0] | rw [hV])
      go_quiet (fail)
      obtain ⟨V2, hV2⟩ : ∃ V2, V.drewN nq = V2 := ⟨_, rfl⟩
      have bd : Below V.heap.size V V2 := by rw [← hV2]; exact ⟨rfl, rfl, rfl, Nat.le_refl _, fun _ _ => rfl⟩
      have R2 := RV.out.1.below bd
      obtain ⟨t0, t1, t2⟩ := R2.cells
      have F2 := RV.out.2.below bd
      have HR := Lib.hid (And.intro (R2.set (-1)) (F2.set ⟨Rb, 1, none⟩ (.int .i64 (-1)) rfl))
      rw [hV2]
      clear R2 F2 bd hV2 s0 s1 s2
      go_wp2_with fail
      go_end0
      refine ⟨rfl, ?_, HR.out.2⟩
      rw [show refGo [] 1 a at_ = -1 from by unfold refGo; rw [hT, if_pos (by omega)]]
      exact HR.out.1
    · exact absurd (by simp) hge
  · have hpos : 0 < L.length := List.length_pos_iff.2 hnil
    have hT : refT L 1 a at_ = 0 := by
      unfold refT
      simp only [if_true, if_false]
    obtain ⟨V, hV⟩ : ∃ V, W0.setCell ⟨Rb, 1, none⟩ (.int .i64 (0)) = V := ⟨_, rfl⟩
    have RV := Lib.hid (show Rf V Rb LA cp L (0) ∧ Fr (fun b => b = Rb) w V from by rw [← hV]; exact ⟨H0.out.1.set _, H0.out.2.2.set _ _ rfl⟩)
    obtain ⟨s0, s1, s2⟩ := RV.out.1.cells
    by_cases hge : (L.length : Int) ≤ 0
    · exfalso; omega
    · have dg : decide ((L.length : Int) ≤ 0) = false := decide_eq_false hge
      go_wp2_with (first | rw [hW0] | rw [hV])
      go_quiet (fail)
      obtain ⟨V2, hV2⟩ : ∃ V2, V.drewN nq = V2 := ⟨_, rfl⟩
      have bd : Below V.heap.size V V2 := by rw [← hV2]; exact ⟨rfl, rfl, rfl, Nat.le_refl _, fun _ _ => rfl⟩
      have HR := Lib.hid (And.intro (RV.out.1.below bd) (RV.out.2.below bd))
      rw [hV2]
      clear bd hV2 s0 s1 s2
      go_wp2_with fail
      go_end0
      refine ⟨rfl, ?_, HR.out.2⟩
      rw [show refGo L 1 a at_ = 0 from by unfold refGo; rw [hT, if_neg (by omega)]]
      exact HR.out.1
set_option maxHeartbeats 4000000 in
theorem refgo2_w {w : World} {Rb cp : Nat} {LA : Option Addr} {L : List PC.S44} {at_ : Int} (h : Rf w Rb LA cp L at_) (a : PC.S42) (hat1 : -1 ≤ at_) (hat2 : at_ < L.length) :
    Calls Try.prog 45 #[.pointer (some ⟨Rb, 0, none⟩), .int .i64 2, kv42 a] w (GoEnd w Rb cp LA L (refGo L 2 a at_)) := by
  unfold kv42
  obtain ⟨W0, hW0⟩ : ∃ W0, w.alloc (.cells #[.string a.f0, .int .u64 a.f1, .int .i64 a.f2] 42) = W0 := ⟨_, rfl⟩
  have b0 : Below w.heap.size w W0 := by rw [← hW0]; exact (Below.refl _ _).alloc (Nat.le_refl _) _
  have k0 : W0.heap[w.heap.size]? = some (obj3 a) := by rw [← hW0]; exact World.alloc_heap_new w _
  have hlt := h.lt
  have hlen := h.len
  have h0 := h.below b0
  obtain ⟨r0, r1, r2⟩ := h0.cells
  have H0 := Lib.hid (And.intro h0 (And.intro k0 (Fr.of_below (O := fun b => b = Rb) b0)))
  clear h0 k0 b0 h
  go_enter Try.func45, Try.ntmps45
  have hT : refT L 2 a at_ = (L.length : Int) - 1 := by
    unfold refT
    simp only [show ((2 : Int) = 1) = False by simp, if_true, if_false]
  have m1 : IntKind.i64.wrap ((L.length : Int) - 1) = (L.length : Int) - 1 := by rw [IntWalk.i64_in _ (by omega)]
  obtain ⟨V, hV⟩ : ∃ V, W0.setCell ⟨Rb, 1, none⟩ (.int .i64 ((L.length : Int) - 1)) = V := ⟨_, rfl⟩
  have RV := Lib.hid (show Rf V Rb LA cp L ((L.length : Int) - 1) ∧ Fr (fun b => b = Rb) w V from by rw [← hV]; exact ⟨H0.out.1.set _, H0.out.2.2.set _ _ rfl⟩)
  obtain ⟨s0, s1, s2⟩ := RV.out.1.cells
  by_cases hge : (L.length : Int) ≤ (L.length : Int) - 1
  · exfalso; omega
  · have dg : decide ((L.length : Int) ≤ (L.length : Int) - 1) = false := decide_eq_false hge
    go_wp2_with (first | rw [hW0] | rw [hV])
    go_quiet (fail)
    obtain ⟨V2, hV2⟩ : ∃ V2, V.drewN nq = V2 := ⟨_, rfl⟩
    have bd : Below V.heap.size V V2 := by rw [← hV2]; exact ⟨rfl, rfl, rfl, Nat.le_refl _, fun _ _ => rfl⟩
    have HR := Lib.hid (And.intro (RV.out.1.below bd) (RV.out.2.below bd))
    rw [hV2]
    clear bd hV2 s0 s1 s2
    go_wp2_with fail
    go_end0
    refine ⟨rfl, ?_, HR.out.2⟩
    rw [show refGo L 2 a at_ = (L.length : Int) - 1 from by unfold refGo; rw [hT, if_neg (by omega)]]
    exact HR.out.1
set_option maxHeartbeats 4000000 in
theorem refgo4_w {w : World} {Rb cp : Nat} {LA : Option Addr} {L : List PC.S44} {at_ : Int} (h : Rf w Rb LA cp L at_) (a : PC.S42) (hat1 : -1 ≤ at_) (hat2 : at_ < L.length) :
    Calls Try.prog 45 #[.pointer (some ⟨Rb, 0, none⟩), .int .i64 4, kv42 a] w (GoEnd w Rb cp LA L (refGo L 4 a at_)) := by
  unfold kv42
  obtain ⟨W0, hW0⟩ : ∃ W0, w.alloc (.cells #[.string a.f0, .int .u64 a.f1, .int .i64 a.f2] 42) = W0 := ⟨_, rfl⟩
  have b0 : Below w.heap.size w W0 := by rw [← hW0]; exact (Below.refl _ _).alloc (Nat.le_refl _) _
  have k0 : W0.heap[w.heap.size]? = some (obj3 a) := by rw [← hW0]; exact World.alloc_heap_new w _
  have hlt := h.lt
  have hlen := h.len
  have h0 := h.below b0
  obtain ⟨r0, r1, r2⟩ := h0.cells
  have H0 := Lib.hid (And.intro h0 (And.intro k0 (Fr.of_below (O := fun b => b = Rb) b0)))
  clear h0 k0 b0 h
  go_enter Try.func45, Try.ntmps45
  have m1 : IntKind.i64.wrap (at_ + 1) = at_ + 1 := by rw [IntWalk.i64_in _ (by omega)]
  by_cases hpos : 0 ≤ at_
  · have dp : decide (0 ≤ at_) = true := decide_eq_true hpos
    have hT : refT L 4 a at_ = at_ + 1 := by
      unfold refT
      simp only [show ((4 : Int) = 1) = False by simp, show ((4 : Int) = 2) = False by simp, show ((4 : Int) = 3) = False by simp, if_true, if_false]
      rw [if_pos hpos]
    obtain ⟨V, hV⟩ : ∃ V, W0.setCell ⟨Rb, 1, none⟩ (.int .i64 (at_ + 1)) = V := ⟨_, rfl⟩
    have RV := Lib.hid (show Rf V Rb LA cp L (at_ + 1) ∧ Fr (fun b => b = Rb) w V from by rw [← hV]; exact ⟨H0.out.1.set _, H0.out.2.2.set _ _ rfl⟩)
    obtain ⟨s0, s1, s2⟩ := RV.out.1.cells
    by_cases hge : (L.length : Int) ≤ at_ + 1
    · have dg : decide ((L.length : Int) ≤ at_ + 1) = true := decide_eq_true hge
      go_wp2_with (first | rw [hW0] | rw [hV])
      go_quiet (fail)
      obtain ⟨V2, hV2⟩ : ∃ V2, V.drewN nq = V2 := ⟨_, rfl⟩
      have bd : Below V.heap.size V V2 := by rw [← hV2]; exact ⟨rfl, rfl, rfl, Nat.le_refl _, fun _ _ => rfl⟩
      have R2 := RV.out.1.below bd
      obtain ⟨t0, t1, t2⟩ := R2.cells
      have F2 := RV.out.2.below bd
      have HR := Lib.hid (And.intro (R2.set (-1)) (F2.set ⟨Rb, 1, none⟩ (.int .i64 (-1)) rfl))
      rw [hV2]
      clear R2 F2 bd hV2 s0 s1 s2
      go_wp2_with fail
      go_end0
      refine ⟨rfl, ?_, HR.out.2⟩
      rw [show refGo L 4 a at_ = -1 from by unfold refGo; rw [hT, if_pos (by omega)]]
      exact HR.out.1
    · have dg : decide ((L.length : Int) ≤ at_ + 1) = false := decide_eq_false hge
      go_wp2_with (first | rw [hW0] | rw [hV])
      go_quiet (fail)
      obtain ⟨V2, hV2⟩ : ∃ V2, V.drewN nq = V2 := ⟨_, rfl⟩
      have bd : Below V.heap.size V V2 := by rw [← hV2]; exact ⟨rfl, rfl, rfl, Nat.le_refl _, fun _ _ => rfl⟩
      have HR := Lib.hid (And.intro (RV.out.1.below bd) (RV.out.2.below bd))
      rw [hV2]
      clear bd hV2 s0 s1 s2
      go_wp2_with fail
      go_end0
      refine ⟨rfl, ?_, HR.out.2⟩
      rw [show refGo L 4 a at_ = at_ + 1 from by unfold refGo; rw [hT, if_neg (by omega)]]
      exact HR.out.1
  · have dp : decide (0 ≤ at_) = false := decide_eq_false hpos
    have hT : refT L 4 a at_ = at_ := by
      unfold refT
      simp only [show ((4 : Int) = 1) = False by simp, show ((4 : Int) = 2) = False by simp, show ((4 : Int) = 3) = False by simp, if_true, if_false]
      rw [if_neg hpos]
    have RV := Lib.hid (And.intro H0.out.1 H0.out.2.2)
    obtain ⟨s0, s1, s2⟩ := RV.out.1.cells
    by_cases hge : (L.length : Int) ≤ at_
    · exfalso; omega
    · have dg : decide ((L.length : Int) ≤ at_) = false := decide_eq_false hge
      go_wp2_with (first | rw [hW0])
      go_quiet (fail)
      obtain ⟨V2, hV2⟩ : ∃ V2, W0.drewN nq = V2 := ⟨_, rfl⟩
      have bd : Below W0.heap.size W0 V2 := by rw [← hV2]; exact ⟨rfl, rfl, rfl, Nat.le_refl _, fun _ _ => rfl⟩
      have HR := Lib.hid (And.intro (RV.out.1.below bd) (RV.out.2.below bd))
      rw [hV2]
      clear bd hV2 s0 s1 s2
      go_wp2_with fail
      go_end0
      refine ⟨rfl, ?_, HR.out.2⟩
      rw [show refGo L 4 a at_ = at_ from by unfold refGo; rw [hT, if_neg (by omega)]]
      exact HR.out.1
set_option maxHeartbeats 4000000 in
theorem refgo5_w {w : World} {Rb cp : Nat} {LA : Option Addr} {L : List PC.S44} {at_ : Int} (h : Rf w Rb LA cp L at_) (a : PC.S42) (hat1 : -1 ≤ at_) (hat2 : at_ < L.length) :
    Calls Try.prog 45 #[.pointer (some ⟨Rb, 0, none⟩), .int .i64 5, kv42 a] w (GoEnd w Rb cp LA L (refGo L 5 a at_)) := by
  unfold kv42
  obtain ⟨W0, hW0⟩ : ∃ W0, w.alloc (.cells #[.string a.f0, .int .u64 a.f1, .int .i64 a.f2] 42) = W0 := ⟨_, rfl⟩
  have b0 : Below w.heap.size w W0 := by rw [← hW0]; exact (Below.refl _ _).alloc (Nat.le_refl _) _
  have k0 : W0.heap[w.heap.size]? = some (obj3 a) := by rw [← hW0]; exact World.alloc_heap_new w _
  have hlt := h.lt
  have hlen := h.len
  have h0 := h.below b0
  obtain ⟨r0, r1, r2⟩ := h0.cells
  have H0 := Lib.hid (And.intro h0 (And.intro k0 (Fr.of_below (O := fun b => b = Rb) b0)))
  clear h0 k0 b0 h
  go_enter Try.func45, Try.ntmps45
  have m1 : IntKind.i64.wrap (at_ - 1) = at_ - 1 := by rw [IntWalk.i64_in _ (by omega)]
  by_cases hpos : 0 ≤ at_
  · have dp : decide (0 ≤ at_) = true := decide_eq_true hpos
    have hT : refT L 5 a at_ = at_ - 1 := by
      unfold refT
      simp only [show ((5 : Int) = 1) = False by simp, show ((5 : Int) = 2) = False by simp, show ((5 : Int) = 3) = False by simp, show ((5 : Int) = 4) = False by simp, if_true, if_false]
      rw [if_pos hpos]
    obtain ⟨V, hV⟩ : ∃ V, W0.setCell ⟨Rb, 1, none⟩ (.int .i64 (at_ - 1)) = V := ⟨_, rfl⟩
    have RV := Lib.hid (show Rf V Rb LA cp L (at_ - 1) ∧ Fr (fun b => b = Rb) w V from by rw [← hV]; exact ⟨H0.out.1.set _, H0.out.2.2.set _ _ rfl⟩)
    obtain ⟨s0, s1, s2⟩ := RV.out.1.cells
    by_cases hge : (L.length : Int) ≤ at_ - 1
    · exfalso; omega
    · have dg : decide ((L.length : Int) ≤ at_ - 1) = false := decide_eq_false hge
      go_wp2_with (first | rw [hW0] | rw [hV])
      go_quiet (fail)
      obtain ⟨V2, hV2⟩ : ∃ V2, V.drewN nq = V2 := ⟨_, rfl⟩
      have bd : Below V.heap.size V V2 := by rw [← hV2]; exact ⟨rfl, rfl, rfl, Nat.le_refl _, fun _ _ => rfl⟩
      have HR := Lib.hid (And.intro (RV.out.1.below bd) (RV.out.2.below bd))
      rw [hV2]
      clear bd hV2 s0 s1 s2
      go_wp2_with fail
      go_end0
      refine ⟨rfl, ?_, HR.out.2⟩
      rw [show refGo L 5 a at_ = at_ - 1 from by unfold refGo; rw [hT, if_neg (by omega)]]
      exact HR.out.1
  · have dp : decide (0 ≤ at_) = false := decide_eq_false hpos
    have hT : refT L 5 a at_ = at_ := by
      unfold refT
      simp only [show ((5 : Int) = 1) = False by simp, show ((5 : Int) = 2) = False by simp, show ((5 : Int) = 3) = False by simp, show ((5 : Int) = 4) = False by simp, if_true, if_false]
      rw [if_neg hpos]
    have RV := Lib.hid (And.intro H0.out.1 H0.out.2.2)
    obtain ⟨s0, s1, s2⟩ := RV.out.1.cells
    by_cases hge : (L.length : Int) ≤ at_
    · exfalso; omega
    · have dg : decide ((L.length : Int) ≤ at_) = false := decide_eq_false hge
      go_wp2_with (first | rw [hW0])
      go_quiet (fail)
      obtain ⟨V2, hV2⟩ : ∃ V2, W0.drewN nq = V2 := ⟨_, rfl⟩
      have bd : Below W0.heap.size W0 V2 := by rw [← hV2]; exact ⟨rfl, rfl, rfl, Nat.le_refl _, fun _ _ => rfl⟩
      have HR := Lib.hid (And.intro (RV.out.1.below bd) (RV.out.2.below bd))
      rw [hV2]
      clear bd hV2 s0 s1 s2
      go_wp2_with fail
      go_end0
      refine ⟨rfl, ?_, HR.out.2⟩
      rw [show refGo L 5 a at_ = at_ from by unfold refGo; rw [hT, if_neg (by omega)]]
      exact HR.out.1
set_option maxHeartbeats 8000000 in
theorem refgo3_w {w : World} {Rb cp : Nat} {LA : Option Addr} {L : List PC.S44} {at_ : Int} (h : Rf w Rb LA cp L at_) (a : PC.S42) (hat1 : -1 ≤ at_) (hat2 : at_ < L.length) :
    Calls Try.prog 45 #[.pointer (some ⟨Rb, 0, none⟩), .int .i64 3, kv42 a] w (GoEnd w Rb cp LA L (refGo L 3 a at_)) := by
  unfold kv42
  obtain ⟨W0, hW0⟩ : ∃ W0, w.alloc (.cells #[.string a.f0, .int .u64 a.f1, .int .i64 a.f2] 42) = W0 := ⟨_, rfl⟩
  have b0 : Below w.heap.size w W0 := by rw [← hW0]; exact (Below.refl _ _).alloc (Nat.le_refl _) _
  have k0 : W0.heap[w.heap.size]? = some (obj3 a) := by rw [← hW0]; exact World.alloc_heap_new w _
  have hlt := h.lt
  have hlen := h.len
  have h0 := h.below b0
  obtain ⟨r0, r1, r2⟩ := h0.cells
  have H0 := Lib.hid (And.intro h0 (And.intro k0 (Fr.of_below (O := fun b => b = Rb) b0)))
  clear h0 k0 b0 h
  go_enter Try.func45, Try.ntmps45
  have hkle := lowK_le L a
  obtain ⟨V, hV⟩ : ∃ V, W0.setCell ⟨Rb, 1, none⟩ (.int .i64 (0)) = V := ⟨_, rfl⟩
  have RV := Lib.hid (show Rf V Rb LA cp L ((0 : Nat) : Int) ∧ Fr (fun b => b = Rb) W0 V from by rw [← hV]; exact ⟨H0.out.1.set _, (Fr.refl _ _).set _ _ rfl⟩)
  go_wp2_with (first | rw [hW0] | rw [hV])
  go_loopg [53] (lowK L a) (fun k _ wr => ∃ i : Nat, i ≤ lowK L a ∧ k = lowK L a - i ∧ Hid (Rf wr Rb LA cp L (i : Int) ∧ Fr (fun b => b = Rb) W0 wr))
  case atStart => exact ⟨0, by omega, by omega, Lib.hid RV.out⟩
  case round =>
    obtain ⟨i, hi, rfl, HI⟩ := hrel
    obtain ⟨s0, s1, s2⟩ := HI.out.1.cells
    have kk := (HI.out.2.block _ (Array.getElem?_eq_some_iff.1 H0.out.2.1).1 (by omega)).trans H0.out.2.1
    obtain ⟨c0, c1, c2⟩ := obj3_cells kk
    have Hk := Lib.hid kk
    have m1 : IntKind.i64.wrap ((i : Int) + 1) = (i : Int) + 1 := by rw [IntWalk.i64_in _ (by omega)]
    by_cases hin : i < L.length
    · have d0 : decide ((i : Int) < L.length) = true := decide_eq_true (by omega)
      have bdr : Below wr.heap.size wr wr.drew := (Below.refl _ wr).drew
      obtain ⟨ad, e, X0⟩ := HI.out.1.c i hin
      have X0 := El.below' X0 bdr
      obtain ⟨x, hx⟩ : ∃ x, L.getD i PC.z44 = x := ⟨_, rfl⟩
      rw [hx] at X0
      have Hx := Lib.hid hx
      have RD := HI.out.1.below bdr
      obtain ⟨u0, u1, u2⟩ := RD.cells
      obtain ⟨v0, v1, v2⟩ := obj3_cells (blk_below kk bdr)
      rw [e] at u0
      have He := Lib.hid e
      have HX := Lib.hid (And.intro X0 (And.intro u0 (And.intro u1 (And.intro v0 (And.intro v1 v2)))))
      have HRD := Lib.hid (And.intro RD (And.intro (HI.out.2.below bdr) bdr))
      clear X0 hx e RD u0 u1 u2 v0 v1 v2 kk s0 s1 s2 c0 c1 c2 bdr
      have p0 : (0 ≤ (i : Int)) = True := by simp
      have p1 : ((i : Int) < L.length) = True := eq_true (by omega)
      have p4 : (i < L.length) = True := eq_true hin
      have C := refCompare_w x.f0 a
      unfold kv42 at C
      simp only [refK_eq] at C
      have HK := Lib.hid C
      clear C
      go_wp2_with fail
      go_region_held3 (fun w' => (w'.cell? (ad.add (i * 4)) = some (.string x.f0.f0) ∧ w'.cell? ⟨(ad.add (i * 4)).block, (ad.add (i * 4)).off + 1, none⟩ = some (.int .u64 x.f0.f1) ∧ w'.cell? ⟨(ad.add (i * 4)).block, (ad.add (i * 4)).off + 2, none⟩ = some (.int .i64 x.f0.f2) ∧ w'.cell? ⟨(ad.add (i * 4)).block, (ad.add (i * 4)).off + 3, none⟩ = some (.string x.f1)) ∧ w'.cell? ⟨Rb, 0, none⟩ = some (.slice (some ad) L.length cp) ∧ w'.cell? ⟨Rb, 1, none⟩ = some (.int .i64 (i : Int)) ∧ w'.cell? ⟨w.heap.size, 0, none⟩ = some (.string a.f0) ∧ w'.cell? ⟨w.heap.size, 1, none⟩ = some (.int .u64 a.f1) ∧ w'.cell? ⟨w.heap.size, 2, none⟩ = some (.int .i64 a.f2)) (first | exact HX.out | exact HB2.out) (first | (go_at_call 41; refine Calls.mono (HK.out _) ?_; rintro e w1 ⟨rfl, hb1⟩; have HB2 := Lib.hid (And.intro (El.below' HX.out.1 hb1) (And.intro (cell_up' HX.out.2.1 hb1) (And.intro (cell_up' HX.out.2.2.1 hb1) (And.intro (cell_up' HX.out.2.2.2.1 hb1) (And.intro (cell_up' HX.out.2.2.2.2.1 hb1) (cell_up' HX.out.2.2.2.2.2 hb1)))))); have HB1 := Lib.hid hb1; clear hb1))
      have HW := Lib.hid (And.intro (HRD.out.1.below HB1.out) (HRD.out.2.1.below HB1.out))
      clear HB1 HX HK HB2 HRD
      by_cases hc : cmpK x.f0 a < 0
      · have dc : decide (cmpK x.f0 a < 0) = true := decide_eq_true hc
        have hlow : i < lowK L a := by
          rcases Nat.lt_or_eq_of_le hi with h1 | h1
          · exact h1
          · exfalso
            have := lowK_not L a (by omega)
            rw [← h1, Hx.out] at this
            exact this hc
        obtain ⟨s0, s1, s2⟩ := HW.out.1.cells
        go_wp2_with fail
        go_roundg (lowK L a - (i + 1))
        case measure => omega
        case rel => exact ⟨i + 1, by omega, rfl, Lib.hid ⟨by have := HW.out.1.set ((i : Int) + 1); simpa using this, HW.out.2.set _ _ rfl⟩⟩
      · have dc : decide (cmpK x.f0 a < 0) = false := decide_eq_false hc
        have hlow : i = lowK L a := by
          rcases Nat.lt_or_eq_of_le hi with h1 | h1
          · exfalso
            have := lowK_lt L a i h1
            rw [Hx.out] at this
            exact hc this
          · exact h1
        have HL := Lib.hid hlow
        clear hlow
        have hT : refT L 3 a at_ = (i : Int) := by
          unfold refT
          simp only [show ((3 : Int) = 1) = False by simp, show ((3 : Int) = 2) = False by simp, if_true, if_false]
          rw [← HL.out]
        have HT := Lib.hid hT
        clear hT
        obtain ⟨Vx, hVx⟩ : ∃ V : World, V = w1 := ⟨_, rfl⟩
        have RVx := Lib.hid (And.intro HW.out.1 (H0.out.2.2.trans HW.out.2 (fun _ _ h => h)))
        obtain ⟨s0, s1, s2⟩ := RVx.out.1.cells
        by_cases hge : (L.length : Int) ≤ (i : Int)
        · exfalso; omega
        · have dg : decide ((L.length : Int) ≤ (i : Int)) = false := decide_eq_false hge
          go_wp2_with fail
          go_quiet (fail)
          obtain ⟨V2, hV2⟩ : ∃ V2, w1.drewN nq = V2 := ⟨_, rfl⟩
          have bd : Below w1.heap.size w1 V2 := by rw [← hV2]; exact ⟨rfl, rfl, rfl, Nat.le_refl _, fun _ _ => rfl⟩
          have HR := Lib.hid (And.intro (RVx.out.1.below bd) (RVx.out.2.below bd))
          rw [hV2]
          clear bd hV2 s0 s1 s2
          go_wp2_with fail
          go_end0
          refine ⟨rfl, ?_, HR.out.2⟩
          rw [show refGo L 3 a at_ = (i : Int) from by unfold refGo; rw [HT.out, if_neg (by omega)]]
          exact HR.out.1
    · have d0 : decide ((i : Int) < L.length) = false := decide_eq_false (by omega)
      have HL := Lib.hid (show i = lowK L a by omega)
      have hT : refT L 3 a at_ = (i : Int) := by
        unfold refT
        simp only [show ((3 : Int) = 1) = False by simp, show ((3 : Int) = 2) = False by simp, if_true, if_false]
        rw [← HL.out]
      have HT := Lib.hid hT
      have RVy := Lib.hid (And.intro HI.out.1 (H0.out.2.2.trans HI.out.2 (fun _ _ h => h)))
      clear hT
      go_wp2_with fail
      go_quiet (fail)
      obtain ⟨Vy, hVy⟩ : ∃ V2, wr.drewN nq = V2 := ⟨_, rfl⟩
      have RVx := Lib.hid (And.intro (RVy.out.1.below (show Below wr.heap.size wr Vy from by rw [← hVy]; exact ⟨rfl, rfl, rfl, Nat.le_refl _, fun _ _ => rfl⟩)) (RVy.out.2.below (show Below wr.heap.size wr Vy from by rw [← hVy]; exact ⟨rfl, rfl, rfl, Nat.le_refl _, fun _ _ => rfl⟩)))
      rw [hVy]
      clear hVy s0 s1 s2 RVy
      obtain ⟨s0, s1, s2⟩ := RVx.out.1.cells
      by_cases hge : (L.length : Int) ≤ (i : Int)
      · have dg : decide ((L.length : Int) ≤ (i : Int)) = true := decide_eq_true hge
        go_wp2_with fail
        go_quiet (fail)
        obtain ⟨V2, hV2⟩ : ∃ V2, Vy.drewN nq = V2 := ⟨_, rfl⟩
        have bd : Below Vy.heap.size Vy V2 := by rw [← hV2]; exact ⟨rfl, rfl, rfl, Nat.le_refl _, fun _ _ => rfl⟩
        have R2 := RVx.out.1.below bd
        obtain ⟨t0, t1, t2⟩ := R2.cells
        have F2 := RVx.out.2.below bd
        have HR := Lib.hid (And.intro (R2.set (-1)) (F2.set ⟨Rb, 1, none⟩ (.int .i64 (-1)) rfl))
        rw [hV2]
        clear R2 F2 bd hV2 s0 s1 s2
        go_wp2_with fail
        go_end0
        refine ⟨rfl, ?_, HR.out.2⟩
        rw [show refGo L 3 a at_ = -1 from by unfold refGo; rw [HT.out, if_pos (by omega)]]
        exact HR.out.1
      · exfalso; omega
end Go.Proofs.Ytehoojmalhloeaa.CM
