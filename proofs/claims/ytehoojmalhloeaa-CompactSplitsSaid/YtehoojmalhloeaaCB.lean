/- The document's comparison of two keys (chapter 02) computes the stated number, which is the program's. No condition of their own. -/
import Derived.Test.YtehoojmalhloeaaCA
import Derived.BigQuiet
import Derived.WalkSmall
import Derived.Laws.Cover1
namespace Go.Proofs.Ytehoojmalhloeaa.CM
open Go.RowKit
set_option linter.unusedVariables false
set_option linter.unusedSimpArgs false
set_option maxRecDepth 100000

theorem less_tri : ∀ (x y : List UInt8), (!(Op.bytesLess x y || x == y)) = Op.bytesLess y x
  | [], [] => by simp [Op.bytesLess]
  | [], _ :: _ => by simp [Op.bytesLess]
  | _ :: _, [] => by simp [Op.bytesLess]
  | a :: x, b :: y => by
    have ih := less_tri x y
    rcases Nat.lt_trichotomy a.toNat b.toNat with h | h | h
    · have h : a < b := h
      have h1 : ¬ b < a := UInt8.lt_asymm h
      have h2 : ¬ b = a := fun e => UInt8.ne_of_lt h e.symm
      have h3 : ¬ a = b := fun e => h2 e.symm
      simp [Op.bytesLess, h, h1, h2, h3]
    · obtain rfl : a = b := UInt8.toNat_inj.1 h
      simpa [Op.bytesLess] using ih
    · have h : b < a := h
      have h1 : ¬ a < b := UInt8.lt_asymm h
      have h2 : ¬ a = b := fun e => UInt8.ne_of_lt h e.symm
      have h3 : ¬ b = a := fun e => h2 e.symm
      simp [Op.bytesLess, h, h1, h2, h3]
/-- How two keys stand, as the document says it. -/
def refK (a b : PC.S42) : Int := if Op.bytesLess a.f0.toList b.f0.toList = true then -1 else if Op.bytesLess b.f0.toList a.f0.toList = true then 1 else if b.f1 < a.f1 ∨ a.f1 = b.f1 ∧ b.f2 < a.f2 then -1 else if a.f1 < b.f1 ∨ a.f2 < b.f2 then 1 else 0

set_option maxHeartbeats 4000000 in
theorem refCompare_w (a b : PC.S42) (w : World) : Calls Try.prog 41 #[kv42 a, kv42 b] w fun e w' => e = .returned (.int .i64 (refK a b)) ∧ Below w.heap.size w w' := by
  unfold kv42
  go_enter Try.func41, Try.ntmps41
  obtain ⟨W0, hW0, hB0, ha0, ha1, ha2, hb0, hb1, hb2⟩ : ∃ W0, ((w.alloc (Obj.cells #[Value.string a.f0, Value.int IntKind.u64 a.f1, Value.int IntKind.i64 a.f2] 42)).alloc
              (Obj.cells #[Value.string b.f0, Value.int IntKind.u64 b.f1, Value.int IntKind.i64 b.f2] 42)) = W0 ∧ Below w.heap.size w W0
      ∧ W0.cell? ⟨w.heap.size, 0, none⟩ = some (.string a.f0)
      ∧ W0.cell? ⟨w.heap.size, 1, none⟩ = some (.int .u64 a.f1)
      ∧ W0.cell? ⟨w.heap.size, 2, none⟩ = some (.int .i64 a.f2)
      ∧ W0.cell? ⟨w.heap.size + 1, 0, none⟩ = some (.string b.f0)
      ∧ W0.cell? ⟨w.heap.size + 1, 1, none⟩ = some (.int .u64 b.f1)
      ∧ W0.cell? ⟨w.heap.size + 1, 2, none⟩ = some (.int .i64 b.f2) := by
    refine ⟨_, rfl, ((Below.refl w.heap.size w).alloc (by simp) _).alloc (by simp) _, ?_, ?_, ?_, ?_, ?_, ?_⟩
    · exact cell_up (cell_top (by simp) rfl)
    · exact cell_up (cell_top (by simp) rfl)
    · exact cell_up (cell_top (by simp) rfl)
    · exact cell_top (by simp) rfl
    · exact cell_top (by simp) rfl
    · exact cell_top (by simp) rfl
  have B0 := Lib.hid hB0
  clear hB0
  have tri := less_tri a.f0.toList b.f0.toList
  by_cases c1 : Op.bytesLess a.f0.toList b.f0.toList = true
  · clear tri
    go_wp2
    go_ret
    exact ⟨by simp [refK, c1], B0.out⟩
  have f1 : Op.bytesLess a.f0.toList b.f0.toList = false := by simpa using c1
  by_cases c2 : Op.bytesLess b.f0.toList a.f0.toList = true
  · have e2 : (a.f0.toList == b.f0.toList) = false := by rw [f1, c2] at tri; simpa using tri
    clear tri
    go_wp2
    go_ret
    exact ⟨by simp [refK, c1, c2], B0.out⟩
  have f2 : Op.bytesLess b.f0.toList a.f0.toList = false := by simpa using c2
  have e2 : (a.f0.toList == b.f0.toList) = true := by rw [f1, f2] at tri; simpa using tri
  clear tri
  by_cases c3 : b.f1 < a.f1
  · go_wp2
    go_ret
    exact ⟨by simp [refK, c1, c2, c3], B0.out⟩
  have f3 : decide (b.f1 < a.f1) = false := decide_eq_false c3
  have r0 : refK a b = if b.f1 < a.f1 ∨ a.f1 = b.f1 ∧ b.f2 < a.f2 then -1 else if a.f1 < b.f1 ∨ a.f2 < b.f2 then 1 else 0 := by unfold refK; rw [if_neg c1, if_neg c2]
  by_cases c4 : a.f1 = b.f1
  · have f4 : (a.f1 == b.f1) = true := by simp [c4]
    by_cases c5 : b.f2 < a.f2
    · have r : refK a b = -1 := by rw [r0, if_pos (Or.inr ⟨c4, c5⟩)]
      clear r0 c4
      go_wp2
      go_ret
      exact ⟨by simp [r], B0.out⟩
    have f5 : decide (b.f2 < a.f2) = false := decide_eq_false c5
    have c6 : ¬ a.f1 < b.f1 := by omega
    have f6 : decide (a.f1 < b.f1) = false := decide_eq_false c6
    rw [if_neg (by omega)] at r0
    by_cases c7 : a.f2 < b.f2
    · have f7 : decide (a.f2 < b.f2) = true := decide_eq_true c7
      rw [if_pos (Or.inr c7)] at r0
      have r := Lib.hid r0
      clear r0 c4
      go_wp2
      go_ret
      exact ⟨by simp [r.out], B0.out⟩
    · have f7 : decide (a.f2 < b.f2) = false := decide_eq_false c7
      rw [if_neg (by omega)] at r0
      have r := Lib.hid r0
      clear r0 c4
      go_wp2
      go_ret
      exact ⟨by simp [r.out], B0.out⟩
  · have f4 : (a.f1 == b.f1) = false := by simp [c4]
    have c6 : a.f1 < b.f1 := by omega
    have f6 : decide (a.f1 < b.f1) = true := decide_eq_true c6
    rw [if_neg (by omega), if_pos (Or.inl c6)] at r0
    have r := Lib.hid r0
    clear r0
    go_wp2
    go_ret
    exact ⟨by simp [r.out], B0.out⟩

theorem cmpB_less : ∀ (x y : List UInt8), Lib.compareBytes x y = if Op.bytesLess x y = true then -1 else if Op.bytesLess y x = true then 1 else 0
  | [], [] => by simp [Op.bytesLess, Lib.compareBytes]
  | [], _ :: _ => by simp [Op.bytesLess, Lib.compareBytes]
  | _ :: _, [] => by simp [Op.bytesLess, Lib.compareBytes]
  | a :: x, b :: y => by
    have ih := cmpB_less x y
    rcases Nat.lt_trichotomy a.toNat b.toNat with h | h | h
    · have h : a < b := h
      simp [Op.bytesLess, Lib.compareBytes, h]
    · obtain rfl : a = b := UInt8.toNat_inj.1 h
      have h1 : ¬ a < a := UInt8.lt_irrefl a
      simp [Op.bytesLess, Lib.compareBytes, h1, ih]
    · have h : b < a := h
      have h1 : ¬ a < b := UInt8.lt_asymm h
      have h2 : ¬ a = b := fun e => UInt8.ne_of_lt h e.symm
      simp [Op.bytesLess, Lib.compareBytes, h, h1, h2]

theorem refK_eq (a b : PC.S42) : refK a b = cmpK a b := by
  unfold refK cmpK cmpB
  rw [cmpB_less, ← Lib.toList_data, ← Lib.toList_data]
  by_cases c1 : Op.bytesLess a.f0.toList b.f0.toList = true
  · simp [c1]
  by_cases c2 : Op.bytesLess b.f0.toList a.f0.toList = true
  · simp [c1, c2]
  rw [if_neg c1, if_neg c2]
  simp only [c1, c2, if_false, ne_eq, not_true_eq_false, Bool.false_eq_true]
  unfold cmpI
  repeat' split
  all_goals omega

end Go.Proofs.Ytehoojmalhloeaa.CM
