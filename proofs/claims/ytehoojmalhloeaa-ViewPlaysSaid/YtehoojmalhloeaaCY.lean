/- The comparisons of two keys, the program's and the document's: what they compute. No condition of their own. -/
import Derived.Test.YtehoojmalhloeaaPCx0
import Derived.Lib.Strings
import Derived.Lib.Slices
import Derived.Lib.Walk
import Derived.Lib.Bytealg
import Derived.Lib.Hide
import Derived.RangeFuncRecord
import Derived.BigQuiet
import Derived.WalkSmall
import Derived.Laws.Cover1

/-! The program's comparison of two keys, and what it calls, compute the stated number. No condition of their own. -/
namespace Go.Proofs.Ytehoojmalhloeaa.CM
open Go.RowKit
set_option linter.unusedVariables false
set_option linter.unusedSimpArgs false
set_option maxRecDepth 100000

/-- Three ways of two numbers. -/
def cmpI (a b : Int) : Int := if a < b then -1 else if b < a then 1 else 0
/-- Three ways of two strings. -/
def cmpB (a b : ByteArray) : Int := Lib.compareBytes a.data.toList b.data.toList

theorem isNaNu (a : Int) (w : World) : Calls Try.prog 107 #[.int .u64 a] w fun e w' => e = .returned (.bool false) ∧ w' = w := by
  have hu37 := Try.underlying37
  go_enter Try.func107, Try.ntmps107
  go_wp2
  go_ret
  exact ⟨by simp, rfl⟩
theorem isNaNi (a : Int) (w : World) : Calls Try.prog 108 #[.int .i64 a] w fun e w' => e = .returned (.bool false) ∧ w' = w := by
  have hu3 := Try.underlying3
  go_enter Try.func108, Try.ntmps108
  go_wp2
  go_ret
  exact ⟨by simp, rfl⟩

theorem cmpu (a b : Int) (w : World) : Calls Try.prog 101 #[.int .u64 a, .int .u64 b] w fun e w' => e = .returned (.int .i64 (cmpI a b)) ∧ w' = w := by
  have hu37 := Try.underlying37
  go_enter Try.func101, Try.ntmps101
  unfold cmpI
  go_wp2_with (go_at_call 107; refine (isNaNu _ _).mono ?_; rintro e w' ⟨rfl, rfl⟩)
  all_goals (try go_ret)
  all_goals first | (refine ⟨?_, rfl⟩; simp_all; done) | (simp_all; done) | (refine ⟨?_, rfl⟩; have h1 : ¬ a < b := (by omega); have h2 : ¬ b < a := (by omega); simp [h1, h2])
theorem cmpi (a b : Int) (w : World) : Calls Try.prog 102 #[.int .i64 a, .int .i64 b] w fun e w' => e = .returned (.int .i64 (cmpI a b)) ∧ w' = w := by
  have hu3 := Try.underlying3
  go_enter Try.func102, Try.ntmps102
  unfold cmpI
  go_wp2_with (go_at_call 108; refine (isNaNi _ _).mono ?_; rintro e w' ⟨rfl, rfl⟩)
  all_goals (try go_ret)
  all_goals first | (refine ⟨?_, rfl⟩; simp_all; done) | (simp_all; done) | (refine ⟨?_, rfl⟩; have h1 : ¬ a < b := (by omega); have h2 : ¬ b < a := (by omega); simp [h1, h2])

theorem cmpStr (a b : ByteArray) (w : World) : Calls Try.prog 106 #[.string a, .string b] w fun e w' => e = .returned (.int .i64 (cmpB a b)) ∧ w' = w := by
  go_enter Try.func106, Try.ntmps106
  go_wp2
  rw [run_callFunc_extern Try.func109 (by kernel_rfl) (by kernel_rfl) (by kernel_rfl) (e := Extern.BytealgCompare.compare) (by kernel_rfl), Lib.run_compareString]
  simp only [Result.andThen]
  rw [Oper.upon_value]
  go_wp2
  go_ret
  exact ⟨rfl, rfl⟩
theorem cmpS (a b : ByteArray) (w : World) : Calls Try.prog 100 #[.string a, .string b] w fun e w' => e = .returned (.int .i64 (cmpB a b)) ∧ w' = w := by
  go_enter Try.func100, Try.ntmps100
  go_wp2_with (go_at_call 106; refine (cmpStr _ _ _).mono ?_; rintro e w' ⟨rfl, rfl⟩)
  go_ret
  exact ⟨rfl, rfl⟩


/-- The value of a key. -/
def kv42 (a : PC.S42) : Value := .agg #[.string a.f0, .int .u64 a.f1, .int .i64 a.f2]
/-- How two keys stand, as the program says it. -/
def cmpK (a b : PC.S42) : Int := if cmpB a.f0 b.f0 ≠ 0 then cmpB a.f0 b.f0 else if cmpI b.f1 a.f1 ≠ 0 then cmpI b.f1 a.f1 else cmpI b.f2 a.f2

theorem user_w (a b : PC.S42) (w : World) : Calls Try.prog 91 #[kv42 a, kv42 b] w fun e w' => e = .returned (.int .i64 (cmpB a.f0 b.f0)) ∧ Below w.heap.size w w' := by
  unfold kv42
  go_enter Try.func91, Try.ntmps91
  go_wp2_with (go_at_call 100; refine (cmpS _ _ _).mono ?_; rintro e w' ⟨rfl, rfl⟩)
  go_ret
  exact ⟨rfl, by (repeat (first | exact Below.refl _ _ | refine Below.alloc ?_ (by simp) _))⟩

theorem seq_w (a b : PC.S42) (w : World) : Calls Try.prog 92 #[kv42 a, kv42 b] w fun e w' => e = .returned (.int .i64 (cmpI b.f1 a.f1)) ∧ Below w.heap.size w w' := by
  unfold kv42
  go_enter Try.func92, Try.ntmps92
  go_wp2_with (go_at_call 101; refine (cmpu _ _ _).mono ?_; rintro e w' ⟨rfl, rfl⟩)
  go_ret
  exact ⟨rfl, by (repeat (first | exact Below.refl _ _ | refine Below.alloc ?_ (by simp) _))⟩
theorem kind_w (a b : PC.S42) (w : World) : Calls Try.prog 93 #[kv42 a, kv42 b] w fun e w' => e = .returned (.int .i64 (cmpI b.f2 a.f2)) ∧ Below w.heap.size w w' := by
  unfold kv42
  go_enter Try.func93, Try.ntmps93
  go_wp2_with (go_at_call 102; refine (cmpi _ _ _).mono ?_; rintro e w' ⟨rfl, rfl⟩)
  go_ret
  exact ⟨rfl, by (repeat (first | exact Below.refl _ _ | refine Below.alloc ?_ (by simp) _))⟩

theorem cell_top {w : World} {cs : Array Value} {t b k : Nat} {v : Value} (hb : b = w.heap.size) (h : cs[k]? = some v) : (w.alloc (.cells cs t)).cell? ⟨b, k, none⟩ = some v := by
  subst hb
  have e : (w.alloc (.cells cs t)).heap[w.heap.size]? = some (.cells cs t) := World.alloc_heap_new w _
  unfold World.cell?
  rw [e]
  exact h
theorem cell_up {w : World} {o : Obj} {a : Addr} {v : Value} (h : w.cell? a = some v) : (w.alloc o).cell? a = some v :=
  ((Below.refl w.heap.size w).alloc (Nat.le_refl _) o |>.cell (World.block_lt_of_cell? w _ h)).trans h
/-- What part k of the comparison says. -/
def part (a b : PC.S42) : Nat → Int
  | 0 => cmpB a.f0 b.f0
  | 1 => cmpI b.f1 a.f1
  | _ => cmpI b.f2 a.f2

set_option maxHeartbeats 4000000 in
theorem compare_w (a b : PC.S42) (w : World) : Calls Try.prog 69 #[kv42 a, kv42 b] w fun e w' => e = .returned (.int .i64 (cmpK a b)) ∧ Below w.heap.size w w' := by
  have U := user_w a b
  have S := seq_w a b
  have K := kind_w a b
  unfold kv42 at U S K ⊢
  go_enter Try.func69, Try.ntmps69
  go_wp2
  obtain ⟨W0, hW0, hsz, hB0, hf0, hf1, hf2, hb0, hb1, hb2⟩ : ∃ W0, ((((w.alloc (Obj.cells #[Value.string a.f0, Value.int IntKind.u64 a.f1, Value.int IntKind.i64 a.f2] 42)).alloc
              (Obj.cells #[Value.string b.f0, Value.int IntKind.u64 b.f1, Value.int IntKind.i64 b.f2] 42)).alloc
          (Obj.cells #[Value.string a.f0, Value.int IntKind.u64 a.f1, Value.int IntKind.i64 a.f2] 134)).alloc
      (Obj.cells
        #[Value.func (Fn.func 91)
            #[Value.agg #[Value.string a.f0, Value.int IntKind.u64 a.f1, Value.int IntKind.i64 a.f2]] #[],
          Value.func (Fn.func 92)
            #[Value.agg #[Value.string a.f0, Value.int IntKind.u64 a.f1, Value.int IntKind.i64 a.f2]] #[],
          Value.func (Fn.func 93)
            #[Value.agg #[Value.string a.f0, Value.int IntKind.u64 a.f1, Value.int IntKind.i64 a.f2]] #[]]
        135)) = W0 ∧ W0.heap.size = w.heap.size + 4 ∧ Below w.heap.size w W0
      ∧ W0.cell? ⟨w.heap.size + 1 + 1 + 1, 0, none⟩ = some (Value.func (Fn.func 91) #[Value.agg #[Value.string a.f0, Value.int IntKind.u64 a.f1, Value.int IntKind.i64 a.f2]] #[])
      ∧ W0.cell? ⟨w.heap.size + 1 + 1 + 1, 1, none⟩ = some (Value.func (Fn.func 92) #[Value.agg #[Value.string a.f0, Value.int IntKind.u64 a.f1, Value.int IntKind.i64 a.f2]] #[])
      ∧ W0.cell? ⟨w.heap.size + 1 + 1 + 1, 2, none⟩ = some (Value.func (Fn.func 93) #[Value.agg #[Value.string a.f0, Value.int IntKind.u64 a.f1, Value.int IntKind.i64 a.f2]] #[])
      ∧ W0.cell? ⟨w.heap.size + 1, 0, none⟩ = some (.string b.f0)
      ∧ W0.cell? ⟨w.heap.size + 1, 1, none⟩ = some (.int .u64 b.f1)
      ∧ W0.cell? ⟨w.heap.size + 1, 2, none⟩ = some (.int .i64 b.f2) := by
    refine ⟨_, rfl, by simp, ((((Below.refl w.heap.size w).alloc (by simp) _).alloc (by simp) _).alloc (by simp; omega) _).alloc (by simp; omega) _, ?_, ?_, ?_, ?_, ?_, ?_⟩
    · exact cell_top (by simp) rfl
    · exact cell_top (by simp) rfl
    · exact cell_top (by simp) rfl
    · exact cell_up (cell_up (cell_top (by simp) rfl))
    · exact cell_up (cell_up (cell_top (by simp) rfl))
    · exact cell_up (cell_up (cell_top (by simp) rfl))
  rw [hW0]
  go_loopw [19] (fun t wr => ∃ k : Nat, k ≤ 3 ∧ t = .int .i64 k ∧ (∀ j, j < k → part a b j = 0) ∧ Below W0.heap.size W0 wr) (fun t _ => 3 - (intOf t).toNat)
  case atStart => exact ⟨0, by omega, rfl, by simp, Below.refl _ _⟩
  case round =>
    obtain ⟨k, hk, rfl, hz, hB⟩ := hrel
    have kc : ∀ {a : Addr} {v : Value}, W0.cell? a = some v → ∀ {X : World}, Below W0.heap.size W0 X → X.cell? a = some v := fun h _ hX => (hX.cell (World.block_lt_of_cell? W0 _ h)).trans h
    have gf0 := kc hf0 hB
    have gf1 := kc hf1 hB
    have gf2 := kc hf2 hB
    have gb0 := kc hb0 hB
    have gb1 := kc hb1 hB
    have gb2 := kc hb2 hB
    have hw0 : w.heap.size ≤ W0.heap.size := by omega
    have Z := Lib.hid hz
    have KB := Lib.hid hB
    have B0 := Lib.hid hB0
    have HW := Lib.hid hw0
    clear hz hB hB0 hf0 hf1 hf2 hb0 hb1 hb2 hW0 hw0 kc
    have h3 : k = 0 ∨ k = 1 ∨ k = 2 ∨ k = 3 := by omega
    rcases h3 with rfl | rfl | rfl | rfl
    · by_cases c : cmpB a.f0 b.f0 = 0
      · have cb : (cmpB a.f0 b.f0 != 0) = false := by simp [c]
        go_wp2_with (go_at_call 91; refine ((U _).mono (R' := fun e w' => e = .returned (.int .i64 (cmpB a.f0 b.f0)) ∧ Below W0.heap.size W0 w') (fun e w' h => ⟨h.1, KB.out.trans (h.2.mono KB.out.size)⟩)).mono ?_; rintro e w1 ⟨rfl, hw1⟩)
        refine ⟨⟨1, by omega, by simp, fun j hj => ?_, hw1⟩, by simp [intOf]⟩
        rcases Nat.lt_succ_iff_lt_or_eq.1 hj with h | rfl
        · exact Z.out j h
        · exact c
      · have cb : (cmpB a.f0 b.f0 != 0) = true := by simp [c]
        go_wp2_with (go_at_call 91; refine ((U _).mono (R' := fun e w' => e = .returned (.int .i64 (cmpB a.f0 b.f0)) ∧ Below W0.heap.size W0 w') (fun e w' h => ⟨h.1, KB.out.trans (h.2.mono KB.out.size)⟩)).mono ?_; rintro e w1 ⟨rfl, hw1⟩)
        go_ret
        exact ⟨by simp [cmpK, c], B0.out.trans (hw1.mono HW.out)⟩
    · by_cases c : cmpI b.f1 a.f1 = 0
      · have cb : (cmpI b.f1 a.f1 != 0) = false := by simp [c]
        go_wp2_with (go_at_call 92; refine ((S _).mono (R' := fun e w' => e = .returned (.int .i64 (cmpI b.f1 a.f1)) ∧ Below W0.heap.size W0 w') (fun e w' h => ⟨h.1, KB.out.trans (h.2.mono KB.out.size)⟩)).mono ?_; rintro e w1 ⟨rfl, hw1⟩)
        refine ⟨⟨2, by omega, by simp, fun j hj => ?_, hw1⟩, by simp [intOf]⟩
        rcases Nat.lt_succ_iff_lt_or_eq.1 hj with h | rfl
        · exact Z.out j h
        · exact c
      · have cb : (cmpI b.f1 a.f1 != 0) = true := by simp [c]
        go_wp2_with (go_at_call 92; refine ((S _).mono (R' := fun e w' => e = .returned (.int .i64 (cmpI b.f1 a.f1)) ∧ Below W0.heap.size W0 w') (fun e w' h => ⟨h.1, KB.out.trans (h.2.mono KB.out.size)⟩)).mono ?_; rintro e w1 ⟨rfl, hw1⟩)
        go_ret
        have z0 := Z.out 0 (by omega)
        simp only [part] at z0
        exact ⟨by simp [cmpK, c, z0], B0.out.trans (hw1.mono HW.out)⟩
    · by_cases c : cmpI b.f2 a.f2 = 0
      · have cb : (cmpI b.f2 a.f2 != 0) = false := by simp [c]
        go_wp2_with (go_at_call 93; refine ((K _).mono (R' := fun e w' => e = .returned (.int .i64 (cmpI b.f2 a.f2)) ∧ Below W0.heap.size W0 w') (fun e w' h => ⟨h.1, KB.out.trans (h.2.mono KB.out.size)⟩)).mono ?_; rintro e w1 ⟨rfl, hw1⟩)
        refine ⟨⟨3, by omega, by simp, fun j hj => ?_, hw1⟩, by simp [intOf]⟩
        rcases Nat.lt_succ_iff_lt_or_eq.1 hj with h | rfl
        · exact Z.out j h
        · exact c
      · have cb : (cmpI b.f2 a.f2 != 0) = true := by simp [c]
        go_wp2_with (go_at_call 93; refine ((K _).mono (R' := fun e w' => e = .returned (.int .i64 (cmpI b.f2 a.f2)) ∧ Below W0.heap.size W0 w') (fun e w' h => ⟨h.1, KB.out.trans (h.2.mono KB.out.size)⟩)).mono ?_; rintro e w1 ⟨rfl, hw1⟩)
        go_ret
        have z0 := Z.out 0 (by omega)
        have z1 := Z.out 1 (by omega)
        simp only [part] at z0 z1
        exact ⟨by simp [cmpK, z0, z1], B0.out.trans (hw1.mono HW.out)⟩
    · go_wp2
      go_ret
      have z0 := Z.out 0 (by omega)
      have z1 := Z.out 1 (by omega)
      have z2 := Z.out 2 (by omega)
      simp only [part] at z0 z1 z2
      exact ⟨by simp [cmpK, z0, z1, z2], B0.out.trans (KB.out.mono HW.out)⟩

end Go.Proofs.Ytehoojmalhloeaa.CM

/-! The document's comparison of two keys (chapter 02) computes the stated number, which is the program's. No condition of their own. -/
namespace Go.Proofs.Ytehoojmalhloeaa.CM
open Go.RowKit
set_option linter.unusedVariables false
set_option linter.unusedSimpArgs false
set_option maxRecDepth 100000

theorem less_tri : ∀ (x y : List UInt8), (!(Op.bytesLess x y || x == y)) = Op.bytesLess y x
  | [], [] => by simp [Op.bytesLess]
  | [], _ :: _ => by simp [Op.bytesLess]
  | _ :: _, [] => by simp [Op.bytesLess]
  | a :: x, b :: y => by
    have ih := less_tri x y
    rcases Nat.lt_trichotomy a.toNat b.toNat with h | h | h
    · have h : a < b := h
      have h1 : ¬ b < a := UInt8.lt_asymm h
      have h2 : ¬ b = a := fun e => UInt8.ne_of_lt h e.symm
      have h3 : ¬ a = b := fun e => h2 e.symm
      simp [Op.bytesLess, h, h1, h2, h3]
    · obtain rfl : a = b := UInt8.toNat_inj.1 h
      simpa [Op.bytesLess] using ih
    · have h : b < a := h
      have h1 : ¬ a < b := UInt8.lt_asymm h
      have h2 : ¬ a = b := fun e => UInt8.ne_of_lt h e.symm
      have h3 : ¬ b = a := fun e => h2 e.symm
      simp [Op.bytesLess, h, h1, h2, h3]
/-- How two keys stand, as the document says it. -/
def refK (a b : PC.S42) : Int := if Op.bytesLess a.f0.toList b.f0.toList = true then -1 else if Op.bytesLess b.f0.toList a.f0.toList = true then 1 else if b.f1 < a.f1 ∨ a.f1 = b.f1 ∧ b.f2 < a.f2 then -1 else if a.f1 < b.f1 ∨ a.f2 < b.f2 then 1 else 0

set_option maxHeartbeats 4000000 in
theorem refCompare_w (a b : PC.S42) (w : World) : Calls Try.prog 41 #[kv42 a, kv42 b] w fun e w' => e = .returned (.int .i64 (refK a b)) ∧ Below w.heap.size w w' := by
  unfold kv42
  go_enter Try.func41, Try.ntmps41
  obtain ⟨W0, hW0, hB0, ha0, ha1, ha2, hb0, hb1, hb2⟩ : ∃ W0, ((w.alloc (Obj.cells #[Value.string a.f0, Value.int IntKind.u64 a.f1, Value.int IntKind.i64 a.f2] 42)).alloc
              (Obj.cells #[Value.string b.f0, Value.int IntKind.u64 b.f1, Value.int IntKind.i64 b.f2] 42)) = W0 ∧ Below w.heap.size w W0
      ∧ W0.cell? ⟨w.heap.size, 0, none⟩ = some (.string a.f0)
      ∧ W0.cell? ⟨w.heap.size, 1, none⟩ = some (.int .u64 a.f1)
      ∧ W0.cell? ⟨w.heap.size, 2, none⟩ = some (.int .i64 a.f2)
      ∧ W0.cell? ⟨w.heap.size + 1, 0, none⟩ = some (.string b.f0)
      ∧ W0.cell? ⟨w.heap.size + 1, 1, none⟩ = some (.int .u64 b.f1)
      ∧ W0.cell? ⟨w.heap.size + 1, 2, none⟩ = some (.int .i64 b.f2) := by
    refine ⟨_, rfl, ((Below.refl w.heap.size w).alloc (by simp) _).alloc (by simp) _, ?_, ?_, ?_, ?_, ?_, ?_⟩
    · exact cell_up (cell_top (by simp) rfl)
    · exact cell_up (cell_top (by simp) rfl)
    · exact cell_up (cell_top (by simp) rfl)
    · exact cell_top (by simp) rfl
    · exact cell_top (by simp) rfl
    · exact cell_top (by simp) rfl
  have B0 := Lib.hid hB0
  clear hB0
  have tri := less_tri a.f0.toList b.f0.toList
  by_cases c1 : Op.bytesLess a.f0.toList b.f0.toList = true
  · clear tri
    go_wp2
    go_ret
    exact ⟨by simp [refK, c1], B0.out⟩
  have f1 : Op.bytesLess a.f0.toList b.f0.toList = false := by simpa using c1
  by_cases c2 : Op.bytesLess b.f0.toList a.f0.toList = true
  · have e2 : (a.f0.toList == b.f0.toList) = false := by rw [f1, c2] at tri; simpa using tri
    clear tri
    go_wp2
    go_ret
    exact ⟨by simp [refK, c1, c2], B0.out⟩
  have f2 : Op.bytesLess b.f0.toList a.f0.toList = false := by simpa using c2
  have e2 : (a.f0.toList == b.f0.toList) = true := by rw [f1, f2] at tri; simpa using tri
  clear tri
  by_cases c3 : b.f1 < a.f1
  · go_wp2
    go_ret
    exact ⟨by simp [refK, c1, c2, c3], B0.out⟩
  have f3 : decide (b.f1 < a.f1) = false := decide_eq_false c3
  have r0 : refK a b = if b.f1 < a.f1 ∨ a.f1 = b.f1 ∧ b.f2 < a.f2 then -1 else if a.f1 < b.f1 ∨ a.f2 < b.f2 then 1 else 0 := by unfold refK; rw [if_neg c1, if_neg c2]
  by_cases c4 : a.f1 = b.f1
  · have f4 : (a.f1 == b.f1) = true := by simp [c4]
    by_cases c5 : b.f2 < a.f2
    · have r : refK a b = -1 := by rw [r0, if_pos (Or.inr ⟨c4, c5⟩)]
      clear r0 c4
      go_wp2
      go_ret
      exact ⟨by simp [r], B0.out⟩
    have f5 : decide (b.f2 < a.f2) = false := decide_eq_false c5
    have c6 : ¬ a.f1 < b.f1 := by omega
    have f6 : decide (a.f1 < b.f1) = false := decide_eq_false c6
    rw [if_neg (by omega)] at r0
    by_cases c7 : a.f2 < b.f2
    · have f7 : decide (a.f2 < b.f2) = true := decide_eq_true c7
      rw [if_pos (Or.inr c7)] at r0
      have r := Lib.hid r0
      clear r0 c4
      go_wp2
      go_ret
      exact ⟨by simp [r.out], B0.out⟩
    · have f7 : decide (a.f2 < b.f2) = false := decide_eq_false c7
      rw [if_neg (by omega)] at r0
      have r := Lib.hid r0
      clear r0 c4
      go_wp2
      go_ret
      exact ⟨by simp [r.out], B0.out⟩
  · have f4 : (a.f1 == b.f1) = false := by simp [c4]
    have c6 : a.f1 < b.f1 := by omega
    have f6 : decide (a.f1 < b.f1) = true := decide_eq_true c6
    rw [if_neg (by omega), if_pos (Or.inl c6)] at r0
    have r := Lib.hid r0
    clear r0
    go_wp2
    go_ret
    exact ⟨by simp [r.out], B0.out⟩

theorem cmpB_less : ∀ (x y : List UInt8), Lib.compareBytes x y = if Op.bytesLess x y = true then -1 else if Op.bytesLess y x = true then 1 else 0
  | [], [] => by simp [Op.bytesLess, Lib.compareBytes]
  | [], _ :: _ => by simp [Op.bytesLess, Lib.compareBytes]
  | _ :: _, [] => by simp [Op.bytesLess, Lib.compareBytes]
  | a :: x, b :: y => by
    have ih := cmpB_less x y
    rcases Nat.lt_trichotomy a.toNat b.toNat with h | h | h
    · have h : a < b := h
      simp [Op.bytesLess, Lib.compareBytes, h]
    · obtain rfl : a = b := UInt8.toNat_inj.1 h
      have h1 : ¬ a < a := UInt8.lt_irrefl a
      simp [Op.bytesLess, Lib.compareBytes, h1, ih]
    · have h : b < a := h
      have h1 : ¬ a < b := UInt8.lt_asymm h
      have h2 : ¬ a = b := fun e => UInt8.ne_of_lt h e.symm
      simp [Op.bytesLess, Lib.compareBytes, h, h1, h2]

theorem refK_eq (a b : PC.S42) : refK a b = cmpK a b := by
  unfold refK cmpK cmpB
  rw [cmpB_less, ← Lib.toList_data, ← Lib.toList_data]
  by_cases c1 : Op.bytesLess a.f0.toList b.f0.toList = true
  · simp [c1]
  by_cases c2 : Op.bytesLess b.f0.toList a.f0.toList = true
  · simp [c1, c2]
  rw [if_neg c1, if_neg c2]
  simp only [c1, c2, if_false, ne_eq, not_true_eq_false, Bool.false_eq_true]
  unfold cmpI
  repeat' split
  all_goals omega

end Go.Proofs.Ytehoojmalhloeaa.CM
