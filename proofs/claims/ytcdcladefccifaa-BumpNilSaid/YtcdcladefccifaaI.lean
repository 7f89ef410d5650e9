/-
  The walk of BumpNil: it returns true in any world. No condition.
-/
import Derived.Test.YtcdcladefccifaaR
set_option linter.unusedVariables false
set_option linter.unusedSimpArgs false
namespace Go.Proofs
open Go.RowKit BU
set_option maxRecDepth 100000 in
set_option maxHeartbeats 800000 in
theorem nil_walk (k at_ n m : Int) (A : Option Addr) (len cap : Nat) (w : World) : Calls Try.prog 7 #[.agg #[.int .i64 k, .int .i64 at_, .int .i64 n, .int .i64 m, .slice A len cap]] w (fun e w' => e = .returned (.bool true) ∧ Below w.heap.size w w') := by
  go_enter Try.func7, Try.ntmps7
  go_wp2_with fail
  refine (awake_any _).mono ?_
  rintro e w1 ⟨rfl, b1⟩
  have B1 : Hid (Below w.heap.size w w1) := Lib.hid (((Below.refl _ _).alloc (Nat.le_refl _) _).trans (b1.mono (by simp)))
  have c0 : w1.cell? ⟨w.heap.size, 0, none⟩ = some (.int .i64 k) := by rw [b1.cell (by simp)]; simp
  have c1 : w1.cell? ⟨w.heap.size, 1, none⟩ = some (.int .i64 at_) := by rw [b1.cell (by simp)]; simp
  have c2 : w1.cell? ⟨w.heap.size, 2, none⟩ = some (.int .i64 n) := by rw [b1.cell (by simp)]; simp
  have c3 : w1.cell? ⟨w.heap.size, 3, none⟩ = some (.int .i64 m) := by rw [b1.cell (by simp)]; simp
  have c4 : w1.cell? ⟨w.heap.size, 4, none⟩ = some (.slice A len cap) := by rw [b1.cell (by simp)]; simp
  clear b1
  go_wp2_with (first | (go_at_call 18; refine (alloc_nil _ _).mono ?_; rintro e w' ⟨rfl, rfl⟩) | (go_at_call 17; refine (get_nil _ _ _).mono ?_; rintro e w' ⟨rfl, rfl⟩) | (go_at_call 10; refine (newcell_nil _).mono ?_; rintro e w' ⟨rfl, rfl⟩) | (go_at_call 13; refine (load_nil _ _).mono ?_; rintro e w' ⟨rfl, rfl⟩) | (go_at_call 12; refine (cas_nil _ _ _ _).mono ?_; rintro e w' ⟨rfl, rfl⟩) | (go_at_call 19; refine (put_nil _ _ _ _ _).mono ?_; rintro e w' ⟨rfl, rfl⟩) | (go_at_call 11; refine (store_nil _ _ _).mono ?_; rintro e w' ⟨rfl, rfl⟩) | (go_at_call 16; refine (used_nil _).mono ?_; rintro e w' ⟨rfl, rfl⟩))
  go_ret
  exact ⟨rfl, B1.out⟩
theorem nil_row (cs : Array Value) (w : World) (h : IsCall w (Value.agg cs).cells.toList) : Calls Try.prog 7 #[.agg cs] w (fun e w' => e = .returned (.bool true) ∧ Below w.heap.size w w') := by
  obtain ⟨k, at_, n, m, A, len, cap, z, hcs, _⟩ := h
  have e : cs = #[.int .i64 k, .int .i64 at_, .int .i64 n, .int .i64 m, .slice A len cap] := by
    have : cs.toList = _ := hcs
    rw [← Array.toArray_toList (xs := cs), this]
  subst e
  exact nil_walk k at_ n m A len cap w
end Go.Proofs
