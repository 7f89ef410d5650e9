/-
  Walks of New, Alloc, Used and cell of package bump; each states its own conditions on the world's cells.
-/
import Derived.Test.YtcdcladefccifaaZero2
import Derived.WalkKit
import Derived.WalkSpells
import Derived.Deep.QuietTactic
import Derived.BigQuiet
import Derived.Maps.AppendAt
import Derived.Outline
import Derived.Lib.Hide
set_option linter.unusedVariables false
set_option linter.unusedSimpArgs false
namespace Go.Proofs
open Go.RowKit
namespace BU
theorem wpList_value {P : Program} {ops : Array Oper} {rest : List Oper} {o : Oper} {a : Act} {w w' : World} {Q : Exit → Act → World → Prop} {v : Value} (hgd : o.guard = none) (hrun : (execOp a.eval o).run P w = .ok (.value v) w') (h : wpList P ops Q rest (a.put o.dst v) w') : wpList P ops Q (o :: rest) a w :=
  wpList_plain hgd fun _ hK => by unfold Oper.wp; rw [hrun]; exact hK _ _ h
theorem wpList_build1 {P : Program} {ops : Array Oper} {rest : List Oper} {o : Oper} {a : Act} {w : World} {Q : Exit → Act → World → Prop} {t : TypeId} {i : Nat} {x : Operand} (v u : Value) (hgd : o.guard = none) (ho : o.op = .build t #[(i, x)])
  (hx : a.eval x = u) (hrun : (Instr.build t #[(i, u)]).run P w = .ok v w) (h : wpList P ops Q rest (a.put o.dst v) w) : wpList P ops Q (o :: rest) a w := by
  refine wpList_value hgd ?_ h
  unfold execOp
  rw [ho]
  simp only [List.map_toArray, List.map_cons, List.map_nil, hx, Sem.run_bind, hrun, Result.andThen_ok, Sem.run_pure]
end BU

/-! ### New -/
set_option maxRecDepth 100000 in
theorem new_walk (w : World) (n : Int) (C : List Value) (h0 : 0 ≤ n) (h1 : n ≤ 65536) (hb : Hid (∀ w, (Instr.build 54 #[(1, .int .i64 n)]).run Try.prog w = .ok (.agg C.toArray) w)) :
   Calls Try.prog 9 #[.int .i64 n] w (fun e w' => e = .returned (.tuple #[.pointer (some ⟨w.heap.size, 0, none⟩), .int .i64 0]) ∧ w' = w.alloc (.cells C.toArray 54)) := by
  go_enter Try.func9, Try.ntmps9
  go_wp2_with (refine BU.wpList_build1 (t := 54) (i := 1) (.agg C.toArray) (.int .i64 n) rfl rfl rfl (hb.out _) ?_)
  go_ret2
  exact ⟨rfl, rfl⟩
set_option maxRecDepth 100000 in
theorem new_bad (w : World) (n : Int) (h0 : n < 0 ∨ 65536 < n) :
   Calls Try.prog 9 #[.int .i64 n] w (fun e w' => e = .returned (.tuple #[.pointer none, .int .i64 1]) ∧ w' = w) := by
  rcases h0 with h0 | h0
  · go_enter Try.func9, Try.ntmps9
    go_wp2_with fail
    go_ret2
    exact ⟨rfl, rfl⟩
  · have h1 : ¬ n < 0 := by omega
    go_enter Try.func9, Try.ntmps9
    go_wp2_with fail
    go_ret2
    exact ⟨rfl, rfl⟩

/-! ### Alloc -/
set_option maxRecDepth 100000 in
theorem alloc_low (w : World) (p : Value) (n : Int) (hp : p = .pointer none ∨ ∃ b, p = .pointer (some b)) (hn : n < 1) :
   Calls Try.prog 18 #[p, .int .i64 n] w (fun e w' => e = .returned (.tuple #[.int .i64 0, .int .i64 1]) ∧ w' = w) := by
  rcases hp with rfl | ⟨b, rfl⟩
  · go_enter Try.func18, Try.ntmps18
    go_wp2
    go_ret2
    exact ⟨rfl, rfl⟩
  · go_enter Try.func18, Try.ntmps18
    go_wp2
    go_ret2
    exact ⟨rfl, rfl⟩
set_option maxRecDepth 100000 in
theorem alloc_nil (w : World) (n : Int) :
   Calls Try.prog 18 #[.pointer none, .int .i64 n] w (fun e w' => e = .returned (.tuple #[.int .i64 0, .int .i64 1]) ∧ w' = w) := by
  go_enter Try.func18, Try.ntmps18
  go_wp2
  go_ret2
  exact ⟨rfl, rfl⟩
set_option maxRecDepth 100000 in
theorem alloc_full (w : World) (b : Nat) (size used n : Int) (hs : w.cell? ⟨b, 65536, none⟩ = some (.int .i64 size)) (hu : w.cell? ⟨b, 65537, none⟩ = some (.int .i64 used))
   (h0 : 0 ≤ used) (h1 : used ≤ size) (h2 : size ≤ 65536) (hn : 1 ≤ n) (hn2 : size - used < n) :
   Calls Try.prog 18 #[.pointer (some ⟨b, 0, none⟩), .int .i64 n] w (fun e w' => e = .returned (.tuple #[.int .i64 0, .int .i64 60]) ∧ ∃ k, w' = w.drewN k) := by
  go_enter Try.func18, Try.ntmps18
  go_wp2
  go_quiet (fail)
  go_wp2
  go_ret2
  exact ⟨rfl, _, rfl⟩
set_option maxRecDepth 100000 in
theorem alloc_walk (w : World) (b : Nat) (size used n : Int) (hs : w.cell? ⟨b, 65536, none⟩ = some (.int .i64 size)) (hu : w.cell? ⟨b, 65537, none⟩ = some (.int .i64 used))
   (hf : w.frozen? ⟨b, 65537, none⟩ = false) (h0 : 0 ≤ used) (h1 : used ≤ size) (h2 : size ≤ 65536) (hn : 1 ≤ n) (hn2 : n ≤ size - used) :
   Calls Try.prog 18 #[.pointer (some ⟨b, 0, none⟩), .int .i64 n] w (fun e w' => e = .returned (.tuple #[.int .i64 used, .int .i64 0]) ∧ ∃ k, w' = (w.setCell ⟨b, 65537, none⟩ (.int .i64 (used + n))).drewN k) := by
  go_enter Try.func18, Try.ntmps18
  go_wp2
  go_quiet (fail)
  go_wp2
  go_ret2
  exact ⟨rfl, _, rfl⟩

/-! ### Used -/
set_option maxRecDepth 100000 in
theorem used_nil (w : World) : Calls Try.prog 16 #[.pointer none] w (fun e w' => e = .returned (.int .i64 0) ∧ w' = w) := by
  go_enter Try.func16, Try.ntmps16
  go_wp2
  go_ret
  exact ⟨rfl, rfl⟩
set_option maxRecDepth 100000 in
theorem used_walk (w : World) (b : Nat) (used : Int) (hu : w.cell? ⟨b, 65537, none⟩ = some (.int .i64 used)) : Calls Try.prog 16 #[.pointer (some ⟨b, 0, none⟩)] w (fun e w' => e = .returned (.int .i64 used) ∧ w' = w) := by
  go_enter Try.func16, Try.ntmps16
  go_wp2
  go_ret
  exact ⟨rfl, rfl⟩

/-! ### cell -/
set_option maxRecDepth 100000 in
theorem cell_nil (w : World) (n : Int) : Calls Try.prog 20 #[.pointer none, .int .i64 n] w (fun e w' => e = .returned (.tuple #[.pointer none, .int .i64 1]) ∧ w' = w) := by
  go_enter Try.func20, Try.ntmps20
  go_wp2
  go_ret2
  exact ⟨rfl, rfl⟩
set_option maxRecDepth 100000 in
theorem cell_low (w : World) (b : Nat) (n : Int) (hn : n < 0) : Calls Try.prog 20 #[.pointer (some ⟨b, 0, none⟩), .int .i64 n] w (fun e w' => e = .returned (.tuple #[.pointer none, .int .i64 1]) ∧ w' = w) := by
  go_enter Try.func20, Try.ntmps20
  go_wp2
  go_ret2
  exact ⟨rfl, rfl⟩
set_option maxRecDepth 100000 in
theorem cell_high (w : World) (b : Nat) (n : Int) (A : Option Addr) (len cap : Nat) (hc : w.cell? ⟨b, 65538, none⟩ = some (.slice A len cap)) (hn : 0 ≤ n) (hl : (len : Int) ≤ n) :
    Calls Try.prog 20 #[.pointer (some ⟨b, 0, none⟩), .int .i64 n] w (fun e w' => e = .returned (.tuple #[.pointer none, .int .i64 1]) ∧ ∃ k, w' = w.drewN k) := by
  have h0 : ¬ n < 0 := by omega
  go_enter Try.func20, Try.ntmps20
  go_wp2
  go_ret2
  exact ⟨rfl, 0, rfl⟩
set_option maxRecDepth 100000 in
theorem cell_walk (w : World) (b g : Nat) (n : Int) (len cap : Nat) (hc : w.cell? ⟨b, 65538, none⟩ = some (.slice (some ⟨g, 0, none⟩) len cap)) (hn : 0 ≤ n) (hl : n < (len : Int)) :
    Calls Try.prog 20 #[.pointer (some ⟨b, 0, none⟩), .int .i64 n] w (fun e w' => e = .returned (.tuple #[.pointer (some ⟨g, n.toNat, none⟩), .int .i64 0]) ∧ ∃ k, w' = w.drewN k) := by
  have h0 : ¬ n < 0 := by omega
  have h1 : ¬ (len : Int) ≤ n := by omega
  go_enter Try.func20, Try.ntmps20
  go_wp2
  go_ret2
  exact ⟨rfl, 0, rfl⟩
end Go.Proofs
