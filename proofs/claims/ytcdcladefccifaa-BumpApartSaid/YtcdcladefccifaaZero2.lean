/-
  What building a new arena gives. No condition.
-/
import Derived.Test.YtcdcladefccifaaZero
import Derived.WalkKit
import Derived.WalkSpells
import Derived.Deep.QuietTactic
import Derived.BigQuiet
import Derived.Outline
namespace Go.Proofs
open Go.RowKit
set_option linter.unusedVariables false
set_option linter.unusedSimpArgs false

theorem size_cs (m : List Int) (hm : m.length = 65536) (s u : Int) (cv : Value) : (ZZ.cs m s u cv).length = 65539 := by simp [ZZ.cs, hm]
theorem zb_length : ZZ.zb.length = 65536 := by rw [ZZ.zb, List.length_replicate]
theorem zv54 (w : World) : (zeroValue 54).run Try.prog w = .ok (.agg (ZZ.cs ZZ.zb 0 0 (.slice none 0 0)).toArray) w := by
    unfold zeroValue
    simp [go_sem, Try.typeInfo54, zero54]
theorem hl : (ZZ.cs ZZ.zb 0 0 (.slice none 0 0)).length = 65539 := size_cs _ zb_length _ _ _
theorem set_at (l : List Value) (n k : Nat) (hn : l.length = n) (a b x : Value) (r : List Value) : (l ++ a :: r).set n x = l ++ x :: r := by
  rw [List.set_append_right n x (by omega), hn, Nat.sub_self]; rfl
theorem set_size (m : List Int) (hm : m.length = 65536) (s s' u : Int) (cv : Value) : (ZZ.cs m s u cv).set 65536 (.int .i64 s') = ZZ.cs m s' u cv := by
  unfold ZZ.cs
  exact set_at _ _ 0 (by rw [List.length_map, hm]) _ (.int .i64 0) _ _
theorem places54 (w : World) : (Array.mapM (fun (f : Field) => do pure (f.offset, ← sizeOf f.type)) #[{ name := "all", type := 52, offset := 0, embedded := false, tag := "", pkgPath := "staddle/bump", byteOffset := 0 },
        { name := "size", type := 3, offset := 65536, embedded := false, tag := "", pkgPath := "staddle/bump", byteOffset := 65536 },
        { name := "used", type := 3, offset := 65537, embedded := false, tag := "", pkgPath := "staddle/bump", byteOffset := 65544 },
        { name := "cells", type := 23, offset := 65538, embedded := false, tag := "", pkgPath := "staddle/bump", byteOffset := 65552 }] : Sem (Array (Nat × Nat))).run Try.prog w = .ok #[(0, 65536), (65536, 1), (65537, 1), (65538, 1)] w := by
  simp [go_sem, Try.sizeOf3, Try.sizeOf52, Try.sizeOf23]
theorem fill_one (C C' : List Value) (hl : C.length = 65539) (n : Int) (hs : C.set 65536 (.int .i64 n) = C') : Instr.fill (#[(0, 65536), (65536, 1), (65537, 1), (65538, 1)][·]?) C.toArray [(1, .int .i64 n)] = some C'.toArray := by
  subst hs
  simp [Instr.fill, Value.cells, hl]
theorem build54' (n : Int) (w : World) (C C' : List Value) (hl : C.length = 65539) (hs : C.set 65536 (.int .i64 n) = C') (hz : (zeroValue 54).run Try.prog w = .ok (.agg C.toArray) w) : 
    (Instr.build 54 #[(1, .int .i64 n)]).run Try.prog w = .ok (.agg C'.toArray) w := by
  unfold Instr.build
  simp only [Sem.run_bind, hz, Result.andThen_ok, Try.runUnderlying54]
  rw [places54]
  simp only [Result.andThen_ok, Value.cells]
  rw [fill_one C C' hl n hs]
  simp only [Sem.run_pure]
theorem build54 (n : Int) (w : World) : (Instr.build 54 #[(1, .int .i64 n)]).run Try.prog w = .ok (.agg (ZZ.cs ZZ.zb n 0 (.slice none 0 0)).toArray) w := 
  build54' n w _ _ hl (set_size ZZ.zb zb_length 0 n 0 (.slice none 0 0)) (zv54 w)
