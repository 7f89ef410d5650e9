/-
  Walks of Load, Store, Cas and Cell of package bump; each states its own conditions on the world's cells.
-/
import Derived.Test.YtcdcladefccifaaA
set_option linter.unusedVariables false
set_option linter.unusedSimpArgs false
namespace Go.Proofs
open Go.RowKit

/-! ### Load -/
set_option maxRecDepth 100000 in
theorem load_nil (w : World) (n : Int) : Calls Try.prog 13 #[.pointer none, .int .i64 n] w (fun e w' => e = .returned (.tuple #[.int .i64 0, .int .i64 1]) ∧ w' = w) := by
  go_enter Try.func13, Try.ntmps13
  go_wp2_with (go_at_call 20; refine (cell_nil _ _).mono ?_; rintro e w' ⟨rfl, rfl⟩)
  go_ret2
  exact ⟨rfl, rfl⟩
/-- where there is no such cell -/
def NoCell (w : World) (b : Nat) (n : Int) : Prop := n < 0 ∨ ∃ A len cap, w.cell? ⟨b, 65538, none⟩ = some (.slice A len cap) ∧ 0 ≤ n ∧ (len : Int) ≤ n
theorem cell_no (w : World) (b : Nat) (n : Int) (h : NoCell w b n) : Calls Try.prog 20 #[.pointer (some ⟨b, 0, none⟩), .int .i64 n] w (fun e w' => e = .returned (.tuple #[.pointer none, .int .i64 1]) ∧ ∃ k, w' = w.drewN k) := by
  rcases h with h | ⟨A, len, cap, hc, h0, hl⟩
  · exact (cell_low w b n h).mono fun e w' ⟨he, hw⟩ => ⟨he, 0, hw⟩
  · exact cell_high w b n A len cap hc h0 hl
set_option maxRecDepth 100000 in
theorem load_no (w : World) (b : Nat) (n : Int) (h : NoCell w b n) : Calls Try.prog 13 #[.pointer (some ⟨b, 0, none⟩), .int .i64 n] w (fun e w' => e = .returned (.tuple #[.int .i64 0, .int .i64 1]) ∧ ∃ k, w' = w.drewN k) := by
  go_enter Try.func13, Try.ntmps13
  go_wp2_with (go_at_call 20; refine (cell_no _ _ _ h).mono ?_; rintro e w' ⟨rfl, k, rfl⟩)
  go_ret2
  exact ⟨rfl, _, rfl⟩
set_option maxRecDepth 100000 in
theorem load_walk (w : World) (b g : Nat) (n x : Int) (len cap : Nat) (hc : w.cell? ⟨b, 65538, none⟩ = some (.slice (some ⟨g, 0, none⟩) len cap)) (hn : 0 ≤ n) (hl : n < (len : Int)) (hx : w.cell? ⟨g, n.toNat, none⟩ = some (.int .i64 x)) :
    Calls Try.prog 13 #[.pointer (some ⟨b, 0, none⟩), .int .i64 n] w (fun e w' => e = .returned (.tuple #[.int .i64 x, .int .i64 0]) ∧ ∃ k, w' = w.drewN k) := by
  go_enter Try.func13, Try.ntmps13
  go_wp2_with (go_at_call 20; refine (cell_walk _ _ _ _ _ _ hc hn hl).mono ?_; rintro e w' ⟨rfl, k, rfl⟩)
  go_ret2
  exact ⟨rfl, _, rfl⟩

/-! ### Store -/
set_option maxRecDepth 100000 in
theorem store_nil (w : World) (n x : Int) : Calls Try.prog 11 #[.pointer none, .int .i64 n, .int .i64 x] w (fun e w' => e = .returned (.int .i64 1) ∧ w' = w) := by
  go_enter Try.func11, Try.ntmps11
  go_wp2_with (go_at_call 20; refine (cell_nil _ _).mono ?_; rintro e w' ⟨rfl, rfl⟩)
  go_ret
  exact ⟨rfl, rfl⟩
set_option maxRecDepth 100000 in
theorem store_no (w : World) (b : Nat) (n x : Int) (h : NoCell w b n) : Calls Try.prog 11 #[.pointer (some ⟨b, 0, none⟩), .int .i64 n, .int .i64 x] w (fun e w' => e = .returned (.int .i64 1) ∧ ∃ k, w' = w.drewN k) := by
  go_enter Try.func11, Try.ntmps11
  go_wp2_with (go_at_call 20; refine (cell_no _ _ _ h).mono ?_; rintro e w' ⟨rfl, k, rfl⟩)
  go_ret
  exact ⟨rfl, _, rfl⟩
set_option maxRecDepth 100000 in
theorem store_walk (w : World) (b g : Nat) (n x y : Int) (len cap : Nat) (hc : w.cell? ⟨b, 65538, none⟩ = some (.slice (some ⟨g, 0, none⟩) len cap)) (hn : 0 ≤ n) (hl : n < (len : Int)) (hx : w.cell? ⟨g, n.toNat, none⟩ = some (.int .i64 x)) (hf : w.frozen? ⟨g, n.toNat, none⟩ = false) :
    Calls Try.prog 11 #[.pointer (some ⟨b, 0, none⟩), .int .i64 n, .int .i64 y] w (fun e w' => e = .returned (.int .i64 0) ∧ ∃ k, w' = (w.setCell ⟨g, n.toNat, none⟩ (.int .i64 y)).drewN k) := by
  go_enter Try.func11, Try.ntmps11
  go_wp2_with (go_at_call 20; refine (cell_walk _ _ _ _ _ _ hc hn hl).mono ?_; rintro e w' ⟨rfl, k, rfl⟩)
  go_ret
  exact ⟨rfl, _, rfl⟩

/-! ### Cas -/
set_option maxRecDepth 100000 in
theorem cas_nil (w : World) (n x y : Int) : Calls Try.prog 12 #[.pointer none, .int .i64 n, .int .i64 x, .int .i64 y] w (fun e w' => e = .returned (.tuple #[.bool false, .int .i64 1]) ∧ w' = w) := by
  go_enter Try.func12, Try.ntmps12
  go_wp2_with (go_at_call 20; refine (cell_nil _ _).mono ?_; rintro e w' ⟨rfl, rfl⟩)
  go_ret2
  exact ⟨rfl, rfl⟩
set_option maxRecDepth 100000 in
theorem cas_no (w : World) (b : Nat) (n x y : Int) (h : NoCell w b n) : Calls Try.prog 12 #[.pointer (some ⟨b, 0, none⟩), .int .i64 n, .int .i64 x, .int .i64 y] w (fun e w' => e = .returned (.tuple #[.bool false, .int .i64 1]) ∧ ∃ k, w' = w.drewN k) := by
  go_enter Try.func12, Try.ntmps12
  go_wp2_with (go_at_call 20; refine (cell_no _ _ _ h).mono ?_; rintro e w' ⟨rfl, k, rfl⟩)
  go_ret2
  exact ⟨rfl, _, rfl⟩
set_option maxRecDepth 100000 in
theorem cas_ne (w : World) (b g : Nat) (n x old y : Int) (len cap : Nat) (hc : w.cell? ⟨b, 65538, none⟩ = some (.slice (some ⟨g, 0, none⟩) len cap)) (hn : 0 ≤ n) (hl : n < (len : Int)) (hx : w.cell? ⟨g, n.toNat, none⟩ = some (.int .i64 x)) (he : x ≠ old) :
    Calls Try.prog 12 #[.pointer (some ⟨b, 0, none⟩), .int .i64 n, .int .i64 old, .int .i64 y] w (fun e w' => e = .returned (.tuple #[.bool false, .int .i64 0]) ∧ ∃ k, w' = w.drewN k) := by
  have hb : (x != old) = true := by rw [bne_iff_ne]; exact he
  clear he
  go_enter Try.func12, Try.ntmps12
  go_wp2_with (go_at_call 20; refine (cell_walk _ _ _ _ _ _ hc hn hl).mono ?_; rintro e w' ⟨rfl, k, rfl⟩)
  go_ret2
  exact ⟨rfl, _, rfl⟩
set_option maxRecDepth 100000 in
theorem cas_eq (w : World) (b g : Nat) (n x y : Int) (len cap : Nat) (hc : w.cell? ⟨b, 65538, none⟩ = some (.slice (some ⟨g, 0, none⟩) len cap)) (hn : 0 ≤ n) (hl : n < (len : Int)) (hx : w.cell? ⟨g, n.toNat, none⟩ = some (.int .i64 x)) (hf : w.frozen? ⟨g, n.toNat, none⟩ = false) :
    Calls Try.prog 12 #[.pointer (some ⟨b, 0, none⟩), .int .i64 n, .int .i64 x, .int .i64 y] w (fun e w' => e = .returned (.tuple #[.bool true, .int .i64 0]) ∧ ∃ k, w' = (w.setCell ⟨g, n.toNat, none⟩ (.int .i64 y)).drewN k) := by
  go_enter Try.func12, Try.ntmps12
  go_wp2_with (go_at_call 20; refine (cell_walk _ _ _ _ _ _ hc hn hl).mono ?_; rintro e w' ⟨rfl, k, rfl⟩)
  go_ret2
  exact ⟨rfl, _, rfl⟩

/-! ### Cell -/
set_option maxRecDepth 100000 in
theorem newcell_nil (w : World) : Calls Try.prog 10 #[.pointer none] w (fun e w' => e = .returned (.tuple #[.int .i64 0, .int .i64 1]) ∧ w' = w) := by
  go_enter Try.func10, Try.ntmps10
  go_wp2_with (go_at_call 18; refine (alloc_nil _ _).mono ?_; rintro e w' ⟨rfl, rfl⟩)
  go_ret2
  exact ⟨rfl, rfl⟩
set_option maxRecDepth 100000 in
theorem newcell_full (w : World) (b : Nat) (size used : Int) (hs : w.cell? ⟨b, 65536, none⟩ = some (.int .i64 size)) (hu : w.cell? ⟨b, 65537, none⟩ = some (.int .i64 used))
   (h0 : 0 ≤ used) (h1 : used ≤ size) (h2 : size ≤ 65536) (hn2 : size - used < 8) :
   Calls Try.prog 10 #[.pointer (some ⟨b, 0, none⟩)] w (fun e w' => e = .returned (.tuple #[.int .i64 0, .int .i64 60]) ∧ ∃ k, w' = w.drewN k) := by
  go_enter Try.func10, Try.ntmps10
  go_wp2_with (go_at_call 18; refine (alloc_full _ _ _ _ _ hs hu h0 h1 h2 (by omega) hn2).mono ?_; rintro e w' ⟨rfl, k, rfl⟩)
  go_ret2
  exact ⟨rfl, _, rfl⟩
theorem info3 : (Try.prog.info? 3).map (fun i => (i.zero, i.size, i.bytes)) = some (some (.int .i64 0), 1, 8) := by kernel_rfl
end Go.Proofs
