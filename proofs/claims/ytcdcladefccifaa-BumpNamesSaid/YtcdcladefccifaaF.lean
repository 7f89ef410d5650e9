/-
  The walks of BumpNames and BumpCells: they return true in any world. No condition but that the argument reads as a slice.
-/
import Derived.Test.YtcdcladefccifaaE
set_option linter.unusedVariables false
set_option linter.unusedSimpArgs false
namespace Go.Proofs
open Go.RowKit BU
set_option maxRecDepth 100000 in
theorem names_walk (w : World) : Calls Try.prog 3 #[] w (fun e w' => e = .returned (.bool true) ∧ Below w.heap.size w w') := by
  go_enter Try.func3, Try.ntmps3
  go_wp2_with fail
  refine (awake_any w).mono ?_
  rintro e w1 ⟨rfl, b1⟩
  go_wp2_with fail
  go_ret
  exact ⟨rfl, b1⟩
/-- a slice of whole numbers that is read -/
def BU.Reads (w : World) (a : Option Addr) (len : Nat) (z : List Int) : Prop :=
  z.length = len ∧ len ≤ 9223372036854775807 ∧ (0 < len → ∃ ad, a = some ad ∧ ad.block < w.heap.size ∧ ∀ j, j < len → w.cell? (ad.add j) = some (.int .i64 (z.getD j 0)))
theorem BU.Reads.at_ {w : World} {a : Option Addr} {len : Nat} {z : List Int} (h : Reads w a len z) (j : Nat) (hj : j < len) : ∃ ad, a = some ad ∧ ∀ w1, Below w.heap.size w w1 → w1.cell? (ad.add j) = some (.int .i64 (z.getD j 0)) := by
  obtain ⟨ad, e, hlt, hc⟩ := h.2.2 (by omega)
  refine ⟨ad, e, fun w1 hb => ?_⟩
  rw [hb.cell (by unfold Addr.add; split <;> exact hlt)]
  exact hc j hj
/-- the arena of BumpCells -/
def BU.CellsInv (w0 w : World) (b : Nat) (n : Int) : Prop := ∃ cv, New w0 w b cv ⟨ZZ.zb, [n, 77], 100, 16⟩
set_option maxRecDepth 100000 in
set_option maxHeartbeats 400000 in
theorem cells_walk (a : Option Addr) (len cap : Nat) (z : List Int) (w : World) (hr : Reads w a len z) : Calls Try.prog 4 #[.slice a len cap] w (fun e w' => e = .returned (.bool true) ∧ Below w.heap.size w w') := by
  have hm := hr.2.1
  have Hr := Lib.hid hr
  clear hr
  go_enter Try.func4, Try.ntmps4
  go_wp2_with fail
  refine (awake_any w).mono ?_
  rintro e w1 ⟨rfl, b1⟩
  have B1 := Lib.hid b1
  clear b1
  go_wp2_with fail
  refine (new_any w1 100 (by omega) (by omega)).mono ?_
  rintro e w2 ⟨rfl, a2, b2⟩
  have n2 : New w w2 w1.heap.size (.slice none 0 0) ⟨ZZ.zb, [], 100, 0⟩ := ⟨a2, B1.out.trans (b2.mono B1.out.size), B1.out.size, by simp [Value.ownBlock]⟩
  have n2 := Lib.hid n2
  clear a2 b2 B1
  generalize w1.heap.size = b at *
  go_wp2_with fail
  refine (newcell_walk w2 _ _ _ n2.out.ar (by decide)).mono ?_
  rintro e w3 ⟨rfl, cv3, a3, s3⟩
  have n3 := Lib.hid (n2.out.step a3 s3)
  clear a3 s3 n2
  go_wp2_with fail
  refine (newcell_walk w3 _ _ _ n3.out.ar (by decide)).mono ?_
  rintro e w4 ⟨rfl, cv4, a4, s4⟩
  have n4 := Lib.hid (n3.out.step a4 s4)
  clear a4 s4 n3
  go_wp2_with fail
  refine (store_any w4 _ _ _ n4.out.ar 1 77 (by decide) (by decide)).mono ?_
  rintro e w5 ⟨rfl, a5, s5⟩
  have n5 : Hid (CellsInv w w5 b 0) := Lib.hid ⟨_, n4.out.step a5 s5⟩
  clear a5 s5 n4
  go_wp2_with fail
  go_loopw [10, 11] (fun n i wr => ∃ (k q : Nat), k ≤ len ∧ q ≤ k ∧ i = .int .i64 k ∧ n = .int .i64 q ∧ CellsInv w wr b q) (fun _ i _ => len - (intOf i).toNat)
  case atStart => exact ⟨0, 0, by omega, by omega, rfl, rfl, n5.out⟩
  case round =>
    obtain ⟨k, q, hk, hq, rfl, rfl, hinv⟩ := hrel
    have Hinv := Lib.hid hinv
    clear hinv n5
    by_cases hlt : k < len
    · obtain ⟨cv, hn⟩ := Hinv.out
      obtain ⟨ad, ha, hc'⟩ := Hr.out.at_ k hlt
      have hc := hc' _ hn.below
      have Hc := Lib.hid hc'
      clear hc'
      have Hn := Lib.hid hn
      clear hn Hinv
      subst ha
      generalize hz : z.getD k 0 = y at *
      have Hz := Lib.hid hz
      clear hz
      by_cases he : (q : Int) = y
      · have Ha := caseq_any _ _ _ _ Hn.out.ar 0 y (q + 1) (by decide) (by show (0 : Int) < 2; omega) he
        have h1 : (y == (q : Int)) = true := by rw [beq_iff_eq]; exact he.symm
        have HA := Lib.hid Ha
        clear Ha he
        go_wp2_with (go_at_call 12; refine HA.out.mono ?_; rintro e w6 ⟨rfl, a6, s6⟩; have n6 : Hid (CellsInv w w6 b ((q : Int) + 1)) := Lib.hid ⟨_, Hn.out.step a6 s6⟩; have c6 := Hc.out w6 (Hn.out.step a6 s6).below; clear a6 s6)
        go_roundw
        case rel => exact ⟨k + 1, q + 1, by omega, by omega, by go_num, by go_num, by simpa using n6.out⟩
        case measure => simp [intOf]; omega
      · have Ha := casne_any _ _ _ _ Hn.out.ar 0 y (q + 1) (by decide) (by show (0 : Int) < 2; omega) he
        have h1 : (y == (q : Int)) = false := by rw [beq_eq_false_iff_ne]; exact fun e => he e.symm
        have HA := Lib.hid Ha
        clear Ha he
        go_wp2_with (go_at_call 12; refine HA.out.mono ?_; rintro e w6 ⟨rfl, a6, s6⟩; have n6 : Hid (CellsInv w w6 b (q : Int)) := Lib.hid ⟨_, Hn.out.step a6 s6⟩; have c6 := Hc.out w6 (Hn.out.step a6 s6).below; clear a6 s6)
        go_roundw
        case rel => exact ⟨k + 1, q, by omega, by omega, by go_num, rfl, by simpa using n6.out⟩
        case measure => simp [intOf]; omega
    · obtain ⟨cv, hn⟩ := Hinv.out
      have Hn := Lib.hid hn
      clear hn Hinv
      go_wp2_with fail
      refine (load_any _ _ _ _ Hn.out.ar 0 (by decide) (by show (0 : Int) < 2; omega)).mono ?_
      rintro e w6 ⟨rfl, a6, s6⟩
      have n6 := Lib.hid (Hn.out.step a6 s6)
      clear a6 s6 Hn
      go_wp2_with fail
      refine (load_any _ _ _ _ n6.out.ar 1 (by decide) (by show (1 : Int) < 2; omega)).mono ?_
      rintro e w7 ⟨rfl, a7, s7⟩
      have n7 := Lib.hid (n6.out.step a7 s7)
      clear a7 s7 n6
      go_wp2_with fail
      go_ret
      exact ⟨rfl, n7.out.below⟩
end Go.Proofs
