/- sched: are numbers small; may an instruction be. -/
import Derived.Test.YtkcjghdopmigoaaSA
namespace Go.Proofs.Ytkcjghdopmigoaa.SC
open Go.RowKit Go.Proofs.YtkcjghdopmigoaaW.PrintWords
set_option linter.unusedVariables false
set_option linter.unusedSimpArgs false
set_option maxRecDepth 100000

def smB (lim n : Int) : Bool := decide (0 ≤ n) && decide (n < lim)
def smL (lim : Int) (l : List Int) : Bool := l.all (smB lim)
theorem keepC {α : Type} {d : Kd α} {w w1 : World} {A : Option Addr} {n : Nat} {xs : List α} {m : Nat} (h : Kd.C d w A n xs) (hm : w.heap.size ≤ m) (hb : Below m w w1) : Kd.C d w1 A n xs := Kd.C_below h (hb.mono hm)
theorem atN {w : World} {A : Option Addr} {n : Nat} {xs : List Int} (h : Kd.C (Kd.int .i64) w A n xs) (i : Nat) (hi : i < n) : ∃ ad, A = some ad ∧ w.cell? (ad.add i) = some (.int .i64 (xs.getD i 0)) := by
  obtain ⟨ad, c, e, _, hK, hc⟩ := Kd.C_get h (0 : Int) (i : Int) (by omega) (by omega)
  obtain rfl : c = [_] := hK
  have := hc 0 _ rfl
  refine ⟨ad, e, ?_⟩
  have h1 : (Kd.int .i64).sz = 1 := rfl
  rw [h1] at this
  simpa using this
set_option maxHeartbeats 4000000 in
theorem small_w (lim : Int) (A : Option Addr) (c : Nat) (l : List Int) (w : World) (hr : Kd.C (Kd.int .i64) w A l.length l) (hl : l.length ≤ 1000) :
    Calls Try.prog 20 #[.int .i64 lim, .slice A l.length c] w fun e w' => e = .returned (.bool (smL lim l)) ∧ w = w' := by
  have HR := Lib.hid hr
  clear hr
  go_enter Try.func20, Try.ntmps20
  go_wp2_with fail
  go_loop [9] (fun t => ∃ i : Nat, i ≤ l.length ∧ t = .int .i64 (i : Int) ∧ Hid (smL lim l = smL lim (l.drop i))) (fun t => l.length - (intOf t).toNat)
  case atStart => exact ⟨0, by omega, rfl, Lib.hid rfl⟩
  case round =>
    obtain ⟨i, hi, rfl, HI⟩ := hrel
    have m1 : IntKind.i64.wrap ((i : Int) + 1) = (i : Int) + 1 := by rw [IntWalk.i64_in _ (by omega)]
    by_cases hlt : i < l.length
    · obtain ⟨x, hx⟩ : ∃ x, l.getD i 0 = x := ⟨_, rfl⟩
      obtain ⟨ad, e, x0⟩ := atN HR.out i hlt
      rw [hx] at x0
      have Hd := Lib.hid (show smL lim (l.drop i) = (smB lim x && smL lim (l.drop (i + 1))) from by
        rw [← hx, List.getD_eq_getElem?_getD, List.getElem?_eq_getElem hlt, List.drop_eq_getElem_cons hlt]
        rfl)
      subst e
      have p0 : (0 ≤ (i : Int)) = True := by simp
      have p1 : ((i : Int) < l.length) = True := eq_true (by omega)
      have p2 : (i < l.length) = True := eq_true hlt
      have p3 : decide ((i : Int) < (l.length : Int)) = true := decide_eq_true (by omega)
      clear hx
      by_cases h0 : x < 0
      · have d0 : decide (x < 0) = true := decide_eq_true h0
        have He := Lib.hid (show smB lim x = false from by unfold smB; rw [decide_eq_false (show ¬ 0 ≤ x by omega)]; rfl)
        go_wp2_with fail
        go_ret
        exact ⟨by rw [HI.out, Hd.out, He.out]; rfl, rfl⟩
      · have d0 : decide (x < 0) = false := decide_eq_false h0
        by_cases h1 : lim ≤ x
        · have d1 : decide (lim ≤ x) = true := decide_eq_true h1
          have He := Lib.hid (show smB lim x = false from by unfold smB; rw [decide_eq_false (show ¬ x < lim by omega), Bool.and_false])
          go_wp2_with fail
          go_ret
          exact ⟨by rw [HI.out, Hd.out, He.out]; rfl, rfl⟩
        · have d1 : decide (lim ≤ x) = false := decide_eq_false h1
          have He := Lib.hid (show smB lim x = true from by unfold smB; rw [decide_eq_true (show 0 ≤ x by omega), decide_eq_true (show x < lim by omega)]; rfl)
          go_wp2_with fail
          go_round
          case rel => exact ⟨i + 1, by omega, by simp, Lib.hid (by rw [HI.out, Hd.out, He.out]; rfl)⟩
          case measure => simp [intOf]; omega
    · obtain rfl : i = l.length := by omega
      have p3 : decide ((l.length : Int) < (l.length : Int)) = false := decide_eq_false (by omega)
      go_wp2_with fail
      go_ret
      exact ⟨by rw [HI.out, List.drop_eq_nil_of_le (Nat.le_refl _)]; rfl, rfl⟩
end Go.Proofs.Ytkcjghdopmigoaa.SC
