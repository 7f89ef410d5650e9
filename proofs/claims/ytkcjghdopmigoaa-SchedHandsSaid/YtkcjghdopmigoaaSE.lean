/- sched: may all instructions of a task be. -/
import Derived.Test.YtkcjghdopmigoaaSD
namespace Go.Proofs.Ytkcjghdopmigoaa.SC
open Go.RowKit Go.Proofs.YtkcjghdopmigoaaW.PrintWords
set_option linter.unusedVariables false
set_option linter.unusedSimpArgs false
set_option maxRecDepth 100000

theorem cell_up' {w w1 : World} {p : Addr} {v : Value} (h : w.cell? p = some v) (hb : Below w.heap.size w w1) : w1.cell? p = some v := (hb.cell (World.block_lt_of_cell? w _ h)).trans h
theorem run13_w (x : I) (A : Option Addr) (c len B : Nat) (w : World) (hB : w.cell? ⟨B, 0, none⟩ = some (.slice A len c)) (hlen : len ≤ 1000) :
    Calls Try.prog 13 #[.agg #[.int .i64 x.f0, .int .i64 x.f1, .int .i64 x.f2, .int .i64 x.f3], .pointer (some ⟨B, 0, none⟩)] w fun e w' => e = .returned (.bool (!goodB x len)) ∧ Below w.heap.size w w' := by
  obtain ⟨W1, hW1⟩ : ∃ W1, w.alloc (.cells #[.int .i64 x.f0, .int .i64 x.f1, .int .i64 x.f2, .int .i64 x.f3] 35) = W1 := ⟨_, rfl⟩
  have b1 : Below w.heap.size w W1 := by rw [← hW1]; exact (Below.refl _ _).alloc (Nat.le_refl _) _
  have k1 : W1.heap[w.heap.size]? = some (obj35 x) := by rw [← hW1]; exact heap_alloc_new w _
  have hB1 := cell_up' hB b1
  have K1 := Lib.hid b1
  obtain ⟨e0, e1, e2, e3⟩ := obj35_cells k1
  have HG := Lib.hid (good_w x len W1 hlen)
  clear b1 k1 hB
  go_enter Try.func13, Try.ntmps13
  go_wp2_with (first | rw [hW1])
  refine HG.out.mono ?_
  rintro e w2 ⟨rfl, b⟩
  have K2 := Lib.hid (K1.out.trans (b.mono K1.out.size))
  clear b
  go_wp2_with fail
  go_ret
  exact ⟨rfl, K2.out⟩
theorem atI {w : World} {A : Option Addr} {n : Nat} {xs : List I} (h : Kd.C kI w A n xs) (i : Nat) (hi : i < n) : ∃ ad, A = some ad ∧ w.cell? (ad.add (i * 4)) = some (.int .i64 (xs.getD i zI).f0) ∧ w.cell? ⟨(ad.add (i * 4)).block, (ad.add (i * 4)).off + 1, none⟩ = some (.int .i64 (xs.getD i zI).f1) ∧ w.cell? ⟨(ad.add (i * 4)).block, (ad.add (i * 4)).off + 2, none⟩ = some (.int .i64 (xs.getD i zI).f2) ∧ w.cell? ⟨(ad.add (i * 4)).block, (ad.add (i * 4)).off + 3, none⟩ = some (.int .i64 (xs.getD i zI).f3) := by
  obtain ⟨ad, e, h0, h1, h2, h3⟩ := PSchedLocks.at_T35 h (i : Int) (by omega) (by omega)
  exact ⟨ad, e, h0, h1, h2, h3⟩
set_option maxHeartbeats 4000000 in
theorem idx_w (A : Option Addr) (c : Nat) (l : List I) (A' : Option Addr) (c' len B : Nat) (w : World) (hr : Kd.C kI w A l.length l) (hB : w.cell? ⟨B, 0, none⟩ = some (.slice A' len c')) (hl : l.length ≤ 1000) (hlen : len ≤ 1000) :
    Calls Try.prog 19 #[.slice A l.length c, .func (.func 13) #[] #[.pointer (some ⟨B, 0, none⟩)]] w fun e w' => ∃ k : Int, e = .returned (.int .i64 k) ∧ decide (0 ≤ k) = l.any (fun x => !goodB x len) ∧ Below w.heap.size w w' := by
  have HR := Lib.hid (And.intro hr hB)
  clear hr hB
  go_enter Try.func19, Try.ntmps19
  go_wp2_with fail
  go_loopw [8] (fun t wr => ∃ i : Nat, i ≤ l.length ∧ t = .int .i64 (i : Int) ∧ Hid (l.any (fun x => !goodB x len) = (l.drop i).any (fun x => !goodB x len) ∧ Below w.heap.size w wr)) (fun t _ => l.length - (intOf t).toNat)
  case atStart => exact ⟨0, by omega, rfl, Lib.hid ⟨rfl, Below.refl _ _⟩⟩
  case round =>
    obtain ⟨i, hi, rfl, HI⟩ := hrel
    have m1 : IntKind.i64.wrap ((i : Int) + 1) = (i : Int) + 1 := by rw [IntWalk.i64_in _ (by omega)]
    by_cases hlt : i < l.length
    · obtain ⟨x, hx⟩ : ∃ x, l.getD i zI = x := ⟨_, rfl⟩
      obtain ⟨ad, e, X⟩ := atI (keepC HR.out.1 (Nat.le_refl _) HI.out.2) i hlt
      rw [hx] at X
      obtain ⟨x0, x1, x2, x3⟩ := X
      have Hd := Lib.hid (show (l.drop i).any (fun x => !goodB x len) = (!goodB x len || (l.drop (i + 1)).any (fun x => !goodB x len)) from by
        rw [← hx, List.getD_eq_getElem?_getD, List.getElem?_eq_getElem hlt, List.drop_eq_getElem_cons hlt]
        rfl)
      have HC := Lib.hid (run13_w x A' c' len B wr (cell_up' HR.out.2 HI.out.2) hlen)
      subst e
      have p0 : (0 ≤ (i : Int)) = True := by simp
      have p1 : ((i : Int) < l.length) = True := eq_true (by omega)
      have p2 : (i < l.length) = True := eq_true hlt
      have p3 : decide ((i : Int) < (l.length : Int)) = true := decide_eq_true (by omega)
      clear hx
      go_wp2_with fail
      refine HC.out.mono ?_
      rintro e w2 ⟨rfl, b⟩
      have K2 := Lib.hid (HI.out.2.trans (b.mono HI.out.2.size))
      clear b x0 x1 x2 x3
      cases hg : goodB x len
      · have Hg := Lib.hid hg
        go_wp2_with fail
        go_ret
        exact ⟨_, rfl, by rw [HI.out.1, Hd.out, Hg.out]; simp, K2.out⟩
      · have Hg := Lib.hid hg
        go_wp2_with fail
        go_roundw
        case rel => exact ⟨i + 1, by omega, by simp, Lib.hid ⟨by rw [HI.out.1, Hd.out, Hg.out]; rfl, K2.out⟩⟩
        case measure => simp [intOf]; omega
    · obtain rfl : i = l.length := by omega
      have p3 : decide ((l.length : Int) < (l.length : Int)) = false := decide_eq_false (by omega)
      go_wp2_with fail
      go_ret
      exact ⟨_, rfl, by rw [HI.out.1, List.drop_eq_nil_of_le (Nat.le_refl _)]; rfl, HI.out.2⟩
theorem any_w (A : Option Addr) (c : Nat) (l : List I) (A' : Option Addr) (c' len B : Nat) (w : World) (hr : Kd.C kI w A l.length l) (hB : w.cell? ⟨B, 0, none⟩ = some (.slice A' len c')) (hl : l.length ≤ 1000) (hlen : len ≤ 1000) :
    Calls Try.prog 12 #[.slice A l.length c, .func (.func 13) #[] #[.pointer (some ⟨B, 0, none⟩)]] w fun e w' => e = .returned (.bool (l.any (fun x => !goodB x len))) ∧ Below w.heap.size w w' := by
  have HI := Lib.hid (idx_w A c l A' c' len B w hr hB hl hlen)
  clear hr hB
  go_enter Try.func12, Try.ntmps12
  go_wp2_with fail
  refine HI.out.mono ?_
  rintro e w2 ⟨k, rfl, hk, b⟩
  have K := Lib.hid (And.intro hk b)
  clear hk b
  go_wp2_with fail
  go_ret
  exact ⟨by rw [← K.out.1]; rfl, K.out.2⟩
end Go.Proofs.Ytkcjghdopmigoaa.SC
