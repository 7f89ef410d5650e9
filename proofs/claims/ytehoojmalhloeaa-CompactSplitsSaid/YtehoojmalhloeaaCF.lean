/- The smaller functions of compact: what each computes and leaves. Their conditions are that what they read can be read. -/
import Derived.Test.YtehoojmalhloeaaCE
namespace Go.Proofs.Ytehoojmalhloeaa.CM
open Go.RowKit Go.Proofs.YtehoojmalhloeaaW.PrintWords
set_option linter.unusedVariables false
set_option linter.unusedSimpArgs false
set_option maxRecDepth 100000

theorem users_w (v : Value) (A : Option Addr) (n c : Nat) (hv : v = .slice A n c) (w : World) : Calls Try.prog 65 #[v] w fun e w' => e = .returned (.func (.func 84) #[] #[.pointer (some ⟨w.heap.size, 0, none⟩)]) ∧ w' = w.alloc (.cells #[v] 22) := by
  subst hv
  go_enter Try.func65, Try.ntmps65
  go_wp2
  go_ret
  exact ⟨rfl, rfl⟩

/-- Is a number from an entry's to a bound? -/
def within (lo hi s : Int) : Bool := decide (lo ≤ s) && decide (s ≤ hi)

theorem counted1_w (s : Int) (gk ga : Nat) (lo hi : Int) (w : World) (h1 : w.cell? ⟨gk, 1, none⟩ = some (.int .u64 lo)) (h2 : w.cell? ⟨ga, 0, none⟩ = some (.int .u64 hi)) :
    Calls Try.prog 86 #[.int .u64 s, .pointer (some ⟨gk, 0, none⟩), .pointer (some ⟨ga, 0, none⟩)] w fun e w' => e = .returned (.bool (within lo hi s)) ∧ w' = w := by
  go_enter Try.func86, Try.ntmps86
  unfold within
  by_cases c1 : lo ≤ s
  · have d1 : decide (lo ≤ s) = true := decide_eq_true c1
    go_wp2
    go_ret
    exact ⟨by simp [d1], rfl⟩
  · have d1 : decide (lo ≤ s) = false := decide_eq_false c1
    go_wp2
    go_ret
    exact ⟨by simp [d1], rfl⟩

/-- Where the first number is that is between. -/
def firstIn (lo hi : Int) : Nat → List Int → Int
  | _, [] => -1
  | k, s :: t => if within lo hi s = true then (k : Int) else firstIn lo hi (k + 1) t

theorem firstIn_none {lo hi : Int} : ∀ (k : Nat) (xs : List Int), (∀ j, j < xs.length → within lo hi (xs.getD j 0) = false) → firstIn lo hi k xs = -1
  | _, [], _ => rfl
  | k, s :: t, h => by
    have h0 : within lo hi s = false := h 0 (by simp)
    simp only [firstIn, h0, Bool.false_eq_true, if_false]
    exact firstIn_none (k + 1) t (fun j hj => by simpa using h (j + 1) (by simpa using hj))
theorem firstIn_some {lo hi : Int} : ∀ (k j : Nat) (xs : List Int), j < xs.length → (∀ i, i < j → within lo hi (xs.getD i 0) = false) → within lo hi (xs.getD j 0) = true → firstIn lo hi k xs = ((k + j : Nat) : Int)
  | _, _, [], h, _, _ => by simp at h
  | k, 0, s :: t, _, _, h => by
    have h0 : within lo hi s = true := h
    simp [firstIn, h0]
  | k, j + 1, s :: t, hj, hz, h => by
    have h0 : within lo hi s = false := hz 0 (by omega)
    simp only [firstIn, h0, Bool.false_eq_true, if_false]
    rw [firstIn_some (k + 1) j t (by simpa using hj) (fun i hi => by simpa using hz (i + 1) (by omega)) (by simpa using h)]
    omega
theorem firstIn_any {lo hi : Int} : ∀ (k : Nat) (xs : List Int), decide (0 ≤ firstIn lo hi k xs) = xs.any (within lo hi)
  | _, [] => by simp [firstIn]
  | k, s :: t => by
    by_cases h : within lo hi s = true
    · simp [firstIn, h]
    · have ih := firstIn_any (lo := lo) (hi := hi) (k + 1) t
      simp only [Bool.not_eq_true] at h
      simp [firstIn, h, ih]

theorem atInt {k : IntKind} {w : World} {A : Option Addr} {n : Nat} {xs : List Int} (h : Kd.C (Kd.int k) w A n xs) (i : Nat) (hi : i < n) : ∃ ad, A = some ad ∧ w.cell? (ad.add i) = some (.int k (xs.getD i 0)) := by
  obtain ⟨ad, c, e, hl, hK, hc⟩ := Kd.C_get h 0 (i : Int) (by omega) (by omega)
  refine ⟨ad, e, ?_⟩
  have hK : c = [.int k (xs.getD i 0)] := hK
  subst hK
  have h1 : (Kd.int k).sz = 1 := rfl
  have := hc 0 _ rfl
  rw [h1] at this
  simpa using this

set_option maxHeartbeats 4000000 in
theorem idx_w (A : Option Addr) (c : Nat) (xs : List Int) (gk ga : Nat) (lo hi : Int) (w : World) (hr : Kd.C (Kd.int .u64) w A xs.length xs) (h1 : w.cell? ⟨gk, 1, none⟩ = some (.int .u64 lo)) (h2 : w.cell? ⟨ga, 0, none⟩ = some (.int .u64 hi)) :
    Calls Try.prog 99 #[.slice A xs.length c, .func (.func 86) #[] #[.pointer (some ⟨gk, 0, none⟩), .pointer (some ⟨ga, 0, none⟩)]] w fun e w' => e = .returned (.int .i64 (firstIn lo hi 0 xs)) ∧ w' = w := by
  have hlen := hr.2.1
  have HR := Lib.hid hr
  have HC := Lib.hid (fun s => counted1_w s gk ga lo hi w h1 h2)
  clear hr h1 h2
  go_enter Try.func99, Try.ntmps99
  go_wp2
  go_loop [8] (fun t => ∃ k : Nat, k ≤ xs.length ∧ t = .int .i64 (k : Int) ∧ Hid (∀ j, j < k → within lo hi (xs.getD j 0) = false)) (fun t => xs.length - (intOf t).toNat)
  case atStart => exact ⟨0, by omega, rfl, Lib.hid (fun j h => by omega)⟩
  case round =>
    obtain ⟨k, hk, rfl, Z⟩ := hrel
    by_cases hlt : k < xs.length
    · obtain ⟨ad, e, x0⟩ := atInt HR.out k hlt
      subst e
      obtain ⟨x, hx⟩ : ∃ x, xs.getD k 0 = x := ⟨_, rfl⟩
      rw [hx] at x0
      have X := Lib.hid hx
      clear hx
      have p0 : (k < xs.length) = True := eq_true hlt
      have hw1 : IntKind.i64.wrap ((k : Int) + 1) = (k : Int) + 1 := by rw [IntWalk.i64_in _ (by omega)]
      by_cases hc : within lo hi x = true
      · go_wp2_with (go_at_call 86; refine (HC.out _).mono ?_; rintro e w' ⟨rfl, rfl⟩)
        go_ret
        have := firstIn_some (lo := lo) (hi := hi) 0 k xs hlt Z.out (by rw [X.out]; exact hc)
        exact ⟨by simp [this], rfl⟩
      · have hc : within lo hi x = false := by simpa using hc
        go_wp2_with (go_at_call 86; refine (HC.out _).mono ?_; rintro e w' ⟨rfl, rfl⟩)
        refine ⟨⟨k + 1, by omega, by simp, Lib.hid (fun j hj => ?_)⟩, by simp [intOf]; omega⟩
        rcases Nat.lt_succ_iff_lt_or_eq.1 hj with h | rfl
        · exact Z.out j h
        · rw [X.out]; exact hc
    · go_wp2
      go_ret
      have := firstIn_none (lo := lo) (hi := hi) 0 xs (fun j hj => Z.out j (by omega))
      exact ⟨by simp [this], rfl⟩

theorem any_w (A : Option Addr) (c : Nat) (xs : List Int) (gk ga : Nat) (lo hi : Int) (w : World) (hr : Kd.C (Kd.int .u64) w A xs.length xs) (h1 : w.cell? ⟨gk, 1, none⟩ = some (.int .u64 lo)) (h2 : w.cell? ⟨ga, 0, none⟩ = some (.int .u64 hi)) :
    Calls Try.prog 85 #[.slice A xs.length c, .func (.func 86) #[] #[.pointer (some ⟨gk, 0, none⟩), .pointer (some ⟨ga, 0, none⟩)]] w fun e w' => e = .returned (.bool (xs.any (within lo hi))) ∧ w' = w := by
  have HI := Lib.hid (idx_w A c xs gk ga lo hi w hr h1 h2)
  clear hr h1 h2
  go_enter Try.func85, Try.ntmps85
  go_wp2_with (go_at_call 99; refine HI.out.mono ?_; rintro e w' ⟨rfl, rfl⟩)
  go_ret
  have := firstIn_any (lo := lo) (hi := hi) 0 xs
  exact ⟨by simp [← this], rfl⟩

end Go.Proofs.Ytehoojmalhloeaa.CM
