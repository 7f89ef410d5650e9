/- A row of entries is put behind another one: what the built-in append leaves. Its conditions are that the one is the caller's own, the other can be read, and both are not too long for memory. -/
import Derived.Test.YtehoojmalhloeaaCK
namespace Go.Proofs.Ytehoojmalhloeaa.CM
open Go.RowKit Go.Proofs.YtehoojmalhloeaaW.PrintWords
set_option linter.unusedVariables false
set_option linter.unusedSimpArgs false
set_option maxRecDepth 100000

/-- An entry's cells; entries' cells. -/
def cells1 (x : PC.S44) : List Value := [.string x.f0.f0, .int .u64 x.f0.f1, .int .i64 x.f0.f2, .string x.f1]
def cells44 : List PC.S44 → List Value
  | [] => []
  | x :: t => cells1 x ++ cells44 t
theorem cells44_len : ∀ xs : List PC.S44, (cells44 xs).length = xs.length * 4
  | [] => rfl
  | x :: t => by
    simp only [cells44, List.length_append, cells44_len t, List.length_cons]
    simp [cells1]
    omega
theorem cells44_append : ∀ xs ys : List PC.S44, cells44 (xs ++ ys) = cells44 xs ++ cells44 ys
  | [], ys => rfl
  | x :: t, ys => by simp [cells44, cells44_append t ys]
theorem reps44 {R : PC.S44 → List Value → Prop} (hR : ∀ x cs, R x cs → cs = cells1 x) : ∀ (xs : List PC.S44) (inner : List Value), Reps R 4 xs inner → inner = cells44 xs
  | [], inner, h => List.eq_nil_of_length_eq_zero (by simpa using h.1)
  | x :: t, inner, h => by
    have h0 := hR _ _ (h.2 0 x rfl)
    simp only [Nat.zero_mul, List.drop_zero] at h0
    have ht : Reps R 4 t (inner.drop 4) := ⟨by have := h.1; simp only [List.length_cons, List.length_drop] at this ⊢; omega, fun j p hj => by
      have := h.2 (j + 1) p (by simpa using hj)
      rw [show (j + 1) * 4 = 4 + j * 4 by omega, ← List.drop_drop] at this
      exact this⟩
    have := reps44 hR t _ ht
    rw [← List.take_append_drop 4 inner, h0, this]
    rfl
theorem cells44_reps {R : PC.S44 → List Value → Prop} (hR : ∀ x, R x (cells1 x)) : ∀ (xs : List PC.S44), Reps R 4 xs (cells44 xs)
  | [] => ⟨rfl, fun j p h => by simp at h⟩
  | x :: t => ⟨cells44_len _, fun j p hj => by
    cases j with
    | zero =>
      obtain rfl : x = p := by simpa using hj
      exact hR x
    | succ j =>
      have := (cells44_reps hR t).2 j p (by simpa using hj)
      rw [show (j + 1) * 4 = 4 + j * 4 by omega, ← List.drop_drop]
      exact this⟩
theorem own44 {W : World} {base : Nat} {ok : Nat → Prop} {v : Value} {xs : List PC.S44} (h : Kd.R PC.k44 44 W base ok v xs) : W.ownsRow base 44 4 v xs.length (cells44 xs) := by
  obtain ⟨_, inner, ho, hr⟩ := h
  have e := reps44 (fun x cs h => PC.k44_openM h) xs inner hr
  subst e
  exact ho
theorem R_of44 {W : World} {base : Nat} {v : Value} {xs : List PC.S44} (h : W.ownsRow base 44 4 v xs.length (cells44 xs)) : Kd.R PC.k44 44 W base (fun _ => True) v xs :=
  ⟨fun _ _ => trivial, cells44 xs, h, cells44_reps (fun x => PC.k44_mkM _ _ _ x) xs⟩

theorem run_append44 {W : World} {base : Nat} {v : Value} {xs ys : List PC.S44} {A : Option Addr} {m c : Nat} (ty : TypeId) (hR : Kd.R PC.k44 44 W base (fun _ => True) v xs) (hC : Kd.C PC.k44 W A m ys) (hl : (xs.length + m) * 48 ≤ 140737488355328) (hbase : base ≤ W.heap.size) :
    ∃ v1 w1, (Builtin.append_ #[22, 22] ty #[v, .slice A m c]).run Try.prog W = .ok v1 w1 ∧ Kd.R PC.k44 44 w1 base (fun _ => True) v1 (xs ++ ys) ∧ W.grownBy w1 v.ownBlock ∧ (v1.ownBlock = v.ownBlock ∨ v1.ownBlock = some W.heap.size) := by
  obtain ⟨i0, hi, hzz⟩ := Option.map_eq_some_iff.1 PC.info44
  simp only [Prod.mk.injEq] at hzz
  obtain ⟨hz0, hz1, hz2⟩ := hzz
  have hm : ys.length = m := hC.1
  have hown := own44 hR
  rcases A with _ | ad
  · have h0 : m = 0 := by
      rcases Nat.eq_zero_or_pos m with h0 | h0
      · exact h0
      · obtain ⟨ad, h, _⟩ := hC.2.2 h0
        cases h
    subst h0
    obtain rfl : ys = [] := List.eq_nil_of_length_eq_zero hm
    refine ⟨v, W, ?_, by rw [List.append_nil]; exact hR, World.grownBy.refl W _, .inl rfl⟩
    rcases hown.2 with ⟨rfl, hn⟩ | ⟨g, cap, cur, rfl, _, _, hnc, _⟩
    · simp [Builtin.append_, run_underlying Try.underlying22, sizeOf, typeInfo, hi, Builtin.lenOf, Builtin.firstCells]
    · simp [Builtin.append_, run_underlying Try.underlying22, sizeOf, typeInfo, hi, Builtin.lenOf, Builtin.firstCells, hnc, storeCells]
  · obtain ⟨news, hnr, hnc⟩ := ReadsRow.inner_ hC
    obtain rfl := reps44 (fun x cs h => PC.k44_open h) ys news hnr
    have hone : ∀ (zs : List PC.S44), ∀ u ∈ cells44 zs, u.oneCell' = true := by
      intro zs
      induction zs with
      | nil => intro u hu; cases hu
      | cons x t ih =>
        intro u hu
        rcases List.mem_append.1 hu with h | h
        · simp only [cells1, List.mem_cons, List.not_mem_nil, or_false] at h
          rcases h with rfl | rfl | rfl | rfl <;> rfl
        · exact ih u h
    obtain ⟨v1, w1, hrun, h2, hg, _, hat⟩ := run_append_own_at (P := Try.prog) W base 22 ty 44 i0 _ 4 48 Try.underlying22 hi hz0 hz1 hz2 rfl (by omega) v xs.length (cells44 xs) hown ad m c (cells44 ys) (by rw [cells44_len, hm]) hnc (hone ys) (by simp only [maxLen]; omega) hl hbase
    refine ⟨v1, w1, hrun, R_of44 ?_, hg, hat⟩
    rw [List.length_append, hm, cells44_append]
    exact h2

end Go.Proofs.Ytehoojmalhloeaa.CM
