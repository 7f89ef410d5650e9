/- How the document compares keys, and tells whether a list rises, in plain words. -/
import Derived.Test.YtehoojmalhloeaaPCx4
import Derived.Test.YtehoojmalhloeaaCX2
import Derived.Test.YtehoojmalhloeaaDJ
namespace Go.Proofs.Ytehoojmalhloeaa.CM
open Go.RowKit Go.Proofs.YtehoojmalhloeaaW.PrintWords
set_option linter.unusedVariables false
set_option linter.unusedSimpArgs false
theorem refCompare_f (k : Nat) (a b : PC.S42) : PC.staddleref02_Compare.f (k + 1) a.f0 a.f1 a.f2 b.f0 b.f1 b.f2 = some (cmpK a b) := by
  rw [← refK_eq]
  unfold PC.staddleref02_Compare.f refK
  simp only [PC.staddleref02_Compare.j0]
  repeat' split
  all_goals first | rfl | (exfalso; simp_all; done) | (exfalso; simp_all; omega) | (exfalso; omega)

theorem w64 (n : Int) (h : -9223372036854775808 ≤ n ∧ n ≤ 9223372036854775807) : wrap64 n = n := by unfold wrap64; omega
theorem rd44 (l : List PC.S44) (i : Nat) : PC.rd_T44 l (i : Int) = l.getD i PC.z44 := by simp [PC.rd_T44]

/-! ### Rises -/
theorem risesB_drop (l : List PC.S44) (i : Nat) (h : i + 1 < l.length) : risesB (l.drop i) = (decide (cmpK (l.getD i PC.z44).f0 (l.getD (i + 1) PC.z44).f0 < 0) && risesB (l.drop (i + 1))) := by
  have h1 : l.drop i = l.getD i PC.z44 :: l.getD (i + 1) PC.z44 :: l.drop (i + 2) := by
    rw [List.drop_eq_getElem_cons (by omega), List.drop_eq_getElem_cons (by omega)]
    simp [List.getD_eq_getElem?_getD, List.getElem?_eq_getElem (show i < l.length by omega), List.getElem?_eq_getElem h]
  have h2 : l.drop (i + 1) = l.getD (i + 1) PC.z44 :: l.drop (i + 2) := by
    rw [List.drop_eq_getElem_cons (by omega)]
    simp [List.getD_eq_getElem?_getD, List.getElem?_eq_getElem h]
  rw [h1, h2]
  rfl
theorem risesB_last (l : List PC.S44) (i : Nat) (h : l.length ≤ i + 1) : risesB (l.drop i) = true := by
  have : (l.drop i).length ≤ 1 := by rw [List.length_drop]; omega
  match l.drop i, this with
  | [], _ => rfl
  | [a], _ => rfl
  | a :: b :: t, h => simp at h
theorem Rises_l0 (l : List PC.S44) (hl : l.length ≤ 9223372036854775806) : ∀ (n k i : Nat), l.length - i ≤ n → n + 1 ≤ k → i ≤ l.length → PC.staddleref16_Rises.l0 k l (i : Int) = some (risesB (l.drop i))
  | n, 0, i, _, hk, _ => by omega
  | n, k + 1, i, hn, hk, hi => by
    unfold PC.staddleref16_Rises.l0
    rw [w64 ((i : Int) + 1) (by omega)]
    by_cases h : i + 1 < l.length
    · rw [if_pos (by omega), if_pos (by omega), if_pos (by omega), if_pos (by omega)]
      obtain ⟨k', rfl⟩ : ∃ m, k = m + 1 := ⟨k - 1, by omega⟩
      have e1 : ((i : Int) + 1) = ((i + 1 : Nat) : Int) := by omega
      rw [e1, rd44, rd44, refCompare_f, Option.bind_some, risesB_drop l i h]
      by_cases hc : cmpK (l.getD i PC.z44).f0 (l.getD (i + 1) PC.z44).f0 < 0
      · rw [if_neg (by omega), decide_eq_true hc, Bool.true_and]
        exact Rises_l0 l hl (n - 1) (k' + 1) (i + 1) (by omega) (by omega) (by omega)
      · rw [if_pos (by omega), decide_eq_false hc, Bool.false_and]
    · rw [if_neg (by omega), risesB_last l i (by omega)]
theorem Rises_f (l : List PC.S44) (k : Nat) (hl : l.length ≤ 9223372036854775806) (hk : l.length + 1 ≤ k) : PC.staddleref16_Rises.f k l = some (risesB l) := by
  have := Rises_l0 l hl l.length k 0 (by omega) (by omega) (by omega)
  simpa [PC.staddleref16_Rises.f] using this

theorem getD_drop' (l : List PC.S44) (i : Nat) (h : i < l.length) : l.drop i = l.getD i PC.z44 :: l.drop (i + 1) := by
  rw [List.drop_eq_getElem_cons h]
  simp [List.getD_eq_getElem?_getD, List.getElem?_eq_getElem h]
end Go.Proofs.Ytehoojmalhloeaa.CM
