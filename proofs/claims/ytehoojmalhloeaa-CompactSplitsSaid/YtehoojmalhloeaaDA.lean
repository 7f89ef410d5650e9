/- The document's functions for entries (rises, what counts) in plain words: no program in sight. -/
import Derived.Test.YtehoojmalhloeaaPCx4
import Derived.Test.YtehoojmalhloeaaCL
namespace Go.Proofs.Ytehoojmalhloeaa.CM
open Go.RowKit Go.Proofs.YtehoojmalhloeaaW.PrintWords
set_option linter.unusedVariables false
set_option linter.unusedSimpArgs false

theorem refCompare_f (k : Nat) (a b : PC.S42) : PC.staddleref02_Compare.f (k + 1) a.f0 a.f1 a.f2 b.f0 b.f1 b.f2 = some (cmpK a b) := by
  rw [← refK_eq]
  unfold PC.staddleref02_Compare.f refK
  simp only [PC.staddleref02_Compare.j0]
  repeat' split
  all_goals first | rfl | (exfalso; simp_all; done) | (exfalso; simp_all; omega) | (exfalso; omega)

theorem w64 (n : Int) (h : -9223372036854775808 ≤ n ∧ n ≤ 9223372036854775807) : wrap64 n = n := by unfold wrap64; omega
theorem rd44 (l : List PC.S44) (i : Nat) : PC.rd_T44 l (i : Int) = l.getD i PC.z44 := by simp [PC.rd_T44]

/-! ### Rises -/
theorem risesB_drop (l : List PC.S44) (i : Nat) (h : i + 1 < l.length) : risesB (l.drop i) = (decide (cmpK (l.getD i PC.z44).f0 (l.getD (i + 1) PC.z44).f0 < 0) && risesB (l.drop (i + 1))) := by
  have h1 : l.drop i = l.getD i PC.z44 :: l.getD (i + 1) PC.z44 :: l.drop (i + 2) := by
    rw [List.drop_eq_getElem_cons (by omega), List.drop_eq_getElem_cons (by omega)]
    simp [List.getD_eq_getElem?_getD, List.getElem?_eq_getElem (show i < l.length by omega), List.getElem?_eq_getElem h]
  have h2 : l.drop (i + 1) = l.getD (i + 1) PC.z44 :: l.drop (i + 2) := by
    rw [List.drop_eq_getElem_cons (by omega)]
    simp [List.getD_eq_getElem?_getD, List.getElem?_eq_getElem h]
  rw [h1, h2]
  rfl
theorem risesB_last (l : List PC.S44) (i : Nat) (h : l.length ≤ i + 1) : risesB (l.drop i) = true := by
  have : (l.drop i).length ≤ 1 := by rw [List.length_drop]; omega
  match l.drop i, this with
  | [], _ => rfl
  | [a], _ => rfl
  | a :: b :: t, h => simp at h
theorem Rises_l0 (l : List PC.S44) (hl : l.length ≤ 9223372036854775806) : ∀ (n k i : Nat), l.length - i ≤ n → n + 1 ≤ k → i ≤ l.length → PC.staddleref16_Rises.l0 k l (i : Int) = some (risesB (l.drop i))
  | n, 0, i, _, hk, _ => by omega
  | n, k + 1, i, hn, hk, hi => by
    unfold PC.staddleref16_Rises.l0
    rw [w64 ((i : Int) + 1) (by omega)]
    by_cases h : i + 1 < l.length
    · rw [if_pos (by omega), if_pos (by omega), if_pos (by omega), if_pos (by omega)]
      obtain ⟨k', rfl⟩ : ∃ m, k = m + 1 := ⟨k - 1, by omega⟩
      have e1 : ((i : Int) + 1) = ((i + 1 : Nat) : Int) := by omega
      rw [e1, rd44, rd44, refCompare_f, Option.bind_some, risesB_drop l i h]
      by_cases hc : cmpK (l.getD i PC.z44).f0 (l.getD (i + 1) PC.z44).f0 < 0
      · rw [if_neg (by omega), decide_eq_true hc, Bool.true_and]
        exact Rises_l0 l hl (n - 1) (k' + 1) (i + 1) (by omega) (by omega) (by omega)
      · rw [if_pos (by omega), decide_eq_false hc, Bool.false_and]
    · rw [if_neg (by omega), risesB_last l i (by omega)]
theorem Rises_f (l : List PC.S44) (k : Nat) (hl : l.length ≤ 9223372036854775806) (hk : l.length + 1 ≤ k) : PC.staddleref16_Rises.f k l = some (risesB l) := by
  have := Rises_l0 l hl l.length k 0 (by omega) (by omega) (by omega)
  simpa [PC.staddleref16_Rises.f] using this

/-! ### first, counts -/
/-- Behind these (the nearest first): is x the first one of its user whose number is not above s? -/
def fstR (x : PC.S44) (s : Int) : List PC.S44 → Bool
  | [] => true
  | y :: ys => if sameU y x = true then (if y.f0.f1 ≤ s then false else fstR x s ys) else true
def isFst (x : PC.S44) (s : Int) (pre : List PC.S44) : Bool := decide (x.f0.f1 ≤ s) && fstR x s pre
def isCnt (snaps : List Int) (pre : List PC.S44) (x : PC.S44) : Bool := isFst x topU pre || snaps.any (fun s => isFst x s pre)

theorem take_rev (l : List PC.S44) (i : Nat) (h : i < l.length) : (l.take (i + 1)).reverse = l.getD i PC.z44 :: (l.take i).reverse := by
  have : l.take (i + 1) = l.take i ++ [l.getD i PC.z44] := by
    rw [List.take_add_one, List.getElem?_eq_getElem h]
    simp [List.getD_eq_getElem?_getD, List.getElem?_eq_getElem h]
  rw [this]
  simp
theorem first_l0 (l : List PC.S44) (at_ : Nat) (s : Int) (hat : at_ < l.length) (hl : l.length ≤ 9223372036854775806) : ∀ (i k : Nat), i ≤ at_ → 2 * i + 2 ≤ k → PC.staddleref19_first.l0 k l (at_ : Int) s ((i : Int) - 1) = some (fstR (l.getD at_ PC.z44) s (l.take i).reverse)
  | i, 0, _, hk => by omega
  | i, 1, _, hk => by
    obtain rfl : i = 0 := by omega
    omega
  | 0, k + 2, _, _ => by
    unfold PC.staddleref19_first.l0
    rw [if_neg (by omega)]
    unfold PC.staddleref19_first.j1
    rw [if_neg (by decide)]
    rfl
  | i + 1, k + 2, hi, hk => by
    unfold PC.staddleref19_first.l0
    have e : ((i + 1 : Nat) : Int) - 1 = (i : Int) := by omega
    rw [e, if_pos (by omega), if_pos (by omega), if_pos (by omega), if_pos (by omega), if_pos (by omega)]
    unfold PC.staddleref19_first.j1
    rw [rd44, rd44, take_rev l i (by omega)]
    unfold fstR
    by_cases hs : sameU (l.getD i PC.z44) (l.getD at_ PC.z44) = true
    · have hs' : ((l.getD i PC.z44).f0.f0.toList == (l.getD at_ PC.z44).f0.f0.toList) = true := hs
      rw [if_pos hs', if_pos hs, if_pos (by omega), if_pos (by omega)]
      by_cases hq : (l.getD i PC.z44).f0.f1 ≤ s
      · rw [if_pos hq, if_pos hq]
      · rw [if_neg hq, if_neg hq, w64 ((i : Int) - 1) (by omega)]
        exact first_l0 l at_ s hat hl i k (by omega) (by omega)
    · have hs' : ¬ ((l.getD i PC.z44).f0.f0.toList == (l.getD at_ PC.z44).f0.f0.toList) = true := hs
      rw [if_neg hs', if_neg hs]
theorem first_f (l : List PC.S44) (at_ : Nat) (s : Int) (k : Nat) (hat : at_ < l.length) (hl : l.length ≤ 9223372036854775806) (hk : 2 * at_ + 2 ≤ k) : PC.staddleref19_first.f k l (at_ : Int) s = some (isFst (l.getD at_ PC.z44) s (l.take at_).reverse) := by
  unfold PC.staddleref19_first.f isFst
  rw [if_pos (by omega), if_pos (by omega), rd44]
  by_cases h : (l.getD at_ PC.z44).f0.f1 ≤ s
  · rw [if_neg (by omega), decide_eq_true h, Bool.true_and, w64 ((at_ : Int) - 1) (by omega)]
    exact first_l0 l at_ s hat hl at_ k (Nat.le_refl _) hk
  · rw [if_pos (by omega), decide_eq_false h, Bool.false_and]
theorem counts_l0 (l : List PC.S44) (at_ : Nat) (snaps : List Int) (hat : at_ < l.length) (hl : l.length ≤ 9223372036854775806) (hs : snaps.length ≤ 9223372036854775806) : ∀ (n k i : Nat), snaps.length - i ≤ n → 2 * at_ + 3 + n ≤ k → i ≤ snaps.length →
    PC.staddleref19_counts.l0 k l (at_ : Int) snaps (i : Int) = some ((snaps.drop i).any (fun s => isFst (l.getD at_ PC.z44) s (l.take at_).reverse))
  | n, 0, i, _, hk, _ => by omega
  | n, k + 1, i, hn, hk, hi => by
    unfold PC.staddleref19_counts.l0
    by_cases h : i < snaps.length
    · rw [if_pos (by omega), if_pos (by omega), first_f l at_ _ k hat hl (by omega), Option.bind_some]
      have hd : snaps.drop i = rd snaps (i : Int) :: snaps.drop (i + 1) := by
        rw [List.drop_eq_getElem_cons h]
        simp [rd, List.getD_eq_getElem?_getD, List.getElem?_eq_getElem h]
      rw [hd, List.any_cons]
      by_cases hf : isFst (l.getD at_ PC.z44) (rd snaps (i : Int)) (l.take at_).reverse = true
      · rw [if_pos hf, hf, Bool.true_or]
      · rw [if_neg hf]
        rw [Bool.not_eq_true] at hf
        rw [hf, Bool.false_or, w64 ((i : Int) + 1) (by omega)]
        exact counts_l0 l at_ snaps hat hl hs (n - 1) k (i + 1) (by omega) (by omega) (by omega)
    · rw [if_neg (by omega), List.drop_of_length_le (by omega)]
      rfl
theorem counts_f (l : List PC.S44) (at_ : Nat) (snaps : List Int) (k : Nat) (hat : at_ < l.length) (hl : l.length ≤ 9223372036854775806) (hs : snaps.length ≤ 9223372036854775806) (hk : 2 * at_ + 3 + snaps.length ≤ k) :
    PC.staddleref19_counts.f k l (at_ : Int) snaps = some (isCnt snaps (l.take at_).reverse (l.getD at_ PC.z44)) := by
  unfold PC.staddleref19_counts.f isCnt
  rw [first_f l at_ _ k hat hl (by omega), Option.bind_some]
  show (if isFst (l.getD at_ PC.z44) topU (l.take at_).reverse = true then _ else _) = _
  by_cases hf : isFst (l.getD at_ PC.z44) topU (l.take at_).reverse = true
  · rw [if_pos hf, hf, Bool.true_or]
  · rw [if_neg hf]
    rw [Bool.not_eq_true] at hf
    rw [hf, Bool.false_or]
    have := counts_l0 l at_ snaps hat hl hs snaps.length k 0 (by omega) (by omega) (by omega)
    simpa using this

end Go.Proofs.Ytehoojmalhloeaa.CM
