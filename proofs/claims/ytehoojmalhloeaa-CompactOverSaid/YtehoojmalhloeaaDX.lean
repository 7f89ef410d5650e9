/- The document's Drop in plain words, and what the statements of chapter 19 call in one form each. Their conditions are that what is read can be read. -/
import Derived.Test.YtehoojmalhloeaaPCx4
import Derived.Test.YtehoojmalhloeaaCX2
import Derived.Test.YtehoojmalhloeaaPCx5

/-! The document's functions for entries (rises, what counts) in plain words: no program in sight. -/
namespace Go.Proofs.Ytehoojmalhloeaa.CM
open Go.RowKit Go.Proofs.YtehoojmalhloeaaW.PrintWords
set_option linter.unusedVariables false
set_option linter.unusedSimpArgs false

theorem refCompare_f (k : Nat) (a b : PC.S42) : PC.staddleref02_Compare.f (k + 1) a.f0 a.f1 a.f2 b.f0 b.f1 b.f2 = some (cmpK a b) := by
  rw [← refK_eq]
  unfold PC.staddleref02_Compare.f refK
  simp only [PC.staddleref02_Compare.j0]
  repeat' split
  all_goals first | rfl | (exfalso; simp_all; done) | (exfalso; simp_all; omega) | (exfalso; omega)

theorem w64 (n : Int) (h : -9223372036854775808 ≤ n ∧ n ≤ 9223372036854775807) : wrap64 n = n := by unfold wrap64; omega
theorem rd44 (l : List PC.S44) (i : Nat) : PC.rd_T44 l (i : Int) = l.getD i PC.z44 := by simp [PC.rd_T44]

/-! ### Rises -/
theorem risesB_drop (l : List PC.S44) (i : Nat) (h : i + 1 < l.length) : risesB (l.drop i) = (decide (cmpK (l.getD i PC.z44).f0 (l.getD (i + 1) PC.z44).f0 < 0) && risesB (l.drop (i + 1))) := by
  have h1 : l.drop i = l.getD i PC.z44 :: l.getD (i + 1) PC.z44 :: l.drop (i + 2) := by
    rw [List.drop_eq_getElem_cons (by omega), List.drop_eq_getElem_cons (by omega)]
    simp [List.getD_eq_getElem?_getD, List.getElem?_eq_getElem (show i < l.length by omega), List.getElem?_eq_getElem h]
  have h2 : l.drop (i + 1) = l.getD (i + 1) PC.z44 :: l.drop (i + 2) := by
    rw [List.drop_eq_getElem_cons (by omega)]
    simp [List.getD_eq_getElem?_getD, List.getElem?_eq_getElem h]
  rw [h1, h2]
  rfl
theorem risesB_last (l : List PC.S44) (i : Nat) (h : l.length ≤ i + 1) : risesB (l.drop i) = true := by
  have : (l.drop i).length ≤ 1 := by rw [List.length_drop]; omega
  match l.drop i, this with
  | [], _ => rfl
  | [a], _ => rfl
  | a :: b :: t, h => simp at h
theorem Rises_l0 (l : List PC.S44) (hl : l.length ≤ 9223372036854775806) : ∀ (n k i : Nat), l.length - i ≤ n → n + 1 ≤ k → i ≤ l.length → PC.staddleref16_Rises.l0 k l (i : Int) = some (risesB (l.drop i))
  | n, 0, i, _, hk, _ => by omega
  | n, k + 1, i, hn, hk, hi => by
    unfold PC.staddleref16_Rises.l0
    rw [w64 ((i : Int) + 1) (by omega)]
    by_cases h : i + 1 < l.length
    · rw [if_pos (by omega), if_pos (by omega), if_pos (by omega), if_pos (by omega)]
      obtain ⟨k', rfl⟩ : ∃ m, k = m + 1 := ⟨k - 1, by omega⟩
      have e1 : ((i : Int) + 1) = ((i + 1 : Nat) : Int) := by omega
      rw [e1, rd44, rd44, refCompare_f, Option.bind_some, risesB_drop l i h]
      by_cases hc : cmpK (l.getD i PC.z44).f0 (l.getD (i + 1) PC.z44).f0 < 0
      · rw [if_neg (by omega), decide_eq_true hc, Bool.true_and]
        exact Rises_l0 l hl (n - 1) (k' + 1) (i + 1) (by omega) (by omega) (by omega)
      · rw [if_pos (by omega), decide_eq_false hc, Bool.false_and]
    · rw [if_neg (by omega), risesB_last l i (by omega)]
theorem Rises_f (l : List PC.S44) (k : Nat) (hl : l.length ≤ 9223372036854775806) (hk : l.length + 1 ≤ k) : PC.staddleref16_Rises.f k l = some (risesB l) := by
  have := Rises_l0 l hl l.length k 0 (by omega) (by omega) (by omega)
  simpa [PC.staddleref16_Rises.f] using this

/-! ### first, counts -/
/-- Behind these (the nearest first): is x the first one of its user whose number is not above s? -/
def fstR (x : PC.S44) (s : Int) : List PC.S44 → Bool
  | [] => true
  | y :: ys => if sameU y x = true then (if y.f0.f1 ≤ s then false else fstR x s ys) else true
def isFst (x : PC.S44) (s : Int) (pre : List PC.S44) : Bool := decide (x.f0.f1 ≤ s) && fstR x s pre
def isCnt (snaps : List Int) (pre : List PC.S44) (x : PC.S44) : Bool := isFst x topU pre || snaps.any (fun s => isFst x s pre)

theorem take_rev (l : List PC.S44) (i : Nat) (h : i < l.length) : (l.take (i + 1)).reverse = l.getD i PC.z44 :: (l.take i).reverse := by
  have : l.take (i + 1) = l.take i ++ [l.getD i PC.z44] := by
    rw [List.take_add_one, List.getElem?_eq_getElem h]
    simp [List.getD_eq_getElem?_getD, List.getElem?_eq_getElem h]
  rw [this]
  simp
theorem first_l0 (l : List PC.S44) (at_ : Nat) (s : Int) (hat : at_ < l.length) (hl : l.length ≤ 9223372036854775806) : ∀ (i k : Nat), i ≤ at_ → 2 * i + 2 ≤ k → PC.staddleref19_first.l0 k l (at_ : Int) s ((i : Int) - 1) = some (fstR (l.getD at_ PC.z44) s (l.take i).reverse)
  | i, 0, _, hk => by omega
  | i, 1, _, hk => by
    obtain rfl : i = 0 := by omega
    omega
  | 0, k + 2, _, _ => by
    unfold PC.staddleref19_first.l0
    rw [if_neg (by omega)]
    unfold PC.staddleref19_first.j1
    rw [if_neg (by decide)]
    rfl
  | i + 1, k + 2, hi, hk => by
    unfold PC.staddleref19_first.l0
    have e : ((i + 1 : Nat) : Int) - 1 = (i : Int) := by omega
    rw [e, if_pos (by omega), if_pos (by omega), if_pos (by omega), if_pos (by omega), if_pos (by omega)]
    unfold PC.staddleref19_first.j1
    rw [rd44, rd44, take_rev l i (by omega)]
    unfold fstR
    by_cases hs : sameU (l.getD i PC.z44) (l.getD at_ PC.z44) = true
    · have hs' : ((l.getD i PC.z44).f0.f0.toList == (l.getD at_ PC.z44).f0.f0.toList) = true := hs
      rw [if_pos hs', if_pos hs, if_pos (by omega), if_pos (by omega)]
      by_cases hq : (l.getD i PC.z44).f0.f1 ≤ s
      · rw [if_pos hq, if_pos hq]
      · rw [if_neg hq, if_neg hq, w64 ((i : Int) - 1) (by omega)]
        exact first_l0 l at_ s hat hl i k (by omega) (by omega)
    · have hs' : ¬ ((l.getD i PC.z44).f0.f0.toList == (l.getD at_ PC.z44).f0.f0.toList) = true := hs
      rw [if_neg hs', if_neg hs]
theorem first_f (l : List PC.S44) (at_ : Nat) (s : Int) (k : Nat) (hat : at_ < l.length) (hl : l.length ≤ 9223372036854775806) (hk : 2 * at_ + 2 ≤ k) : PC.staddleref19_first.f k l (at_ : Int) s = some (isFst (l.getD at_ PC.z44) s (l.take at_).reverse) := by
  unfold PC.staddleref19_first.f isFst
  rw [if_pos (by omega), if_pos (by omega), rd44]
  by_cases h : (l.getD at_ PC.z44).f0.f1 ≤ s
  · rw [if_neg (by omega), decide_eq_true h, Bool.true_and, w64 ((at_ : Int) - 1) (by omega)]
    exact first_l0 l at_ s hat hl at_ k (Nat.le_refl _) hk
  · rw [if_pos (by omega), decide_eq_false h, Bool.false_and]
theorem counts_l0 (l : List PC.S44) (at_ : Nat) (snaps : List Int) (hat : at_ < l.length) (hl : l.length ≤ 9223372036854775806) (hs : snaps.length ≤ 9223372036854775806) : ∀ (n k i : Nat), snaps.length - i ≤ n → 2 * at_ + 3 + n ≤ k → i ≤ snaps.length →
    PC.staddleref19_counts.l0 k l (at_ : Int) snaps (i : Int) = some ((snaps.drop i).any (fun s => isFst (l.getD at_ PC.z44) s (l.take at_).reverse))
  | n, 0, i, _, hk, _ => by omega
  | n, k + 1, i, hn, hk, hi => by
    unfold PC.staddleref19_counts.l0
    by_cases h : i < snaps.length
    · rw [if_pos (by omega), if_pos (by omega), first_f l at_ _ k hat hl (by omega), Option.bind_some]
      have hd : snaps.drop i = rd snaps (i : Int) :: snaps.drop (i + 1) := by
        rw [List.drop_eq_getElem_cons h]
        simp [rd, List.getD_eq_getElem?_getD, List.getElem?_eq_getElem h]
      rw [hd, List.any_cons]
      by_cases hf : isFst (l.getD at_ PC.z44) (rd snaps (i : Int)) (l.take at_).reverse = true
      · rw [if_pos hf, hf, Bool.true_or]
      · rw [if_neg hf]
        rw [Bool.not_eq_true] at hf
        rw [hf, Bool.false_or, w64 ((i : Int) + 1) (by omega)]
        exact counts_l0 l at_ snaps hat hl hs (n - 1) k (i + 1) (by omega) (by omega) (by omega)
    · rw [if_neg (by omega), List.drop_of_length_le (by omega)]
      rfl
theorem counts_f (l : List PC.S44) (at_ : Nat) (snaps : List Int) (k : Nat) (hat : at_ < l.length) (hl : l.length ≤ 9223372036854775806) (hs : snaps.length ≤ 9223372036854775806) (hk : 2 * at_ + 3 + snaps.length ≤ k) :
    PC.staddleref19_counts.f k l (at_ : Int) snaps = some (isCnt snaps (l.take at_).reverse (l.getD at_ PC.z44)) := by
  unfold PC.staddleref19_counts.f isCnt
  rw [first_f l at_ _ k hat hl (by omega), Option.bind_some]
  show (if isFst (l.getD at_ PC.z44) topU (l.take at_).reverse = true then _ else _) = _
  by_cases hf : isFst (l.getD at_ PC.z44) topU (l.take at_).reverse = true
  · rw [if_pos hf, hf, Bool.true_or]
  · rw [if_neg hf]
    rw [Bool.not_eq_true] at hf
    rw [hf, Bool.false_or]
    have := counts_l0 l at_ snaps hat hl hs snaps.length k 0 (by omega) (by omega) (by omega)
    simpa using this

end Go.Proofs.Ytehoojmalhloeaa.CM

/-! What must stay of entries, by the document (chapter 19), is what the program keeps: in plain words, no program in sight. -/
namespace Go.Proofs.Ytehoojmalhloeaa.CM
open Go.RowKit Go.Proofs.YtehoojmalhloeaaW.PrintWords
set_option linter.unusedVariables false
set_option linter.unusedSimpArgs false

/-! ### the loops -/
/-- Is one put behind x, for its user? -/
def putAt (x : PC.S44) (t : List PC.S44) (b : Bool) : Bool := match t with
  | y :: _ => if sameU x y = true then b else false
  | [] => b
/-- From behind: is one put, and which stay. pre: what stands ahead, the nearest first. -/
def RB (snaps : List Int) (bottom : Bool) : List PC.S44 → List PC.S44 → Bool × List Bool
  | _, [] => (false, [])
  | pre, x :: t =>
    let r := RB snaps bottom (x :: pre) t
    let put0 := putAt x t r.1
    if isCnt snaps pre x = true then (put0 || x.f0.f2 == 1, ((put0 || x.f0.f2 == 1) || !bottom) :: r.2) else (put0, false :: r.2)
theorem RB_cons (snaps : List Int) (bottom : Bool) (pre : List PC.S44) (x : PC.S44) (t : List PC.S44) : RB snaps bottom pre (x :: t) =
    (let r := RB snaps bottom (x :: pre) t
    let put0 := putAt x t r.1
    if isCnt snaps pre x = true then (put0 || x.f0.f2 == 1, ((put0 || x.f0.f2 == 1) || !bottom) :: r.2) else (put0, false :: r.2)) := rfl
/-- Those that stay. -/
def pick : List PC.S44 → List Bool → List PC.S44
  | x :: t, b :: bs => if b = true then x :: pick t bs else pick t bs
  | _, _ => []
theorem RB_len (snaps : List Int) (bottom : Bool) : ∀ (l pre : List PC.S44), (RB snaps bottom pre l).2.length = l.length
  | [], _ => rfl
  | x :: t, pre => by
    have ih := RB_len snaps bottom t (x :: pre)
    unfold RB
    simp only
    split <;> simp [ih]
theorem pick_len : ∀ (l : List PC.S44) (bs : List Bool), (pick l bs).length ≤ l.length
  | [], _ => by simp [pick]
  | x :: t, [] => by simp [pick]
  | x :: t, b :: bs => by
    have := pick_len t bs
    unfold pick
    split <;> simp <;> omega
theorem eta44 (x : PC.S44) : (⟨⟨x.f0.f0, x.f0.f1, x.f0.f2⟩, x.f1⟩ : PC.S44) = x := rfl
theorem Drop_l1 (l : List PC.S44) (bs : List Bool) (hb : bs.length = l.length) (hl : l.length ≤ 2932031007402) : ∀ (n k i : Nat) (out : List PC.S44), l.length - i ≤ n → n + 1 ≤ k → i ≤ l.length → out.length ≤ i →
    PC.staddleref19_Drop.l1 k l bs out (i : Int) = some (out ++ pick (l.drop i) (bs.drop i), 0)
  | n, 0, i, out, _, hk, _, _ => by omega
  | n, k + 1, i, out, hn, hk, hi, ho => by
    unfold PC.staddleref19_Drop.l1
    by_cases h : i < l.length
    · have hd : l.drop i = l.getD i PC.z44 :: l.drop (i + 1) := by
        rw [List.drop_eq_getElem_cons h]
        simp [List.getD_eq_getElem?_getD, List.getElem?_eq_getElem h]
      have hd2 : bs.drop i = rdOf false bs (i : Int) :: bs.drop (i + 1) := by
        rw [List.drop_eq_getElem_cons (by omega)]
        simp [rdOf, List.getD_eq_getElem?_getD, List.getElem?_eq_getElem (show i < bs.length by omega)]
      rw [if_pos (by omega), if_pos (by omega), if_pos (by omega), hd, hd2, w64 ((i : Int) + 1) (by omega)]
      unfold pick
      by_cases hx : rdOf false bs (i : Int) = true
      · rw [if_pos hx, if_pos hx, if_pos (by omega), rd44, eta44]
        have := Drop_l1 l bs hb hl (n - 1) k (i + 1) (out ++ [l.getD i PC.z44]) (by omega) (by omega) (by omega) (by simp; omega)
        rw [show ((i : Int) + 1) = ((i + 1 : Nat) : Int) by omega, this]
        simp
      · rw [if_neg hx, if_neg hx]
        have := Drop_l1 l bs hb hl (n - 1) k (i + 1) out (by omega) (by omega) (by omega) (by omega)
        rw [show ((i : Int) + 1) = ((i + 1 : Nat) : Int) by omega, this]
    · rw [if_neg (by omega), List.drop_of_length_le (by omega)]
      simp [pick]

theorem set_rep (i : Nat) (v : Bool) (st : List Bool) : (List.replicate (i + 1) false ++ st).set i v = List.replicate i false ++ v :: st := by
  rw [List.replicate_succ']
  simp [List.set_append]
theorem Drop_l0 (l : List PC.S44) (snaps : List Int) (bottom : Bool) (hl : l.length ≤ 2932031007402) (hs : snaps.length ≤ 9223372036854775806) : ∀ (i k : Nat), i ≤ l.length → 3 * i + 2 * l.length + snaps.length + 10 ≤ k →
    PC.staddleref19_Drop.l0 k l snaps bottom (List.replicate i false ++ (RB snaps bottom (l.take i).reverse (l.drop i)).2) (RB snaps bottom (l.take i).reverse (l.drop i)).1 ((i : Int) - 1) = some (pick l (RB snaps bottom [] l).2, 0)
  | 0, 0, _, hk => by omega
  | 0, k + 1, _, hk => by
    unfold PC.staddleref19_Drop.l0
    rw [if_neg (by omega)]
    have := Drop_l1 l (RB snaps bottom [] l).2 (RB_len _ _ _ _) hl l.length k 0 [] (by omega) (by omega) (by omega) (by simp)
    simpa using this
  | i + 1, 0, _, hk => by omega
  | i + 1, 1, _, hk => by omega
  | i + 1, 2, _, hk => by omega
  | i + 1, k + 3, hi, hk => by
    have e : ((i + 1 : Nat) : Int) - 1 = (i : Int) := by omega
    have hx : l.drop i = l.getD i PC.z44 :: l.drop (i + 1) := by
      rw [List.drop_eq_getElem_cons (by omega)]
      simp [List.getD_eq_getElem?_getD, List.getElem?_eq_getElem (show i < l.length by omega)]
    have ih := Drop_l0 l snaps bottom hl hs i k (by omega) (by omega)
    have hlen := RB_len snaps bottom (l.drop (i + 1)) (l.take (i + 1)).reverse
    obtain ⟨R, hR⟩ : ∃ R, RB snaps bottom (l.take (i + 1)).reverse (l.drop (i + 1)) = R := ⟨_, rfl⟩
    rw [hR] at hlen ⊢
    have hR' := hR
    rw [take_rev l i (by omega)] at hR'
    -- what is put behind, for this user
    obtain ⟨put0, hput⟩ : ∃ put0, putAt (l.getD i PC.z44) (l.drop (i + 1)) R.1 = put0 := ⟨_, rfl⟩
    have hstep : RB snaps bottom (l.take i).reverse (l.drop i) = if isCnt snaps (l.take i).reverse (l.getD i PC.z44) = true then (put0 || (l.getD i PC.z44).f0.f2 == 1, ((put0 || (l.getD i PC.z44).f0.f2 == 1) || !bottom) :: R.2) else (put0, false :: R.2) := by
      rw [hx, RB_cons]
      simp only [hR', hput]
    have hj2 : ∀ m, m = k + 1 → PC.staddleref19_Drop.j2 m l snaps bottom (List.replicate (i + 1) false ++ R.2) put0 (i : Int) = some (pick l (RB snaps bottom [] l).2, 0) := by
      rintro m rfl
      unfold PC.staddleref19_Drop.j2
      rw [counts_f l i snaps k (by omega) (by omega) hs (by omega), Option.bind_some]
      by_cases hc : isCnt snaps (l.take i).reverse (l.getD i PC.z44) = true
      · rw [if_pos hc, if_pos (by omega), if_pos (by omega), rd44, w64 ((i : Int) - 1) (by omega), show ((i : Int)).toNat = i by omega]
        simp only [set_rep]
        rw [hstep, if_pos hc] at ih
        have hlt : (i : Int) < ((List.replicate (i + 1) false ++ R.2).length : Int) := by simp; omega
        by_cases hk1 : (l.getD i PC.z44).f0.f2 = 1
        · have e1 : ((l.getD i PC.z44).f0.f2 == 1) = true := beq_iff_eq.mpr hk1
          rw [if_pos hk1, if_pos hlt]
          simp only [e1, Bool.or_true, Bool.true_or] at ih
          exact ih
        · have e1 : ((l.getD i PC.z44).f0.f2 == 1) = false := beq_eq_false_iff_ne.mpr hk1
          rw [if_neg hk1]
          simp only [e1, Bool.or_false] at ih
          by_cases hp : put0 = true
          · rw [if_pos hp, if_pos hlt]
            rw [hp] at ih ⊢
            simp only [Bool.true_or] at ih
            exact ih
          · rw [if_neg hp, if_pos hlt]
            rw [Bool.not_eq_true] at hp
            rw [hp] at ih ⊢
            simp only [Bool.false_or] at ih
            exact ih
      · rw [if_neg hc, w64 ((i : Int) - 1) (by omega)]
        rw [hstep, if_neg hc] at ih
        have : List.replicate (i + 1) false ++ R.2 = List.replicate i false ++ false :: R.2 := by
          rw [List.replicate_succ']
          simp
        rw [this]
        exact ih
    unfold PC.staddleref19_Drop.l0
    rw [e, if_pos (by omega), w64 ((i : Int) + 1) (by omega)]
    by_cases hlast : i + 1 < l.length
    · have hd : l.drop (i + 1) = l.getD (i + 1) PC.z44 :: l.drop (i + 2) := by
        rw [List.drop_eq_getElem_cons (by omega)]
        simp [List.getD_eq_getElem?_getD, List.getElem?_eq_getElem hlast]
      rw [if_pos (by omega), if_pos (by omega), if_pos (by omega), if_pos (by omega), rd44, show ((i : Int) + 1) = ((i + 1 : Nat) : Int) by omega, rd44]
      unfold PC.staddleref19_Drop.j1
      rw [hd] at hput
      simp only [putAt] at hput
      by_cases hu : sameU (l.getD i PC.z44) (l.getD (i + 1) PC.z44) = true
      · have hu' : ¬ ((l.getD i PC.z44).f0.f0.toList != (l.getD (i + 1) PC.z44).f0.f0.toList) = true := by
          have : ((l.getD i PC.z44).f0.f0.toList == (l.getD (i + 1) PC.z44).f0.f0.toList) = true := hu
          simpa [bne] using this
        rw [if_neg hu']
        rw [if_pos hu] at hput
        rw [hput]
        exact hj2 _ rfl
      · have hu' : ((l.getD i PC.z44).f0.f0.toList != (l.getD (i + 1) PC.z44).f0.f0.toList) = true := by
          have : ¬ ((l.getD i PC.z44).f0.f0.toList == (l.getD (i + 1) PC.z44).f0.f0.toList) = true := hu
          simpa [bne] using this
        rw [if_pos hu']
        rw [if_neg hu] at hput
        have h9 := hj2 _ rfl
        rw [← hput] at h9
        exact h9
    · rw [if_neg (by omega)]
      unfold PC.staddleref19_Drop.j1
      rw [if_neg (by decide)]
      rw [List.drop_of_length_le (by omega)] at hput
      simp only [putAt] at hput
      rw [hput]
      exact hj2 _ rfl
theorem Drop_f (l : List PC.S44) (snaps : List Int) (bottom : Bool) (k : Nat) (hl : l.length ≤ 2932031007402) (hs : snaps.length ≤ 9223372036854775806) (hk : 5 * l.length + snaps.length + 10 ≤ k) :
    PC.staddleref19_Drop.f k l snaps bottom = if risesB l = true then some (pick l (RB snaps bottom [] l).2, 0) else some ([], 160) := by
  unfold PC.staddleref19_Drop.f
  rw [Rises_f l k (by omega) (by omega), Option.bind_some]
  by_cases h : risesB l = true
  · rw [if_pos h, if_pos h, if_pos (by omega), if_pos (by omega), w64 ((l.length : Int) - 1) (by omega)]
    have := Drop_l0 l snaps bottom hl hs l.length k (Nat.le_refl _) (by omega)
    rw [List.drop_of_length_le (Nat.le_refl _)] at this
    simpa [RB] using this
  · rw [if_neg h, if_neg h]

end Go.Proofs.Ytehoojmalhloeaa.CM

/-! What stays, user by user: the document's answer is the program's. No program in sight. -/
namespace Go.Proofs.Ytehoojmalhloeaa.CM
open Go.RowKit Go.Proofs.YtehoojmalhloeaaW.PrintWords
set_option linter.unusedVariables false
set_option linter.unusedSimpArgs false

theorem sameU_refl (a : PC.S44) : sameU a a = true := by simp [sameU]
theorem sameU_symm {a b : PC.S44} (h : sameU a b = true) : sameU b a = true := by
  simp only [sameU, beq_iff_eq] at *
  exact h.symm
theorem sameU_cong {a b c : PC.S44} (h : sameU b c = true) : sameU a b = sameU a c := by
  simp only [sameU, beq_iff_eq] at h ⊢
  rw [h]
theorem sameU_comm (a b : PC.S44) : sameU a b = sameU b a := by
  rw [Bool.eq_iff_iff]
  exact ⟨sameU_symm, sameU_symm⟩
theorem groups_span (a : PC.S44) : ∀ t : List PC.S44, groups (a :: t) = (a :: t.takeWhile (fun y => sameU y a)) :: groups (t.dropWhile (fun y => sameU y a))
  | [] => rfl
  | b :: t => by
    have ih := groups_span b t
    show joinU a (groups (b :: t)) = _
    by_cases h : sameU b a = true
    · have e : (fun y => sameU y b) = (fun y => sameU y a) := by funext y; exact sameU_cong h
      rw [e] at ih
      rw [ih]
      simp [joinU, h]
    · have h' : sameU b a = false := by simpa using h
      rw [ih]
      simp only [joinU, h', Bool.false_eq_true, if_false, List.takeWhile_cons, List.dropWhile_cons]
      rw [← ih]

/-! ### what stands ahead of a user's entries does not matter -/
def Bnd (q pre : List PC.S44) (x : PC.S44) : Prop := ∀ y, pre.head? = some y → sameU y (q.getLast?.getD x) = false
theorem Bnd.push {q pre : List PC.S44} {x : PC.S44} (h : Bnd q pre x) (z : PC.S44) : Bnd (x :: q) pre z := by
  intro y hy
  have := h y hy
  cases q with
  | nil => simpa using this
  | cons a q => simpa [List.getLast?_cons] using this
theorem fst_ctx (x : PC.S44) (s : Int) (pre : List PC.S44) : ∀ q, Bnd q pre x → fstR x s (q ++ pre) = fstR x s q
  | [], h => by
    cases pre with
    | nil => rfl
    | cons y p =>
      have : sameU y x = false := by simpa using h y rfl
      simp [fstR, this]
  | z :: q, h => by
    show fstR x s (z :: (q ++ pre)) = fstR x s (z :: q)
    simp only [fstR]
    by_cases hz : sameU z x = true
    · rw [if_pos hz, if_pos hz, fst_ctx x s pre q]
      intro y hy
      have := h y hy
      cases q with
      | nil =>
        have h1 : sameU y z = false := by simpa using this
        rw [sameU_cong hz] at h1
        simpa using h1
      | cons a q => simpa [List.getLast?_cons] using this
    · rw [if_neg hz, if_neg hz]
theorem isCnt_ctx (snaps : List Int) (x : PC.S44) (pre q : List PC.S44) (h : Bnd q pre x) : isCnt snaps (q ++ pre) x = isCnt snaps q x := by
  simp only [isCnt, isFst, fst_ctx x _ pre q h]
theorem RB_ctx (snaps : List Int) (bottom : Bool) (pre : List PC.S44) : ∀ (r q : List PC.S44), (∀ x, r.head? = some x → Bnd q pre x) → RB snaps bottom (q ++ pre) r = RB snaps bottom q r
  | [], q, _ => rfl
  | x :: t, q, h => by
    have ih := RB_ctx snaps bottom pre t (x :: q) (fun z hz => (h x rfl).push z)
    rw [RB_cons, RB_cons, isCnt_ctx snaps x pre q (h x rfl)]
    rw [show x :: (q ++ pre) = (x :: q) ++ pre from rfl, ih]
theorem RB_group (snaps : List Int) (bottom : Bool) (x0 : PC.S44) (r : List PC.S44) (hr : ∀ y, r.head? = some y → sameU y x0 = false) : ∀ (g pre : List PC.S44), (∀ y ∈ g, sameU y x0 = true) → g ≠ [] →
    RB snaps bottom pre (g ++ r) = ((RB snaps bottom pre g).1, (RB snaps bottom pre g).2 ++ (RB snaps bottom (g.reverse ++ pre) r).2)
  | [], _, _, h => absurd rfl h
  | [x], pre, hg, _ => by
    show RB snaps bottom pre (x :: r) = _
    rw [RB_cons, RB_cons]
    have hx := hg x (by simp)
    cases r with
    | nil =>
      simp only [RB, putAt]
      split <;> rfl
    | cons y r =>
      have hy : sameU y x0 = false := hr y rfl
      have : sameU x y = false := by
        rw [sameU_comm, sameU_cong hx]
        exact hy
      simp only [putAt, this, RB, Bool.false_eq_true, if_false, List.reverse_cons, List.reverse_nil, List.nil_append, List.singleton_append]
      split <;> rfl
  | x :: x' :: g, pre, hg, _ => by
    have ih := RB_group snaps bottom x0 r hr (x' :: g) (x :: pre) (fun y hy => hg y (by simp [hy])) (by simp)
    show RB snaps bottom pre (x :: (x' :: g ++ r)) = _
    rw [RB_cons, RB_cons snaps bottom pre x (x' :: g), ih]
    have e : (x :: x' :: g).reverse ++ pre = (x' :: g).reverse ++ (x :: pre) := by simp
    rw [e]
    simp only [List.cons_append, putAt]
    split <;> rfl
theorem pick_append : ∀ (g r : List PC.S44) (a b : List Bool), a.length = g.length → pick (g ++ r) (a ++ b) = pick g a ++ pick r b
  | [], r, [], b, _ => rfl
  | x :: g, r, c :: a, b, h => by
    have ih := pick_append g r a b (by simpa using h)
    simp only [List.cons_append, pick, ih]
    split <;> simp

/-! ### a user's entries -/
def cntT (snaps : List Int) : Int → List PC.S44 → List PC.S44
  | _, [] => []
  | b, y :: t => if y.f0.f1 ≤ b then (if snaps.any (within y.f0.f1 b) = true then y :: cntT snaps (y.f0.f1 - 1) t else cntT snaps (y.f0.f1 - 1) t) else cntT snaps b t
def keepP : List PC.S44 → List PC.S44
  | [] => []
  | x :: t => if (x :: t).any (fun y => y.f0.f2 == 1) = true then x :: keepP t else []
theorem keepP_none : ∀ l : List PC.S44, l.any (fun y => y.f0.f2 == 1) = false → keepP l = []
  | [], _ => rfl
  | x :: t, h => by
    unfold keepP
    rw [if_neg (by rw [h]; decide)]
def cF (snaps : List Int) : List PC.S44 → List PC.S44 → List PC.S44
  | _, [] => []
  | pre, x :: t => if isCnt snaps pre x = true then x :: cF snaps (x :: pre) t else cF snaps (x :: pre) t
theorem putAt_same (x : PC.S44) (t : List PC.S44) (b : Bool) (h : ∀ y, t.head? = some y → sameU x y = true) : putAt x t b = b := by
  cases t with
  | nil => rfl
  | cons y t => simp [putAt, h y rfl]
theorem keepP_cons (x : PC.S44) (t : List PC.S44) : keepP (x :: t) = if (x :: t).any (fun y => y.f0.f2 == 1) = true then x :: keepP t else [] := rfl
theorem pick_RB (snaps : List Int) (bottom : Bool) (x0 : PC.S44) : ∀ (g pre : List PC.S44), (∀ y ∈ g, sameU y x0 = true) →
    (RB snaps bottom pre g).1 = (cF snaps pre g).any (fun y => y.f0.f2 == 1) ∧ pick g (RB snaps bottom pre g).2 = if bottom = true then keepP (cF snaps pre g) else cF snaps pre g
  | [], _, _ => by simp [RB, cF, pick, keepP]
  | x :: t, pre, hg => by
    obtain ⟨i1, i2⟩ := pick_RB snaps bottom x0 t (x :: pre) (fun y hy => hg y (by simp [hy]))
    have hp : ∀ b : Bool, putAt x t b = b := fun b => putAt_same x t b (fun y hy => by
      have h1 := hg x (by simp)
      have h2 := hg y (List.mem_cons_of_mem _ (List.mem_of_mem_head? hy))
      rw [sameU_cong h2]
      exact h1)
    rw [RB_cons]
    simp only [hp]
    unfold cF
    by_cases hc : isCnt snaps pre x = true
    · rw [if_pos hc, if_pos hc]
      refine ⟨?_, ?_⟩
      · simp only [List.any_cons, i1, Bool.or_comm]
      · simp only [pick]
        rw [i2, i1]
        cases bottom with
        | false => simp
        | true =>
          simp only [Bool.not_true, Bool.or_false, if_true]
          have e : (x :: cF snaps (x :: pre) t).any (fun y => y.f0.f2 == 1) = ((cF snaps (x :: pre) t).any (fun y => y.f0.f2 == 1) || x.f0.f2 == 1) := by rw [List.any_cons, Bool.or_comm]
          rw [keepP_cons]
          by_cases hq : ((cF snaps (x :: pre) t).any (fun y => y.f0.f2 == 1) || x.f0.f2 == 1) = true
          · rw [if_pos hq, if_pos (e.trans hq)]
          · rw [if_neg hq, if_neg (by rw [e]; exact hq)]
            have hq2 : (cF snaps (x :: pre) t).any (fun y => y.f0.f2 == 1) = false := by
              rw [Bool.not_eq_true, Bool.or_eq_false_iff] at hq
              exact hq.1
            exact keepP_none _ hq2
    · rw [if_neg hc, if_neg hc]
      exact ⟨i1, by simpa [pick] using i2⟩
theorem fstR_all (x : PC.S44) (s : Int) : ∀ pre : List PC.S44, (∀ y ∈ pre, sameU y x = true) → fstR x s pre = pre.all (fun y => decide (s < y.f0.f1))
  | [], _ => rfl
  | y :: p, h => by
    unfold fstR
    rw [if_pos (h y (by simp)), fstR_all x s p (fun z hz => h z (by simp [hz]))]
    by_cases hs : y.f0.f1 ≤ s
    · rw [if_pos hs, List.all_cons, decide_eq_false (by omega), Bool.false_and]
    · rw [if_neg hs, List.all_cons, decide_eq_true (by omega), Bool.true_and]
theorem cF_cntT (snaps : List Int) (x0 : PC.S44) : ∀ (t pre : List PC.S44) (b : Int), (∀ y ∈ pre, sameU y x0 = true) → (∀ y ∈ t, sameU y x0 = true) → b < topU → (∀ s, pre.all (fun y => decide (s < y.f0.f1)) = decide (s ≤ b)) → cF snaps pre t = cntT snaps b t
  | [], _, _, _, _, _, _ => rfl
  | y :: t, pre, b, hp, ht, hb, hall => by
    have hy := ht y (by simp)
    have hpy : ∀ z ∈ pre, sameU z y = true := fun z hz => by rw [sameU_cong hy]; exact hp z hz
    have hi : isCnt snaps pre y = snaps.any (within y.f0.f1 b) := by
      have e : ∀ s, isFst y s pre = within y.f0.f1 b s := fun s => by
        unfold isFst within
        rw [fstR_all y s pre hpy, hall]
      unfold isCnt
      rw [show (fun s => isFst y s pre) = within y.f0.f1 b from funext e, e]
      have : within y.f0.f1 b topU = false := by
        unfold within
        rw [decide_eq_false (show ¬ topU ≤ b by omega), Bool.and_false]
      rw [this, Bool.false_or]
    have hp2 : ∀ z ∈ y :: pre, sameU z x0 = true := fun z hz => by
      rcases List.mem_cons.1 hz with rfl | h
      · exact hy
      · exact hp z h
    unfold cF cntT
    rw [hi]
    by_cases hle : y.f0.f1 ≤ b
    · rw [if_pos hle]
      have ih := cF_cntT snaps x0 t (y :: pre) (y.f0.f1 - 1) hp2 (fun z hz => ht z (by simp [hz])) (by omega) (fun s => by
        rw [List.all_cons, hall, Bool.eq_iff_iff]
        simp only [Bool.and_eq_true, decide_eq_true_eq]
        omega)
      rw [ih]
    · rw [if_neg hle]
      have ih := cF_cntT snaps x0 t (y :: pre) b hp2 (fun z hz => ht z (by simp [hz])) hb (fun s => by
        rw [List.all_cons, hall, Bool.eq_iff_iff]
        simp only [Bool.and_eq_true, decide_eq_true_eq]
        omega)
      rw [ih]
      have : snaps.any (within y.f0.f1 b) = false := by
        rw [List.any_eq_false]
        intro s _
        unfold within
        simp only [Bool.and_eq_true, decide_eq_true_eq]
        omega
      rw [if_neg (by rw [this]; decide)]
/-- An entry's number is a number. -/
def okN (x : PC.S44) : Prop := 0 ≤ x.f0.f1 ∧ x.f0.f1 ≤ topU
theorem cF_first (snaps : List Int) (x : PC.S44) (t : List PC.S44) (hx : okN x) (ht : ∀ y ∈ t, sameU y x = true) : cF snaps [] (x :: t) = x :: cntT snaps (x.f0.f1 - 1) t := by
  have h1 : isCnt snaps [] x = true := by
    unfold isCnt isFst
    rw [decide_eq_true hx.2]
    rfl
  have h2 := hx.2
  unfold cF
  rw [if_pos h1, cF_cntT snaps x t [x] (x.f0.f1 - 1) (fun y hy => by rw [List.mem_singleton.1 hy]; exact sameU_refl x) ht (by omega) (fun s => by
    simp only [List.all_cons, List.all_nil, Bool.and_true]
    rw [Bool.eq_iff_iff]
    simp only [decide_eq_true_eq]
    omega)]
theorem runC_cntT (snaps : List Int) : ∀ (t : List PC.S44) (out : List PC.S44) (ab : Int) (op : Bool), out ≠ [] → (op = true → 0 ≤ ab ∨ ab = -1) → (∀ y ∈ t, okN y) → (t.foldl (stepC snaps) (out, ab, op)).1 = out ++ cntT snaps (if op = true then ab else -1) t
  | [], out, ab, op, _, _, _ => by simp [cntT]
  | y :: t, out, ab, op, ho, hab, hv => by
    have hy := hv y (by simp)
    have hvt : ∀ z ∈ t, okN z := fun z hz => hv z (by simp [hz])
    obtain ⟨h0, h1⟩ := hy
    have hou : decide (out = []) = false := decide_eq_false ho
    rw [List.foldl_cons]
    unfold cntT
    cases op with
    | false =>
      have hs : (if (false = true) then ab else (-1 : Int)) = -1 := rfl
      rw [hs, if_neg (by omega)]
      have : stepC snaps (out, ab, false) y = (out, (if y.f0.f1 ≤ ab then IntKind.u64.wrap (y.f0.f1 - 1) else ab), false) := by
        simp [stepC, seenC]
      rw [this, runC_cntT snaps t out _ false ho (by simp) hvt]
      rfl
    | true =>
      have hs : (if (true = true) then ab else (-1 : Int)) = ab := rfl
      rw [hs]
      by_cases hle : y.f0.f1 ≤ ab
      · rw [if_pos hle]
        have hseen : seenC snaps (out, ab, true) y = snaps.any (within y.f0.f1 ab) := by
          simp [seenC, hle, ho]
        have hst : stepC snaps (out, ab, true) y = (if snaps.any (within y.f0.f1 ab) = true then out ++ [y] else out, IntKind.u64.wrap (y.f0.f1 - 1), decide (0 < y.f0.f1)) := by
          unfold stepC
          rw [hseen]
          simp [hle]
        have hb : (if decide (0 < y.f0.f1) = true then IntKind.u64.wrap (y.f0.f1 - 1) else -1) = y.f0.f1 - 1 := by
          by_cases hp : 0 < y.f0.f1
          · rw [if_pos (decide_eq_true hp)]
            unfold topU at h1
            have : IntKind.u64.wrap (y.f0.f1 - 1) = y.f0.f1 - 1 := by
              rw [IntKind.wrap]
              simp [IntKind.signed, IntKind.bits]
              omega
            exact this
          · rw [if_neg (by simpa using hp)]
            omega
        rw [hst]
        by_cases ha : snaps.any (within y.f0.f1 ab) = true
        · rw [if_pos ha, if_pos ha, runC_cntT snaps t (out ++ [y]) _ _ (by simp) (fun hd => by rw [if_pos hd] at hb; omega) hvt, hb]
          simp
        · rw [if_neg ha, if_neg ha, runC_cntT snaps t out _ _ ho (fun hd => by rw [if_pos hd] at hb; omega) hvt, hb]
      · rw [if_neg hle]
        have : stepC snaps (out, ab, true) y = (out, ab, true) := by
          simp [stepC, seenC, hle]
        rw [this, runC_cntT snaps t out ab true ho hab hvt]
        rfl
theorem countedL_cons (snaps : List Int) (x : PC.S44) (t : List PC.S44) (hx : okN x) (ht : ∀ y ∈ t, okN y) : countedL snaps (x :: t) = x :: cntT snaps (x.f0.f1 - 1) t := by
  obtain ⟨h0, h1⟩ := hx
  have hst : stepC snaps ([], topU, true) x = ([x], IntKind.u64.wrap (x.f0.f1 - 1), decide (0 < x.f0.f1)) := by
    simp [stepC, seenC, h1]
  have hb : (if decide (0 < x.f0.f1) = true then IntKind.u64.wrap (x.f0.f1 - 1) else -1) = x.f0.f1 - 1 := by
    by_cases hp : 0 < x.f0.f1
    · rw [if_pos (decide_eq_true hp)]
      unfold topU at h1
      have : IntKind.u64.wrap (x.f0.f1 - 1) = x.f0.f1 - 1 := by
        rw [IntKind.wrap]
        simp [IntKind.signed, IntKind.bits]
        omega
      exact this
    · rw [if_neg (by simpa using hp)]
      omega
  unfold countedL runC
  rw [List.foldl_cons, hst, runC_cntT snaps t [x] _ _ (by simp) (fun hd => by rw [if_pos hd] at hb; omega) ht, hb]
  rfl
theorem runM_foldr (l : List PC.S44) : (runM l.reverse).1 = l.any (fun y => y.f0.f2 == 1) ∧ (runM l.reverse).2.reverse = keepP l := by
  unfold runM
  rw [List.foldl_reverse]
  induction l with
  | nil => exact ⟨rfl, rfl⟩
  | cons x t ih =>
    obtain ⟨i1, i2⟩ := ih
    rw [List.foldr_cons]
    obtain ⟨st, hst⟩ : ∃ st, List.foldr (fun x y => stepM y x) (false, []) t = st := ⟨_, rfl⟩
    rw [hst] at i1 i2 ⊢
    have e : (x :: t).any (fun y => y.f0.f2 == 1) = (st.1 || x.f0.f2 == 1) := by rw [List.any_cons, Bool.or_comm, i1]
    rw [keepP_cons, e]
    refine ⟨rfl, ?_⟩
    by_cases h : (st.1 || x.f0.f2 == 1) = true
    · rw [if_pos h]
      show (if (st.1 || x.f0.f2 == 1) = true then st.2 ++ [x] else st.2).reverse = _
      rw [if_pos h, List.reverse_append, i2]
      rfl
    · rw [if_neg h]
      show (if (st.1 || x.f0.f2 == 1) = true then st.2 ++ [x] else st.2).reverse = _
      rw [if_neg h, i2]
      refine keepP_none t ?_
      rw [← i1]
      rw [Bool.not_eq_true, Bool.or_eq_false_iff] at h
      exact h.1
theorem settledL_keepP (l : List PC.S44) : settledL l = keepP l := (runM_foldr l).2
theorem pick_group (snaps : List Int) (bottom : Bool) (x : PC.S44) (t : List PC.S44) (hx : okN x) (ht : ∀ y ∈ t, okN y) (hs : ∀ y ∈ t, sameU y x = true) : pick (x :: t) (RB snaps bottom [] (x :: t)).2 = stayU snaps bottom (x :: t) := by
  rw [(pick_RB snaps bottom x (x :: t) [] (fun y hy => by
    rcases List.mem_cons.1 hy with rfl | h
    · exact sameU_refl _
    · exact hs y h)).2, cF_first snaps x t hx hs]
  unfold stayU
  rw [countedL_cons snaps x t hx ht, settledL_keepP]
theorem mem_tw {α : Type} (p : α → Bool) : ∀ (l : List α) (y : α), y ∈ l.takeWhile p → p y = true
  | [], y, h => by simp at h
  | a :: t, y, h => by
    rw [List.takeWhile_cons] at h
    split at h
    · rename_i ha
      rcases List.mem_cons.1 h with rfl | h
      · exact ha
      · exact mem_tw p t y h
    · cases h
theorem pick_dropL (snaps : List Int) (bottom : Bool) : ∀ (n : Nat) (l : List PC.S44), l.length ≤ n → (∀ y ∈ l, okN y) → pick l (RB snaps bottom [] l).2 = dropL snaps bottom l
  | _, [], _, _ => rfl
  | 0, _ :: _, h, _ => by simp at h
  | n + 1, x :: t, hn, hv => by
    have ht : t = t.takeWhile (fun y => sameU y x) ++ t.dropWhile (fun y => sameU y x) := (List.takeWhile_append_dropWhile).symm
    obtain ⟨g, hg⟩ : ∃ g, t.takeWhile (fun y => sameU y x) = g := ⟨_, rfl⟩
    obtain ⟨r, hr⟩ : ∃ r, t.dropWhile (fun y => sameU y x) = r := ⟨_, rfl⟩
    have hgs : ∀ y ∈ g, sameU y x = true := fun y hy => by
      rw [← hg] at hy
      exact mem_tw (fun y => sameU y x) _ _ hy
    have hrs : ∀ y, r.head? = some y → sameU y x = false := fun y hy => by
      have h2 := List.head?_dropWhile_not (fun y => sameU y x) t
      rw [hr, hy] at h2
      simpa using h2
    have hd : dropL snaps bottom (x :: t) = stayU snaps bottom (x :: g) ++ dropL snaps bottom r := by
      unfold dropL
      rw [groups_span, hg, hr]
      simp
    rw [hd]
    rw [hg, hr] at ht
    have hlr : r.length ≤ n := by
      have := congrArg List.length ht
      simp at this hn
      omega
    have hvr : ∀ y ∈ r, okN y := fun y hy => hv y (by rw [ht]; simp [hy])
    have hvg : ∀ y ∈ g, okN y := fun y hy => hv y (by rw [ht]; simp [hy])
    have hall : ∀ y ∈ x :: g, sameU y x = true := fun y hy => by
      rcases List.mem_cons.1 hy with rfl | h
      · exact sameU_refl _
      · exact hgs y h
    rw [show x :: t = (x :: g) ++ r by rw [ht]; rfl, RB_group snaps bottom x r hrs (x :: g) [] hall (by simp), pick_append _ _ _ _ (RB_len _ _ _ _), pick_group snaps bottom x g (hv x (by simp)) hvg hgs]
    congr 1
    have hctx := RB_ctx snaps bottom ((x :: g).reverse) r [] (fun z hz y hy => by
      have hy' : y ∈ (x :: g).reverse := List.mem_of_mem_head? hy
      have h1 := hall y (List.mem_reverse.1 hy')
      have h2 := hrs z hz
      show sameU y z = false
      rw [sameU_comm, sameU_cong h1]
      exact h2)
    rw [List.append_nil]
    rw [List.nil_append] at hctx
    rw [hctx]
    exact pick_dropL snaps bottom n r hlr hvr

/-- **What the document lets stay is what the program keeps.** -/
theorem refDrop_eq (l : List PC.S44) (snaps : List Int) (bottom : Bool) (k : Nat) (hl : l.length ≤ 2932031007402) (hs : snaps.length ≤ 9223372036854775806) (hk : 5 * l.length + snaps.length + 10 ≤ k) (hv : ∀ y ∈ l, okN y) :
    PC.staddleref19_Drop.f k l snaps bottom = if risesB l = true then some (dropL snaps bottom l, 0) else some ([], 160) := by
  rw [Drop_f l snaps bottom k hl hs hk, pick_dropL snaps bottom l.length l (Nat.le_refl _) hv]

end Go.Proofs.Ytehoojmalhloeaa.CM

/-! What the statements of chapter 19 call, in one form each: few, Drop, Split, and the document's Drop and Same. Their conditions are that what is read can be read. -/
namespace Go.Proofs.Ytehoojmalhloeaa.CM
open Go.RowKit Go.Proofs.YtehoojmalhloeaaW.PrintWords
set_option linter.unusedVariables false
set_option linter.unusedSimpArgs false
set_option maxRecDepth 100000

/-- What Drop answers; what Split does. -/
def dropA (snaps : List Int) (bottom : Bool) (l : List PC.S44) : List PC.S44 × Int := if risesB l = true then (dropL snaps bottom l, 0) else ([], 160)
def splitA (size : Int) (l : List PC.S44) : List (List PC.S44) × Int := if size < 1 then ([], 1) else if risesB l = true then (splitL size l, 0) else ([], 160)
theorem drop_any (A : Option Addr) (c : Nat) (l : List PC.S44) (A2 : Option Addr) (n2 c2 : Nat) (snaps : List Int) (bottom : Bool) (w : World) (hr : Kd.C PC.k44 w A l.length l) (hc : l.length ≤ c) (hn : n2 = snaps.length) (hr2 : Kd.C (Kd.int .u64) w A2 snaps.length snaps)
    (hbig : l.length * 48 ≤ 140737488355328) :
    Calls Try.prog 24 #[.slice A l.length c, .slice A2 n2 c2, .bool bottom] w fun e w' => ∃ v, e = .returned (.tuple #[v, .int .i64 (dropA snaps bottom l).2]) ∧ Kd.R PC.k44 44 w' w.heap.size (fun _ => True) v (dropA snaps bottom l).1 ∧ Below w.heap.size w w' := by
  subst hn
  by_cases h : risesB l = true
  · have e : dropA snaps bottom l = (dropL snaps bottom l, 0) := if_pos h
    rw [e]
    exact drop_w A c l A2 c2 snaps bottom w hr hc hr2 hbig h
  · have e : dropA snaps bottom l = ([], 160) := if_neg h
    rw [e]
    refine (drop_no A c l A2 c2 _ bottom w hr hc (by simpa using h)).mono ?_
    rintro e w' ⟨rfl, hb⟩
    exact ⟨_, rfl, Kd.R_nil _ _ _ _ _, hb⟩
theorem split_any (A : Option Addr) (c : Nat) (l : List PC.S44) (size : Int) (w : World) (hr : Kd.C PC.k44 w A l.length l) (hc : l.length ≤ c) (hbig : l.length * 48 ≤ 140737488355328 - 4096) :
    Calls Try.prog 27 #[.slice A l.length c, .int .i64 size] w fun e w' => ∃ v, e = .returned (.tuple #[v, .int .i64 (splitA size l).2]) ∧ Kd.S (Kd.slice 44 PC.k44) 22 w' w.heap.size (fun _ => True) v (splitA size l).1 ∧ Below w.heap.size w w' := by
  by_cases hs : size < 1
  · have e : splitA size l = ([], 1) := if_pos hs
    rw [e]
    refine (split_arg A _ c size w hs).mono ?_
    rintro e w' ⟨rfl, hb⟩
    exact ⟨_, rfl, Kd.S_nil _ _ _ _ _, hb⟩
  · by_cases h : risesB l = true
    · have e : splitA size l = (splitL size l, 0) := by unfold splitA; rw [if_neg hs, if_pos h]
      rw [e]
      exact split_w A c l size w hr hc hbig (by omega) h
    · have e : splitA size l = ([], 160) := by unfold splitA; rw [if_neg hs, if_neg h]
      rw [e]
      refine (split_no A c l size w hr hc (by omega) (by simpa using h)).mono ?_
      rintro e w' ⟨rfl, hb⟩
      exact ⟨_, rfl, Kd.S_nil _ _ _ _ _, hb⟩
theorem dropA_len (snaps : List Int) (bottom : Bool) (l : List PC.S44) : (dropA snaps bottom l).1.length ≤ l.length := by
  unfold dropA
  split
  · have h1 := flat_len snaps bottom (groups l)
    rw [groups_flat] at h1
    exact h1
  · simp
theorem refDropA (l : List PC.S44) (snaps : List Int) (bottom : Bool) (k : Nat) (hl : l.length ≤ 2932031007402) (hs : snaps.length ≤ 9223372036854775806) (hk : 5 * l.length + snaps.length + 10 ≤ k) (hv : ∀ y ∈ l, okN y) :
    PC.staddleref19_Drop.f k l snaps bottom = some (dropA snaps bottom l) := by
  rw [refDrop_eq l snaps bottom k hl hs hk hv]
  unfold dropA
  split <;> rfl

theorem few_w (A : Option Addr) (n c : Nat) (A2 : Option Addr) (n2 c2 m m2 : Nat) (w : World) (hm : m = if 200 < n then 200 else n) (hm2 : m2 = if 50 < n2 then 50 else n2) (hn : n ≤ c) (hn2 : n2 ≤ c2) :
    Calls Try.prog 23 #[.slice A n c, .slice A2 n2 c2] w fun e w' => e = .returned (.tuple #[.slice A m c, .slice A2 m2 c2]) ∧ w' = w := by
  by_cases h1 : 200 < n
  · rw [if_pos h1] at hm
    subst hm
    have d1 : decide (200 < n) = true := decide_eq_true h1
    have p1 : (200 ≤ c) = True := eq_true (by omega)
    have p1b : (200 ≤ n) = True := eq_true (by omega)
    by_cases h2 : 50 < n2
    · rw [if_pos h2] at hm2
      subst hm2
      have d2 : decide (50 < n2) = true := decide_eq_true h2
      have p2 : (50 ≤ c2) = True := eq_true (by omega)
      have p2b : (50 ≤ n2) = True := eq_true (by omega)
      go_enter Try.func23, Try.ntmps23
      go_wp2
      go_ret2
      exact ⟨rfl, rfl⟩
    · rw [if_neg h2] at hm2
      have d2 : decide (50 < m2) = false := decide_eq_false (by omega)
      subst hm2
      go_enter Try.func23, Try.ntmps23
      go_wp2
      go_ret2
      exact ⟨rfl, rfl⟩
  · rw [if_neg h1] at hm
    have d1 : decide (200 < m) = false := decide_eq_false (by omega)
    subst hm
    by_cases h2 : 50 < n2
    · rw [if_pos h2] at hm2
      subst hm2
      have d2 : decide (50 < n2) = true := decide_eq_true h2
      have p2 : (50 ≤ c2) = True := eq_true (by omega)
      have p2b : (50 ≤ n2) = True := eq_true (by omega)
      go_enter Try.func23, Try.ntmps23
      go_wp2
      go_ret2
      exact ⟨rfl, rfl⟩
    · rw [if_neg h2] at hm2
      have d2 : decide (50 < m2) = false := decide_eq_false (by omega)
      subst hm2
      go_enter Try.func23, Try.ntmps23
      go_wp2
      go_ret2
      exact ⟨rfl, rfl⟩

theorem Same_l0_refl (l : List PC.S44) (hl : l.length ≤ 9223372036854775806) : ∀ (n k i : Nat), l.length - i ≤ n → n + 1 ≤ k → PC.staddleref08_Same.l0 k l l (i : Int) = some true
  | n, 0, i, _, hk => by omega
  | n, k + 1, i, hn, hk => by
    unfold PC.staddleref08_Same.l0
    by_cases h : i < l.length
    · rw [if_pos (by omega), if_pos (by omega), if_pos (by omega), if_neg (by simp), w64 ((i : Int) + 1) (by omega)]
      exact Same_l0_refl l hl (n - 1) k (i + 1) (by omega) (by omega)
    · rw [if_neg (by omega)]
theorem Same_f_refl (l : List PC.S44) (k : Nat) (hl : l.length ≤ 9223372036854775806) (hk : l.length + 1 ≤ k) : PC.staddleref08_Same.f k l l = some true := by
  unfold PC.staddleref08_Same.f
  rw [if_pos rfl]
  exact Same_l0_refl l hl l.length k 0 (by omega) hk
theorem same_refl_w (A : Option Addr) (n c : Nat) (A2 : Option Addr) (n2 c2 : Nat) (l : List PC.S44) (w : World) (hn : n = l.length) (hn2 : n2 = l.length) (hr : Kd.C PC.k44 w A l.length l) (hc : l.length ≤ c) (hr2 : Kd.C PC.k44 w A2 l.length l) (hc2 : l.length ≤ c2) (hl : l.length ≤ 9223372036854775806) :
    Calls Try.prog 26 #[.slice A n c, .slice A2 n2 c2] w fun e w' => e = .returned (.bool true) ∧ Below w.heap.size w w' := by
  subst hn hn2
  refine (PC.staddleref08_Same.calls (l.length + 1) A c l A2 c2 l true w hr hc hr2 hc2 (Same_f_refl l _ hl (Nat.le_refl _))).mono ?_
  rintro e w' ⟨rfl, hd⟩
  exact ⟨rfl, hd.below⟩

end Go.Proofs.Ytehoojmalhloeaa.CM
