/- What must stay of entries, by the document (chapter 19), is what the program keeps: in plain words, no program in sight. -/
import Derived.Test.YtehoojmalhloeaaPCx5
import Derived.Test.YtehoojmalhloeaaDA
namespace Go.Proofs.Ytehoojmalhloeaa.CM
open Go.RowKit Go.Proofs.YtehoojmalhloeaaW.PrintWords
set_option linter.unusedVariables false
set_option linter.unusedSimpArgs false

/-! ### the loops -/
/-- Is one put behind x, for its user? -/
def putAt (x : PC.S44) (t : List PC.S44) (b : Bool) : Bool := match t with
  | y :: _ => if sameU x y = true then b else false
  | [] => b
/-- From behind: is one put, and which stay. pre: what stands ahead, the nearest first. -/
def RB (snaps : List Int) (bottom : Bool) : List PC.S44 → List PC.S44 → Bool × List Bool
  | _, [] => (false, [])
  | pre, x :: t =>
    let r := RB snaps bottom (x :: pre) t
    let put0 := putAt x t r.1
    if isCnt snaps pre x = true then (put0 || x.f0.f2 == 1, ((put0 || x.f0.f2 == 1) || !bottom) :: r.2) else (put0, false :: r.2)
theorem RB_cons (snaps : List Int) (bottom : Bool) (pre : List PC.S44) (x : PC.S44) (t : List PC.S44) : RB snaps bottom pre (x :: t) =
    (let r := RB snaps bottom (x :: pre) t
    let put0 := putAt x t r.1
    if isCnt snaps pre x = true then (put0 || x.f0.f2 == 1, ((put0 || x.f0.f2 == 1) || !bottom) :: r.2) else (put0, false :: r.2)) := rfl
/-- Those that stay. -/
def pick : List PC.S44 → List Bool → List PC.S44
  | x :: t, b :: bs => if b = true then x :: pick t bs else pick t bs
  | _, _ => []
theorem RB_len (snaps : List Int) (bottom : Bool) : ∀ (l pre : List PC.S44), (RB snaps bottom pre l).2.length = l.length
  | [], _ => rfl
  | x :: t, pre => by
    have ih := RB_len snaps bottom t (x :: pre)
    unfold RB
    simp only
    split <;> simp [ih]
theorem pick_len : ∀ (l : List PC.S44) (bs : List Bool), (pick l bs).length ≤ l.length
  | [], _ => by simp [pick]
  | x :: t, [] => by simp [pick]
  | x :: t, b :: bs => by
    have := pick_len t bs
    unfold pick
    split <;> simp <;> omega
theorem eta44 (x : PC.S44) : (⟨⟨x.f0.f0, x.f0.f1, x.f0.f2⟩, x.f1⟩ : PC.S44) = x := rfl
theorem Drop_l1 (l : List PC.S44) (bs : List Bool) (hb : bs.length = l.length) (hl : l.length ≤ 2932031007402) : ∀ (n k i : Nat) (out : List PC.S44), l.length - i ≤ n → n + 1 ≤ k → i ≤ l.length → out.length ≤ i →
    PC.staddleref19_Drop.l1 k l bs out (i : Int) = some (out ++ pick (l.drop i) (bs.drop i), 0)
  | n, 0, i, out, _, hk, _, _ => by omega
  | n, k + 1, i, out, hn, hk, hi, ho => by
    unfold PC.staddleref19_Drop.l1
    by_cases h : i < l.length
    · have hd : l.drop i = l.getD i PC.z44 :: l.drop (i + 1) := by
        rw [List.drop_eq_getElem_cons h]
        simp [List.getD_eq_getElem?_getD, List.getElem?_eq_getElem h]
      have hd2 : bs.drop i = rdOf false bs (i : Int) :: bs.drop (i + 1) := by
        rw [List.drop_eq_getElem_cons (by omega)]
        simp [rdOf, List.getD_eq_getElem?_getD, List.getElem?_eq_getElem (show i < bs.length by omega)]
      rw [if_pos (by omega), if_pos (by omega), if_pos (by omega), hd, hd2, w64 ((i : Int) + 1) (by omega)]
      unfold pick
      by_cases hx : rdOf false bs (i : Int) = true
      · rw [if_pos hx, if_pos hx, if_pos (by omega), rd44, eta44]
        have := Drop_l1 l bs hb hl (n - 1) k (i + 1) (out ++ [l.getD i PC.z44]) (by omega) (by omega) (by omega) (by simp; omega)
        rw [show ((i : Int) + 1) = ((i + 1 : Nat) : Int) by omega, this]
        simp
      · rw [if_neg hx, if_neg hx]
        have := Drop_l1 l bs hb hl (n - 1) k (i + 1) out (by omega) (by omega) (by omega) (by omega)
        rw [show ((i : Int) + 1) = ((i + 1 : Nat) : Int) by omega, this]
    · rw [if_neg (by omega), List.drop_of_length_le (by omega)]
      simp [pick]

theorem set_rep (i : Nat) (v : Bool) (st : List Bool) : (List.replicate (i + 1) false ++ st).set i v = List.replicate i false ++ v :: st := by
  rw [List.replicate_succ']
  simp [List.set_append]
theorem Drop_l0 (l : List PC.S44) (snaps : List Int) (bottom : Bool) (hl : l.length ≤ 2932031007402) (hs : snaps.length ≤ 9223372036854775806) : ∀ (i k : Nat), i ≤ l.length → 3 * i + 2 * l.length + snaps.length + 10 ≤ k →
    PC.staddleref19_Drop.l0 k l snaps bottom (List.replicate i false ++ (RB snaps bottom (l.take i).reverse (l.drop i)).2) (RB snaps bottom (l.take i).reverse (l.drop i)).1 ((i : Int) - 1) = some (pick l (RB snaps bottom [] l).2, 0)
  | 0, 0, _, hk => by omega
  | 0, k + 1, _, hk => by
    unfold PC.staddleref19_Drop.l0
    rw [if_neg (by omega)]
    have := Drop_l1 l (RB snaps bottom [] l).2 (RB_len _ _ _ _) hl l.length k 0 [] (by omega) (by omega) (by omega) (by simp)
    simpa using this
  | i + 1, 0, _, hk => by omega
  | i + 1, 1, _, hk => by omega
  | i + 1, 2, _, hk => by omega
  | i + 1, k + 3, hi, hk => by
    have e : ((i + 1 : Nat) : Int) - 1 = (i : Int) := by omega
    have hx : l.drop i = l.getD i PC.z44 :: l.drop (i + 1) := by
      rw [List.drop_eq_getElem_cons (by omega)]
      simp [List.getD_eq_getElem?_getD, List.getElem?_eq_getElem (show i < l.length by omega)]
    have ih := Drop_l0 l snaps bottom hl hs i k (by omega) (by omega)
    have hlen := RB_len snaps bottom (l.drop (i + 1)) (l.take (i + 1)).reverse
    obtain ⟨R, hR⟩ : ∃ R, RB snaps bottom (l.take (i + 1)).reverse (l.drop (i + 1)) = R := ⟨_, rfl⟩
    rw [hR] at hlen ⊢
    have hR' := hR
    rw [take_rev l i (by omega)] at hR'
    -- what is put behind, for this user
    obtain ⟨put0, hput⟩ : ∃ put0, putAt (l.getD i PC.z44) (l.drop (i + 1)) R.1 = put0 := ⟨_, rfl⟩
    have hstep : RB snaps bottom (l.take i).reverse (l.drop i) = if isCnt snaps (l.take i).reverse (l.getD i PC.z44) = true then (put0 || (l.getD i PC.z44).f0.f2 == 1, ((put0 || (l.getD i PC.z44).f0.f2 == 1) || !bottom) :: R.2) else (put0, false :: R.2) := by
      rw [hx, RB_cons]
      simp only [hR', hput]
    have hj2 : ∀ m, m = k + 1 → PC.staddleref19_Drop.j2 m l snaps bottom (List.replicate (i + 1) false ++ R.2) put0 (i : Int) = some (pick l (RB snaps bottom [] l).2, 0) := by
      rintro m rfl
      unfold PC.staddleref19_Drop.j2
      rw [counts_f l i snaps k (by omega) (by omega) hs (by omega), Option.bind_some]
      by_cases hc : isCnt snaps (l.take i).reverse (l.getD i PC.z44) = true
      · rw [if_pos hc, if_pos (by omega), if_pos (by omega), rd44, w64 ((i : Int) - 1) (by omega), show ((i : Int)).toNat = i by omega]
        simp only [set_rep]
        rw [hstep, if_pos hc] at ih
        have hlt : (i : Int) < ((List.replicate (i + 1) false ++ R.2).length : Int) := by simp; omega
        by_cases hk1 : (l.getD i PC.z44).f0.f2 = 1
        · have e1 : ((l.getD i PC.z44).f0.f2 == 1) = true := beq_iff_eq.mpr hk1
          rw [if_pos hk1, if_pos hlt]
          simp only [e1, Bool.or_true, Bool.true_or] at ih
          exact ih
        · have e1 : ((l.getD i PC.z44).f0.f2 == 1) = false := beq_eq_false_iff_ne.mpr hk1
          rw [if_neg hk1]
          simp only [e1, Bool.or_false] at ih
          by_cases hp : put0 = true
          · rw [if_pos hp, if_pos hlt]
            rw [hp] at ih ⊢
            simp only [Bool.true_or] at ih
            exact ih
          · rw [if_neg hp, if_pos hlt]
            rw [Bool.not_eq_true] at hp
            rw [hp] at ih ⊢
            simp only [Bool.false_or] at ih
            exact ih
      · rw [if_neg hc, w64 ((i : Int) - 1) (by omega)]
        rw [hstep, if_neg hc] at ih
        have : List.replicate (i + 1) false ++ R.2 = List.replicate i false ++ false :: R.2 := by
          rw [List.replicate_succ']
          simp
        rw [this]
        exact ih
    unfold PC.staddleref19_Drop.l0
    rw [e, if_pos (by omega), w64 ((i : Int) + 1) (by omega)]
    by_cases hlast : i + 1 < l.length
    · have hd : l.drop (i + 1) = l.getD (i + 1) PC.z44 :: l.drop (i + 2) := by
        rw [List.drop_eq_getElem_cons (by omega)]
        simp [List.getD_eq_getElem?_getD, List.getElem?_eq_getElem hlast]
      rw [if_pos (by omega), if_pos (by omega), if_pos (by omega), if_pos (by omega), rd44, show ((i : Int) + 1) = ((i + 1 : Nat) : Int) by omega, rd44]
      unfold PC.staddleref19_Drop.j1
      rw [hd] at hput
      simp only [putAt] at hput
      by_cases hu : sameU (l.getD i PC.z44) (l.getD (i + 1) PC.z44) = true
      · have hu' : ¬ ((l.getD i PC.z44).f0.f0.toList != (l.getD (i + 1) PC.z44).f0.f0.toList) = true := by
          have : ((l.getD i PC.z44).f0.f0.toList == (l.getD (i + 1) PC.z44).f0.f0.toList) = true := hu
          simpa [bne] using this
        rw [if_neg hu']
        rw [if_pos hu] at hput
        rw [hput]
        exact hj2 _ rfl
      · have hu' : ((l.getD i PC.z44).f0.f0.toList != (l.getD (i + 1) PC.z44).f0.f0.toList) = true := by
          have : ¬ ((l.getD i PC.z44).f0.f0.toList == (l.getD (i + 1) PC.z44).f0.f0.toList) = true := hu
          simpa [bne] using this
        rw [if_pos hu']
        rw [if_neg hu] at hput
        have h9 := hj2 _ rfl
        rw [← hput] at h9
        exact h9
    · rw [if_neg (by omega)]
      unfold PC.staddleref19_Drop.j1
      rw [if_neg (by decide)]
      rw [List.drop_of_length_le (by omega)] at hput
      simp only [putAt] at hput
      rw [hput]
      exact hj2 _ rfl
theorem Drop_f (l : List PC.S44) (snaps : List Int) (bottom : Bool) (k : Nat) (hl : l.length ≤ 2932031007402) (hs : snaps.length ≤ 9223372036854775806) (hk : 5 * l.length + snaps.length + 10 ≤ k) :
    PC.staddleref19_Drop.f k l snaps bottom = if risesB l = true then some (pick l (RB snaps bottom [] l).2, 0) else some ([], 160) := by
  unfold PC.staddleref19_Drop.f
  rw [Rises_f l k (by omega) (by omega), Option.bind_some]
  by_cases h : risesB l = true
  · rw [if_pos h, if_pos h, if_pos (by omega), if_pos (by omega), w64 ((l.length : Int) - 1) (by omega)]
    have := Drop_l0 l snaps bottom hl hs l.length k (Nat.le_refl _) (by omega)
    rw [List.drop_of_length_le (Nat.le_refl _)] at this
    simpa [RB] using this
  · rw [if_neg h, if_neg h]

end Go.Proofs.Ytehoojmalhloeaa.CM
