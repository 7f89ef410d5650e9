/- merge: a step back from a place is the place ahead of it: plain law. -/
import Derived.Test.YtehoojmalhloeaaMS
namespace Go.Proofs.Ytehoojmalhloeaa.CM
open Go.RowKit
set_option linter.unusedVariables false
set_option linter.unusedSimpArgs false

/-- All lists rise. -/
def Ris (s : Sh) : Prop := ∀ i, i < s.n → (s.l i).Pairwise R
theorem ris_lt {s : Sh} (h : Ris s) {i a b : Nat} (hi : i < s.n) (hab : a < b) (hb : b < (s.l i).length) : R (s.e i a) (s.e i b) := by
  have := List.pairwise_iff_getElem.1 (h i hi) a b (by omega) hb hab
  have ea : s.e i a = (s.l i)[a]'(by omega) := by unfold Sh.e; rw [List.getD_eq_getElem?_getD, List.getElem?_eq_getElem (by omega)]; rfl
  have eb : s.e i b = (s.l i)[b] := by unfold Sh.e; rw [List.getD_eq_getElem?_getD, List.getElem?_eq_getElem hb]; rfl
  rw [ea, eb]
  exact this
theorem itm_lt {s : Sh} (hr : Ris s) {p q i j : Nat} (hp : who s p = some i) (hq : who s q = some j) (hpq : p < q) : T (s.e i (ats s p i)) (s.e j (ats s q j)) i j := by
  have h1 := who_some hp
  have h2 := who_some hq
  have hm : ats s (p + 1) j ≤ ats s q j := ats_mono s (by omega) j
  by_cases e : j = i
  · subst e
    rw [ats_some hp, upd_same] at hm
    exact .inl (ris_lt hr h1.1 (by omega) h2.2.1)
  · have hm0 : ats s p j ≤ ats s q j := ats_mono s (by omega) j
    have ho := h1.2.2 j h2.1 (by omega)
    have hT : T (s.e i (ats s p i)) (s.e j (ats s p j)) i j := by
      rcases (less_ord s (ats s p)).tot i j (fun h => e h.symm) with h | h
      · exact (less_iff _ _ _ _).1 h
      · rw [ho] at h; exact absurd h (by decide)
    rcases Nat.lt_or_eq_of_le hm0 with h3 | h3
    · exact T_trans hT (.inl (ris_lt hr h2.1 h3 h2.2.1))
    · rw [← h3]; exact hT
theorem last_who {s : Sh} {j : Nat} : ∀ p, 0 < ats s p j → ∃ q, q < p ∧ who s q = some j ∧ ats s q j + 1 = ats s p j
  | 0, h => by exact absurd h (Nat.lt_irrefl 0)
  | p + 1, h => by
    cases hw : who s p with
    | none =>
      rw [ats_none hw] at h ⊢
      obtain ⟨q, h1, h2, h3⟩ := last_who p h
      exact ⟨q, by omega, h2, h3⟩
    | some i =>
      by_cases e : j = i
      · subst e
        exact ⟨p, by omega, hw, by rw [ats_some hw, upd_same]⟩
      · rw [ats_some hw, upd_ne e] at h ⊢
        obtain ⟨q, h1, h2, h3⟩ := last_who p h
        exact ⟨q, by omega, h2, h3⟩
theorem more_irr {s : Sh} {f : Nat → Nat} (a : Nat) : s.more f a a = false := by
  rw [← Bool.not_eq_true, more_iff]; exact T_irr
theorem bestK_spec (s : Sh) (f : Nat → Nat) : ∀ k, (bestK s f k = none ∧ ∀ j, j < k → f j = 0) ∨ ∃ b, bestK s f k = some b ∧ b < k ∧ 0 < f b ∧ ∀ j, j < k → 0 < f j → s.more f j b = false
  | 0 => .inl ⟨rfl, fun j h => by omega⟩
  | k + 1 => by
    rcases Nat.eq_zero_or_pos (f k) with h0 | h0
    · rw [bestK_step_no h0]
      rcases bestK_spec s f k with ⟨e, h1⟩ | ⟨b, e, h1, h2, h3⟩
      · refine .inl ⟨e, fun j hj => ?_⟩
        rcases Nat.lt_succ_iff_lt_or_eq.1 hj with h | rfl
        · exact h1 j h
        · exact h0
      · refine .inr ⟨b, e, by omega, h2, fun j hj hjo => ?_⟩
        rcases Nat.lt_succ_iff_lt_or_eq.1 hj with h | rfl
        · exact h3 j h hjo
        · omega
    · rcases bestK_spec s f k with ⟨e, h1⟩ | ⟨b, e, h1, h2, h3⟩
      · rw [bestK_step_none h0 e]
        refine .inr ⟨k, rfl, by omega, h0, fun j hj hjo => ?_⟩
        rcases Nat.lt_succ_iff_lt_or_eq.1 hj with h | rfl
        · have := h1 j h; omega
        · exact more_irr _
      · rw [bestK_step_some h0 e]
        by_cases hm : s.more f k b = true
        · rw [if_pos hm]
          refine .inr ⟨k, rfl, by omega, h0, fun j hj hjo => ?_⟩
          rcases Nat.lt_succ_iff_lt_or_eq.1 hj with h | rfl
          · have h4 := h3 j h hjo
            rw [← Bool.not_eq_true, more_iff] at h4 ⊢
            rw [more_iff] at hm
            exact fun h5 => h4 (T_trans hm h5)
          · exact more_irr _
        · rw [if_neg hm]
          refine .inr ⟨b, rfl, by omega, h2, fun j hj hjo => ?_⟩
          rcases Nat.lt_succ_iff_lt_or_eq.1 hj with h | rfl
          · exact h3 j h hjo
          · simpa using hm
theorem best_zero {s : Sh} : bestK s (ats s 0) s.n = none := by
  rcases bestK_spec s (ats s 0) s.n with ⟨e, _⟩ | ⟨b, e, h1, h2, h3⟩
  · exact e
  · exact absurd h2 (Nat.lt_irrefl 0)
/-- Whose last entry is behind all others' is he who was taken last. -/
theorem best_who {s : Sh} (hr : Ris s) {p : Nat} (hp : p < s.N) : bestK s (ats s (p + 1)) s.n = who s p := by
  obtain ⟨i, hi⟩ := who_lt hp
  have hi1 := who_some hi
  have hai : ats s (p + 1) i = ats s p i + 1 := by rw [ats_some hi, upd_same]
  rw [hi]
  rcases bestK_spec s (ats s (p + 1)) s.n with ⟨e, h1⟩ | ⟨b, e, h1, h2, h3⟩
  · have := h1 i hi1.1; omega
  · by_cases hb : b = i
    · rw [e, hb]
    · obtain ⟨q, hq1, hq2, hq3⟩ := last_who (p + 1) h2
      have hqp : q ≠ p := fun h => by rw [h, hi] at hq2; injection hq2 with h; exact hb h.symm
      have ht := itm_lt hr hq2 hi (by omega)
      have h4 := h3 i hi1.1 (by omega)
      have h5 : s.more (ats s (p + 1)) i b = true := by
        rw [more_iff]
        rw [hai, show ats s p i + 1 - 1 = ats s p i by omega, show ats s (p + 1) b - 1 = ats s q b by omega]
        exact ht
      rw [h5] at h4
      exact absurd h4 (by decide)
theorem ats_back {s : Sh} {p i : Nat} (h : who s p = some i) : upd (ats s (p + 1)) i (ats s (p + 1) i - 1) = ats s p := by
  funext j
  rw [ats_some h]
  by_cases e : j = i
  · subst e; rw [upd_same, upd_same]; omega
  · rw [upd_ne e, upd_ne e]
theorem itm_last {s : Sh} {p i : Nat} (h : who s p = some i) : s.e i (ats s (p + 1) i - 1) = itm s p := by
  rw [itm_some h, ats_some h, upd_same]
  rfl
end Go.Proofs.Ytehoojmalhloeaa.CM
