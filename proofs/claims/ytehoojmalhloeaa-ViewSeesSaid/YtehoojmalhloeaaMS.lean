/- merge: all entries in their order, and places in it: plain law. -/
import Derived.Test.YtehoojmalhloeaaMR
namespace Go.Proofs.Ytehoojmalhloeaa.CM
open Go.RowKit
set_option linter.unusedVariables false
set_option linter.unusedSimpArgs false

/-- The list whose next entry is ahead of all others', of the first k. -/
def headK (s : Sh) (at_ : Nat → Nat) : Nat → Option Nat
  | 0 => none
  | k + 1 => if at_ k < (s.l k).length then (match headK s at_ k with
    | none => some k
    | some b => if s.less at_ k b = true then some k else some b) else headK s at_ k
theorem headK_spec (s : Sh) (at_ : Nat → Nat) : ∀ k : Nat, (headK s at_ k = none ∧ ∀ j, j < k → (s.l j).length ≤ at_ j) ∨
    ∃ b, headK s at_ k = some b ∧ b < k ∧ at_ b < (s.l b).length ∧ ∀ j, j < k → at_ j < (s.l j).length → s.less at_ j b = false
  | 0 => .inl ⟨rfl, fun j h => by omega⟩
  | k + 1 => by
    have o := less_ord s at_
    by_cases h : at_ k < (s.l k).length
    · refine .inr ?_
      rcases headK_spec s at_ k with ⟨e, h1⟩ | ⟨b, e, h1, h2, h3⟩
      · refine ⟨k, ?_, by omega, h, fun j hj hjo => ?_⟩
        · show (if _ then _ else _) = _
          rw [if_pos h, e]
        · rcases Nat.lt_succ_iff_lt_or_eq.1 hj with h4 | rfl
          · have := h1 j h4; omega
          · exact o.irr _
      · by_cases hs : s.less at_ k b = true
        · refine ⟨k, ?_, by omega, h, fun j hj hjo => ?_⟩
          · show (if _ then _ else _) = _
            rw [if_pos h, e]
            show (if _ then _ else _) = _
            rw [if_pos hs]
          · rcases Nat.lt_succ_iff_lt_or_eq.1 hj with h4 | rfl
            · exact o.ntr (o.asymm hs) (h3 j h4 hjo)
            · exact o.irr _
        · refine ⟨b, ?_, by omega, h2, fun j hj hjo => ?_⟩
          · show (if _ then _ else _) = _
            rw [if_pos h, e]
            show (if _ then _ else _) = _
            rw [if_neg hs]
          · rcases Nat.lt_succ_iff_lt_or_eq.1 hj with h4 | rfl
            · exact h3 j h4 hjo
            · simpa using hs
    · rcases headK_spec s at_ k with ⟨e, h1⟩ | ⟨b, e, h1, h2, h3⟩
      · refine .inl ⟨?_, fun j hj => ?_⟩
        · show (if _ then _ else _) = _
          rw [if_neg h, e]
        · rcases Nat.lt_succ_iff_lt_or_eq.1 hj with h4 | rfl
          · exact h1 j h4
          · omega
      · refine .inr ⟨b, ?_, by omega, h2, fun j hj hjo => ?_⟩
        · show (if _ then _ else _) = _
          rw [if_neg h, e]
        · rcases Nat.lt_succ_iff_lt_or_eq.1 hj with h4 | rfl
          · exact h3 j h4 hjo
          · omega
theorem head_none {s : Sh} {at_ : Nat → Nat} (h : openL s at_ s.n = []) : headK s at_ s.n = none := by
  rcases headK_spec s at_ s.n with ⟨e, _⟩ | ⟨b, e, h1, h2, _⟩
  · exact e
  · have : b ∈ openL s at_ s.n := openL_mem.2 ⟨h1, h2⟩
    rw [h] at this
    simp at this
theorem head_some {s : Sh} {at_ : Nat → Nat} {i : Nat} (h : i ∈ openL s at_ s.n) (hm : ∀ j ∈ openL s at_ s.n, s.less at_ j i = false) : headK s at_ s.n = some i := by
  have hi := openL_mem.1 h
  rcases headK_spec s at_ s.n with ⟨e, h1⟩ | ⟨b, e, h1, h2, h3⟩
  · have := h1 i hi.1; omega
  · by_cases hbi : b = i
    · rw [e, hbi]
    · rcases (less_ord s at_).tot b i hbi with h4 | h4
      · rw [hm b (openL_mem.2 ⟨h1, h2⟩)] at h4; exact absurd h4 (by decide)
      · rw [h3 i hi.1 hi.2] at h4; exact absurd h4 (by decide)

/-- How many of each list were taken, behind so many steps. -/
def ats (s : Sh) : Nat → (Nat → Nat)
  | 0 => fun _ => 0
  | p + 1 => match headK s (ats s p) s.n with
    | none => ats s p
    | some i => upd (ats s p) i (ats s p i + 1)
def who (s : Sh) (p : Nat) : Option Nat := headK s (ats s p) s.n
theorem ats_none {s : Sh} {p : Nat} (h : who s p = none) : ats s (p + 1) = ats s p := by
  show (match headK s (ats s p) s.n with | none => ats s p | some i => upd (ats s p) i (ats s p i + 1)) = _
  unfold who at h
  rw [h]
theorem ats_some {s : Sh} {p i : Nat} (h : who s p = some i) : ats s (p + 1) = upd (ats s p) i (ats s p i + 1) := by
  show (match headK s (ats s p) s.n with | none => ats s p | some i => upd (ats s p) i (ats s p i + 1)) = _
  unfold who at h
  rw [h]
theorem who_some {s : Sh} {p i : Nat} (h : who s p = some i) : i < s.n ∧ ats s p i < (s.l i).length ∧ ∀ j, j < s.n → ats s p j < (s.l j).length → s.less (ats s p) j i = false := by
  rcases headK_spec s (ats s p) s.n with ⟨e, _⟩ | ⟨b, e, h1, h2, h3⟩
  · unfold who at h; rw [e] at h; cases h
  · unfold who at h; rw [e] at h; injection h with h; subst h; exact ⟨h1, h2, h3⟩
theorem who_none {s : Sh} {p : Nat} (h : who s p = none) : ∀ j, j < s.n → (s.l j).length ≤ ats s p j := by
  rcases headK_spec s (ats s p) s.n with ⟨e, h1⟩ | ⟨b, e, _⟩
  · exact h1
  · unfold who at h; rw [e] at h; cases h
theorem ats_le (s : Sh) : ∀ p j, ats s p j ≤ (s.l j).length
  | 0, j => Nat.zero_le _
  | p + 1, j => by
    cases h : who s p with
    | none => rw [ats_none h]; exact ats_le s p j
    | some i =>
      rw [ats_some h]
      by_cases e : j = i
      · subst e; rw [upd_same]; exact (who_some h).2.1
      · rw [upd_ne e]; exact ats_le s p j
theorem ats_step (s : Sh) (p j : Nat) : ats s p j ≤ ats s (p + 1) j := by
  cases h : who s p with
  | none => rw [ats_none h]; exact Nat.le_refl _
  | some i =>
    rw [ats_some h]
    by_cases e : j = i
    · subst e; rw [upd_same]; omega
    · rw [upd_ne e]; exact Nat.le_refl _
theorem ats_mono (s : Sh) {p q : Nat} (h : p ≤ q) (j : Nat) : ats s p j ≤ ats s q j := by
  induction q with
  | zero => obtain rfl : p = 0 := by omega
            exact Nat.le_refl _
  | succ q ih =>
    rcases Nat.lt_or_eq_of_le h with h1 | rfl
    · exact Nat.le_trans (ih (by omega)) (ats_step s q j)
    · exact Nat.le_refl _

/-! ### how many there are -/
def tot (f : Nat → Nat) : Nat → Nat
  | 0 => 0
  | k + 1 => tot f k + f k
theorem tot_upd (f : Nat → Nat) (i v : Nat) : ∀ k, tot (upd f i v) k + (if i < k then f i else 0) = tot f k + (if i < k then v else 0)
  | 0 => by simp [tot]
  | k + 1 => by
    have ih := tot_upd f i v k
    show tot (upd f i v) k + upd f i v k + _ = tot f k + f k + _
    by_cases e : k = i
    · subst e
      rw [upd_same, if_pos (by omega), if_pos (by omega)]
      rw [if_neg (by omega), if_neg (by omega)] at ih
      omega
    · rw [upd_ne e]
      by_cases h : i < k
      · rw [if_pos (by omega), if_pos (by omega)]
        rw [if_pos h, if_pos h] at ih
        omega
      · rw [if_neg (by omega), if_neg (by omega)]
        rw [if_neg h, if_neg h] at ih
        omega
theorem tot_le {f g : Nat → Nat} : ∀ k, (∀ j, j < k → f j ≤ g j) → tot f k ≤ tot g k
  | 0, _ => Nat.le_refl _
  | k + 1, h => by
    have := tot_le k (fun j hj => h j (by omega))
    have := h k (by omega)
    show tot f k + f k ≤ tot g k + g k
    omega
theorem tot_eq {f g : Nat → Nat} : ∀ k, (∀ j, j < k → f j ≤ g j) → tot f k = tot g k → ∀ j, j < k → f j = g j
  | 0, _, _, j, h => by omega
  | k + 1, h, he, j, hj => by
    have h1 := tot_le k (fun j hj => h j (by omega))
    have h2 := h k (by omega)
    have he : tot f k + f k = tot g k + g k := he
    rcases Nat.lt_succ_iff_lt_or_eq.1 hj with h3 | rfl
    · exact tot_eq k (fun j hj => h j (by omega)) (by omega) j h3
    · omega
/-- How many entries there are. -/
def Sh.N (s : Sh) : Nat := tot (fun j => (s.l j).length) s.n
theorem ats_tot (s : Sh) : ∀ p, p ≤ s.N → tot (ats s p) s.n = p ∧ (p < s.N → ∃ i, who s p = some i)
  | 0, _ => by
    have h0 : ∀ k, tot (ats s 0) k = 0 := fun k => by
      induction k with
      | zero => rfl
      | succ k ih => show tot (ats s 0) k + 0 = 0; omega
    refine ⟨h0 _, fun h => ?_⟩
    cases h1 : who s 0 with
    | some i => exact ⟨i, rfl⟩
    | none =>
      have := tot_le (f := fun j => (s.l j).length) (g := ats s 0) s.n (who_none h1)
      rw [h0] at this
      unfold Sh.N at h
      omega
  | p + 1, hp => by
    obtain ⟨h1, h2⟩ := ats_tot s p (by omega)
    obtain ⟨i, hi⟩ := h2 (by omega)
    have h3 := who_some hi
    have h4 := tot_upd (ats s p) i (ats s p i + 1) s.n
    rw [if_pos h3.1, if_pos h3.1] at h4
    have h5 : tot (ats s (p + 1)) s.n = p + 1 := by rw [ats_some hi]; omega
    refine ⟨h5, fun h => ?_⟩
    cases h6 : who s (p + 1) with
    | some i => exact ⟨i, rfl⟩
    | none =>
      have := tot_le (f := fun j => (s.l j).length) (g := ats s (p + 1)) s.n (who_none h6)
      rw [h5] at this
      unfold Sh.N at h
      omega
theorem who_lt {s : Sh} {p : Nat} (h : p < s.N) : ∃ i, who s p = some i := (ats_tot s p (by omega)).2 h
theorem ats_end (s : Sh) : ∀ j, ats s s.N j = (s.l j).length := fun j => by
  by_cases hj : j < s.n
  · exact tot_eq s.n (fun j _ => ats_le s s.N j) (ats_tot s s.N (Nat.le_refl _)).1 j hj
  · have h1 := ats_le s s.N j
    have h2 : s.l j = [] := by simp [Sh.l, show s.L.length ≤ j by have : s.n = s.L.length := rfl; omega]
    rw [h2] at h1 ⊢
    simp at h1 ⊢
    omega
theorem who_end (s : Sh) : who s s.N = none := by
  cases h : who s s.N with
  | none => rfl
  | some i => have := (who_some h).2.1; rw [ats_end] at this; omega
/-- The entry at a place. -/
def itm (s : Sh) (p : Nat) : PC.S44 := match who s p with
  | none => PC.z44
  | some i => s.e i (ats s p i)
theorem itm_some {s : Sh} {p i : Nat} (h : who s p = some i) : itm s p = s.e i (ats s p i) := by unfold itm; rw [h]
end Go.Proofs.Ytehoojmalhloeaa.CM
