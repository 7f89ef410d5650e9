/- The order of keys; a list of two lists that a call makes. -/
import Derived.Test.YtehoojmalhloeaaCX2
namespace Go.Proofs.Ytehoojmalhloeaa.CM
open Go.RowKit Go.Proofs.YtehoojmalhloeaaW.PrintWords
set_option linter.unusedVariables false
set_option linter.unusedSimpArgs false

theorem sameU_refl (a : PC.S44) : sameU a a = true := by simp [sameU]
theorem sameU_symm {a b : PC.S44} (h : sameU a b = true) : sameU b a = true := by
  simp only [sameU, beq_iff_eq] at *
  exact h.symm
theorem sameU_cong {a b c : PC.S44} (h : sameU b c = true) : sameU a b = sameU a c := by
  simp only [sameU, beq_iff_eq] at h ⊢
  rw [h]
theorem sameU_comm (a b : PC.S44) : sameU a b = sameU b a := by
  rw [Bool.eq_iff_iff]
  exact ⟨sameU_symm, sameU_symm⟩

/-! ### the order -/
theorem less_irrefl : ∀ x : List UInt8, Op.bytesLess x x = false
  | [] => rfl
  | a :: x => by
    have h : ¬ a < a := UInt8.lt_irrefl a
    simp [Op.bytesLess, h, less_irrefl x]
theorem less_trans : ∀ x y z : List UInt8, Op.bytesLess x y = true → Op.bytesLess y z = true → Op.bytesLess x z = true
  | [], _, [], _, h => by cases ‹List UInt8› <;> simp [Op.bytesLess] at h
  | [], _, _ :: _, _, _ => by simp [Op.bytesLess]
  | _ :: _, [], _, h, _ => by simp [Op.bytesLess] at h
  | _ :: _, _ :: _, [], _, h => by simp [Op.bytesLess] at h
  | a :: x, b :: y, c :: z, h1, h2 => by
    have ih := less_trans x y z
    simp only [Op.bytesLess, Bool.or_eq_true, Bool.and_eq_true, decide_eq_true_eq, beq_iff_eq] at h1 h2 ⊢
    rcases h1 with h1 | ⟨rfl, h1⟩
    · rcases h2 with h2 | ⟨rfl, h2⟩
      · exact .inl (UInt8.lt_trans h1 h2)
      · exact .inl h1
    · rcases h2 with h2 | ⟨rfl, h2⟩
      · exact .inl h2
      · exact .inr ⟨rfl, ih h1 h2⟩
/-- One entry's key is ahead of another's. -/
def R (a b : PC.S44) : Prop := cmpK a.f0 b.f0 < 0
theorem R_iff (a b : PC.S44) : R a b ↔ Op.bytesLess a.f0.f0.toList b.f0.f0.toList = true ∨ (sameU a b = true ∧ (b.f0.f1 < a.f0.f1 ∨ a.f0.f1 = b.f0.f1 ∧ b.f0.f2 < a.f0.f2)) := by
  unfold R
  rw [← refK_eq]
  unfold refK sameU
  have tri := less_tri a.f0.f0.toList b.f0.f0.toList
  by_cases h1 : Op.bytesLess a.f0.f0.toList b.f0.f0.toList = true
  · rw [if_pos h1]
    exact ⟨fun _ => .inl h1, fun _ => by omega⟩
  · rw [if_neg h1]
    have h1' : Op.bytesLess a.f0.f0.toList b.f0.f0.toList = false := by simpa using h1
    by_cases h2 : Op.bytesLess b.f0.f0.toList a.f0.f0.toList = true
    · rw [if_pos h2]
      rw [h1', h2] at tri
      have h3 : (a.f0.f0.toList == b.f0.f0.toList) = false := by simpa using tri
      rw [h3, h1']
      simp
    · rw [if_neg h2]
      have h2' : Op.bytesLess b.f0.f0.toList a.f0.f0.toList = false := by simpa using h2
      rw [h1', h2'] at tri
      have h3 : (a.f0.f0.toList == b.f0.f0.toList) = true := by simpa using tri
      rw [h3, h1']
      by_cases h4 : b.f0.f1 < a.f0.f1 ∨ a.f0.f1 = b.f0.f1 ∧ b.f0.f2 < a.f0.f2
      · rw [if_pos h4]
        exact ⟨fun _ => .inr ⟨rfl, h4⟩, fun _ => by omega⟩
      · rw [if_neg h4]
        constructor
        · intro h
          split at h <;> omega
        · rintro (h | ⟨_, h⟩)
          · cases h
          · exact absurd h h4
theorem sameU_eq {a b : PC.S44} (h : sameU a b = true) : a.f0.f0.toList = b.f0.f0.toList := by simpa [sameU] using h
theorem R_irrefl (a : PC.S44) : ¬ R a a := by
  rw [R_iff]
  rintro (h | ⟨_, h⟩)
  · rw [less_irrefl] at h; cases h
  · omega
theorem R_trans {a b c : PC.S44} (h1 : R a b) (h2 : R b c) : R a c := by
  rw [R_iff] at *
  rcases h1 with h1 | ⟨u1, h1⟩
  · rcases h2 with h2 | ⟨u2, h2⟩
    · exact .inl (less_trans _ _ _ h1 h2)
    · rw [← sameU_eq u2]; exact .inl h1
  · rcases h2 with h2 | ⟨u2, h2⟩
    · rw [sameU_eq u1]; exact .inl h2
    · refine .inr ⟨by rw [← sameU_cong u2]; exact u1, by omega⟩
theorem R_asymm {a b : PC.S44} (h1 : R a b) (h2 : R b a) : False := R_irrefl a (R_trans h1 h2)
/-- Between two entries of a user all are that user's. -/
theorem R_between {a b c : PC.S44} (h1 : R a b) (h2 : R b c) (hu : sameU a c = true) : sameU b c = true := by
  rw [R_iff] at h1 h2
  rcases h2 with h2 | ⟨u2, _⟩
  · rcases h1 with h1 | ⟨u1, _⟩
    · have := less_trans _ _ _ h1 h2
      rw [sameU_eq hu, less_irrefl] at this
      cases this
    · rw [← sameU_eq u1, sameU_eq hu, less_irrefl] at h2
      cases h2
  · exact u2
theorem R_seq {a b : PC.S44} (h : R a b) (hu : sameU a b = true) : b.f0.f1 ≤ a.f0.f1 := by
  rw [R_iff] at h
  rcases h with h | ⟨_, h⟩
  · rw [sameU_eq hu, less_irrefl] at h; cases h
  · omega
theorem pw_of_rises : ∀ l : List PC.S44, risesB l = true → l.Pairwise R
  | [], _ => .nil
  | [a], _ => by simp
  | a :: b :: t, h => by
    simp only [risesB, Bool.and_eq_true, decide_eq_true_eq] at h
    have ih := pw_of_rises (b :: t) h.2
    refine List.Pairwise.cons (fun y hy => ?_) ih
    rcases List.mem_cons.1 hy with rfl | hy
    · exact h.1
    · exact R_trans h.1 ((List.pairwise_cons.1 ih).1 y hy)
theorem rises_of_pw : ∀ l : List PC.S44, l.Pairwise R → risesB l = true
  | [], _ => rfl
  | [a], _ => rfl
  | a :: b :: t, h => by
    obtain ⟨h1, h2⟩ := List.pairwise_cons.1 h
    simp only [risesB, Bool.and_eq_true, decide_eq_true_eq]
    exact ⟨h1 b (by simp), rises_of_pw (b :: t) h2⟩
/-- Two rows that rise and hold the same entries are one. -/

theorem R_total (a b : PC.S44) : R a b ∨ R b a ∨ (sameU a b = true ∧ a.f0.f1 = b.f0.f1 ∧ a.f0.f2 = b.f0.f2) := by
  by_cases h1 : R a b
  · exact .inl h1
  by_cases h2 : R b a
  · exact .inr (.inl h2)
  rw [R_iff] at h1 h2
  have tri := less_tri a.f0.f0.toList b.f0.f0.toList
  have h3 : Op.bytesLess a.f0.f0.toList b.f0.f0.toList = false := by
    rw [← Bool.not_eq_true]
    exact fun h => h1 (.inl h)
  have h4 : Op.bytesLess b.f0.f0.toList a.f0.f0.toList = false := by
    rw [← Bool.not_eq_true]
    exact fun h => h2 (.inl h)
  rw [h3, h4] at tri
  have hu : sameU a b = true := by simpa [sameU] using tri
  have n1 := fun q => h1 (.inr ⟨hu, q⟩)
  have n2 := fun q => h2 (.inr ⟨sameU_symm hu, q⟩)
  refine .inr (.inr ⟨hu, ?_, ?_⟩)
  · have a1 : ¬ b.f0.f1 < a.f0.f1 := fun q => n1 (.inl q)
    have a2 : ¬ a.f0.f1 < b.f0.f1 := fun q => n2 (.inl q)
    omega
  · have a1 : ¬ b.f0.f1 < a.f0.f1 := fun q => n1 (.inl q)
    have a2 : ¬ a.f0.f1 < b.f0.f1 := fun q => n2 (.inl q)
    have e : a.f0.f1 = b.f0.f1 := by omega
    have a3 : ¬ b.f0.f2 < a.f0.f2 := fun q => n1 (.inr ⟨e, q⟩)
    have a4 : ¬ a.f0.f2 < b.f0.f2 := fun q => n2 (.inr ⟨e.symm, q⟩)
    omega

theorem C_two {W : World} {A1 A2 : Option Addr} {c1 c2 n1 n2 : Nat} {x1 x2 : List PC.S44} (h1 : Kd.C PC.k44 W A1 x1.length x1) (hc1 : x1.length ≤ c1) (h2 : Kd.C PC.k44 W A2 x2.length x2) (hc2 : x2.length ≤ c2) (e1 : n1 = x1.length) (e2 : n2 = x2.length) :
    Kd.C (Kd.slice 44 PC.k44) (W.alloc (.cells #[.slice A1 n1 c1, .slice A2 n2 c2] 22)) (some ⟨W.heap.size, 0, none⟩) 2 [x1, x2] := by
  subst e1 e2
  have hb : Below W.heap.size W (W.alloc (.cells #[.slice A1 x1.length c1, .slice A2 x2.length c2] 22)) := (Below.refl _ W).alloc (Nat.le_refl _) _
  have hn := World.news_of_block (cs := #[.slice A1 x1.length c1, .slice A2 x2.length c2]) (t := 22) (fr := (0, 0)) (World.alloc_heap_new W _)
  refine ⟨rfl, by decide, fun _ => ⟨_, rfl, fun j p hj => ?_⟩⟩
  rcases j with _ | _ | j
  · obtain rfl : x1 = p := by simpa using hj
    refine ⟨[.slice A1 x1.length c1], rfl, ⟨A1, c1, rfl, hc1, keepC h1 (Nat.le_refl _) hb⟩, fun i u hu => ?_⟩
    rcases i with _ | i
    · obtain rfl : Value.slice A1 x1.length c1 = u := by simpa using hu
      exact hn 0 _ rfl
    · simp at hu
  · obtain rfl : x2 = p := by simpa using hj
    refine ⟨[.slice A2 x2.length c2], rfl, ⟨A2, c2, rfl, hc2, keepC h2 (Nat.le_refl _) hb⟩, fun i u hu => ?_⟩
    rcases i with _ | i
    · obtain rfl : Value.slice A2 x2.length c2 = u := by simpa using hu
      exact hn 1 _ rfl
    · simp at hu
  · simp at hj

end Go.Proofs.Ytehoojmalhloeaa.CM
