/- The order of keys; what is kept of lists that rise. No program in sight. -/
import Derived.Test.YtehoojmalhloeaaDX
namespace Go.Proofs.Ytehoojmalhloeaa.CM
open Go.RowKit Go.Proofs.YtehoojmalhloeaaW.PrintWords
set_option linter.unusedVariables false
set_option linter.unusedSimpArgs false

/-! ### the order -/
theorem less_irrefl : ∀ x : List UInt8, Op.bytesLess x x = false
  | [] => rfl
  | a :: x => by
    have h : ¬ a < a := UInt8.lt_irrefl a
    simp [Op.bytesLess, h, less_irrefl x]
theorem less_trans : ∀ x y z : List UInt8, Op.bytesLess x y = true → Op.bytesLess y z = true → Op.bytesLess x z = true
  | [], _, [], _, h => by cases ‹List UInt8› <;> simp [Op.bytesLess] at h
  | [], _, _ :: _, _, _ => by simp [Op.bytesLess]
  | _ :: _, [], _, h, _ => by simp [Op.bytesLess] at h
  | _ :: _, _ :: _, [], _, h => by simp [Op.bytesLess] at h
  | a :: x, b :: y, c :: z, h1, h2 => by
    have ih := less_trans x y z
    simp only [Op.bytesLess, Bool.or_eq_true, Bool.and_eq_true, decide_eq_true_eq, beq_iff_eq] at h1 h2 ⊢
    rcases h1 with h1 | ⟨rfl, h1⟩
    · rcases h2 with h2 | ⟨rfl, h2⟩
      · exact .inl (UInt8.lt_trans h1 h2)
      · exact .inl h1
    · rcases h2 with h2 | ⟨rfl, h2⟩
      · exact .inl h2
      · exact .inr ⟨rfl, ih h1 h2⟩
/-- One entry's key is ahead of another's. -/
def R (a b : PC.S44) : Prop := cmpK a.f0 b.f0 < 0
theorem R_iff (a b : PC.S44) : R a b ↔ Op.bytesLess a.f0.f0.toList b.f0.f0.toList = true ∨ (sameU a b = true ∧ (b.f0.f1 < a.f0.f1 ∨ a.f0.f1 = b.f0.f1 ∧ b.f0.f2 < a.f0.f2)) := by
  unfold R
  rw [← refK_eq]
  unfold refK sameU
  have tri := less_tri a.f0.f0.toList b.f0.f0.toList
  by_cases h1 : Op.bytesLess a.f0.f0.toList b.f0.f0.toList = true
  · rw [if_pos h1]
    exact ⟨fun _ => .inl h1, fun _ => by omega⟩
  · rw [if_neg h1]
    have h1' : Op.bytesLess a.f0.f0.toList b.f0.f0.toList = false := by simpa using h1
    by_cases h2 : Op.bytesLess b.f0.f0.toList a.f0.f0.toList = true
    · rw [if_pos h2]
      rw [h1', h2] at tri
      have h3 : (a.f0.f0.toList == b.f0.f0.toList) = false := by simpa using tri
      rw [h3, h1']
      simp
    · rw [if_neg h2]
      have h2' : Op.bytesLess b.f0.f0.toList a.f0.f0.toList = false := by simpa using h2
      rw [h1', h2'] at tri
      have h3 : (a.f0.f0.toList == b.f0.f0.toList) = true := by simpa using tri
      rw [h3, h1']
      by_cases h4 : b.f0.f1 < a.f0.f1 ∨ a.f0.f1 = b.f0.f1 ∧ b.f0.f2 < a.f0.f2
      · rw [if_pos h4]
        exact ⟨fun _ => .inr ⟨rfl, h4⟩, fun _ => by omega⟩
      · rw [if_neg h4]
        constructor
        · intro h
          split at h <;> omega
        · rintro (h | ⟨_, h⟩)
          · cases h
          · exact absurd h h4
theorem sameU_eq {a b : PC.S44} (h : sameU a b = true) : a.f0.f0.toList = b.f0.f0.toList := by simpa [sameU] using h
theorem R_irrefl (a : PC.S44) : ¬ R a a := by
  rw [R_iff]
  rintro (h | ⟨_, h⟩)
  · rw [less_irrefl] at h; cases h
  · omega
theorem R_trans {a b c : PC.S44} (h1 : R a b) (h2 : R b c) : R a c := by
  rw [R_iff] at *
  rcases h1 with h1 | ⟨u1, h1⟩
  · rcases h2 with h2 | ⟨u2, h2⟩
    · exact .inl (less_trans _ _ _ h1 h2)
    · rw [← sameU_eq u2]; exact .inl h1
  · rcases h2 with h2 | ⟨u2, h2⟩
    · rw [sameU_eq u1]; exact .inl h2
    · refine .inr ⟨by rw [← sameU_cong u2]; exact u1, by omega⟩
theorem R_asymm {a b : PC.S44} (h1 : R a b) (h2 : R b a) : False := R_irrefl a (R_trans h1 h2)
/-- Between two entries of a user all are that user's. -/
theorem R_between {a b c : PC.S44} (h1 : R a b) (h2 : R b c) (hu : sameU a c = true) : sameU b c = true := by
  rw [R_iff] at h1 h2
  rcases h2 with h2 | ⟨u2, _⟩
  · rcases h1 with h1 | ⟨u1, _⟩
    · have := less_trans _ _ _ h1 h2
      rw [sameU_eq hu, less_irrefl] at this
      cases this
    · rw [← sameU_eq u1, sameU_eq hu, less_irrefl] at h2
      cases h2
  · exact u2
theorem R_seq {a b : PC.S44} (h : R a b) (hu : sameU a b = true) : b.f0.f1 ≤ a.f0.f1 := by
  rw [R_iff] at h
  rcases h with h | ⟨_, h⟩
  · rw [sameU_eq hu, less_irrefl] at h; cases h
  · omega
theorem pw_of_rises : ∀ l : List PC.S44, risesB l = true → l.Pairwise R
  | [], _ => .nil
  | [a], _ => by simp
  | a :: b :: t, h => by
    simp only [risesB, Bool.and_eq_true, decide_eq_true_eq] at h
    have ih := pw_of_rises (b :: t) h.2
    refine List.Pairwise.cons (fun y hy => ?_) ih
    rcases List.mem_cons.1 hy with rfl | hy
    · exact h.1
    · exact R_trans h.1 ((List.pairwise_cons.1 ih).1 y hy)
theorem rises_of_pw : ∀ l : List PC.S44, l.Pairwise R → risesB l = true
  | [], _ => rfl
  | [a], _ => rfl
  | a :: b :: t, h => by
    obtain ⟨h1, h2⟩ := List.pairwise_cons.1 h
    simp only [risesB, Bool.and_eq_true, decide_eq_true_eq]
    exact ⟨h1 b (by simp), rises_of_pw (b :: t) h2⟩
/-- Two rows that rise and hold the same entries are one. -/
theorem pw_ext : ∀ l m : List PC.S44, l.Pairwise R → m.Pairwise R → (∀ x, x ∈ l ↔ x ∈ m) → l = m
  | [], [], _, _, _ => rfl
  | [], b :: m, _, _, h => by have := (h b).2 (by simp); cases this
  | a :: l, [], _, _, h => by have := (h a).1 (by simp); cases this
  | a :: l, b :: m, hl, hm, h => by
    obtain ⟨l1, l2⟩ := List.pairwise_cons.1 hl
    obtain ⟨m1, m2⟩ := List.pairwise_cons.1 hm
    have hab : a = b := by
      rcases List.mem_cons.1 ((h a).1 (by simp)) with e | h1
      · exact e
      · rcases List.mem_cons.1 ((h b).2 (by simp)) with e | h2
        · exact e.symm
        · exact absurd (l1 b h2) (fun q => R_asymm q (m1 a h1))
    subst hab
    congr 1
    refine pw_ext l m l2 m2 (fun x => ⟨fun hx => ?_, fun hx => ?_⟩)
    · rcases List.mem_cons.1 ((h x).1 (List.mem_cons_of_mem _ hx)) with rfl | h1
      · exact absurd (l1 _ hx) (R_irrefl _)
      · exact h1
    · rcases List.mem_cons.1 ((h x).2 (List.mem_cons_of_mem _ hx)) with rfl | h1
      · exact absurd (m1 _ hx) (R_irrefl _)
      · exact h1

/-! ### users in a row that rises -/
theorem rest_users {x : PC.S44} {t : List PC.S44} (h : (x :: t).Pairwise R) : ∀ y ∈ t.dropWhile (fun y => sameU y x), sameU y x = false := by
  obtain ⟨h1, h2⟩ := List.pairwise_cons.1 h
  intro y hy
  cases hd : t.dropWhile (fun y => sameU y x) with
  | nil => rw [hd] at hy; cases hy
  | cons z r =>
    have hz : sameU z x = false := by
      have := List.head?_dropWhile_not (fun y => sameU y x) t
      rw [hd] at this
      simpa using this
    have hsub : (z :: r).Sublist t := by rw [← hd]; exact List.dropWhile_sublist _
    rw [hd] at hy
    rcases List.mem_cons.1 hy with rfl | hy
    · exact hz
    · rw [← Bool.not_eq_true]
      intro hyx
      have hzt : z ∈ t := hsub.subset (by simp)
      have hzy : R z y := (List.pairwise_cons.1 (h2.sublist hsub)).1 y hy
      have := R_between (h1 z hzt) hzy (sameU_symm hyx)
      rw [sameU_cong hyx] at this
      rw [hz] at this
      cases this
theorem group_filter : ∀ (n : Nat) (l : List PC.S44), l.length ≤ n → l.Pairwise R → ∀ g ∈ groups l, ∀ x ∈ g, g = l.filter (fun y => sameU y x)
  | _, [], _, _, g, hg, _, _ => by simp [groups] at hg
  | 0, _ :: _, h, _, _, _, _, _ => by simp at h
  | n + 1, a :: t, hn, hp, g, hg, x, hx => by
    have hru := rest_users hp
    have htw : ∀ y ∈ t.takeWhile (fun y => sameU y a), sameU y a = true := fun y hy => mem_tw (fun y => sameU y a) _ _ hy
    have ht : t = t.takeWhile (fun y => sameU y a) ++ t.dropWhile (fun y => sameU y a) := (List.takeWhile_append_dropWhile).symm
    obtain ⟨h1, h2⟩ := List.pairwise_cons.1 hp
    obtain ⟨p, hpq⟩ : ∃ p, t.takeWhile (fun y => sameU y a) = p := ⟨_, rfl⟩
    obtain ⟨r, hrq⟩ : ∃ r, t.dropWhile (fun y => sameU y a) = r := ⟨_, rfl⟩
    rw [hpq, hrq] at ht
    rw [hpq] at htw
    rw [hrq] at hru
    rw [groups_span, hpq, hrq] at hg
    have hall : ∀ y ∈ a :: p, sameU y a = true := fun y hy => by
      rcases List.mem_cons.1 hy with rfl | h
      · exact sameU_refl _
      · exact htw y h
    rcases List.mem_cons.1 hg with rfl | hg
    · have hxa := hall x hx
      have e : (fun y => sameU y x) = (fun y => sameU y a) := by funext y; exact sameU_cong hxa
      rw [e, ht, ← List.cons_append, List.filter_append, List.filter_eq_self.2 hall, List.filter_eq_nil_iff.2 (fun y hy => by rw [hru y hy]; decide), List.append_nil]
    · have hlr : r.length ≤ n := by
        have := congrArg List.length ht
        simp at this hn
        omega
      have hpr : r.Pairwise R := by rw [ht] at h2; exact (List.pairwise_append.1 h2).2.1
      have ih := group_filter n r hlr hpr g hg x hx
      have hxr : x ∈ r := by
        have := groups_flat r
        rw [← this]
        exact List.mem_flatten.2 ⟨g, hg, hx⟩
      have hxa := hru x hxr
      rw [ht, ← List.cons_append, List.filter_append, ← ih]
      have : (a :: p).filter (fun y => sameU y x) = [] := by
        rw [List.filter_eq_nil_iff]
        intro y hy
        rw [Bool.not_eq_true, sameU_comm, sameU_cong (hall y hy)]
        exact hxa
      rw [this, List.nil_append]
theorem stayU_sub (snaps : List Int) (bottom : Bool) (g : List PC.S44) (hv : ∀ y ∈ g, okN y) : (stayU snaps bottom g).Sublist g := by
  have hk : ∀ c : List PC.S44, (keepP c).Sublist c := by
    intro c
    induction c with
    | nil => exact List.Sublist.refl _
    | cons x t ih =>
      rw [keepP_cons]
      split
      · exact ih.cons_cons x
      · exact List.nil_sublist _
  have hc : ∀ (t : List PC.S44) (b : Int), (cntT snaps b t).Sublist t := by
    intro t
    induction t with
    | nil => intro b; exact List.Sublist.refl _
    | cons y t ih =>
      intro b
      unfold cntT
      split
      · split
        · exact (ih _).cons_cons y
        · exact (ih _).cons y
      · exact (ih _).cons y
  have hcc : (countedL snaps g).Sublist g := by
    cases g with
    | nil => exact List.Sublist.refl _
    | cons x t =>
      rw [countedL_cons snaps x t (hv x (by simp)) (fun y hy => hv y (by simp [hy]))]
      exact (hc t _).cons_cons x
  unfold stayU
  split
  · rw [settledL_keepP]
    exact (hk _).trans hcc
  · exact hcc
theorem flatMap_sub {α β : Type} (f g : α → List β) : ∀ l : List α, (∀ x ∈ l, (f x).Sublist (g x)) → (l.map f).flatten.Sublist (l.map g).flatten
  | [], _ => List.Sublist.refl _
  | x :: t, h => by
    simp only [List.map_cons, List.flatten_cons]
    exact (h x (by simp)).append (flatMap_sub f g t (fun y hy => h y (by simp [hy])))
theorem group_ok {l : List PC.S44} (hv : ∀ y ∈ l, okN y) : ∀ g ∈ groups l, ∀ y ∈ g, okN y := fun g hg y hy => hv y (by
  rw [← groups_flat l]
  exact List.mem_flatten.2 ⟨g, hg, hy⟩)
theorem dropL_sub (snaps : List Int) (bottom : Bool) (l : List PC.S44) (hv : ∀ y ∈ l, okN y) : (dropL snaps bottom l).Sublist l := by
  have h := flatMap_sub (stayU snaps bottom) id (groups l) (fun g hg => stayU_sub snaps bottom g (group_ok hv g hg))
  rw [List.map_id, groups_flat] at h
  exact h
/-- What stays, user by user. -/
theorem mem_dropL (snaps : List Int) (bottom : Bool) (l : List PC.S44) (hv : ∀ y ∈ l, okN y) (hp : l.Pairwise R) (x : PC.S44) : x ∈ dropL snaps bottom l ↔ x ∈ stayU snaps bottom (l.filter (fun y => sameU y x)) := by
  constructor
  · intro h
    obtain ⟨g', hg', hx⟩ := List.mem_flatten.1 h
    obtain ⟨g, hg, rfl⟩ := List.mem_map.1 hg'
    have hxg := (stayU_sub snaps bottom g (group_ok hv g hg)).subset hx
    rw [← group_filter l.length l (Nat.le_refl _) hp g hg x hxg]
    exact hx
  · intro h
    have hxf := (stayU_sub snaps bottom _ (fun y hy => hv y (List.mem_filter.1 hy).1)).subset h
    have hxl := (List.mem_filter.1 hxf).1
    rw [← groups_flat l] at hxl
    obtain ⟨g, hg, hx⟩ := List.mem_flatten.1 hxl
    rw [← group_filter l.length l (Nat.le_refl _) hp g hg x hx] at h
    exact List.mem_flatten.2 ⟨_, List.mem_map.2 ⟨g, hg, rfl⟩, h⟩

end Go.Proofs.Ytehoojmalhloeaa.CM
