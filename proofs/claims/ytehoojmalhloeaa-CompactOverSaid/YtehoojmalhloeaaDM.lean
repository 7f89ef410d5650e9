/- What stays, asked again; without numbers; with more numbers. No program in sight. -/
import Derived.Test.YtehoojmalhloeaaDL
namespace Go.Proofs.Ytehoojmalhloeaa.CM
open Go.RowKit Go.Proofs.YtehoojmalhloeaaW.PrintWords
set_option linter.unusedVariables false
set_option linter.unusedSimpArgs false

/-! ### asked again -/
/-- All these count, from a bound down. -/
def allK (snaps : List Int) : Int → List PC.S44 → Prop
  | _, [] => True
  | b, y :: t => y.f0.f1 ≤ b ∧ snaps.any (within y.f0.f1 b) = true ∧ allK snaps (y.f0.f1 - 1) t
theorem within_mono {lo b b' : Int} {snaps : List Int} (hb : b ≤ b') (h : snaps.any (within lo b) = true) : snaps.any (within lo b') = true := by
  obtain ⟨s, hs, hw⟩ := List.any_eq_true.1 h
  refine List.any_eq_true.2 ⟨s, hs, ?_⟩
  simp only [within, Bool.and_eq_true, decide_eq_true_eq] at hw ⊢
  omega
theorem allK_mono {snaps : List Int} : ∀ {p : List PC.S44} {b b' : Int}, b ≤ b' → allK snaps b p → allK snaps b' p
  | [], _, _, _, _ => trivial
  | y :: t, b, b', hb, h => ⟨Int.le_trans h.1 hb, within_mono hb h.2.1, h.2.2⟩
theorem allK_sub {snaps : List Int} : ∀ {p q : List PC.S44} {b : Int}, q.Sublist p → allK snaps b p → allK snaps b q
  | _, _, _, .slnil, _ => trivial
  | _, _, b, .cons y h, hk => allK_mono (by have := hk.1; omega) (allK_sub h hk.2.2)
  | _, _, b, .cons_cons y h, hk => ⟨hk.1, hk.2.1, allK_sub h hk.2.2⟩
theorem cntT_allK {snaps : List Int} : ∀ {p : List PC.S44} {b : Int}, allK snaps b p → cntT snaps b p = p
  | [], _, _ => rfl
  | y :: t, b, h => by
    unfold cntT
    rw [if_pos h.1, if_pos h.2.1, cntT_allK h.2.2]
theorem allK_cntT (snaps : List Int) : ∀ (t : List PC.S44) (b : Int), allK snaps b (cntT snaps b t)
  | [], _ => trivial
  | y :: t, b => by
    unfold cntT
    split
    · rename_i hle
      split
      · rename_i ha
        exact ⟨hle, ha, allK_cntT snaps t _⟩
      · exact allK_mono (by omega) (allK_cntT snaps t (y.f0.f1 - 1))
    · exact allK_cntT snaps t b
theorem keepP_any : ∀ c : List PC.S44, (keepP c).any (fun y => y.f0.f2 == 1) = c.any (fun y => y.f0.f2 == 1)
  | [] => rfl
  | x :: t => by
    rw [keepP_cons]
    by_cases h : (x :: t).any (fun y => y.f0.f2 == 1) = true
    · rw [if_pos h, List.any_cons, keepP_any t]
      rfl
    · rw [if_neg h]
      rw [Bool.not_eq_true] at h
      rw [h]
      rfl
theorem keepP_twice : ∀ c : List PC.S44, keepP (keepP c) = keepP c
  | [] => rfl
  | x :: t => by
    rw [keepP_cons]
    by_cases h : (x :: t).any (fun y => y.f0.f2 == 1) = true
    · rw [if_pos h, keepP_cons, if_pos (by rw [List.any_cons, keepP_any t]; exact h), keepP_twice t]
    · rw [if_neg h]
      rfl
theorem stayU_twice (snaps : List Int) (bottom : Bool) (g : List PC.S44) (hv : ∀ y ∈ g, okN y) : stayU snaps bottom (stayU snaps bottom g) = stayU snaps bottom g := by
  cases g with
  | nil => cases bottom <;> rfl
  | cons x t =>
    have hx := hv x (by simp)
    have ht : ∀ y ∈ t, okN y := fun y hy => hv y (by simp [hy])
    obtain ⟨c, hc⟩ : ∃ c, cntT snaps (x.f0.f1 - 1) t = c := ⟨_, rfl⟩
    have hk : allK snaps (x.f0.f1 - 1) c := hc ▸ allK_cntT snaps t _
    have hct : ∀ y ∈ c, okN y := fun y hy => by
      have h1 := (stayU_sub snaps false (x :: t) hv)
      unfold stayU at h1
      rw [if_neg (by decide), countedL_cons snaps x t hx ht, hc] at h1
      exact hv y (h1.subset (List.mem_cons_of_mem _ hy))
    have again : ∀ q : List PC.S44, q.Sublist c → countedL snaps (x :: q) = x :: q := fun q hq => by
      rw [countedL_cons snaps x q hx (fun y hy => hct y (hq.subset hy)), cntT_allK (allK_sub hq hk)]
    unfold stayU
    rw [countedL_cons snaps x t hx ht, hc]
    cases bottom with
    | false =>
      simp only [Bool.false_eq_true, if_false]
      exact again c (List.Sublist.refl _)
    | true =>
      simp only [if_true, settledL_keepP]
      rw [keepP_cons]
      by_cases h : (x :: c).any (fun y => y.f0.f2 == 1) = true
      · rw [if_pos h, again _ (keepP_sub c)]
        have := keepP_twice (x :: c)
        rw [keepP_cons x c, if_pos h] at this
        exact this
      · rw [if_neg h]
        rfl
theorem dropL_twice (snaps : List Int) (bottom : Bool) (l : List PC.S44) (hv : ∀ y ∈ l, okN y) (hp : l.Pairwise R) : dropL snaps bottom (dropL snaps bottom l) = dropL snaps bottom l := by
  have hsub := dropL_sub snaps bottom l hv
  have hva : ∀ y ∈ dropL snaps bottom l, okN y := fun y hy => hv y (hsub.subset hy)
  have hpa := hp.sublist hsub
  have hsub2 := dropL_sub snaps bottom _ hva
  refine pw_ext _ _ (hpa.sublist hsub2) hpa (fun x => ⟨fun h => hsub2.subset h, fun h => ?_⟩)
  have hF : (dropL snaps bottom l).filter (fun y => sameU y x) = stayU snaps bottom (l.filter (fun y => sameU y x)) := by
    refine pw_ext _ _ (hpa.filter _) ((hp.filter _).sublist (stayU_sub snaps bottom _ (fun y hy => hv y (List.mem_filter.1 hy).1))) (fun y => ?_)
    rw [List.mem_filter]
    constructor
    · rintro ⟨hy, hu⟩
      have := (mem_dropL snaps bottom l hv hp y).1 hy
      rw [filter_user l x y hu] at this
      exact this
    · intro hy
      have hyf := (stayU_sub snaps bottom _ (fun y hy => hv y (List.mem_filter.1 hy).1)).subset hy
      have hu := (List.mem_filter.1 hyf).2
      exact ⟨(mem_dropL snaps bottom l hv hp y).2 (by rw [filter_user l x y hu]; exact hy), hu⟩
  rw [mem_dropL snaps bottom _ hva hpa, hF, stayU_twice snaps bottom _ (fun y hy => hv y (List.mem_filter.1 hy).1)]
  exact (mem_dropL snaps bottom l hv hp x).1 h

/-! ### without numbers -/
theorem cntT_none : ∀ (t : List PC.S44) (b : Int), cntT [] b t = []
  | [], _ => rfl
  | y :: t, b => by
    unfold cntT
    split
    · rw [if_neg (by simp)]
      exact cntT_none t _
    · exact cntT_none t b
theorem stayU_one (bottom : Bool) (g : List PC.S44) (hv : ∀ y ∈ g, okN y) (x y : PC.S44) (hx : x ∈ stayU [] bottom g) (hy : y ∈ stayU [] bottom g) : x = y := by
  cases g with
  | nil => cases bottom <;> cases hx
  | cons a t =>
    have e := countedL_cons [] a t (hv a (by simp)) (fun y hy => hv y (by simp [hy]))
    rw [cntT_none] at e
    have key : ∀ z, z ∈ stayU [] bottom (a :: t) → z = a := fun z hz => by
      unfold stayU at hz
      rw [e] at hz
      cases bottom with
      | false => simpa using hz
      | true =>
        rw [if_pos rfl, settledL_keepP] at hz
        have := (keepP_sub [a]).subset hz
        simpa using this
    rw [key x hx, key y hy]
theorem dropL_one (bottom : Bool) (l : List PC.S44) (hv : ∀ y ∈ l, okN y) (hp : l.Pairwise R) : (dropL [] bottom l).Pairwise (fun x y => sameU x y = false) := by
  have hpd := hp.sublist (dropL_sub [] bottom l hv)
  refine List.Pairwise.imp_of_mem (fun {x y} hx hy hR => ?_) hpd
  rw [← Bool.not_eq_true]
  intro hu
  have h1 := (mem_dropL [] bottom l hv hp x).1 hx
  have h2 := (mem_dropL [] bottom l hv hp y).1 hy
  rw [← filter_user l y x hu] at h2
  have := stayU_one bottom _ (fun y hy => hv y (List.mem_filter.1 hy).1) x y h1 h2
  subst this
  exact R_irrefl x hR

/-! ### with more numbers -/
theorem any_mono {snaps more : List Int} (h : ∀ s ∈ snaps, s ∈ more) (p : Int → Bool) (ha : snaps.any p = true) : more.any p = true := by
  obtain ⟨s, hs, hp⟩ := List.any_eq_true.1 ha
  exact List.any_eq_true.2 ⟨s, h s hs, hp⟩
theorem cntT_more {snaps more : List Int} (h : ∀ s ∈ snaps, s ∈ more) : ∀ (t : List PC.S44) (b : Int), (cntT snaps b t).Sublist (cntT more b t)
  | [], _ => List.Sublist.refl _
  | y :: t, b => by
    unfold cntT
    by_cases hle : y.f0.f1 ≤ b
    · rw [if_pos hle, if_pos hle]
      have ih := cntT_more h t (y.f0.f1 - 1)
      by_cases ha : snaps.any (within y.f0.f1 b) = true
      · rw [if_pos ha, if_pos (any_mono h _ ha)]
        exact ih.cons_cons y
      · rw [if_neg ha]
        split
        · exact ih.cons y
        · exact ih
    · rw [if_neg hle, if_neg hle]
      exact cntT_more h t b
theorem keepP_more : ∀ {c d : List PC.S44}, c.Sublist d → (keepP c).Sublist (keepP d)
  | _, _, .slnil => List.Sublist.refl _
  | c, _, .cons (l₂ := d) y h => by
    have ih := keepP_more h
    rw [keepP_cons]
    split
    · exact ih.cons y
    · rename_i hn
      have : c.any (fun y => y.f0.f2 == 1) = false := by
        rw [← Bool.not_eq_true]
        intro hc
        obtain ⟨x, hx, hp⟩ := List.any_eq_true.1 hc
        exact hn (List.any_eq_true.2 ⟨x, List.mem_cons_of_mem _ (h.subset hx), hp⟩)
      rw [keepP_none c this]
      exact List.nil_sublist _
  | _, _, .cons_cons (l₁ := c) (l₂ := d) y h => by
    have ih := keepP_more h
    rw [keepP_cons, keepP_cons]
    by_cases hc : (y :: c).any (fun y => y.f0.f2 == 1) = true
    · have hd : (y :: d).any (fun y => y.f0.f2 == 1) = true := by
        obtain ⟨x, hx, hp⟩ := List.any_eq_true.1 hc
        exact List.any_eq_true.2 ⟨x, (h.cons_cons y).subset hx, hp⟩
      rw [if_pos hc, if_pos hd]
      exact ih.cons_cons y
    · rw [if_neg hc]
      exact List.nil_sublist _
theorem counted_more {snaps more : List Int} (h : ∀ s ∈ snaps, s ∈ more) (g : List PC.S44) (hv : ∀ y ∈ g, okN y) : (countedL snaps g).Sublist (countedL more g) := by
  cases g with
  | nil => exact List.Sublist.refl _
  | cons x t =>
    have hx := hv x (by simp)
    have ht : ∀ y ∈ t, okN y := fun y hy => hv y (by simp [hy])
    rw [countedL_cons snaps x t hx ht, countedL_cons more x t hx ht]
    exact (cntT_more h t _).cons_cons x
theorem dropL_more {snaps more : List Int} (h : ∀ s ∈ snaps, s ∈ more) (bottom : Bool) (l : List PC.S44) (hv : ∀ y ∈ l, okN y) : (dropL snaps bottom l).Sublist (dropL more bottom l) := by
  refine flatMap_sub _ _ (groups l) (fun g hg => ?_)
  have hc := counted_more h g (group_ok hv g hg)
  unfold stayU
  cases bottom with
  | false => simpa using hc
  | true =>
    rw [if_pos rfl, if_pos rfl, settledL_keepP, settledL_keepP]
    exact keepP_more hc
theorem dropL_above (snaps : List Int) (bottom : Bool) (l : List PC.S44) : (dropL snaps bottom l).Sublist (dropL snaps false l) := by
  refine flatMap_sub _ _ (groups l) (fun g hg => ?_)
  unfold stayU
  cases bottom with
  | false => exact List.Sublist.refl _
  | true =>
    rw [if_pos rfl, if_neg (by decide), settledL_keepP]
    exact keepP_sub _

end Go.Proofs.Ytehoojmalhloeaa.CM
