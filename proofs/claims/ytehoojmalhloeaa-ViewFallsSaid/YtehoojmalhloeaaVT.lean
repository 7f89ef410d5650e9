/- view: which entry counts, told by the lists alone; one more entry above all. No program in sight. -/
import Derived.Test.YtehoojmalhloeaaVO
namespace Go.Proofs.Ytehoojmalhloeaa.CM
open Go.RowKit Go.Proofs.YtehoojmalhloeaaW.PrintWords
set_option linter.unusedVariables false
set_option linter.unusedSimpArgs false
set_option maxRecDepth 100000

/-- Every entry comes. -/
theorem comes (s : Sh) (j a : Nat) : ∀ P, P ≤ s.N → a < ats s P j → ∃ p, p < P ∧ who s p = some j ∧ ats s p j = a
  | 0, _, h => absurd h (Nat.not_lt_zero _)
  | P + 1, hP, h => by
    obtain ⟨i, hi⟩ := who_lt (show P < s.N by omega)
    rw [ats_some hi] at h
    by_cases e : j = i
    · subst e
      rw [upd_same] at h
      by_cases h2 : a < ats s P j
      · obtain ⟨p, h3, h4⟩ := comes s j a P (by omega) h2
        exact ⟨p, by omega, h4⟩
      · exact ⟨P, by omega, hi, by omega⟩
    · rw [upd_ne e] at h
      obtain ⟨p, h3, h4⟩ := comes s j a P (by omega) h
      exact ⟨p, by omega, h4⟩
/-- The entry that counts for a user: the first in order, of those of its key the first list's. -/
structure Best (D : List (List PC.S44)) (q : Int) (u : ByteArray) (i : Nat) (z : PC.S44) : Prop where
  mem : z ∈ D.getD i []
  user : z.f0.f0.toList = u.toList
  vis : z.f0.f1 ≤ q
  min : ∀ j x, x ∈ D.getD j [] → x.f0.f0.toList = u.toList → x.f0.f1 ≤ q → ¬ R x z ∧ (E x z → i ≤ j)
theorem best_uniq {D : List (List PC.S44)} (hr : ∀ j, (D.getD j []).Pairwise R) {q : Int} {u : ByteArray} {i k : Nat} {z y : PC.S44} (h : Best D q u i z) (g : Best D q u k y) : z = y := by
  have h1 := h.min k y g.mem g.user g.vis
  have h2 := g.min i z h.mem h.user h.vis
  have hE : E y z := by
    rcases R_total y z with e | e | e
    · exact absurd e h1.1
    · exact absurd e h2.1
    · exact e
  have hik : i = k := by have := h1.2 hE; have := h2.2 (E_symm hE); omega
  subst hik
  obtain ⟨a, ha, ea⟩ := List.getElem_of_mem h.mem
  obtain ⟨b, hb, eb⟩ := List.getElem_of_mem g.mem
  rcases Nat.lt_trichotomy a b with hab | hab | hab
  · have := List.pairwise_iff_getElem.1 (hr i) a b ha hb hab
    rw [ea, eb] at this
    exact absurd this h2.1
  · subst hab; rw [← ea, ← eb]
  · have := List.pairwise_iff_getElem.1 (hr i) b a hb ha hab
    rw [ea, eb] at this
    exact absurd this h1.1
theorem fv_best {s : Sh} (hr : Ris s) {q : Int} {u : ByteArray} {z : PC.S44} (h : fv q u (upto s s.N) = some z) : ∃ i, Best s.L q u i z := by
  unfold fv at h
  obtain ⟨hp, p, hpl, hz, hmin⟩ := List.find?_eq_some_iff_getElem.1 h
  rw [upto_len] at hpl
  rw [Bool.and_eq_true, beq_iff_eq, decide_eq_true_eq] at hp
  obtain ⟨i, hi⟩ := who_lt hpl
  have ei : z = s.e i (ats s p i) := by
    rw [← hz]
    show (upto s s.N)[p] = _
    simp only [upto, List.getElem_map, List.getElem_range]
    exact itm_some hi
  have hw := who_some hi
  refine ⟨i, ⟨?_, hp.1, hp.2, fun j x hx hu hv => ?_⟩⟩
  · rw [ei]
    have : (s.l i).getD (ats s p i) PC.z44 ∈ s.l i := by
      rw [List.getD_eq_getElem?_getD, List.getElem?_eq_getElem hw.2.1]
      exact List.getElem_mem _
    exact this
  · obtain ⟨a, ha, ea⟩ := List.getElem_of_mem hx
    have haj : a < ats s s.N j := by rw [ats_end]; exact ha
    obtain ⟨p', h1, h2, h3⟩ := comes s j a s.N (Nat.le_refl _) haj
    have ex : x = s.e j (ats s p' j) := by
      rw [h3]
      unfold Sh.e
      rw [List.getD_eq_getElem?_getD, List.getElem?_eq_getElem ha, ← ea]
      rfl
    rcases Nat.lt_trichotomy p p' with hpp | hpp | hpp
    · have := itm_lt hr hi h2 hpp
      rw [← ei, ← ex] at this
      rcases this with t | ⟨t, t2⟩
      · exact ⟨fun g => R_asymm t g, fun g => absurd (R_E t g) (R_irrefl _)⟩
      · exact ⟨fun g => absurd (R_E g (E_symm (E_symm t))) (fun c => R_irrefl _ (R_E c (E_symm (E_refl _)))), fun _ => by omega⟩
    · subst hpp
      rw [hi] at h2
      injection h2 with h2
      subst h2
      rw [ei, ex]
      exact ⟨R_irrefl _, fun _ => Nat.le_refl _⟩
    · exfalso
      have := hmin p' hpp
      have e2 : (upto s s.N)[p']'(by rw [upto_len]; omega) = x := by
        simp only [upto, List.getElem_map, List.getElem_range]
        rw [itm_some h2, ex]
      rw [e2] at this
      simp [hu, hv] at this
theorem fv_of_best {s : Sh} (hr : Ris s) {q : Int} {u : ByteArray} {i : Nat} {z : PC.S44} (h : Best s.L q u i z) : fv q u (upto s s.N) = some z := by
  have hris : ∀ j, (s.L.getD j []).Pairwise R := fun j => by
    by_cases hj : j < s.L.length
    · exact hr j hj
    · rw [List.getD_eq_getElem?_getD, List.getElem?_eq_none (by omega)]; exact List.Pairwise.nil
  cases hf : fv q u (upto s s.N) with
  | some y =>
    obtain ⟨k, hk⟩ := fv_best hr hf
    rw [best_uniq hris h hk]
  | none =>
    exfalso
    have hm : z ∈ upto s s.N := by
      refine (upto_perm s).mem_iff.2 (List.mem_flatten.2 ⟨s.L.getD i [], ?_, h.mem⟩)
      by_cases hi : i < s.L.length
      · rw [List.getD_eq_getElem?_getD, List.getElem?_eq_getElem hi]; exact List.getElem_mem _
      · have := h.mem
        rw [List.getD_eq_getElem?_getD, List.getElem?_eq_none (by omega)] at this
        cases this
    have := List.find?_eq_none.1 hf z hm
    rw [h.user] at this
    simp [h.vis] at this
theorem fv_none {s : Sh} {q : Int} {u : ByteArray} : fv q u (upto s s.N) = none ↔ ∀ l ∈ s.L, ∀ x ∈ l, ¬ (x.f0.f0.toList = u.toList ∧ x.f0.f1 ≤ q) := by
  unfold fv
  rw [List.find?_eq_none]
  constructor
  · intro h l hl x hx ⟨h1, h2⟩
    have := h x ((upto_perm s).mem_iff.2 (List.mem_flatten.2 ⟨l, hl, hx⟩))
    rw [h1] at this
    simp [h2] at this
  · intro h x hx hb
    rw [Bool.and_eq_true, beq_iff_eq, decide_eq_true_eq] at hb
    obtain ⟨l, hl, hx⟩ := List.mem_flatten.1 ((upto_perm s).mem_iff.1 hx)
    exact h l hl x hx hb

/-! ### lists whose keys rise are told by what is found in them -/
theorem kp_mem {L : List PC.S76} (h : KP L) {y : PC.S76} : y ∈ L ↔ L.find? (fun x => x.f0.toList == y.f0.toList) = some y := by
  constructor
  · intro hy
    obtain ⟨k, hk⟩ := List.getElem?_of_mem hy
    have h1 := find_rnk h y.f0.toList
    rw [rnk_at h hk, hk] at h1
    rw [h1]
    show (if (y.f0.toList == y.f0.toList) = true then some y else none) = _
    rw [if_pos (by simp)]
  · exact List.mem_of_find?_eq_some
theorem kp_one : ∀ l m : List PC.S76, KP l → KP m → (∀ x, x ∈ l ↔ x ∈ m) → l = m
  | [], [], _, _, _ => rfl
  | [], b :: m, _, _, h => by have := (h b).2 (by simp); cases this
  | a :: l, [], _, _, h => by have := (h a).1 (by simp); cases this
  | a :: l, b :: m, hl, hm, h => by
    obtain ⟨l1, l2⟩ := List.pairwise_cons.1 hl
    obtain ⟨m1, m2⟩ := List.pairwise_cons.1 hm
    have hab : a = b := by
      rcases List.mem_cons.1 ((h a).1 (by simp)) with e | h1
      · exact e
      · rcases List.mem_cons.1 ((h b).2 (by simp)) with e | h2
        · exact e.symm
        · exact (lu_as (l1 b h2) (m1 a h1)).elim
    subst hab
    congr 1
    refine kp_one l m l2 m2 (fun x => ⟨fun hx => ?_, fun hx => ?_⟩)
    · rcases List.mem_cons.1 ((h x).1 (List.mem_cons_of_mem _ hx)) with rfl | h1
      · exact absurd (l1 _ hx) (lu_irr _)
      · exact h1
    · rcases List.mem_cons.1 ((h x).2 (List.mem_cons_of_mem _ hx)) with rfl | h1
      · exact absurd (m1 _ hx) (lu_irr _)
      · exact h1
theorem kp_ext {L M : List PC.S76} (hL : KP L) (hM : KP M) (h : ∀ u : ByteArray, L.find? (fun y => y.f0.toList == u.toList) = M.find? (fun y => y.f0.toList == u.toList)) : L = M :=
  kp_one L M hL hM (fun x => by rw [kp_mem hL, kp_mem hM, h x.f0])
theorem seen_find {s : Sh} (hr : Ris s) (q : Int) (u : ByteArray) : (seen s q).find? (fun y => y.f0.toList == u.toList) = (fv q u (upto s s.N)).bind (fun z => if z.f0.f2 = 1 then some (itemO z) else none) := find_vs q u _ (su_of hr)
def nou (u : ByteArray) (L : List PC.S76) : List PC.S76 := L.filter (fun y => !(y.f0.toList == u.toList))
theorem nou_pw {u : ByteArray} {L : List PC.S76} (h : KP L) : KP (nou u L) := h.sublist List.filter_sublist
theorem nou_find {u v : ByteArray} {L : List PC.S76} : (nou u L).find? (fun y => y.f0.toList == v.toList) = if v.toList = u.toList then none else L.find? (fun y => y.f0.toList == v.toList) := by
  unfold nou
  by_cases h : v.toList = u.toList
  · rw [if_pos h, h, find_no]
  · rw [if_neg h, find_fil h]

/-- One more entry, above all numbers. -/
structure Above (e : PC.S44) (q : Int) (D : List (List PC.S44)) (a b : Sh) : Prop where
  ra : Ris a
  rb : Ris b
  la : a.L = D
  lb : b.L = [e] :: D
  eq : e.f0.f1 = q
  no : ∀ l ∈ D, ∀ x ∈ l, x.f0.f1 ≠ q
section
variable {e : PC.S44} {q : Int} {D : List (List PC.S44)} {a b : Sh}
theorem Above.other (h : Above e q D a b) {u : ByteArray} (hu : e.f0.f0.toList ≠ u.toList) : fv q u (upto b b.N) = fv q u (upto a a.N) := by
  cases hf : fv q u (upto a a.N) with
  | some z =>
    obtain ⟨i, hi⟩ := fv_best h.ra hf
    rw [h.la] at hi
    refine fv_of_best h.rb (i := i + 1) ?_
    rw [h.lb]
    refine ⟨hi.mem, hi.user, hi.vis, fun j x hx hxu hxv => ?_⟩
    cases j with
    | zero =>
      obtain rfl : x = e := by simpa using hx
      exact absurd hxu hu
    | succ j =>
      have := hi.min j x hx hxu hxv
      exact ⟨this.1, fun g => by have := this.2 g; omega⟩
  | none =>
    rw [fv_none, h.la] at hf
    rw [fv_none, h.lb]
    intro l hl x hx
    rcases List.mem_cons.1 hl with rfl | hl
    · obtain rfl : x = e := by simpa using hx
      exact fun g => hu g.1
    · exact hf l hl x hx
theorem Above.own (h : Above e q D a b) : fv q e.f0.f0 (upto b b.N) = some e := by
  refine fv_of_best h.rb (i := 0) ?_
  rw [h.lb]
  refine ⟨by simp, rfl, by rw [h.eq]; exact Int.le_refl _, fun j x hx hxu hxv => ⟨fun g => ?_, fun _ => Nat.zero_le _⟩⟩
  cases j with
  | zero =>
    obtain rfl : x = e := by simpa using hx
    exact R_irrefl _ g
  | succ j =>
    have hx : x ∈ D.getD j [] := hx
    have hl : D.getD j [] ∈ D := by
      by_cases hj : j < D.length
      · rw [List.getD_eq_getElem?_getD, List.getElem?_eq_getElem hj]; exact List.getElem_mem _
      · rw [List.getD_eq_getElem?_getD, List.getElem?_eq_none (by omega)] at hx; cases hx
    have hne := h.no _ hl x hx
    rcases (R_iff x e).1 g with t | ⟨_, t⟩
    · rw [hxu, less_irrefl] at t; cases t
    · rw [h.eq] at t; omega
theorem Above.nous (h : Above e q D a b) : nou e.f0.f0 (seen b q) = nou e.f0.f0 (seen a q) :=
  kp_ext (nou_pw (seen_pw h.rb q)) (nou_pw (seen_pw h.ra q)) (fun u => by
    rw [nou_find, nou_find]
    by_cases hu : u.toList = e.f0.f0.toList
    · rw [if_pos hu, if_pos hu]
    · rw [if_neg hu, if_neg hu, seen_find h.rb, seen_find h.ra, h.other (fun g => hu g.symm)])
theorem Above.gone (h : Above e q D a b) (hk : e.f0.f2 ≠ 1) : seen b q = nou e.f0.f0 (seen a q) :=
  kp_ext (seen_pw h.rb q) (nou_pw (seen_pw h.ra q)) (fun u => by
    rw [nou_find]
    by_cases hu : u.toList = e.f0.f0.toList
    · rw [if_pos hu, seen_find h.rb, bytes_eq hu, h.own]
      exact if_neg hk
    · rw [if_neg hu, seen_find h.rb, seen_find h.ra, h.other (fun g => hu g.symm)])
theorem Above.shown (h : Above e q D a b) (hk : e.f0.f2 = 1) : (seen b q).filter (fun y => y.f0.toList == e.f0.f0.toList) = [itemO e] := by
  have hf := seen_find h.rb q e.f0.f0
  rw [h.own] at hf
  rw [show (some e).bind (fun z : PC.S44 => if z.f0.f2 = 1 then some (itemO z) else none) = some (itemO e) from if_pos hk] at hf
  refine kp_one _ _ ((seen_pw h.rb q).sublist List.filter_sublist) (List.pairwise_singleton _ _) (fun x => ?_)
  rw [List.mem_filter, List.mem_singleton]
  constructor
  · rintro ⟨h1, h2⟩
    have h3 := (kp_mem (seen_pw h.rb q)).1 h1
    have h4 : x.f0 = e.f0.f0 := bytes_eq (by simpa using h2)
    rw [h4, hf] at h3
    injection h3 with h3
    exact h3.symm
  · rintro rfl
    exact ⟨List.mem_of_find?_eq_some hf, by simp [itemO]⟩
end
end Go.Proofs.Ytehoojmalhloeaa.CM
