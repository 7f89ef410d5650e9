/- merge: all entries are the lists' entries; lists of no two like keys. -/
import Derived.Test.YtehoojmalhloeaaNJ
namespace Go.Proofs.Ytehoojmalhloeaa.CM
open Go.RowKit Go.Proofs.YtehoojmalhloeaaW.PrintWords
set_option linter.unusedVariables false
set_option linter.unusedSimpArgs false
set_option maxRecDepth 100000

theorem pw_one : ∀ l m : List PC.S44, l.Pairwise R → m.Pairwise R → (∀ x, x ∈ l ↔ x ∈ m) → l = m
  | [], [], _, _, _ => rfl
  | [], b :: m, _, _, h => by have := (h b).2 (by simp); cases this
  | a :: l, [], _, _, h => by have := (h a).1 (by simp); cases this
  | a :: l, b :: m, hl, hm, h => by
    obtain ⟨l1, l2⟩ := List.pairwise_cons.1 hl
    obtain ⟨m1, m2⟩ := List.pairwise_cons.1 hm
    have hab : a = b := by
      rcases List.mem_cons.1 ((h a).1 (by simp)) with e | h1
      · exact e
      · rcases List.mem_cons.1 ((h b).2 (by simp)) with e | h2
        · exact e.symm
        · exact absurd (l1 b h2) (fun q => R_asymm q (m1 a h1))
    subst hab
    congr 1
    refine pw_one l m l2 m2 (fun x => ⟨fun hx => ?_, fun hx => ?_⟩)
    · rcases List.mem_cons.1 ((h x).1 (List.mem_cons_of_mem _ hx)) with rfl | h1
      · exact absurd (l1 _ hx) (R_irrefl _)
      · exact h1
    · rcases List.mem_cons.1 ((h x).2 (List.mem_cons_of_mem _ hx)) with rfl | h1
      · exact absurd (m1 _ hx) (R_irrefl _)
      · exact h1

/-- The first f j entries of each list j. -/
def parts (s : Sh) (f : Nat → Nat) : Nat → List PC.S44
  | 0 => []
  | k + 1 => parts s f k ++ (s.l k).take (f k)
theorem parts_eq {s : Sh} {f g : Nat → Nat} : ∀ k, (∀ j, j < k → f j = g j) → parts s f k = parts s g k
  | 0, _ => rfl
  | k + 1, h => by
    show parts s f k ++ _ = parts s g k ++ _
    rw [parts_eq k (fun j hj => h j (by omega)), h k (by omega)]
theorem parts_upd {s : Sh} {f : Nat → Nat} {i : Nat} (hi : f i < (s.l i).length) : ∀ k, i < k → (parts s (upd f i (f i + 1)) k).Perm (s.e i (f i) :: parts s f k)
  | 0, h => by omega
  | k + 1, h => by
    show (parts s _ k ++ (s.l k).take (upd f i (f i + 1) k)).Perm (_ :: (parts s f k ++ (s.l k).take (f k)))
    by_cases e : i = k
    · subst e
      rw [upd_same, parts_eq (f := upd f i (f i + 1)) (g := f) i (fun j hj => upd_ne (by omega)), List.take_add_one, List.getElem?_eq_getElem hi, ← List.append_assoc]
      have : s.e i (f i) = (s.l i)[f i] := by unfold Sh.e; rw [List.getD_eq_getElem?_getD, List.getElem?_eq_getElem hi]; rfl
      rw [this]
      exact List.perm_append_singleton _ _
    · rw [upd_ne (by omega)]
      exact (parts_upd hi k (by omega)).append_right _
theorem parts_zero (s : Sh) : ∀ k, parts s (fun _ => 0) k = []
  | 0 => rfl
  | k + 1 => by show parts s _ k ++ _ = _; rw [parts_zero s k]; simp
theorem upto_parts (s : Sh) : ∀ p, p ≤ s.N → (upto s p).Perm (parts s (ats s p) s.n)
  | 0, _ => by
    have : ats s 0 = fun _ => 0 := rfl
    rw [this, parts_zero]
    exact List.Perm.refl _
  | p + 1, h => by
    obtain ⟨i, hi⟩ := who_lt (show p < s.N by omega)
    have hw := who_some hi
    rw [upto_succ, ats_some hi, itm_some hi]
    exact (List.perm_append_singleton _ _).trans ((List.Perm.cons _ (upto_parts s p (by omega))).trans (parts_upd hw.2.1 s.n hw.1).symm)
theorem parts_full (s : Sh) : ∀ k, k ≤ s.n → parts s (fun j => (s.l j).length) k = (s.L.take k).flatten
  | 0, _ => by simp [parts]
  | k + 1, h => by
    have hk : k < s.L.length := h
    show parts s _ k ++ (s.l k).take (s.l k).length = _
    rw [parts_full s k (by omega), List.take_length, List.take_add_one, List.getElem?_eq_getElem hk, List.flatten_append]
    congr 1
    have : s.l k = s.L[k] := by show s.L.getD k [] = _; simp [hk]
    rw [this]
    simp
theorem upto_perm (s : Sh) : (upto s s.N).Perm s.L.flatten := by
  have h := upto_parts s s.N (Nat.le_refl _)
  rw [parts_eq s.n (g := fun j => (s.l j).length) (fun j _ => ats_end s j), parts_full s s.n (Nat.le_refl _), List.take_length] at h
  exact h
theorem upto_T {s : Sh} (hr : Ris s) : (upto s s.N).Pairwise (fun x y => R x y ∨ E x y) := by
  unfold upto
  rw [List.pairwise_map]
  refine List.Pairwise.imp_of_mem ?_ List.pairwise_lt_range
  intro a b ha hb hab
  obtain ⟨i, hi⟩ := who_lt (List.mem_range.1 ha)
  obtain ⟨j, hj⟩ := who_lt (List.mem_range.1 hb)
  rw [itm_some hi, itm_some hj]
  rcases itm_lt hr hi hj hab with h | ⟨h, _⟩
  · exact .inl h
  · exact .inr h
/-- Of lists that are together one that rises, that one comes. -/
theorem upto_one {s : Sh} (hr : Ris s) {l : List PC.S44} (hp : s.L.flatten.Perm l) (hl : l.Pairwise R) : upto s s.N = l := by
  have h := (upto_perm s).trans hp
  have hE : l.Pairwise (fun x y => ¬ E x y) := hl.imp (fun h e => R_irrefl _ (R_E h (E_symm e)))
  have hE2 : (upto s s.N).Pairwise (fun x y => ¬ E x y) := (h.symm.pairwise_iff (fun h e => h (E_symm e))).1 hE
  have hR : (upto s s.N).Pairwise R := (List.pairwise_and_iff.2 ⟨upto_T hr, hE2⟩).imp (fun h => h.1.resolve_right h.2)
  exact pw_one _ _ hR hl (fun x => h.mem_iff)
theorem upto_itm {s : Sh} {l : List PC.S44} (h : upto s s.N = l) {i : Nat} (hi : i < s.N) : itm s i = l.getD i PC.z44 := by rw [← h, upto_get s hi]

/-- Those of the first i whose place is told so. -/
def sel (f : Nat → Bool) (l : List PC.S44) : Nat → List PC.S44
  | 0 => []
  | i + 1 => if f i then sel f l i ++ [l.getD i PC.z44] else sel f l i
theorem sel_len (f : Nat → Bool) (l : List PC.S44) : ∀ i, (sel f l i).length ≤ i
  | 0 => by simp [sel]
  | i + 1 => by
    have := sel_len f l i
    unfold sel
    split <;> simp <;> omega
theorem sel_sub (f : Nat → Bool) (l : List PC.S44) : ∀ i, i ≤ l.length → (sel f l i).Sublist (l.take i)
  | 0, _ => by simp [sel]
  | i + 1, h => by
    have hi : i < l.length := h
    have ih := sel_sub f l i (by omega)
    have e : l.take (i + 1) = l.take i ++ [l.getD i PC.z44] := by rw [List.take_add_one, List.getElem?_eq_getElem hi]; simp [hi]
    rw [e]
    unfold sel
    split
    · exact ih.append (List.Sublist.refl _)
    · exact ih.trans (List.sublist_append_left _ _)
theorem sel_perm (f : Nat → Bool) (l : List PC.S44) : ∀ i, i ≤ l.length → (sel (fun j => !f j) l i ++ sel f l i).Perm (l.take i)
  | 0, _ => by simp [sel]
  | i + 1, h => by
    have hi : i < l.length := h
    have ih := sel_perm f l i (by omega)
    have e : l.take (i + 1) = l.take i ++ [l.getD i PC.z44] := by rw [List.take_add_one, List.getElem?_eq_getElem hi]; simp [hi]
    rw [e]
    unfold sel
    cases f i
    · simp only [Bool.not_false, if_true, Bool.false_eq_true, if_false]
      refine List.Perm.trans ?_ (ih.append_right _)
      simp only [List.append_assoc]
      exact List.Perm.append_left _ List.perm_append_comm
    · simp only [Bool.not_true, if_true, Bool.false_eq_true, if_false]
      rw [← List.append_assoc]
      exact ih.append_right _
theorem sel_pw {f : Nat → Bool} {l : List PC.S44} (h : l.Pairwise R) : (sel f l l.length).Pairwise R := by
  have := sel_sub f l l.length (Nat.le_refl _)
  rw [List.take_length] at this
  exact h.sublist this
theorem sel_all (f : Nat → Bool) (l : List PC.S44) : (sel (fun j => !f j) l l.length ++ sel f l l.length).Perm l := by
  have := sel_perm f l l.length (Nat.le_refl _)
  rwa [List.take_length] at this
end Go.Proofs.Ytehoojmalhloeaa.CM
