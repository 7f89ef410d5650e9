/- sched: what stays true in a run; a run with fewer picks. Plain, no program in sight. -/
import Derived.Test.YtkcjghdopmigoaaSS
namespace Go.Proofs.Ytkcjghdopmigoaa.SC
open Go.RowKit Go.Proofs.YtkcjghdopmigoaaW.PrintWords
set_option linter.unusedVariables false
set_option linter.unusedSimpArgs false
set_option maxRecDepth 100000

theorem turn_can {D : Wd} (h : ableL D ≠ []) (p : Int) : ∃ i, canI D i = true ∧ turnW D p = goD D i := by
  obtain ⟨m, t, e, ht, hc, _⟩ := able_at (pickN_lt (p := p) (List.length_pos_iff.2 h)).1
  refine ⟨m, by rw [canI_at ht]; exact hc, ?_⟩
  unfold turnW
  rw [e]
theorem loop_inv {P : Nat → Wd → Prop} (hs : ∀ (k : Nat) (E : Wd) (i : Nat), P k E → canI E i = true → P (k + 1) (goD E i)) : ∀ (ps : List Int) (s : Nat) (D : Wd), P s D →
    P (loopW s D ps).2 (loopW s D ps).1 ∧ (ableL (loopW s D ps).1 = [] ∨ (loopW s D ps).2 = s + ps.length)
  | [], s, D, h => ⟨h, .inr rfl⟩
  | p :: t, s, D, h => by
    by_cases ha : ableL D = []
    · rw [loopW_stop ha]
      exact ⟨h, .inl ha⟩
    · rw [loopW_go ha]
      obtain ⟨i, hi, e⟩ := turn_can ha p
      rw [e]
      obtain ⟨h1, h2⟩ := loop_inv hs t (s + 1) _ (hs s D i h hi)
      refine ⟨h1, h2.imp id fun h2 => ?_⟩
      rw [h2, List.length_cons]
      omega
theorem loop_steps (ps : List Int) (s : Nat) (D : Wd) : s ≤ (loopW s D ps).2 ∧ (loopW s D ps).2 ≤ s + ps.length := by
  induction ps generalizing s D with
  | nil => exact ⟨Nat.le_refl _, Nat.le_refl _⟩
  | cons p t ih =>
    by_cases ha : ableL D = []
    · rw [loopW_stop ha]
      exact ⟨Nat.le_refl _, by simp⟩
    · rw [loopW_go ha]
      have := ih (s + 1) (turnW D p)
      rw [List.length_cons]
      omega
theorem goD_emits (D : Wd) (i : Nat) : D.emits <+: (goD D i).emits := by
  unfold goD
  split
  · rename_i t ht
    show D.emits <+: (stepW D i t).emits
    rcases emits_step (D := D) (i := i) (t := t) with h | ⟨v, h⟩ <;> rw [h]
    · exact List.prefix_rfl
    · exact List.prefix_append _ _
  · exact List.prefix_rfl
theorem loop_emits (ps : List Int) (s : Nat) (D : Wd) : D.emits <+: (loopW s D ps).1.emits :=
  (loop_inv (P := fun _ E => D.emits <+: E.emits) (fun _ E i h _ => h.trans (goD_emits E i)) ps s D List.prefix_rfl).1
/-- Fewer picks: a beginning. -/
theorem begins {D A B : Wd} {ps : List Int} {n a b : Nat} (hn : n ≤ ps.length) (hA : loopW 0 D ps = (A, a)) (hB : loopW 0 D (ps.take n) = (B, b)) :
    b ≤ n ∧ b ≤ a ∧ (b < n → a = b) ∧ B.emits <+: A.emits := by
  have e := loopW_app (ps.take n) (ps.drop n) 0 D
  rw [List.take_append_drop, hA, hB] at e
  have e' : (A, a) = loopW b B (ps.drop n) := e
  have h1 := loop_steps (ps.take n) 0 D
  rw [hB, List.length_take] at h1
  have h1' : b ≤ 0 + min n ps.length := h1.2
  have h2 := loop_steps (ps.drop n) b B
  rw [← e'] at h2
  have h2' : b ≤ a := h2.1
  have h3 := loop_emits (ps.drop n) b B
  rw [← e'] at h3
  have h4 := (loop_inv (P := fun _ _ => True) (fun _ _ _ _ _ => trivial) (ps.take n) 0 D trivial).2
  rw [hB] at h4
  refine ⟨by omega, h2', fun hb => ?_, h3⟩
  rcases h4 with h4 | h4
  · have h4 : ableL B = [] := h4
    rw [loopW_stop h4] at e'
    exact congrArg Prod.snd e'
  · have h4 : b = 0 + (ps.take n).length := h4
    rw [List.length_take] at h4
    omega

/-! ### sums over a list of which one is changed -/
def sumZ {α : Type} (f : α → Int) : List α → Int
  | [] => 0
  | x :: t => f x + sumZ f t
theorem sumZ_set {α : Type} (f : α → Int) : ∀ (l : List α) (i : Nat) (x y : α), l[i]? = some x → sumZ f (l.set i y) + f x = sumZ f l + f y
  | [], i, x, y, h => by simp at h
  | z :: t, 0, x, y, h => by
    obtain rfl : z = x := by simpa using h
    show f y + sumZ f t + f z = f z + sumZ f t + f y
    omega
  | z :: t, i + 1, x, y, h => by
    have := sumZ_set f t i x y (by simpa using h)
    show f z + sumZ f (t.set i y) + f x = f z + sumZ f t + f y
    omega
theorem sumZ_rep {α : Type} (f : α → Int) (x : α) : ∀ n : Nat, sumZ f (List.replicate n x) = n * f x
  | 0 => by simp [sumZ]
  | n + 1 => by
    rw [List.replicate_succ]
    show f x + sumZ f (List.replicate n x) = _
    rw [sumZ_rep f x n]
    push_cast
    rw [Int.add_mul]
    omega
theorem sumZ_const {α : Type} (f : α → Int) (c : Int) : ∀ l : List α, (∀ x ∈ l, f x = c) → sumZ f l = l.length * c
  | [], h => by simp [sumZ]
  | x :: t, h => by
    show f x + sumZ f t = _
    rw [sumZ_const f c t (fun y hy => h y (List.mem_cons_of_mem _ hy)), h x List.mem_cons_self, List.length_cons]
    push_cast
    rw [Int.add_mul]
    omega
theorem sumZ_nonneg {α : Type} (f : α → Int) : ∀ l : List α, (∀ x ∈ l, 0 ≤ f x) → 0 ≤ sumZ f l
  | [], h => by simp [sumZ]
  | x :: t, h => by
    have h1 := sumZ_nonneg f t (fun y hy => h y (List.mem_cons_of_mem _ hy))
    have h2 := h x List.mem_cons_self
    show 0 ≤ f x + sumZ f t
    omega
theorem sumZ_le {α : Type} (f g : α → Int) : ∀ l : List α, (∀ x ∈ l, f x ≤ g x) → sumZ f l ≤ sumZ g l
  | [], h => by simp [sumZ]
  | x :: t, h => by
    have h1 := sumZ_le f g t (fun y hy => h y (List.mem_cons_of_mem _ hy))
    have h2 := h x List.mem_cons_self
    show f x + sumZ f t ≤ g x + sumZ g t
    omega
/-- One task of a list of tasks that are made of plain ones. -/
theorem goD_map {α : Type} {mk : α → Tk} {al : List α} {i : Nat} {a : α} {D : Wd} {x : I} (hD : D.ts = al.map mk) (ha : al[i]? = some a) (hw : (mk a).wants = -1) (hx : insT (mk a) = x) :
    goD D i = endD (doI D i (nxT (mk a)) x) i := by
  unfold goD
  rw [hD, List.getElem?_map, ha]
  show endD (stepW D i (mk a)) i = _
  unfold stepW
  rw [if_neg (by rw [hw]; simp), hx]
theorem modify_set {α : Type} (f : α → α) (x : α) : ∀ (l : List α) (i : Nat), (l.set i x).modify i f = l.set i (f x)
  | [], i => by simp
  | y :: t, 0 => rfl
  | y :: t, i + 1 => by
    rw [List.set_cons_succ, List.set_cons_succ, List.modify_succ_cons, modify_set f x t i]
theorem canI_map {α : Type} {mk : α → Tk} {al : List α} {i : Nat} {D : Wd} (hD : D.ts = al.map mk) (h : canI D i = true) : ∃ a, al[i]? = some a ∧ canW D (mk a) = true := by
  unfold canI at h
  rw [hD, List.getElem?_map] at h
  rcases e : al[i]? with _ | a
  · rw [e] at h; cases h
  · rw [e] at h; exact ⟨a, rfl, h⟩
theorem able_nil {D : Wd} (h : ableL D = []) {i : Nat} {t : Tk} (ht : D.ts[i]? = some t) : canW D t = false := by
  unfold ableL at h
  rw [List.filter_eq_nil_iff] at h
  have := h i (List.mem_range.2 (List.getElem?_eq_some_iff.1 ht).1)
  rw [canI_at ht] at this
  simpa using this
end Go.Proofs.Ytkcjghdopmigoaa.SC
