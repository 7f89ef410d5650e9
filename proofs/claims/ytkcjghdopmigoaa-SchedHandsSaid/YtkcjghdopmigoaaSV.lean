/- sched: who counts behind a mutex never loses a count. Plain, no program in sight. -/
import Derived.Test.YtkcjghdopmigoaaSU
namespace Go.Proofs.Ytkcjghdopmigoaa.SC
open Go.RowKit Go.Proofs.YtkcjghdopmigoaaW.PrintWords
set_option linter.unusedVariables false
set_option linter.unusedSimpArgs false
set_option maxRecDepth 100000

structure LA where
  pc : Nat
  a : Int
  b : Int
def codeL (k : Int) : List I := [⟨4, 1, k, 0⟩, ⟨8, 0, 0, 0⟩, ⟨1, 0, 0, 0⟩, ⟨5, 0, 1, 0⟩, ⟨2, 0, 0, 0⟩, ⟨9, 0, 0, 0⟩, ⟨5, 1, -1, 0⟩, ⟨6, 1, 9, 0⟩, ⟨7, 0, 1, 0⟩, ⟨14, 0, 0, 0⟩]
def mkL (k : Int) (x : LA) : Tk := ⟨codeL k, x.pc, [x.a, x.b, 0, 0], decide (10 ≤ x.pc), false, -1, -1⟩
def decL (k : Int) (al : List LA) (c h : Int) : Wd := ⟨al.map (mkL k), c :: List.replicate 15 0, h :: List.replicate 15 (-1), []⟩
theorem wrapS {n : Int} (h1 : -1000 ≤ n) (h2 : n ≤ 1000) : wrap64 n = n := by unfold wrap64; omega
theorem leave_own {D : Wd} {i : Nat} {t : Tk} {m : Nat} (h : D.has.getD m 0 = (i : Int)) : leaveW D i t m = { D with ts := D.ts.set i t, has := D.has.set m (-1) } := by
  unfold leaveW
  rw [if_neg (by rw [h]; simp)]
theorem fin_map {α : Type} {mk : α → Tk} {al : List α} {i : Nat} {t : Tk} {y : α} {c h : List Int} {e : List Em} (ht : endT t = mk y) :
    endD ⟨(al.map mk).set i t, c, h, e⟩ i = ⟨(al.set i y).map mk, c, h, e⟩ := by
  unfold endD
  rw [modify_set, ht, List.map_set]
section
variable {k c h a b : Int} {al : List LA} {i : Nat}
theorem goL0 (hk : 0 ≤ k ∧ k ≤ 9) (ha : al[i]? = some ⟨0, a, b⟩) : goD (decL k al c h) i = decL k (al.set i ⟨1, a, k⟩) c h := by
  rw [goD_map (mk := mkL k) (x := ⟨4, 1, k, 0⟩) rfl ha rfl rfl, doI4 rfl]
  refine fin_map (mk := mkL k) ?_
  simp [endT, nxT, mkL, codeL, wrapS (n := k) (by omega) (by omega)]
theorem goL1 (ha : al[i]? = some ⟨1, a, b⟩) : goD (decL k al c h) i = decL k (al.set i ⟨2, a, b⟩) c i := by
  rw [goD_map (mk := mkL k) (x := ⟨8, 0, 0, 0⟩) rfl ha rfl rfl, doI8 rfl]
  refine fin_map (mk := mkL k) ?_
  simp [endT, nxT, mkL, codeL]
theorem goL2 (ha : al[i]? = some ⟨2, a, b⟩) : goD (decL k al c h) i = decL k (al.set i ⟨3, c, b⟩) c h := by
  rw [goD_map (mk := mkL k) (x := ⟨1, 0, 0, 0⟩) rfl ha rfl rfl, doI1 rfl]
  refine fin_map (mk := mkL k) ?_
  simp [endT, nxT, mkL, codeL, decL]
theorem goL3 (h0 : 0 ≤ a ∧ a ≤ 100) (ha : al[i]? = some ⟨3, a, b⟩) : goD (decL k al c h) i = decL k (al.set i ⟨4, a + 1, b⟩) c h := by
  rw [goD_map (mk := mkL k) (x := ⟨5, 0, 1, 0⟩) rfl ha rfl rfl, doI5 rfl]
  refine fin_map (mk := mkL k) ?_
  simp [endT, nxT, mkL, codeL, decL, wrapS (n := a + 1) (by omega) (by omega)]
theorem goL4 (ha : al[i]? = some ⟨4, a, b⟩) : goD (decL k al c h) i = decL k (al.set i ⟨5, a, b⟩) a h := by
  rw [goD_map (mk := mkL k) (x := ⟨2, 0, 0, 0⟩) rfl ha rfl rfl, doI2 rfl]
  refine fin_map (mk := mkL k) ?_
  simp [endT, nxT, mkL, codeL]
theorem goL5 (hh : h = i) (ha : al[i]? = some ⟨5, a, b⟩) : goD (decL k al c h) i = decL k (al.set i ⟨6, a, b⟩) c (-1) := by
  rw [goD_map (mk := mkL k) (x := ⟨9, 0, 0, 0⟩) rfl ha rfl rfl, doI9 rfl, leave_own (by show h = _; exact hh)]
  refine fin_map (mk := mkL k) ?_
  simp [endT, nxT, mkL, codeL]
theorem goL6 (h0 : 0 ≤ b ∧ b ≤ 100) (ha : al[i]? = some ⟨6, a, b⟩) : goD (decL k al c h) i = decL k (al.set i ⟨7, a, b - 1⟩) c h := by
  rw [goD_map (mk := mkL k) (x := ⟨5, 1, -1, 0⟩) rfl ha rfl rfl, doI5 rfl]
  refine fin_map (mk := mkL k) ?_
  simp [endT, nxT, mkL, codeL, decL, show b + -1 = b - 1 by omega, wrapS (n := b - 1) (by omega) (by omega)]
theorem goL7 (ha : al[i]? = some ⟨7, a, b⟩) : goD (decL k al c h) i = decL k (al.set i ⟨if b = 0 then 9 else 8, a, b⟩) c h := by
  rw [goD_map (mk := mkL k) (x := ⟨6, 1, 9, 0⟩) rfl ha rfl rfl, doI6 rfl]
  by_cases hb : b = 0
  · rw [if_neg (by simp [nxT, mkL, hb]), if_pos hb]
    refine fin_map (mk := mkL k) ?_
    simp [endT, nxT, mkL, codeL]
  · rw [if_pos (by simpa [nxT, mkL] using hb), if_neg hb]
    refine fin_map (mk := mkL k) ?_
    simp [endT, nxT, mkL, codeL]
theorem goL8 (ha : al[i]? = some ⟨8, a, b⟩) : goD (decL k al c h) i = decL k (al.set i ⟨1, a, b⟩) c h := by
  rw [goD_map (mk := mkL k) (x := ⟨7, 0, 1, 0⟩) rfl ha rfl rfl, doI7 rfl]
  refine fin_map (mk := mkL k) ?_
  simp [endT, nxT, mkL, codeL]
theorem goL9 (ha : al[i]? = some ⟨9, a, b⟩) : goD (decL k al c h) i = decL k (al.set i ⟨10, a, b⟩) c h := by
  rw [goD_map (mk := mkL k) (x := ⟨14, 0, 0, 0⟩) rfl ha rfl rfl, doI14 rfl]
  refine fin_map (mk := mkL k) ?_
  simp [endT, nxT, mkL, codeL]
end
def remL (k : Int) (x : LA) : Int :=
  if x.pc = 0 then 1 + 8 * k else if x.pc ≤ 6 then 8 * x.b - x.pc + 1 else if x.pc = 7 then 8 * x.b + 2 else if x.pc = 8 then 8 * x.b + 1 else if x.pc = 9 then 1 else 0
def leftL (k : Int) (x : LA) : Int :=
  if x.pc = 0 then k else if x.pc ≤ 4 then x.b else if x.pc ≤ 6 then x.b - 1 else if x.pc ≤ 8 then x.b else 0
def okL (k : Int) (x : LA) : Prop :=
  x.pc ≤ 10 ∧ (1 ≤ x.pc ∧ x.pc ≤ 6 → 1 ≤ x.b ∧ x.b ≤ k) ∧ (x.pc = 7 → 0 ≤ x.b ∧ x.b ≤ k - 1) ∧ (x.pc = 8 → 1 ≤ x.b ∧ x.b ≤ k - 1)
theorem leftL_nonneg {k : Int} (hk : 0 ≤ k) {x : LA} (h : okL k x) : 0 ≤ leftL k x := by
  unfold okL at h
  unfold leftL
  split
  · exact hk
  split
  · have := h.2.1 (by omega); omega
  split
  · have := h.2.1 (by omega); omega
  split
  · by_cases e : x.pc = 7
    · have := h.2.2.1 e; omega
    · have := h.2.2.2 (by omega); omega
  · omega
theorem remL_pos {k : Int} (hk : 0 ≤ k) {x : LA} (h : okL k x) : 0 ≤ remL k x := by
  unfold okL at h
  unfold remL
  split
  · omega
  split
  · have := h.2.1 (by omega); omega
  split
  · have := h.2.2.1 (by omega); omega
  split
  · have := h.2.2.2 (by omega); omega
  split <;> omega
def InvL (n : Nat) (k : Int) (s : Nat) (D : Wd) : Prop :=
  ∃ (al : List LA) (c h : Int), D = decL k al c h ∧ al.length = n ∧
    (∀ (j : Nat) (x : LA), al[j]? = some x → okL k x ∧ ((2 ≤ x.pc ∧ x.pc ≤ 5) ↔ h = j) ∧ (x.pc = 3 → x.a = c) ∧ (x.pc = 4 → x.a = c + 1)) ∧
    (h = -1 ∨ ∃ j : Nat, j < n ∧ h = j) ∧ sumZ (remL k) al + s = n * (1 + 8 * k) ∧ c + sumZ (leftL k) al = n * k ∧ 0 ≤ c
theorem InvL.next {n : Nat} {k : Int} {s : Nat} {al : List LA} {c h : Int} (hl : al.length = n)
    (hok : ∀ (j : Nat) (x : LA), al[j]? = some x → okL k x ∧ ((2 ≤ x.pc ∧ x.pc ≤ 5) ↔ h = j) ∧ (x.pc = 3 → x.a = c) ∧ (x.pc = 4 → x.a = c + 1))
    (hr : sumZ (remL k) al + s = n * (1 + 8 * k)) (hc : c + sumZ (leftL k) al = n * k) {i : Nat} {x y : LA} (hx : al[i]? = some x) {c' h' : Int}
    (h1 : okL k y) (h2 : (2 ≤ y.pc ∧ y.pc ≤ 5) ↔ h' = i) (h3 : y.pc = 3 → y.a = c') (h4 : y.pc = 4 → y.a = c' + 1)
    (h5 : (h' = h ∧ (h = -1 ∨ ∃ j : Nat, j < n ∧ h = j)) ∨ (h = -1 ∧ h' = i) ∨ (h = i ∧ h' = -1)) (h6 : c' = c ∨ h = i) (h7 : remL k x = remL k y + 1) (h8 : c' + leftL k y = c + leftL k x) (h9 : 0 ≤ c') :
    InvL n k (s + 1) (decL k (al.set i y) c' h') := by
  have hi : i < n := by rw [← hl]; exact (List.getElem?_eq_some_iff.1 hx).1
  refine ⟨al.set i y, c', h', rfl, by rw [List.length_set]; exact hl, fun j z hz => ?_, ?_, ?_, ?_, h9⟩
  · rw [List.getElem?_set] at hz
    split at hz
    · rename_i e
      subst e
      rw [if_pos (by rw [hl]; exact hi)] at hz
      cases hz
      exact ⟨h1, h2, h3, h4⟩
    · rename_i e
      obtain ⟨q1, q2, q3, q4⟩ := hok j z hz
      have hj : h' = j ↔ h = j := by
        rcases h5 with ⟨rfl, _⟩ | ⟨rfl, rfl⟩ | ⟨rfl, rfl⟩
        · exact Iff.rfl
        · omega
        · omega
      refine ⟨q1, q2.trans hj.symm, fun e3 => ?_, fun e4 => ?_⟩
      · rcases h6 with rfl | h6
        · exact q3 e3
        · have := q2.1 ⟨by omega, by omega⟩
          omega
      · rcases h6 with rfl | h6
        · exact q4 e4
        · have := q2.1 ⟨by omega, by omega⟩
          omega
  · rcases h5 with ⟨rfl, h5⟩ | ⟨_, rfl⟩ | ⟨_, rfl⟩
    · exact h5
    · exact .inr ⟨i, hi, rfl⟩
    · exact .inl rfl
  · have := sumZ_set (remL k) al i x y hx
    push_cast
    omega
  · have := sumZ_set (leftL k) al i x y hx
    omega
theorem InvL.step {n : Nat} {k : Int} (hn : n ≤ 8) (hk : 1 ≤ k ∧ k ≤ 9) (s : Nat) (E : Wd) (i : Nat) (hI : InvL n k s E) (hc : canI E i = true) : InvL n k (s + 1) (goD E i) := by
  obtain ⟨al, c, h, rfl, hl, hok, hh, hr, hcc, hc0⟩ := hI
  obtain ⟨⟨pc, a, b⟩, hx, hcan⟩ := canI_map (mk := mkL k) (al := al) rfl hc
  obtain ⟨q1, q2, q3, q4⟩ := hok i _ hx
  have hnk : (n : Int) * k ≤ 72 := by
    have h1 : (n : Int) * k ≤ 8 * k := Int.mul_le_mul_of_nonneg_right (by omega) (by omega)
    omega
  have hcl : c ≤ 72 := by
    have := sumZ_nonneg (leftL k) al (fun x hm => by
      obtain ⟨j, hj⟩ := List.getElem?_of_mem hm
      exact leftL_nonneg (by omega) (hok j x hj).1)
    omega
  have Q := fun (y : LA) (c' h' : Int) => InvL.next (y := y) (c' := c') (h' := h') hl hok hr hcc hx
  have e1 : (decL k al c h).has.getD 0 0 = h := rfl
  unfold okL at q1
  simp only at q1 q2 q3 q4
  have hd : pc < 10 := by
    have h1 := (canW_yes hcan).1
    have h1 : decide (10 ≤ pc) = false := h1
    simpa using h1
  have hlk : pc = 1 → h = -1 := by
    rintro rfl
    have h2 : canW (decL k al c h) (mkL k ⟨1, a, b⟩) = (h == -1) := by
      simp [canW, mkL, insT, codeL, decL]
    rw [h2] at hcan
    simpa using hcan
  obtain ⟨q11, q12, q13, q14⟩ := q1
  match pc, hd with
  | 0, _ => rw [goL0 (by omega) hx]; exact Q ⟨1, a, k⟩ c h (by unfold okL; simp; omega) (by simp at q2 ⊢; omega) (by simp) (by simp) (.inl ⟨rfl, hh⟩) (.inl rfl) (by simp [remL]; omega) (by simp [leftL]) hc0
  | 1, _ => rw [goL1 hx]; exact Q ⟨2, a, b⟩ c i (by unfold okL; simp; omega) (by simp) (by simp) (by simp) (.inr (.inl ⟨hlk rfl, rfl⟩)) (.inl rfl) (by simp [remL]; omega) (by simp [leftL]) hc0
  | 2, _ => rw [goL2 hx]; exact Q ⟨3, c, b⟩ c h (by unfold okL; simp; omega) (by simp at q2 ⊢; omega) (by simp) (by simp) (.inl ⟨rfl, hh⟩) (.inl rfl) (by simp [remL]; omega) (by simp [leftL]) hc0
  | 3, _ =>
    have := q3 rfl
    rw [goL3 (by omega) hx]; exact Q ⟨4, a + 1, b⟩ c h (by unfold okL; simp; omega) (by simp at q2 ⊢; omega) (by simp) (by simp; omega) (.inl ⟨rfl, hh⟩) (.inl rfl) (by simp [remL]; omega) (by simp [leftL]) hc0
  | 4, _ =>
    have := q4 rfl
    have hi : h = i := q2.1 (by omega)
    rw [goL4 hx]; exact Q ⟨5, a, b⟩ a h (by unfold okL; simp; omega) (by simp; omega) (by simp) (by simp) (.inl ⟨rfl, hh⟩) (.inr hi) (by simp [remL]; omega) (by simp [leftL]; omega) (by omega)
  | 5, _ =>
    have hi : h = i := q2.1 (by omega)
    rw [goL5 hi hx]; exact Q ⟨6, a, b⟩ c (-1) (by unfold okL; simp; omega) (by simp) (by simp) (by simp) (.inr (.inr ⟨hi, rfl⟩)) (.inl rfl) (by simp [remL]; omega) (by simp [leftL]) hc0
  | 6, _ =>
    have := q12 (by omega)
    rw [goL6 (by omega) hx]; exact Q ⟨7, a, b - 1⟩ c h (by unfold okL; simp; omega) (by simp at q2 ⊢; omega) (by simp) (by simp) (.inl ⟨rfl, hh⟩) (.inl rfl) (by simp [remL]; omega) (by simp [leftL]) hc0
  | 7, _ =>
    have := q13 rfl
    rw [goL7 hx]
    by_cases hb : b = 0
    · rw [if_pos hb]; exact Q ⟨9, a, b⟩ c h (by unfold okL; simp) (by simp at q2 ⊢; omega) (by simp) (by simp) (.inl ⟨rfl, hh⟩) (.inl rfl) (by simp [remL]; omega) (by simp [leftL]; omega) hc0
    · rw [if_neg hb]; exact Q ⟨8, a, b⟩ c h (by unfold okL; simp; omega) (by simp at q2 ⊢; omega) (by simp) (by simp) (.inl ⟨rfl, hh⟩) (.inl rfl) (by simp [remL]; omega) (by simp [leftL]) hc0
  | 8, _ =>
    have := q14 rfl
    rw [goL8 hx]; exact Q ⟨1, a, b⟩ c h (by unfold okL; simp; omega) (by simp at q2 ⊢; omega) (by simp) (by simp) (.inl ⟨rfl, hh⟩) (.inl rfl) (by simp [remL]) (by simp [leftL]) hc0
  | 9, _ => rw [goL9 hx]; exact Q ⟨10, a, b⟩ c h (by unfold okL; simp) (by simp at q2 ⊢; omega) (by simp) (by simp) (.inl ⟨rfl, hh⟩) (.inl rfl) (by simp [remL]) (by simp [leftL]) hc0
theorem D0_L (n : Nat) (k : Int) : D0 (List.replicate n (codeL k)) [] = decL k (List.replicate n ⟨0, 0, 0⟩) 0 (-1) := by
  unfold D0 decL
  rw [List.map_replicate, List.map_replicate]
  rfl
theorem InvL.start {n : Nat} {k : Int} (hk : 1 ≤ k ∧ k ≤ 9) : InvL n k 0 (D0 (List.replicate n (codeL k)) []) := by
  refine ⟨List.replicate n ⟨0, 0, 0⟩, 0, -1, D0_L n k, List.length_replicate, fun j x hx => ?_, .inl rfl, ?_, ?_, Int.le_refl _⟩
  · rw [List.getElem?_replicate] at hx
    split at hx
    · cases hx
      refine ⟨by unfold okL; simp, ?_, by simp, by simp⟩
      simp
    · cases hx
  · rw [sumZ_rep]; simp [remL]
  · rw [sumZ_rep]; simp [leftL]
theorem locks_emits {n : Nat} {k : Int} (hn : n ≤ 8) (hk : 1 ≤ k ∧ k ≤ 9) (ps : List Int) : (loopW 0 (D0 (List.replicate n (codeL k)) []) ps).1.emits = [] := by
  obtain ⟨al, c, h, e, _⟩ := (loop_inv (P := InvL n k) (fun s E i h c => InvL.step hn hk s E i h c) ps 0 _ (InvL.start hk)).1
  rw [e]
  rfl
/-- Who counts behind a mutex never loses a count. -/
theorem locks {n : Nat} {k : Int} (h1 : 1 ≤ n) (hn : n ≤ 8) (hk : 1 ≤ k ∧ k ≤ 9) {ps : List Int} (hp : 700 ≤ ps.length) {R : Wd} {s : Nat} (hl : loopW 0 (D0 (List.replicate n (codeL k)) []) ps = (R, s)) :
    R.ts.length = n ∧ (∀ i, i < n → (R.ts.map (stateW R)).getD i 0 = 2) ∧ R.cells.getD 0 0 = n * k ∧ (s : Int) = n * (1 + 8 * k) ∧ R.emits = [] := by
  have hnk : (n : Int) * (1 + 8 * k) ≤ 584 := by
    have h1 : (n : Int) * (1 + 8 * k) ≤ 8 * (1 + 8 * k) := Int.mul_le_mul_of_nonneg_right (by omega) (by omega)
    omega
  obtain ⟨hI, he⟩ := loop_inv (P := InvL n k) (fun s E i h c => InvL.step hn hk s E i h c) ps 0 (D0 (List.replicate n (codeL k)) []) (by
    refine ⟨List.replicate n ⟨0, 0, 0⟩, 0, -1, D0_L n k, List.length_replicate, fun j x hx => ?_, .inl rfl, ?_, ?_, Int.le_refl _⟩
    · rw [List.getElem?_replicate] at hx
      split at hx
      · cases hx
        refine ⟨by unfold okL; simp, ?_, by simp, by simp⟩
        simp
      · cases hx
    · rw [sumZ_rep]; simp [remL]
    · rw [sumZ_rep]; simp [leftL])
  rw [hl] at hI he
  obtain ⟨al, c, h, rfl, hll, hok, hh, hr, hcc, hc0⟩ := hI
  have hnn := sumZ_nonneg (remL k) al (fun x hm => by
      obtain ⟨j, hj⟩ := List.getElem?_of_mem hm
      exact remL_pos (by omega) (hok j x hj).1)
  have he : ableL (decL k al c h) = [] := by
    rcases he with he | he
    · exact he
    · have he : s = 0 + ps.length := he
      simp only at hr
      omega
  have hcan : ∀ (j : Nat) (x : LA), al[j]? = some x → canW (decL k al c h) (mkL k x) = false := fun j x hx =>
    able_nil he (by show (al.map (mkL k))[j]? = _; rw [List.getElem?_map, hx]; rfl)
  have hhm : h = -1 := by
    rcases hh with hh | ⟨j, hj, rfl⟩
    · exact hh
    · exfalso
      obtain ⟨x, hx⟩ : ∃ x, al[j]? = some x := ⟨_, List.getElem?_eq_getElem (by omega)⟩
      have h2 := hcan j x hx
      obtain ⟨q1, q2, _, _⟩ := hok j x hx
      have h3 := q2.2 rfl
      obtain ⟨pc, a, b⟩ := x
      simp only at h3
      match pc, h3 with
      | 2, _ | 3, _ | 4, _ | 5, _ => simp [canW, mkL, insT, codeL, decL] at h2
  subst hhm
  have hend : ∀ (j : Nat) (x : LA), al[j]? = some x → x.pc = 10 := fun j x hx => by
    have h2 := hcan j x hx
    obtain ⟨q1, _, _, _⟩ := hok j x hx
    have q1 := q1.1
    obtain ⟨pc, a, b⟩ := x
    simp only at q1
    match pc, q1 with
    | 0, _ | 1, _ | 2, _ | 3, _ | 4, _ | 5, _ | 6, _ | 7, _ | 8, _ | 9, _ => simp [canW, mkL, insT, codeL, decL] at h2
    | 10, _ => rfl
  have hmem : ∀ x ∈ al, x.pc = 10 := fun x hm => by
    obtain ⟨j, hj⟩ := List.getElem?_of_mem hm
    exact hend j x hj
  refine ⟨by show (al.map (mkL k)).length = n; simpa using hll, fun i hi => ?_, ?_, ?_, rfl⟩
  · obtain ⟨x, hx⟩ : ∃ x, al[i]? = some x := ⟨_, List.getElem?_eq_getElem (by omega)⟩
    have hp := hend i x hx
    rw [List.getD_eq_getElem?_getD]
    show (((al.map (mkL k)).map _)[i]?).getD 0 = 2
    rw [List.getElem?_map, List.getElem?_map, hx]
    show stateW _ (mkL k x) = 2
    simp [stateW, mkL, hp]
  · rw [sumZ_const (leftL k) 0 al (fun x hm => by simp [leftL, hmem x hm])] at hcc
    show c = _
    simp at hcc
    omega
  · rw [sumZ_const (remL k) 0 al (fun x hm => by simp [remL, hmem x hm])] at hr
    simp at hr
    omega
end Go.Proofs.Ytkcjghdopmigoaa.SC
