/- sched: who counts by comparing and swapping never loses a count. Plain, no program in sight. -/
import Derived.Test.YtkcjghdopmigoaaSV
namespace Go.Proofs.Ytkcjghdopmigoaa.SC
open Go.RowKit Go.Proofs.YtkcjghdopmigoaaW.PrintWords
set_option linter.unusedVariables false
set_option linter.unusedSimpArgs false
set_option maxRecDepth 100000

structure SW where
  pc : Nat
  a : Int
  b : Int
  d : Int
def codeS : List I := [⟨1, 0, 0, 0⟩, ⟨1, 1, 0, 0⟩, ⟨5, 1, 1, 0⟩, ⟨3, 0, 0, 1⟩, ⟨6, 3, 0, 0⟩, ⟨13, 1, 0, 0⟩]
def mkS (x : SW) : Tk := ⟨codeS, x.pc, [x.a, x.b, 0, x.d], decide (6 ≤ x.pc), false, -1, -1⟩
def decS (al : List SW) (c : Int) (e : List Em) : Wd := ⟨al.map mkS, c :: List.replicate 15 0, List.replicate 16 (-1), e⟩
section
variable {c a b d : Int} {al : List SW} {i : Nat} {e : List Em}
theorem goS0 (ha : al[i]? = some ⟨0, a, b, d⟩) : goD (decS al c e) i = decS (al.set i ⟨1, c, b, d⟩) c e := by
  rw [goD_map (mk := mkS) (x := ⟨1, 0, 0, 0⟩) rfl ha rfl rfl, doI1 rfl]
  refine fin_map (mk := mkS) ?_
  simp [endT, nxT, mkS, codeS, decS]
theorem goS1 (ha : al[i]? = some ⟨1, a, b, d⟩) : goD (decS al c e) i = decS (al.set i ⟨2, a, c, d⟩) c e := by
  rw [goD_map (mk := mkS) (x := ⟨1, 1, 0, 0⟩) rfl ha rfl rfl, doI1 rfl]
  refine fin_map (mk := mkS) ?_
  simp [endT, nxT, mkS, codeS, decS]
theorem goS2 (h0 : 0 ≤ b ∧ b ≤ 100) (ha : al[i]? = some ⟨2, a, b, d⟩) : goD (decS al c e) i = decS (al.set i ⟨3, a, b + 1, d⟩) c e := by
  rw [goD_map (mk := mkS) (x := ⟨5, 1, 1, 0⟩) rfl ha rfl rfl, doI5 rfl]
  refine fin_map (mk := mkS) ?_
  simp [endT, nxT, mkS, codeS, decS, wrapS (n := b + 1) (by omega) (by omega)]
theorem goS3 (ha : al[i]? = some ⟨3, a, b, d⟩) : goD (decS al c e) i = if c = a then decS (al.set i ⟨4, a, b, 1⟩) b e else decS (al.set i ⟨4, a, b, 0⟩) c e := by
  rw [goD_map (mk := mkS) (x := ⟨3, 0, 0, 1⟩) rfl ha rfl rfl, doI3 rfl]
  by_cases h : c = a
  · rw [if_pos (by simpa [decS, nxT, mkS] using h), if_pos h]
    refine fin_map (mk := mkS) ?_
    simp [endT, nxT, mkS, codeS, decS]
  · rw [if_neg (by simpa [decS, nxT, mkS] using h), if_neg h]
    refine fin_map (mk := mkS) ?_
    simp [endT, nxT, mkS, codeS, decS]
theorem goS4 (ha : al[i]? = some ⟨4, a, b, d⟩) : goD (decS al c e) i = decS (al.set i ⟨if d = 0 then 0 else 5, a, b, d⟩) c e := by
  rw [goD_map (mk := mkS) (x := ⟨6, 3, 0, 0⟩) rfl ha rfl rfl, doI6 rfl]
  by_cases hb : d = 0
  · rw [if_neg (by simp [nxT, mkS, hb]), if_pos hb]
    refine fin_map (mk := mkS) ?_
    simp [endT, nxT, mkS, codeS]
  · rw [if_pos (by simpa [nxT, mkS] using hb), if_neg hb]
    refine fin_map (mk := mkS) ?_
    simp [endT, nxT, mkS, codeS]
theorem goS5 (ha : al[i]? = some ⟨5, a, b, d⟩) : goD (decS al c e) i = decS (al.set i ⟨6, a, b, d⟩) c (e ++ [⟨i, b⟩]) := by
  rw [goD_map (mk := mkS) (x := ⟨13, 1, 0, 0⟩) rfl ha rfl rfl, doI13 rfl]
  refine fin_map (mk := mkS) ?_
  simp [endT, nxT, mkS, codeS]
end
/-- Has it swapped? -/
def doneS (x : SW) : Bool := decide (5 ≤ x.pc) || (x.pc == 4 && x.d == 1)
def dnS (x : SW) : Int := if doneS x = true then 1 else 0
/-- what it will still tell -/
def owesS (x : SW) : Int := if doneS x = true ∧ x.pc < 6 then x.b else 0
def toldS (x : SW) : Int := if x.pc = 6 then 1 else 0
def potS (n c : Int) (x : SW) : Int :=
  if doneS x = true then (if x.pc = 4 then 2 else if x.pc = 5 then 1 else 0)
  else 5 * (n - 1 - c) + (if x.pc = 0 then 6 else if x.pc = 4 then 7 else (if x.a < c then 11 - x.pc else 6 - x.pc))
def okS (c : Int) (x : SW) : Prop :=
  x.pc ≤ 6 ∧ (x.pc = 1 → x.a ≤ c) ∧ (x.pc = 2 → x.a ≤ x.b ∧ x.b ≤ c) ∧ (x.pc = 3 → x.a + 1 ≤ x.b ∧ x.b ≤ c + 1) ∧ (x.pc = 4 → x.d = 0 ∨ x.d = 1) ∧ (1 ≤ x.pc ∧ x.pc ≤ 3 → 0 ≤ x.a)
def sumE (e : List Em) : Int := sumZ (fun x => x.value) e
theorem sumZ_app {α : Type} (f : α → Int) : ∀ l m : List α, sumZ f (l ++ m) = sumZ f l + sumZ f m
  | [], m => by simp [sumZ]
  | x :: t, m => by
    show f x + sumZ f (t ++ m) = f x + sumZ f t + sumZ f m
    rw [sumZ_app f t m]
    omega
def InvS (n : Nat) (s : Nat) (D : Wd) : Prop :=
  ∃ (al : List SW) (c : Int) (e : List Em), D = decS al c e ∧ al.length = n ∧ (∀ (j : Nat) (x : SW), al[j]? = some x → okS c x) ∧
    sumZ dnS al = c ∧ sumZ toldS al = e.length ∧ 2 * (sumE e + sumZ owesS al) = c * (c + 1) ∧ sumZ (potS n c) al + s ≤ n * (5 * n + 1) ∧ 0 ≤ c
theorem dn_le : ∀ (al : List SW) (j : Nat) (x : SW), al[j]? = some x → sumZ dnS al ≤ al.length - 1 + dnS x
  | [], j, x, h => by simp at h
  | y :: t, 0, x, h => by
    obtain rfl : y = x := by simpa using h
    have : sumZ dnS t ≤ sumZ (fun _ => (1 : Int)) t := sumZ_le _ _ t (fun z _ => by unfold dnS; split <;> omega)
    have h2 : sumZ (fun _ : SW => (1 : Int)) t = t.length * 1 := sumZ_const _ 1 t (fun _ _ => rfl)
    show dnS y + sumZ dnS t ≤ _
    rw [List.length_cons]
    push_cast
    omega
  | y :: t, j + 1, x, h => by
    have h1 := dn_le t j x (by simpa using h)
    have h2 : dnS y ≤ 1 := by unfold dnS; split <;> omega
    show dnS y + sumZ dnS t ≤ _
    rw [List.length_cons]
    push_cast
    omega
theorem InvS.next {n : Nat} {s : Nat} {al : List SW} {c : Int} {e : List Em} (hl : al.length = n) (hok : ∀ (j : Nat) (x : SW), al[j]? = some x → okS c x)
    (hd : sumZ dnS al = c) (ht : sumZ toldS al = e.length) (hs : 2 * (sumE e + sumZ owesS al) = c * (c + 1)) (hp : sumZ (potS n c) al + s ≤ n * (5 * n + 1)) (hc : 0 ≤ c)
    {i : Nat} {x y : SW} (hx : al[i]? = some x) {e' : List Em} (h1 : okS c y) (h2 : dnS y = dnS x) (h3 : e'.length + toldS x = e.length + toldS y) (h4 : sumE e' + owesS y = sumE e + owesS x) (h5 : potS n c y + 1 ≤ potS n c x) :
    InvS n (s + 1) (decS (al.set i y) c e') := by
  have hi : i < n := by rw [← hl]; exact (List.getElem?_eq_some_iff.1 hx).1
  refine ⟨al.set i y, c, e', rfl, by rw [List.length_set]; exact hl, fun j z hz => ?_, ?_, ?_, ?_, ?_, hc⟩
  · rw [List.getElem?_set] at hz
    split at hz
    · rw [if_pos (by omega)] at hz
      cases hz
      exact h1
    · exact hok j z hz
  · have := sumZ_set dnS al i x y hx; omega
  · have := sumZ_set toldS al i x y hx; omega
  · have := sumZ_set owesS al i x y hx
    rw [← hs]
    omega
  · have := sumZ_set (potS n c) al i x y hx
    push_cast
    omega
/-- A swap that is done: all others' potential does not grow. -/
theorem pot_up {n c : Int} {x : SW} (h : okS c x) : potS n (c + 1) x ≤ potS n c x := by
  obtain ⟨h0, h1, h2, h3, h4, _⟩ := h
  unfold potS
  split
  · exact Int.le_refl _
  · split
    · omega
    split
    · omega
    split <;> split <;> omega
theorem InvS.swap {n : Nat} {s : Nat} {al : List SW} {c : Int} {e : List Em} (hl : al.length = n) (hok : ∀ (j : Nat) (x : SW), al[j]? = some x → okS c x)
    (hd : sumZ dnS al = c) (ht : sumZ toldS al = e.length) (hs : 2 * (sumE e + sumZ owesS al) = c * (c + 1)) (hp : sumZ (potS n c) al + s ≤ n * (5 * n + 1)) (hc : 0 ≤ c)
    {i : Nat} {a b d : Int} (hx : al[i]? = some ⟨3, a, b, d⟩) (hb : b = c + 1) (ha : a = c) : InvS n (s + 1) (decS (al.set i ⟨4, a, b, 1⟩) b e) := by
  have hi : i < n := by rw [← hl]; exact (List.getElem?_eq_some_iff.1 hx).1
  have hcn := dn_le al i _ hx
  have e0 : dnS ⟨3, a, b, d⟩ = 0 := by simp [dnS, doneS]
  have e1 : dnS ⟨4, a, b, 1⟩ = 1 := by simp [dnS, doneS]
  rw [e0, hd, hl] at hcn
  refine ⟨al.set i ⟨4, a, b, 1⟩, b, e, rfl, by rw [List.length_set]; exact hl, fun j z hz => ?_, ?_, ?_, ?_, ?_, by omega⟩
  · rw [List.getElem?_set] at hz
    split at hz
    · rw [if_pos (by omega)] at hz
      cases hz
      unfold okS
      simp
    · obtain ⟨q0, q1, q2, q3, q4, q5⟩ := hok j z hz
      unfold okS
      omega
  · have := sumZ_set dnS al i _ ⟨4, a, b, 1⟩ hx; omega
  · have h := sumZ_set toldS al i _ ⟨4, a, b, 1⟩ hx
    have e0 : toldS ⟨3, a, b, d⟩ = 0 := by simp [toldS]
    have e1 : toldS ⟨4, a, b, 1⟩ = 0 := by simp [toldS]
    omega
  · have h := sumZ_set owesS al i _ ⟨4, a, b, 1⟩ hx
    have e0 : owesS ⟨3, a, b, d⟩ = 0 := by simp [owesS, doneS]
    have e1 : owesS ⟨4, a, b, 1⟩ = b := by simp [owesS, doneS]
    have e2 : b * (b + 1) = c * (c + 1) + 2 * b := by
      rw [hb, show c + 1 + 1 = c + 2 by omega, Int.mul_add, Int.mul_comm (c + 1) c]
      omega
    rw [e2]
    omega
  · have h := sumZ_set (potS n c) al i _ ⟨4, a, b, 1⟩ hx
    have e0 : potS n c ⟨3, a, b, d⟩ = 5 * (n - 1 - c) + 3 := by simp [potS, doneS, ha]
    have e1 : ∀ c', potS n c' ⟨4, a, b, 1⟩ = 2 := fun c' => by simp [potS, doneS]
    have h2 : sumZ (potS n b) (al.set i ⟨4, a, b, 1⟩) ≤ sumZ (potS n c) (al.set i ⟨4, a, b, 1⟩) := sumZ_le _ _ _ (fun z hz => by
      obtain ⟨j, hj⟩ := List.getElem?_of_mem hz
      rw [List.getElem?_set] at hj
      split at hj
      · rw [if_pos (by omega)] at hj
        cases hj
        rw [e1, e1]
        exact Int.le_refl _
      · rw [hb]
        exact pot_up (hok j z hj))
    rw [e0, e1] at h
    push_cast
    omega
theorem InvS.step {n : Nat} (hn : n ≤ 8) (s : Nat) (E : Wd) (i : Nat) (hI : InvS n s E) (hcn : canI E i = true) : InvS n (s + 1) (goD E i) := by
  obtain ⟨al, c, e, rfl, hl, hok, hd, ht, hs, hp, hc⟩ := hI
  obtain ⟨⟨pc, a, b, d⟩, hx, hcan⟩ := canI_map (mk := mkS) (al := al) rfl hcn
  have q := hok i _ hx
  have hc8 := dn_le al i _ hx
  rw [hd, hl] at hc8
  have Q := fun (y : SW) (e' : List Em) => InvS.next (y := y) (e' := e') hl hok hd ht hs hp hc hx
  have hd : pc < 6 := by
    have h1 := (canW_yes hcan).1
    have h1 : decide (6 ≤ pc) = false := h1
    simpa using h1
  obtain ⟨q0, q1, q2, q3, q4, q5⟩ := q
  simp only at q0 q1 q2 q3 q4 q5
  match pc, hd with
  | 0, _ => rw [goS0 hx]; exact Q ⟨1, c, b, d⟩ e (by unfold okS; simp; omega) (by simp [dnS, doneS]) (by simp [toldS]) (by simp [owesS, doneS]) (by simp [potS, doneS]; omega)
  | 1, _ => rw [goS1 hx]; exact Q ⟨2, a, c, d⟩ e (by unfold okS; simp; omega) (by simp [dnS, doneS]) (by simp [toldS]) (by simp [owesS, doneS]) (by simp [potS, doneS]; split <;> omega)
  | 2, _ =>
    have hb : b ≤ 100 := by
      have e0 : dnS ⟨2, a, b, d⟩ = 0 := by simp [dnS, doneS]
      omega
    rw [goS2 (by omega) hx]; exact Q ⟨3, a, b + 1, d⟩ e (by unfold okS; simp; omega) (by simp [dnS, doneS]) (by simp [toldS]) (by simp [owesS, doneS]) (by simp [potS, doneS]; split <;> omega)
  | 3, _ =>
    rw [goS3 hx]
    by_cases h : c = a
    · rw [if_pos h]
      exact InvS.swap hl hok (by assumption) ht hs hp hc hx (by omega) h.symm
    · rw [if_neg h]
      exact Q ⟨4, a, b, 0⟩ e (by unfold okS; simp) (by simp [dnS, doneS]) (by simp [toldS]) (by simp [owesS, doneS]) (by simp [potS, doneS]; split <;> omega)
  | 4, _ =>
    rw [goS4 hx]
    rcases q4 rfl with rfl | rfl
    · rw [if_pos rfl]
      exact Q ⟨0, a, b, 0⟩ e (by unfold okS; simp) (by simp [dnS, doneS]) (by simp [toldS]) (by simp [owesS, doneS]) (by simp [potS, doneS]; omega)
    · rw [if_neg (by decide)]
      exact Q ⟨5, a, b, 1⟩ e (by unfold okS; simp) (by simp [dnS, doneS]) (by simp [toldS]) (by simp [owesS, doneS]) (by simp [potS, doneS])
  | 5, _ => rw [goS5 hx]; exact Q ⟨6, a, b, d⟩ (e ++ [⟨i, b⟩]) (by unfold okS; simp) (by simp [dnS, doneS]) (by simp [toldS]) (by simp [owesS, doneS, sumE, sumZ_app, sumZ]) (by simp [potS, doneS])
theorem D0_S (n : Nat) : D0 (List.replicate n codeS) [] = decS (List.replicate n ⟨0, 0, 0, 0⟩) 0 [] := by
  unfold D0 decS
  rw [List.map_replicate, List.map_replicate]
  rfl
theorem InvS.start (n : Nat) : InvS n 0 (D0 (List.replicate n codeS) []) := by
  refine ⟨List.replicate n ⟨0, 0, 0, 0⟩, 0, [], D0_S n, List.length_replicate, fun j x hx => ?_, ?_, ?_, ?_, ?_, Int.le_refl _⟩
  · rw [List.getElem?_replicate] at hx
    split at hx
    · cases hx
      unfold okS; simp
    · cases hx
  · rw [sumZ_rep]; simp [dnS, doneS]
  · rw [sumZ_rep]; simp [toldS]
  · rw [sumZ_rep]; simp [owesS, doneS, sumE, sumZ]
  · rw [sumZ_rep]
    have e0 : potS n 0 ⟨0, 0, 0, 0⟩ = 5 * n + 1 := by simp [potS, doneS]; omega
    rw [e0]
    simp
theorem swaps_emits {n : Nat} (hn : n ≤ 8) (ps : List Int) : (loopW 0 (D0 (List.replicate n codeS) []) ps).1.emits.length ≤ n := by
  obtain ⟨al, c, e, he, hl, _, _, ht, _⟩ := (loop_inv (P := InvS n) (fun s E i h c => InvS.step hn s E i h c) ps 0 _ (InvS.start n)).1
  rw [he]
  show e.length ≤ n
  have h1 : sumZ toldS al ≤ sumZ (fun _ => (1 : Int)) al := sumZ_le _ _ al (fun z _ => by unfold toldS; split <;> omega)
  have h2 : sumZ (fun _ : SW => (1 : Int)) al = al.length * 1 := sumZ_const _ 1 al (fun _ _ => rfl)
  omega
/-- Who counts by comparing and swapping never loses a count either. -/
theorem swaps {n : Nat} (h1 : 1 ≤ n) (hn : n ≤ 8) {ps : List Int} (hp : 6 * n * n + 60 ≤ ps.length) {R : Wd} {s : Nat} (hl : loopW 0 (D0 (List.replicate n codeS) []) ps = (R, s)) :
    R.ts.length = n ∧ R.ts.map (stateW R) = List.replicate n 2 ∧ R.cells.getD 0 0 = n ∧ R.emits.length = n ∧ 2 * sumE R.emits = n * (n + 1) := by
  obtain ⟨hI, he⟩ := loop_inv (P := InvS n) (fun s E i h c => InvS.step hn s E i h c) ps 0 (D0 (List.replicate n codeS) []) (by
    refine ⟨List.replicate n ⟨0, 0, 0, 0⟩, 0, [], D0_S n, List.length_replicate, fun j x hx => ?_, ?_, ?_, ?_, ?_, Int.le_refl _⟩
    · rw [List.getElem?_replicate] at hx
      split at hx
      · cases hx
        unfold okS; simp
      · cases hx
    · rw [sumZ_rep]; simp [dnS, doneS]
    · rw [sumZ_rep]; simp [toldS]
    · rw [sumZ_rep]; simp [owesS, doneS, sumE, sumZ]
    · rw [sumZ_rep]
      have e0 : potS n 0 ⟨0, 0, 0, 0⟩ = 5 * n + 1 := by simp [potS, doneS]; omega
      rw [e0]
      simp)
  rw [hl] at hI he
  obtain ⟨al, c, e, rfl, hll, hok, hd, ht, hs, hpt, hc⟩ := hI
  have hnn : 0 ≤ sumZ (potS n c) al := sumZ_nonneg _ al (fun x hm => by
      obtain ⟨j, hj⟩ := List.getElem?_of_mem hm
      have h2 := dn_le al j x hj
      rw [hd, hll] at h2
      obtain ⟨q0, q1, q2, q3, q4, q5⟩ := hok j x hj
      unfold potS
      unfold dnS at h2
      split
      · split <;> (try split) <;> omega
      · rename_i hnd
        rw [if_neg hnd] at h2
        split
        · omega
        split
        · omega
        have : x.pc ≤ 3 := by
          simp [doneS] at hnd
          omega
        split <;> omega)
  have he : ableL (decS al c e) = [] := by
    rcases he with he | he
    · exact he
    · have he : s = 0 + ps.length := he
      simp only at hpt
      have e2 : (n : Int) * (5 * n + 1) = 5 * ((n * n : Nat) : Int) + n := by
        rw [Int.mul_add, Int.natCast_mul]
        rw [show (n : Int) * (5 * n) = 5 * (n * n) by rw [Int.mul_left_comm]]
        omega
      have e3 : 6 * n * n = 6 * (n * n) := by rw [Nat.mul_assoc]
      omega
  have hend : ∀ (j : Nat) (x : SW), al[j]? = some x → x.pc = 6 := fun j x hx => by
    have h2 : canW (decS al c e) (mkS x) = false := able_nil he (by show (al.map mkS)[j]? = _; rw [List.getElem?_map, hx]; rfl)
    have q1 := (hok j x hx).1
    obtain ⟨pc, a, b, d⟩ := x
    simp only at q1
    match pc, q1 with
    | 0, _ | 1, _ | 2, _ | 3, _ | 4, _ | 5, _ => simp [canW, mkS, insT, codeS, decS] at h2
    | 6, _ => rfl
  have hmem : ∀ x ∈ al, x.pc = 6 := fun x hm => by
    obtain ⟨j, hj⟩ := List.getElem?_of_mem hm
    exact hend j x hj
  have hcn : c = n := by
    rw [← hd, sumZ_const dnS 1 al (fun x hm => by simp [dnS, doneS, hmem x hm]), hll]
    omega
  refine ⟨by show (al.map mkS).length = n; simpa using hll, ?_, hcn, ?_, ?_⟩
  · show (al.map mkS).map _ = _
    rw [List.map_map, ← hll, ← List.map_const]
    refine List.map_congr_left fun x hm => ?_
    simp [stateW, mkS, hmem x hm]
  · rw [sumZ_const toldS 1 al (fun x hm => by simp [toldS, hmem x hm]), hll] at ht
    show e.length = n
    omega
  · rw [sumZ_const owesS 0 al (fun x hm => by simp [owesS, hmem x hm])] at hs
    show 2 * sumE e = _
    rw [← hcn, ← hs]
    omega
end Go.Proofs.Ytkcjghdopmigoaa.SC
