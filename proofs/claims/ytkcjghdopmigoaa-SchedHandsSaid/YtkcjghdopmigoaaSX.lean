/- sched: who shares nothing does what it does alone. Plain, no program in sight. -/
import Derived.Test.YtkcjghdopmigoaaSV
namespace Go.Proofs.Ytkcjghdopmigoaa.SC
open Go.RowKit Go.Proofs.YtkcjghdopmigoaaW.PrintWords
set_option linter.unusedVariables false
set_option linter.unusedSimpArgs false
set_option maxRecDepth 100000

def rep3 (x y z : I) : Nat → List I
  | 0 => []
  | j + 1 => rep3 x y z j ++ [x, y, z]
theorem rep3_len (x y z : I) : ∀ j, (rep3 x y z j).length = 3 * j
  | 0 => rfl
  | j + 1 => by
    show (rep3 x y z j ++ [x, y, z]).length = _
    rw [List.length_append, rep3_len x y z j]
    rfl
theorem rep3_get (x y z : I) : ∀ (a p : Nat), p < 3 * a → (rep3 x y z a).getD p zI = [x, y, z].getD (p % 3) zI
  | 0, p, h => by omega
  | j + 1, p, h => by
    show (rep3 x y z j ++ [x, y, z]).getD p zI = _
    rw [List.getD_eq_getElem?_getD, List.getElem?_append, rep3_len]
    split
    · rw [← List.getD_eq_getElem?_getD]
      exact rep3_get x y z j p (by assumption)
    · rw [← List.getD_eq_getElem?_getD, show p - 3 * j = p % 3 by omega]
theorem rep3_mem {x y z u : I} : ∀ {a : Nat}, u ∈ rep3 x y z a → u = x ∨ u = y ∨ u = z
  | 0, h => by simp [rep3] at h
  | j + 1, h => by
    rcases List.mem_append.1 h with h | h
    · exact rep3_mem h
    · simpa using h
def oneA (a : Nat) : List I := rep3 ⟨1, 0, 1, 0⟩ ⟨5, 0, 1, 0⟩ ⟨2, 1, 0, 0⟩ a
def twoA (b : Nat) : List I := rep3 ⟨1, 2, 2, 0⟩ ⟨5, 2, 2, 0⟩ ⟨2, 2, 2, 0⟩ b
def tkA (a p : Nat) : Tk := ⟨oneA a, p, [((p + 1) / 3 : Nat), 0, 0, 0], decide (3 * a ≤ p), false, -1, -1⟩
def tkB (b q : Nat) : Tk := ⟨twoA b, q, [0, 0, (2 * ((q + 1) / 3) : Nat), 0], decide (3 * b ≤ q), false, -1, -1⟩
def decA (a b p q : Nat) : Wd := ⟨[tkA a p, tkB b q], 0 :: ((p / 3 : Nat) : Int) :: ((2 * (q / 3) : Nat) : Int) :: List.replicate 13 0, List.replicate 16 (-1), []⟩
theorem end2a {u v t : Tk} {c h : List Int} {e : List Em} : endD ⟨[u, v].set 0 t, c, h, e⟩ 0 = ⟨[endT t, v], c, h, e⟩ := rfl
theorem end2b {u v t : Tk} {c h : List Int} {e : List Em} : endD ⟨[u, v].set 1 t, c, h, e⟩ 1 = ⟨[u, endT t], c, h, e⟩ := rfl
theorem goD_at {D : Wd} {i : Nat} {t : Tk} {x : I} (ht : D.ts[i]? = some t) (hw : t.wants = -1) (hx : insT t = x) : goD D i = endD (doI D i (nxT t) x) i := by
  unfold goD
  rw [ht]
  show endD (stepW D i t) i = _
  unfold stepW
  rw [if_neg (by rw [hw]; simp), hx]
theorem goA0 {a b p q : Nat} (ha : a ≤ 20) (hp : p < 3 * a) : goD (decA a b p q) 0 = decA a b (p + 1) q := by
  have hg := rep3_get ⟨1, 0, 1, 0⟩ ⟨5, 0, 1, 0⟩ ⟨2, 1, 0, 0⟩ a p hp
  have hl := rep3_len ⟨1, 0, 1, 0⟩ ⟨5, 0, 1, 0⟩ ⟨2, 1, 0, 0⟩ a
  rcases (show p % 3 = 0 ∨ p % 3 = 1 ∨ p % 3 = 2 by omega) with h | h | h
  · rw [h] at hg
    rw [goD_at (t := tkA a p) (x := ⟨1, 0, 1, 0⟩) rfl rfl hg, doI1 rfl]
    refine end2a.trans ?_
    have e1 : (p + 1) / 3 = p / 3 := by omega
    have e2 : (p + 1 + 1) / 3 = p / 3 := by omega
    simp [endT, nxT, tkA, decA, oneA, hl, e1, e2]
    omega
  · rw [h] at hg
    rw [goD_at (t := tkA a p) (x := ⟨5, 0, 1, 0⟩) rfl rfl hg, doI5 rfl]
    refine end2a.trans ?_
    have e1 : (p + 1) / 3 = p / 3 := by omega
    have e2 : (p + 1 + 1) / 3 = p / 3 + 1 := by omega
    simp [endT, nxT, tkA, decA, oneA, hl, e1, e2, wrapS (n := (p : Int) / 3 + 1) (by omega) (by omega)]
    omega
  · rw [h] at hg
    rw [goD_at (t := tkA a p) (x := ⟨2, 1, 0, 0⟩) rfl rfl hg, doI2 rfl]
    refine end2a.trans ?_
    have e1 : (p + 1) / 3 = p / 3 + 1 := by omega
    have e2 : (p + 1 + 1) / 3 = p / 3 + 1 := by omega
    simp [endT, nxT, tkA, decA, oneA, hl, e1, e2]
    omega
theorem goA1 {a b p q : Nat} (ha : b ≤ 20) (hp : q < 3 * b) : goD (decA a b p q) 1 = decA a b p (q + 1) := by
  have hg := rep3_get ⟨1, 2, 2, 0⟩ ⟨5, 2, 2, 0⟩ ⟨2, 2, 2, 0⟩ b q hp
  have hl := rep3_len ⟨1, 2, 2, 0⟩ ⟨5, 2, 2, 0⟩ ⟨2, 2, 2, 0⟩ b
  rcases (show q % 3 = 0 ∨ q % 3 = 1 ∨ q % 3 = 2 by omega) with h | h | h
  · rw [h] at hg
    rw [goD_at (t := tkB b q) (x := ⟨1, 2, 2, 0⟩) rfl rfl hg, doI1 rfl]
    refine end2b.trans ?_
    have e1 : (q + 1) / 3 = q / 3 := by omega
    have e2 : (q + 1 + 1) / 3 = q / 3 := by omega
    simp [endT, nxT, tkB, decA, twoA, hl, e1, e2]
    omega
  · rw [h] at hg
    rw [goD_at (t := tkB b q) (x := ⟨5, 2, 2, 0⟩) rfl rfl hg, doI5 rfl]
    refine end2b.trans ?_
    have e1 : (q + 1) / 3 = q / 3 := by omega
    have e2 : (q + 1 + 1) / 3 = q / 3 + 1 := by omega
    simp [endT, nxT, tkB, decA, twoA, hl, e1, e2, wrapS (n := 2 * ((q : Int) / 3) + 2) (by omega) (by omega)]
    omega
  · rw [h] at hg
    rw [goD_at (t := tkB b q) (x := ⟨2, 2, 2, 0⟩) rfl rfl hg, doI2 rfl]
    refine end2b.trans ?_
    have e1 : (q + 1) / 3 = q / 3 + 1 := by omega
    have e2 : (q + 1 + 1) / 3 = q / 3 + 1 := by omega
    simp [endT, nxT, tkB, decA, twoA, hl, e1, e2]
    omega
def InvA (a b : Nat) (s : Nat) (D : Wd) : Prop := ∃ p q, D = decA a b p q ∧ p ≤ 3 * a ∧ q ≤ 3 * b ∧ s = p + q
theorem InvA.step {a b : Nat} (ha : a ≤ 20) (hb : b ≤ 20) (s : Nat) (E : Wd) (i : Nat) (hI : InvA a b s E) (hcn : canI E i = true) : InvA a b (s + 1) (goD E i) := by
  obtain ⟨p, q, rfl, hp, hq, rfl⟩ := hI
  rcases i with _ | _ | i
  · have h := (canW_yes (show canW _ (tkA a p) = true from hcn)).1
    have h : decide (3 * a ≤ p) = false := h
    have h : p < 3 * a := by simpa using h
    exact ⟨p + 1, q, goA0 ha h, h, hq, by omega⟩
  · have h := (canW_yes (show canW _ (tkB b q) = true from hcn)).1
    have h : decide (3 * b ≤ q) = false := h
    have h : q < 3 * b := by simpa using h
    exact ⟨p, q + 1, goA1 hb h, hp, h, by omega⟩
  · cases hcn
theorem canA {D : Wd} {t : Tk} (hb : t.bad = false) (hc : t.cond = -1) (hw : t.wants = -1) (hx : (insT t).f0 ≠ 8) : canW D t = !t.ended := by
  cases he : t.ended <;> simp [canW, he, hb, hc, hw, hx]
theorem D0_A (a b : Nat) : D0 [oneA a, twoA b] [] = decA a b 0 0 := by
  have h1 : (oneA a).length = 3 * a := rep3_len _ _ _ a
  have h2 : (twoA b).length = 3 * b := rep3_len _ _ _ b
  simp [D0, decA, mkT, mk0, endT, tkA, tkB, h1, h2]
theorem op3 {x y z : I} (hx : x.f0 ≠ 8) (hy : y.f0 ≠ 8) (hz : z.f0 ≠ 8) (a p : Nat) : ((rep3 x y z a).getD p zI).f0 ≠ 8 := by
  rw [List.getD_eq_getElem?_getD]
  rcases h : (rep3 x y z a)[p]? with _ | u
  · show (zI : I).f0 ≠ 8
    decide
  · rcases rep3_mem (List.mem_of_getElem? h) with rfl | rfl | rfl <;> assumption
/-- Who shares nothing does what it does alone. -/
theorem aparts {a b : Nat} (ha : a ≤ 20) (hb : b ≤ 20) {ps : List Int} (hp : 3 * (a + b) ≤ ps.length) {R : Wd} {s : Nat} (hl : loopW 0 (D0 [oneA a, twoA b] []) ps = (R, s)) :
    R.ts.length = 2 ∧ R.ts.map (stateW R) = [2, 2] ∧ R.cells.getD 1 0 = a ∧ R.cells.getD 2 0 = 2 * b ∧ s = 3 * (a + b) ∧ R.emits = [] := by
  obtain ⟨hI, he⟩ := loop_inv (P := InvA a b) (fun s E i h c => InvA.step ha hb s E i h c) ps 0 (D0 [oneA a, twoA b] []) ⟨0, 0, D0_A a b, by omega, by omega, rfl⟩
  rw [hl] at hI he
  obtain ⟨p, q, rfl, hpa, hqb, hs⟩ := hI
  have hs : s = p + q := hs
  have hend : p = 3 * a ∧ q = 3 * b := by
    rcases he with he | he
    · have h1 : canW _ (tkA a p) = false := able_nil he (i := 0) rfl
      have h2 : canW _ (tkB b q) = false := able_nil he (i := 1) rfl
      rw [canA (t := tkA a p) rfl rfl rfl (op3 (x := ⟨1, 0, 1, 0⟩) (y := ⟨5, 0, 1, 0⟩) (z := ⟨2, 1, 0, 0⟩) (by decide) (by decide) (by decide) a p)] at h1
      rw [canA (t := tkB b q) rfl rfl rfl (op3 (x := ⟨1, 2, 2, 0⟩) (y := ⟨5, 2, 2, 0⟩) (z := ⟨2, 2, 2, 0⟩) (by decide) (by decide) (by decide) b q)] at h2
      have h1 : (!decide (3 * a ≤ p)) = false := h1
      have h2 : (!decide (3 * b ≤ q)) = false := h2
      simp at h1 h2
      omega
    · have he : s = 0 + ps.length := he
      omega
  obtain ⟨rfl, rfl⟩ := hend
  refine ⟨rfl, ?_, ?_, ?_, by omega, rfl⟩
  · simp [decA, stateW, tkA, tkB]
  · show (((3 * a / 3 : Nat)) : Int) = a
    omega
  · show (((2 * (3 * b / 3) : Nat)) : Int) = 2 * b
    omega
end Go.Proofs.Ytkcjghdopmigoaa.SC
