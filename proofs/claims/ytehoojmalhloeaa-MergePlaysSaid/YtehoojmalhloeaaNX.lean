/- merge: lent lists are overwritten. -/
import Derived.Test.YtehoojmalhloeaaNW
namespace Go.Proofs.Ytehoojmalhloeaa.CM
open Go.RowKit Go.Proofs.YtehoojmalhloeaaW.PrintWords
set_option linter.unusedVariables false
set_option linter.unusedSimpArgs false
set_option maxRecDepth 100000

/-- Lists that are lent, whatever stands in them; their memory lies from m0 to m1. -/
def Zer (m0 m1 : Nat) (D : List (List PC.S44)) (v : Value) (w : World) : Prop :=
  ∃ vs, w.ownsRow m0 22 1 v D.length vs ∧ ∀ j, j < D.length → ∃ A c, vs[j]? = some (.slice A (D.getD j []).length c) ∧ (0 < (D.getD j []).length → ∃ g cells, A = some ⟨g, 0, none⟩ ∧ m0 ≤ g ∧ g < m1 ∧ w.heap[g]? = some (.cells cells 44 (0, 0)) ∧ (D.getD j []).length * 4 ≤ cells.size)
theorem Lent.zer {w0 w : World} {D : List (List PC.S44)} {v : Value} (h : Lent w0 D D.length v w) : Zer w0.heap.size w.heap.size D v w := by
  obtain ⟨h1, vs, h2, h3⟩ := h
  refine ⟨vs, h2, fun j hj => ?_⟩
  obtain ⟨u, hu, hR⟩ := h3 j hj
  obtain ⟨A1, k1, hv, _, _⟩ := Kd.R_reads hR
  subst hv
  refine ⟨A1, k1, hu, fun hp => ?_⟩
  have ho := own44 hR
  rcases ho.2 with ⟨e, h0⟩ | ⟨g, cap, cur, e, hg, hh, hc1, hc2, hc3, hc4⟩
  · omega
  · injection e with e1 e2 e3
    subst e1
    refine ⟨g, cur, rfl, hg, own_lt ho g rfl, hh, ?_⟩
    have := Nat.mul_le_mul_right 4 hc1
    omega
theorem Zer.below {m0 m1 : Nat} {D : List (List PC.S44)} {v : Value} {w w1 : World} (h : Zer m0 m1 D v w) (hb : Below w.heap.size w w1) : Zer m0 m1 D v w1 := by
  obtain ⟨vs, h2, h3⟩ := h
  refine ⟨vs, own_move h2 (fun k hk => hb.block k (own_lt h2 k hk)), fun j hj => ?_⟩
  obtain ⟨A, c, hu, h4⟩ := h3 j hj
  refine ⟨A, c, hu, fun hp => ?_⟩
  obtain ⟨g, cells, e, h5, h6, h7, h8⟩ := h4 hp
  exact ⟨g, cells, e, h5, h6, (hb.block g (Array.getElem?_eq_some_iff.1 h7).1).trans h7, h8⟩
theorem Zer.row {m0 m1 : Nat} {D : List (List PC.S44)} {ad : Option Addr} {n c : Nat} {w : World} (h : Zer m0 m1 D (.slice ad n c) w) {j : Nat} (hj : j < D.length) :
    ∃ o A c', ad = some ⟨o, 0, none⟩ ∧ n = D.length ∧ w.cell? ⟨o, j, none⟩ = some (.slice A (D.getD j []).length c') ∧ (0 < (D.getD j []).length → ∃ g cells, A = some ⟨g, 0, none⟩ ∧ m0 ≤ g ∧ g < m1 ∧ w.heap[g]? = some (.cells cells 44 (0, 0)) ∧ (D.getD j []).length * 4 ≤ cells.size) := by
  obtain ⟨vs, ⟨h2, h2'⟩, h3⟩ := h
  rcases h2' with ⟨_, h0⟩ | ⟨o, cap, cur, e, hg, hh, hc1, hc2, hc3, hc4⟩
  · omega
  · injection e with e1 e2 e3
    subst e1 e2 e3
    obtain ⟨A, c', hu, h4⟩ := h3 j hj
    refine ⟨o, A, c', rfl, rfl, ?_, h4⟩
    have hcj : cur[j]? = some (.slice A (D.getD j []).length c') := by
      rw [← hc4, List.getElem?_take] at hu
      split at hu
      · rw [← Array.getElem?_toList]; exact hu
      · cases hu
    simp [World.cell?, hh, hcj]
theorem cells_at {w : World} {g m t : Nat} {cells : Array Value} (h : w.heap[g]? = some (.cells cells t (0, 0))) (hm : m < cells.size) : ∃ u, w.cell? ⟨g, m, none⟩ = some u := ⟨cells[m], by simp [World.cell?, h, hm]⟩
theorem cells_fr {w : World} {g m t : Nat} {cells : Array Value} (h : w.heap[g]? = some (.cells cells t (0, 0))) : w.frozen? ⟨g, m, none⟩ = false := by simp [World.frozen?, h]
/-- A store into a list. -/
theorem Zer.set {m0 m1 : Nat} {D : List (List PC.S44)} {v : Value} {w : World} (h : Zer m0 m1 D v w) {g m : Nat} {cells : Array Value} (hg : w.heap[g]? = some (.cells cells 44 (0, 0))) (u : Value) : Zer m0 m1 D v (w.setCell ⟨g, m, none⟩ u) := by
  obtain ⟨vs, h2, h3⟩ := h
  refine ⟨vs, own_move h2 (fun k hk => heap_setCell_other _ _ _ _ (fun e => ?_)), fun j hj => ?_⟩
  · subst e
    obtain ⟨cl, hcl⟩ := own_typed h2 _ hk
    rw [hg] at hcl
    cases hcl
  · obtain ⟨A, c, hu, h4⟩ := h3 j hj
    refine ⟨A, c, hu, fun hp => ?_⟩
    obtain ⟨g', cells', e, h5, h6, h7, h8⟩ := h4 hp
    by_cases hgg : g' = g
    · subst hgg
      refine ⟨g', _, e, h5, h6, heap_setCell_same w g' m _ 44 u h7, ?_⟩
      simpa using h8
    · exact ⟨g', cells', e, h5, h6, (heap_setCell_other _ _ _ _ (fun e => hgg (by simpa using e))).trans h7, h8⟩
theorem Zer.set4 {m0 m1 : Nat} {D : List (List PC.S44)} {v : Value} {w : World} (h : Zer m0 m1 D v w) {g m : Nat} {cells : Array Value} (hg : w.heap[g]? = some (.cells cells 44 (0, 0))) (u0 u1 u2 u3 : Value) : Zer m0 m1 D v ((((w.setCell ⟨g, m, none⟩ u0).setCell ⟨g, m + 1, none⟩ u1).setCell ⟨g, m + 2, none⟩ u2).setCell ⟨g, m + 3, none⟩ u3) := by
  have h1 := heap_setCell_same w g m _ 44 u0 hg
  have h2 := heap_setCell_same _ g (m + 1) _ 44 u1 h1
  have h3 := heap_setCell_same _ g (m + 2) _ 44 u2 h2
  exact (((h.set hg u0).set h1 u1).set h2 u2).set h3 u3

section
variable {w0 w w1 : World} {X Rb cp : Nat} {s : Sh} {q q' : Option Nat} {F : Nat → Prop} {LA : Option Addr} {L : List PC.S44} {v v' : Int}
end
end Go.Proofs.Ytehoojmalhloeaa.CM
