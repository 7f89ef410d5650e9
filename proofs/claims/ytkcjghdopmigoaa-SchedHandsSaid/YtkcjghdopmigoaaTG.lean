/- sched: who shares nothing: the walk. -/
import Derived.Test.YtkcjghdopmigoaaTC
import Derived.Test.YtkcjghdopmigoaaSX
namespace Go.Proofs.Ytkcjghdopmigoaa.SC
open Go.RowKit Go.Proofs.YtkcjghdopmigoaaW.PrintWords
set_option linter.unusedVariables false
set_option linter.unusedSimpArgs false
set_option maxRecDepth 100000

theorem abs_mod0 {t : Int} (ht : In64 t) (m : Nat) (hm : 0 < m) : ∃ n : Nat, absP t % (m : Int) = n ∧ n < m ∧ 0 ≤ absP t ∧ absP t ≤ 9223372036854775807 := by
  obtain ⟨h1, h2⟩ := ht
  have ha0 : 0 ≤ absP t ∧ absP t ≤ 9223372036854775807 := by unfold absP; split <;> omega
  have h3 := Int.emod_nonneg (absP t) (show (m : Int) ≠ 0 by omega)
  have h4 := Int.emod_lt_of_pos (absP t) (show (0 : Int) < m by omega)
  exact ⟨(absP t % (m : Int)).toNat, by omega, by omega, ha0.1, ha0.2⟩
/-- a row of instructions, of a length with a name -/
def OwnI (w : World) (base q : Nat) (v : Value) (xs : List I) : Prop := q = xs.length ∧ w.ownsRow base 35 4 v q (cellsI xs)
theorem OwnI.push {W : World} {base q c : Nat} {v : Value} {xs ys : List I} {a : Addr} {m : Nat} (h : OwnI W base q v xs) (hY : Kd.C kI W (some a) m ys) (hl : q + m ≤ 1000000) (hbase : base ≤ W.heap.size) :
    ∃ q1 A1 c1 w1, (Builtin.append_ #[36, 36] 36 #[v, .slice (some a) m c]).run Try.prog W = .ok (.slice A1 q1 c1) w1 ∧ OwnI w1 base q1 (.slice A1 q1 c1) (xs ++ ys) ∧ W.grownBy w1 v.ownBlock := by
  obtain ⟨rfl, h⟩ := h
  obtain rfl : ys.length = m := hY.1
  obtain ⟨v1, w1, h1, h2, h3⟩ := run_apI (c := c) h hY hl hbase
  obtain ⟨A1, c1, rfl⟩ := own_form' h2
  exact ⟨_, A1, c1, w1, h1, ⟨rfl, h2⟩, h3⟩
theorem OwnI.reads {W : World} {base q : Nat} {A : Option Addr} {c : Nat} {xs : List I} (h : OwnI W base q (.slice A q c) xs) : q ≤ c ∧ Kd.C kI W A q xs := by
  obtain ⟨rfl, h⟩ := h
  obtain ⟨A1, c1, e, h1, h2⟩ := own_readsI h
  injection e with e1 e2 e3
  subst e1 e3
  exact ⟨h1, h2⟩
theorem OwnI.upto {w w1 : World} {base q : Nat} {v : Value} {xs : List I} (h : OwnI w base q v xs) (hb : Below w.heap.size w w1) : OwnI w1 base q v xs := ⟨h.1, own_upto h.2 hb⟩
theorem OwnI.nil (w : World) (base : Nat) : OwnI w base 0 (.slice none 0 0) [] := ⟨rfl, World.ownsRow_nil _ _ _ _⟩
/-- One literal more behind a row, in a world of its own. -/
theorem OwnI.lit {w0 W : World} {base q : Nat} {v : Value} {xs : List I} (h : OwnI W base q v xs) (ys : List I) (cs : Array Value) (hcs : cs = (cellsI ys).toArray) {m : Nat} (hm : ys.length = m) (hb : Below w0.heap.size w0 W) (hbase : w0.heap.size ≤ base) (hbW : base ≤ W.heap.size) (hl : q + m ≤ 1000000) :
    ∃ q1 A1 c1 w1, (Builtin.append_ #[36, 36] 36 #[v, .slice (some ⟨W.heap.size, 0, none⟩) m m]).run Try.prog (W.alloc (.cells cs 35)) = .ok (.slice A1 q1 c1) w1 ∧ OwnI w1 base q1 (.slice A1 q1 c1) (xs ++ ys) ∧ Below w0.heap.size w0 w1 := by
  have hC : Kd.C kI (W.alloc (.cells cs 35)) (some ⟨W.heap.size, 0, none⟩) m ys := by rw [← hm]; exact C_insts (heap_alloc_new W _) hcs (by omega)
  obtain ⟨q1, A1, c1, w1, h1, h2, h3⟩ := OwnI.push (c := m) (show OwnI (W.alloc (.cells cs 35)) base q v xs from ⟨h.1, h.2.alloc _⟩) hC hl (by simp; omega)
  exact ⟨q1, A1, c1, w1, h1, h2, (hb.alloc hb.size _).grown h3 (by have := hb.size; simp; omega) (fun k hk => Nat.le_trans hbase (own_base h.2 k hk))⟩
theorem codeB_A {a : Nat} (ha : a ≤ 20) : codeB (oneA a) = true := by
  unfold codeB
  rw [show (oneA a).length = 3 * a from rep3_len _ _ _ a, decide_eq_true (by omega), Bool.true_and, List.all_eq_true]
  intro x hx
  rcases rep3_mem hx with rfl | rfl | rfl <;> rfl
theorem codeB_A2 {b : Nat} (hb : b ≤ 20) : codeB (twoA b) = true := by
  unfold codeB
  rw [show (twoA b).length = 3 * b from rep3_len _ _ _ b, decide_eq_true (by omega), Bool.true_and, List.all_eq_true]
  intro x hx
  rcases rep3_mem hx with rfl | rfl | rfl <;> rfl
theorem aparts_emits {a b : Nat} (ha : a ≤ 20) (hb : b ≤ 20) (ps : List Int) : (loopW 0 (D0 [oneA a, twoA b] []) ps).1.emits = [] := by
  obtain ⟨p, q, e, _⟩ := (loop_inv (P := InvA a b) (fun s E i h c => InvA.step ha hb s E i h c) ps 0 (D0 [oneA a, twoA b] []) ⟨0, 0, D0_A a b, by omega, by omega, rfl⟩).1
  rw [e]
  rfl
end Go.Proofs.Ytkcjghdopmigoaa.SC
