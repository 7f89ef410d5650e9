/- sched: a task ends; can a task go; a mutex is given back; what a task is. -/
import Derived.Test.YtkcjghdopmigoaaSE
namespace Go.Proofs.Ytkcjghdopmigoaa.SC
open Go.RowKit Go.Proofs.YtkcjghdopmigoaaW.PrintWords
set_option linter.unusedVariables false
set_option linter.unusedSimpArgs false
set_option maxRecDepth 100000

/-- Where a task lies. -/
def TB (w : World) (b : Nat) (t : Tk) (cv : Value) : Prop := w.heap[b]? = some (.cells (tArr t cv).toArray 51 (0, 0)) ∧ t.r.length = 4
theorem len4 {l : List Int} (h : l.length = 4) : ∃ a b c d, l = [a, b, c, d] := by
  match l, h with
  | [a, b, c, d], _ => exact ⟨a, b, c, d, rfl⟩
theorem TB.cells {w : World} {b : Nat} {t : Tk} {cv : Value} (h : TB w b t cv) : w.cell? ⟨b, 0, none⟩ = some cv ∧ w.cell? ⟨b, 1, none⟩ = some (.int .i64 (t.pc : Int)) ∧ w.cell? ⟨b, 6, none⟩ = some (.bool t.ended) ∧ w.cell? ⟨b, 7, none⟩ = some (.bool t.bad) ∧ w.cell? ⟨b, 8, none⟩ = some (.int .i64 t.cond) ∧ w.cell? ⟨b, 9, none⟩ = some (.int .i64 t.wants) := by
  obtain ⟨h1, h2⟩ := h
  obtain ⟨r0, r1, r2, r3, hr⟩ := len4 h2
  unfold tArr at h1
  rw [hr] at h1
  refine ⟨?_, ?_, ?_, ?_, ?_, ?_⟩ <;> simp [World.cell?, h1, nums]
theorem TB.reg {w : World} {b : Nat} {t : Tk} {cv : Value} (h : TB w b t cv) {a : Nat} (ha : a < 4) : w.cell? ⟨b, 2 + a, none⟩ = some (.int .i64 (t.r.getD a 0)) := by
  obtain ⟨h1, h2⟩ := h
  obtain ⟨r0, r1, r2, r3, hr⟩ := len4 h2
  unfold tArr at h1
  rw [hr] at h1 ⊢
  match a, ha with
  | 0, _ => simp [World.cell?, h1, nums]
  | 1, _ => simp [World.cell?, h1, nums]
  | 2, _ => simp [World.cell?, h1, nums]
  | 3, _ => simp [World.cell?, h1, nums]
theorem TB.frozen {w : World} {b : Nat} {t : Tk} {cv : Value} (h : TB w b t cv) (k : Nat) : w.frozen? ⟨b, k, none⟩ = false := by
  obtain ⟨h1, _⟩ := h
  simp [World.frozen?, h1]
theorem TB.lt {w : World} {b : Nat} {t : Tk} {cv : Value} (h : TB w b t cv) : b < w.heap.size := (Array.getElem?_eq_some_iff.1 h.1).1
theorem TB.below {w w1 : World} {b : Nat} {t : Tk} {cv : Value} (h : TB w b t cv) (hb : Below w.heap.size w w1) : TB w1 b t cv := ⟨(hb.block b h.lt).trans h.1, h.2⟩
section
variable {w : World} {b : Nat} {t : Tk} {cv : Value}
theorem TB.set (h : TB w b t cv) {k : Nat} {v : Value} {t' : Tk} (hr : t'.r.length = 4) (he : (tArr t cv).set k v = tArr t' cv) : TB (w.setCell ⟨b, k, none⟩ v) b t' cv := by
  refine ⟨?_, hr⟩
  rw [heap_setCell_same w b k _ 51 v h.1, List.setIfInBounds_toArray, he]
theorem TB.setPc (h : TB w b t cv) (v : Nat) : TB (w.setCell ⟨b, 1, none⟩ (.int .i64 (v : Int))) b { t with pc := v } cv := h.set h.2 rfl
theorem TB.setEnded (h : TB w b t cv) (v : Bool) : TB (w.setCell ⟨b, 6, none⟩ (.bool v)) b { t with ended := v } cv := h.set h.2 (by
  obtain ⟨r0, r1, r2, r3, hr⟩ := len4 h.2
  unfold tArr; rw [hr]; rfl)
theorem TB.setBad (h : TB w b t cv) (v : Bool) : TB (w.setCell ⟨b, 7, none⟩ (.bool v)) b { t with bad := v } cv := h.set h.2 (by
  obtain ⟨r0, r1, r2, r3, hr⟩ := len4 h.2
  unfold tArr; rw [hr]; rfl)
theorem TB.setCond (h : TB w b t cv) (v : Int) : TB (w.setCell ⟨b, 8, none⟩ (.int .i64 v)) b { t with cond := v } cv := h.set h.2 (by
  obtain ⟨r0, r1, r2, r3, hr⟩ := len4 h.2
  unfold tArr; rw [hr]; rfl)
theorem TB.setWants (h : TB w b t cv) (v : Int) : TB (w.setCell ⟨b, 9, none⟩ (.int .i64 v)) b { t with wants := v } cv := h.set h.2 (by
  obtain ⟨r0, r1, r2, r3, hr⟩ := len4 h.2
  unfold tArr; rw [hr]; rfl)
theorem TB.setReg (h : TB w b t cv) {a : Nat} (ha : a < 4) (v : Int) : TB (w.setCell ⟨b, 2 + a, none⟩ (.int .i64 v)) b { t with r := t.r.set a v } cv := h.set (by simpa using h.2) (by
  obtain ⟨r0, r1, r2, r3, hr⟩ := len4 h.2
  unfold tArr; rw [hr]
  match a, ha with
  | 0, _ => rfl
  | 1, _ => rfl
  | 2, _ => rfl
  | 3, _ => rfl)
end
set_option maxHeartbeats 4000000 in
theorem ends_w (b : Nat) (t : Tk) (A : Option Addr) (c : Nat) (w : World) (h : TB w b t (.slice A t.code.length c)) :
    Calls Try.prog 15 #[.pointer (some ⟨b, 0, none⟩)] w fun e w' => e = .returned (.tuple #[]) ∧ TB w' b (endT t) (.slice A t.code.length c) ∧ ∃ v, w' = (w.drew).setCell ⟨b, 6, none⟩ v := by
  obtain ⟨c0, c1, c6, _⟩ := h.cells
  have f6 := h.frozen 6
  have hd : TB w.drew b t (.slice A t.code.length c) := h
  have H := Lib.hid hd
  obtain ⟨pc, hpc⟩ : ∃ pc, t.pc = pc := ⟨_, rfl⟩
  obtain ⟨n, hn⟩ : ∃ n, t.code.length = n := ⟨_, rfl⟩
  have Hpc := Lib.hid (And.intro hpc hn)
  rw [hpc] at c1
  rw [hn] at c0 H ⊢
  clear h hpc hn hd
  cases he : t.ended
  · have He := Lib.hid he
    rw [he] at c6
    clear he
    by_cases hle : n ≤ pc
    · have d0 : decide ((n : Int) ≤ (pc : Int)) = true := decide_eq_true (by omega)
      have d1 : decide (n ≤ pc) = true := decide_eq_true hle
      go_enter Try.func15, Try.ntmps15
      go_region
      all_goals (go_end0; refine ⟨rfl, ?_, _, rfl⟩)
      all_goals (
        have h2 := H.out.setEnded true
        rw [show endT t = { t with ended := true } from by unfold endT; rw [He.out, Hpc.out.1, Hpc.out.2, d1]; rfl]
        exact h2)
    · have d0 : decide ((n : Int) ≤ (pc : Int)) = false := decide_eq_false (by omega)
      have d1 : decide (n ≤ pc) = false := decide_eq_false hle
      go_enter Try.func15, Try.ntmps15
      go_region
      all_goals (go_end0; refine ⟨rfl, ?_, _, rfl⟩)
      all_goals (
        have h2 := H.out.setEnded false
        rw [show endT t = { t with ended := false } from by unfold endT; rw [He.out, Hpc.out.1, Hpc.out.2, d1]; rfl]
        exact h2)
  · have He := Lib.hid he
    rw [he] at c6
    clear he
    go_enter Try.func15, Try.ntmps15
    go_region
    all_goals (go_end0; refine ⟨rfl, ?_, _, rfl⟩)
    all_goals (
      have h2 := H.out.setEnded true
      rw [show endT t = { t with ended := true } from by unfold endT; rw [He.out]; rfl]
      exact h2)
end Go.Proofs.Ytkcjghdopmigoaa.SC
