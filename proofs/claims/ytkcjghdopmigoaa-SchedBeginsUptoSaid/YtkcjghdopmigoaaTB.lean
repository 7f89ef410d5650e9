/- sched: what the bound on the bulk says of a row's length; the walks of the statements in the form of a row. -/
import Derived.Test.YtkcjghdopmigoaaRows
import Derived.Test.YtkcjghdopmigoaaTA
namespace Go.Proofs.Ytkcjghdopmigoaa.SC
open Go.RowKit Go.ChangeShapes Go.WideShapes Go.Proofs.YtkcjghdopmigoaaW.PrintWords
set_option linter.unusedVariables false
set_option linter.unusedSimpArgs false
set_option maxRecDepth 100000

theorem bulk_one {H : Type} (d : DataW H) : 1 ≤ Rows.uptoBulk d := by
  cases d with
  | lit l => cases l <;> simp [Rows.uptoBulk]
  | nil => simp [Rows.uptoBulk]
  | ptr d => simp [Rows.uptoBulk]
  | slice elems spare => simp [Rows.uptoBulk]
  | agg parts => simp [Rows.uptoBulk]
  | iface t d => simp [Rows.uptoBulk]
  | map entries => simp [Rows.uptoBulk]
  | held h => simp [Rows.uptoBulk]
theorem bulk_part {H : Type} {d : DataW H} : ∀ {l : List (DataW H)}, d ∈ l → Rows.uptoBulk d ≤ Rows.uptoBulkAll l
  | x :: r, h => by
    simp only [Rows.uptoBulkAll]
    rcases List.mem_cons.1 h with rfl | h
    · omega
    · have := bulk_part h
      omega
theorem bulk_length {H : Type} : ∀ l : List (DataW H), l.length ≤ Rows.uptoBulkAll l
  | [] => by simp [Rows.uptoBulkAll]
  | x :: r => by
    have h1 := bulk_one x
    have h2 := bulk_length r
    simp only [Rows.uptoBulkAll, List.length_cons]
    omega
theorem small_part {H : Type} {ds : List (DataW H)} (hk : Rows.uptoSmall H ds = true) {d : DataW H} (hd : d ∈ ds) : Rows.uptoBulk d ≤ 1048576 :=
  Nat.le_trans (bulk_part hd) (of_decide_eq_true hk)
section
variable {H : Type} {enc : TypeId × Value → H} {w : World} {base : Nat} {spare : Nat → Bool} {held : Bool}
theorem slice_len {t e : TypeId} (ht : Try.prog.underlying t = some (.slice e)) {fuel : Nat} {A : Option Addr} {len cap : Nat} {x : DataW H × List MemPlace} (h : DataW.trod enc Try.prog w base spare held fuel t [.slice A len cap] = some x) : len ≤ Rows.uptoBulk x.1 := by
  rcases Go.Deep.open_slice ht h with ⟨hcs, _⟩ | ⟨a, l, c, m, n, D, Pl, hcs, _, _, _, _, hx, _⟩
  · simp at hcs
    omega
  · simp at hcs
    obtain ⟨_, rfl, _⟩ := hcs
    rw [hx]
    simp only [Rows.uptoBulk]
    have := bulk_length ((List.range len).map D)
    simp at this
    omega
end
theorem schedBegins_row (A : Option Addr) (l c : Nat) (B : Option Addr) (m d : Nat) (P : Option Addr) (q p : Nat) (n : Int) (w : World)
    (F0 : ∃ A' len cap xs, Value.slice A l c = .slice A' len cap ∧ Kd.C (Kd.slice 35 kI) w A' len xs ∧ len ≤ cap ∧ len * 24 ≤ 140737488351232 ∧ (∀ p ∈ xs, p.length * 32 ≤ 140737488351232 ∧ ∀ y ∈ p, FitI y) ∧ (A' = none → cap = 0))
    (F1 : ∃ A' len cap xs, Value.slice B m d = .slice A' len cap ∧ Kd.C (Kd.int .i64) w A' len xs ∧ len ≤ cap ∧ len * 8 ≤ 140737488351232 ∧ (∀ p ∈ xs, In64 p) ∧ (A' = none → cap = 0))
    (F2 : ∃ A' len cap xs, Value.slice P q p = .slice A' len cap ∧ Kd.C (Kd.int .i64) w A' len xs ∧ len ≤ cap ∧ len * 8 ≤ 140737488351232 ∧ (∀ p ∈ xs, In64 p) ∧ (A' = none → cap = 0)) (hs : q ≤ 1048576)
    (F3 : (Lit.int .i64 n).wf = true) :
    Calls Try.prog 4 #[.slice A l c, .slice B m d, .slice P q p, .int .i64 n] w (TrueEnd w) := by
  obtain ⟨_, _, _, code, e0, a1, a2, _, _, _⟩ := F0
  obtain ⟨_, _, _, cells, e1, b1, b2, _, _, _⟩ := F1
  obtain ⟨_, _, _, picks, e2, c1, c2, _, c3, c4⟩ := F2
  cases e0; cases e1; cases e2
  obtain rfl : code.length = l := a1.1
  obtain rfl : cells.length = m := b1.1
  obtain rfl : picks.length = q := c1.1
  exact begins_w A c code B d cells P p picks n w a1 a2 b1 b2 c1 c2 hs c3 (wf_i64 n F3) c4
end Go.Proofs.Ytkcjghdopmigoaa.SC
