/-
  How the arguments of this place's laws read: a Call, and slices of Calls and of bytes. No condition.
-/
import Derived.Test.YtcdcladefccifaaH
import Derived.WalkKit
import Derived.ProofKit
import Derived.OpenShut
import Derived.SizedLaws
import Derived.Deep.Slices
import Derived.Lib.SmallJoins
set_option linter.unusedVariables false
set_option linter.unusedSimpArgs false
namespace Go.Proofs
open Go.RowKit Go.ChangeShapes Go.WideShapes BU
namespace BU
section
variable {H : Type} {enc : TypeId × Value → H} {w : World} {base : Nat} {spare : Nat → Bool} {held : Bool}
/-- a datum none of whose strings and slices passes the reach -/
def Light {H : Type} (t : TypeId) (d : DataW H) : Prop := ∀ n ∈ d.weights Try.prog t, n ≤ reachBytes
theorem bytes_form {fuel : Nat} {v : Value} {x : DataW H × List MemPlace} (h : DataW.trod enc Try.prog w base spare held fuel 40 [v] = some x) (hl : Light 40 x.1) :
    ∃ A len cap z, v = .slice A len cap ∧ RdB w A len z ∧ len ≤ 140737488351232 ∧ (∀ n ∈ z, (Lit.int .u8 n).wf = true) ∧ (A = none → cap = 0) := by
  rcases open_ints Try.underlying40 Try.underlying5 (by kernel_rfl) h with ⟨hcs, _⟩ | ⟨x0, l, c, zs, hcs, _, hlc, hm, hz, hx, hcell, hwz⟩
  · simp at hcs
    subst hcs
    exact ⟨none, 0, 0, [], rfl, ⟨rfl, fun h => absurd h (by omega)⟩, by omega, by simp, fun _ => rfl⟩
  · simp at hcs
    subst hcs
    have hlen : l ≤ zs.length := by
      rw [hz]
      split
      · exact hlc
      · exact Nat.le_refl _
    refine ⟨some x0, l, c, zs.take l, rfl, ⟨by rw [List.length_take]; omega, fun h0 => ⟨x0, rfl, fun j hj => ?_⟩⟩, ?_, fun n hn => hwz n (List.mem_of_mem_take hn), fun h => by cases h⟩
    · rw [hcell j (by omega)]
      simp [List.getD_eq_getElem?_getD, List.getElem?_take, hj]
    · obtain ⟨hx1, _⟩ := Prod.mk.inj hx
      have := hl ((zs.length) * Try.prog.bytesOf 5) (by
        rw [hx]
        simp only [DataW.weights, Try.underlying40, List.mem_cons]
        left
        congr 1
        simp [lits]
        omega)
      have e5 : Try.prog.bytesOf 5 = 1 := by kernel_rfl
      rw [e5] at this
      simp only [reachBytes] at this
      omega
theorem list5 {α : Type} (l : List α) (h : l.length = 5) : ∃ a b c d e, l = [a, b, c, d, e] := by
  match l, h with
  | [a, b, c, d, e], _ => exact ⟨a, b, c, d, e, rfl⟩
theorem weights_part {H : Type} {ts : List TypeId} {ds : List (DataW H)} (h : ∀ n ∈ DataW.weightsEach Try.prog ts ds, n ≤ reachBytes) {j : Nat} {t : TypeId} {d : DataW H} (ht : ts[j]? = some t) (hd : ds[j]? = some d) : Light t d :=
  fun n hn => h n (DataW.weights_mem_each ht hd n hn)
theorem field_at {fs : Array Field} {n : Nat} {cs : List Value} {xs : List (DataW H × List MemPlace)} (hf : ∀ (i : Nat) (f : Field), fs[i]? = some f → DataW.trod enc Try.prog w base spare held n f.type ((cs.drop f.offset).take (Try.prog.cellsOf f.type)) = xs[i]?)
    (i t off size : Nat) (hi : (fs[i]?).map (fun f => (f.type, f.offset)) = some (t, off)) (hs : Try.prog.cellsOf t = size) : DataW.trod enc Try.prog w base spare held n t ((cs.drop off).take size) = xs[i]? := by
  obtain ⟨f, hf1, hf2⟩ := Option.map_eq_some_iff.1 hi
  injection hf2 with h1 h2
  subst h1 h2 hs
  exact hf i f hf1
/-- A Call, as its five cells. -/
def IsCall (w : World) (vs : List Value) : Prop := ∃ k at_ n m A len cap z, vs = [.int .i64 k, .int .i64 at_, .int .i64 n, .int .i64 m, .slice A len cap] ∧ (Lit.int .i64 k).wf = true ∧ (Lit.int .i64 at_).wf = true ∧ (Lit.int .i64 n).wf = true ∧ (Lit.int .i64 m).wf = true ∧
  RdB w A len z ∧ len ≤ 140737488351232 ∧ (∀ n ∈ z, (Lit.int .u8 n).wf = true) ∧ (A = none → cap = 0)
theorem call_form {fuel : Nat} {cs : List Value} {x : DataW H × List MemPlace} (h : DataW.trod enc Try.prog w base spare held fuel 42 cs = some x) (hl : Light 42 x.1) : IsCall w cs := by
  obtain ⟨xs, n, _, hx, hcl, hlen, hf⟩ := DataW.trod_struct Try.underlying42 h
  have e42 : Try.prog.cellsOf 42 = 5 := by kernel_rfl
  have e3 : Try.prog.cellsOf 3 = 1 := by kernel_rfl
  have e40 : Try.prog.cellsOf 40 = 1 := by kernel_rfl
  rw [e42] at hcl
  obtain ⟨c0, c1, c2, c3, c4, rfl⟩ := list5 cs hcl
  obtain ⟨y0, y1, y2, y3, y4, rfl⟩ := list5 xs hlen
  have h0 := field_at hf 0 3 0 1 rfl e3
  have h1 := field_at hf 1 3 1 1 rfl e3
  have h2 := field_at hf 2 3 2 1 rfl e3
  have h3 := field_at hf 3 3 3 1 rfl e3
  have h4 := field_at hf 4 40 4 1 rfl e40
  simp only [List.drop, List.take, List.getElem?_cons_zero, List.getElem?_cons_succ] at h0 h1 h2 h3 h4
  obtain ⟨k, hk, _, wk⟩ := DataW.trod_int Try.underlying3 h0
  obtain ⟨a, ha, _, wa⟩ := DataW.trod_int Try.underlying3 h1
  obtain ⟨b, hb, _, wb⟩ := DataW.trod_int Try.underlying3 h2
  obtain ⟨d, hd, _, wd⟩ := DataW.trod_int Try.underlying3 h3
  have hl4 : Light 40 y4.1 := by
    have hl' : ∀ n ∈ x.1.weights Try.prog 42, n ≤ reachBytes := hl
    rw [hx] at hl'
    simp only [DataW.weights, Try.underlying42] at hl'
    exact weights_part hl' (j := 4) rfl rfl
  obtain ⟨A, len, cap, z, he, hr, hlen, hz⟩ := bytes_form h4 hl4
  simp only [List.cons.injEq, and_true] at hk ha hb hd
  subst hk ha hb hd he
  exact ⟨k, a, b, d, A, len, cap, z, rfl, wk, wa, wb, wd, hr, hlen, hz⟩
end
end BU
end Go.Proofs
