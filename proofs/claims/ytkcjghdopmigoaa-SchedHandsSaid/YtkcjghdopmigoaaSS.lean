/- How the arguments of this place's statements read: instructions, numbers, programs. No condition. -/
import Derived.Test.YtkcjghdopmigoaaSR
import Derived.WalkKit
import Derived.ProofKit
import Derived.OpenShut
import Derived.SizedLaws
import Derived.Deep.Slices
import Derived.Deep.Fields
import Derived.Lib.SmallJoins
namespace Go.Proofs.Ytkcjghdopmigoaa.SC
open Go.RowKit Go.ChangeShapes Go.WideShapes Go.Proofs.YtkcjghdopmigoaaW.PrintWords
set_option linter.unusedVariables false
set_option linter.unusedSimpArgs false
set_option maxRecDepth 100000
section
variable {H : Type} {enc : TypeId × Value → H} {w : World} {base : Nat} {spare : Nat → Bool} {held : Bool}
/-- a datum none of whose strings and slices passes the reach -/
def Light {H : Type} (t : TypeId) (d : DataW H) : Prop := ∀ n ∈ d.weights Try.prog t, n ≤ reachBytes
theorem weightsAll_mem {H : Type} {e : TypeId} : ∀ {l : List (DataW H)} {d : DataW H} {n : Nat}, d ∈ l → n ∈ d.weights Try.prog e → n ∈ DataW.weightsAll Try.prog e l
  | a :: l, d, n, hd, hn => by
    unfold DataW.weightsAll
    rcases List.mem_cons.1 hd with rfl | h
    · exact List.mem_append_left _ hn
    · exact List.mem_append_right _ (weightsAll_mem h hn)
theorem weights_part {H : Type} {ts : List TypeId} {ds : List (DataW H)} (h : ∀ n ∈ DataW.weightsEach Try.prog ts ds, n ≤ reachBytes) {j : Nat} {t : TypeId} {d : DataW H} (ht : ts[j]? = some t) (hd : ds[j]? = some d) : Light t d :=
  fun n hn => h n (DataW.weights_mem_each ht hd n hn)
theorem field_at {fs : Array Field} {n : Nat} {cs : List Value} {xs : List (DataW H × List MemPlace)} (hf : ∀ (i : Nat) (f : Field), fs[i]? = some f → DataW.trod enc Try.prog w base spare held n f.type ((cs.drop f.offset).take (Try.prog.cellsOf f.type)) = xs[i]?)
    (i t off size : Nat) (hi : (fs[i]?).map (fun f => (f.type, f.offset)) = some (t, off)) (hs : Try.prog.cellsOf t = size) : DataW.trod enc Try.prog w base spare held n t ((cs.drop off).take size) = xs[i]? := by
  obtain ⟨f, hf1, hf2⟩ := Option.map_eq_some_iff.1 hi
  injection hf2 with h1 h2
  subst h1 h2 hs
  exact hf i f hf1

/-- A slice whose elements read so reads as a list. -/
theorem slice_form {α : Type} (z : α) (d : Kd α) (Q : α → Prop) {t e bytes : Nat} (ht : Try.prog.underlying t = some (.slice e)) (hC : Try.prog.cellsOf e = d.sz) (hB : Try.prog.bytesOf e = bytes)
    (hel : ∀ (n : Nat) (cs : List Value) (y : DataW H × List MemPlace), DataW.trod enc Try.prog w base spare held n e cs = some y → Light e y.1 → ∃ p : α, d.K w p cs ∧ Q p)
    {fuel : Nat} {v : Value} {x : DataW H × List MemPlace} (h : DataW.trod enc Try.prog w base spare held fuel t [v] = some x) (hl : Light t x.1) :
    ∃ A len cap xs, v = .slice A len cap ∧ d.C w A len xs ∧ len ≤ cap ∧ len * bytes ≤ 140737488351232 ∧ (∀ p ∈ xs, Q p) ∧ (A = none → cap = 0) := by
  rcases Go.Deep.open_slice ht h with ⟨hcs, _⟩ | ⟨a, len, cap, m, n, D, Pl, hcs, _, hlc, hm, hmm, hx, hi⟩
  · simp at hcs
    subst hcs
    exact ⟨none, 0, 0, [], rfl, ⟨rfl, by omega, fun h => absurd h (by omega)⟩, Nat.le_refl _, by omega, by simp, fun _ => rfl⟩
  · simp at hcs
    subst hcs
    have hlm : len ≤ m := by
      rw [hmm]
      split
      · exact hlc
      · exact Nat.le_refl _
    have hwt : ∀ n ∈ DataW.weights Try.prog t x.1, n ≤ reachBytes := hl
    rw [hx] at hwt
    simp only [DataW.weights, ht] at hwt
    have hel' : ∀ i, ∃ p : α, i < len → ∃ c, c.length = d.sz ∧ d.K w p c ∧ Q p ∧ ∀ j u, c[j]? = some u → w.cell? (a.add (i * d.sz + j)) = some u := by
      intro i
      by_cases hil : i < len
      · obtain ⟨cs', hc, ht'⟩ := hi i (by omega)
        rw [hC] at hc
        obtain ⟨_, hcl, hat⟩ := World.cells?_some hc
        obtain ⟨p, hp, hq⟩ := hel n cs' _ ht' (fun k hk => hwt k (List.mem_cons_of_mem _ (List.mem_append_left _ (weightsAll_mem (List.mem_map.2 ⟨i, List.mem_range.2 hil, rfl⟩) hk))))
        refine ⟨p, fun _ => ⟨cs', hcl, hp, hq, fun j u hu => ?_⟩⟩
        have hj : j < d.sz := by rw [← hcl]; exact (List.getElem?_eq_some_iff.1 hu).1
        have := hat j hj
        rw [Go.Deep.add_add] at this
        rw [this, hu]
      · exact ⟨z, fun h => absurd h hil⟩
    obtain ⟨f, hf⟩ := Classical.axiomOfChoice hel'
    have hget : ∀ j p, ((List.range len).map f)[j]? = some p → j < len ∧ p = f j := fun j p hj => by
      rw [List.getElem?_map] at hj
      obtain ⟨q, hq, rfl⟩ := Option.map_eq_some_iff.1 hj
      obtain ⟨h1, h2⟩ := List.getElem?_eq_some_iff.1 hq
      simp at h1 h2
      exact ⟨h1, by rw [h2]⟩
    refine ⟨some a, len, cap, (List.range len).map f, rfl, ⟨by simp, by unfold maxLen at hm; omega, fun _ => ⟨a, rfl, fun j p hj => ?_⟩⟩, hlc, ?_, ?_, fun h => by cases h⟩
    · obtain ⟨h1, rfl⟩ := hget j p hj
      obtain ⟨c, hc1, hc2, _, hc4⟩ := hf j h1
      exact ⟨c, hc1, hc2, hc4⟩
    · have := hwt _ (List.mem_cons_self)
      simp only [List.length_map, List.length_range, hB, reachBytes] at this
      refine Nat.le_trans (Nat.mul_le_mul_right _ ?_) this
      omega
    · intro p hp
      obtain ⟨j, hj, rfl⟩ := List.mem_map.1 hp
      obtain ⟨_, _, _, hq, _⟩ := hf j (List.mem_range.1 hj)
      exact hq

theorem wf_i64 (a : Int) (h : (Lit.int .i64 a).wf = true) : -9223372036854775808 ≤ a ∧ a ≤ 9223372036854775807 := by
  simp only [Lit.wf, Bool.and_eq_true, decide_eq_true_eq] at h
  exact h
def In64 (a : Int) : Prop := -9223372036854775808 ≤ a ∧ a ≤ 9223372036854775807
def FitI (x : I) : Prop := In64 x.f0 ∧ In64 x.f1 ∧ In64 x.f2 ∧ In64 x.f3
theorem inst_form {fuel : Nat} {cs : List Value} {x : DataW H × List MemPlace} (h : DataW.trod enc Try.prog w base spare held fuel 35 cs = some x) (hl : Light 35 x.1) : ∃ y : I, kI.K w y cs ∧ FitI y := by
  obtain ⟨xs, n, _, hx, hcl, hlen, hf⟩ := DataW.trod_struct Try.underlying35 h
  have e35 : Try.prog.cellsOf 35 = 4 := by kernel_rfl
  have e3 : Try.prog.cellsOf 3 = 1 := by kernel_rfl
  rw [e35] at hcl
  match cs, hcl, xs, hlen with
  | [c0, c1, c2, c3], _, [y0, y1, y2, y3], _ =>
    have h0 := field_at hf 0 3 0 1 rfl e3
    have h1 := field_at hf 1 3 1 1 rfl e3
    have h2 := field_at hf 2 3 2 1 rfl e3
    have h3 := field_at hf 3 3 3 1 rfl e3
    simp only [List.drop, List.take, List.getElem?_cons_zero, List.getElem?_cons_succ] at h0 h1 h2 h3
    obtain ⟨a, ha, _, wa⟩ := DataW.trod_int Try.underlying3 h0
    obtain ⟨b, hb, _, wb⟩ := DataW.trod_int Try.underlying3 h1
    obtain ⟨c, hc, _, wc⟩ := DataW.trod_int Try.underlying3 h2
    obtain ⟨d, hd, _, wd⟩ := DataW.trod_int Try.underlying3 h3
    simp only [List.cons.injEq, and_true] at ha hb hc hd
    subst ha hb hc hd
    exact ⟨⟨a, b, c, d⟩, kI_mk w ⟨a, b, c, d⟩, wf_i64 a wa, wf_i64 b wb, wf_i64 c wc, wf_i64 d wd⟩
theorem insts_form {fuel : Nat} {v : Value} {x : DataW H × List MemPlace} (h : DataW.trod enc Try.prog w base spare held fuel 36 [v] = some x) (hl : Light 36 x.1) :
    ∃ A len cap xs, v = .slice A len cap ∧ Kd.C kI w A len xs ∧ len ≤ cap ∧ len * 32 ≤ 140737488351232 ∧ (∀ p ∈ xs, FitI p) ∧ (A = none → cap = 0) :=
  slice_form zI kI FitI Try.underlying36 (by kernel_rfl) (by kernel_rfl) (fun _ _ _ hy hl => inst_form hy hl) h hl
theorem ints_form {fuel : Nat} {v : Value} {x : DataW H × List MemPlace} (h : DataW.trod enc Try.prog w base spare held fuel 24 [v] = some x) (hl : Light 24 x.1) :
    ∃ A len cap xs, v = .slice A len cap ∧ Kd.C (Kd.int .i64) w A len xs ∧ len ≤ cap ∧ len * 8 ≤ 140737488351232 ∧ (∀ p ∈ xs, In64 p) ∧ (A = none → cap = 0) :=
  slice_form 0 (Kd.int .i64) _ Try.underlying24 (by kernel_rfl) (by kernel_rfl) (fun _ _ _ hy hl => by
    obtain ⟨a, ha, _, wa⟩ := DataW.trod_int Try.underlying3 hy
    exact ⟨a, ha, wf_i64 a wa⟩) h hl
theorem row_form {n : Nat} {cs : List Value} {y : DataW H × List MemPlace} (hy : DataW.trod enc Try.prog w base spare held n 36 cs = some y) (hl : Light 36 y.1) : ∃ p : List I, (Kd.slice 35 kI).K w p cs ∧ (p.length * 32 ≤ 140737488351232 ∧ ∀ y ∈ p, FitI y) := by
  have hcs : ∃ c, cs = [c] := by
    rcases Go.Deep.open_slice Try.underlying36 hy with ⟨h, _⟩ | ⟨_, _, _, _, _, _, _, h, _⟩
    · exact ⟨_, h⟩
    · exact ⟨_, h⟩
  obtain ⟨c, rfl⟩ := hcs
  obtain ⟨A, len, cap, xs, rfl, hc, hle, hb, hq, _⟩ := insts_form hy hl
  obtain rfl : xs.length = len := hc.1
  exact ⟨xs, ⟨A, cap, rfl, hle, hc⟩, hb, hq⟩
theorem code_form {fuel : Nat} {v : Value} {x : DataW H × List MemPlace} (h : DataW.trod enc Try.prog w base spare held fuel 23 [v] = some x) (hl : Light 23 x.1) :
    ∃ A len cap xs, v = .slice A len cap ∧ Kd.C (Kd.slice 35 kI) w A len xs ∧ len ≤ cap ∧ len * 24 ≤ 140737488351232 ∧ (∀ p ∈ xs, p.length * 32 ≤ 140737488351232 ∧ ∀ y ∈ p, FitI y) ∧ (A = none → cap = 0) :=
  slice_form (e := 36) [] (Kd.slice 35 kI) _ (by kernel_rfl) (by kernel_rfl) (by kernel_rfl) (fun n cs y hy hl => row_form hy hl) h hl
end
end Go.Proofs.Ytkcjghdopmigoaa.SC
