/- How the arguments of this place's statements read: entries, numbers, lists of entries. No condition. -/
import Derived.Test.YtehoojmalhloeaaCX2
import Derived.WalkKit
import Derived.ProofKit
import Derived.OpenShut
import Derived.SizedLaws
import Derived.Deep.Slices
import Derived.Deep.Fields
import Derived.Lib.SmallJoins
namespace Go.Proofs.Ytehoojmalhloeaa.CM
open Go.RowKit Go.ChangeShapes Go.WideShapes Go.Proofs.YtehoojmalhloeaaW.PrintWords
set_option linter.unusedVariables false
set_option linter.unusedSimpArgs false
set_option maxRecDepth 100000
section
variable {H : Type} {enc : TypeId × Value → H} {w : World} {base : Nat} {spare : Nat → Bool} {held : Bool}
/-- a datum none of whose strings and slices passes the reach -/
def Light {H : Type} (t : TypeId) (d : DataW H) : Prop := ∀ n ∈ d.weights Try.prog t, n ≤ reachBytes
theorem weightsAll_mem {H : Type} {e : TypeId} : ∀ {l : List (DataW H)} {d : DataW H} {n : Nat}, d ∈ l → n ∈ d.weights Try.prog e → n ∈ DataW.weightsAll Try.prog e l
  | a :: l, d, n, hd, hn => by
    unfold DataW.weightsAll
    rcases List.mem_cons.1 hd with rfl | h
    · exact List.mem_append_left _ hn
    · exact List.mem_append_right _ (weightsAll_mem h hn)
theorem weights_part {H : Type} {ts : List TypeId} {ds : List (DataW H)} (h : ∀ n ∈ DataW.weightsEach Try.prog ts ds, n ≤ reachBytes) {j : Nat} {t : TypeId} {d : DataW H} (ht : ts[j]? = some t) (hd : ds[j]? = some d) : Light t d :=
  fun n hn => h n (DataW.weights_mem_each ht hd n hn)
theorem field_at {fs : Array Field} {n : Nat} {cs : List Value} {xs : List (DataW H × List MemPlace)} (hf : ∀ (i : Nat) (f : Field), fs[i]? = some f → DataW.trod enc Try.prog w base spare held n f.type ((cs.drop f.offset).take (Try.prog.cellsOf f.type)) = xs[i]?)
    (i t off size : Nat) (hi : (fs[i]?).map (fun f => (f.type, f.offset)) = some (t, off)) (hs : Try.prog.cellsOf t = size) : DataW.trod enc Try.prog w base spare held n t ((cs.drop off).take size) = xs[i]? := by
  obtain ⟨f, hf1, hf2⟩ := Option.map_eq_some_iff.1 hi
  injection hf2 with h1 h2
  subst h1 h2 hs
  exact hf i f hf1

/-- A slice whose elements read so reads as a list. -/
theorem slice_form {α : Type} (z : α) (d : Kd α) (Q : α → Prop) {t e bytes : Nat} (ht : Try.prog.underlying t = some (.slice e)) (hC : Try.prog.cellsOf e = d.sz) (hB : Try.prog.bytesOf e = bytes)
    (hel : ∀ (n : Nat) (cs : List Value) (y : DataW H × List MemPlace), DataW.trod enc Try.prog w base spare held n e cs = some y → Light e y.1 → ∃ p : α, d.K w p cs ∧ Q p)
    {fuel : Nat} {v : Value} {x : DataW H × List MemPlace} (h : DataW.trod enc Try.prog w base spare held fuel t [v] = some x) (hl : Light t x.1) :
    ∃ A len cap xs, v = .slice A len cap ∧ d.C w A len xs ∧ len ≤ cap ∧ len * bytes ≤ 140737488351232 ∧ (∀ p ∈ xs, Q p) ∧ (A = none → cap = 0) := by
  rcases Go.Deep.open_slice ht h with ⟨hcs, _⟩ | ⟨a, len, cap, m, n, D, Pl, hcs, _, hlc, hm, hmm, hx, hi⟩
  · simp at hcs
    subst hcs
    exact ⟨none, 0, 0, [], rfl, ⟨rfl, by omega, fun h => absurd h (by omega)⟩, Nat.le_refl _, by omega, by simp, fun _ => rfl⟩
  · simp at hcs
    subst hcs
    have hlm : len ≤ m := by
      rw [hmm]
      split
      · exact hlc
      · exact Nat.le_refl _
    have hwt : ∀ n ∈ DataW.weights Try.prog t x.1, n ≤ reachBytes := hl
    rw [hx] at hwt
    simp only [DataW.weights, ht] at hwt
    have hel' : ∀ i, ∃ p : α, i < len → ∃ c, c.length = d.sz ∧ d.K w p c ∧ Q p ∧ ∀ j u, c[j]? = some u → w.cell? (a.add (i * d.sz + j)) = some u := by
      intro i
      by_cases hil : i < len
      · obtain ⟨cs', hc, ht'⟩ := hi i (by omega)
        rw [hC] at hc
        obtain ⟨_, hcl, hat⟩ := World.cells?_some hc
        obtain ⟨p, hp, hq⟩ := hel n cs' _ ht' (fun k hk => hwt k (List.mem_cons_of_mem _ (List.mem_append_left _ (weightsAll_mem (List.mem_map.2 ⟨i, List.mem_range.2 hil, rfl⟩) hk))))
        refine ⟨p, fun _ => ⟨cs', hcl, hp, hq, fun j u hu => ?_⟩⟩
        have hj : j < d.sz := by rw [← hcl]; exact (List.getElem?_eq_some_iff.1 hu).1
        have := hat j hj
        rw [Go.Deep.add_add] at this
        rw [this, hu]
      · exact ⟨z, fun h => absurd h hil⟩
    obtain ⟨f, hf⟩ := Classical.axiomOfChoice hel'
    have hget : ∀ j p, ((List.range len).map f)[j]? = some p → j < len ∧ p = f j := fun j p hj => by
      rw [List.getElem?_map] at hj
      obtain ⟨q, hq, rfl⟩ := Option.map_eq_some_iff.1 hj
      obtain ⟨h1, h2⟩ := List.getElem?_eq_some_iff.1 hq
      simp at h1 h2
      exact ⟨h1, by rw [h2]⟩
    refine ⟨some a, len, cap, (List.range len).map f, rfl, ⟨by simp, by unfold maxLen at hm; omega, fun _ => ⟨a, rfl, fun j p hj => ?_⟩⟩, hlc, ?_, ?_, fun h => by cases h⟩
    · obtain ⟨h1, rfl⟩ := hget j p hj
      obtain ⟨c, hc1, hc2, _, hc4⟩ := hf j h1
      exact ⟨c, hc1, hc2, hc4⟩
    · have := hwt _ (List.mem_cons_self)
      simp only [List.length_map, List.length_range, hB, reachBytes] at this
      refine Nat.le_trans (Nat.mul_le_mul_right _ ?_) this
      omega
    · intro p hp
      obtain ⟨j, hj, rfl⟩ := List.mem_map.1 hp
      obtain ⟨_, _, _, hq, _⟩ := hf j (List.mem_range.1 hj)
      exact hq

theorem wf_u64 (a : Int) (h : (Lit.int .u64 a).wf = true) : 0 ≤ a ∧ a ≤ 18446744073709551615 := by
  simp only [Lit.wf, Bool.and_eq_true, decide_eq_true_eq] at h
  exact h
theorem wf_i64 (a : Int) (h : (Lit.int .i64 a).wf = true) : -9223372036854775808 ≤ a ∧ a ≤ 9223372036854775807 := by
  simp only [Lit.wf, Bool.and_eq_true, decide_eq_true_eq] at h
  exact h
theorem light_str {s : ByteArray} {y : DataW H × List MemPlace} (hd : y = (DataW.lit (Lit.string s.data.toList), [])) (hl : Light 9 y.1) : s.size ≤ 140737488351232 := by
  have := hl s.data.toList.length (by rw [hd]; simp [DataW.weights])
  rw [Array.length_toList] at this
  exact this
/-- What an entry's parts may be. -/
def Fits (x : PC.S44) : Prop := (0 ≤ x.f0.f1 ∧ x.f0.f1 ≤ 18446744073709551615) ∧ (-9223372036854775808 ≤ x.f0.f2 ∧ x.f0.f2 ≤ 9223372036854775807) ∧ x.f0.f0.size ≤ 140737488351232 ∧ x.f1.size ≤ 140737488351232
theorem key_form {fuel : Nat} {cs : List Value} {x : DataW H × List MemPlace} (h : DataW.trod enc Try.prog w base spare held fuel 42 cs = some x) (hl : Light 42 x.1) :
    ∃ y : PC.S42, cs = [.string y.f0, .int .u64 y.f1, .int .i64 y.f2] ∧ (0 ≤ y.f1 ∧ y.f1 ≤ 18446744073709551615) ∧ (-9223372036854775808 ≤ y.f2 ∧ y.f2 ≤ 9223372036854775807) ∧ y.f0.size ≤ 140737488351232 := by
  obtain ⟨xs, n, _, hx, hcl, hlen, hf⟩ := DataW.trod_struct Try.underlying42 h
  have e42 : Try.prog.cellsOf 42 = 3 := by kernel_rfl
  have e3 : Try.prog.cellsOf 3 = 1 := by kernel_rfl
  have e9 : Try.prog.cellsOf 9 = 1 := by kernel_rfl
  have e37 : Try.prog.cellsOf 37 = 1 := by kernel_rfl
  rw [e42] at hcl
  match cs, hcl, xs, hlen with
  | [c0, c1, c2], _, [y0, y1, y2], _ =>
    have h0 := field_at hf 0 9 0 1 rfl e9
    have h1 := field_at hf 1 37 1 1 rfl e37
    have h2 := field_at hf 2 3 2 1 rfl e3
    simp only [List.drop, List.take, List.getElem?_cons_zero, List.getElem?_cons_succ] at h0 h1 h2
    obtain ⟨s, hs, hd⟩ := DataW.trod_string Try.underlying9 h0
    obtain ⟨a, ha, _, wa⟩ := DataW.trod_int Try.underlying37 h1
    obtain ⟨b, hb, _, wb⟩ := DataW.trod_int Try.underlying3 h2
    simp only [List.cons.injEq, and_true] at hs ha hb
    subst hs ha hb
    have hl0 : Light 9 y0.1 := by
      have hl' : ∀ n ∈ x.1.weights Try.prog 42, n ≤ reachBytes := hl
      rw [hx] at hl'
      simp only [DataW.weights, Try.underlying42] at hl'
      exact weights_part hl' (j := 0) rfl rfl
    exact ⟨⟨s, a, b⟩, rfl, wf_u64 a wa, wf_i64 b wb, light_str hd.1 hl0⟩
theorem kv_form {fuel : Nat} {cs : List Value} {x : DataW H × List MemPlace} (h : DataW.trod enc Try.prog w base spare held fuel 44 cs = some x) (hl : Light 44 x.1) : ∃ y : PC.S44, PC.k44.K w y cs ∧ Fits y := by
  obtain ⟨xs, n, _, hx, hcl, hlen, hf⟩ := DataW.trod_struct Try.underlying44 h
  have e44 : Try.prog.cellsOf 44 = 4 := by kernel_rfl
  have e42 : Try.prog.cellsOf 42 = 3 := by kernel_rfl
  have e9 : Try.prog.cellsOf 9 = 1 := by kernel_rfl
  rw [e44] at hcl
  match cs, hcl, xs, hlen with
  | [c0, c1, c2, c3], _, [y0, y1], _ =>
    have h0 := field_at hf 0 42 0 3 rfl e42
    have h1 := field_at hf 1 9 3 1 rfl e9
    simp only [List.drop, List.take, List.getElem?_cons_zero, List.getElem?_cons_succ] at h0 h1
    have hl' : ∀ n ∈ x.1.weights Try.prog 44, n ≤ reachBytes := hl
    rw [hx] at hl'
    simp only [DataW.weights, Try.underlying44] at hl'
    obtain ⟨y, hy, f1, f2, f3⟩ := key_form h0 (weights_part hl' (j := 0) rfl rfl)
    obtain ⟨s, hs, hd⟩ := DataW.trod_string Try.underlying9 h1
    simp only [List.cons.injEq, and_true] at hy hs
    obtain ⟨rfl, rfl, rfl⟩ := hy
    subst hs
    exact ⟨⟨y, s⟩, PC.k44_mk w ⟨y, s⟩, f1, f2, f3, light_str hd.1 (weights_part hl' (j := 1) rfl rfl)⟩
theorem kvs_form {fuel : Nat} {v : Value} {x : DataW H × List MemPlace} (h : DataW.trod enc Try.prog w base spare held fuel 22 [v] = some x) (hl : Light 22 x.1) :
    ∃ A len cap xs, v = .slice A len cap ∧ Kd.C PC.k44 w A len xs ∧ len ≤ cap ∧ len * 48 ≤ 140737488351232 ∧ (∀ p ∈ xs, Fits p) ∧ (A = none → cap = 0) :=
  slice_form PC.z44 PC.k44 Fits Try.underlying22 (by kernel_rfl) (by kernel_rfl) (fun _ _ _ hy hl => kv_form hy hl) h hl
theorem u64s_form {fuel : Nat} {v : Value} {x : DataW H × List MemPlace} (h : DataW.trod enc Try.prog w base spare held fuel 23 [v] = some x) (hl : Light 23 x.1) :
    ∃ A len cap xs, v = .slice A len cap ∧ Kd.C (Kd.int .u64) w A len xs ∧ len ≤ cap ∧ len * 8 ≤ 140737488351232 ∧ (∀ p ∈ xs, 0 ≤ p ∧ p ≤ 18446744073709551615) ∧ (A = none → cap = 0) :=
  slice_form 0 (Kd.int .u64) _ Try.underlying23 (by kernel_rfl) (by kernel_rfl) (fun _ _ _ hy hl => by
    obtain ⟨a, ha, _, wa⟩ := DataW.trod_int Try.underlying37 hy
    exact ⟨a, ha, wf_u64 a wa⟩) h hl
theorem row_form {n : Nat} {cs : List Value} {y : DataW H × List MemPlace} (hy : DataW.trod enc Try.prog w base spare held n 22 cs = some y) (hl : Light 22 y.1) : ∃ p : List PC.S44, (Kd.slice 44 PC.k44).K w p cs ∧ (p.length * 48 ≤ 140737488351232 ∧ ∀ y ∈ p, Fits y) := by
  have hcs : ∃ c, cs = [c] := by
    rcases Go.Deep.open_slice Try.underlying22 hy with ⟨h, _⟩ | ⟨_, _, _, _, _, _, _, h, _⟩
    · exact ⟨_, h⟩
    · exact ⟨_, h⟩
  obtain ⟨c, rfl⟩ := hcs
  obtain ⟨A, len, cap, xs, rfl, hc, hle, hb, hq, _⟩ := kvs_form hy hl
  obtain rfl : xs.length = len := hc.1
  exact ⟨xs, ⟨A, cap, rfl, hle, hc⟩, hb, hq⟩
theorem kvss_form {fuel : Nat} {v : Value} {x : DataW H × List MemPlace} (h : DataW.trod enc Try.prog w base spare held fuel 32 [v] = some x) (hl : Light 32 x.1) :
    ∃ A len cap xs, v = .slice A len cap ∧ Kd.C (Kd.slice 44 PC.k44) w A len xs ∧ len ≤ cap ∧ len * 24 ≤ 140737488351232 ∧ (∀ p ∈ xs, p.length * 48 ≤ 140737488351232 ∧ ∀ y ∈ p, Fits y) ∧ (A = none → cap = 0) :=
  slice_form (e := 22) [] (Kd.slice 44 PC.k44) _ (by kernel_rfl) (by kernel_rfl) (by kernel_rfl) (fun n cs y hy hl => row_form hy hl) h hl
end
end Go.Proofs.Ytehoojmalhloeaa.CM
