/- What the statements of chapter 19 call, in one form each: few, Drop, Split, and the document's Drop and Same. Their conditions are that what is read can be read. -/
import Derived.Test.YtehoojmalhloeaaDC
import Derived.Test.YtehoojmalhloeaaCQ
namespace Go.Proofs.Ytehoojmalhloeaa.CM
open Go.RowKit Go.Proofs.YtehoojmalhloeaaW.PrintWords
set_option linter.unusedVariables false
set_option linter.unusedSimpArgs false
set_option maxRecDepth 100000

/-- What Drop answers; what Split does. -/
def dropA (snaps : List Int) (bottom : Bool) (l : List PC.S44) : List PC.S44 × Int := if risesB l = true then (dropL snaps bottom l, 0) else ([], 160)
def splitA (size : Int) (l : List PC.S44) : List (List PC.S44) × Int := if size < 1 then ([], 1) else if risesB l = true then (splitL size l, 0) else ([], 160)
theorem drop_any (A : Option Addr) (c : Nat) (l : List PC.S44) (A2 : Option Addr) (n2 c2 : Nat) (snaps : List Int) (bottom : Bool) (w : World) (hr : Kd.C PC.k44 w A l.length l) (hc : l.length ≤ c) (hn : n2 = snaps.length) (hr2 : Kd.C (Kd.int .u64) w A2 snaps.length snaps)
    (hbig : l.length * 48 ≤ 140737488355328) :
    Calls Try.prog 24 #[.slice A l.length c, .slice A2 n2 c2, .bool bottom] w fun e w' => ∃ v, e = .returned (.tuple #[v, .int .i64 (dropA snaps bottom l).2]) ∧ Kd.R PC.k44 44 w' w.heap.size (fun _ => True) v (dropA snaps bottom l).1 ∧ Below w.heap.size w w' := by
  subst hn
  by_cases h : risesB l = true
  · have e : dropA snaps bottom l = (dropL snaps bottom l, 0) := if_pos h
    rw [e]
    exact drop_w A c l A2 c2 snaps bottom w hr hc hr2 hbig h
  · have e : dropA snaps bottom l = ([], 160) := if_neg h
    rw [e]
    refine (drop_no A c l A2 c2 _ bottom w hr hc (by simpa using h)).mono ?_
    rintro e w' ⟨rfl, hb⟩
    exact ⟨_, rfl, Kd.R_nil _ _ _ _ _, hb⟩
theorem split_any (A : Option Addr) (c : Nat) (l : List PC.S44) (size : Int) (w : World) (hr : Kd.C PC.k44 w A l.length l) (hc : l.length ≤ c) (hbig : l.length * 48 ≤ 140737488355328 - 4096) :
    Calls Try.prog 27 #[.slice A l.length c, .int .i64 size] w fun e w' => ∃ v, e = .returned (.tuple #[v, .int .i64 (splitA size l).2]) ∧ Kd.S (Kd.slice 44 PC.k44) 22 w' w.heap.size (fun _ => True) v (splitA size l).1 ∧ Below w.heap.size w w' := by
  by_cases hs : size < 1
  · have e : splitA size l = ([], 1) := if_pos hs
    rw [e]
    refine (split_arg A _ c size w hs).mono ?_
    rintro e w' ⟨rfl, hb⟩
    exact ⟨_, rfl, Kd.S_nil _ _ _ _ _, hb⟩
  · by_cases h : risesB l = true
    · have e : splitA size l = (splitL size l, 0) := by unfold splitA; rw [if_neg hs, if_pos h]
      rw [e]
      exact split_w A c l size w hr hc hbig (by omega) h
    · have e : splitA size l = ([], 160) := by unfold splitA; rw [if_neg hs, if_neg h]
      rw [e]
      refine (split_no A c l size w hr hc (by omega) (by simpa using h)).mono ?_
      rintro e w' ⟨rfl, hb⟩
      exact ⟨_, rfl, Kd.S_nil _ _ _ _ _, hb⟩
theorem dropA_len (snaps : List Int) (bottom : Bool) (l : List PC.S44) : (dropA snaps bottom l).1.length ≤ l.length := by
  unfold dropA
  split
  · have h1 := flat_len snaps bottom (groups l)
    rw [groups_flat] at h1
    exact h1
  · simp
theorem refDropA (l : List PC.S44) (snaps : List Int) (bottom : Bool) (k : Nat) (hl : l.length ≤ 2932031007402) (hs : snaps.length ≤ 9223372036854775806) (hk : 5 * l.length + snaps.length + 10 ≤ k) (hv : ∀ y ∈ l, okN y) :
    PC.staddleref19_Drop.f k l snaps bottom = some (dropA snaps bottom l) := by
  rw [refDrop_eq l snaps bottom k hl hs hk hv]
  unfold dropA
  split <;> rfl

theorem few_w (A : Option Addr) (n c : Nat) (A2 : Option Addr) (n2 c2 m m2 : Nat) (w : World) (hm : m = if 200 < n then 200 else n) (hm2 : m2 = if 50 < n2 then 50 else n2) (hn : n ≤ c) (hn2 : n2 ≤ c2) :
    Calls Try.prog 23 #[.slice A n c, .slice A2 n2 c2] w fun e w' => e = .returned (.tuple #[.slice A m c, .slice A2 m2 c2]) ∧ w' = w := by
  by_cases h1 : 200 < n
  · rw [if_pos h1] at hm
    subst hm
    have d1 : decide (200 < n) = true := decide_eq_true h1
    have p1 : (200 ≤ c) = True := eq_true (by omega)
    have p1b : (200 ≤ n) = True := eq_true (by omega)
    by_cases h2 : 50 < n2
    · rw [if_pos h2] at hm2
      subst hm2
      have d2 : decide (50 < n2) = true := decide_eq_true h2
      have p2 : (50 ≤ c2) = True := eq_true (by omega)
      have p2b : (50 ≤ n2) = True := eq_true (by omega)
      go_enter Try.func23, Try.ntmps23
      go_wp2
      go_ret2
      exact ⟨rfl, rfl⟩
    · rw [if_neg h2] at hm2
      have d2 : decide (50 < m2) = false := decide_eq_false (by omega)
      subst hm2
      go_enter Try.func23, Try.ntmps23
      go_wp2
      go_ret2
      exact ⟨rfl, rfl⟩
  · rw [if_neg h1] at hm
    have d1 : decide (200 < m) = false := decide_eq_false (by omega)
    subst hm
    by_cases h2 : 50 < n2
    · rw [if_pos h2] at hm2
      subst hm2
      have d2 : decide (50 < n2) = true := decide_eq_true h2
      have p2 : (50 ≤ c2) = True := eq_true (by omega)
      have p2b : (50 ≤ n2) = True := eq_true (by omega)
      go_enter Try.func23, Try.ntmps23
      go_wp2
      go_ret2
      exact ⟨rfl, rfl⟩
    · rw [if_neg h2] at hm2
      have d2 : decide (50 < m2) = false := decide_eq_false (by omega)
      subst hm2
      go_enter Try.func23, Try.ntmps23
      go_wp2
      go_ret2
      exact ⟨rfl, rfl⟩

theorem Same_l0_refl (l : List PC.S44) (hl : l.length ≤ 9223372036854775806) : ∀ (n k i : Nat), l.length - i ≤ n → n + 1 ≤ k → PC.staddleref08_Same.l0 k l l (i : Int) = some true
  | n, 0, i, _, hk => by omega
  | n, k + 1, i, hn, hk => by
    unfold PC.staddleref08_Same.l0
    by_cases h : i < l.length
    · rw [if_pos (by omega), if_pos (by omega), if_pos (by omega), if_neg (by simp), w64 ((i : Int) + 1) (by omega)]
      exact Same_l0_refl l hl (n - 1) k (i + 1) (by omega) (by omega)
    · rw [if_neg (by omega)]
theorem Same_f_refl (l : List PC.S44) (k : Nat) (hl : l.length ≤ 9223372036854775806) (hk : l.length + 1 ≤ k) : PC.staddleref08_Same.f k l l = some true := by
  unfold PC.staddleref08_Same.f
  rw [if_pos rfl]
  exact Same_l0_refl l hl l.length k 0 (by omega) hk
theorem same_refl_w (A : Option Addr) (n c : Nat) (A2 : Option Addr) (n2 c2 : Nat) (l : List PC.S44) (w : World) (hn : n = l.length) (hn2 : n2 = l.length) (hr : Kd.C PC.k44 w A l.length l) (hc : l.length ≤ c) (hr2 : Kd.C PC.k44 w A2 l.length l) (hc2 : l.length ≤ c2) (hl : l.length ≤ 9223372036854775806) :
    Calls Try.prog 26 #[.slice A n c, .slice A2 n2 c2] w fun e w' => e = .returned (.bool true) ∧ Below w.heap.size w w' := by
  subst hn hn2
  refine (PC.staddleref08_Same.calls (l.length + 1) A c l A2 c2 l true w hr hc hr2 hc2 (Same_f_refl l _ hl (Nat.le_refl _))).mono ?_
  rintro e w' ⟨rfl, hd⟩
  exact ⟨rfl, hd.below⟩

end Go.Proofs.Ytehoojmalhloeaa.CM
