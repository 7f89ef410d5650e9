/- merge: a way to go; the document's iterator goes. -/
import Derived.Test.YtehoojmalhloeaaNR
namespace Go.Proofs.Ytehoojmalhloeaa.CM
open Go.RowKit Go.Proofs.YtehoojmalhloeaaW.PrintWords
set_option linter.unusedVariables false
set_option linter.unusedSimpArgs false
set_option maxRecDepth 100000

def goQ (s : Sh) (kind : Int) (a : PC.S42) (q : Option Nat) : Option Nat :=
  if kind = 1 then plc s 0 else if kind = 2 then prvQ (some s.N) else if kind = 3 then plc s (cntQ s a) else if kind = 4 then nxtQ s q else if kind = 5 then prvQ q else q
def obj63 (kind : Int) (a : PC.S42) : Obj := .cells #[.int .i64 kind, .string a.f0, .int .u64 a.f1, .int .i64 a.f2] 63
theorem obj63_cells {w : World} {b : Nat} {kind : Int} {a : PC.S42} (h : w.heap[b]? = some (obj63 kind a)) : w.cell? ⟨b, 0, none⟩ = some (.int .i64 kind) ∧ w.cell? ⟨b, 1, none⟩ = some (.string a.f0) ∧ w.cell? ⟨b, 2, none⟩ = some (.int .u64 a.f1) ∧ w.cell? ⟨b, 3, none⟩ = some (.int .i64 a.f2) := by
  unfold obj63 at h
  refine ⟨?_, ?_, ?_, ?_⟩ <;> simp [World.cell?, h]
theorem Goes.back {w w0 w1 : World} {X : Nat} {s : Sh} {F : Nat → Prop} {q : Option Nat} (h : Goes w0 X s F q w1) (hb : Below w.heap.size w w0) : Goes w X s F q w1 := by
  obtain ⟨F', h1, h2, h3⟩ := h
  refine ⟨F', h1, (Fr.of_below (O := F) hb).trans h2 (fun _ _ h => h), fun b hF => ?_⟩
  rcases h3 b hF with h4 | h4
  · exact .inl h4
  · have := hb.size; exact .inr ⟨by omega, h4.2⟩
theorem Goes.refl {w : World} {X : Nat} {s : Sh} {F : Nat → Prop} {q : Option Nat} (h : It w X s q F) : Goes w X s F q w := ⟨F, h, Fr.refl _ _, fun b hF => .inl hF⟩
set_option maxHeartbeats 8000000 in
theorem gone_w {w : World} {X : Nat} {s : Sh} {q : Option Nat} {F : Nat → Prop} (h : It w X s q F) (kind : Int) (a : PC.S42) :
    Calls Try.prog 44 #[.pointer (some ⟨X, 0, none⟩), .agg #[.int .i64 kind, .string a.f0, .int .u64 a.f1, .int .i64 a.f2]] w (fun e w' => e = .returned (.tuple #[]) ∧ Goes w X s F (goQ s kind a q) w') := by
  obtain ⟨W0, hW0⟩ : ∃ W0, w.alloc (.cells #[.int .i64 kind, .string a.f0, .int .u64 a.f1, .int .i64 a.f2] 63) = W0 := ⟨_, rfl⟩
  have b0 : Below w.heap.size w W0 := by rw [← hW0]; exact (Below.refl _ _).alloc (Nat.le_refl _) _
  have k0 : W0.heap[w.heap.size]? = some (obj63 kind a) := by rw [← hW0]; exact World.alloc_heap_new w _
  obtain ⟨e0, e1, e2, e3⟩ := obj63_cells k0
  have H0 := Lib.hid (And.intro b0 (h.below b0))
  clear b0 k0
  have hS := seek_q H0.out.2 a
  unfold kv42 at hS
  have HS := Lib.hid hS
  clear hS
  go_enter Try.func44, Try.ntmps44
  by_cases c1 : kind = 1
  · subst c1
    go_wp2_with (first | rw [hW0] | (go_at_call 37; refine (first_q H0.out.2).mono ?_; rintro e w1 ⟨rfl, t⟩))
    go_end0
    exact ⟨rfl, t.back H0.out.1⟩
  · by_cases c2 : kind = 2
    · subst c2
      go_wp2_with (first | rw [hW0] | (go_at_call 42; refine (last_q H0.out.2).mono ?_; rintro e w1 ⟨rfl, t⟩))
      go_end0
      exact ⟨rfl, t.back H0.out.1⟩
    · by_cases c3 : kind = 3
      · subst c3
        go_wp2_with (first | rw [hW0] | (go_at_call 47; refine HS.out.mono ?_; rintro e w1 ⟨rfl, t⟩))
        go_end0
        exact ⟨rfl, t.back H0.out.1⟩
      · by_cases c4 : kind = 4
        · subst c4
          go_wp2_with (first | rw [hW0] | (go_at_call 39; refine (next_q H0.out.2).mono ?_; rintro e w1 ⟨rfl, t⟩))
          go_end0
          exact ⟨rfl, t.back H0.out.1⟩
        · by_cases c5 : kind = 5
          · subst c5
            go_wp2_with (first | rw [hW0] | (go_at_call 40; refine (prev_q H0.out.2).mono ?_; rintro e w1 ⟨rfl, t⟩))
            go_end0
            exact ⟨rfl, t.back H0.out.1⟩
          · have d1 : (kind == 1) = false := by simpa using c1
            have d2 : (kind == 2) = false := by simpa using c2
            have d3 : (kind == 3) = false := by simpa using c3
            have d4 : (kind == 4) = false := by simpa using c4
            have d5 : (kind == 5) = false := by simpa using c5
            have hq : goQ s kind a q = q := by unfold goQ; rw [if_neg c1, if_neg c2, if_neg c3, if_neg c4, if_neg c5]
            rw [hq]
            go_wp2_with (first | rw [hW0])
            go_end0
            exact ⟨rfl, (Goes.refl H0.out.2).back H0.out.1⟩

/-! ### the document's -/
/-- Where the document's iterator goes among n entries. -/
def refT (L : List PC.S44) (kind : Int) (a : PC.S42) (at_ : Int) : Int :=
  if kind = 1 then 0 else if kind = 2 then (L.length : Int) - 1 else if kind = 3 then (lowK L a : Int) else if kind = 4 then (if 0 ≤ at_ then at_ + 1 else at_) else if kind = 5 then (if 0 ≤ at_ then at_ - 1 else at_) else at_
def refGo (L : List PC.S44) (kind : Int) (a : PC.S42) (at_ : Int) : Int := if (L.length : Int) ≤ refT L kind a at_ then -1 else refT L kind a at_
def atV : Option Nat → Int
  | none => -1
  | some p => (p : Int)
theorem plc_at (s : Sh) (i : Nat) : atV (plc s i) = if (s.N : Int) ≤ (i : Int) then -1 else (i : Int) := by
  unfold plc
  by_cases h : i < s.N
  · rw [if_pos h, if_neg (by omega)]; rfl
  · rw [if_neg h, if_pos (by omega)]; rfl
theorem refGo_at {s : Sh} {kind : Int} {a : PC.S42} {q : Option Nat} (h1 : 1 ≤ kind) (h5 : kind ≤ 5) (hq : ∀ p, q = some p → p < s.N) : refGo (upto s s.N) kind a (atV q) = atV (goQ s kind a q) := by
  have hk : kind = 1 ∨ kind = 2 ∨ kind = 3 ∨ kind = 4 ∨ kind = 5 := by omega
  have hc := cntQ_le s a
  unfold refGo refT goQ
  rw [upto_len]
  rcases hk with rfl | rfl | rfl | rfl | rfl
  · simp only [if_true]
    exact (plc_at s 0).symm
  · simp only [if_true, show ((2 : Int) = 1) = False by simp, if_false]
    cases hN : s.N with
    | zero => rfl
    | succ m =>
      rw [if_neg (by omega)]
      show ((m + 1 : Nat) : Int) - 1 = (m : Int)
      omega
  · simp only [if_true, show ((3 : Int) = 1) = False by simp, show ((3 : Int) = 2) = False by simp, if_false]
    exact (plc_at s (cntQ s a)).symm
  · simp only [if_true, show ((4 : Int) = 1) = False by simp, show ((4 : Int) = 2) = False by simp, show ((4 : Int) = 3) = False by simp, if_false]
    cases q with
    | none =>
      rw [if_neg (show ¬ (0 ≤ atV none) from by decide), if_neg (show ¬ ((s.N : Int) ≤ atV none) from by show ¬ ((s.N : Int) ≤ -1); omega)]
      rfl
    | some p =>
      have := hq p rfl
      rw [if_pos (show 0 ≤ atV (some p) from by show (0 : Int) ≤ (p : Int); omega)]
      exact (plc_at s (p + 1)).symm
  · simp only [if_true, show ((5 : Int) = 1) = False by simp, show ((5 : Int) = 2) = False by simp, show ((5 : Int) = 3) = False by simp, show ((5 : Int) = 4) = False by simp, if_false]
    cases q with
    | none =>
      rw [if_neg (show ¬ (0 ≤ atV none) from by decide), if_neg (show ¬ ((s.N : Int) ≤ atV none) from by show ¬ ((s.N : Int) ≤ -1); omega)]
      rfl
    | some p =>
      have := hq p rfl
      rw [if_pos (show 0 ≤ atV (some p) from by show (0 : Int) ≤ (p : Int); omega)]
      rw [if_neg (show ¬ ((s.N : Int) ≤ atV (some p) - 1) from by show ¬ ((s.N : Int) ≤ (p : Int) - 1); omega)]
      cases p with
      | zero => rfl
      | succ p => show ((p + 1 : Nat) : Int) - 1 = (p : Int); omega
theorem goQ_lt {s : Sh} {kind : Int} {a : PC.S42} {q : Option Nat} (hq : ∀ p, q = some p → p < s.N) : ∀ p, goQ s kind a q = some p → p < s.N := by
  have hpl : ∀ i p, plc s i = some p → p < s.N := fun i p h => by
    unfold plc at h
    split at h
    · cases h; assumption
    · cases h
  have hpr : ∀ q, (∀ p, q = some p → p ≤ s.N) → ∀ p, prvQ q = some p → p < s.N := fun q hq p h => by
    cases q with
    | none => cases h
    | some m =>
      cases m with
      | zero => cases h
      | succ m =>
        have h : some m = some p := h
        cases h
        have := hq (p + 1) rfl
        omega
  intro p h
  unfold goQ at h
  split at h
  · exact hpl _ _ h
  · split at h
    · exact hpr _ (fun p hp => by cases hp; exact Nat.le_refl _) _ h
    · split at h
      · exact hpl _ _ h
      · split at h
        · cases q with
          | none => cases h
          | some m => exact hpl _ _ h
        · split at h
          · exact hpr _ (fun p hp => Nat.le_of_lt (hq p hp)) _ h
          · exact hq _ h
end Go.Proofs.Ytehoojmalhloeaa.CM
