/-
  Contracts of both arenas' calls for every argument, their answers as plain functions; both arenas in one world. No condition.
-/
import Derived.Test.YtcdcladefccifaaK
set_option linter.unusedVariables false
set_option linter.unusedSimpArgs false
namespace Go.Proofs
open Go.RowKit BU
namespace BU
def allocR (size used n : Int) : Int × Int := if n < 1 then (0, 1) else if size - used < n then (0, 60) else (used, 0)
def allocU (size used n : Int) : Int := if n < 1 then used else if size - used < n then used else used + n
def cellR (size used : Int) (len : Nat) : Int × Int := if size - used < 8 then (0, 60) else (len, 0)
def cellU (size used : Int) : Int := if size - used < 8 then used else used + 8
def cellX (size used : Int) (xs : List Int) : List Int := if size - used < 8 then xs else xs ++ [0]
def has (xs : List Int) (n : Int) : Prop := 0 ≤ n ∧ n < (xs.length : Int)
instance (xs : List Int) (n : Int) : Decidable (has xs n) := by unfold has; exact inferInstance
def loadR (xs : List Int) (n : Int) : Int × Int := if has xs n then (xs.getD n.toNat 0, 0) else (0, 1)
def storeR (xs : List Int) (n : Int) : Int := if has xs n then 0 else 1
def storeX (xs : List Int) (n y : Int) : List Int := if has xs n then xs.set n.toNat y else xs
def casR (xs : List Int) (n x : Int) : Bool × Int := if has xs n then (decide (xs.getD n.toNat 0 = x), 0) else (false, 1)
def casX (xs : List Int) (n x y : Int) : List Int := if has xs n then (if xs.getD n.toNat 0 = x then xs.set n.toNat y else xs) else xs
instance (used at_ n : Int) : Decidable (Out used at_ n) := by unfold Out; exact inferInstance
def putR (used at_ n : Int) : Int := if Out used at_ n then 1 else 0
def putM (m : List Int) (used at_ : Int) (z : List Int) : List Int := if Out used at_ z.length then m else spl m at_.toNat z
def getZ (m : List Int) (used at_ n : Int) : List Int := if Out used at_ n then [] else (m.drop at_.toNat).take n.toNat
end BU
section
variable (w : World) (b : Nat) (cv : Value) (S : St) (h : Ar w b cv S)
include h
theorem allocA (n : Int) : Calls Try.prog 18 #[.pointer (some ⟨b, 0, none⟩), .int .i64 n] w fun e w' => e = .returned (.tuple #[.int .i64 (allocR S.size S.used n).1, .int .i64 (allocR S.size S.used n).2]) ∧ Ar w' b cv { S with used := allocU S.size S.used n } ∧ Stp b cv cv w w' := by
  unfold allocR allocU
  by_cases h1 : n < 1
  · simp only [if_pos h1]
    exact (alloc_low w _ n (.inr ⟨_, rfl⟩) h1).mono fun e w' ⟨he, hw⟩ => by subst hw; exact ⟨he, h, Stp.refl _ _ _⟩
  · simp only [if_neg h1]
    by_cases h2 : S.size - S.used < n
    · simp only [if_pos h2]
      exact allocfull_any w b cv S h n (by omega) h2
    · simp only [if_neg h2]
      exact alloc_any w b cv S h n (by omega) (by omega)
def BU.CellA (w : World) (b : Nat) (cv : Value) (S : St) (e : Ending) (w' : World) : Prop :=
  e = .returned (.tuple #[.int .i64 (cellR S.size S.used S.xs.length).1, .int .i64 (cellR S.size S.used S.xs.length).2]) ∧ ∃ cv', Ar w' b cv' { S with xs := cellX S.size S.used S.xs, used := cellU S.size S.used } ∧ Stp b cv cv' w w'
theorem cellA : Calls Try.prog 10 #[.pointer (some ⟨b, 0, none⟩)] w (BU.CellA w b cv S) := by
  by_cases h1 : S.size - S.used < 8
  · refine (newcellfull_any w b cv S h h1).mono fun e w' ⟨he, ha, hs⟩ => ?_
    unfold BU.CellA cellR cellX cellU
    simp only [if_pos h1]
    exact ⟨he, cv, ha, hs⟩
  · refine (newcell_walk w b cv S h (by omega)).mono fun e w' ⟨he, cv', ha, hs⟩ => ?_
    unfold BU.CellA cellR cellX cellU
    simp only [if_neg h1]
    exact ⟨he, cv', ha, hs⟩
theorem loadA (n : Int) : Calls Try.prog 13 #[.pointer (some ⟨b, 0, none⟩), .int .i64 n] w fun e w' => e = .returned (.tuple #[.int .i64 (loadR S.xs n).1, .int .i64 (loadR S.xs n).2]) ∧ Ar w' b cv S ∧ Stp b cv cv w w' := by
  unfold loadR
  by_cases h1 : has S.xs n
  · simp only [if_pos h1]
    exact load_any w b cv S h n h1.1 h1.2
  · simp only [if_neg h1]
    exact loadno_any w b cv S h n (by unfold has at h1; omega)
theorem storeA (n y : Int) : Calls Try.prog 11 #[.pointer (some ⟨b, 0, none⟩), .int .i64 n, .int .i64 y] w fun e w' => e = .returned (.int .i64 (storeR S.xs n)) ∧ Ar w' b cv { S with xs := storeX S.xs n y } ∧ Stp b cv cv w w' := by
  unfold storeR storeX
  by_cases h1 : has S.xs n
  · simp only [if_pos h1]
    exact store_any w b cv S h n y h1.1 h1.2
  · simp only [if_neg h1]
    exact storeno_any w b cv S h n y (by unfold has at h1; omega)
theorem casA (n x y : Int) : Calls Try.prog 12 #[.pointer (some ⟨b, 0, none⟩), .int .i64 n, .int .i64 x, .int .i64 y] w fun e w' => e = .returned (.tuple #[.bool (casR S.xs n x).1, .int .i64 (casR S.xs n x).2]) ∧ Ar w' b cv { S with xs := casX S.xs n x y } ∧ Stp b cv cv w w' := by
  unfold casR casX
  by_cases h1 : has S.xs n
  · simp only [if_pos h1]
    by_cases h2 : S.xs.getD n.toNat 0 = x
    · simp only [if_pos h2, decide_eq_true h2]
      exact caseq_any w b cv S h n x y h1.1 h1.2 h2
    · simp only [if_neg h2, decide_eq_false h2]
      exact casne_any w b cv S h n x y h1.1 h1.2 h2
  · simp only [if_neg h1]
    exact casno_any w b cv S h n x y (by unfold has at h1; omega)
theorem putA (at_ : Int) (A : Option Addr) (len cap : Nat) (z : List Int) (hz : RdB w A len z) : Calls Try.prog 19 #[.pointer (some ⟨b, 0, none⟩), .int .i64 at_, .slice A len cap] w fun e w' => e = .returned (.int .i64 (putR S.used at_ z.length)) ∧ Ar w' b cv { S with m := putM S.m S.used at_ z } ∧ Stp b cv cv w w' := by
  unfold putR putM
  by_cases h1 : Out S.used at_ z.length
  · simp only [if_pos h1]
    exact (put_out w b S.used at_ A len cap h.usedCell h.h0 (by have := h.h1; have := h.h2; omega) (by rw [hz.1] at h1; exact h1)).mono fun e w' ⟨he, hw⟩ => by subst hw; exact ⟨he, h, Stp.refl _ _ _⟩
  · simp only [if_neg h1]
    rw [hz.1] at h1
    unfold Out at h1
    exact put_walk w b cv S h at_ A len cap z hz (by omega) (by omega) (by omega)
def BU.GetA (w : World) (b : Nat) (cv : Value) (S : St) (at_ n : Int) (e : Ending) (w' : World) : Prop :=
  ∃ v, e = .returned (.tuple #[v, .int .i64 (putR S.used at_ n)]) ∧ w'.ownsRow w.heap.size 5 1 v (getZ S.m S.used at_ n).length (byts (getZ S.m S.used at_ n)) ∧ Ar w' b cv S ∧ Below w.heap.size w w'
theorem getA (at_ n : Int) : Calls Try.prog 17 #[.pointer (some ⟨b, 0, none⟩), .int .i64 at_, .int .i64 n] w (BU.GetA w b cv S at_ n) := by
  by_cases h1 : Out S.used at_ n
  · refine (get_out w b S.used at_ n h.usedCell h.h0 (by have := h.h1; have := h.h2; omega) h1).mono fun e w' ⟨he, hw⟩ => ?_
    subst hw
    unfold BU.GetA getZ putR
    simp only [if_pos h1]
    exact ⟨_, he, World.ownsRow_nil _ _ 5 1, h, Below.refl _ _⟩
  · have h2 := h1
    unfold Out at h2
    refine (get_walk w b cv S h at_ n (by omega) (by omega) (by omega) (by omega)).mono fun e w' ⟨v, he, ho, ha, hb⟩ => ?_
    unfold BU.GetA getZ putR
    simp only [if_neg h1]
    have hl : ((S.m.drop at_.toNat).take n.toNat).length = n.toNat := by
      have := h.hm
      have := h.h1
      have := h.h2
      rw [List.length_take, List.length_drop]; omega
    exact ⟨v, he, by rw [hl]; exact ho, ha, hb⟩
end
section
variable (w : World) (g : Nat) (bv cv : Value) (R : RS) (h : Rf w g bv cv R) (size : Int) (hs : (R.B.length : Int) = size)
include h
theorem loadB (n : Int) : Calls Try.prog 25 #[.pointer (some ⟨g, 0, none⟩), .int .i64 n] w fun e w' => e = .returned (.tuple #[.int .i64 (loadR R.xs n).1, .int .i64 (loadR R.xs n).2]) ∧ Rf w' g bv cv R ∧ RStp g bv cv cv w w' := by
  unfold loadR
  by_cases h1 : has R.xs n
  · simp only [if_pos h1]
    exact rload_walk w g bv cv R h n h1.1 h1.2
  · simp only [if_neg h1]
    exact rload_no w g bv cv R h n (by unfold has at h1; unfold NoCellR; omega)
theorem storeB (n y : Int) : Calls Try.prog 26 #[.pointer (some ⟨g, 0, none⟩), .int .i64 n, .int .i64 y] w fun e w' => e = .returned (.int .i64 (storeR R.xs n)) ∧ Rf w' g bv cv { R with xs := storeX R.xs n y } ∧ RStp g bv cv cv w w' := by
  unfold storeR storeX
  by_cases h1 : has R.xs n
  · simp only [if_pos h1]
    exact rstore_walk w g bv cv R h n y h1.1 h1.2
  · simp only [if_neg h1]
    exact rstore_no w g bv cv R h n y (by unfold has at h1; unfold NoCellR; omega)
theorem casB (n x y : Int) : Calls Try.prog 27 #[.pointer (some ⟨g, 0, none⟩), .int .i64 n, .int .i64 x, .int .i64 y] w fun e w' => e = .returned (.tuple #[.bool (casR R.xs n x).1, .int .i64 (casR R.xs n x).2]) ∧ Rf w' g bv cv { R with xs := casX R.xs n x y } ∧ RStp g bv cv cv w w' := by
  unfold casR casX
  by_cases h1 : has R.xs n
  · simp only [if_pos h1]
    by_cases h2 : R.xs.getD n.toNat 0 = x
    · simp only [if_pos h2, decide_eq_true h2]
      exact rcas_eq w g bv cv R h n x y h1.1 h1.2 h2
    · simp only [if_neg h2, decide_eq_false h2]
      exact rcas_ne w g bv cv R h n x y h1.1 h1.2 h2
  · simp only [if_neg h1]
    exact rcas_no w g bv cv R h n x y (by unfold has at h1; unfold NoCellR; omega)
theorem putB (at_ : Int) (A : Option Addr) (len cap : Nat) (z : List Int) (hz : ∀ w', RStp g bv cv cv w w' → RdB w' A len z) : Calls Try.prog 22 #[.pointer (some ⟨g, 0, none⟩), .int .i64 at_, .slice A len cap] w fun e w' => e = .returned (.int .i64 (putR R.used at_ z.length)) ∧ Rf w' g bv cv { R with B := putM R.B R.used at_ z } ∧ RStp g bv cv cv w w' := by
  unfold putR putM
  have hl := (hz w (RStp.refl _ _ _ _)).1
  by_cases h1 : Out R.used at_ z.length
  · simp only [if_pos h1]
    exact (rput_out w g bv cv R h at_ A len cap (by rw [hl] at h1; exact h1)).mono fun e w' ⟨he, hw⟩ => by subst hw; exact ⟨he, h, RStp.refl _ _ _ _⟩
  · simp only [if_neg h1]
    rw [hl] at h1
    unfold Out at h1
    exact rput_walk w g bv cv R h at_ A len cap z hz (by omega) (by omega) (by omega)
def BU.GetB (w : World) (g : Nat) (bv cv : Value) (R : RS) (at_ n : Int) (e : Ending) (w' : World) : Prop :=
  ∃ v, e = .returned (.tuple #[v, .int .i64 (putR R.used at_ n)]) ∧ w'.ownsRow w.heap.size 5 1 v (getZ R.B R.used at_ n).length (byts (getZ R.B R.used at_ n)) ∧ Rf w' g bv cv R ∧ Below w.heap.size w w'
theorem getB (at_ n : Int) : Calls Try.prog 23 #[.pointer (some ⟨g, 0, none⟩), .int .i64 at_, .int .i64 n] w (BU.GetB w g bv cv R at_ n) := by
  by_cases h1 : Out R.used at_ n
  · refine (rget_out w g bv cv R h at_ n h1).mono fun e w' ⟨he, hw⟩ => ?_
    subst hw
    unfold BU.GetB getZ putR
    simp only [if_pos h1]
    exact ⟨_, he, World.ownsRow_nil _ _ 5 1, h, Below.refl _ _⟩
  · have h2 := h1
    unfold Out at h2
    refine (rget_walk w g bv cv R h at_ n (by omega) (by omega) (by omega) (by omega)).mono fun e w' ⟨v, he, ho, ha, hb⟩ => ?_
    unfold BU.GetB getZ putR
    simp only [if_neg h1]
    have hl : ((R.B.drop at_.toNat).take n.toNat).length = n.toNat := by
      have := h.h1
      rw [List.length_take, List.length_drop]; omega
    exact ⟨v, he, by rw [hl]; exact ho, ha, hb⟩
include hs
theorem allocB (n : Int) : Calls Try.prog 21 #[.pointer (some ⟨g, 0, none⟩), .int .i64 n] w fun e w' => e = .returned (.tuple #[.int .i64 (allocR size R.used n).1, .int .i64 (allocR size R.used n).2]) ∧ Rf w' g bv cv { R with used := allocU size R.used n } ∧ RStp g bv cv cv w w' := by
  subst hs
  unfold allocR allocU
  by_cases h1 : n < 1
  · simp only [if_pos h1]
    exact (ralloc_low w g n h1).mono fun e w' ⟨he, hw⟩ => by subst hw; exact ⟨he, h, RStp.refl _ _ _ _⟩
  · simp only [if_neg h1]
    by_cases h2 : (R.B.length : Int) - R.used < n
    · simp only [if_pos h2]
      exact ralloc_full w g bv cv R h n (by omega) h2
    · simp only [if_neg h2]
      exact ralloc_walk w g bv cv R h n (by omega) (by omega)
def BU.CellB (w : World) (g : Nat) (bv cv : Value) (R : RS) (size : Int) (e : Ending) (w' : World) : Prop :=
  e = .returned (.tuple #[.int .i64 (cellR size R.used R.xs.length).1, .int .i64 (cellR size R.used R.xs.length).2]) ∧ ∃ cv', Rf w' g bv cv' { R with xs := cellX size R.used R.xs, used := cellU size R.used } ∧ RStp g bv cv cv' w w'
theorem cellB : Calls Try.prog 24 #[.pointer (some ⟨g, 0, none⟩)] w (BU.CellB w g bv cv R size) := by
  subst hs
  by_cases h1 : (R.B.length : Int) - R.used < 8
  · refine (rnewcell_full w g bv cv R h h1).mono fun e w' ⟨he, ha, hs⟩ => ?_
    unfold BU.CellB cellR cellX cellU
    simp only [if_pos h1]
    exact ⟨he, cv, ha, hs⟩
  · refine (rnewcell_walk w g bv cv R h (by omega)).mono fun e w' ⟨he, cv', ha, hs⟩ => ?_
    unfold BU.CellB cellR cellX cellU
    simp only [if_neg h1]
    exact ⟨he, cv', ha, hs⟩
end
/-! ### both in one world -/
structure BU.Two (X : Nat → Prop) (w0 w : World) (b : Nat) (cv : Value) (S : St) (g : Nat) (bv rv : Value) (R : RS) : Prop where
  a : Ar w b cv S
  r : Rf w g bv rv R
  below : Below w0.heap.size w0 w
  hb : w0.heap.size ≤ b
  hg : w0.heap.size ≤ g
  hc : ∀ k, cv.ownBlock = some k → w0.heap.size ≤ k
  hbv : ∀ k, bv.ownBlock = some k → w0.heap.size ≤ k
  hrv : ∀ k, rv.ownBlock = some k → w0.heap.size ≤ k
  n1 : b ≠ g
  n2 : bv.ownBlock ≠ some b
  n3 : rv.ownBlock ≠ some b
  n4 : cv.ownBlock ≠ some g
  n5 : ∀ k, cv.ownBlock = some k → bv.ownBlock ≠ some k
  n6 : ∀ k, cv.ownBlock = some k → rv.ownBlock ≠ some k
  x : ∀ k, X k → k < w.heap.size ∧ k ≠ b ∧ k ≠ g ∧ cv.ownBlock ≠ some k ∧ bv.ownBlock ≠ some k ∧ rv.ownBlock ≠ some k
theorem BU.Two.stepA {X : Nat → Prop} {w0 w w' : World} {b : Nat} {cv cvn : Value} {S S' : St} {g : Nat} {bv rv : Value} {R : RS} (h : Two X w0 w b cv S g bv rv R) (ha : Ar w' b cvn S') (hs : Stp b cv cvn w w') :
    Two X w0 w' b cvn S' g bv rv R ∧ ∀ k, X k → w'.heap[k]? = w.heap[k]? := by
  have hbl := fun k hk => (h.r.ob.lt k hk).2
  have hrl := fun k hk => (h.r.oc.lt k hk).2
  have hlift := hs.lift h.below h.hb h.hc
  refine ⟨⟨ha, h.r.kept (hs.block g h.r.lt (fun e => h.n1 e.symm) h.n4) (fun k hk => hs.block k (hbl k hk) (fun e => h.n2 (e ▸ hk)) (fun e => h.n5 k e hk)) (fun k hk => hs.block k (hrl k hk) (fun e => h.n3 (e ▸ hk)) (fun e => h.n6 k e hk)),
    hlift.1, h.hb, h.hg, hlift.2, h.hbv, h.hrv, h.n1, h.n2, h.n3, ?_, ?_, ?_, ?_⟩, ?_⟩
  · intro e
    rcases hs.own g e with e' | e'
    · exact h.n4 e'
    · have := h.r.lt; omega
  · intro k hk hb
    rcases hs.own k hk with e' | e'
    · exact h.n5 k e' hb
    · have := hbl k hb; omega
  · intro k hk hb
    rcases hs.own k hk with e' | e'
    · exact h.n6 k e' hb
    · have := hrl k hb; omega
  · intro k hk
    obtain ⟨x1, x2, x3, x4, x5, x6⟩ := h.x k hk
    refine ⟨Nat.lt_of_lt_of_le x1 hs.size, x2, x3, fun e => ?_, x5, x6⟩
    rcases hs.own k e with e' | e'
    · exact x4 e'
    · omega
  · intro k hk
    obtain ⟨x1, x2, x3, x4, x5, x6⟩ := h.x k hk
    exact hs.block k x1 x2 x4
theorem BU.Two.stepR {X : Nat → Prop} {w0 w w' : World} {b : Nat} {cv : Value} {S : St} {g : Nat} {bv rv rvn : Value} {R R' : RS} (h : Two X w0 w b cv S g bv rv R) (hr : Rf w' g bv rvn R') (hs : RStp g bv rv rvn w w') :
    Two X w0 w' b cv S g bv rvn R' ∧ ∀ k, X k → w'.heap[k]? = w.heap[k]? := by
  have hcl := fun k hk => (h.a.own.lt k hk).2
  refine ⟨⟨h.a.kept (hs.block b h.a.lt h.n1 h.n2 h.n3) (fun k hk => hs.block k (hcl k hk) (fun e => h.n4 (e ▸ hk)) (h.n5 k hk) (h.n6 k hk)), hr,
    h.below.trans ⟨hs.os, hs.tape, hs.output, hs.size, fun k hk => hs.block k (Nat.lt_of_lt_of_le hk h.below.size) (by have := h.hg; omega) (fun e => by have := h.hbv k e; omega) (fun e => by have := h.hrv k e; omega)⟩,
    h.hb, h.hg, h.hc, h.hbv, ?_, h.n1, h.n2, ?_, h.n4, h.n5, ?_, ?_⟩, ?_⟩
  · intro k hk
    rcases hs.own k hk with e' | e'
    · exact h.hrv k e'
    · exact Nat.le_trans h.below.size e'
  · intro e
    rcases hs.own b e with e' | e'
    · exact h.n3 e'
    · have := h.a.lt; omega
  · intro k hk hb
    rcases hs.own k hb with e' | e'
    · exact h.n6 k hk e'
    · have := hcl k hk; omega
  · intro k hk
    obtain ⟨x1, x2, x3, x4, x5, x6⟩ := h.x k hk
    refine ⟨Nat.lt_of_lt_of_le x1 hs.size, x2, x3, x4, x5, fun e => ?_⟩
    rcases hs.own k e with e' | e'
    · exact x6 e'
    · omega
  · intro k hk
    obtain ⟨x1, x2, x3, x4, x5, x6⟩ := h.x k hk
    exact hs.block k x1 x3 x5 x6
/-- new memory, and writes to it alone -/
theorem BU.Two.grow {X Y : Nat → Prop} {w0 w w' : World} {b : Nat} {cv : Value} {S : St} {g : Nat} {bv rv : Value} {R : RS} (h : Two X w0 w b cv S g bv rv R) (hb : Below w.heap.size w w') (hY : ∀ k, Y k → X k ∨ (w.heap.size ≤ k ∧ k < w'.heap.size)) :
    Two Y w0 w' b cv S g bv rv R := by
  refine ⟨h.a.below hb, h.r.below hb, h.below.trans (hb.mono h.below.size), h.hb, h.hg, h.hc, h.hbv, h.hrv, h.n1, h.n2, h.n3, h.n4, h.n5, h.n6, ?_⟩
  intro k hk
  rcases hY k hk with hk | ⟨hk, hk'⟩
  · obtain ⟨x1, x2, x3, x4, x5, x6⟩ := h.x k hk
    exact ⟨Nat.lt_of_lt_of_le x1 hb.size, x2, x3, x4, x5, x6⟩
  · have q1 := h.a.lt
    have q2 := h.r.lt
    exact ⟨hk', by omega, by omega, fun e => by have := (h.a.own.lt k e).2; omega, fun e => by have := (h.r.ob.lt k e).2; omega, fun e => by have := (h.r.oc.lt k e).2; omega⟩
/-- writes to protected blocks alone -/
theorem BU.Two.touch {X : Nat → Prop} {w0 w w' : World} {b : Nat} {cv : Value} {S : St} {g : Nat} {bv rv : Value} {R : RS} (h : Two X w0 w b cv S g bv rv R) {q : Nat} (hq : X q) (hq0 : w0.heap.size ≤ q) (hw : w.grownBy w' (some q)) :
    Two X w0 w' b cv S g bv rv R := by
  obtain ⟨x1, x2, x3, x4, x5, x6⟩ := h.x q hq
  have hk : ∀ k, k < w.heap.size → k ≠ q → w'.heap[k]? = w.heap[k]? := fun k hk hn => hw.block k hk (fun e => hn (by injection e))
  refine ⟨h.a.kept (hk b h.a.lt (fun e => x2 e.symm)) (fun k e => hk k (h.a.own.lt k e).2 (fun e' => x4 (e' ▸ e))), h.r.kept (hk g h.r.lt (fun e => x3 e.symm)) (fun k e => hk k (h.r.ob.lt k e).2 (fun e' => x5 (e' ▸ e))) (fun k e => hk k (h.r.oc.lt k e).2 (fun e' => x6 (e' ▸ e))),
    h.below.trans ⟨hw.os, hw.tape, hw.output, hw.size, fun k hk' => hk k (Nat.lt_of_lt_of_le hk' h.below.size) (by omega)⟩, h.hb, h.hg, h.hc, h.hbv, h.hrv, h.n1, h.n2, h.n3, h.n4, h.n5, h.n6, ?_⟩
  intro k hk'
  obtain ⟨y1, y2⟩ := h.x k hk'
  exact ⟨Nat.lt_of_lt_of_le y1 hw.size, y2⟩
end Go.Proofs
