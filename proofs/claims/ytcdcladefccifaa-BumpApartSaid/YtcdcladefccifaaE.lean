/-
  The walk of awake: it returns true in any world. No condition.
-/
import Derived.Test.YtcdcladefccifaaD
set_option linter.unusedVariables false
set_option linter.unusedSimpArgs false
namespace Go.Proofs
open Go.RowKit BU
theorem BU.Stp.lift {b : Nat} {cv cv' : Value} {w0 w w' : World} (hB : Below w0.heap.size w0 w) (h : Stp b cv cv' w w') (hb : w0.heap.size ≤ b) (hc : ∀ k, cv.ownBlock = some k → w0.heap.size ≤ k) :
    Below w0.heap.size w0 w' ∧ ∀ k, cv'.ownBlock = some k → w0.heap.size ≤ k :=
  ⟨hB.trans (h.below hB.size hb hc), fun k hk => (h.own k hk).elim (hc k) (fun e => Nat.le_trans hB.size e)⟩
/-- an arena made since w0, and nothing older touched -/
structure BU.New (w0 w : World) (b : Nat) (cv : Value) (S : St) : Prop where
  ar : Ar w b cv S
  below : Below w0.heap.size w0 w
  hb : w0.heap.size ≤ b
  hc : ∀ k, cv.ownBlock = some k → w0.heap.size ≤ k
theorem BU.New.step {w0 w w' : World} {b : Nat} {cv cv' : Value} {S S' : St} (h : New w0 w b cv S) (ha : Ar w' b cv' S') (hs : Stp b cv cv' w w') : New w0 w' b cv' S' :=
  ⟨ha, (hs.lift h.below h.hb h.hc).1, h.hb, (hs.lift h.below h.hb h.hc).2⟩
set_option maxRecDepth 100000 in
set_option maxHeartbeats 400000 in
theorem awake_any (w : World) : Calls Try.prog 8 #[] w (fun e w' => e = .returned (.bool true) ∧ Below w.heap.size w w') := by
  go_enter Try.func8, Try.ntmps8
  go_wp2_with fail
  refine (new_any w 20 (by omega) (by omega)).mono ?_
  rintro e w1 ⟨rfl, a1, b1⟩
  have n1 : BU.New w w1 w.heap.size (.slice none 0 0) ⟨ZZ.zb, [], 20, 0⟩ := ⟨a1, b1, Nat.le_refl _, by simp [Value.ownBlock]⟩
  clear a1 b1
  have n1 := Lib.hid n1
  go_wp2_with fail
  refine (alloc_any w1 _ _ _ n1.out.ar 5 (by decide) (by decide)).mono ?_
  rintro e w2 ⟨rfl, a2, s2⟩
  have n2 := Lib.hid (n1.out.step a2 s2)
  clear a2 s2 n1
  go_wp2_with fail
  refine (newcell_walk w2 _ _ _ n2.out.ar (by decide)).mono ?_
  rintro e w3 ⟨rfl, cv3, a3, s3⟩
  have n3 := Lib.hid (n2.out.step a3 s3)
  clear a3 s3 n2
  go_wp2_with fail
  refine (allocfull_any w3 _ _ _ n3.out.ar 8 (by decide) (by decide)).mono ?_
  rintro e w4 ⟨rfl, a4, s4⟩
  have n4 := Lib.hid (n3.out.step a4 s4)
  clear a4 s4 n3
  go_wp2_with fail
  refine (alloc_any w4 _ _ _ n4.out.ar 7 (by decide) (by decide)).mono ?_
  rintro e w5 ⟨rfl, a5, s5⟩
  have n5 := Lib.hid (n4.out.step a5 s5)
  clear a5 s5 n4
  go_wp2_with fail
  refine (caseq_any w5 _ _ _ n5.out.ar 0 0 7 (by decide) (by decide) (by decide)).mono ?_
  rintro e w6 ⟨rfl, a6, s6⟩
  have n6 := Lib.hid (n5.out.step a6 s6)
  clear a6 s6 n5
  go_wp2_with fail
  refine (used_any w6 _ _ _ n6.out.ar).mono ?_
  rintro e w7 ⟨rfl, hw⟩
  subst hw
  go_wp2_with fail
  go_ret
  exact ⟨rfl, n6.out.below⟩
end Go.Proofs
