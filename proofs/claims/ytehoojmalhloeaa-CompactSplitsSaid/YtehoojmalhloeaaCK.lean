/- A user's entries that count, without those that delete nothing (compact.settled): what the program computes. Its conditions are that what it reads can be read and is not too long for memory. -/
import Derived.Test.YtehoojmalhloeaaCJ
import Derived.Laws.EntriesVeiled
namespace Go.Proofs.Ytehoojmalhloeaa.CM
open Go.RowKit Go.Proofs.YtehoojmalhloeaaW.PrintWords
set_option linter.unusedVariables false
set_option linter.unusedSimpArgs false
set_option maxRecDepth 100000

/-- The entries that settled leaves. -/
def settledL (l : List PC.S44) : List PC.S44 := (runM l.reverse).2.reverse

set_option maxHeartbeats 8000000 in
theorem settled_w (A : Option Addr) (c : Nat) (l : List PC.S44) (w : World) (hr : Kd.C PC.k44 w A l.length l) (hc : l.length ≤ c) (hbig : l.length * 48 ≤ 140737488355328) :
    Calls Try.prog 67 #[.slice A l.length c] w fun e w' => ∃ v, e = .returned v ∧ Kd.R PC.k44 44 w' w.heap.size (fun _ => True) v (settledL l) ∧ Below w.heap.size w w' := by
  obtain ⟨W0, hW0, hB0, x1, x2, x3, x4⟩ : ∃ W0, ((((w.alloc (Obj.cells #[Value.slice A l.length c] 22)).alloc (Obj.cells #[Value.slice none 0 0] 22)).alloc
          (Obj.cells #[Value.bool false] 4)).alloc
      (Obj.cells
        #[Value.func (Fn.func 87) #[]
            #[Value.pointer (some { block := w.heap.size + 1 + 1, off := 0 }),
              Value.pointer (some { block := w.heap.size + 1, off := 0 })]]
        130)) = W0 ∧ Below w.heap.size w W0 ∧ Boxed W0 w.heap.size 22 (.slice A l.length c) ∧ Boxed W0 (w.heap.size + 1) 22 (.slice none 0 0) ∧ Boxed W0 (w.heap.size + 1 + 1) 4 (.bool false) ∧
      Boxed W0 (w.heap.size + 1 + 1 + 1) 130 (.func (.func 87) #[] #[.pointer (some ⟨w.heap.size + 1 + 1, 0, none⟩), .pointer (some ⟨w.heap.size + 1, 0, none⟩)]) := by
    have bn : ∀ (W : World) (n t : Nat) (v : Value), W.heap.size = n → Boxed (W.alloc (.cells #[v] t)) n t v := fun W n t v h => h ▸ Boxed.new W t v
    refine ⟨_, rfl, ((((Below.refl w.heap.size w).alloc (by simp) _).alloc (by simp) _).alloc (by simp; omega) _).alloc (by simp; omega) _, ?_, ?_, ?_, ?_⟩
    · exact (((bn _ _ _ _ rfl).alloc _).alloc _).alloc _
    · exact ((bn _ _ _ _ (by simp)).alloc _).alloc _
    · exact (bn _ _ _ _ (by simp)).alloc _
    · exact bn _ _ _ _ (by simp)
  have hsz : w.heap.size ≤ W0.heap.size := hB0.size
  have HL := Lib.hid (lit_w w w.heap.size (w.heap.size + 1 + 1) (w.heap.size + 1) w.heap.size (w.heap.size + 1 + 1 + 1) (by omega) (by omega) (by omega) A c l W0 (keepC hr (Nat.le_refl _) hB0) hc x1 x4 ⟨_, x3, x2, Kd.R_nil _ _ _ _ _, hB0, hsz⟩ hbig)
  have HR := Lib.hid (fun v xs W h1 h2 => reverse_w w w.heap.size v xs W h1 h2)
  clear hr x1 x2 x3 x4 hB0 hsz
  go_enter Try.func67, Try.ntmps67
  go_wp2_with (first | (go_at_call 88; refine HL.out.mono ?_; rintro e w1 ⟨rfl, v1, hb1, hb2, hb3, hb4, hb5⟩; obtain ⟨A1, k1, hv1⟩ := Kd.R_slice hb3; subst hv1; have f1 := hb2.cell; have f2 := hb2.frozen; have n2 : some (w.heap.size + 1) ≠ (Value.slice A1 (runM l.reverse).2.length k1).ownBlock := Kd.R_ne hb3 hb2 (by decide); have G := Lib.hid (And.intro hb3 (And.intro hb4 (And.intro hb2 n2))); clear hb1 hb2 hb3 hb4 hb5 n2) | (go_at_call 89; refine (HR.out _ _ _ G.out.1 G.out.2.1).mono ?_; rintro e w2 ⟨rfl, hr2, hb2, hk2⟩; have d2 := (hk2 _ G.out.2.2.2).trans G.out.2.2.1; have d2b : Boxed w2 (w.heap.size + 1) 22 _ := d2; have g1 := d2b.cell; have g2 := d2b.frozen; have G2 := Lib.hid (And.intro hr2 (And.intro hb2 d2b)); clear hr2 hb2 hk2 d2 d2b))
  have hset : Boxed (w2.setCell { block := w.heap.size + 1, off := 0 } (Value.slice A1 (runM l.reverse).snd.length k1)) (w.heap.size + 1) 22 (Value.slice A1 (runM l.reverse).snd.length k1) := G2.out.2.2.set _
  have hc9 := hset.cell
  refine bodyPost_ret (v := .slice A1 (runM l.reverse).2.length k1) ?_ rfl ?_
  · simp [results, Try.results67, go_sem, hc9]
  · exact ⟨_, rfl, Kd.R_set G2.out.1 G2.out.2.2 k44_ne22 0 _, G2.out.2.1.setCell (p := ⟨w.heap.size + 1, 0, none⟩) (by show w.heap.size ≤ w.heap.size + 1; omega) _⟩

end Go.Proofs.Ytehoojmalhloeaa.CM
