/- merge: the walks of the document's iterator. -/
import Derived.Test.YtehoojmalhloeaaNS
namespace Go.Proofs.Ytehoojmalhloeaa.CM
open Go.RowKit Go.Proofs.YtehoojmalhloeaaW.PrintWords
set_option linter.unusedVariables false
set_option linter.unusedSimpArgs false
set_option maxRecDepth 100000

/-- The document's iterator: where it lies. -/
structure Rf (w : World) (Rb : Nat) (LA : Option Addr) (cp : Nat) (L : List PC.S44) (at_ : Int) : Prop where
  blk : w.heap[Rb]? = some (.cells #[.slice LA L.length cp, .int .i64 at_] 118 (0, 0))
  c : Ents w LA L
  ne : ∀ a, LA = some a → a.block ≠ Rb
  len : L.length ≤ 9223372036854775806
section
variable {w w1 : World} {Rb cp : Nat} {LA : Option Addr} {L : List PC.S44} {at_ : Int}
theorem Rf.cells (h : Rf w Rb LA cp L at_) : w.cell? ⟨Rb, 0, none⟩ = some (.slice LA L.length cp) ∧ w.cell? ⟨Rb, 1, none⟩ = some (.int .i64 at_) ∧ w.frozen? ⟨Rb, 1, none⟩ = false := by
  refine ⟨?_, ?_, ?_⟩ <;> simp [World.cell?, World.frozen?, h.blk]
theorem Rf.lt (h : Rf w Rb LA cp L at_) : Rb < w.heap.size := (Array.getElem?_eq_some_iff.1 h.blk).1
theorem Rf.set (h : Rf w Rb LA cp L at_) (v : Int) : Rf (w.setCell ⟨Rb, 1, none⟩ (.int .i64 v)) Rb LA cp L v := by
  refine ⟨?_, fun j hj => ?_, h.ne, h.len⟩
  · rw [heap_setCell_same w Rb 1 _ 118 _ h.blk]
    rfl
  · obtain ⟨ad, e, h1⟩ := h.c j hj
    refine ⟨ad, e, h1.moved ?_⟩
    refine heap_setCell_other _ _ _ _ ?_
    have : (ad.add (j * 4)).block = ad.block := by unfold Addr.add; split <;> rfl
    rw [this]
    exact h.ne ad e
theorem Rf.fr {P : Nat → Prop} (h : Rf w Rb LA cp L at_) (hf : Fr P w w1) (h1 : ¬ P Rb) (h2 : ∀ a, LA = some a → ¬ P a.block) : Rf w1 Rb LA cp L at_ := by
  refine ⟨(hf.block _ h.lt h1).trans h.blk, fun j hj => ?_, h.ne, h.len⟩
  obtain ⟨ad, e, h3⟩ := h.c j hj
  refine ⟨ad, e, h3.moved ?_⟩
  have hb : (ad.add (j * 4)).block = ad.block := by unfold Addr.add; split <;> rfl
  have hl := World.block_lt_of_cell? _ _ h3.1
  rw [hb] at hl ⊢
  exact hf.block _ hl (h2 ad e)
theorem Rf.below (h : Rf w Rb LA cp L at_) (hb : Below w.heap.size w w1) : Rf w1 Rb LA cp L at_ := h.fr (P := fun _ => False) (Fr.of_below hb) (fun h => h) (fun _ _ h => h)
end
theorem told_none {w : World} {Rb cp : Nat} {LA : Option Addr} {L : List PC.S44} (h : Rf w Rb LA cp L (-1)) :
    Calls Try.prog 46 #[.pointer (some ⟨Rb, 0, none⟩)] w (fun e w' => e = .returned (.tuple #[val44 PC.z44, .bool false]) ∧ Below w.heap.size w w') := by
  have hx : (w.alloc (.cells #[.string ⟨#[]⟩, .int .u64 0, .int .i64 0, .string ⟨#[]⟩] 44)).cell? ⟨Rb, 1, none⟩ = some (.int .i64 (-1)) := cell_up h.cells.2.1
  clear h
  go_enter Try.func46, Try.ntmps46
  go_wp2
  (try simp only [Exit.inBlock, Exit.then])
  refine bodyPost_ret (results_ct rfl _ _ w.heap.size 44 #[.string ⟨#[]⟩, .int .u64 0, .int .i64 0, .string ⟨#[]⟩] (0, 0) _ rfl (World.alloc_heap_new w _) Try.underlying44 rfl (by kernel_rfl)) rfl ?_
  exact ⟨rfl, (Below.refl _ w).alloc (Nat.le_refl _) _⟩
set_option maxHeartbeats 4000000 in
theorem told_some {w : World} {Rb cp p : Nat} {LA : Option Addr} {L : List PC.S44} (h : Rf w Rb LA cp L (p : Int)) (hp : p < L.length) :
    Calls Try.prog 46 #[.pointer (some ⟨Rb, 0, none⟩)] w (fun e w' => e = .returned (.tuple #[val44 (L.getD p PC.z44), .bool true]) ∧ Below w.heap.size w w') := by
  obtain ⟨x, hx⟩ : ∃ x, L.getD p PC.z44 = x := ⟨_, rfl⟩
  rw [hx]
  obtain ⟨W, hW⟩ : ∃ W, w.alloc (.cells #[.string ⟨#[]⟩, .int .u64 0, .int .i64 0, .string ⟨#[]⟩] 44) = W := ⟨_, rfl⟩
  have bl : Below w.heap.size w W := by rw [← hW]; exact (Below.refl _ _).alloc (Nat.le_refl _) _
  have hn := World.alloc_heap_new w (.cells #[.string ⟨#[]⟩, .int .u64 0, .int .i64 0, .string ⟨#[]⟩] 44)
  obtain ⟨B, hB⟩ : ∃ B, w.heap.size = B := ⟨_, rfl⟩
  rw [hW, hB] at hn
  have h' := h.below bl
  obtain ⟨k10, k11, _⟩ := h'.cells
  obtain ⟨ad, e, Z⟩ := h'.c p hp
  rw [hx] at Z
  have hl := h.len
  obtain ⟨la, hLa⟩ : ∃ m, L.length = m := ⟨_, rfl⟩
  rw [hLa] at k10 hl hp
  subst e
  have p0 : (0 ≤ (p : Int)) = True := by simp
  have p1 : ((p : Int) < la) = True := eq_true (by omega)
  have p2 : (p < la) = True := eq_true hp
  have d0 : decide ((p : Int) < 0) = false := decide_eq_false (by omega)
  have q1 : IntKind.i64.wrap (p : Int) = (p : Int) := by rw [IntWalk.i64_in _ (by omega)]
  obtain ⟨x0, x1, x2, x3⟩ := Z
  have b0 : W.cell? ⟨B, 0, none⟩ = some (.string ⟨#[]⟩) := by simp [World.cell?, hn]
  have b1 : W.cell? ⟨B, 1, none⟩ = some (.int .u64 0) := by simp [World.cell?, hn]
  have b2 : W.cell? ⟨B, 2, none⟩ = some (.int .i64 0) := by simp [World.cell?, hn]
  have b3 : W.cell? ⟨B, 3, none⟩ = some (.string ⟨#[]⟩) := by simp [World.cell?, hn]
  have f0 : W.frozen? ⟨B, 0, none⟩ = false := by simp [World.frozen?, hn]
  have f1 : W.frozen? ⟨B, 1, none⟩ = false := by simp [World.frozen?, hn]
  have f2 : W.frozen? ⟨B, 2, none⟩ = false := by simp [World.frozen?, hn]
  have f3 : W.frozen? ⟨B, 3, none⟩ = false := by simp [World.frozen?, hn]
  have HN := Lib.hid (And.intro hn bl)
  clear h h' hx hLa hn bl hl
  go_enter Try.func46, Try.ntmps46
  go_wp2_with (first | rw [hW, hB])
  go_region
  go_wp2_with fail
  (try simp only [Exit.inBlock, Exit.then])
  obtain ⟨hn, bl⟩ := HN.out
  have hp : ((((W.setCell ⟨B, 0, none⟩ (.string x.f0.f0)).setCell ⟨B, 1, none⟩ (.int .u64 x.f0.f1)).setCell ⟨B, 2, none⟩ (.int .i64 x.f0.f2)).setCell ⟨B, 3, none⟩ (.string x.f1)).drew.heap[B]? = some (.cells #[.string x.f0.f0, .int .u64 x.f0.f1, .int .i64 x.f0.f2, .string x.f1] 44 (0, 0)) :=
    (heap_setCell_same _ B 3 _ 44 _ (heap_setCell_same _ B 2 _ 44 _ (heap_setCell_same _ B 1 _ 44 _ (heap_setCell_same W B 0 _ 44 _ hn))))
  refine bodyPost_ret (results_ct rfl _ _ B 44 _ (0, 0) _ rfl hp Try.underlying44 rfl (by kernel_rfl)) rfl ?_
  refine ⟨rfl, ?_⟩
  have F : Fr (fun b => b = B) w W := Fr.of_below bl
  exact (((((F.set _ _ rfl).set _ _ rfl).set _ _ rfl).set _ _ rfl).drew).to_below (Nat.le_refl _ |> fun _ => by omega) (fun b e => by omega)
/-- Told. -/
theorem told_w {w : World} {Rb cp : Nat} {LA : Option Addr} {s : Sh} {q : Option Nat} (h : Rf w Rb LA cp (upto s s.N) (atV q)) (hq : ∀ p, q = some p → p < s.N) :
    Calls Try.prog 46 #[.pointer (some ⟨Rb, 0, none⟩)] w (fun e w' => e = .returned (.tuple #[val44 (told s q).1, .bool (told s q).2]) ∧ Below w.heap.size w w') := by
  cases q with
  | none => exact told_none h
  | some p =>
    have := told_some h (by rw [upto_len]; exact hq p rfl)
    rw [upto_get s (hq p rfl)] at this
    exact this
end Go.Proofs.Ytehoojmalhloeaa.CM
