/-
  What an arena is in the world, and what a call may change. No condition.
-/
import Derived.Test.YtcdcladefccifaaB
set_option linter.unusedVariables false
set_option linter.unusedSimpArgs false
namespace Go.Proofs
open Go.RowKit
namespace BU
/-- What an arena holds. -/
structure St where
  m : List Int
  xs : List Int
  size : Int
  used : Int
def nums (xs : List Int) : List Value := xs.map fun x => .int .i64 x
structure Ar (w : World) (b : Nat) (cv : Value) (S : St) : Prop where
  hm : S.m.length = 65536
  h0 : 0 ≤ S.used
  h1 : S.used ≤ S.size
  h2 : S.size ≤ 65536
  hx : 8 * (S.xs.length : Int) ≤ S.used
  blk : w.heap[b]? = some (.cells (ZZ.cs S.m S.size S.used cv).toArray 54 (0, 0))
  own : w.ownsRow 0 3 1 cv S.xs.length (nums S.xs)
  ne : cv.ownBlock ≠ some b
/-- What a call may do to the world: the arena's block and its cells' row, and new blocks. -/
structure Stp (b : Nat) (cv cv' : Value) (w w' : World) : Prop where
  os : w'.os = w.os
  tape : w'.tape = w.tape
  output : w'.output = w.output
  size : w.heap.size ≤ w'.heap.size
  block : ∀ k, k < w.heap.size → k ≠ b → cv.ownBlock ≠ some k → w'.heap[k]? = w.heap[k]?
  own : ∀ k, cv'.ownBlock = some k → cv.ownBlock = some k ∨ w.heap.size ≤ k
theorem Stp.refl (b : Nat) (cv : Value) (w : World) : Stp b cv cv w w := ⟨rfl, rfl, rfl, Nat.le_refl _, fun _ _ _ _ => rfl, fun _ h => .inl h⟩
theorem Stp.drewN {b : Nat} {cv cv' : Value} {w w' : World} (h : Stp b cv cv' w w') (k : Nat) : Stp b cv cv' w (w'.drewN k) := ⟨h.os, h.tape, h.output, h.size, h.block, h.own⟩
theorem Stp.trans {b : Nat} {cv cv' cv'' : Value} {w w' w'' : World} (h : Stp b cv cv' w w') (k : Stp b cv' cv'' w' w'') : Stp b cv cv'' w w'' := by
  refine ⟨k.os.trans h.os, k.tape.trans h.tape, k.output.trans h.output, Nat.le_trans h.size k.size, fun i hi hb hc => ?_, fun i hi => ?_⟩
  · rw [k.block i (Nat.lt_of_lt_of_le hi h.size) hb (fun e => ?_), h.block i hi hb hc]
    rcases h.own i e with e' | e'
    · exact hc e'
    · omega
  · rcases k.own i hi with e | e
    · exact h.own i e
    · exact .inr (Nat.le_trans h.size e)
theorem Stp.below {b : Nat} {cv cv' : Value} {w w' : World} (h : Stp b cv cv' w w') {B : Nat} (hB : B ≤ w.heap.size) (hb : B ≤ b) (hc : ∀ k, cv.ownBlock = some k → B ≤ k) : Below B w w' :=
  ⟨h.os, h.tape, h.output, h.size, fun k hk => h.block k (by omega) (by omega) (fun e => by have := hc k e; omega)⟩
theorem Stp.setCell {b : Nat} {cv cv' : Value} {w w' : World} (h : Stp b cv cv' w w') (a : Addr) (v : Value) (ha : a.block = b) : Stp b cv cv' w (w'.setCell a v) := by
  refine ⟨h.os, h.tape, h.output, by simpa [World.setCell] using h.size, fun k hk hb hc => ?_, h.own⟩
  rw [heap_setCell_other _ _ _ _ (by omega)]
  exact h.block k hk hb hc

theorem cs_size (m : List Int) (hm : m.length = 65536) (s u : Int) (cv : Value) : (ZZ.cs m s u cv)[65536]? = some (.int .i64 s) := by
  unfold ZZ.cs
  rw [List.getElem?_append_right (by rw [List.length_map, hm]; omega), List.length_map, hm]; rfl
theorem cs_used (m : List Int) (hm : m.length = 65536) (s u : Int) (cv : Value) : (ZZ.cs m s u cv)[65537]? = some (.int .i64 u) := by
  unfold ZZ.cs
  rw [List.getElem?_append_right (by rw [List.length_map, hm]; omega), List.length_map, hm]; rfl
theorem cs_cells (m : List Int) (hm : m.length = 65536) (s u : Int) (cv : Value) : (ZZ.cs m s u cv)[65538]? = some cv := by
  unfold ZZ.cs
  rw [List.getElem?_append_right (by rw [List.length_map, hm]; omega), List.length_map, hm]; rfl
theorem cs_byte (m : List Int) (hm : m.length = 65536) (s u : Int) (cv : Value) (i : Nat) (hi : i < 65536) : (ZZ.cs m s u cv)[i]? = some (.int .u8 (m.getD i 0)) := by
  unfold ZZ.cs
  rw [List.getElem?_append_left (by rw [List.length_map, hm]; exact hi), List.getElem?_map]
  simp [List.getElem?_eq_getElem (show i < m.length by omega), List.getD_eq_getElem?_getD]
theorem set_at (l : List Value) (n : Nat) (hn : l.length = n) (a x : Value) (r : List Value) : (l ++ a :: r).set n x = l ++ x :: r := by
  rw [List.set_append_right n x (by omega), hn, Nat.sub_self]; rfl
theorem cs_set_used (m : List Int) (hm : m.length = 65536) (s u u' : Int) (cv : Value) : (ZZ.cs m s u cv).set 65537 (.int .i64 u') = ZZ.cs m s u' cv := by
  unfold ZZ.cs
  have h := set_at (m.map (fun x => Value.int .u8 x) ++ [Value.int .i64 s]) 65537 (by rw [List.length_append, List.length_map, hm]; rfl) (Value.int .i64 u) (Value.int .i64 u') [cv]
  simpa only [List.append_assoc, List.cons_append, List.nil_append] using h
theorem cs_set_cells (m : List Int) (hm : m.length = 65536) (s u : Int) (cv cv' : Value) : (ZZ.cs m s u cv).set 65538 cv' = ZZ.cs m s u cv' := by
  unfold ZZ.cs
  have h := set_at (m.map (fun x => Value.int .u8 x) ++ [Value.int .i64 s, Value.int .i64 u]) 65538 (by rw [List.length_append, List.length_map, hm]; rfl) cv cv' []
  simpa only [List.append_assoc, List.cons_append, List.nil_append] using h

section
variable {w : World} {b : Nat} {cv : Value} {S : St}
theorem cellOf (h : Ar w b cv S) (i : Nat) : w.cell? ⟨b, i, none⟩ = (ZZ.cs S.m S.size S.used cv)[i]? := by
  rw [cell_of_row w b i _ 54 (0, 0) h.blk, List.getElem?_toArray]
theorem Ar.sizeCell (h : Ar w b cv S) : w.cell? ⟨b, 65536, none⟩ = some (.int .i64 S.size) := (cellOf h _).trans (cs_size _ h.hm _ _ _)
theorem Ar.usedCell (h : Ar w b cv S) : w.cell? ⟨b, 65537, none⟩ = some (.int .i64 S.used) := (cellOf h _).trans (cs_used _ h.hm _ _ _)
theorem Ar.cellsCell (h : Ar w b cv S) : w.cell? ⟨b, 65538, none⟩ = some cv := (cellOf h _).trans (cs_cells _ h.hm _ _ _)
theorem Ar.free (h : Ar w b cv S) (i : Nat) : w.frozen? ⟨b, i, none⟩ = false := by simp [World.frozen?, h.blk]
theorem Ar.lt (h : Ar w b cv S) : b < w.heap.size := (Array.getElem?_eq_some_iff.1 h.blk).1
theorem Ar.drewN (h : Ar w b cv S) (k : Nat) : Ar (w.drewN k) b cv S := ⟨h.hm, h.h0, h.h1, h.h2, h.hx, h.blk, h.own, h.ne⟩
/-- An arena is untouched by what touches neither its block nor its row. -/
theorem Ar.kept {w' : World} (h : Ar w b cv S) (hb : w'.heap[b]? = w.heap[b]?) (hr : ∀ g, cv.ownBlock = some g → w'.heap[g]? = w.heap[g]?) : Ar w' b cv S := by
  refine ⟨h.hm, h.h0, h.h1, h.h2, h.hx, hb.trans h.blk, ?_, h.ne⟩
  obtain ⟨h1, h2⟩ := h.own
  refine ⟨h1, ?_⟩
  rcases h2 with h2 | ⟨g, cap, cur, hv, hg, hh, r⟩
  · exact .inl h2
  · exact .inr ⟨g, cap, cur, hv, hg, by rw [hr g (by rw [hv]; rfl)]; exact hh, r⟩
theorem Ar.setUsed (h : Ar w b cv S) (u : Int) (h0 : S.used ≤ u) (h1 : u ≤ S.size) : Ar (w.setCell ⟨b, 65537, none⟩ (.int .i64 u)) b cv { S with used := u } := by
  refine ⟨h.hm, by have := h.h0; show 0 ≤ u; omega, h1, h.h2, by have := h.hx; show 8 * (S.xs.length : Int) ≤ u; omega, ?_, ?_, h.ne⟩
  · rw [heap_setCell_same w b 65537 _ 54 _ h.blk, List.setIfInBounds_toArray, cs_set_used _ h.hm]
  · exact h.own.kept (row := some b) ⟨rfl, rfl, rfl, by simp [World.setCell], fun k _ hk => heap_setCell_other _ _ _ _ (fun e => hk (by rw [e]))⟩ (.inr h.ne)
end
end BU
open BU
theorem alloc_any (w : World) (b : Nat) (cv : Value) (S : St) (h : Ar w b cv S) (n : Int) (hn : 1 ≤ n) (hf : n ≤ S.size - S.used) :
    Calls Try.prog 18 #[.pointer (some ⟨b, 0, none⟩), .int .i64 n] w (fun e w' => e = .returned (.tuple #[.int .i64 S.used, .int .i64 0]) ∧ Ar w' b cv { S with used := S.used + n } ∧ Stp b cv cv w w') := by
  refine (alloc_walk w b S.size S.used n h.sizeCell h.usedCell (h.free _) h.h0 h.h1 h.h2 hn hf).mono ?_
  rintro e w' ⟨rfl, k, rfl⟩
  exact ⟨rfl, (h.setUsed _ (by omega) (by omega)).drewN k, ((Stp.refl b cv w).setCell _ _ rfl).drewN k⟩
theorem allocfull_any (w : World) (b : Nat) (cv : Value) (S : St) (h : Ar w b cv S) (n : Int) (hn : 1 ≤ n) (hf : S.size - S.used < n) :
    Calls Try.prog 18 #[.pointer (some ⟨b, 0, none⟩), .int .i64 n] w (fun e w' => e = .returned (.tuple #[.int .i64 0, .int .i64 60]) ∧ Ar w' b cv S ∧ Stp b cv cv w w') := by
  refine (alloc_full w b S.size S.used n h.sizeCell h.usedCell h.h0 h.h1 h.h2 hn hf).mono ?_
  rintro e w' ⟨rfl, k, rfl⟩
  exact ⟨rfl, h.drewN k, (Stp.refl b cv w).drewN k⟩
/-- after an append to the cells' row -/
theorem BU.Ar.appended {w w1 : World} {b : Nat} {cv cv' : Value} {S : St} (h : Ar w b cv S) (hu : S.used + 0 ≤ S.used) (ho : w1.ownsRow 0 3 1 cv' (S.xs.length + 1) (nums S.xs ++ [.int .i64 0])) (hg : w.grownBy w1 cv.ownBlock)
    (ha : cv'.ownBlock = cv.ownBlock ∨ ∃ g, cv'.ownBlock = some g ∧ w.heap.size ≤ g) (hx : 8 * (S.xs.length : Int) + 8 ≤ S.used) :
    Ar (w1.setCell ⟨b, 65538, none⟩ cv') b cv' { S with xs := S.xs ++ [0] } ∧ Stp b cv cv' w (w1.setCell ⟨b, 65538, none⟩ cv') := by
  have hb1 : w1.heap[b]? = w.heap[b]? := hg.block b h.lt (fun e => h.ne e.symm)
  have hne : cv'.ownBlock ≠ some b := by
    rcases ha with ha | ⟨g, ha, hl⟩
    · rw [ha]; exact h.ne
    · rw [ha]; intro e; injection e with e; have := h.lt; omega
  constructor
  · refine ⟨h.hm, h.h0, h.h1, h.h2, by simp only [List.length_append, List.length_cons, List.length_nil]; omega, ?_, ?_, hne⟩
    · rw [heap_setCell_same w1 b 65538 _ 54 _ (hb1.trans h.blk), List.setIfInBounds_toArray, cs_set_cells _ h.hm]
    · have := ho.kept (row := some b) (w' := w1.setCell ⟨b, 65538, none⟩ cv') ⟨rfl, rfl, rfl, by simp [World.setCell], fun k _ hk => heap_setCell_other _ _ _ _ (fun e => hk (by rw [e]))⟩ (.inr hne)
      simpa [nums] using this
  · refine ⟨hg.os, hg.tape, hg.output, by simpa [World.setCell] using hg.size, fun k hk hb hc => ?_, fun k hk => ?_⟩
    · rw [heap_setCell_other _ _ _ _ (by omega)]
      exact hg.block k hk (fun e => hc e.symm)
    · rcases ha with ha | ⟨g, ha, hl⟩
      · exact .inl (ha ▸ hk)
      · rw [ha] at hk; injection hk with hk; exact .inr (by omega)
end Go.Proofs
