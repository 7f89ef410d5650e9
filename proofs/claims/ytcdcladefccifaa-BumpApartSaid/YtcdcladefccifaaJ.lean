/-
  The document's arena (package staddleref06) in the world, and contracts of its calls. Conditions: as each states.
-/
import Derived.Test.YtcdcladefccifaaR
import Derived.RegionTactic
import Derived.BigRegion
import Derived.Laws.MakeOwn
import Derived.Deep.OwnRows
set_option linter.unusedVariables false
set_option linter.unusedSimpArgs false
namespace Go.Proofs
open Go.RowKit BU
namespace BU
structure RS where
  B : List Int
  xs : List Int
  used : Int
structure Rf (w : World) (g : Nat) (bv cv : Value) (R : RS) : Prop where
  hB : R.B.length ≤ 65536
  h0 : 0 ≤ R.used
  h1 : R.used ≤ (R.B.length : Int)
  hx : 8 * (R.xs.length : Int) ≤ R.used
  blk : w.heap[g]? = some (.cells #[bv, .int .i64 R.used, cv] 45 (0, 0))
  ob : w.ownsRow 0 5 1 bv R.B.length (byts R.B)
  oc : w.ownsRow 0 3 1 cv R.xs.length (nums R.xs)
  bg : bv.ownBlock ≠ some g
  cg : cv.ownBlock ≠ some g
  bc : ∀ k, bv.ownBlock = some k → cv.ownBlock ≠ some k
  bn : ∃ q, bv.ownBlock = some q
structure RStp (g : Nat) (bv cv cv' : Value) (w w' : World) : Prop where
  os : w'.os = w.os
  tape : w'.tape = w.tape
  output : w'.output = w.output
  size : w.heap.size ≤ w'.heap.size
  block : ∀ k, k < w.heap.size → k ≠ g → bv.ownBlock ≠ some k → cv.ownBlock ≠ some k → w'.heap[k]? = w.heap[k]?
  own : ∀ k, cv'.ownBlock = some k → cv.ownBlock = some k ∨ w.heap.size ≤ k
theorem RStp.refl (g : Nat) (bv cv : Value) (w : World) : RStp g bv cv cv w w := ⟨rfl, rfl, rfl, Nat.le_refl _, fun _ _ _ _ _ => rfl, fun _ h => .inl h⟩
theorem RStp.drewN {g : Nat} {bv cv cv' : Value} {w w' : World} (h : RStp g bv cv cv' w w') (k : Nat) : RStp g bv cv cv' w (w'.drewN k) := ⟨h.os, h.tape, h.output, h.size, h.block, h.own⟩
theorem RStp.trans {g : Nat} {bv cv cv' cv'' : Value} {w w' w'' : World} (h : RStp g bv cv cv' w w') (k : RStp g bv cv' cv'' w' w'') : RStp g bv cv cv'' w w'' := by
  refine ⟨k.os.trans h.os, k.tape.trans h.tape, k.output.trans h.output, Nat.le_trans h.size k.size, fun i hi hb hb2 hc => ?_, fun i hi => ?_⟩
  · rw [k.block i (Nat.lt_of_lt_of_le hi h.size) hb hb2 (fun e => ?_), h.block i hi hb hb2 hc]
    rcases h.own i e with e' | e'
    · exact hc e'
    · omega
  · rcases k.own i hi with e | e
    · exact h.own i e
    · exact .inr (Nat.le_trans h.size e)
section
variable {w : World} {g : Nat} {bv cv : Value} {R : RS}
theorem rcell (h : Rf w g bv cv R) (i : Nat) : w.cell? ⟨g, i, none⟩ = (#[bv, .int .i64 R.used, cv] : Array Value)[i]? := cell_of_row w g i _ 45 (0, 0) h.blk
theorem Rf.c0 (h : Rf w g bv cv R) : w.cell? ⟨g, 0, none⟩ = some bv := rcell h 0
theorem Rf.c1 (h : Rf w g bv cv R) : w.cell? ⟨g, 1, none⟩ = some (.int .i64 R.used) := rcell h 1
theorem Rf.c2 (h : Rf w g bv cv R) : w.cell? ⟨g, 2, none⟩ = some cv := rcell h 2
theorem Rf.free (h : Rf w g bv cv R) (i : Nat) : w.frozen? ⟨g, i, none⟩ = false := by simp [World.frozen?, h.blk]
theorem Rf.lt (h : Rf w g bv cv R) : g < w.heap.size := (Array.getElem?_eq_some_iff.1 h.blk).1
theorem Rf.drewN (h : Rf w g bv cv R) (k : Nat) : Rf (w.drewN k) g bv cv R := ⟨h.hB, h.h0, h.h1, h.hx, h.blk, h.ob, h.oc, h.bg, h.cg, h.bc, h.bn⟩
theorem own_kept {w w' : World} {e n : Nat} {v : Value} {xs : List Value} (h : w.ownsRow 0 e 1 v n xs) (hr : ∀ k, v.ownBlock = some k → w'.heap[k]? = w.heap[k]?) : w'.ownsRow 0 e 1 v n xs := by
  obtain ⟨h1, h2⟩ := h
  refine ⟨h1, ?_⟩
  rcases h2 with h2 | ⟨g, cap, cur, hv, hg, hh, r⟩
  · exact .inl h2
  · exact .inr ⟨g, cap, cur, hv, hg, by rw [hr g (by rw [hv]; rfl)]; exact hh, r⟩
theorem Rf.kept {w' : World} (h : Rf w g bv cv R) (hg : w'.heap[g]? = w.heap[g]?) (hb : ∀ k, bv.ownBlock = some k → w'.heap[k]? = w.heap[k]?) (hc : ∀ k, cv.ownBlock = some k → w'.heap[k]? = w.heap[k]?) : Rf w' g bv cv R :=
  ⟨h.hB, h.h0, h.h1, h.hx, hg.trans h.blk, own_kept h.ob hb, own_kept h.oc hc, h.bg, h.cg, h.bc, h.bn⟩
theorem Rf.setUsed (h : Rf w g bv cv R) (u : Int) (h0 : R.used ≤ u) (h1 : u ≤ (R.B.length : Int)) : Rf (w.setCell ⟨g, 1, none⟩ (.int .i64 u)) g bv cv { R with used := u } ∧ RStp g bv cv cv w (w.setCell ⟨g, 1, none⟩ (.int .i64 u)) := by
  constructor
  · refine ⟨h.hB, by have := h.h0; show 0 ≤ u; omega, h1, by have := h.hx; show 8 * (R.xs.length : Int) ≤ u; omega, ?_, ?_, ?_, h.bg, h.cg, h.bc, h.bn⟩
    · rw [heap_setCell_same w g 1 _ 45 _ h.blk]; rfl
    · exact own_kept h.ob fun k hk => heap_setCell_other _ _ _ _ (fun e => h.bg (by rw [show g = k from e.symm]; exact hk))
    · exact own_kept h.oc fun k hk => heap_setCell_other _ _ _ _ (fun e => h.cg (by rw [show g = k from e.symm]; exact hk))
  · exact ⟨rfl, rfl, rfl, by simp [World.setCell], fun k _ hg _ _ => heap_setCell_other _ _ _ _ hg, fun k hk => .inl hk⟩
end
end BU
theorem BU.own_form' {w : World} {e : TypeId} {cv : Value} {n : Nat} {xs : List Value} (h : w.ownsRow 0 e 1 cv n xs) : ∃ A cap, cv = .slice A n cap := by
  rcases h.2 with ⟨rfl, rfl⟩ | ⟨g, cap, cur, rfl, _⟩
  · exact ⟨none, 0, rfl⟩
  · exact ⟨_, cap, rfl⟩
/-! ### New -/
set_option maxRecDepth 100000 in
theorem rnew_bad (w : World) (n : Int) (h0 : n < 0 ∨ 65536 < n) :
   Calls Try.prog 14 #[.int .i64 n] w (fun e w' => e = .returned (.tuple #[.pointer none, .int .i64 1]) ∧ w' = w) := by
  rcases h0 with h0 | h0
  · go_enter Try.func14, Try.ntmps14
    go_wp2_with fail
    go_ret2
    exact ⟨rfl, rfl⟩
  · have h1 : ¬ n < 0 := by omega
    go_enter Try.func14, Try.ntmps14
    go_wp2_with fail
    go_ret2
    exact ⟨rfl, rfl⟩
set_option maxRecDepth 100000 in
theorem rnew_walk (w : World) (m : Nat) (h1 : m ≤ 65536) :
   Calls Try.prog 14 #[.int .i64 (m : Int)] w (fun e w' => e = .returned (.tuple #[.pointer (some ⟨w.heap.size + 1, 0, none⟩), .int .i64 0]) ∧ w' = (w.alloc (.cells (madeCells #[.int .u8 0] m) 5)).alloc (.cells #[.slice (some ⟨w.heap.size, 0, none⟩) m m, .int .i64 0, .slice none 0 0] 45)) := by
  have hmk := fun W => Go.run_make_row' (P := Try.prog) 40 5 (.int .u8 0) 1 Try.underlying40 info5 rfl .i64 .i64 m (by omega) (by omega) W
  have h2 : ¬ (m : Int) < 0 := by omega
  go_enter Try.func14, Try.ntmps14
  go_wp2_with fail
  go_ret2
  exact ⟨rfl, rfl⟩
theorem rnew_any (w : World) (m : Nat) (h1 : m ≤ 65536) :
   Calls Try.prog 14 #[.int .i64 (m : Int)] w (fun e w' => e = .returned (.tuple #[.pointer (some ⟨w.heap.size + 1, 0, none⟩), .int .i64 0]) ∧ Rf w' (w.heap.size + 1) (.slice (some ⟨w.heap.size, 0, none⟩) m m) (.slice none 0 0) ⟨List.replicate m 0, [], 0⟩ ∧ Below w.heap.size w w') := by
  refine (rnew_walk w m h1).mono ?_
  rintro e w' ⟨rfl, rfl⟩
  have hm : m ≤ maxLen := by unfold maxLen; omega
  have ho := World.ownsRow_lit (base := 0) (e := 5) (size := 1) w (madeCells #[Value.int .u8 0] m) m (Nat.zero_le _) hm (by simp [size_madeCells])
  have hl : (madeCells #[Value.int .u8 0] m).toList = byts (List.replicate m 0) := by
    apply List.ext_getElem
    · simp [byts, madeCells]
    · intro i h1 h2
      simp [byts, madeCells, Nat.mod_one]
  rw [hl] at ho
  refine ⟨rfl, ⟨by simpa using h1, Int.le_refl 0, by simp, by simp, heap_alloc2_new w _ _, ?_, World.ownsRow_nil _ 0 3 1, by simp [Value.ownBlock], by simp [Value.ownBlock], by simp [Value.ownBlock], ⟨_, rfl⟩⟩, ((Below.refl _ _).alloc (Nat.le_refl _) _).alloc (by simp) _⟩
  simpa using ho.alloc (.cells #[.slice (some ⟨w.heap.size, 0, none⟩) m m, .int .i64 0, .slice none 0 0] 45)
/-! ### Alloc -/
set_option maxRecDepth 100000 in
theorem ralloc_low (w : World) (g : Nat) (n : Int) (hn : n < 1) : Calls Try.prog 21 #[.pointer (some ⟨g, 0, none⟩), .int .i64 n] w (fun e w' => e = .returned (.tuple #[.int .i64 0, .int .i64 1]) ∧ w' = w) := by
  go_enter Try.func21, Try.ntmps21
  go_wp2
  go_ret2
  exact ⟨rfl, rfl⟩
set_option maxRecDepth 100000 in
theorem ralloc_full (w : World) (g : Nat) (bv cv : Value) (R : RS) (h : Rf w g bv cv R) (n : Int) (hn : 1 ≤ n) (hf : (R.B.length : Int) - R.used < n) :
    Calls Try.prog 21 #[.pointer (some ⟨g, 0, none⟩), .int .i64 n] w (fun e w' => e = .returned (.tuple #[.int .i64 0, .int .i64 60]) ∧ Rf w' g bv cv R ∧ RStp g bv cv cv w w') := by
  obtain ⟨A, cap, rfl⟩ := BU.own_form' h.ob
  have c0 := h.c0
  have c1 := h.c1
  have q0 := h.h0
  have q1 := h.h1
  have q2 := h.hB
  have H := Lib.hid h
  clear h
  go_enter Try.func21, Try.ntmps21
  go_wp2
  go_quiet (fail)
  go_wp2
  go_ret2
  exact ⟨rfl, H.out.drewN _, (RStp.refl _ _ _ _).drewN _⟩
set_option maxRecDepth 100000 in
theorem ralloc_walk (w : World) (g : Nat) (bv cv : Value) (R : RS) (h : Rf w g bv cv R) (n : Int) (hn : 1 ≤ n) (hf : n ≤ (R.B.length : Int) - R.used) :
    Calls Try.prog 21 #[.pointer (some ⟨g, 0, none⟩), .int .i64 n] w (fun e w' => e = .returned (.tuple #[.int .i64 R.used, .int .i64 0]) ∧ Rf w' g bv cv { R with used := R.used + n } ∧ RStp g bv cv cv w w') := by
  obtain ⟨A, cap, rfl⟩ := BU.own_form' h.ob
  have c0 := h.c0
  have c1 := h.c1
  have f1 := h.free 1
  have q0 := h.h0
  have q1 := h.h1
  have q2 := h.hB
  have hfin := Lib.hid (h.setUsed (R.used + n) (by omega) (by omega))
  clear h
  go_enter Try.func21, Try.ntmps21
  go_wp2
  go_quiet (fail)
  go_wp2
  go_ret2
  exact ⟨rfl, hfin.out.1.drewN _, hfin.out.2.drewN _⟩
/-! ### Load, Store, Cas -/
/-- there is no such cell -/
def BU.NoCellR (n : Int) (R : RS) : Prop := n < 0 ∨ (R.xs.length : Int) ≤ n
set_option maxRecDepth 100000 in
theorem rload_no (w : World) (g : Nat) (bv cv : Value) (R : RS) (h : Rf w g bv cv R) (n : Int) (hn : NoCellR n R) :
    Calls Try.prog 25 #[.pointer (some ⟨g, 0, none⟩), .int .i64 n] w (fun e w' => e = .returned (.tuple #[.int .i64 0, .int .i64 1]) ∧ Rf w' g bv cv R ∧ RStp g bv cv cv w w') := by
  obtain ⟨A, cap, rfl⟩ := BU.own_form h.oc
  have c2 := h.c2
  have H := Lib.hid h
  clear h
  unfold BU.NoCellR at hn
  by_cases h0 : n < 0
  · clear hn
    go_enter Try.func25, Try.ntmps25
    go_wp2
    go_ret2
    exact ⟨rfl, H.out, RStp.refl _ _ _ _⟩
  · have h1 : (R.xs.length : Int) ≤ n := by omega
    clear hn
    go_enter Try.func25, Try.ntmps25
    go_wp2
    go_ret2
    exact ⟨rfl, H.out, RStp.refl _ _ _ _⟩
theorem BU.Rf.row {w : World} {g : Nat} {bv cv : Value} {R : RS} (h : Rf w g bv cv R) (n : Int) (h0 : 0 ≤ n) (h1 : n < (R.xs.length : Int)) :
    ∃ q cap, cv = .slice (some ⟨q, 0, none⟩) R.xs.length cap ∧ w.cell? ⟨q, n.toNat, none⟩ = some (.int .i64 (R.xs.getD n.toNat 0)) ∧ w.frozen? ⟨q, n.toNat, none⟩ = false := by
  have ho := h.oc
  rcases ho.2 with ⟨_, hz⟩ | ⟨q, cap, cur, hv, _⟩
  · omega
  · refine ⟨q, cap, hv, ?_, ?_⟩
    · rw [hv] at ho
      rw [ho.cellAt n.toNat (by omega)]
      exact BU.nums_getD (by omega)
    · rw [hv] at ho
      exact ho.frozenAt _
set_option maxRecDepth 100000 in
theorem rload_walk (w : World) (g : Nat) (bv cv : Value) (R : RS) (h : Rf w g bv cv R) (n : Int) (h0 : 0 ≤ n) (h1 : n < (R.xs.length : Int)) :
    Calls Try.prog 25 #[.pointer (some ⟨g, 0, none⟩), .int .i64 n] w (fun e w' => e = .returned (.tuple #[.int .i64 (R.xs.getD n.toNat 0), .int .i64 0]) ∧ Rf w' g bv cv R ∧ RStp g bv cv cv w w') := by
  obtain ⟨q, cap, rfl, hc, hf⟩ := h.row n h0 h1
  have c2 := h.c2
  have H := Lib.hid h
  clear h
  have a0 : ¬ n < 0 := by omega
  have a1 : ¬ (R.xs.length : Int) ≤ n := by omega
  generalize R.xs.getD n.toNat 0 = y at *
  go_enter Try.func25, Try.ntmps25
  go_wp2
  go_ret2
  exact ⟨rfl, H.out, RStp.refl _ _ _ _⟩
theorem BU.Rf.put {w : World} {g : Nat} {bv cv : Value} {R : RS} (h : Rf w g bv cv R) (q n cap : Nat) (hv : cv = .slice (some ⟨q, 0, none⟩) R.xs.length cap) (hn : n < R.xs.length) (y : Int) :
    Rf (w.setCell ⟨q, n, none⟩ (.int .i64 y)) g bv cv { R with xs := R.xs.set n y } ∧ RStp g bv cv cv w (w.setCell ⟨q, n, none⟩ (.int .i64 y)) := by
  have hgb : g ≠ q := fun e => h.cg (by rw [hv, e]; rfl)
  have ho := h.oc
  rw [hv] at ho
  have hs := ho.stored n (.int .i64 y)
  have he : (nums R.xs).set n (.int .i64 y) = nums (R.xs.set n y) := by simp [nums, List.map_set]
  constructor
  · refine ⟨h.hB, h.h0, h.h1, by simpa using h.hx, ?_, ?_, ?_, h.bg, h.cg, h.bc, h.bn⟩
    · rw [heap_setCell_other _ _ _ _ hgb]; exact h.blk
    · exact own_kept h.ob fun k hk => heap_setCell_other _ _ _ _ (fun e => h.bc k hk (by rw [hv, e]; rfl))
    · have := hs.1
      rw [he] at this
      rw [hv]
      simpa using this
  · have hg := hs.2
    exact ⟨hg.os, hg.tape, hg.output, hg.size, fun k hk _ _ hc => hg.block k hk (fun e => hc (by rw [hv]; exact e.symm)), fun k hk => .inl hk⟩
set_option maxRecDepth 100000 in
theorem rstore_no (w : World) (g : Nat) (bv cv : Value) (R : RS) (h : Rf w g bv cv R) (n y : Int) (hn : NoCellR n R) :
    Calls Try.prog 26 #[.pointer (some ⟨g, 0, none⟩), .int .i64 n, .int .i64 y] w (fun e w' => e = .returned (.int .i64 1) ∧ Rf w' g bv cv R ∧ RStp g bv cv cv w w') := by
  obtain ⟨A, cap, rfl⟩ := BU.own_form h.oc
  have c2 := h.c2
  have H := Lib.hid h
  clear h
  unfold BU.NoCellR at hn
  by_cases h0 : n < 0
  · clear hn
    go_enter Try.func26, Try.ntmps26
    go_wp2
    go_ret
    exact ⟨rfl, H.out, RStp.refl _ _ _ _⟩
  · have h1 : (R.xs.length : Int) ≤ n := by omega
    clear hn
    go_enter Try.func26, Try.ntmps26
    go_wp2
    go_ret
    exact ⟨rfl, H.out, RStp.refl _ _ _ _⟩
set_option maxRecDepth 100000 in
theorem rstore_walk (w : World) (g : Nat) (bv cv : Value) (R : RS) (h : Rf w g bv cv R) (n y : Int) (h0 : 0 ≤ n) (h1 : n < (R.xs.length : Int)) :
    Calls Try.prog 26 #[.pointer (some ⟨g, 0, none⟩), .int .i64 n, .int .i64 y] w (fun e w' => e = .returned (.int .i64 0) ∧ Rf w' g bv cv { R with xs := R.xs.set n.toNat y } ∧ RStp g bv cv cv w w') := by
  obtain ⟨q, cap, hv, hc, hf⟩ := h.row n h0 h1
  have hfin := Lib.hid (h.put q n.toNat cap hv (by omega) y)
  subst hv
  have c2 := h.c2
  clear h
  have a0 : ¬ n < 0 := by omega
  have a1 : ¬ (R.xs.length : Int) ≤ n := by omega
  go_enter Try.func26, Try.ntmps26
  go_wp2
  go_ret
  exact ⟨rfl, hfin.out.1, hfin.out.2⟩
set_option maxRecDepth 100000 in
theorem rcas_no (w : World) (g : Nat) (bv cv : Value) (R : RS) (h : Rf w g bv cv R) (n x y : Int) (hn : NoCellR n R) :
    Calls Try.prog 27 #[.pointer (some ⟨g, 0, none⟩), .int .i64 n, .int .i64 x, .int .i64 y] w (fun e w' => e = .returned (.tuple #[.bool false, .int .i64 1]) ∧ Rf w' g bv cv R ∧ RStp g bv cv cv w w') := by
  obtain ⟨A, cap, rfl⟩ := BU.own_form h.oc
  have c2 := h.c2
  have H := Lib.hid h
  clear h
  unfold BU.NoCellR at hn
  by_cases h0 : n < 0
  · clear hn
    go_enter Try.func27, Try.ntmps27
    go_wp2
    go_ret2
    exact ⟨rfl, H.out, RStp.refl _ _ _ _⟩
  · have h1 : (R.xs.length : Int) ≤ n := by omega
    clear hn
    go_enter Try.func27, Try.ntmps27
    go_wp2
    go_ret2
    exact ⟨rfl, H.out, RStp.refl _ _ _ _⟩
set_option maxRecDepth 100000 in
theorem rcas_ne (w : World) (g : Nat) (bv cv : Value) (R : RS) (h : Rf w g bv cv R) (n x y : Int) (h0 : 0 ≤ n) (h1 : n < (R.xs.length : Int)) (hne : R.xs.getD n.toNat 0 ≠ x) :
    Calls Try.prog 27 #[.pointer (some ⟨g, 0, none⟩), .int .i64 n, .int .i64 x, .int .i64 y] w (fun e w' => e = .returned (.tuple #[.bool false, .int .i64 0]) ∧ Rf w' g bv cv R ∧ RStp g bv cv cv w w') := by
  obtain ⟨q, cap, rfl, hc, hf⟩ := h.row n h0 h1
  have c2 := h.c2
  have H := Lib.hid h
  clear h
  have a0 : ¬ n < 0 := by omega
  have a1 : ¬ (R.xs.length : Int) ≤ n := by omega
  have hb : (R.xs.getD n.toNat 0 != x) = true := by rw [bne_iff_ne]; exact hne
  clear hne
  generalize R.xs.getD n.toNat 0 = z at *
  go_enter Try.func27, Try.ntmps27
  go_wp2
  go_ret2
  exact ⟨rfl, H.out, RStp.refl _ _ _ _⟩
set_option maxRecDepth 100000 in
theorem rcas_eq (w : World) (g : Nat) (bv cv : Value) (R : RS) (h : Rf w g bv cv R) (n x y : Int) (h0 : 0 ≤ n) (h1 : n < (R.xs.length : Int)) (heq : R.xs.getD n.toNat 0 = x) :
    Calls Try.prog 27 #[.pointer (some ⟨g, 0, none⟩), .int .i64 n, .int .i64 x, .int .i64 y] w (fun e w' => e = .returned (.tuple #[.bool true, .int .i64 0]) ∧ Rf w' g bv cv { R with xs := R.xs.set n.toNat y } ∧ RStp g bv cv cv w w') := by
  obtain ⟨q, cap, hv, hc, hf⟩ := h.row n h0 h1
  have hfin := Lib.hid (h.put q n.toNat cap hv (by omega) y)
  subst hv
  have c2 := h.c2
  clear h
  have a0 : ¬ n < 0 := by omega
  have a1 : ¬ (R.xs.length : Int) ≤ n := by omega
  rw [heq] at hc
  clear heq
  go_enter Try.func27, Try.ntmps27
  go_wp2
  go_ret2
  exact ⟨rfl, hfin.out.1, hfin.out.2⟩
end Go.Proofs
