/- Entries that delete nothing are left out (compact.settled): what the program computes. Its conditions are that what it reads can be read and is not too long for memory. -/
import Derived.Test.YtehoojmalhloeaaCG
import Derived.Defers
namespace Go.Proofs.Ytehoojmalhloeaa.CM
open Go.RowKit Go.Proofs.YtehoojmalhloeaaW.PrintWords
set_option linter.unusedVariables false
set_option linter.unusedSimpArgs false
set_option maxRecDepth 100000

/-- The value of an entry. -/
def kv44 (a : PC.S44) : Value := .agg #[.string a.f0.f0, .int .u64 a.f0.f1, .int .i64 a.f0.f2, .string a.f1]
def stepM (st : Bool × List PC.S44) (kv : PC.S44) : Bool × List PC.S44 :=
  (st.1 || kv.f0.f2 == 1, if (st.1 || kv.f0.f2 == 1) = true then st.2 ++ [kv] else st.2)
def runM (l : List PC.S44) : Bool × List PC.S44 := l.foldl stepM (false, [])

/-- Two variables and the row that one of them holds. -/
def MInv (w0 : World) (base gp go : Nat) (st : Bool × List PC.S44) (W : World) : Prop :=
  ∃ v, Boxed W gp 4 (.bool st.1) ∧ Boxed W go 22 v ∧ Kd.R PC.k44 44 W base (fun _ => True) v st.2 ∧ Below base w0 W ∧ base ≤ W.heap.size

theorem k44_ne4 : ∀ q, q ∈ 44 :: PC.k44.E → q ≠ 4 := by decide
theorem k44_ne22 : ∀ q, q ∈ 44 :: PC.k44.E → q ≠ 22 := by decide

set_option maxHeartbeats 8000000 in
theorem mark_d (kv : PC.S44) (w0 : World) (base gp go : Nat) (st : Bool × List PC.S44) (hne : gp ≠ go) (hgp : base ≤ gp) (hgo : base ≤ go) (u : FrameMode) (w : World) (h : MInv w0 base gp go st w) (hl : (st.2.length + 1) * 48 ≤ 140737488355328) :
    CallsD Try.prog 87 #[kv44 kv, .pointer (some ⟨gp, 0, none⟩), .pointer (some ⟨go, 0, none⟩)] u w fun e u' w' => u' = u ∧ (e = .returned (.tuple #[]) ∧ MInv w0 base gp go (stepM st kv) w') := by
  obtain ⟨put, ys⟩ := st
  obtain ⟨v, h1, h2, h3, h4, h5⟩ := h
  unfold kv44
  obtain ⟨Av, cv, hv, hlv, _⟩ := Kd.R_reads h3
  subst hv
  obtain ⟨W1, hW1⟩ : ∃ W1, w.alloc (.cells #[.string kv.f0.f0, .int .u64 kv.f0.f1, .int .i64 kv.f0.f2, .string kv.f1] 44) = W1 := ⟨_, rfl⟩
  have q0 : W1.cell? ⟨w.heap.size, 0, none⟩ = some (.string kv.f0.f0) := by rw [← hW1]; exact cell_top rfl rfl
  have q1 : W1.cell? ⟨w.heap.size, 1, none⟩ = some (.int .u64 kv.f0.f1) := by rw [← hW1]; exact cell_top rfl rfl
  have q2 : W1.cell? ⟨w.heap.size, 2, none⟩ = some (.int .i64 kv.f0.f2) := by rw [← hW1]; exact cell_top rfl rfl
  have q3 : W1.cell? ⟨w.heap.size, 3, none⟩ = some (.string kv.f1) := by rw [← hW1]; exact cell_top rfl rfl
  have b1 : Boxed W1 gp 4 (.bool put) := by rw [← hW1]; exact h1.alloc _
  have b2 : Boxed W1 go 22 (.slice Av ys.length cv) := by rw [← hW1]; exact h2.alloc _
  have b3 : Kd.R PC.k44 44 W1 base (fun _ => True) (.slice Av ys.length cv) ys := by rw [← hW1]; exact Kd.R_alloc h3 _
  have b4 : Below base w0 W1 := by rw [← hW1]; exact h4.alloc h5 _
  have b5 : W1.heap.size = w.heap.size + 1 := by rw [← hW1]; simp
  have e1 : gp < w.heap.size := h1.lt
  have e2 : go < w.heap.size := h2.lt
  have B := Lib.hid (And.intro b1 (And.intro b2 (And.intro b3 (And.intro b4 (And.intro b5 (And.intro e1 e2))))))
  have c1 := b1.cell
  have f1 := b1.frozen
  clear h1 h2 h3 h4 b1 b2 b3 b4 b5 e1 e2
  go_enter_d Try.func87, Try.ntmps87
  cases put with
  | true =>
    obtain ⟨W2, hW2⟩ : ∃ W2, W1.setCell ⟨gp, 0, none⟩ (.bool true) = W2 := ⟨_, rfl⟩
    have m1 : some w.heap.size ≠ some gp := (fun e => by have := B.out.2.2.2.2.2.1; injection e with e; omega)
    have r0 : W2.cell? ⟨w.heap.size, 0, none⟩ = some (.string kv.f0.f0) := by rw [← hW2]; exact grown_cell (grownBy_setCell' W1 gp _) q0 m1
    have r1 : W2.cell? ⟨w.heap.size, 1, none⟩ = some (.int .u64 kv.f0.f1) := by rw [← hW2]; exact grown_cell (grownBy_setCell' W1 gp _) q1 m1
    have r2 : W2.cell? ⟨w.heap.size, 2, none⟩ = some (.int .i64 kv.f0.f2) := by rw [← hW2]; exact grown_cell (grownBy_setCell' W1 gp _) q2 m1
    have r3 : W2.cell? ⟨w.heap.size, 3, none⟩ = some (.string kv.f1) := by rw [← hW2]; exact grown_cell (grownBy_setCell' W1 gp _) q3 m1
    have d1 : Boxed W2 gp 4 (.bool true) := by rw [← hW2]; exact B.out.1.set _
    have d2 : Boxed W2 go 22 (.slice Av ys.length cv) := by rw [← hW2]; exact B.out.2.1.other (Ne.symm hne) _
    have d3 : Kd.R PC.k44 44 W2 base (fun _ => True) (.slice Av ys.length cv) ys := by rw [← hW2]; exact Kd.R_set B.out.2.2.1 B.out.1 k44_ne4 0 _
    have d4 : Below base w0 W2 := by rw [← hW2]; exact B.out.2.2.2.1.setCell (p := ⟨gp, 0, none⟩) hgp _
    have d5 : base ≤ W2.heap.size := by rw [← hW2]; simp; have := B.out.2.2.2.2.1; omega
    have g1 := d1.cell
    have g2 := d2.cell
    have g3 := d2.frozen
    have D := Lib.hid (And.intro d1 (And.intro d2 (And.intro d3 (And.intro d4 d5))))
    clear d1 d2 d3 d4 d5 m1
    go_wp2_with (at_builtin; refine Kd.R_append PC.k44 (w0 := w0) base rfl (.tmp 12) (.tmp 14) 22 44 (.agg #[(.string ⟨#[]⟩), (.int .u64 0), (.int .i64 0), (.string ⟨#[]⟩)]) 48 rfl Try.underlying22 PC.info44 rfl (by decide) (by omega) _ ys kv [.string kv.f0.f0, .int .u64 kv.f0.f1, .int .i64 kv.f0.f2, .string kv.f1] (fun _ => True) (fun _ => False) rfl rfl (PC.k44_mkM _ _ _ kv) (fun _ hk => hk.elim) (fun _ _ => trivial) D.out.2.2.1 D.out.2.2.2.1 D.out.2.2.2.2 hl ?_; intro v1 w1 hR2 hB2 hg2 hat2; obtain ⟨A1, k1, hv1⟩ := Kd.R_slice hR2; subst hv1; have n1 : some gp ≠ (Value.slice Av ys.length cv).ownBlock := Kd.R_ne D.out.2.2.1 D.out.1 (by decide); have n2 : some go ≠ (Value.slice Av ys.length cv).ownBlock := Kd.R_ne D.out.2.2.1 D.out.2.1 (by decide); have hb1 : Boxed w1 gp 4 (.bool true) := D.out.1.kept hg2 n1; have hb2 : Boxed w1 go 22 (.slice Av ys.length cv) := D.out.2.1.kept hg2 n2; have hc7 := hb2.cell; have hf7 := hb2.frozen; have hz2 := Nat.le_trans D.out.2.2.2.2 hg2.size; have G := Lib.hid (And.intro hR2 (And.intro hb1 (And.intro hb2 (And.intro hB2 hz2)))); clear hR2 hb1 hb2 hB2 hg2 hat2 n1 n2 hz2)
    go_end0
    refine ⟨rfl, _, ?_, G.out.2.2.1.set _, ?_, G.out.2.2.2.1.setCell (p := ⟨go, 0, none⟩) hgo _, by simp; exact G.out.2.2.2.2⟩
    · simpa [stepM] using G.out.2.1.other hne _
    · simpa [stepM] using Kd.R_set G.out.1 G.out.2.2.1 k44_ne22 0 _
  | false =>
    by_cases ck : kv.f0.f2 = 1
    · have e1 : (kv.f0.f2 == 1) = true := by simp [ck]
      clear ck
      obtain ⟨W2, hW2⟩ : ∃ W2, W1.setCell ⟨gp, 0, none⟩ (.bool true) = W2 := ⟨_, rfl⟩
      have m1 : some w.heap.size ≠ some gp := (fun e => by have := B.out.2.2.2.2.2.1; injection e with e; omega)
      have r0 : W2.cell? ⟨w.heap.size, 0, none⟩ = some (.string kv.f0.f0) := by rw [← hW2]; exact grown_cell (grownBy_setCell' W1 gp _) q0 m1
      have r1 : W2.cell? ⟨w.heap.size, 1, none⟩ = some (.int .u64 kv.f0.f1) := by rw [← hW2]; exact grown_cell (grownBy_setCell' W1 gp _) q1 m1
      have r2 : W2.cell? ⟨w.heap.size, 2, none⟩ = some (.int .i64 kv.f0.f2) := by rw [← hW2]; exact grown_cell (grownBy_setCell' W1 gp _) q2 m1
      have r3 : W2.cell? ⟨w.heap.size, 3, none⟩ = some (.string kv.f1) := by rw [← hW2]; exact grown_cell (grownBy_setCell' W1 gp _) q3 m1
      have d1 : Boxed W2 gp 4 (.bool true) := by rw [← hW2]; exact B.out.1.set _
      have d2 : Boxed W2 go 22 (.slice Av ys.length cv) := by rw [← hW2]; exact B.out.2.1.other (Ne.symm hne) _
      have d3 : Kd.R PC.k44 44 W2 base (fun _ => True) (.slice Av ys.length cv) ys := by rw [← hW2]; exact Kd.R_set B.out.2.2.1 B.out.1 k44_ne4 0 _
      have d4 : Below base w0 W2 := by rw [← hW2]; exact B.out.2.2.2.1.setCell (p := ⟨gp, 0, none⟩) hgp _
      have d5 : base ≤ W2.heap.size := by rw [← hW2]; simp; have := B.out.2.2.2.2.1; omega
      have g1 := d1.cell
      have g2 := d2.cell
      have g3 := d2.frozen
      have D := Lib.hid (And.intro d1 (And.intro d2 (And.intro d3 (And.intro d4 d5))))
      clear d1 d2 d3 d4 d5 m1
      go_wp2_with (at_builtin; refine Kd.R_append PC.k44 (w0 := w0) base rfl (.tmp 12) (.tmp 14) 22 44 (.agg #[(.string ⟨#[]⟩), (.int .u64 0), (.int .i64 0), (.string ⟨#[]⟩)]) 48 rfl Try.underlying22 PC.info44 rfl (by decide) (by omega) _ ys kv [.string kv.f0.f0, .int .u64 kv.f0.f1, .int .i64 kv.f0.f2, .string kv.f1] (fun _ => True) (fun _ => False) rfl rfl (PC.k44_mkM _ _ _ kv) (fun _ hk => hk.elim) (fun _ _ => trivial) D.out.2.2.1 D.out.2.2.2.1 D.out.2.2.2.2 hl ?_; intro v1 w1 hR2 hB2 hg2 hat2; obtain ⟨A1, k1, hv1⟩ := Kd.R_slice hR2; subst hv1; have n1 : some gp ≠ (Value.slice Av ys.length cv).ownBlock := Kd.R_ne D.out.2.2.1 D.out.1 (by decide); have n2 : some go ≠ (Value.slice Av ys.length cv).ownBlock := Kd.R_ne D.out.2.2.1 D.out.2.1 (by decide); have hb1 : Boxed w1 gp 4 (.bool true) := D.out.1.kept hg2 n1; have hb2 : Boxed w1 go 22 (.slice Av ys.length cv) := D.out.2.1.kept hg2 n2; have hc7 := hb2.cell; have hf7 := hb2.frozen; have hz2 := Nat.le_trans D.out.2.2.2.2 hg2.size; have G := Lib.hid (And.intro hR2 (And.intro hb1 (And.intro hb2 (And.intro hB2 hz2)))); clear hR2 hb1 hb2 hB2 hg2 hat2 n1 n2 hz2)
      go_end0
      refine ⟨rfl, _, ?_, G.out.2.2.1.set _, ?_, G.out.2.2.2.1.setCell (p := ⟨go, 0, none⟩) hgo _, by simp; exact G.out.2.2.2.2⟩
      · simpa [stepM, e1] using G.out.2.1.other hne _
      · simpa [stepM, e1] using Kd.R_set G.out.1 G.out.2.2.1 k44_ne22 0 _
    · have e1 : (kv.f0.f2 == 1) = false := by simp [ck]
      clear ck
      obtain ⟨W2, hW2⟩ : ∃ W2, W1.setCell ⟨gp, 0, none⟩ (.bool false) = W2 := ⟨_, rfl⟩
      have m1 : some w.heap.size ≠ some gp := (fun e => by have := B.out.2.2.2.2.2.1; injection e with e; omega)
      have r0 : W2.cell? ⟨w.heap.size, 0, none⟩ = some (.string kv.f0.f0) := by rw [← hW2]; exact grown_cell (grownBy_setCell' W1 gp _) q0 m1
      have r1 : W2.cell? ⟨w.heap.size, 1, none⟩ = some (.int .u64 kv.f0.f1) := by rw [← hW2]; exact grown_cell (grownBy_setCell' W1 gp _) q1 m1
      have r2 : W2.cell? ⟨w.heap.size, 2, none⟩ = some (.int .i64 kv.f0.f2) := by rw [← hW2]; exact grown_cell (grownBy_setCell' W1 gp _) q2 m1
      have r3 : W2.cell? ⟨w.heap.size, 3, none⟩ = some (.string kv.f1) := by rw [← hW2]; exact grown_cell (grownBy_setCell' W1 gp _) q3 m1
      have d1 : Boxed W2 gp 4 (.bool false) := by rw [← hW2]; exact B.out.1.set _
      have d2 : Boxed W2 go 22 (.slice Av ys.length cv) := by rw [← hW2]; exact B.out.2.1.other (Ne.symm hne) _
      have d3 : Kd.R PC.k44 44 W2 base (fun _ => True) (.slice Av ys.length cv) ys := by rw [← hW2]; exact Kd.R_set B.out.2.2.1 B.out.1 k44_ne4 0 _
      have d4 : Below base w0 W2 := by rw [← hW2]; exact B.out.2.2.2.1.setCell (p := ⟨gp, 0, none⟩) hgp _
      have d5 : base ≤ W2.heap.size := by rw [← hW2]; simp; have := B.out.2.2.2.2.1; omega
      have g1 := d1.cell
      have g2 := d2.cell
      have g3 := d2.frozen
      have D := Lib.hid (And.intro d1 (And.intro d2 (And.intro d3 (And.intro d4 d5))))
      clear d1 d2 d3 d4 d5 m1
      go_wp2_with fail
      go_end0
      exact ⟨rfl, _, by simpa [stepM, e1] using D.out.1, D.out.2.1, by simpa [stepM, e1] using D.out.2.2.1, D.out.2.2.2.1, D.out.2.2.2.2⟩

end Go.Proofs.Ytehoojmalhloeaa.CM
