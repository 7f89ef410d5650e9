/- Which of a user's entries count (compact.counted): what the program computes. Its conditions are that what it reads can be read and is not too long for memory. -/
import Derived.Test.YtehoojmalhloeaaCF
import Derived.RangeFuncBox
namespace Go.Proofs.Ytehoojmalhloeaa.CM
open Go.RowKit Go.Proofs.YtehoojmalhloeaaW.PrintWords
set_option linter.unusedVariables false
set_option linter.unusedSimpArgs false
set_option maxRecDepth 100000

/-- What has been found, the bound, whether any number is left. -/
abbrev CSt := List PC.S44 × Int × Bool
def seenC (snaps : List Int) (st : CSt) (kv : PC.S44) : Bool :=
  (st.2.2 && decide (kv.f0.f1 ≤ st.2.1)) && (decide (st.1 = []) || snaps.any (within kv.f0.f1 st.2.1))
def stepC (snaps : List Int) (st : CSt) (kv : PC.S44) : CSt :=
  (if seenC snaps st kv = true then st.1 ++ [kv] else st.1,
   if kv.f0.f1 ≤ st.2.1 then IntKind.u64.wrap (kv.f0.f1 - 1) else st.2.1,
   if kv.f0.f1 ≤ st.2.1 then (st.2.2 && decide (0 < kv.f0.f1)) else st.2.2)
def topU : Int := 18446744073709551615
def runC (snaps : List Int) (l : List PC.S44) : CSt := l.foldl (stepC snaps) ([], topU, true)
/-- The entries that count. -/
def countedL (snaps : List Int) (l : List PC.S44) : List PC.S44 := (runC snaps l).1

theorem runC_take (snaps : List Int) (l : List PC.S44) (k : Nat) (hk : k < l.length) : runC snaps (l.take (k + 1)) = stepC snaps (runC snaps (l.take k)) (l.getD k PC.z44) := by
  have : l.take (k + 1) = l.take k ++ [l.getD k PC.z44] := by
    rw [List.take_add_one, List.getElem?_eq_getElem hk]
    simp [List.getD_eq_getElem?_getD, List.getElem?_eq_getElem hk]
  rw [this]
  simp [runC]
theorem runC_len (snaps : List Int) : ∀ (l : List PC.S44) (st : CSt), (l.foldl (stepC snaps) st).1.length ≤ st.1.length + l.length
  | [], st => by simp
  | a :: t, st => by
    have ih := runC_len snaps t (stepC snaps st a)
    have : (stepC snaps st a).1.length ≤ st.1.length + 1 := by
      simp only [stepC]
      split <;> simp
    simp only [List.foldl_cons, List.length_cons]
    omega
theorem countedL_len (snaps : List Int) (l : List PC.S44) : (countedL snaps l).length ≤ l.length := by
  simpa [countedL, runC] using runC_len snaps l ([], topU, true)

theorem grown_cell {W W' : World} {row : Option Nat} (hg : W.grownBy W' row) {b j : Nat} {v : Value} (h : W.cell? ⟨b, j, none⟩ = some v) (hne : some b ≠ row) : W'.cell? ⟨b, j, none⟩ = some v := by
  have := hg.block b (World.block_lt_of_cell? _ _ h) hne
  unfold World.cell? at h ⊢
  rw [this]
  exact h
theorem k44_ne37 : ∀ q, q ∈ 44 :: PC.k44.E → q ≠ 37 := by decide

/-- Where the walk stands behind k entries. -/
def CInv (w : World) (snaps : List Int) (l : List PC.S44) (k : Nat) (v5 v7 : Value) (wr : World) : Prop :=
  ∃ ys ab ob, v7 = .bool ob ∧ runC snaps (l.take k) = (ys, ab, ob) ∧ Kd.R PC.k44 44 wr w.heap.size (fun _ => True) v5 ys ∧ Boxed wr w.heap.size 37 (.int .u64 ab) ∧ Below w.heap.size w wr

set_option maxHeartbeats 8000000 in
theorem counted_w (A : Option Addr) (c : Nat) (l : List PC.S44) (A2 : Option Addr) (c2 : Nat) (snaps : List Int) (w : World) (hr : Kd.C PC.k44 w A l.length l) (hc : l.length ≤ c) (hr2 : Kd.C (Kd.int .u64) w A2 snaps.length snaps)
    (hbig : l.length * 48 ≤ 140737488355328) :
    Calls Try.prog 66 #[.slice A l.length c, .slice A2 snaps.length c2] w fun e w' => ∃ v, e = .returned v ∧ Kd.R PC.k44 44 w' w.heap.size (fun _ => True) v (countedL snaps l) ∧ Below w.heap.size w w' := by
  have hlen := hr.2.1
  have HR := Lib.hid hr
  have HS := Lib.hid hr2
  clear hr hr2
  go_enter Try.func66, Try.ntmps66
  go_wp2
  go_loopw [5, 7, 13] (fun v5 v7 t wr => ∃ k : Nat, k ≤ l.length ∧ t = .int .i64 (k : Int) ∧ Hid (CInv w snaps l k v5 v7 wr)) (fun _ _ t _ => l.length - (intOf t).toNat)
  case atStart => exact ⟨0, by omega, rfl, Lib.hid ⟨[], topU, true, rfl, rfl, Kd.R_nil _ _ _ _ _, Boxed.new _ _ _, (Below.refl _ w).alloc (Nat.le_refl _) _⟩⟩
  case round =>
    obtain ⟨k, hk, rfl, H⟩ := hrel
    by_cases hlt : k < l.length
    · obtain ⟨ys, ab, ob, rfl, hrun, hR, hbx, hB⟩ := H.out
      obtain ⟨Av, cv, hv, hlv, _⟩ := Kd.R_reads hR
      subst hv
      obtain ⟨ad, e, X⟩ := at44 (keepC HR.out (Nat.le_refl _) hB) k hlt
      subst e
      obtain ⟨kv, hkv⟩ : ∃ kv, l.getD k PC.z44 = kv := ⟨_, rfl⟩
      rw [hkv] at X
      have hst := runC_take snaps l k hlt
      rw [hrun, hkv] at hst
      have hyl : ys.length ≤ k := by
        have := countedL_len snaps (l.take k)
        rw [countedL, hrun, List.length_take] at this
        show ys.length ≤ k
        simp only at this
        omega
      obtain ⟨x0, x1, x2, x3⟩ := X
      obtain ⟨W1, hW1⟩ : ∃ W1, wr.alloc (.cells #[.string kv.f0.f0, .int .u64 kv.f0.f1, .int .i64 kv.f0.f2, .string kv.f1] 44) = W1 := ⟨_, rfl⟩
      have q0 : W1.cell? ⟨wr.heap.size, 0, none⟩ = some (.string kv.f0.f0) := by rw [← hW1]; exact cell_top rfl rfl
      have q1 : W1.cell? ⟨wr.heap.size, 1, none⟩ = some (.int .u64 kv.f0.f1) := by rw [← hW1]; exact cell_top rfl rfl
      have q2 : W1.cell? ⟨wr.heap.size, 2, none⟩ = some (.int .i64 kv.f0.f2) := by rw [← hW1]; exact cell_top rfl rfl
      have q3 : W1.cell? ⟨wr.heap.size, 3, none⟩ = some (.string kv.f1) := by rw [← hW1]; exact cell_top rfl rfl
      have hbx1 : Boxed W1 w.heap.size 37 (.int .u64 ab) := by rw [← hW1]; exact hbx.alloc _
      have hB1 : Below w.heap.size w W1 := by rw [← hW1]; exact hB.alloc hB.size _
      have hR1 : Kd.R PC.k44 44 W1 w.heap.size (fun _ => True) (.slice Av ys.length cv) ys := by rw [← hW1]; exact Kd.R_alloc hR _
      have hs1 : W1.heap.size = wr.heap.size + 1 := by rw [← hW1]; simp
      have hc6 := hbx1.cell
      have hf6 := hbx1.frozen
      have H5 := Lib.hid (And.intro hR1 (And.intro hbx1 (And.intro hB1 (And.intro hst (And.intro hs1 hbx.lt)))))
      have hown := Lib.hid (fun b (h : (Value.slice Av ys.length cv).ownBlock = some b) => own_lt (Kd.R_own hR).choose_spec b h)
      clear hR hbx hB hst hrun H hkv hR1 hbx1 hB1 hs1
      have p0 : (k < l.length) = True := eq_true hlt
      have hw1 : IntKind.i64.wrap ((k : Int) + 1) = (k : Int) + 1 := by rw [IntWalk.i64_in _ (by omega)]
      cases ob with
      | false =>
        by_cases c1 : kv.f0.f1 ≤ ab
        · have d1 : decide (kv.f0.f1 ≤ ab) = true := decide_eq_true c1
          go_wp2_with fail
          exact ⟨⟨k + 1, by omega, by simp, Lib.hid ⟨ys, IntKind.u64.wrap (kv.f0.f1 - 1), false, rfl, by rw [H5.out.2.2.2.1]; simp [stepC, seenC, c1], (Kd.R_set H5.out.1 H5.out.2.1 k44_ne37 0 _), (H5.out.2.1.set _), (H5.out.2.2.1.setCell (p := ⟨w.heap.size, 0, none⟩) (Nat.le_refl _) _)⟩⟩, by simp [intOf]; omega⟩
        · have d1 : decide (kv.f0.f1 ≤ ab) = false := decide_eq_false c1
          go_wp2_with fail
          exact ⟨⟨k + 1, by omega, by simp, Lib.hid ⟨ys, ab, false, rfl, by rw [H5.out.2.2.2.1]; simp [stepC, seenC, c1], H5.out.1, H5.out.2.1, H5.out.2.2.1⟩⟩, by simp [intOf]; omega⟩
      | true =>
        by_cases c1 : kv.f0.f1 ≤ ab
        · have d1 : decide (kv.f0.f1 ≤ ab) = true := decide_eq_true c1
          cases ys with
          | nil =>
            by_cases c0 : 0 < kv.f0.f1
            · have d0 : decide (0 < kv.f0.f1) = true := decide_eq_true c0
              go_wp2_with (at_builtin; refine Kd.R_append PC.k44 (w0 := w) w.heap.size rfl (.tmp 35) (.tmp 37) 22 44 (.agg #[(.string ⟨#[]⟩), (.int .u64 0), (.int .i64 0), (.string ⟨#[]⟩)]) 48 rfl Try.underlying22 PC.info44 rfl (by decide) (by omega) _ [] kv [.string kv.f0.f0, .int .u64 kv.f0.f1, .int .i64 kv.f0.f2, .string kv.f1] (fun _ => True) (fun _ => False) rfl rfl (PC.k44_mkM _ _ _ kv) (fun _ hk => hk.elim) (fun _ _ => trivial) H5.out.1 H5.out.2.2.1 H5.out.2.2.1.size (by omega) ?_; intro v1 w1 hR2 hB2 hg2 hat2; have n1 : some wr.heap.size ≠ (Value.slice Av 0 cv).ownBlock := (fun e => Nat.lt_irrefl _ (hown.out _ e.symm)); have n2 : some w.heap.size ≠ (Value.slice Av 0 cv).ownBlock := Kd.R_ne H5.out.1 H5.out.2.1 (by decide); have r1 := grown_cell hg2 q1 n1; have hb2 : Boxed w1 w.heap.size 37 (.int .u64 ab) := H5.out.2.1.kept hg2 n2; have hc7 := hb2.cell; have hf7 := hb2.frozen; have G := Lib.hid (And.intro hR2 (And.intro hb2 hB2)); clear hR2 hb2 hB2 hg2 hat2 n1 n2)
              exact ⟨⟨k + 1, by omega, by simp, Lib.hid ⟨[kv], IntKind.u64.wrap (kv.f0.f1 - 1), true, rfl, by rw [H5.out.2.2.2.1]; simp [stepC, seenC, c1, c0], (Kd.R_set G.out.1 G.out.2.1 k44_ne37 0 _), (G.out.2.1.set _), (G.out.2.2.setCell (p := ⟨w.heap.size, 0, none⟩) (Nat.le_refl _) _)⟩⟩, by simp [intOf]; omega⟩
            · have d0 : decide (0 < kv.f0.f1) = false := decide_eq_false c0
              go_wp2_with (at_builtin; refine Kd.R_append PC.k44 (w0 := w) w.heap.size rfl (.tmp 35) (.tmp 37) 22 44 (.agg #[(.string ⟨#[]⟩), (.int .u64 0), (.int .i64 0), (.string ⟨#[]⟩)]) 48 rfl Try.underlying22 PC.info44 rfl (by decide) (by omega) _ [] kv [.string kv.f0.f0, .int .u64 kv.f0.f1, .int .i64 kv.f0.f2, .string kv.f1] (fun _ => True) (fun _ => False) rfl rfl (PC.k44_mkM _ _ _ kv) (fun _ hk => hk.elim) (fun _ _ => trivial) H5.out.1 H5.out.2.2.1 H5.out.2.2.1.size (by omega) ?_; intro v1 w1 hR2 hB2 hg2 hat2; have n1 : some wr.heap.size ≠ (Value.slice Av 0 cv).ownBlock := (fun e => Nat.lt_irrefl _ (hown.out _ e.symm)); have n2 : some w.heap.size ≠ (Value.slice Av 0 cv).ownBlock := Kd.R_ne H5.out.1 H5.out.2.1 (by decide); have r1 := grown_cell hg2 q1 n1; have hb2 : Boxed w1 w.heap.size 37 (.int .u64 ab) := H5.out.2.1.kept hg2 n2; have hc7 := hb2.cell; have hf7 := hb2.frozen; have G := Lib.hid (And.intro hR2 (And.intro hb2 hB2)); clear hR2 hb2 hB2 hg2 hat2 n1 n2)
              exact ⟨⟨k + 1, by omega, by simp, Lib.hid ⟨[kv], IntKind.u64.wrap (kv.f0.f1 - 1), false, rfl, by rw [H5.out.2.2.2.1]; simp [stepC, seenC, c1, c0], (Kd.R_set G.out.1 G.out.2.1 k44_ne37 0 _), (G.out.2.1.set _), (G.out.2.2.setCell (p := ⟨w.heap.size, 0, none⟩) (Nat.le_refl _) _)⟩⟩, by simp [intOf]; omega⟩
          | cons y0 yt =>
            obtain ⟨ys, hys⟩ : ∃ ys, y0 :: yt = ys := ⟨_, rfl⟩
            have hne : ys ≠ [] := by rw [← hys]; simp
            have hyp : 0 < ys.length := by rw [← hys]; simp
            rw [hys] at H5 hown hyl
            simp only [hys]
            clear hys
            have dy : decide ((0 : Int) < (ys.length : Int)) = true := decide_eq_true (by omega)
            have dz : decide (0 < ys.length) = true := decide_eq_true hyp
            have HA := Lib.hid (any_w A2 c2 snaps wr.heap.size w.heap.size kv.f0.f1 ab W1 (keepC HS.out (Nat.le_refl _) H5.out.2.2.1) q1 hc6)
            by_cases ca : snaps.any (within kv.f0.f1 ab) = true
            · by_cases c0 : 0 < kv.f0.f1
              · have d0 : decide (0 < kv.f0.f1) = true := decide_eq_true c0
                go_wp2_with (first | (go_at_call 85; refine HA.out.mono ?_; rintro e w' ⟨rfl, rfl⟩) | (at_builtin; refine Kd.R_append PC.k44 (w0 := w) w.heap.size rfl (.tmp 35) (.tmp 37) 22 44 (.agg #[(.string ⟨#[]⟩), (.int .u64 0), (.int .i64 0), (.string ⟨#[]⟩)]) 48 rfl Try.underlying22 PC.info44 rfl (by decide) (by omega) _ ys kv [.string kv.f0.f0, .int .u64 kv.f0.f1, .int .i64 kv.f0.f2, .string kv.f1] (fun _ => True) (fun _ => False) rfl rfl (PC.k44_mkM _ _ _ kv) (fun _ hk => hk.elim) (fun _ _ => trivial) H5.out.1 H5.out.2.2.1 H5.out.2.2.1.size (by omega) ?_; intro v1 w1 hR2 hB2 hg2 hat2; have n1 : some wr.heap.size ≠ (Value.slice Av ys.length cv).ownBlock := (fun e => Nat.lt_irrefl _ (hown.out _ e.symm)); have n2 : some w.heap.size ≠ (Value.slice Av ys.length cv).ownBlock := Kd.R_ne H5.out.1 H5.out.2.1 (by decide); have r1 := grown_cell hg2 q1 n1; have hb2 : Boxed w1 w.heap.size 37 (.int .u64 ab) := H5.out.2.1.kept hg2 n2; have hc7 := hb2.cell; have hf7 := hb2.frozen; have G := Lib.hid (And.intro hR2 (And.intro hb2 hB2)); clear hR2 hb2 hB2 hg2 hat2 n1 n2))
                exact ⟨⟨k + 1, by omega, by simp, Lib.hid ⟨(ys ++ [kv]), IntKind.u64.wrap (kv.f0.f1 - 1), true, rfl, by rw [H5.out.2.2.2.1]; simp [stepC, seenC, c1, c0, ca], (Kd.R_set G.out.1 G.out.2.1 k44_ne37 0 _), (G.out.2.1.set _), (G.out.2.2.setCell (p := ⟨w.heap.size, 0, none⟩) (Nat.le_refl _) _)⟩⟩, by simp [intOf]; omega⟩
              · have d0 : decide (0 < kv.f0.f1) = false := decide_eq_false c0
                go_wp2_with (first | (go_at_call 85; refine HA.out.mono ?_; rintro e w' ⟨rfl, rfl⟩) | (at_builtin; refine Kd.R_append PC.k44 (w0 := w) w.heap.size rfl (.tmp 35) (.tmp 37) 22 44 (.agg #[(.string ⟨#[]⟩), (.int .u64 0), (.int .i64 0), (.string ⟨#[]⟩)]) 48 rfl Try.underlying22 PC.info44 rfl (by decide) (by omega) _ ys kv [.string kv.f0.f0, .int .u64 kv.f0.f1, .int .i64 kv.f0.f2, .string kv.f1] (fun _ => True) (fun _ => False) rfl rfl (PC.k44_mkM _ _ _ kv) (fun _ hk => hk.elim) (fun _ _ => trivial) H5.out.1 H5.out.2.2.1 H5.out.2.2.1.size (by omega) ?_; intro v1 w1 hR2 hB2 hg2 hat2; have n1 : some wr.heap.size ≠ (Value.slice Av ys.length cv).ownBlock := (fun e => Nat.lt_irrefl _ (hown.out _ e.symm)); have n2 : some w.heap.size ≠ (Value.slice Av ys.length cv).ownBlock := Kd.R_ne H5.out.1 H5.out.2.1 (by decide); have r1 := grown_cell hg2 q1 n1; have hb2 : Boxed w1 w.heap.size 37 (.int .u64 ab) := H5.out.2.1.kept hg2 n2; have hc7 := hb2.cell; have hf7 := hb2.frozen; have G := Lib.hid (And.intro hR2 (And.intro hb2 hB2)); clear hR2 hb2 hB2 hg2 hat2 n1 n2))
                exact ⟨⟨k + 1, by omega, by simp, Lib.hid ⟨(ys ++ [kv]), IntKind.u64.wrap (kv.f0.f1 - 1), false, rfl, by rw [H5.out.2.2.2.1]; simp [stepC, seenC, c1, c0, ca], (Kd.R_set G.out.1 G.out.2.1 k44_ne37 0 _), (G.out.2.1.set _), (G.out.2.2.setCell (p := ⟨w.heap.size, 0, none⟩) (Nat.le_refl _) _)⟩⟩, by simp [intOf]; omega⟩
            · have ca : snaps.any (within kv.f0.f1 ab) = false := by simpa using ca
              by_cases c0 : 0 < kv.f0.f1
              · have d0 : decide (0 < kv.f0.f1) = true := decide_eq_true c0
                go_wp2_with (first | (go_at_call 85; refine HA.out.mono ?_; rintro e w' ⟨rfl, rfl⟩) | (at_builtin; refine Kd.R_append PC.k44 (w0 := w) w.heap.size rfl (.tmp 35) (.tmp 37) 22 44 (.agg #[(.string ⟨#[]⟩), (.int .u64 0), (.int .i64 0), (.string ⟨#[]⟩)]) 48 rfl Try.underlying22 PC.info44 rfl (by decide) (by omega) _ ys kv [.string kv.f0.f0, .int .u64 kv.f0.f1, .int .i64 kv.f0.f2, .string kv.f1] (fun _ => True) (fun _ => False) rfl rfl (PC.k44_mkM _ _ _ kv) (fun _ hk => hk.elim) (fun _ _ => trivial) H5.out.1 H5.out.2.2.1 H5.out.2.2.1.size (by omega) ?_; intro v1 w1 hR2 hB2 hg2 hat2; have n1 : some wr.heap.size ≠ (Value.slice Av ys.length cv).ownBlock := (fun e => Nat.lt_irrefl _ (hown.out _ e.symm)); have n2 : some w.heap.size ≠ (Value.slice Av ys.length cv).ownBlock := Kd.R_ne H5.out.1 H5.out.2.1 (by decide); have r1 := grown_cell hg2 q1 n1; have hb2 : Boxed w1 w.heap.size 37 (.int .u64 ab) := H5.out.2.1.kept hg2 n2; have hc7 := hb2.cell; have hf7 := hb2.frozen; have G := Lib.hid (And.intro hR2 (And.intro hb2 hB2)); clear hR2 hb2 hB2 hg2 hat2 n1 n2))
                exact ⟨⟨k + 1, by omega, by simp, Lib.hid ⟨ys, IntKind.u64.wrap (kv.f0.f1 - 1), true, rfl, by rw [H5.out.2.2.2.1]; simp [stepC, seenC, c1, c0, ca, hne], (Kd.R_set H5.out.1 H5.out.2.1 k44_ne37 0 _), (H5.out.2.1.set _), (H5.out.2.2.1.setCell (p := ⟨w.heap.size, 0, none⟩) (Nat.le_refl _) _)⟩⟩, by simp [intOf]; omega⟩
              · have d0 : decide (0 < kv.f0.f1) = false := decide_eq_false c0
                go_wp2_with (first | (go_at_call 85; refine HA.out.mono ?_; rintro e w' ⟨rfl, rfl⟩) | (at_builtin; refine Kd.R_append PC.k44 (w0 := w) w.heap.size rfl (.tmp 35) (.tmp 37) 22 44 (.agg #[(.string ⟨#[]⟩), (.int .u64 0), (.int .i64 0), (.string ⟨#[]⟩)]) 48 rfl Try.underlying22 PC.info44 rfl (by decide) (by omega) _ ys kv [.string kv.f0.f0, .int .u64 kv.f0.f1, .int .i64 kv.f0.f2, .string kv.f1] (fun _ => True) (fun _ => False) rfl rfl (PC.k44_mkM _ _ _ kv) (fun _ hk => hk.elim) (fun _ _ => trivial) H5.out.1 H5.out.2.2.1 H5.out.2.2.1.size (by omega) ?_; intro v1 w1 hR2 hB2 hg2 hat2; have n1 : some wr.heap.size ≠ (Value.slice Av ys.length cv).ownBlock := (fun e => Nat.lt_irrefl _ (hown.out _ e.symm)); have n2 : some w.heap.size ≠ (Value.slice Av ys.length cv).ownBlock := Kd.R_ne H5.out.1 H5.out.2.1 (by decide); have r1 := grown_cell hg2 q1 n1; have hb2 : Boxed w1 w.heap.size 37 (.int .u64 ab) := H5.out.2.1.kept hg2 n2; have hc7 := hb2.cell; have hf7 := hb2.frozen; have G := Lib.hid (And.intro hR2 (And.intro hb2 hB2)); clear hR2 hb2 hB2 hg2 hat2 n1 n2))
                exact ⟨⟨k + 1, by omega, by simp, Lib.hid ⟨ys, IntKind.u64.wrap (kv.f0.f1 - 1), false, rfl, by rw [H5.out.2.2.2.1]; simp [stepC, seenC, c1, c0, ca, hne], (Kd.R_set H5.out.1 H5.out.2.1 k44_ne37 0 _), (H5.out.2.1.set _), (H5.out.2.2.1.setCell (p := ⟨w.heap.size, 0, none⟩) (Nat.le_refl _) _)⟩⟩, by simp [intOf]; omega⟩
        · have d1 : decide (kv.f0.f1 ≤ ab) = false := decide_eq_false c1
          go_wp2_with fail
          exact ⟨⟨k + 1, by omega, by simp, Lib.hid ⟨ys, ab, true, rfl, by rw [H5.out.2.2.2.1]; simp [stepC, seenC, c1], H5.out.1, H5.out.2.1, H5.out.2.2.1⟩⟩, by simp [intOf]; omega⟩
    · go_wp2
      go_ret
      obtain ⟨ys, ab, ob, rfl, hrun, hR, hbx, hB⟩ := H.out
      rw [List.take_of_length_le (by omega)] at hrun
      exact ⟨_, rfl, by rw [countedL, hrun]; exact hR, hB⟩

end Go.Proofs.Ytehoojmalhloeaa.CM
