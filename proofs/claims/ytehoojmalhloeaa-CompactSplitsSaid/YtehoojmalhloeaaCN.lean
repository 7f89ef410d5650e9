/- Entries in parts (compact.Split): what the program computes. Its conditions are that what it reads can be read and is not too long for memory. -/
import Derived.Test.YtehoojmalhloeaaCM
namespace Go.Proofs.Ytehoojmalhloeaa.CM
open Go.RowKit Go.Proofs.YtehoojmalhloeaaW.PrintWords
set_option linter.unusedVariables false
set_option linter.unusedSimpArgs false
set_option maxRecDepth 100000
attribute [local go_sem] Oper.semAt_some

/-- The bytes of an entry; of entries behind a sum. -/
def szP (x : PC.S44) : Int := wrap64 (wrap64 ((x.f0.f0.size : Int) + (x.f1.size : Int)) + 16)
def sumP (n : Int) (g : List PC.S44) : Int := g.foldl (fun n x => wrap64 (n + szP x)) n
abbrev SSt := List (List PC.S44) × List PC.S44 × Int
def stepF (size : Int) (st : SSt) : SSt := if size ≤ st.2.2 then (st.1 ++ [st.2.1], [], 0) else st
def stepS (size : Int) (st : SSt) (g : List PC.S44) : SSt := ((stepF size st).1, (stepF size st).2.1 ++ g, sumP (stepF size st).2.2 g)
def runS (size : Int) (gs : List (List PC.S44)) : SSt := gs.foldl (stepS size) ([], [], 0)
/-- Entries in parts. -/
def splitL (size : Int) (l : List PC.S44) : List (List PC.S44) := if (runS size (groups l)).2.1 = [] then (runS size (groups l)).1 else (runS size (groups l)).1 ++ [(runS size (groups l)).2.1]

theorem runS_snoc (size : Int) (gs : List (List PC.S44)) (g : List PC.S44) : runS size (gs ++ [g]) = stepS size (runS size gs) g := by simp [runS]
theorem runS_flat (size : Int) : ∀ (gs : List (List PC.S44)) (st : SSt), ((gs.foldl (stepS size) st).1.flatten ++ (gs.foldl (stepS size) st).2.1) = st.1.flatten ++ st.2.1 ++ gs.flatten
  | [], st => by simp
  | g :: gs, st => by
    rw [List.foldl_cons, runS_flat size gs]
    simp only [stepS, stepF]
    split <;> simp
theorem runS_len (size : Int) : ∀ (gs : List (List PC.S44)) (st : SSt), (gs.foldl (stepS size) st).1.length ≤ st.1.length + gs.length
  | [], st => by simp
  | g :: gs, st => by
    rw [List.foldl_cons]
    have h1 := runS_len size gs (stepS size st g)
    have h2 : (stepS size st g).1.length ≤ st.1.length + 1 := by
      simp only [stepS, stepF]
      split <;> simp
    simp only [List.length_cons]
    omega
theorem groups_len : ∀ l : List PC.S44, (groups l).length ≤ l.length
  | [] => by simp [groups]
  | a :: t => by
    have ih := groups_len t
    show (joinU a (groups t)).length ≤ (a :: t).length
    unfold joinU
    split
    · rename_i b g gs hg
      rw [hg] at ih
      split <;> simp at ih ⊢ <;> omega
    · simp; omega
theorem sumP_snoc (n : Int) (g : List PC.S44) (x : PC.S44) : sumP n (g ++ [x]) = wrap64 (sumP n g + szP x) := by simp [sumP]
theorem sumP_take (n : Int) (g : List PC.S44) (j : Nat) (hj : j < g.length) : sumP n (g.take (j + 1)) = wrap64 (sumP n (g.take j) + szP (g.getD j PC.z44)) := by
  have : g.take (j + 1) = g.take j ++ [g.getD j PC.z44] := by
    rw [List.take_add_one, List.getElem?_eq_getElem hj]
    simp [List.getD_eq_getElem?_getD, List.getElem?_eq_getElem hj]
  rw [this, sumP_snoc]

theorem S_box {α : Type} {d : Kd α} {e base b : Nat} {ok : Nat → Prop} {W : World} {v : Value} {xs : List α} (h : Kd.S d e W base ok v xs) (hb : b < base) (u : Value) : Kd.S d e (W.setCell ⟨b, 0, none⟩ u) base ok v xs :=
  Kd.S_mono (Kd.S_far (p := ⟨b, 0, none⟩) (Kd.S_bound h) (fun k hk => by have := hk.2.1; show k ≠ b; omega) u) (fun _ hk => hk.1)
theorem R_box {α : Type} {d : Kd α} {e base b : Nat} {ok : Nat → Prop} {W : World} {v : Value} {xs : List α} (h : Kd.R d e W base ok v xs) (hb : b < base) (u : Value) : Kd.R d e (W.setCell ⟨b, 0, none⟩ u) base ok v xs :=
  Kd.R_mono (Kd.R_far (p := ⟨b, 0, none⟩) (Kd.R_bound h) (fun k hk => by have := hk.2.1; show k ≠ b; omega) u) (fun _ hk => hk.1)
theorem S_rowed {α : Type} {d : Kd α} {e base : Nat} {ok : Nat → Prop} {W W' : World} {row : Option Nat} {v : Value} {xs : List α} (h : Kd.S d e W base ok v xs) (hg : W.grownBy W' row) (hr : ∀ r, row = some r → ∃ o : Obj, W.heap[r]? = some o ∧ o.isCells = false) : Kd.S d e W' base ok v xs :=
  Kd.S_mono (Kd.S_grown (Kd.S_bound h) hg (fun k hk e => by
    obtain ⟨_, _, _, q, _, cells, hc⟩ := hk
    obtain ⟨o, ho, hn⟩ := hr k e.symm
    rw [hc] at ho
    cases ho
    cases hn)) (fun _ hk => hk.1)

/-- What the loop keeps: the rows so far, the part, its bytes. M: from where on the loop's own memory lies. -/
def SInv (w : World) (M Sb O Pb Nb B : Nat) (size : Int) (st : SSt) (W : World) : Prop :=
  ∃ v vp, Boxed W O 32 v ∧ Kd.S (Kd.slice 44 PC.k44) 22 W M (fun k => some k ≠ vp.ownBlock) v st.1 ∧ Boxed W Pb 22 vp ∧ Kd.R PC.k44 44 W M (fun _ => True) vp st.2.1
    ∧ Boxed W Nb 3 (.int .i64 st.2.2) ∧ Boxed W Sb 3 (.int .i64 size) ∧ (∃ vb, Boxed W B 22 vb) ∧ Below w.heap.size w W ∧ M ≤ W.heap.size

section
variable {w : World} {M Sb O Pb Nb B : Nat} {size : Int} {st : SSt} {W W1 : World}

theorem SInv.own {β : Type} (f : β → SSt) (hs : w.heap.size ≤ M) : OwnFrom M (fun (x : β) W => SInv w M Sb O Pb Nb B size (f x) W) := by
  rintro x X Y row ⟨v, vp, h1, h2, h3, h4, h5, h6, ⟨vb, h7⟩, h8, h9⟩ hg hr
  have hr2 : ∀ r, row = some r → ∃ o : Obj, X.heap[r]? = some o ∧ o.isCells = false := fun r e => (hr r e).2
  exact ⟨v, vp, Boxed.rowed h1 hg hr2, S_rowed h2 hg hr2, Boxed.rowed h3 hg hr2, Kd.R_mono (Kd.R_grown (Kd.R_bound h4) hg (fun k hk e => by
    obtain ⟨_, _, _, q, _, cells, hc⟩ := hk
    obtain ⟨o, ho, hn⟩ := hr2 k e.symm
    rw [hc] at ho
    cases ho
    cases hn)) (fun _ _ => trivial), Boxed.rowed h5 hg hr2, Boxed.rowed h6 hg hr2, ⟨vb, Boxed.rowed h7 hg hr2⟩, h8.grown hg h8.size (fun k e => Nat.le_trans hs (hr k e).1), Nat.le_trans h9 hg.size⟩

theorem SInv.stays {β : Type} (f : β → SSt) (hB : w.heap.size ≤ B) (hM : B < M) (n1 : O ≠ B) (n2 : Pb ≠ B) (n3 : Nb ≠ B) (n4 : Sb ≠ B) : Stays (StepB B) (fun (x : β) W => SInv w M Sb O Pb Nb B size (f x) W) := by
  rintro x X Y ⟨v, vp, h1, h2, h3, h4, h5, h6, ⟨vb, h7⟩, h8, h9⟩ (⟨k, rfl⟩ | ⟨u, rfl⟩)
  · exact ⟨v, vp, h1, Kd.S_drewN h2 k, h3, Kd.R_drewN h4 k, h5, h6, ⟨vb, h7⟩, below_drewN h8 k, h9⟩
  · exact ⟨v, vp, h1.other n1 _, S_box h2 hM _, h3.other n2 _, R_box h4 hM _, h5.other n3 _, h6.other n4 _, ⟨_, h7.set _⟩, h8.setCell (p := ⟨B, 0, none⟩) hB _, by simpa using h9⟩

/-- The same, and what a round keeps since it began. -/
def SAll (w : World) (M Sb O Pb Nb B : Nat) (size : Int) (W0 : World) (st : SSt) (W : World) : Prop :=
  SInv w M Sb O Pb Nb B size st W ∧ KeepsFrom M W0 W ∧ KeepB w.heap.size B W0 W
/-- Where the variables lie. -/
structure Lies (w : World) (M Sb O Pb Nb B : Nat) : Prop where
  a : w.heap.size ≤ Sb
  b : Sb < O
  c : O < Pb
  d : Pb < Nb
  e : Nb < B
  f : B < M

theorem SAll.setN {W0 : World} (L : Lies w M Sb O Pb Nb B) (h : SAll w M Sb O Pb Nb B size W0 st W) (n : Int) : SAll w M Sb O Pb Nb B size W0 (st.1, st.2.1, n) (W.setCell ⟨Nb, 0, none⟩ (.int .i64 n)) := by
  obtain ⟨l1, l2, l3, l4, l5, l6⟩ := L
  obtain ⟨⟨v, vp, h1, h2, h3, h4, h5, h6, ⟨vb, h7⟩, h8, h9⟩, k1, k2⟩ := h
  refine ⟨⟨v, vp, h1.other (by omega) _, S_box h2 (by omega) _, h3.other (by omega) _, R_box h4 (by omega) _, h5.set _, h6.other (by omega) _, ⟨_, h7.other (by omega) _⟩, h8.setCell (p := ⟨Nb, 0, none⟩) (by show w.heap.size ≤ Nb; omega) _, by simpa using h9⟩, k1.trans ((KeepsOthers.setCell _ _ _).from _), k2.1.setCell (p := ⟨Nb, 0, none⟩) (by show w.heap.size ≤ Nb; omega) _, ?_⟩
  exact (show _ = _ from h7.other (by omega) _).trans ((show _ = _ from h7).symm.trans k2.2)
theorem SAll.alloc {W0 : World} (hM : w.heap.size ≤ M) (h : SAll w M Sb O Pb Nb B size W0 st W) (o : Obj) : SAll w M Sb O Pb Nb B size W0 st (W.alloc o) := by
  obtain ⟨⟨v, vp, h1, h2, h3, h4, h5, h6, ⟨vb, h7⟩, h8, h9⟩, k1, k2⟩ := h
  refine ⟨⟨v, vp, h1.alloc _, Kd.S_alloc h2 _, h3.alloc _, Kd.R_alloc h4 _, h5.alloc _, h6.alloc _, ⟨_, h7.alloc _⟩, h8.alloc h8.size _, by simp; omega⟩, k1.trans ((KeepsOthers.alloc _ _).from _), k2.1.alloc (by omega) _, ?_⟩
  exact (show _ = _ from h7.alloc _).trans ((show _ = _ from h7).symm.trans k2.2)
theorem flush_close {W0 w3 : World} {v vp v1 vb : Value} (L : Lies w M Sb O Pb Nb B)
    (H : Boxed W O 32 v ∧ Kd.S (Kd.slice 44 PC.k44) 22 W M (fun k => some k ≠ vp.ownBlock) v st.1 ∧ Boxed W Pb 22 vp ∧ Kd.R PC.k44 44 W M (fun _ => True) vp st.2.1
    ∧ Boxed W Nb 3 (.int .i64 st.2.2) ∧ Boxed W Sb 3 (.int .i64 size) ∧ Boxed W B 22 vb ∧ Below w.heap.size w W ∧ M ≤ W.heap.size ∧ KeepsFrom M W0 W ∧ KeepB w.heap.size B W0 W)
    (hS1 : Kd.S (Kd.slice 44 PC.k44) 22 w3 M (fun _ => True) v1 (st.1 ++ [st.2.1])) (hg : W.grownBy w3 v.ownBlock) :
    Boxed w3 O 32 v ∧ Boxed (w3.setCell ⟨O, 0, none⟩ v1) Pb 22 vp ∧ Boxed ((w3.setCell ⟨O, 0, none⟩ v1).setCell ⟨Pb, 0, none⟩ (.slice none 0 0)) Nb 3 (.int .i64 st.2.2)
    ∧ SAll w M Sb O Pb Nb B size W0 (st.1 ++ [st.2.1], [], 0) (((w3.setCell ⟨O, 0, none⟩ v1).setCell ⟨Pb, 0, none⟩ (.slice none 0 0)).setCell ⟨Nb, 0, none⟩ (.int .i64 0)) := by
  obtain ⟨l1, l2, l3, l4, l5, l6⟩ := L
  obtain ⟨h1, h2, h3, h4, h5, h6, h7, h8, h9, k1, k2⟩ := H
  have ne : ∀ {b : Nat}, b < M → some b ≠ v.ownBlock := fun {b} hb e => by have := Kd.S_base h2 b e.symm; omega
  have g1 := h1.kept hg (ne (by omega))
  have g3 := h3.kept hg (ne (by omega))
  have g5 := h5.kept hg (ne (by omega))
  have g6 := h6.kept hg (ne (by omega))
  have g7 := h7.kept hg (ne (by omega))
  have hb : ∀ j, v.ownBlock = some j → w.heap.size ≤ j := fun j e => by have := Kd.S_base h2 j e; omega
  have g8 : Below w.heap.size w w3 := h8.grown hg h8.size hb
  have kk : KeepsFrom M W w3 := (KeepsOthers.of_grownBy hg fun j o ej hj => by
    obtain ⟨cells, hc⟩ := Kd.S_typed h2 j ej
    rw [hc] at hj
    cases hj
    rfl).from _
  refine ⟨g1, g3.other (by omega) _, (g5.other (by omega) _).other (by omega) _, ⟨v1, .slice none 0 0, ((g1.set _).other (by omega) _).other (by omega) _, S_box (S_box (S_box (Kd.S_mono hS1 (fun _ _ => by simp [Value.ownBlock])) (by omega) _) (by omega) _) (by omega) _, ((g3.other (by omega) _).set _).other (by omega) _, Kd.R_nil _ _ _ _ _, ((g5.other (by omega) _).other (by omega) _).set _, ((g6.other (by omega) _).other (by omega) _).other (by omega) _, ⟨vb, ((g7.other (by omega) _).other (by omega) _).other (by omega) _⟩, ?_, ?_⟩, ?_, ?_, ?_⟩
  · exact ((g8.setCell (p := ⟨O, 0, none⟩) (by show w.heap.size ≤ O; omega) _).setCell (p := ⟨Pb, 0, none⟩) (by show w.heap.size ≤ Pb; omega) _).setCell (p := ⟨Nb, 0, none⟩) (by show w.heap.size ≤ Nb; omega) _
  · have := hg.size
    simp
    omega
  · exact (k1.trans kk).trans ((((KeepsOthers.setCell _ _ _).trans (KeepsOthers.setCell _ _ _)).trans (KeepsOthers.setCell _ _ _)).from _)
  · exact (((k2.1.grown hg (Nat.le_trans h8.size (Nat.le_refl _)) hb).setCell (p := ⟨O, 0, none⟩) (by show w.heap.size ≤ O; omega) _).setCell (p := ⟨Pb, 0, none⟩) (by show w.heap.size ≤ Pb; omega) _).setCell (p := ⟨Nb, 0, none⟩) (by show w.heap.size ≤ Nb; omega) _
  · exact (show _ = _ from ((g7.other (show B ≠ O by omega) v1).other (show B ≠ Pb by omega) (.slice none 0 0)).other (show B ≠ Nb by omega) (.int .i64 0)).trans ((show _ = _ from h7).symm.trans k2.2)

theorem append_close {W0 w3 : World} {v vp v2 vb : Value} {xs : List PC.S44} (L : Lies w M Sb O Pb Nb B)
    (H : Boxed W O 32 v ∧ Kd.S (Kd.slice 44 PC.k44) 22 W M (fun k => some k ≠ vp.ownBlock) v st.1 ∧ Boxed W Pb 22 vp ∧ Kd.R PC.k44 44 W M (fun _ => True) vp st.2.1
    ∧ Boxed W Nb 3 (.int .i64 st.2.2) ∧ Boxed W Sb 3 (.int .i64 size) ∧ Boxed W B 22 vb ∧ Below w.heap.size w W ∧ M ≤ W.heap.size ∧ KeepsFrom M W0 W ∧ KeepB w.heap.size B W0 W)
    (hR2 : Kd.R PC.k44 44 w3 M (fun _ => True) v2 (st.2.1 ++ xs)) (hg : W.grownBy w3 vp.ownBlock) (hat : v2.ownBlock = vp.ownBlock ∨ v2.ownBlock = some W.heap.size) :
    Boxed w3 Pb 22 vp ∧ SAll w M Sb O Pb Nb B size W0 (st.1, st.2.1 ++ xs, st.2.2) (w3.setCell ⟨Pb, 0, none⟩ v2) := by
  obtain ⟨l1, l2, l3, l4, l5, l6⟩ := L
  obtain ⟨h1, h2, h3, h4, h5, h6, h7, h8, h9, k1, k2⟩ := H
  have ne : ∀ {b : Nat}, b < M → some b ≠ vp.ownBlock := fun {b} hb e => by have := Kd.R_base h4 b e.symm; omega
  have g1 := h1.kept hg (ne (by omega))
  have g3 := h3.kept hg (ne (by omega))
  have g5 := h5.kept hg (ne (by omega))
  have g6 := h6.kept hg (ne (by omega))
  have g7 := h7.kept hg (ne (by omega))
  have hb : ∀ j, vp.ownBlock = some j → w.heap.size ≤ j := fun j e => by have := Kd.R_base h4 j e; omega
  have g8 : Below w.heap.size w w3 := h8.grown hg h8.size hb
  have kk : KeepsFrom M W w3 := (KeepsOthers.of_grownBy hg fun j o ej hj => by
    obtain ⟨cells, hc⟩ := Kd.R_typed h4 j ej
    rw [hc] at hj
    cases hj
    rfl).from _
  have g2 : Kd.S (Kd.slice 44 PC.k44) 22 w3 M (fun k => True ∧ some k ≠ v2.ownBlock) v st.1 := Kd.S_after (Kd.S_mono h2 (fun _ hk => ⟨trivial, hk⟩)) hg (by
    rcases hat with hat | hat
    · exact .inl hat
    · exact .inr ⟨_, hat, Nat.le_refl _⟩)
  refine ⟨g3, ⟨v, v2, g1.other (by omega) _, S_box (Kd.S_mono g2 (fun _ hk => hk.2)) (by omega) _, g3.set _, R_box hR2 (by omega) _, g5.other (by omega) _, g6.other (by omega) _, ⟨vb, g7.other (by omega) _⟩, g8.setCell (p := ⟨Pb, 0, none⟩) (by show w.heap.size ≤ Pb; omega) _, ?_⟩, ?_, ?_, ?_⟩
  · have := hg.size
    simp
    omega
  · exact (k1.trans kk).trans ((KeepsOthers.setCell _ _ _).from _)
  · exact (k2.1.grown hg h8.size hb).setCell (p := ⟨Pb, 0, none⟩) (by show w.heap.size ≤ Pb; omega) _
  · exact (show _ = _ from g7.other (show B ≠ Pb by omega) v2).trans ((show _ = _ from h7).symm.trans k2.2)
end

end Go.Proofs.Ytehoojmalhloeaa.CM
