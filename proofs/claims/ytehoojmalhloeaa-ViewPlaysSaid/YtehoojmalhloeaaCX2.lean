/- Drop, Split and the calls at the head of chapter 19's statements: what they compute. Their conditions are that what they read can be read and is not too long for memory. -/
import Derived.Test.YtehoojmalhloeaaCX1
import Derived.Laws.EntriesVeiled
import Derived.Shelf.Abstract
import Derived.Test.YtehoojmalhloeaaPCx1

/-! A user's entries that count, without those that delete nothing (compact.settled): what the program computes. Its conditions are that what it reads can be read and is not too long for memory. -/
namespace Go.Proofs.Ytehoojmalhloeaa.CM
open Go.RowKit Go.Proofs.YtehoojmalhloeaaW.PrintWords
set_option linter.unusedVariables false
set_option linter.unusedSimpArgs false
set_option maxRecDepth 100000

/-- The entries that settled leaves. -/
def settledL (l : List PC.S44) : List PC.S44 := (runM l.reverse).2.reverse

set_option maxHeartbeats 8000000 in
theorem settled_w (A : Option Addr) (c : Nat) (l : List PC.S44) (w : World) (hr : Kd.C PC.k44 w A l.length l) (hc : l.length ≤ c) (hbig : l.length * 48 ≤ 140737488355328) :
    Calls Try.prog 67 #[.slice A l.length c] w fun e w' => ∃ v, e = .returned v ∧ Kd.R PC.k44 44 w' w.heap.size (fun _ => True) v (settledL l) ∧ Below w.heap.size w w' := by
  obtain ⟨W0, hW0, hB0, x1, x2, x3, x4⟩ : ∃ W0, ((((w.alloc (Obj.cells #[Value.slice A l.length c] 22)).alloc (Obj.cells #[Value.slice none 0 0] 22)).alloc
          (Obj.cells #[Value.bool false] 4)).alloc
      (Obj.cells
        #[Value.func (Fn.func 87) #[]
            #[Value.pointer (some { block := w.heap.size + 1 + 1, off := 0 }),
              Value.pointer (some { block := w.heap.size + 1, off := 0 })]]
        130)) = W0 ∧ Below w.heap.size w W0 ∧ Boxed W0 w.heap.size 22 (.slice A l.length c) ∧ Boxed W0 (w.heap.size + 1) 22 (.slice none 0 0) ∧ Boxed W0 (w.heap.size + 1 + 1) 4 (.bool false) ∧
      Boxed W0 (w.heap.size + 1 + 1 + 1) 130 (.func (.func 87) #[] #[.pointer (some ⟨w.heap.size + 1 + 1, 0, none⟩), .pointer (some ⟨w.heap.size + 1, 0, none⟩)]) := by
    have bn : ∀ (W : World) (n t : Nat) (v : Value), W.heap.size = n → Boxed (W.alloc (.cells #[v] t)) n t v := fun W n t v h => h ▸ Boxed.new W t v
    refine ⟨_, rfl, ((((Below.refl w.heap.size w).alloc (by simp) _).alloc (by simp) _).alloc (by simp; omega) _).alloc (by simp; omega) _, ?_, ?_, ?_, ?_⟩
    · exact (((bn _ _ _ _ rfl).alloc _).alloc _).alloc _
    · exact ((bn _ _ _ _ (by simp)).alloc _).alloc _
    · exact (bn _ _ _ _ (by simp)).alloc _
    · exact bn _ _ _ _ (by simp)
  have hsz : w.heap.size ≤ W0.heap.size := hB0.size
  have HL := Lib.hid (lit_w w w.heap.size (w.heap.size + 1 + 1) (w.heap.size + 1) w.heap.size (w.heap.size + 1 + 1 + 1) (by omega) (by omega) (by omega) A c l W0 (keepC hr (Nat.le_refl _) hB0) hc x1 x4 ⟨_, x3, x2, Kd.R_nil _ _ _ _ _, hB0, hsz⟩ hbig)
  have HR := Lib.hid (fun v xs W h1 h2 => reverse_w w w.heap.size v xs W h1 h2)
  clear hr x1 x2 x3 x4 hB0 hsz
  go_enter Try.func67, Try.ntmps67
  go_wp2_with (first | (go_at_call 88; refine HL.out.mono ?_; rintro e w1 ⟨rfl, v1, hb1, hb2, hb3, hb4, hb5⟩; obtain ⟨A1, k1, hv1⟩ := Kd.R_slice hb3; subst hv1; have f1 := hb2.cell; have f2 := hb2.frozen; have n2 : some (w.heap.size + 1) ≠ (Value.slice A1 (runM l.reverse).2.length k1).ownBlock := Kd.R_ne hb3 hb2 (by decide); have G := Lib.hid (And.intro hb3 (And.intro hb4 (And.intro hb2 n2))); clear hb1 hb2 hb3 hb4 hb5 n2) | (go_at_call 89; refine (HR.out _ _ _ G.out.1 G.out.2.1).mono ?_; rintro e w2 ⟨rfl, hr2, hb2, hk2⟩; have d2 := (hk2 _ G.out.2.2.2).trans G.out.2.2.1; have d2b : Boxed w2 (w.heap.size + 1) 22 _ := d2; have g1 := d2b.cell; have g2 := d2b.frozen; have G2 := Lib.hid (And.intro hr2 (And.intro hb2 d2b)); clear hr2 hb2 hk2 d2 d2b))
  have hset : Boxed (w2.setCell { block := w.heap.size + 1, off := 0 } (Value.slice A1 (runM l.reverse).snd.length k1)) (w.heap.size + 1) 22 (Value.slice A1 (runM l.reverse).snd.length k1) := G2.out.2.2.set _
  have hc9 := hset.cell
  refine bodyPost_ret (v := .slice A1 (runM l.reverse).2.length k1) ?_ rfl ?_
  · simp [results, Try.results67, go_sem, hc9]
  · exact ⟨_, rfl, Kd.R_set G2.out.1 G2.out.2.2 k44_ne22 0 _, G2.out.2.1.setCell (p := ⟨w.heap.size + 1, 0, none⟩) (by show w.heap.size ≤ w.heap.size + 1; omega) _⟩

end Go.Proofs.Ytehoojmalhloeaa.CM

/-! A row of entries is put behind another one: what the built-in append leaves. Its conditions are that the one is the caller's own, the other can be read, and both are not too long for memory. -/
namespace Go.Proofs.Ytehoojmalhloeaa.CM
open Go.RowKit Go.Proofs.YtehoojmalhloeaaW.PrintWords
set_option linter.unusedVariables false
set_option linter.unusedSimpArgs false
set_option maxRecDepth 100000

/-- An entry's cells; entries' cells. -/
def cells1 (x : PC.S44) : List Value := [.string x.f0.f0, .int .u64 x.f0.f1, .int .i64 x.f0.f2, .string x.f1]
def cells44 : List PC.S44 → List Value
  | [] => []
  | x :: t => cells1 x ++ cells44 t
theorem cells44_len : ∀ xs : List PC.S44, (cells44 xs).length = xs.length * 4
  | [] => rfl
  | x :: t => by
    simp only [cells44, List.length_append, cells44_len t, List.length_cons]
    simp [cells1]
    omega
theorem cells44_append : ∀ xs ys : List PC.S44, cells44 (xs ++ ys) = cells44 xs ++ cells44 ys
  | [], ys => rfl
  | x :: t, ys => by simp [cells44, cells44_append t ys]
theorem reps44 {R : PC.S44 → List Value → Prop} (hR : ∀ x cs, R x cs → cs = cells1 x) : ∀ (xs : List PC.S44) (inner : List Value), Reps R 4 xs inner → inner = cells44 xs
  | [], inner, h => List.eq_nil_of_length_eq_zero (by simpa using h.1)
  | x :: t, inner, h => by
    have h0 := hR _ _ (h.2 0 x rfl)
    simp only [Nat.zero_mul, List.drop_zero] at h0
    have ht : Reps R 4 t (inner.drop 4) := ⟨by have := h.1; simp only [List.length_cons, List.length_drop] at this ⊢; omega, fun j p hj => by
      have := h.2 (j + 1) p (by simpa using hj)
      rw [show (j + 1) * 4 = 4 + j * 4 by omega, ← List.drop_drop] at this
      exact this⟩
    have := reps44 hR t _ ht
    rw [← List.take_append_drop 4 inner, h0, this]
    rfl
theorem cells44_reps {R : PC.S44 → List Value → Prop} (hR : ∀ x, R x (cells1 x)) : ∀ (xs : List PC.S44), Reps R 4 xs (cells44 xs)
  | [] => ⟨rfl, fun j p h => by simp at h⟩
  | x :: t => ⟨cells44_len _, fun j p hj => by
    cases j with
    | zero =>
      obtain rfl : x = p := by simpa using hj
      exact hR x
    | succ j =>
      have := (cells44_reps hR t).2 j p (by simpa using hj)
      rw [show (j + 1) * 4 = 4 + j * 4 by omega, ← List.drop_drop]
      exact this⟩
theorem own44 {W : World} {base : Nat} {ok : Nat → Prop} {v : Value} {xs : List PC.S44} (h : Kd.R PC.k44 44 W base ok v xs) : W.ownsRow base 44 4 v xs.length (cells44 xs) := by
  obtain ⟨_, inner, ho, hr⟩ := h
  have e := reps44 (fun x cs h => PC.k44_openM h) xs inner hr
  subst e
  exact ho
theorem R_of44 {W : World} {base : Nat} {v : Value} {xs : List PC.S44} (h : W.ownsRow base 44 4 v xs.length (cells44 xs)) : Kd.R PC.k44 44 W base (fun _ => True) v xs :=
  ⟨fun _ _ => trivial, cells44 xs, h, cells44_reps (fun x => PC.k44_mkM _ _ _ x) xs⟩

theorem run_append44 {W : World} {base : Nat} {v : Value} {xs ys : List PC.S44} {A : Option Addr} {m c : Nat} (ty : TypeId) (hR : Kd.R PC.k44 44 W base (fun _ => True) v xs) (hC : Kd.C PC.k44 W A m ys) (hl : (xs.length + m) * 48 ≤ 140737488355328) (hbase : base ≤ W.heap.size) :
    ∃ v1 w1, (Builtin.append_ #[22, 22] ty #[v, .slice A m c]).run Try.prog W = .ok v1 w1 ∧ Kd.R PC.k44 44 w1 base (fun _ => True) v1 (xs ++ ys) ∧ W.grownBy w1 v.ownBlock ∧ (v1.ownBlock = v.ownBlock ∨ v1.ownBlock = some W.heap.size) := by
  obtain ⟨i0, hi, hzz⟩ := Option.map_eq_some_iff.1 PC.info44
  simp only [Prod.mk.injEq] at hzz
  obtain ⟨hz0, hz1, hz2⟩ := hzz
  have hm : ys.length = m := hC.1
  have hown := own44 hR
  rcases A with _ | ad
  · have h0 : m = 0 := by
      rcases Nat.eq_zero_or_pos m with h0 | h0
      · exact h0
      · obtain ⟨ad, h, _⟩ := hC.2.2 h0
        cases h
    subst h0
    obtain rfl : ys = [] := List.eq_nil_of_length_eq_zero hm
    refine ⟨v, W, ?_, by rw [List.append_nil]; exact hR, World.grownBy.refl W _, .inl rfl⟩
    rcases hown.2 with ⟨rfl, hn⟩ | ⟨g, cap, cur, rfl, _, _, hnc, _⟩
    · simp [Builtin.append_, run_underlying Try.underlying22, sizeOf, typeInfo, hi, Builtin.lenOf, Builtin.firstCells]
    · simp [Builtin.append_, run_underlying Try.underlying22, sizeOf, typeInfo, hi, Builtin.lenOf, Builtin.firstCells, hnc, storeCells]
  · obtain ⟨news, hnr, hnc⟩ := ReadsRow.inner_ hC
    obtain rfl := reps44 (fun x cs h => PC.k44_open h) ys news hnr
    have hone : ∀ (zs : List PC.S44), ∀ u ∈ cells44 zs, u.oneCell' = true := by
      intro zs
      induction zs with
      | nil => intro u hu; cases hu
      | cons x t ih =>
        intro u hu
        rcases List.mem_append.1 hu with h | h
        · simp only [cells1, List.mem_cons, List.not_mem_nil, or_false] at h
          rcases h with rfl | rfl | rfl | rfl <;> rfl
        · exact ih u h
    obtain ⟨v1, w1, hrun, h2, hg, _, hat⟩ := run_append_own_at (P := Try.prog) W base 22 ty 44 i0 _ 4 48 Try.underlying22 hi hz0 hz1 hz2 rfl (by omega) v xs.length (cells44 xs) hown ad m c (cells44 ys) (by rw [cells44_len, hm]) hnc (hone ys) (by simp only [maxLen]; omega) hl hbase
    refine ⟨v1, w1, hrun, R_of44 ?_, hg, hat⟩
    rw [List.length_append, hm, cells44_append]
    exact h2

end Go.Proofs.Ytehoojmalhloeaa.CM

/-! What stays (compact.Drop): what the program computes. Its conditions are that what it reads can be read and is not too long for memory. -/
namespace Go.Proofs.Ytehoojmalhloeaa.CM
open Go.RowKit Go.Proofs.YtehoojmalhloeaaW.PrintWords
set_option linter.unusedVariables false
set_option linter.unusedSimpArgs false
set_option maxRecDepth 100000
attribute [local go_sem] Oper.semAt_some

/-- What stays of a user's entries. -/
def stayU (snaps : List Int) (bottom : Bool) (g : List PC.S44) : List PC.S44 := if bottom = true then settledL (countedL snaps g) else countedL snaps g
/-- What stays. -/
def dropL (snaps : List Int) (bottom : Bool) (l : List PC.S44) : List PC.S44 := ((groups l).map (stayU snaps bottom)).flatten

/-- What the loop keeps: its variables, the row of what stays so far. -/
def DInv (w W3 : World) (n O B : Nat) (A2 : Option Addr) (m2 c2 : Nat) (bottom : Bool) (ys : List PC.S44) (W : World) : Prop :=
  ∃ v, Boxed W O 22 v ∧ Kd.R PC.k44 44 W w.heap.size (fun _ => True) v ys ∧ Boxed W n 23 (.slice A2 m2 c2) ∧ Boxed W (n + 1) 4 (.bool bottom) ∧ (∃ vb, Boxed W B 22 vb) ∧ Below w.heap.size w W

theorem Boxed.rowed {W W' : World} {row : Option Nat} {g t : Nat} {v : Value} (h : Boxed W g t v) (hg : W.grownBy W' row) (hr : ∀ r, row = some r → ∃ o : Obj, W.heap[r]? = some o ∧ o.isCells = false) : Boxed W' g t v :=
  h.kept hg (fun e => by
    obtain ⟨o, ho, hc⟩ := hr g e.symm
    rw [show W.heap[g]? = _ from h] at ho
    cases ho
    cases hc)
theorem R_rowed {W W' : World} {row : Option Nat} {base : Nat} {v : Value} {xs : List PC.S44} (h : Kd.R PC.k44 44 W base (fun _ => True) v xs) (hg : W.grownBy W' row) (hr : ∀ r, row = some r → ∃ o : Obj, W.heap[r]? = some o ∧ o.isCells = false) : Kd.R PC.k44 44 W' base (fun _ => True) v xs :=
  Kd.R_mono (Kd.R_grown (Kd.R_bound h) hg (fun k hk e => by
    obtain ⟨_, _, _, q, _, cells, hc⟩ := hk
    obtain ⟨o, ho, hn⟩ := hr k e.symm
    rw [hc] at ho
    cases ho
    cases hn)) (fun _ _ => trivial)

theorem DInv.own {w W3 : World} {n O B : Nat} {A2 : Option Addr} {m2 c2 : Nat} {bottom : Bool} {β : Type} (f : β → List PC.S44) (hs : w.heap.size ≤ W3.heap.size) : OwnFrom W3.heap.size (fun (x : β) W => DInv w W3 n O B A2 m2 c2 bottom (f x) W) := by
  rintro x X Y row ⟨v, h1, h2, h3, h4, ⟨vb, h5⟩, h6⟩ hg hr
  have hr2 : ∀ r, row = some r → ∃ o : Obj, X.heap[r]? = some o ∧ o.isCells = false := fun r e => (hr r e).2
  exact ⟨v, Boxed.rowed h1 hg hr2, R_rowed h2 hg hr2, Boxed.rowed h3 hg hr2, Boxed.rowed h4 hg hr2, ⟨vb, Boxed.rowed h5 hg hr2⟩, h6.grown hg h6.size (fun k e => Nat.le_trans hs (hr k e).1)⟩

theorem DInv.stays {w W3 : World} {n O B : Nat} {A2 : Option Addr} {m2 c2 : Nat} {bottom : Bool} {β : Type} (f : β → List PC.S44) (hB : w.heap.size ≤ B) (h1B : O ≠ B) (h2B : n ≠ B) (h3B : n + 1 ≠ B) : Stays (StepB B) (fun (x : β) W => DInv w W3 n O B A2 m2 c2 bottom (f x) W) := by
  rintro x X Y ⟨v, h1, h2, h3, h4, ⟨vb, h5⟩, h6⟩ (⟨k, rfl⟩ | ⟨u, rfl⟩)
  · exact ⟨v, h1, Kd.R_drewN h2 k, h3, h4, ⟨vb, h5⟩, below_drewN h6 k⟩
  · exact ⟨v, h1.other h1B _, Kd.R_set h2 h5 k44_ne22 0 _, h3.other h2B _, h4.other h3B _, ⟨_, h5.set _⟩, h6.setCell (p := ⟨B, 0, none⟩) hB _⟩

theorem groups_flat : ∀ l : List PC.S44, (groups l).flatten = l
  | [] => rfl
  | a :: t => by
    have ih := groups_flat t
    show (joinU a (groups t)).flatten = a :: t
    unfold joinU
    split
    · rename_i b g gs hg
      rw [hg] at ih
      split <;> simpa using ih
    · simpa using ih
theorem stepM_le (l : List PC.S44) : ∀ st : Bool × List PC.S44, (l.foldl stepM st).2.length ≤ st.2.length + l.length := by
  induction l with
  | nil => intro st; simp
  | cons a t ih =>
    intro st
    have h1 := ih (stepM st a)
    have h2 := stepM_len st a
    simp only [List.foldl_cons, List.length_cons]
    omega
theorem settledL_len (l : List PC.S44) : (settledL l).length ≤ l.length := by
  have := stepM_le l.reverse (false, [])
  simpa [settledL, runM] using this
theorem stayU_len (snaps : List Int) (bottom : Bool) (g : List PC.S44) : (stayU snaps bottom g).length ≤ g.length := by
  unfold stayU
  split
  · exact Nat.le_trans (settledL_len _) (countedL_len _ _)
  · exact countedL_len _ _
theorem flat_len (snaps : List Int) (bottom : Bool) : ∀ gs : List (List PC.S44), (gs.map (stayU snaps bottom)).flatten.length ≤ gs.flatten.length
  | [] => by simp
  | g :: gs => by
    have h1 := flat_len snaps bottom gs
    have h2 := stayU_len snaps bottom g
    simp only [List.map_cons, List.flatten_cons, List.length_append]
    omega
theorem pre_len (l : List PC.S44) (gs : List (List PC.S44)) (h : gs <+: groups l) : gs.flatten.length ≤ l.length := by
  obtain ⟨t, ht⟩ := h
  have := groups_flat l
  rw [← ht] at this
  rw [← this]
  simp

theorem keepsOthers_of_below {W W' : World} (h : Below W.heap.size W W') : KeepsOthers W W' := ⟨h.size, fun k o hk _ => (h.block k (Array.getElem?_eq_some_iff.1 hk).1).trans hk⟩

theorem DInv.step {w W3 W w2 w3 : World} {O B : Nat} {A2 : Option Addr} {m2 c2 n₀ : Nat} {bottom : Bool} {v v2 vb : Value} {ys zs : List PC.S44} (hO : w.heap.size + 2 ≤ O) (hB : w.heap.size + 2 ≤ B) (hOB : O ≠ B)
    (H : Boxed W O 22 v ∧ Kd.R PC.k44 44 W w.heap.size (fun _ => True) v ys ∧ Boxed W w.heap.size 23 (.slice A2 m2 c2) ∧ Boxed W (w.heap.size + 1) 4 (.bool bottom) ∧ Boxed W B 22 vb ∧ Below w.heap.size w W)
    (hb : Below W.heap.size W w2) (hg : w2.grownBy w3 v.ownBlock) (hR3 : Kd.R PC.k44 44 w3 w.heap.size (fun _ => True) v2 (ys ++ zs)) :
    KeepsFrom n₀ W (w3.setCell ⟨O, 0, none⟩ v2) ∧ KeepB w.heap.size B W (w3.setCell ⟨O, 0, none⟩ v2) ∧ DInv w W3 w.heap.size O B A2 m2 c2 bottom (ys ++ zs) (w3.setCell ⟨O, 0, none⟩ v2) := by
  obtain ⟨h1, h2, h3, h4, h5, h6⟩ := H
  have g2 := Kd.R_below h2 hb
  have mv : ∀ {b t : Nat} {u : Value}, Boxed W b t u → t ≠ 44 → Boxed w3 b t u := fun {b t u} h ht =>
    Boxed.kept (show Boxed w2 b t u from (hb.block _ h.lt).trans h) hg (Kd.R_ne g2 (show Boxed w2 b t u from (hb.block _ h.lt).trans h) (Ne.symm ht))
  have k1 := mv h1 (by decide)
  have k3 := mv h3 (by decide)
  have k4 := mv h4 (by decide)
  have k5 := mv h5 (by decide)
  have hB2 : Below w.heap.size W w3 := (hb.mono h6.size).grown hg (Nat.le_trans h6.size hb.size) (fun k e => Kd.R_base g2 k e)
  refine ⟨?_, ⟨hB2.setCell (p := ⟨O, 0, none⟩) (by show w.heap.size ≤ O; omega) _, ?_⟩, _, k1.set _, Kd.R_set hR3 k1 k44_ne22 0 _, k3.other (by omega) _, k4.other (by omega) _, ⟨vb, k5.other (Ne.symm hOB) _⟩, ((h6.trans hB2).setCell (p := ⟨O, 0, none⟩) (by show w.heap.size ≤ O; omega) _)⟩
  · refine (((keepsOthers_of_below hb).trans (KeepsOthers.of_grownBy hg fun j o ej hj => ?_)).trans (KeepsOthers.setCell _ _ _)).from _
    obtain ⟨_, _, _, q, _, cells, hc⟩ := (Kd.R_bound g2).1 j ej
    rw [hc] at hj
    cases hj
    rfl
  · exact (show _ = _ from k5.other (Ne.symm hOB) _).trans (show _ = _ from h5).symm

theorem wpList_append_run {P : Program} (w : World) {ops : Array Oper} {rest : List Oper} {o : Oper} {a : Act} {Q : Exit → Act → World → Prop}
    (hg : o.guard = none) (s x : Operand) (t : TypeId) (hop : o.op = Op.call { callee := Callee.builtin Builtin.append, args := #[s, x], argTypes := #[t, t] })
    (v u v' : Value) (w' : World) (hs : a.eval s = v) (hx : a.eval x = u) (hrun : (Builtin.append_ #[t, t] o.type #[v, u]).run P w = .ok v' w')
    (hK : wpList P ops Q rest (a.put o.dst v') w') :
    wpList P ops Q (o :: rest) a w := by
  refine wpList_plain hg fun K hK' => ?_
  unfold Oper.wp
  simp [execOp, hop, resolve, invoke, builtin, hs, hx, hrun, Result.andThen]
  exact hK' _ _ hK

theorem wpListIn_append_run {F : Fence} {n : Nat} {P : Program} (w : World) {ops : Array Oper} {rest : List Oper} {o : Oper} {a : Act} {Q : Exit → Act → World → Prop}
    (hg : o.guard = none) (s x : Operand) (t : TypeId) (hop : o.op = Op.call { callee := Callee.builtin Builtin.append, args := #[s, x], argTypes := #[t, t] })
    (v u v' : Value) (w' : World) (hs : a.eval s = v) (hx : a.eval x = u) (hrun : (Builtin.append_ #[t, t] o.type #[v, u]).run P w = .ok v' w')
    (hK : wpListIn F n P ops Q rest (a.put o.dst v') w') :
    wpListIn F n P ops Q (o :: rest) a w := by
  refine wpListIn_plain hg fun K hK' => ?_
  unfold Oper.wpIn
  refine ⟨?_, ?_⟩
  · simp [Oper.about, hop, resolve, Target.leads, Sem.run_pure]
  · rw [Oper.semAt_plain F _ _ (by rw [hop]; intro c hc'; cases hc')]
    simp [execOp, hop, resolve, invoke, builtin, hs, hx, hrun, Result.andThen]
    exact hK' _ _ hK

set_option maxHeartbeats 8000000 in
theorem drop_w (A : Option Addr) (c : Nat) (l : List PC.S44) (A2 : Option Addr) (c2 : Nat) (snaps : List Int) (bottom : Bool) (w : World) (hr : Kd.C PC.k44 w A l.length l) (hc : l.length ≤ c) (hr2 : Kd.C (Kd.int .u64) w A2 snaps.length snaps)
    (hbig : l.length * 48 ≤ 140737488355328) (hup : risesB l = true) :
    Calls Try.prog 24 #[.slice A l.length c, .slice A2 snaps.length c2, .bool bottom] w fun e w' => ∃ v, e = .returned (.tuple #[v, .int .i64 0]) ∧ Kd.R PC.k44 44 w' w.heap.size (fun _ => True) v (dropL snaps bottom l) ∧ Below w.heap.size w w' := by
  refine (callsIn_wide (n := 3)).1 ?_
  refine callsIn_of_wp_marks Try.func24 rfl trivial ?_ rfl
  refine wpIn_wide.2 ?_
  simp only [Try.ntmps24, List.size_toArray, List.length_cons, List.length_nil, Nat.reduceAdd, Nat.reduceSub, Array.replicate_succ, Array.replicate_zero, List.push_toArray, List.append_toArray, List.nil_append, List.cons_append]
  have HR := Lib.hid hr
  have HS := Lib.hid hr2
  have HU := Lib.hid hup
  clear hr hr2 hup
  go_wp2_with (first | (go_at_call 64; refine (rises_w A c l _ (keepC HR.out (Nat.le_refl _) (((Below.refl w.heap.size w).alloc (Nat.le_refl _) _).alloc (by simp) _)) hc).mono ?_; rintro e w1 ⟨rfl, hb1⟩; rw [HU.out]) | (go_at_call 65; refine (users_w _ A l.length c rfl _).mono ?_; rintro e w2 ⟨rfl, rfl⟩))
  have hs1 : w.heap.size + 2 ≤ w1.heap.size := by have := hb1.size; simp at this; omega
  obtain ⟨W3, hW3, hs3, hB3, x1, x2, x3, x4⟩ : ∃ W3, (w1.alloc (Obj.cells #[Value.slice none 0 0] 22)).alloc (Obj.cells #[Value.slice A l.length c] 22) = W3 ∧ W3.heap.size = w1.heap.size + 2 ∧ Below w.heap.size w W3
      ∧ Boxed W3 w.heap.size 23 (.slice A2 snaps.length c2) ∧ Boxed W3 (w.heap.size + 1) 4 (.bool bottom) ∧ Boxed W3 w1.heap.size 22 (.slice none 0 0) ∧ Boxed W3 (w1.heap.size + 1) 22 (.slice A l.length c) := by
    have bn : ∀ (W : World) (n t : Nat) (v : Value), W.heap.size = n → Boxed (W.alloc (.cells #[v] t)) n t v := fun W n t v h => h ▸ Boxed.new W t v
    have y1 : Boxed ((w.alloc (.cells #[.slice A2 snaps.length c2] 23)).alloc (.cells #[.bool bottom] 4)) w.heap.size 23 (.slice A2 snaps.length c2) := (bn _ _ _ _ rfl).alloc _
    have y2 : Boxed ((w.alloc (.cells #[.slice A2 snaps.length c2] 23)).alloc (.cells #[.bool bottom] 4)) (w.heap.size + 1) 4 (.bool bottom) := bn _ _ _ _ (by simp)
    have z1 : Boxed w1 w.heap.size 23 (.slice A2 snaps.length c2) := (hb1.block _ (by simp; omega)).trans y1
    have z2 : Boxed w1 (w.heap.size + 1) 4 (.bool bottom) := (hb1.block _ (by simp)).trans y2
    refine ⟨_, rfl, by simp, ((((((Below.refl w.heap.size w).alloc (Nat.le_refl _) _).alloc (by simp) _).trans (hb1.mono (by simp; omega))).alloc (by omega) _).alloc (by simp; omega) _), ?_, ?_, ?_, ?_⟩
    · exact (z1.alloc _).alloc _
    · exact (z2.alloc _).alloc _
    · exact (bn _ _ _ _ rfl).alloc _
    · exact bn _ _ _ _ (by simp)
  rw [hW3]
  clear hW3 hb1
  have hO : w.heap.size ≤ w1.heap.size := by omega
  have hsz : w.heap.size ≤ W3.heap.size := by omega
  have HI := users1_w 2 (by omega) w W3 (w1.heap.size + 1) (by omega) (by omega) hB3 A c l HR.out hc x4
  refine wpIn_wide.1 (range_rel (n := 3) rfl (by omega) (gf := 84) (lb := #[.pointer (some ⟨w1.heap.size + 1, 0, none⟩)]) rfl trivial (enters_of Try.func84 (by kernel_rfl) rfl) HI (fun x => rfl)
    ?hRel ?hKt ?hKb (fun pre W => DInv w W3 w.heap.size w1.heap.size (w1.heap.size + 1) A2 snaps.length c2 bottom (pre.map (fun x : Part w => stayU snaps bottom x.kvs)).flatten W) (fun _ _ _ => False)
    (DInv.own _ hsz) (fun _ _ _ _ _ hs _ _ => hs) (DInv.stays _ (by omega) (by omega) (by omega) (by omega)) (fun _ _ _ _ h _ => h)
    ⟨_, x3, Kd.R_nil _ _ _ _ _, x1, x2, ⟨_, x4⟩, hB3⟩
    (fun x => { tmps := #[.slice A l.length c, .slice A2 snaps.length c2, .bool bottom, undef, .pointer (some ⟨w.heap.size, 0, none⟩), .pointer (some ⟨w.heap.size + 1, 0, none⟩), .slice none 0 0, .int .i64 0, .pointer (some ⟨w1.heap.size, 0, none⟩), .slice x.1.1 x.1.2.2.length x.1.2.1, .slice A l.length c, .bool true, .bool false, .slice A l.length c, .func (.func 84) #[] #[.pointer (some ⟨w1.heap.size + 1, 0, none⟩)], .slice x.1.1 x.1.2.2.length x.1.2.1, undef, undef, undef, undef, undef, undef, undef, undef, undef, undef], defers := [] }) ?assign ?body ?done ?stop)
  case hRel =>
    rintro X Y (⟨k, rfl⟩ | ⟨u, rfl⟩)
    · exact ⟨Nat.le_refl _, fun _ _ _ h _ => h⟩
    · exact (KeepsOthers.setCell _ _ _).from _
  case hKt => exact fun h k => ⟨h.1.trans k.1, k.2.trans h.2⟩
  case hKb => exact fun X k o o' hk ho hc hw => ⟨belowK_b hsz X k o o' hk ho hc hw, World.putObj_heap_other (by omega)⟩
  case assign =>
    intro l x W K hK
    simp only [Part.encs]
    gi_wp2
    exact hK
  case body =>
    rintro k pre x W ⟨v, h1, h2, h3, h4, ⟨vb, h5⟩, h6⟩ hsp
    obtain ⟨ys, hys⟩ : ∃ ys, (pre.map (fun x : Part w => stayU snaps bottom x.kvs)).flatten = ys := ⟨_, rfl⟩
    rw [hys] at h2
    have hlen : ys.length + x.kvs.length ≤ l.length := by
      have e1 := pre_len l _ hsp
      have e2 := flat_len snaps bottom (pre.map Part.kvs)
      simp only [List.map_append, List.map_cons, List.map_nil, List.flatten_append, List.length_append, List.flatten_cons, List.flatten_nil, List.append_nil] at e1
      rw [List.map_map] at e2
      have e3 : (pre.map (fun x : Part w => stayU snaps bottom x.kvs)).flatten = (pre.map (stayU snaps bottom ∘ Part.kvs)).flatten := rfl
      rw [e3] at hys
      rw [hys] at e2
      omega
    obtain ⟨Av, cv, hv, hlv, _⟩ := Kd.R_reads h2
    subst hv
    have c3 := h3.cell
    have c4 := h4.cell
    have hC := counted_w x.1.1 x.1.2.1 x.kvs A2 c2 snaps W (keepC x.2.1 (Nat.le_refl _) h6) x.2.2.1 (keepC HS.out (Nat.le_refl _) h6) (by have := hlen; omega)
    have e0 : x.1.2.2.length = x.kvs.length := rfl
    rw [e0]
    have HC := Lib.hid hC
    have H := Lib.hid (And.intro h1 (And.intro h2 (And.intro h3 (And.intro h4 (And.intro h5 h6)))))
    have HL := Lib.hid (And.intro hlen hys)
    clear hC h1 h2 h3 h4 h5 h6 hlen hys e0 x1 x2 x3 x4 HI
    cases bottom with
    | false =>
      gi_wp2_with (first | (refine ⟨trivial, ?_⟩; gi_at_call 66; refine (CallsIn.inRound k (callsIn_wide.2 HC.out)).mono ?_; rintro e w2 ⟨v1, rfl, hr1, hb1⟩; obtain ⟨A1, k1, hv1, hl1, hC1⟩ := Kd.R_reads hr1; subst hv1; have g1 : Boxed w2 w1.heap.size 22 (Value.slice Av ys.length cv) := (hb1.block _ H.out.1.lt).trans H.out.1; have g3 : Boxed w2 w.heap.size 23 (.slice A2 snaps.length c2) := (hb1.block _ H.out.2.2.1.lt).trans H.out.2.2.1; have g4 : Boxed w2 (w.heap.size + 1) 4 (Value.bool false) := (hb1.block _ H.out.2.2.2.1.lt).trans H.out.2.2.2.1; have g5 : Boxed w2 (w1.heap.size + 1) 22 vb := (hb1.block _ H.out.2.2.2.2.1.lt).trans H.out.2.2.2.2.1; obtain ⟨v2, w3, hrun, hR3, hg3, hat3⟩ := run_append44 (c := k1) 22 (Kd.R_below H.out.2.1 hb1) hC1 (by have := HL.out.1; have := countedL_len snaps x.kvs; omega) (Nat.le_trans H.out.2.2.2.2.2.size hb1.size); have q4 := g4.cell; have q1 := g1.cell; have n1 : some w1.heap.size ≠ (Value.slice Av ys.length cv).ownBlock := Kd.R_ne (Kd.R_below H.out.2.1 hb1) g1 (by decide); have b1 : Boxed w3 w1.heap.size 22 _ := g1.kept hg3 n1; obtain ⟨A5, k5, hv5⟩ := Kd.R_slice hR3; subst hv5; have r1 := b1.cell; have f1 := b1.frozen; have G := Lib.hid (And.intro g3 (And.intro g4 (And.intro g5 (And.intro hR3 (And.intro hg3 (And.intro b1 (And.intro hb1 hl1))))))); clear g1 g3 g4 g5 hR3 hg3 hat3 n1 b1 hb1 hl1 hr1 hC1) | (gi_at_builtin; refine wpListIn_append_run _ rfl (.tmp 22) (.tmp 23) 22 rfl _ _ _ _ rfl rfl hrun ?_; clear hrun))
      have Z := DInv.step (W3 := W3) (n₀ := W3.heap.size) (by omega) (by omega) (by omega) H.out G.out.2.2.2.2.2.2.1 G.out.2.2.2.2.1 G.out.2.2.2.1
      have e : ((pre ++ [x]).map (fun x : Part w => stayU snaps false x.kvs)).flatten = ys ++ countedL snaps x.kvs := by rw [← HL.out.2]; simp [stayU]
      rw [List.length_append] at Z
      refine ⟨Z.1, Z.2.1, ?_⟩
      show DInv _ _ _ _ _ _ _ _ _ (List.map _ (pre ++ [x])).flatten _
      rw [e]
      exact Z.2.2
    | true =>
      gi_wp2_with (first | (refine ⟨trivial, ?_⟩; gi_at_call 66; refine (CallsIn.inRound k (callsIn_wide.2 HC.out)).mono ?_; rintro e w2 ⟨v1, rfl, hr1, hb1⟩; obtain ⟨A1, k1, hv1, hl1, hC1⟩ := Kd.R_reads hr1; subst hv1; have q4 : w2.cell? ⟨w.heap.size + 1, 0, none⟩ = some (.bool true) := (show Boxed w2 (w.heap.size + 1) 4 (Value.bool true) from (hb1.block _ H.out.2.2.2.1.lt).trans H.out.2.2.2.1).cell; have HS2 := Lib.hid (settled_w A1 k1 (countedL snaps x.kvs) w2 hC1 hl1 (by have := HL.out.1; have := countedL_len snaps x.kvs; omega)); have HB2 := Lib.hid hb1; clear hC1 hl1 hb1 hr1) | (refine ⟨trivial, ?_⟩; gi_at_call 67; refine (CallsIn.inRound k (callsIn_wide.2 HS2.out)).mono ?_; rintro e w5 ⟨v1, rfl, hr1, hb5⟩; have hb1 := HB2.out.trans (hb5.mono HB2.out.size); clear hb5; obtain ⟨A1, k1, hv1, hl1, hC1⟩ := Kd.R_reads hr1; subst hv1; have g1 : Boxed w5 w1.heap.size 22 (Value.slice Av ys.length cv) := (hb1.block _ H.out.1.lt).trans H.out.1; have g3 : Boxed w5 w.heap.size 23 (.slice A2 snaps.length c2) := (hb1.block _ H.out.2.2.1.lt).trans H.out.2.2.1; have g4 : Boxed w5 (w.heap.size + 1) 4 (Value.bool true) := (hb1.block _ H.out.2.2.2.1.lt).trans H.out.2.2.2.1; have g5 : Boxed w5 (w1.heap.size + 1) 22 vb := (hb1.block _ H.out.2.2.2.2.1.lt).trans H.out.2.2.2.2.1; obtain ⟨v2, w3, hrun, hR3, hg3, hat3⟩ := run_append44 (c := k1) 22 (Kd.R_below H.out.2.1 hb1) hC1 (by have := HL.out.1; have := countedL_len snaps x.kvs; have := settledL_len (countedL snaps x.kvs); omega) (Nat.le_trans H.out.2.2.2.2.2.size hb1.size); have q4 := g4.cell; have q1 := g1.cell; have n1 : some w1.heap.size ≠ (Value.slice Av ys.length cv).ownBlock := Kd.R_ne (Kd.R_below H.out.2.1 hb1) g1 (by decide); have b1 : Boxed w3 w1.heap.size 22 _ := g1.kept hg3 n1; obtain ⟨A5, k5, hv5⟩ := Kd.R_slice hR3; subst hv5; have r1 := b1.cell; have f1 := b1.frozen; have G := Lib.hid (And.intro g3 (And.intro g4 (And.intro g5 (And.intro hR3 (And.intro hg3 (And.intro b1 (And.intro hb1 hl1))))))); clear g1 g3 g4 g5 hR3 hg3 hat3 n1 b1 hb1 hl1 hr1 hC1) | (gi_at_builtin; refine wpListIn_append_run _ rfl (.tmp 22) (.tmp 23) 22 rfl _ _ _ _ rfl rfl hrun ?_; clear hrun))
      have Z := DInv.step (W3 := W3) (n₀ := W3.heap.size) (by omega) (by omega) (by omega) H.out G.out.2.2.2.2.2.2.1 G.out.2.2.2.2.1 G.out.2.2.2.1
      have e : ((pre ++ [x]).map (fun x : Part w => stayU snaps true x.kvs)).flatten = ys ++ settledL (countedL snaps x.kvs) := by rw [← HL.out.2]; simp [stayU]
      rw [List.length_append] at Z
      refine ⟨Z.1, Z.2.1, ?_⟩
      show DInv _ _ _ _ _ _ _ _ _ (List.map _ (pre ++ [x])).flatten _
      rw [e]
      exact Z.2.2
  case done =>
    rintro D ys W hD hS ⟨v, h1, h2, h3, h4, ⟨vb, h5⟩, h6⟩ hK
    have c1 := h1.cell
    have e : (ys.map (fun x : Part w => stayU snaps bottom x.kvs)).flatten = dropL snaps bottom l := by
      have : ys.map (fun x : Part w => stayU snaps bottom x.kvs) = (ys.map Part.kvs).map (stayU snaps bottom) := by simp
      rw [this, hS]
      rfl
    rw [e] at h2
    obtain ⟨A7, k7, hv7⟩ := Kd.R_slice h2
    subst hv7
    have HH := Lib.hid (And.intro h2 (And.intro h6 (And.intro hD hK)))
    clear h1 h2 h3 h4 h5 h6 e HI hS hD hK x1 x2 x3 x4
    gi_wp2
    go_wp2
    refine ⟨by simp, .inl ⟨_, _, rfl, run_takeDeferred HH.out.2.2.2, ?_⟩⟩
    refine ⟨_, results_tmp2 rfl _ _ _, ?_⟩
    refine ⟨_, rfl, R_rowed HH.out.1 (grownBy_putObj' W D (.deferred none)) (fun r e => by cases e; exact ⟨_, HH.out.2.2.2, rfl⟩), ?_⟩
    exact HH.out.2.1.trans (belowK_b (w := W3) hsz W D _ _ HH.out.2.2.1 HH.out.2.2.2 rfl rfl)
  case stop =>
    rintro D c pre W _ _ h _
    exact h.elim

set_option maxHeartbeats 8000000 in
theorem drop_no (A : Option Addr) (c : Nat) (l : List PC.S44) (A2 : Option Addr) (c2 n2 : Nat) (bottom : Bool) (w : World) (hr : Kd.C PC.k44 w A l.length l) (hc : l.length ≤ c) (hup : risesB l = false) :
    Calls Try.prog 24 #[.slice A l.length c, .slice A2 n2 c2, .bool bottom] w fun e w' => e = .returned (.tuple #[.slice none 0 0, .int .i64 160]) ∧ Below w.heap.size w w' := by
  have HR := Lib.hid hr
  have HU := Lib.hid hup
  clear hr hup
  go_enter Try.func24, Try.ntmps24
  go_wp2_with (go_at_call 64; refine (rises_w A c l _ (keepC HR.out (Nat.le_refl _) (((Below.refl w.heap.size w).alloc (Nat.le_refl _) _).alloc (by simp) _)) hc).mono ?_; rintro e w1 ⟨rfl, hb1⟩; rw [HU.out])
  go_ret2
  exact ⟨rfl, (((Below.refl w.heap.size w).alloc (Nat.le_refl _) _).alloc (by simp) _).trans (hb1.mono (by simp; omega))⟩

end Go.Proofs.Ytehoojmalhloeaa.CM

/-! A row of entries is laid behind rows: what the built-in append leaves. Its conditions are that they are the caller's own and not too long for memory. -/
namespace Go.Proofs.Ytehoojmalhloeaa.CM
open Go.RowKit Go.Proofs.YtehoojmalhloeaaW.PrintWords
set_option linter.unusedVariables false
set_option linter.unusedSimpArgs false
set_option maxRecDepth 100000

theorem R44_ok {W : World} {base : Nat} {ok : Nat → Prop} {v : Value} {xs : List PC.S44} (h : Kd.R PC.k44 44 W base (fun _ => True) v xs) (hok : ∀ k, v.ownBlock = some k → ok k) : Kd.R PC.k44 44 W base ok v xs :=
  ⟨hok, cells44 xs, own44 h, cells44_reps (fun x => PC.k44_mkM _ _ _ x) xs⟩

theorem run_append32 {W : World} {base : Nat} {v vp : Value} {xss : List (List PC.S44)} {xs : List PC.S44} (ty : TypeId)
    (hS : Kd.S (Kd.slice 44 PC.k44) 22 W base (fun k => some k ≠ vp.ownBlock) v xss) (hR : Kd.R PC.k44 44 W base (fun _ => True) vp xs) (hbase : base ≤ W.heap.size) (hl : (xss.length + 1) * 24 ≤ 140737488355328) :
    ∃ v1 w1, (Builtin.append_ #[32, 32] ty #[v, .slice (some ⟨W.heap.size, 0, none⟩) 1 1]).run Try.prog (W.alloc (.cells #[vp] 22)) = .ok v1 w1 ∧ Kd.S (Kd.slice 44 PC.k44) 22 w1 base (fun _ => True) v1 (xss ++ [xs]) ∧ W.grownBy w1 v.ownBlock := by
  obtain ⟨i0, hi, hzz⟩ := Option.map_eq_some_iff.1 PC.info22
  simp only [Prod.mk.injEq] at hzz
  obtain ⟨hz0, hz1, hz2⟩ := hzz
  have HO : Kd.S (Kd.slice 44 PC.k44) 22 W base (fun k => True ∧ ¬ (vp.ownBlock = some k)) v xss := Kd.S_mono hS (fun k hk => ⟨trivial, fun e => hk e.symm⟩)
  obtain ⟨f, hf, hT⟩ := Kd.S_tag HO xss.length (fun k => vp.ownBlock = some k) (fun _ hk h2 => h2.2 hk)
  obtain ⟨h0, inner, hown, hr⟩ := hT
  have hne : ∀ k, vp.ownBlock = some k → some k ≠ v.ownBlock := fun k hk => by
    obtain ⟨cells, hc⟩ := Kd.R_typed hR k hk
    exact Kd.R_ne (Kd.S_R hS) hc (by decide)
  have hl0 : xss.zipIdx.length = xss.length := List.length_zipIdx
  obtain ⟨v1, w1, hrun, hown1, hg, _, hat⟩ := run_append_own_at (P := Try.prog) (W.alloc (.cells #[vp] 22)) base 32 ty 22 i0 _ 1 24 (by kernel_rfl) hi hz0 hz1 hz2 rfl (by decide) v xss.zipIdx.length inner (hown.alloc _) ⟨W.heap.size, 0, none⟩ 1 1 [vp] rfl
    (by simpa using World.news_of_block (cs := #[vp]) (t := 22) (fr := (0, 0)) (heap_alloc_new W (.cells #[vp] 22))) (by
      intro u hu
      obtain ⟨A, c, hv, _⟩ := Kd.R_reads hR
      rw [List.mem_singleton.1 hu, hv]
      rfl) (by simp only [maxLen]; omega) (by rw [hl0]; exact hl) (by simp; omega)
  have hg2 : W.grownBy w1 v.ownBlock := World.grownBy.trans (World.grownBy_alloc W _ _) hg
  have hat2 : v1.ownBlock = v.ownBlock ∨ ∃ b, v1.ownBlock = some b ∧ W.heap.size ≤ b := by
    rcases hat with hat | hat
    · exact .inl hat
    · exact .inr ⟨_, hat, by simp⟩
  refine ⟨v1, w1, hrun, ⟨f, ?_⟩, hg2⟩
  have hp : (Kd.tag f (Kd.slice 44 PC.k44)).M W base (fun k => vp.ownBlock = some k) (xs, xss.length) [vp] := by
    refine (Kd.slice 44 PC.k44).M_mono (fun k hk => ⟨hk, hf k hk⟩) ?_
    exact ⟨vp, rfl, R44_ok hR (fun k hk => hk)⟩
  rw [Kd.zip_snoc]
  exact Kd.R_appended (d := Kd.tag f (Kd.slice 44 PC.k44)) (ok := fun _ => True) (fun _ _ => trivial) (Reps.imp_ hr (fun _ _ hp => (Kd.tag f (Kd.slice 44 PC.k44)).M_mono (fun k hk => ⟨trivial, hk.2⟩) hp)) hp (fun k hk => ⟨trivial, hne k hk⟩) (fun _ _ => trivial) hown1 hg2 hat2

end Go.Proofs.Ytehoojmalhloeaa.CM

/-! Entries in parts (compact.Split): what the program computes. Its conditions are that what it reads can be read and is not too long for memory. -/
namespace Go.Proofs.Ytehoojmalhloeaa.CM
open Go.RowKit Go.Proofs.YtehoojmalhloeaaW.PrintWords
set_option linter.unusedVariables false
set_option linter.unusedSimpArgs false
set_option maxRecDepth 100000
attribute [local go_sem] Oper.semAt_some

/-- The bytes of an entry; of entries behind a sum. -/
def szP (x : PC.S44) : Int := wrap64 (wrap64 ((x.f0.f0.size : Int) + (x.f1.size : Int)) + 16)
def sumP (n : Int) (g : List PC.S44) : Int := g.foldl (fun n x => wrap64 (n + szP x)) n
abbrev SSt := List (List PC.S44) × List PC.S44 × Int
def stepF (size : Int) (st : SSt) : SSt := if size ≤ st.2.2 then (st.1 ++ [st.2.1], [], 0) else st
def stepS (size : Int) (st : SSt) (g : List PC.S44) : SSt := ((stepF size st).1, (stepF size st).2.1 ++ g, sumP (stepF size st).2.2 g)
def runS (size : Int) (gs : List (List PC.S44)) : SSt := gs.foldl (stepS size) ([], [], 0)
/-- Entries in parts. -/
def splitL (size : Int) (l : List PC.S44) : List (List PC.S44) := if (runS size (groups l)).2.1 = [] then (runS size (groups l)).1 else (runS size (groups l)).1 ++ [(runS size (groups l)).2.1]

theorem runS_snoc (size : Int) (gs : List (List PC.S44)) (g : List PC.S44) : runS size (gs ++ [g]) = stepS size (runS size gs) g := by simp [runS]
theorem runS_flat (size : Int) : ∀ (gs : List (List PC.S44)) (st : SSt), ((gs.foldl (stepS size) st).1.flatten ++ (gs.foldl (stepS size) st).2.1) = st.1.flatten ++ st.2.1 ++ gs.flatten
  | [], st => by simp
  | g :: gs, st => by
    rw [List.foldl_cons, runS_flat size gs]
    simp only [stepS, stepF]
    split <;> simp
theorem runS_len (size : Int) : ∀ (gs : List (List PC.S44)) (st : SSt), (gs.foldl (stepS size) st).1.length ≤ st.1.length + gs.length
  | [], st => by simp
  | g :: gs, st => by
    rw [List.foldl_cons]
    have h1 := runS_len size gs (stepS size st g)
    have h2 : (stepS size st g).1.length ≤ st.1.length + 1 := by
      simp only [stepS, stepF]
      split <;> simp
    simp only [List.length_cons]
    omega
theorem groups_len : ∀ l : List PC.S44, (groups l).length ≤ l.length
  | [] => by simp [groups]
  | a :: t => by
    have ih := groups_len t
    show (joinU a (groups t)).length ≤ (a :: t).length
    unfold joinU
    split
    · rename_i b g gs hg
      rw [hg] at ih
      split <;> simp at ih ⊢ <;> omega
    · simp; omega
theorem sumP_snoc (n : Int) (g : List PC.S44) (x : PC.S44) : sumP n (g ++ [x]) = wrap64 (sumP n g + szP x) := by simp [sumP]
theorem sumP_take (n : Int) (g : List PC.S44) (j : Nat) (hj : j < g.length) : sumP n (g.take (j + 1)) = wrap64 (sumP n (g.take j) + szP (g.getD j PC.z44)) := by
  have : g.take (j + 1) = g.take j ++ [g.getD j PC.z44] := by
    rw [List.take_add_one, List.getElem?_eq_getElem hj]
    simp [List.getD_eq_getElem?_getD, List.getElem?_eq_getElem hj]
  rw [this, sumP_snoc]

theorem S_box {α : Type} {d : Kd α} {e base b : Nat} {ok : Nat → Prop} {W : World} {v : Value} {xs : List α} (h : Kd.S d e W base ok v xs) (hb : b < base) (u : Value) : Kd.S d e (W.setCell ⟨b, 0, none⟩ u) base ok v xs :=
  Kd.S_mono (Kd.S_far (p := ⟨b, 0, none⟩) (Kd.S_bound h) (fun k hk => by have := hk.2.1; show k ≠ b; omega) u) (fun _ hk => hk.1)
theorem R_box {α : Type} {d : Kd α} {e base b : Nat} {ok : Nat → Prop} {W : World} {v : Value} {xs : List α} (h : Kd.R d e W base ok v xs) (hb : b < base) (u : Value) : Kd.R d e (W.setCell ⟨b, 0, none⟩ u) base ok v xs :=
  Kd.R_mono (Kd.R_far (p := ⟨b, 0, none⟩) (Kd.R_bound h) (fun k hk => by have := hk.2.1; show k ≠ b; omega) u) (fun _ hk => hk.1)
theorem S_rowed {α : Type} {d : Kd α} {e base : Nat} {ok : Nat → Prop} {W W' : World} {row : Option Nat} {v : Value} {xs : List α} (h : Kd.S d e W base ok v xs) (hg : W.grownBy W' row) (hr : ∀ r, row = some r → ∃ o : Obj, W.heap[r]? = some o ∧ o.isCells = false) : Kd.S d e W' base ok v xs :=
  Kd.S_mono (Kd.S_grown (Kd.S_bound h) hg (fun k hk e => by
    obtain ⟨_, _, _, q, _, cells, hc⟩ := hk
    obtain ⟨o, ho, hn⟩ := hr k e.symm
    rw [hc] at ho
    cases ho
    cases hn)) (fun _ hk => hk.1)

/-- What the loop keeps: the rows so far, the part, its bytes. M: from where on the loop's own memory lies. -/
def SInv (w : World) (M Sb O Pb Nb B : Nat) (size : Int) (st : SSt) (W : World) : Prop :=
  ∃ v vp, Boxed W O 32 v ∧ Kd.S (Kd.slice 44 PC.k44) 22 W M (fun k => some k ≠ vp.ownBlock) v st.1 ∧ Boxed W Pb 22 vp ∧ Kd.R PC.k44 44 W M (fun _ => True) vp st.2.1
    ∧ Boxed W Nb 3 (.int .i64 st.2.2) ∧ Boxed W Sb 3 (.int .i64 size) ∧ (∃ vb, Boxed W B 22 vb) ∧ Below w.heap.size w W ∧ M ≤ W.heap.size

section
variable {w : World} {M Sb O Pb Nb B : Nat} {size : Int} {st : SSt} {W W1 : World}

theorem SInv.own {β : Type} (f : β → SSt) (hs : w.heap.size ≤ M) : OwnFrom M (fun (x : β) W => SInv w M Sb O Pb Nb B size (f x) W) := by
  rintro x X Y row ⟨v, vp, h1, h2, h3, h4, h5, h6, ⟨vb, h7⟩, h8, h9⟩ hg hr
  have hr2 : ∀ r, row = some r → ∃ o : Obj, X.heap[r]? = some o ∧ o.isCells = false := fun r e => (hr r e).2
  exact ⟨v, vp, Boxed.rowed h1 hg hr2, S_rowed h2 hg hr2, Boxed.rowed h3 hg hr2, Kd.R_mono (Kd.R_grown (Kd.R_bound h4) hg (fun k hk e => by
    obtain ⟨_, _, _, q, _, cells, hc⟩ := hk
    obtain ⟨o, ho, hn⟩ := hr2 k e.symm
    rw [hc] at ho
    cases ho
    cases hn)) (fun _ _ => trivial), Boxed.rowed h5 hg hr2, Boxed.rowed h6 hg hr2, ⟨vb, Boxed.rowed h7 hg hr2⟩, h8.grown hg h8.size (fun k e => Nat.le_trans hs (hr k e).1), Nat.le_trans h9 hg.size⟩

theorem SInv.stays {β : Type} (f : β → SSt) (hB : w.heap.size ≤ B) (hM : B < M) (n1 : O ≠ B) (n2 : Pb ≠ B) (n3 : Nb ≠ B) (n4 : Sb ≠ B) : Stays (StepB B) (fun (x : β) W => SInv w M Sb O Pb Nb B size (f x) W) := by
  rintro x X Y ⟨v, vp, h1, h2, h3, h4, h5, h6, ⟨vb, h7⟩, h8, h9⟩ (⟨k, rfl⟩ | ⟨u, rfl⟩)
  · exact ⟨v, vp, h1, Kd.S_drewN h2 k, h3, Kd.R_drewN h4 k, h5, h6, ⟨vb, h7⟩, below_drewN h8 k, h9⟩
  · exact ⟨v, vp, h1.other n1 _, S_box h2 hM _, h3.other n2 _, R_box h4 hM _, h5.other n3 _, h6.other n4 _, ⟨_, h7.set _⟩, h8.setCell (p := ⟨B, 0, none⟩) hB _, by simpa using h9⟩

/-- The same, and what a round keeps since it began. -/
def SAll (w : World) (M Sb O Pb Nb B : Nat) (size : Int) (W0 : World) (st : SSt) (W : World) : Prop :=
  SInv w M Sb O Pb Nb B size st W ∧ KeepsFrom M W0 W ∧ KeepB w.heap.size B W0 W
/-- Where the variables lie. -/
structure Lies (w : World) (M Sb O Pb Nb B : Nat) : Prop where
  a : w.heap.size ≤ Sb
  b : Sb < O
  c : O < Pb
  d : Pb < Nb
  e : Nb < B
  f : B < M

theorem SAll.setN {W0 : World} (L : Lies w M Sb O Pb Nb B) (h : SAll w M Sb O Pb Nb B size W0 st W) (n : Int) : SAll w M Sb O Pb Nb B size W0 (st.1, st.2.1, n) (W.setCell ⟨Nb, 0, none⟩ (.int .i64 n)) := by
  obtain ⟨l1, l2, l3, l4, l5, l6⟩ := L
  obtain ⟨⟨v, vp, h1, h2, h3, h4, h5, h6, ⟨vb, h7⟩, h8, h9⟩, k1, k2⟩ := h
  refine ⟨⟨v, vp, h1.other (by omega) _, S_box h2 (by omega) _, h3.other (by omega) _, R_box h4 (by omega) _, h5.set _, h6.other (by omega) _, ⟨_, h7.other (by omega) _⟩, h8.setCell (p := ⟨Nb, 0, none⟩) (by show w.heap.size ≤ Nb; omega) _, by simpa using h9⟩, k1.trans ((KeepsOthers.setCell _ _ _).from _), k2.1.setCell (p := ⟨Nb, 0, none⟩) (by show w.heap.size ≤ Nb; omega) _, ?_⟩
  exact (show _ = _ from h7.other (by omega) _).trans ((show _ = _ from h7).symm.trans k2.2)
theorem SAll.alloc {W0 : World} (hM : w.heap.size ≤ M) (h : SAll w M Sb O Pb Nb B size W0 st W) (o : Obj) : SAll w M Sb O Pb Nb B size W0 st (W.alloc o) := by
  obtain ⟨⟨v, vp, h1, h2, h3, h4, h5, h6, ⟨vb, h7⟩, h8, h9⟩, k1, k2⟩ := h
  refine ⟨⟨v, vp, h1.alloc _, Kd.S_alloc h2 _, h3.alloc _, Kd.R_alloc h4 _, h5.alloc _, h6.alloc _, ⟨_, h7.alloc _⟩, h8.alloc h8.size _, by simp; omega⟩, k1.trans ((KeepsOthers.alloc _ _).from _), k2.1.alloc (by omega) _, ?_⟩
  exact (show _ = _ from h7.alloc _).trans ((show _ = _ from h7).symm.trans k2.2)
theorem flush_close {W0 w3 : World} {v vp v1 vb : Value} (L : Lies w M Sb O Pb Nb B)
    (H : Boxed W O 32 v ∧ Kd.S (Kd.slice 44 PC.k44) 22 W M (fun k => some k ≠ vp.ownBlock) v st.1 ∧ Boxed W Pb 22 vp ∧ Kd.R PC.k44 44 W M (fun _ => True) vp st.2.1
    ∧ Boxed W Nb 3 (.int .i64 st.2.2) ∧ Boxed W Sb 3 (.int .i64 size) ∧ Boxed W B 22 vb ∧ Below w.heap.size w W ∧ M ≤ W.heap.size ∧ KeepsFrom M W0 W ∧ KeepB w.heap.size B W0 W)
    (hS1 : Kd.S (Kd.slice 44 PC.k44) 22 w3 M (fun _ => True) v1 (st.1 ++ [st.2.1])) (hg : W.grownBy w3 v.ownBlock) :
    Boxed w3 O 32 v ∧ Boxed (w3.setCell ⟨O, 0, none⟩ v1) Pb 22 vp ∧ Boxed ((w3.setCell ⟨O, 0, none⟩ v1).setCell ⟨Pb, 0, none⟩ (.slice none 0 0)) Nb 3 (.int .i64 st.2.2)
    ∧ SAll w M Sb O Pb Nb B size W0 (st.1 ++ [st.2.1], [], 0) (((w3.setCell ⟨O, 0, none⟩ v1).setCell ⟨Pb, 0, none⟩ (.slice none 0 0)).setCell ⟨Nb, 0, none⟩ (.int .i64 0)) := by
  obtain ⟨l1, l2, l3, l4, l5, l6⟩ := L
  obtain ⟨h1, h2, h3, h4, h5, h6, h7, h8, h9, k1, k2⟩ := H
  have ne : ∀ {b : Nat}, b < M → some b ≠ v.ownBlock := fun {b} hb e => by have := Kd.S_base h2 b e.symm; omega
  have g1 := h1.kept hg (ne (by omega))
  have g3 := h3.kept hg (ne (by omega))
  have g5 := h5.kept hg (ne (by omega))
  have g6 := h6.kept hg (ne (by omega))
  have g7 := h7.kept hg (ne (by omega))
  have hb : ∀ j, v.ownBlock = some j → w.heap.size ≤ j := fun j e => by have := Kd.S_base h2 j e; omega
  have g8 : Below w.heap.size w w3 := h8.grown hg h8.size hb
  have kk : KeepsFrom M W w3 := (KeepsOthers.of_grownBy hg fun j o ej hj => by
    obtain ⟨cells, hc⟩ := Kd.S_typed h2 j ej
    rw [hc] at hj
    cases hj
    rfl).from _
  refine ⟨g1, g3.other (by omega) _, (g5.other (by omega) _).other (by omega) _, ⟨v1, .slice none 0 0, ((g1.set _).other (by omega) _).other (by omega) _, S_box (S_box (S_box (Kd.S_mono hS1 (fun _ _ => by simp [Value.ownBlock])) (by omega) _) (by omega) _) (by omega) _, ((g3.other (by omega) _).set _).other (by omega) _, Kd.R_nil _ _ _ _ _, ((g5.other (by omega) _).other (by omega) _).set _, ((g6.other (by omega) _).other (by omega) _).other (by omega) _, ⟨vb, ((g7.other (by omega) _).other (by omega) _).other (by omega) _⟩, ?_, ?_⟩, ?_, ?_, ?_⟩
  · exact ((g8.setCell (p := ⟨O, 0, none⟩) (by show w.heap.size ≤ O; omega) _).setCell (p := ⟨Pb, 0, none⟩) (by show w.heap.size ≤ Pb; omega) _).setCell (p := ⟨Nb, 0, none⟩) (by show w.heap.size ≤ Nb; omega) _
  · have := hg.size
    simp
    omega
  · exact (k1.trans kk).trans ((((KeepsOthers.setCell _ _ _).trans (KeepsOthers.setCell _ _ _)).trans (KeepsOthers.setCell _ _ _)).from _)
  · exact (((k2.1.grown hg (Nat.le_trans h8.size (Nat.le_refl _)) hb).setCell (p := ⟨O, 0, none⟩) (by show w.heap.size ≤ O; omega) _).setCell (p := ⟨Pb, 0, none⟩) (by show w.heap.size ≤ Pb; omega) _).setCell (p := ⟨Nb, 0, none⟩) (by show w.heap.size ≤ Nb; omega) _
  · exact (show _ = _ from ((g7.other (show B ≠ O by omega) v1).other (show B ≠ Pb by omega) (.slice none 0 0)).other (show B ≠ Nb by omega) (.int .i64 0)).trans ((show _ = _ from h7).symm.trans k2.2)

theorem append_close {W0 w3 : World} {v vp v2 vb : Value} {xs : List PC.S44} (L : Lies w M Sb O Pb Nb B)
    (H : Boxed W O 32 v ∧ Kd.S (Kd.slice 44 PC.k44) 22 W M (fun k => some k ≠ vp.ownBlock) v st.1 ∧ Boxed W Pb 22 vp ∧ Kd.R PC.k44 44 W M (fun _ => True) vp st.2.1
    ∧ Boxed W Nb 3 (.int .i64 st.2.2) ∧ Boxed W Sb 3 (.int .i64 size) ∧ Boxed W B 22 vb ∧ Below w.heap.size w W ∧ M ≤ W.heap.size ∧ KeepsFrom M W0 W ∧ KeepB w.heap.size B W0 W)
    (hR2 : Kd.R PC.k44 44 w3 M (fun _ => True) v2 (st.2.1 ++ xs)) (hg : W.grownBy w3 vp.ownBlock) (hat : v2.ownBlock = vp.ownBlock ∨ v2.ownBlock = some W.heap.size) :
    Boxed w3 Pb 22 vp ∧ SAll w M Sb O Pb Nb B size W0 (st.1, st.2.1 ++ xs, st.2.2) (w3.setCell ⟨Pb, 0, none⟩ v2) := by
  obtain ⟨l1, l2, l3, l4, l5, l6⟩ := L
  obtain ⟨h1, h2, h3, h4, h5, h6, h7, h8, h9, k1, k2⟩ := H
  have ne : ∀ {b : Nat}, b < M → some b ≠ vp.ownBlock := fun {b} hb e => by have := Kd.R_base h4 b e.symm; omega
  have g1 := h1.kept hg (ne (by omega))
  have g3 := h3.kept hg (ne (by omega))
  have g5 := h5.kept hg (ne (by omega))
  have g6 := h6.kept hg (ne (by omega))
  have g7 := h7.kept hg (ne (by omega))
  have hb : ∀ j, vp.ownBlock = some j → w.heap.size ≤ j := fun j e => by have := Kd.R_base h4 j e; omega
  have g8 : Below w.heap.size w w3 := h8.grown hg h8.size hb
  have kk : KeepsFrom M W w3 := (KeepsOthers.of_grownBy hg fun j o ej hj => by
    obtain ⟨cells, hc⟩ := Kd.R_typed h4 j ej
    rw [hc] at hj
    cases hj
    rfl).from _
  have g2 : Kd.S (Kd.slice 44 PC.k44) 22 w3 M (fun k => True ∧ some k ≠ v2.ownBlock) v st.1 := Kd.S_after (Kd.S_mono h2 (fun _ hk => ⟨trivial, hk⟩)) hg (by
    rcases hat with hat | hat
    · exact .inl hat
    · exact .inr ⟨_, hat, Nat.le_refl _⟩)
  refine ⟨g3, ⟨v, v2, g1.other (by omega) _, S_box (Kd.S_mono g2 (fun _ hk => hk.2)) (by omega) _, g3.set _, R_box hR2 (by omega) _, g5.other (by omega) _, g6.other (by omega) _, ⟨vb, g7.other (by omega) _⟩, g8.setCell (p := ⟨Pb, 0, none⟩) (by show w.heap.size ≤ Pb; omega) _, ?_⟩, ?_, ?_, ?_⟩
  · have := hg.size
    simp
    omega
  · exact (k1.trans kk).trans ((KeepsOthers.setCell _ _ _).from _)
  · exact (k2.1.grown hg h8.size hb).setCell (p := ⟨Pb, 0, none⟩) (by show w.heap.size ≤ Pb; omega) _
  · exact (show _ = _ from g7.other (show B ≠ Pb by omega) v2).trans ((show _ = _ from h7).symm.trans k2.2)
end

end Go.Proofs.Ytehoojmalhloeaa.CM

/-! Entries in parts (compact.Split): the walk. Its conditions are that what it reads can be read and is not too long for memory. -/
namespace Go.Proofs.Ytehoojmalhloeaa.CM
open Go.RowKit Go.Proofs.YtehoojmalhloeaaW.PrintWords
set_option linter.unusedVariables false
set_option linter.unusedSimpArgs false
set_option maxRecDepth 100000
attribute [local go_sem] Oper.semAt_some

set_option maxHeartbeats 8000000 in
theorem split_w (A : Option Addr) (c : Nat) (l : List PC.S44) (size : Int) (w : World) (hr : Kd.C PC.k44 w A l.length l) (hc : l.length ≤ c)
    (hbig : l.length * 48 ≤ 140737488355328 - 4096) (hsize : 1 ≤ size) (hup : risesB l = true) :
    Calls Try.prog 27 #[.slice A l.length c, .int .i64 size] w fun e w' => ∃ v, e = .returned (.tuple #[v, .int .i64 0]) ∧ Kd.S (Kd.slice 44 PC.k44) 22 w' w.heap.size (fun _ => True) v (splitL size l) ∧ Below w.heap.size w w' := by
  refine (callsIn_wide (n := 3)).1 ?_
  refine callsIn_of_wp_marks Try.func27 rfl trivial ?_ rfl
  refine wpIn_wide.2 ?_
  simp only [Try.ntmps27, List.size_toArray, List.length_cons, List.length_nil, Nat.reduceAdd, Nat.reduceSub, Array.replicate_succ, Array.replicate_zero, List.push_toArray, List.append_toArray, List.nil_append, List.cons_append]
  have HR := Lib.hid hr
  have HU := Lib.hid hup
  have dz : decide (size < 1) = false := decide_eq_false (by omega)
  clear hr hup
  go_wp2_with (first | (go_at_call 64; refine (rises_w A c l _ (keepC HR.out (Nat.le_refl _) ((Below.refl w.heap.size w).alloc (Nat.le_refl _) _)) hc).mono ?_; rintro e w1 ⟨rfl, hb1⟩; rw [HU.out]) | (go_at_call 65; refine (users_w _ A l.length c rfl _).mono ?_; rintro e w2 ⟨rfl, rfl⟩))
  have hs1 : w.heap.size + 1 ≤ w1.heap.size := by have := hb1.size; simp at this; omega
  obtain ⟨W3, hW3, hs3, hB3, x1, x2, x3, x4, x5⟩ : ∃ W3, (((w1.alloc (Obj.cells #[Value.slice none 0 0] 32)).alloc (Obj.cells #[Value.slice none 0 0] 22)).alloc (Obj.cells #[Value.int IntKind.i64 0] 3)).alloc (Obj.cells #[Value.slice A l.length c] 22) = W3 ∧ W3.heap.size = w1.heap.size + 4 ∧ Below w.heap.size w W3
      ∧ Boxed W3 w.heap.size 3 (.int .i64 size) ∧ Boxed W3 w1.heap.size 32 (.slice none 0 0) ∧ Boxed W3 (w1.heap.size + 1) 22 (.slice none 0 0) ∧ Boxed W3 (w1.heap.size + 1 + 1) 3 (.int .i64 0) ∧ Boxed W3 (w1.heap.size + 1 + 1 + 1) 22 (.slice A l.length c) := by
    have bn : ∀ (W : World) (n t : Nat) (v : Value), W.heap.size = n → Boxed (W.alloc (.cells #[v] t)) n t v := fun W n t v h => h ▸ Boxed.new W t v
    have y1 : Boxed (w.alloc (.cells #[.int .i64 size] 3)) w.heap.size 3 (.int .i64 size) := bn _ _ _ _ rfl
    have z1 : Boxed w1 w.heap.size 3 (.int .i64 size) := (hb1.block _ (by simp)).trans y1
    refine ⟨_, rfl, by simp, ((((((Below.refl w.heap.size w).alloc (Nat.le_refl _) _).trans (hb1.mono (by simp))).alloc (by omega) _).alloc (by simp; omega) _).alloc (by simp; omega) _).alloc (by simp; omega) _, ?_, ?_, ?_, ?_, ?_⟩
    · exact (((z1.alloc _).alloc _).alloc _).alloc _
    · exact (((bn _ _ _ _ rfl).alloc _).alloc _).alloc _
    · exact ((bn _ _ _ _ (by simp)).alloc _).alloc _
    · exact (bn _ _ _ _ (by simp)).alloc _
    · exact bn _ _ _ _ (by simp)
  rw [hW3]
  clear hW3 hb1
  have hs4 : W3.heap.size ≤ w1.heap.size + 4 := by omega
  have hs5 : w1.heap.size + 4 ≤ W3.heap.size := by omega
  clear hs3
  have hsz : w.heap.size ≤ W3.heap.size := by omega
  have lay : Lies w W3.heap.size w.heap.size w1.heap.size (w1.heap.size + 1) (w1.heap.size + 1 + 1) (w1.heap.size + 1 + 1 + 1) := ⟨Nat.le_refl _, by omega, by omega, by omega, by omega, by omega⟩
  have HI := users1_w 2 (by omega) w W3 (w1.heap.size + 1 + 1 + 1) (by omega) (by omega) hB3 A c l HR.out hc x5
  have Lay := Lib.hid lay
  clear lay
  refine wpIn_wide.1 (range_rel (n := 3) rfl (by omega) (gf := 84) (lb := #[.pointer (some ⟨w1.heap.size + 1 + 1 + 1, 0, none⟩)]) rfl trivial (enters_of Try.func84 (by kernel_rfl) rfl) HI (fun x => rfl)
    ?hRel ?hKt ?hKb (fun pre W => SInv w W3.heap.size w.heap.size w1.heap.size (w1.heap.size + 1) (w1.heap.size + 1 + 1) (w1.heap.size + 1 + 1 + 1) size (runS size (pre.map Part.kvs)) W) (fun _ _ _ => False)
    (SInv.own _ hsz) (fun _ _ _ _ _ hs _ _ => hs) (SInv.stays _ (by omega) (by omega) (by omega) (by omega) (by omega) (by omega)) (fun _ _ _ _ h _ => h)
    ⟨_, _, x2, Kd.S_nil _ _ _ _ _, x3, Kd.R_nil _ _ _ _ _, x4, x1, ⟨_, x5⟩, hB3, Nat.le_refl _⟩
    (fun x => { tmps := #[.slice A l.length c, .int .i64 size, undef, .pointer (some ⟨w.heap.size, 0, none⟩), .slice none 0 0, .int .i64 0, .pointer (some ⟨w1.heap.size, 0, none⟩), .pointer (some ⟨w1.heap.size + 1, 0, none⟩), .pointer (some ⟨w1.heap.size + 1 + 1, 0, none⟩), .slice x.1.1 x.1.2.2.length x.1.2.1, undef, undef, .bool false, .int .i64 size, .bool false, .bool false, .slice A l.length c, .bool true, .bool false, .slice A l.length c, .func (.func 84) #[] #[.pointer (some ⟨w1.heap.size + 1 + 1 + 1, 0, none⟩)], .slice x.1.1 x.1.2.2.length x.1.2.1, undef, undef, undef, undef, undef, undef, undef, undef, undef, undef, undef, undef, undef, undef, undef, undef, undef, undef, undef, undef, undef, undef, undef, undef, undef, undef, undef, undef, undef, undef, undef, undef, undef, undef, undef, undef], defers := [] }) ?assign ?body ?done ?stop)
  case hRel =>
    rintro X Y (⟨k, rfl⟩ | ⟨u, rfl⟩)
    · exact ⟨Nat.le_refl _, fun _ _ _ h _ => h⟩
    · exact (KeepsOthers.setCell _ _ _).from _
  case hKt => exact fun h k => ⟨h.1.trans k.1, k.2.trans h.2⟩
  case hKb => exact fun X k o o' hk ho hc hw => ⟨belowK_b hsz X k o o' hk ho hc hw, World.putObj_heap_other (by omega)⟩
  case assign =>
    intro l x W K hK
    simp only [Part.encs]
    gi_wp2
    exact hK
  case body =>
    rintro k pre ⟨⟨A1, c1, xs⟩, hC, hc1, hpos⟩ W hI hsp
    dsimp only at hC hc1 hpos
    obtain ⟨st, hst⟩ : ∃ st, runS size (pre.map Part.kvs) = st := ⟨_, rfl⟩
    have hlen : st.2.1.length + xs.length ≤ l.length ∧ st.1.length + 1 ≤ l.length := by
      have e1 := pre_len l _ hsp
      have e2 := runS_flat size (pre.map Part.kvs) ([], [], 0)
      have e3 := runS_len size (pre.map Part.kvs) ([], [], 0)
      rw [show (List.map Part.kvs pre).foldl (stepS size) ([], [], 0) = st from hst] at e2 e3
      have e4 := congrArg List.length e2
      have e5 : (List.map Part.kvs pre).length + 1 ≤ (groups l).length := by
        have := hsp.length_le
        simpa using this
      have e6 := groups_len l
      simp only [List.map_append, List.map_cons, List.map_nil, List.flatten_append, List.length_append, List.flatten_cons, List.flatten_nil, List.append_nil, List.length_nil, List.nil_append] at e1 e3 e4
      have e7 : (Part.kvs (⟨(A1, c1, xs), hC, hc1, hpos⟩ : Part w)) = xs := rfl
      rw [e7] at e1
      constructor <;> omega
    simp only [hst] at hI
    have HI0 : SAll w W3.heap.size w.heap.size w1.heap.size (w1.heap.size + 1) (w1.heap.size + 1 + 1) (w1.heap.size + 1 + 1 + 1) size W (st.1, st.2.1, st.2.2) W := ⟨hI, KeepsFrom.refl _ _, Below.refl _ _, rfl⟩
    obtain ⟨v, vp, h1, h2, h3, h4, h5, h6, ⟨vb, h7⟩, h8, h9⟩ := hI
    obtain ⟨Ao, co, hvo, _⟩ := Kd.S_reads h2
    subst hvo
    obtain ⟨Ap, cp, hvp, _⟩ := Kd.R_reads h4
    subst hvp
    have q5 := h5.cell
    have q6 := h6.cell
    have HC := Lib.hid hC
    have HL := Lib.hid hlen
    have hxl : xs.length ≤ 2932031007402 := by omega
    have hst := Lib.hid hst
    have Hc := Lib.hid hc1
    have Hp := Lib.hid hpos
    dsimp only
    by_cases hfl : size ≤ st.2.2
    · have dfl : decide (size ≤ st.2.2) = true := decide_eq_true hfl
      have hF := Lib.hid (show stepF size st = (st.1 ++ [st.2.1], [], 0) from if_pos hfl)
      obtain ⟨v1, w3, hrun, hS1, hg⟩ := run_append32 32 h2 h4 h9 (by omega)
      obtain ⟨A4, k4, hv4⟩ := Kd.S_slice hS1
      rw [show (st.1 ++ [st.2.1]).length = st.1.length + 1 by simp] at hv4
      subst hv4
      obtain ⟨Z1, Z2, Z3, Z4⟩ := flush_close Lay.out ⟨h1, h2, h3, h4, h5, h6, h7, h8, h9, KeepsFrom.refl _ _, Below.refl _ _, rfl⟩ hS1 hg
      have q1 := h1.cell
      have q3 := h3.cell
      have al1 : (W.alloc (.cells #[Value.slice Ap st.2.1.length cp] 22)).cell? ⟨w1.heap.size, 0, none⟩ = some (.slice Ao st.1.length co) := (h1.alloc _).cell
      have r1 := Z1.cell
      have r2 := Z1.frozen
      have r3 := Z2.cell
      have r4 := Z2.frozen
      have r5 := Z3.cell
      have r6 := Z3.frozen
      have G := Lib.hid Z4
      clear h1 h2 h3 h4 h5 h6 h7 h8 h9 HI0 HI x1 x2 x3 x4 x5 hlen hg hS1 Z1 Z2 Z3 Z4 hsp
      gi_wp2_with (gi_at_builtin; refine wpListIn_append_run _ rfl (.tmp 25) (.tmp 27) 32 rfl _ _ _ _ rfl rfl hrun ?_; clear hrun)

      gi_loopw [31] (fun t wr => ∃ j : Nat, j ≤ xs.length ∧ t = .int .i64 (j : Int) ∧ Hid (SAll w W3.heap.size w.heap.size w1.heap.size (w1.heap.size + 1) (w1.heap.size + 1 + 1) (w1.heap.size + 1 + 1 + 1) size W ((st.1 ++ [st.2.1]), ([] : List PC.S44), sumP (0 : Int) (xs.take j)) wr)) (fun t _ => xs.length - (intOf t).toNat)
      case atStart => exact ⟨0, by omega, rfl, Lib.hid G.out⟩
      case round =>
        obtain ⟨j, hj, rfl, HA⟩ := hrel
        by_cases hlt : j < xs.length
        · obtain ⟨⟨u, up, i1, i2, i3, i4, i5, i6, ⟨ub, i7⟩, i8, i9⟩, j1, j2⟩ := HA.out
          obtain ⟨ad, e, X⟩ := at44 (keepC HC.out (Nat.le_refl _) i8) j hlt
          subst e
          obtain ⟨kv, hkv⟩ : ∃ kv, xs.getD j PC.z44 = kv := ⟨_, rfl⟩
          rw [hkv] at X
          obtain ⟨x0, x1, x2, x3⟩ := X
          have hsum := sumP_take (0 : Int) xs j hlt
          rw [hkv] at hsum
          have hA1 := SAll.alloc (by omega) HA.out (.cells #[.string kv.f0.f0, .int .u64 kv.f0.f1, .int .i64 kv.f0.f2, .string kv.f1] 44)
          obtain ⟨Wk, hWk⟩ : ∃ Wk, wr.alloc (.cells #[.string kv.f0.f0, .int .u64 kv.f0.f1, .int .i64 kv.f0.f2, .string kv.f1] 44) = Wk := ⟨_, rfl⟩
          have q0 : Wk.cell? ⟨wr.heap.size, 0, none⟩ = some (.string kv.f0.f0) := by rw [← hWk]; exact cell_top rfl rfl
          have q1 : Wk.cell? ⟨wr.heap.size, 1, none⟩ = some (.int .u64 kv.f0.f1) := by rw [← hWk]; exact cell_top rfl rfl
          have q2 : Wk.cell? ⟨wr.heap.size, 2, none⟩ = some (.int .i64 kv.f0.f2) := by rw [← hWk]; exact cell_top rfl rfl
          have q3 : Wk.cell? ⟨wr.heap.size, 3, none⟩ = some (.string kv.f1) := by rw [← hWk]; exact cell_top rfl rfl
          rw [hWk] at hA1
          have i5b := i5.alloc (.cells #[.string kv.f0.f0, .int .u64 kv.f0.f1, .int .i64 kv.f0.f2, .string kv.f1] 44)
          rw [hWk] at i5b
          have q5 := i5b.cell
          have q6 := i5b.frozen
          have hw1 : IntKind.i64.wrap ((j : Int) + 1) = (j : Int) + 1 := by rw [IntWalk.i64_in _ (by omega)]
          have p0 : (j < xs.length) = True := eq_true hlt
          have HA1 := Lib.hid (And.intro hA1 hsum)
          clear i1 i2 i3 i4 i5 i6 i7 i8 i9 j1 j2 i5b hA1 hsum hkv
          gi_wp2_with fail
          refine ⟨⟨j + 1, by omega, by simp, Lib.hid ?_⟩, by simp [intOf]; omega⟩
          have Z := SAll.setN Lay.out HA1.out.1 (wrap64 (sumP (0 : Int) (xs.take j) + szP kv))
          rw [HA1.out.2]
          simpa [szP] using Z
        · have htk : xs.take j = xs := List.take_of_length_le (by omega)
          obtain ⟨⟨u, up, i1, i2, i3, i4, i5, i6, ⟨ub, i7⟩, i8, i9⟩, j1, j2⟩ := HA.out
          obtain ⟨v2, w3, hrun, hR3, hg3, hat3⟩ := run_append44 (c := c1) 22 i4 (keepC HC.out (Nat.le_refl _) i8) (by have := HL.out.1; show (([] : List PC.S44).length + xs.length) * 48 ≤ _; simp; omega) i9
          obtain ⟨Z1, Z2⟩ := append_close Lay.out ⟨i1, i2, i3, i4, i5, i6, i7, i8, i9, j1, j2⟩ hR3 hg3 hat3
          obtain ⟨Ap, cp, hup⟩ := Kd.R_slice i4
          subst hup
          obtain ⟨A2, k2, hv2⟩ := Kd.R_slice hR3
          subst hv2
          have q3 := i3.cell
          have r1 := Z1.cell
          have r2 := Z1.frozen
          rw [htk] at Z2
          simp only [List.length_append, List.length_nil, Nat.zero_add] at Z2
          have HZ := Lib.hid Z2
          clear i1 i2 i3 i4 i5 i6 i7 i8 i9 j1 j2 Z1 Z2 hR3 hg3 hat3 htk
          gi_wp2_with (gi_at_builtin; refine wpListIn_append_run _ rfl (.tmp 47) (.tmp 48) 22 rfl _ _ _ _ rfl rfl hrun ?_; clear hrun)
          obtain ⟨y1, y2, y3⟩ := HZ.out
          refine ⟨y2, y3, ?_⟩
          show SInv _ _ _ _ _ _ _ _ (runS size (List.map Part.kvs (pre ++ [_]))) _
          rw [List.map_append, List.map_cons, List.map_nil, runS_snoc, hst.out]
          show SInv _ _ _ _ _ _ _ _ (stepS size st xs) _
          rw [show stepS size st xs = (st.1 ++ [st.2.1], [] ++ xs, sumP 0 xs) by unfold stepS; rw [hF.out]]
          simpa using y1

    · have dfl : decide (size ≤ st.2.2) = false := decide_eq_false hfl
      have hF := Lib.hid (show stepF size st = st from if_neg hfl)
      have HI := Lib.hid HI0
      clear h1 h2 h3 h4 h5 h6 h7 h8 h9 HI0 x1 x2 x3 x4 x5 hlen hsp
      gi_wp2_with fail

      gi_loopw [31] (fun t wr => ∃ j : Nat, j ≤ xs.length ∧ t = .int .i64 (j : Int) ∧ Hid (SAll w W3.heap.size w.heap.size w1.heap.size (w1.heap.size + 1) (w1.heap.size + 1 + 1) (w1.heap.size + 1 + 1 + 1) size W (st.1, st.2.1, sumP st.2.2 (xs.take j)) wr)) (fun t _ => xs.length - (intOf t).toNat)
      case atStart => exact ⟨0, by omega, rfl, Lib.hid HI.out⟩
      case round =>
        obtain ⟨j, hj, rfl, HA⟩ := hrel
        by_cases hlt : j < xs.length
        · obtain ⟨⟨u, up, i1, i2, i3, i4, i5, i6, ⟨ub, i7⟩, i8, i9⟩, j1, j2⟩ := HA.out
          obtain ⟨ad, e, X⟩ := at44 (keepC HC.out (Nat.le_refl _) i8) j hlt
          subst e
          obtain ⟨kv, hkv⟩ : ∃ kv, xs.getD j PC.z44 = kv := ⟨_, rfl⟩
          rw [hkv] at X
          obtain ⟨x0, x1, x2, x3⟩ := X
          have hsum := sumP_take st.2.2 xs j hlt
          rw [hkv] at hsum
          have hA1 := SAll.alloc (by omega) HA.out (.cells #[.string kv.f0.f0, .int .u64 kv.f0.f1, .int .i64 kv.f0.f2, .string kv.f1] 44)
          obtain ⟨Wk, hWk⟩ : ∃ Wk, wr.alloc (.cells #[.string kv.f0.f0, .int .u64 kv.f0.f1, .int .i64 kv.f0.f2, .string kv.f1] 44) = Wk := ⟨_, rfl⟩
          have q0 : Wk.cell? ⟨wr.heap.size, 0, none⟩ = some (.string kv.f0.f0) := by rw [← hWk]; exact cell_top rfl rfl
          have q1 : Wk.cell? ⟨wr.heap.size, 1, none⟩ = some (.int .u64 kv.f0.f1) := by rw [← hWk]; exact cell_top rfl rfl
          have q2 : Wk.cell? ⟨wr.heap.size, 2, none⟩ = some (.int .i64 kv.f0.f2) := by rw [← hWk]; exact cell_top rfl rfl
          have q3 : Wk.cell? ⟨wr.heap.size, 3, none⟩ = some (.string kv.f1) := by rw [← hWk]; exact cell_top rfl rfl
          rw [hWk] at hA1
          have i5b := i5.alloc (.cells #[.string kv.f0.f0, .int .u64 kv.f0.f1, .int .i64 kv.f0.f2, .string kv.f1] 44)
          rw [hWk] at i5b
          have q5 := i5b.cell
          have q6 := i5b.frozen
          have hw1 : IntKind.i64.wrap ((j : Int) + 1) = (j : Int) + 1 := by rw [IntWalk.i64_in _ (by omega)]
          have p0 : (j < xs.length) = True := eq_true hlt
          have HA1 := Lib.hid (And.intro hA1 hsum)
          clear i1 i2 i3 i4 i5 i6 i7 i8 i9 j1 j2 i5b hA1 hsum hkv
          gi_wp2_with fail
          refine ⟨⟨j + 1, by omega, by simp, Lib.hid ?_⟩, by simp [intOf]; omega⟩
          have Z := SAll.setN Lay.out HA1.out.1 (wrap64 (sumP st.2.2 (xs.take j) + szP kv))
          rw [HA1.out.2]
          simpa [szP] using Z
        · have htk : xs.take j = xs := List.take_of_length_le (by omega)
          obtain ⟨⟨u, up, i1, i2, i3, i4, i5, i6, ⟨ub, i7⟩, i8, i9⟩, j1, j2⟩ := HA.out
          obtain ⟨v2, w3, hrun, hR3, hg3, hat3⟩ := run_append44 (c := c1) 22 i4 (keepC HC.out (Nat.le_refl _) i8) (by have := HL.out.1; show (st.2.1.length + xs.length) * 48 ≤ _; skip; omega) i9
          obtain ⟨Z1, Z2⟩ := append_close Lay.out ⟨i1, i2, i3, i4, i5, i6, i7, i8, i9, j1, j2⟩ hR3 hg3 hat3
          obtain ⟨Ap, cp, hup⟩ := Kd.R_slice i4
          subst hup
          obtain ⟨A2, k2, hv2⟩ := Kd.R_slice hR3
          subst hv2
          have q3 := i3.cell
          have r1 := Z1.cell
          have r2 := Z1.frozen
          rw [htk] at Z2
          simp only [List.length_append, List.length_nil, Nat.zero_add] at Z2
          have HZ := Lib.hid Z2
          clear i1 i2 i3 i4 i5 i6 i7 i8 i9 j1 j2 Z1 Z2 hR3 hg3 hat3 htk
          gi_wp2_with (gi_at_builtin; refine wpListIn_append_run _ rfl (.tmp 47) (.tmp 48) 22 rfl _ _ _ _ rfl rfl hrun ?_; clear hrun)
          obtain ⟨y1, y2, y3⟩ := HZ.out
          refine ⟨y2, y3, ?_⟩
          show SInv _ _ _ _ _ _ _ _ (runS size (List.map Part.kvs (pre ++ [_]))) _
          rw [List.map_append, List.map_cons, List.map_nil, runS_snoc, hst.out]
          show SInv _ _ _ _ _ _ _ _ (stepS size st xs) _
          rw [show stepS size st xs = (st.1, st.2.1 ++ xs, sumP st.2.2 xs) by unfold stepS; rw [hF.out]]
          simpa using y1

  case done =>
    rintro D ys W hD hS ⟨v, vp, h1, h2, h3, h4, h5, h6, ⟨vb, h7⟩, h8, h9⟩ hK
    obtain ⟨st, hst⟩ : ∃ st, runS size (groups l) = st := ⟨_, rfl⟩
    rw [hS, hst] at h2 h4 h5
    have hsp : splitL size l = if st.2.1 = [] then st.1 else st.1 ++ [st.2.1] := by
      unfold splitL
      rw [hst]
    have hlen : st.1.length ≤ l.length := by
      have e3 := runS_len size (groups l) ([], [], 0)
      rw [show (groups l).foldl (stepS size) ([], [], 0) = st from hst] at e3
      have e6 := groups_len l
      simp only [List.length_nil] at e3
      omega
    obtain ⟨Ao, co, hvo, _⟩ := Kd.S_reads h2
    subst hvo
    obtain ⟨Ap, cp, hvp, _⟩ := Kd.R_reads h4
    subst hvp
    have q1 := h1.cell
    have q3 := h3.cell
    by_cases hp : st.2.1 = []
    · have dp : decide (0 < st.2.1.length) = false := by rw [hp]; rfl
      have hm : Kd.S (Kd.slice 44 PC.k44) 22 (W.putObj D (.deferred none)) w.heap.size (fun _ => True) (.slice Ao st.1.length co) (splitL size l) := by
        rw [hsp, if_pos hp]
        exact Kd.S_mono (Kd.S_lower (S_rowed h2 (grownBy_putObj' W D (.deferred none)) (fun r e => by cases e; exact ⟨_, hK, rfl⟩)) hsz) (fun _ _ => trivial)
      have HH := Lib.hid (And.intro hm (And.intro h8 (And.intro hD hK)))
      clear h1 h2 h3 h4 h5 h6 h7 h8 h9 hS hD hK x1 x2 x3 x4 x5 hm hsp hst HI hp
      gi_wp2
      go_wp2_with fail
      refine ⟨by simp, .inl ⟨_, _, rfl, run_takeDeferred HH.out.2.2.2, ?_⟩⟩
      refine ⟨_, results_tmp2 rfl _ _ _, ?_⟩
      exact ⟨_, rfl, HH.out.1, HH.out.2.1.trans (belowK_b (w := W3) hsz W D _ _ HH.out.2.2.1 HH.out.2.2.2 rfl rfl)⟩
    · have dp : decide (0 < st.2.1.length) = true := by
        cases hq : st.2.1 with
        | nil => exact absurd hq hp
        | cons a t => rfl
      obtain ⟨v1, w3, hrun, hS1, hg⟩ := run_append32 32 h2 h4 h9 (by omega)
      obtain ⟨A4, k4, hv4⟩ := Kd.S_slice hS1
      rw [show (st.1 ++ [st.2.1]).length = st.1.length + 1 by simp] at hv4
      subst hv4
      have ne : some w1.heap.size ≠ (Value.slice Ao st.1.length co).ownBlock := fun e => by have := Kd.S_base h2 _ e.symm; omega
      have Z1 := h1.kept hg ne
      have r1 := Z1.cell
      have r2 := Z1.frozen
      have al1 : (W.alloc (.cells #[Value.slice Ap st.2.1.length cp] 22)).cell? ⟨w1.heap.size, 0, none⟩ = some (.slice Ao st.1.length co) := (h1.alloc _).cell
      have hb8 : Below w.heap.size w w3 := h8.grown hg h8.size (fun j e => by have := Kd.S_base h2 j e; omega)
      have hD2 : ∀ X : World, W.heap[D]? = some (.deferred (some [])) → w3.heap[D]? = some (.deferred (some [])) := fun X h => (hg.block D (Array.getElem?_eq_some_iff.1 h).1 (fun e => by
        obtain ⟨cells, hc⟩ := Kd.S_typed h2 D e.symm
        rw [hc] at h
        cases h)).trans h
      have hDK := hD2 W hK
      have hDne : w1.heap.size ≠ D := by omega
      have hDK2 : (w3.setCell ⟨w1.heap.size, 0, none⟩ (.slice A4 (st.1.length + 1) k4)).heap[D]? = some (.deferred (some [])) := (Below.heap_setCell w3 ⟨w1.heap.size, 0, none⟩ _ D (fun e => hDne e.symm)).trans hDK
      have hm0 := S_box (b := w1.heap.size) hS1 (by omega) (.slice A4 (st.1.length + 1) k4)
      have hm : Kd.S (Kd.slice 44 PC.k44) 22 ((w3.setCell ⟨w1.heap.size, 0, none⟩ (.slice A4 (st.1.length + 1) k4)).putObj D (.deferred none)) w.heap.size (fun _ => True) (.slice A4 (st.1.length + 1) k4) (splitL size l) := by
        rw [hsp, if_neg hp]
        exact Kd.S_lower (S_rowed hm0 (grownBy_putObj' _ D (.deferred none)) (fun r e => by cases e; exact ⟨_, hDK2, rfl⟩)) hsz
      have hb9 : Below w.heap.size w (w3.setCell ⟨w1.heap.size, 0, none⟩ (.slice A4 (st.1.length + 1) k4)) := hb8.setCell (p := ⟨w1.heap.size, 0, none⟩) (by show w.heap.size ≤ w1.heap.size; omega) _
      have hc9 := (Z1.set (.slice A4 (st.1.length + 1) k4)).cell
      have HH := Lib.hid (And.intro hm (And.intro hb9 (And.intro hD hDK2)))
      clear h1 h2 h3 h4 h5 h6 h7 h8 h9 hS hD hK x1 x2 x3 x4 x5 hm hsp hst HI hp hm0 hb9 hDK hDK2 hb8 hg hS1 Z1 hD2 ne
      gi_wp2
      have HT := Lib.hid hrun
      go_wp2_with (at_builtin; refine wpList_append_run _ rfl (.tmp 53) (.tmp 55) 32 rfl _ _ _ _ rfl rfl HT.out ?_; clear hrun)
      refine ⟨by simp, .inl ⟨_, _, rfl, run_takeDeferred HH.out.2.2.2, ?_⟩⟩
      refine ⟨_, results_tmp2 rfl _ _ _, ?_⟩
      exact ⟨_, rfl, HH.out.1, HH.out.2.1.trans (belowK_b (w := W3) hsz _ D _ _ HH.out.2.2.1 HH.out.2.2.2 rfl rfl)⟩
  case stop =>
    rintro D c pre W _ _ h _
    exact h.elim

set_option maxHeartbeats 8000000 in
theorem split_no (A : Option Addr) (c : Nat) (l : List PC.S44) (size : Int) (w : World) (hr : Kd.C PC.k44 w A l.length l) (hc : l.length ≤ c) (hsize : 1 ≤ size) (hup : risesB l = false) :
    Calls Try.prog 27 #[.slice A l.length c, .int .i64 size] w fun e w' => e = .returned (.tuple #[.slice none 0 0, .int .i64 160]) ∧ Below w.heap.size w w' := by
  have HR := Lib.hid hr
  have HU := Lib.hid hup
  have dz : decide (size < 1) = false := decide_eq_false (by omega)
  clear hr hup
  go_enter Try.func27, Try.ntmps27
  go_wp2_with (go_at_call 64; refine (rises_w A c l _ (keepC HR.out (Nat.le_refl _) ((Below.refl w.heap.size w).alloc (Nat.le_refl _) _)) hc).mono ?_; rintro e w1 ⟨rfl, hb1⟩; rw [HU.out])
  go_ret2
  exact ⟨rfl, ((Below.refl w.heap.size w).alloc (Nat.le_refl _) _).trans (hb1.mono (by simp))⟩
set_option maxHeartbeats 8000000 in
theorem split_arg (A : Option Addr) (n c : Nat) (size : Int) (w : World) (hsize : size < 1) :
    Calls Try.prog 27 #[.slice A n c, .int .i64 size] w fun e w' => e = .returned (.tuple #[.slice none 0 0, .int .i64 1]) ∧ Below w.heap.size w w' := by
  have dz : decide (size < 1) = true := decide_eq_true hsize
  go_enter Try.func27, Try.ntmps27
  go_wp2
  go_ret2
  exact ⟨rfl, (Below.refl w.heap.size w).alloc (Nat.le_refl _) _⟩

end Go.Proofs.Ytehoojmalhloeaa.CM

/-! The calls at the head of the statements of chapter 19 (awake): they answer true. No condition of their own. -/
namespace Go.Proofs.Ytehoojmalhloeaa.CM
open Go.RowKit Go.Proofs.YtehoojmalhloeaaW.PrintWords
set_option linter.unusedVariables false
set_option linter.unusedSimpArgs false
set_option maxRecDepth 100000

theorem C44_block {W : World} {b t : Nat} {fr : Nat × Nat} {xs : List PC.S44} (h : W.heap[b]? = some (.cells (cells44 xs).toArray t fr)) (hn : xs.length ≤ 9223372036854775807) : Kd.C PC.k44 W (some ⟨b, 0, none⟩) xs.length xs := by
  refine ⟨rfl, hn, fun _ => ⟨_, rfl, fun j p hj => ?_⟩⟩
  obtain ⟨hl, hr⟩ := cells44_reps (R := PC.k44.K W) (fun x => PC.k44_mk W x) xs
  refine ⟨_, PC.k44.K_len (hr j p hj), hr j p hj, fun i u hu => ?_⟩
  rw [List.getElem?_take] at hu
  split at hu
  · rw [List.getElem?_drop] at hu
    exact World.news_of_block h (j * 4 + i) u (by simpa using hu)
  · cases hu

def kA (n k : Int) : PC.S44 := ⟨⟨⟨#[97]⟩, n, k⟩, ⟨#[]⟩⟩
def lA : List PC.S44 := [kA 9 1, kA 7 0, kA 5 1, kA 3 0]
theorem lA_rises : risesB lA = true := by decide +kernel
theorem lA_drop1 : dropL [5, 7] true lA = [kA 9 1, kA 7 0, kA 5 1] := by kernel_rfl
theorem lA_drop2 : dropL [] false lA = [kA 9 1] := by kernel_rfl
theorem lA_split : splitL 1 lA = [lA] := by kernel_rfl

/-- An entry lies in a block, from a cell on. -/
def ElB (W : World) (g o : Nat) (x : PC.S44) : Prop :=
  W.cell? ⟨g, o, none⟩ = some (.string x.f0.f0) ∧ W.cell? ⟨g, o + 1, none⟩ = some (.int .u64 x.f0.f1) ∧ W.cell? ⟨g, o + 2, none⟩ = some (.int .i64 x.f0.f2) ∧ W.cell? ⟨g, o + 3, none⟩ = some (.string x.f1)
theorem ElB.below {W W1 : World} {g o : Nat} {x : PC.S44} (h : ElB W g o x) (hb : Below W.heap.size W W1) : ElB W1 g o x :=
  ⟨(hb.cell (World.block_lt_of_cell? _ _ h.1)).trans h.1, (hb.cell (World.block_lt_of_cell? _ _ h.2.1)).trans h.2.1, (hb.cell (World.block_lt_of_cell? _ _ h.2.2.1)).trans h.2.2.1, (hb.cell (World.block_lt_of_cell? _ _ h.2.2.2)).trans h.2.2.2⟩
theorem ElB.ofC {W : World} {g n : Nat} {xs : List PC.S44} (h : Kd.C PC.k44 W (some ⟨g, 0, none⟩) n xs) (j : Nat) (hj : j < n) : ElB W g (j * 4) (xs.getD j PC.z44) := by
  obtain ⟨ad, e, h0, h1, h2, h3⟩ := at44 h j hj
  cases e
  have e : (Addr.add ⟨g, 0, none⟩ (j * 4)) = ⟨g, j * 4, none⟩ := by
    by_cases h0 : j = 0
    · subst h0; rfl
    · unfold Addr.add
      rw [if_neg (by omega)]
      simp
  rw [e] at h0 h1 h2 h3
  exact ⟨h0, h1, h2, h3⟩

theorem awake19_w (w : World) : Calls Try.prog 22 #[] w fun e w' => e = .returned (.bool true) ∧ Below w.heap.size w w' := by
  obtain ⟨W1, hW1⟩ : ∃ W1, w.alloc (.cells #[.string ⟨#[97]⟩, .int .u64 9, .int .i64 1, .string ⟨#[]⟩, .string ⟨#[97]⟩, .int .u64 7, .int .i64 0, .string ⟨#[]⟩, .string ⟨#[97]⟩, .int .u64 5, .int .i64 1, .string ⟨#[]⟩, .string ⟨#[97]⟩, .int .u64 3, .int .i64 0, .string ⟨#[]⟩] 44) = W1 := ⟨_, rfl⟩
  have hs1 : w.heap.size < W1.heap.size := by rw [← hW1]; simp
  have B1 : Below w.heap.size w W1 := by rw [← hW1]; exact (Below.refl _ _).alloc (Nat.le_refl _) _
  have C1 : Kd.C PC.k44 W1 (some ⟨w.heap.size, 0, none⟩) 4 lA := by
    rw [← hW1]
    exact C44_block (W := w.alloc _) (xs := lA) (World.alloc_heap_new w _) (by decide)
  obtain ⟨W2, hW2⟩ : ∃ W2, W1.alloc (.cells #[.int .u64 5, .int .u64 7] 37) = W2 := ⟨_, rfl⟩
  have B2 : Below W1.heap.size W1 W2 := by rw [← hW2]; exact (Below.refl _ _).alloc (Nat.le_refl _) _
  have C2 : Kd.C (Kd.int .u64) W2 (some ⟨W1.heap.size, 0, none⟩) 2 [5, 7] := by
    rw [← hW2]
    refine ⟨rfl, by decide, fun _ => ⟨_, rfl, fun j p hj => ⟨[.int .u64 p], rfl, rfl, fun i u hu => ?_⟩⟩⟩
    have hi : i = 0 := by
      rcases i with _ | i
      · rfl
      · simp at hu
    subst hi
    obtain rfl : Value.int .u64 p = u := by simpa using hu
    refine World.news_of_block (cs := #[.int .u64 5, .int .u64 7]) (t := 37) (fr := (0, 0)) (World.alloc_heap_new W1 _) (j * 1 + 0) _ ?_
    rcases j with _ | _ | j
    · have : (5 : Int) = p := by simpa using hj
      subst this
      rfl
    · have : (7 : Int) = p := by simpa using hj
      subst this
      rfl
    · simp at hj
  have D1 : Calls Try.prog 24 #[.slice (some ⟨w.heap.size, 0, none⟩) 4 4, .slice (some ⟨W1.heap.size, 0, none⟩) 2 2, .bool true] W2 _ := drop_w (some ⟨w.heap.size, 0, none⟩) 4 lA (some ⟨W1.heap.size, 0, none⟩) 2 [5, 7] true W2 (keepC C1 (Nat.le_refl _) B2) (by decide) C2 (by decide) lA_rises
  have D2 : ∀ X : World, Below W1.heap.size W1 X → Calls Try.prog 24 #[.slice (some ⟨w.heap.size, 0, none⟩) 4 4, .slice none 0 0, .bool false] X _ := fun X hX => drop_w (some ⟨w.heap.size, 0, none⟩) 4 lA none 0 [] false X (keepC C1 (Nat.le_refl _) hX) (by decide) ⟨rfl, by decide, fun h => absurd h (by decide)⟩ (by decide) lA_rises
  have D3 : ∀ X : World, Below W1.heap.size W1 X → Calls Try.prog 27 #[.slice (some ⟨w.heap.size, 0, none⟩) 4 4, .int .i64 1] X _ := fun X hX => split_w (some ⟨w.heap.size, 0, none⟩) 4 lA 1 X (keepC C1 (Nat.le_refl _) hX) (by decide) (by decide) (by decide) lA_rises
  rw [lA_drop1] at D1
  rw [lA_drop2] at D2
  rw [lA_split] at D3
  have H1 := Lib.hid (And.intro hs1 (And.intro B1 (And.intro B2 C1)))
  have HD1 := Lib.hid D1
  have HD2 := Lib.hid D2
  have HD3 := Lib.hid D3
  clear D1 D2 D3 hs1 B1 B2 C1 C2
  go_enter Try.func22, Try.ntmps22
  go_wp2_with fail
  refine HD1.out.mono ?_
  rintro e w3 ⟨v1, rfl, R1, b3⟩
  have B3 := H1.out.2.2.1.trans (b3.mono H1.out.2.2.1.size)
  obtain ⟨g1, k1, hv1, _⟩ := Kd.R_form R1 (by decide)
  subst hv1
  have Ca := (Kd.R_reads' R1).2.2
  have G1 := Lib.hid (And.intro B3 Ca)
  clear B3 Ca R1 b3
  go_wp2_with fail
  refine (HD2.out _ G1.out.1).mono ?_
  rintro e w4 ⟨v2, rfl, R1, b3⟩
  have B4 := G1.out.1.trans (b3.mono G1.out.1.size)
  obtain ⟨g2, k2, hv1, _⟩ := Kd.R_form R1 (by decide)
  subst hv1
  have Cb := (Kd.R_reads' R1).2.2
  have G2 := Lib.hid (And.intro B4 (And.intro (keepC G1.out.2 (Nat.le_refl _) b3) Cb))
  clear B4 Cb R1 b3
  go_wp2_with fail
  refine (HD3.out _ G2.out.1).mono ?_
  rintro e w5 ⟨v3, rfl, R1, b3⟩
  have B5 := G2.out.1.trans (b3.mono G2.out.1.size)
  obtain ⟨g3, k3, hv1, _⟩ := Kd.S_form R1 (by decide)
  subst hv1
  have Cc := (Kd.S_reads' R1).2.2
  have C5 := keepC H1.out.2.2.2 (Nat.le_refl _) B5
  have E1 := ElB.ofC (keepC G2.out.2.1 (Nat.le_refl _) b3) 2 (by decide)
  have E2 := ElB.ofC C5 2 (by decide)
  have E3 := ElB.ofC (keepC G2.out.2.2 (Nat.le_refl _) b3) 0 (by decide)
  have E4 := ElB.ofC C5 0 (by decide)
  obtain ⟨ad, A0, c0, had, E5, _⟩ := PC.at_L6 Cc 0 (by decide) (by decide)
  cases had
  have E5 : w5.cell? ⟨g3, 0, none⟩ = some (.slice A0 4 c0) := E5
  obtain ⟨e10, e11, e12, e13⟩ : w5.cell? ⟨g1, 8, none⟩ = some (.string ⟨#[97]⟩) ∧ w5.cell? ⟨g1, 9, none⟩ = some (.int .u64 5) ∧ w5.cell? ⟨g1, 10, none⟩ = some (.int .i64 1) ∧ w5.cell? ⟨g1, 11, none⟩ = some (.string ⟨#[]⟩) := E1
  obtain ⟨e20, e21, e22, e23⟩ : w5.cell? ⟨w.heap.size, 8, none⟩ = some (.string ⟨#[97]⟩) ∧ w5.cell? ⟨w.heap.size, 9, none⟩ = some (.int .u64 5) ∧ w5.cell? ⟨w.heap.size, 10, none⟩ = some (.int .i64 1) ∧ w5.cell? ⟨w.heap.size, 11, none⟩ = some (.string ⟨#[]⟩) := E2
  obtain ⟨e30, e31, e32, e33⟩ : w5.cell? ⟨g2, 0, none⟩ = some (.string ⟨#[97]⟩) ∧ w5.cell? ⟨g2, 1, none⟩ = some (.int .u64 9) ∧ w5.cell? ⟨g2, 2, none⟩ = some (.int .i64 1) ∧ w5.cell? ⟨g2, 3, none⟩ = some (.string ⟨#[]⟩) := E3
  obtain ⟨e40, e41, e42, e43⟩ : w5.cell? ⟨w.heap.size, 0, none⟩ = some (.string ⟨#[97]⟩) ∧ w5.cell? ⟨w.heap.size, 1, none⟩ = some (.int .u64 9) ∧ w5.cell? ⟨w.heap.size, 2, none⟩ = some (.int .i64 1) ∧ w5.cell? ⟨w.heap.size, 3, none⟩ = some (.string ⟨#[]⟩) := E4
  have G3 := Lib.hid (H1.out.2.1.trans (B5.mono H1.out.2.1.size))
  clear C5 Cc R1 B5 b3
  go_wp2_with fail
  go_quiet (fail)
  go_wp2
  go_ret
  exact ⟨rfl, below_drewN G3.out _⟩

end Go.Proofs.Ytehoojmalhloeaa.CM
