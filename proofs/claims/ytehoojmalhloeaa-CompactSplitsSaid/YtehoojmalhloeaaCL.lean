/- What stays (compact.Drop): what the program computes. Its conditions are that what it reads can be read and is not too long for memory. -/
import Derived.Test.YtehoojmalhloeaaCP
import Derived.Shelf.Abstract
namespace Go.Proofs.Ytehoojmalhloeaa.CM
open Go.RowKit Go.Proofs.YtehoojmalhloeaaW.PrintWords
set_option linter.unusedVariables false
set_option linter.unusedSimpArgs false
set_option maxRecDepth 100000
attribute [local go_sem] Oper.semAt_some

/-- What stays of a user's entries. -/
def stayU (snaps : List Int) (bottom : Bool) (g : List PC.S44) : List PC.S44 := if bottom = true then settledL (countedL snaps g) else countedL snaps g
/-- What stays. -/
def dropL (snaps : List Int) (bottom : Bool) (l : List PC.S44) : List PC.S44 := ((groups l).map (stayU snaps bottom)).flatten

/-- What the loop keeps: its variables, the row of what stays so far. -/
def DInv (w W3 : World) (n O B : Nat) (A2 : Option Addr) (m2 c2 : Nat) (bottom : Bool) (ys : List PC.S44) (W : World) : Prop :=
  ∃ v, Boxed W O 22 v ∧ Kd.R PC.k44 44 W w.heap.size (fun _ => True) v ys ∧ Boxed W n 23 (.slice A2 m2 c2) ∧ Boxed W (n + 1) 4 (.bool bottom) ∧ (∃ vb, Boxed W B 22 vb) ∧ Below w.heap.size w W

theorem Boxed.rowed {W W' : World} {row : Option Nat} {g t : Nat} {v : Value} (h : Boxed W g t v) (hg : W.grownBy W' row) (hr : ∀ r, row = some r → ∃ o : Obj, W.heap[r]? = some o ∧ o.isCells = false) : Boxed W' g t v :=
  h.kept hg (fun e => by
    obtain ⟨o, ho, hc⟩ := hr g e.symm
    rw [show W.heap[g]? = _ from h] at ho
    cases ho
    cases hc)
theorem R_rowed {W W' : World} {row : Option Nat} {base : Nat} {v : Value} {xs : List PC.S44} (h : Kd.R PC.k44 44 W base (fun _ => True) v xs) (hg : W.grownBy W' row) (hr : ∀ r, row = some r → ∃ o : Obj, W.heap[r]? = some o ∧ o.isCells = false) : Kd.R PC.k44 44 W' base (fun _ => True) v xs :=
  Kd.R_mono (Kd.R_grown (Kd.R_bound h) hg (fun k hk e => by
    obtain ⟨_, _, _, q, _, cells, hc⟩ := hk
    obtain ⟨o, ho, hn⟩ := hr k e.symm
    rw [hc] at ho
    cases ho
    cases hn)) (fun _ _ => trivial)

theorem DInv.own {w W3 : World} {n O B : Nat} {A2 : Option Addr} {m2 c2 : Nat} {bottom : Bool} {β : Type} (f : β → List PC.S44) (hs : w.heap.size ≤ W3.heap.size) : OwnFrom W3.heap.size (fun (x : β) W => DInv w W3 n O B A2 m2 c2 bottom (f x) W) := by
  rintro x X Y row ⟨v, h1, h2, h3, h4, ⟨vb, h5⟩, h6⟩ hg hr
  have hr2 : ∀ r, row = some r → ∃ o : Obj, X.heap[r]? = some o ∧ o.isCells = false := fun r e => (hr r e).2
  exact ⟨v, Boxed.rowed h1 hg hr2, R_rowed h2 hg hr2, Boxed.rowed h3 hg hr2, Boxed.rowed h4 hg hr2, ⟨vb, Boxed.rowed h5 hg hr2⟩, h6.grown hg h6.size (fun k e => Nat.le_trans hs (hr k e).1)⟩

theorem DInv.stays {w W3 : World} {n O B : Nat} {A2 : Option Addr} {m2 c2 : Nat} {bottom : Bool} {β : Type} (f : β → List PC.S44) (hB : w.heap.size ≤ B) (h1B : O ≠ B) (h2B : n ≠ B) (h3B : n + 1 ≠ B) : Stays (StepB B) (fun (x : β) W => DInv w W3 n O B A2 m2 c2 bottom (f x) W) := by
  rintro x X Y ⟨v, h1, h2, h3, h4, ⟨vb, h5⟩, h6⟩ (⟨k, rfl⟩ | ⟨u, rfl⟩)
  · exact ⟨v, h1, Kd.R_drewN h2 k, h3, h4, ⟨vb, h5⟩, below_drewN h6 k⟩
  · exact ⟨v, h1.other h1B _, Kd.R_set h2 h5 k44_ne22 0 _, h3.other h2B _, h4.other h3B _, ⟨_, h5.set _⟩, h6.setCell (p := ⟨B, 0, none⟩) hB _⟩

theorem groups_flat : ∀ l : List PC.S44, (groups l).flatten = l
  | [] => rfl
  | a :: t => by
    have ih := groups_flat t
    show (joinU a (groups t)).flatten = a :: t
    unfold joinU
    split
    · rename_i b g gs hg
      rw [hg] at ih
      split <;> simpa using ih
    · simpa using ih
theorem stepM_le (l : List PC.S44) : ∀ st : Bool × List PC.S44, (l.foldl stepM st).2.length ≤ st.2.length + l.length := by
  induction l with
  | nil => intro st; simp
  | cons a t ih =>
    intro st
    have h1 := ih (stepM st a)
    have h2 := stepM_len st a
    simp only [List.foldl_cons, List.length_cons]
    omega
theorem settledL_len (l : List PC.S44) : (settledL l).length ≤ l.length := by
  have := stepM_le l.reverse (false, [])
  simpa [settledL, runM] using this
theorem stayU_len (snaps : List Int) (bottom : Bool) (g : List PC.S44) : (stayU snaps bottom g).length ≤ g.length := by
  unfold stayU
  split
  · exact Nat.le_trans (settledL_len _) (countedL_len _ _)
  · exact countedL_len _ _
theorem flat_len (snaps : List Int) (bottom : Bool) : ∀ gs : List (List PC.S44), (gs.map (stayU snaps bottom)).flatten.length ≤ gs.flatten.length
  | [] => by simp
  | g :: gs => by
    have h1 := flat_len snaps bottom gs
    have h2 := stayU_len snaps bottom g
    simp only [List.map_cons, List.flatten_cons, List.length_append]
    omega
theorem pre_len (l : List PC.S44) (gs : List (List PC.S44)) (h : gs <+: groups l) : gs.flatten.length ≤ l.length := by
  obtain ⟨t, ht⟩ := h
  have := groups_flat l
  rw [← ht] at this
  rw [← this]
  simp

theorem keepsOthers_of_below {W W' : World} (h : Below W.heap.size W W') : KeepsOthers W W' := ⟨h.size, fun k o hk _ => (h.block k (Array.getElem?_eq_some_iff.1 hk).1).trans hk⟩

theorem DInv.step {w W3 W w2 w3 : World} {O B : Nat} {A2 : Option Addr} {m2 c2 n₀ : Nat} {bottom : Bool} {v v2 vb : Value} {ys zs : List PC.S44} (hO : w.heap.size + 2 ≤ O) (hB : w.heap.size + 2 ≤ B) (hOB : O ≠ B)
    (H : Boxed W O 22 v ∧ Kd.R PC.k44 44 W w.heap.size (fun _ => True) v ys ∧ Boxed W w.heap.size 23 (.slice A2 m2 c2) ∧ Boxed W (w.heap.size + 1) 4 (.bool bottom) ∧ Boxed W B 22 vb ∧ Below w.heap.size w W)
    (hb : Below W.heap.size W w2) (hg : w2.grownBy w3 v.ownBlock) (hR3 : Kd.R PC.k44 44 w3 w.heap.size (fun _ => True) v2 (ys ++ zs)) :
    KeepsFrom n₀ W (w3.setCell ⟨O, 0, none⟩ v2) ∧ KeepB w.heap.size B W (w3.setCell ⟨O, 0, none⟩ v2) ∧ DInv w W3 w.heap.size O B A2 m2 c2 bottom (ys ++ zs) (w3.setCell ⟨O, 0, none⟩ v2) := by
  obtain ⟨h1, h2, h3, h4, h5, h6⟩ := H
  have g2 := Kd.R_below h2 hb
  have mv : ∀ {b t : Nat} {u : Value}, Boxed W b t u → t ≠ 44 → Boxed w3 b t u := fun {b t u} h ht =>
    Boxed.kept (show Boxed w2 b t u from (hb.block _ h.lt).trans h) hg (Kd.R_ne g2 (show Boxed w2 b t u from (hb.block _ h.lt).trans h) (Ne.symm ht))
  have k1 := mv h1 (by decide)
  have k3 := mv h3 (by decide)
  have k4 := mv h4 (by decide)
  have k5 := mv h5 (by decide)
  have hB2 : Below w.heap.size W w3 := (hb.mono h6.size).grown hg (Nat.le_trans h6.size hb.size) (fun k e => Kd.R_base g2 k e)
  refine ⟨?_, ⟨hB2.setCell (p := ⟨O, 0, none⟩) (by show w.heap.size ≤ O; omega) _, ?_⟩, _, k1.set _, Kd.R_set hR3 k1 k44_ne22 0 _, k3.other (by omega) _, k4.other (by omega) _, ⟨vb, k5.other (Ne.symm hOB) _⟩, ((h6.trans hB2).setCell (p := ⟨O, 0, none⟩) (by show w.heap.size ≤ O; omega) _)⟩
  · refine (((keepsOthers_of_below hb).trans (KeepsOthers.of_grownBy hg fun j o ej hj => ?_)).trans (KeepsOthers.setCell _ _ _)).from _
    obtain ⟨_, _, _, q, _, cells, hc⟩ := (Kd.R_bound g2).1 j ej
    rw [hc] at hj
    cases hj
    rfl
  · exact (show _ = _ from k5.other (Ne.symm hOB) _).trans (show _ = _ from h5).symm

theorem wpList_append_run {P : Program} (w : World) {ops : Array Oper} {rest : List Oper} {o : Oper} {a : Act} {Q : Exit → Act → World → Prop}
    (hg : o.guard = none) (s x : Operand) (t : TypeId) (hop : o.op = Op.call { callee := Callee.builtin Builtin.append, args := #[s, x], argTypes := #[t, t] })
    (v u v' : Value) (w' : World) (hs : a.eval s = v) (hx : a.eval x = u) (hrun : (Builtin.append_ #[t, t] o.type #[v, u]).run P w = .ok v' w')
    (hK : wpList P ops Q rest (a.put o.dst v') w') :
    wpList P ops Q (o :: rest) a w := by
  refine wpList_plain hg fun K hK' => ?_
  unfold Oper.wp
  simp [execOp, hop, resolve, invoke, builtin, hs, hx, hrun, Result.andThen]
  exact hK' _ _ hK

theorem wpListIn_append_run {F : Fence} {n : Nat} {P : Program} (w : World) {ops : Array Oper} {rest : List Oper} {o : Oper} {a : Act} {Q : Exit → Act → World → Prop}
    (hg : o.guard = none) (s x : Operand) (t : TypeId) (hop : o.op = Op.call { callee := Callee.builtin Builtin.append, args := #[s, x], argTypes := #[t, t] })
    (v u v' : Value) (w' : World) (hs : a.eval s = v) (hx : a.eval x = u) (hrun : (Builtin.append_ #[t, t] o.type #[v, u]).run P w = .ok v' w')
    (hK : wpListIn F n P ops Q rest (a.put o.dst v') w') :
    wpListIn F n P ops Q (o :: rest) a w := by
  refine wpListIn_plain hg fun K hK' => ?_
  unfold Oper.wpIn
  refine ⟨?_, ?_⟩
  · simp [Oper.about, hop, resolve, Target.leads, Sem.run_pure]
  · rw [Oper.semAt_plain F _ _ (by rw [hop]; intro c hc'; cases hc')]
    simp [execOp, hop, resolve, invoke, builtin, hs, hx, hrun, Result.andThen]
    exact hK' _ _ hK

set_option maxHeartbeats 8000000 in
theorem drop_w (A : Option Addr) (c : Nat) (l : List PC.S44) (A2 : Option Addr) (c2 : Nat) (snaps : List Int) (bottom : Bool) (w : World) (hr : Kd.C PC.k44 w A l.length l) (hc : l.length ≤ c) (hr2 : Kd.C (Kd.int .u64) w A2 snaps.length snaps)
    (hbig : l.length * 48 ≤ 140737488355328) (hup : risesB l = true) :
    Calls Try.prog 24 #[.slice A l.length c, .slice A2 snaps.length c2, .bool bottom] w fun e w' => ∃ v, e = .returned (.tuple #[v, .int .i64 0]) ∧ Kd.R PC.k44 44 w' w.heap.size (fun _ => True) v (dropL snaps bottom l) ∧ Below w.heap.size w w' := by
  refine (callsIn_wide (n := 3)).1 ?_
  refine callsIn_of_wp_marks Try.func24 rfl trivial ?_ rfl
  refine wpIn_wide.2 ?_
  simp only [Try.ntmps24, List.size_toArray, List.length_cons, List.length_nil, Nat.reduceAdd, Nat.reduceSub, Array.replicate_succ, Array.replicate_zero, List.push_toArray, List.append_toArray, List.nil_append, List.cons_append]
  have HR := Lib.hid hr
  have HS := Lib.hid hr2
  have HU := Lib.hid hup
  clear hr hr2 hup
  go_wp2_with (first | (go_at_call 64; refine (rises_w A c l _ (keepC HR.out (Nat.le_refl _) (((Below.refl w.heap.size w).alloc (Nat.le_refl _) _).alloc (by simp) _)) hc).mono ?_; rintro e w1 ⟨rfl, hb1⟩; rw [HU.out]) | (go_at_call 65; refine (users_w _ A l.length c rfl _).mono ?_; rintro e w2 ⟨rfl, rfl⟩))
  have hs1 : w.heap.size + 2 ≤ w1.heap.size := by have := hb1.size; simp at this; omega
  obtain ⟨W3, hW3, hs3, hB3, x1, x2, x3, x4⟩ : ∃ W3, (w1.alloc (Obj.cells #[Value.slice none 0 0] 22)).alloc (Obj.cells #[Value.slice A l.length c] 22) = W3 ∧ W3.heap.size = w1.heap.size + 2 ∧ Below w.heap.size w W3
      ∧ Boxed W3 w.heap.size 23 (.slice A2 snaps.length c2) ∧ Boxed W3 (w.heap.size + 1) 4 (.bool bottom) ∧ Boxed W3 w1.heap.size 22 (.slice none 0 0) ∧ Boxed W3 (w1.heap.size + 1) 22 (.slice A l.length c) := by
    have bn : ∀ (W : World) (n t : Nat) (v : Value), W.heap.size = n → Boxed (W.alloc (.cells #[v] t)) n t v := fun W n t v h => h ▸ Boxed.new W t v
    have y1 : Boxed ((w.alloc (.cells #[.slice A2 snaps.length c2] 23)).alloc (.cells #[.bool bottom] 4)) w.heap.size 23 (.slice A2 snaps.length c2) := (bn _ _ _ _ rfl).alloc _
    have y2 : Boxed ((w.alloc (.cells #[.slice A2 snaps.length c2] 23)).alloc (.cells #[.bool bottom] 4)) (w.heap.size + 1) 4 (.bool bottom) := bn _ _ _ _ (by simp)
    have z1 : Boxed w1 w.heap.size 23 (.slice A2 snaps.length c2) := (hb1.block _ (by simp; omega)).trans y1
    have z2 : Boxed w1 (w.heap.size + 1) 4 (.bool bottom) := (hb1.block _ (by simp)).trans y2
    refine ⟨_, rfl, by simp, ((((((Below.refl w.heap.size w).alloc (Nat.le_refl _) _).alloc (by simp) _).trans (hb1.mono (by simp; omega))).alloc (by omega) _).alloc (by simp; omega) _), ?_, ?_, ?_, ?_⟩
    · exact (z1.alloc _).alloc _
    · exact (z2.alloc _).alloc _
    · exact (bn _ _ _ _ rfl).alloc _
    · exact bn _ _ _ _ (by simp)
  rw [hW3]
  clear hW3 hb1
  have hO : w.heap.size ≤ w1.heap.size := by omega
  have hsz : w.heap.size ≤ W3.heap.size := by omega
  have HI := users1_w 2 (by omega) w W3 (w1.heap.size + 1) (by omega) (by omega) hB3 A c l HR.out hc x4
  refine wpIn_wide.1 (range_rel (n := 3) rfl (by omega) (gf := 84) (lb := #[.pointer (some ⟨w1.heap.size + 1, 0, none⟩)]) rfl trivial (enters_of Try.func84 (by kernel_rfl) rfl) HI (fun x => rfl)
    ?hRel ?hKt ?hKb (fun pre W => DInv w W3 w.heap.size w1.heap.size (w1.heap.size + 1) A2 snaps.length c2 bottom (pre.map (fun x : Part w => stayU snaps bottom x.kvs)).flatten W) (fun _ _ _ => False)
    (DInv.own _ hsz) (fun _ _ _ _ _ hs _ _ => hs) (DInv.stays _ (by omega) (by omega) (by omega) (by omega)) (fun _ _ _ _ h _ => h)
    ⟨_, x3, Kd.R_nil _ _ _ _ _, x1, x2, ⟨_, x4⟩, hB3⟩
    (fun x => { tmps := #[.slice A l.length c, .slice A2 snaps.length c2, .bool bottom, undef, .pointer (some ⟨w.heap.size, 0, none⟩), .pointer (some ⟨w.heap.size + 1, 0, none⟩), .slice none 0 0, .int .i64 0, .pointer (some ⟨w1.heap.size, 0, none⟩), .slice x.1.1 x.1.2.2.length x.1.2.1, .slice A l.length c, .bool true, .bool false, .slice A l.length c, .func (.func 84) #[] #[.pointer (some ⟨w1.heap.size + 1, 0, none⟩)], .slice x.1.1 x.1.2.2.length x.1.2.1, undef, undef, undef, undef, undef, undef, undef, undef, undef, undef], defers := [] }) ?assign ?body ?done ?stop)
  case hRel =>
    rintro X Y (⟨k, rfl⟩ | ⟨u, rfl⟩)
    · exact ⟨Nat.le_refl _, fun _ _ _ h _ => h⟩
    · exact (KeepsOthers.setCell _ _ _).from _
  case hKt => exact fun h k => ⟨h.1.trans k.1, k.2.trans h.2⟩
  case hKb => exact fun X k o o' hk ho hc hw => ⟨belowK_b hsz X k o o' hk ho hc hw, World.putObj_heap_other (by omega)⟩
  case assign =>
    intro l x W K hK
    simp only [Part.encs]
    gi_wp2
    exact hK
  case body =>
    rintro k pre x W ⟨v, h1, h2, h3, h4, ⟨vb, h5⟩, h6⟩ hsp
    obtain ⟨ys, hys⟩ : ∃ ys, (pre.map (fun x : Part w => stayU snaps bottom x.kvs)).flatten = ys := ⟨_, rfl⟩
    rw [hys] at h2
    have hlen : ys.length + x.kvs.length ≤ l.length := by
      have e1 := pre_len l _ hsp
      have e2 := flat_len snaps bottom (pre.map Part.kvs)
      simp only [List.map_append, List.map_cons, List.map_nil, List.flatten_append, List.length_append, List.flatten_cons, List.flatten_nil, List.append_nil] at e1
      rw [List.map_map] at e2
      have e3 : (pre.map (fun x : Part w => stayU snaps bottom x.kvs)).flatten = (pre.map (stayU snaps bottom ∘ Part.kvs)).flatten := rfl
      rw [e3] at hys
      rw [hys] at e2
      omega
    obtain ⟨Av, cv, hv, hlv, _⟩ := Kd.R_reads h2
    subst hv
    have c3 := h3.cell
    have c4 := h4.cell
    have hC := counted_w x.1.1 x.1.2.1 x.kvs A2 c2 snaps W (keepC x.2.1 (Nat.le_refl _) h6) x.2.2.1 (keepC HS.out (Nat.le_refl _) h6) (by have := hlen; omega)
    have e0 : x.1.2.2.length = x.kvs.length := rfl
    rw [e0]
    have HC := Lib.hid hC
    have H := Lib.hid (And.intro h1 (And.intro h2 (And.intro h3 (And.intro h4 (And.intro h5 h6)))))
    have HL := Lib.hid (And.intro hlen hys)
    clear hC h1 h2 h3 h4 h5 h6 hlen hys e0 x1 x2 x3 x4 HI
    cases bottom with
    | false =>
      gi_wp2_with (first | (refine ⟨trivial, ?_⟩; gi_at_call 66; refine (CallsIn.inRound k (callsIn_wide.2 HC.out)).mono ?_; rintro e w2 ⟨v1, rfl, hr1, hb1⟩; obtain ⟨A1, k1, hv1, hl1, hC1⟩ := Kd.R_reads hr1; subst hv1; have g1 : Boxed w2 w1.heap.size 22 (Value.slice Av ys.length cv) := (hb1.block _ H.out.1.lt).trans H.out.1; have g3 : Boxed w2 w.heap.size 23 (.slice A2 snaps.length c2) := (hb1.block _ H.out.2.2.1.lt).trans H.out.2.2.1; have g4 : Boxed w2 (w.heap.size + 1) 4 (Value.bool false) := (hb1.block _ H.out.2.2.2.1.lt).trans H.out.2.2.2.1; have g5 : Boxed w2 (w1.heap.size + 1) 22 vb := (hb1.block _ H.out.2.2.2.2.1.lt).trans H.out.2.2.2.2.1; obtain ⟨v2, w3, hrun, hR3, hg3, hat3⟩ := run_append44 (c := k1) 22 (Kd.R_below H.out.2.1 hb1) hC1 (by have := HL.out.1; have := countedL_len snaps x.kvs; omega) (Nat.le_trans H.out.2.2.2.2.2.size hb1.size); have q4 := g4.cell; have q1 := g1.cell; have n1 : some w1.heap.size ≠ (Value.slice Av ys.length cv).ownBlock := Kd.R_ne (Kd.R_below H.out.2.1 hb1) g1 (by decide); have b1 : Boxed w3 w1.heap.size 22 _ := g1.kept hg3 n1; obtain ⟨A5, k5, hv5⟩ := Kd.R_slice hR3; subst hv5; have r1 := b1.cell; have f1 := b1.frozen; have G := Lib.hid (And.intro g3 (And.intro g4 (And.intro g5 (And.intro hR3 (And.intro hg3 (And.intro b1 (And.intro hb1 hl1))))))); clear g1 g3 g4 g5 hR3 hg3 hat3 n1 b1 hb1 hl1 hr1 hC1) | (gi_at_builtin; refine wpListIn_append_run _ rfl (.tmp 22) (.tmp 23) 22 rfl _ _ _ _ rfl rfl hrun ?_; clear hrun))
      have Z := DInv.step (W3 := W3) (n₀ := W3.heap.size) (by omega) (by omega) (by omega) H.out G.out.2.2.2.2.2.2.1 G.out.2.2.2.2.1 G.out.2.2.2.1
      have e : ((pre ++ [x]).map (fun x : Part w => stayU snaps false x.kvs)).flatten = ys ++ countedL snaps x.kvs := by rw [← HL.out.2]; simp [stayU]
      rw [List.length_append] at Z
      refine ⟨Z.1, Z.2.1, ?_⟩
      show DInv _ _ _ _ _ _ _ _ _ (List.map _ (pre ++ [x])).flatten _
      rw [e]
      exact Z.2.2
    | true =>
      gi_wp2_with (first | (refine ⟨trivial, ?_⟩; gi_at_call 66; refine (CallsIn.inRound k (callsIn_wide.2 HC.out)).mono ?_; rintro e w2 ⟨v1, rfl, hr1, hb1⟩; obtain ⟨A1, k1, hv1, hl1, hC1⟩ := Kd.R_reads hr1; subst hv1; have q4 : w2.cell? ⟨w.heap.size + 1, 0, none⟩ = some (.bool true) := (show Boxed w2 (w.heap.size + 1) 4 (Value.bool true) from (hb1.block _ H.out.2.2.2.1.lt).trans H.out.2.2.2.1).cell; have HS2 := Lib.hid (settled_w A1 k1 (countedL snaps x.kvs) w2 hC1 hl1 (by have := HL.out.1; have := countedL_len snaps x.kvs; omega)); have HB2 := Lib.hid hb1; clear hC1 hl1 hb1 hr1) | (refine ⟨trivial, ?_⟩; gi_at_call 67; refine (CallsIn.inRound k (callsIn_wide.2 HS2.out)).mono ?_; rintro e w5 ⟨v1, rfl, hr1, hb5⟩; have hb1 := HB2.out.trans (hb5.mono HB2.out.size); clear hb5; obtain ⟨A1, k1, hv1, hl1, hC1⟩ := Kd.R_reads hr1; subst hv1; have g1 : Boxed w5 w1.heap.size 22 (Value.slice Av ys.length cv) := (hb1.block _ H.out.1.lt).trans H.out.1; have g3 : Boxed w5 w.heap.size 23 (.slice A2 snaps.length c2) := (hb1.block _ H.out.2.2.1.lt).trans H.out.2.2.1; have g4 : Boxed w5 (w.heap.size + 1) 4 (Value.bool true) := (hb1.block _ H.out.2.2.2.1.lt).trans H.out.2.2.2.1; have g5 : Boxed w5 (w1.heap.size + 1) 22 vb := (hb1.block _ H.out.2.2.2.2.1.lt).trans H.out.2.2.2.2.1; obtain ⟨v2, w3, hrun, hR3, hg3, hat3⟩ := run_append44 (c := k1) 22 (Kd.R_below H.out.2.1 hb1) hC1 (by have := HL.out.1; have := countedL_len snaps x.kvs; have := settledL_len (countedL snaps x.kvs); omega) (Nat.le_trans H.out.2.2.2.2.2.size hb1.size); have q4 := g4.cell; have q1 := g1.cell; have n1 : some w1.heap.size ≠ (Value.slice Av ys.length cv).ownBlock := Kd.R_ne (Kd.R_below H.out.2.1 hb1) g1 (by decide); have b1 : Boxed w3 w1.heap.size 22 _ := g1.kept hg3 n1; obtain ⟨A5, k5, hv5⟩ := Kd.R_slice hR3; subst hv5; have r1 := b1.cell; have f1 := b1.frozen; have G := Lib.hid (And.intro g3 (And.intro g4 (And.intro g5 (And.intro hR3 (And.intro hg3 (And.intro b1 (And.intro hb1 hl1))))))); clear g1 g3 g4 g5 hR3 hg3 hat3 n1 b1 hb1 hl1 hr1 hC1) | (gi_at_builtin; refine wpListIn_append_run _ rfl (.tmp 22) (.tmp 23) 22 rfl _ _ _ _ rfl rfl hrun ?_; clear hrun))
      have Z := DInv.step (W3 := W3) (n₀ := W3.heap.size) (by omega) (by omega) (by omega) H.out G.out.2.2.2.2.2.2.1 G.out.2.2.2.2.1 G.out.2.2.2.1
      have e : ((pre ++ [x]).map (fun x : Part w => stayU snaps true x.kvs)).flatten = ys ++ settledL (countedL snaps x.kvs) := by rw [← HL.out.2]; simp [stayU]
      rw [List.length_append] at Z
      refine ⟨Z.1, Z.2.1, ?_⟩
      show DInv _ _ _ _ _ _ _ _ _ (List.map _ (pre ++ [x])).flatten _
      rw [e]
      exact Z.2.2
  case done =>
    rintro D ys W hD hS ⟨v, h1, h2, h3, h4, ⟨vb, h5⟩, h6⟩ hK
    have c1 := h1.cell
    have e : (ys.map (fun x : Part w => stayU snaps bottom x.kvs)).flatten = dropL snaps bottom l := by
      have : ys.map (fun x : Part w => stayU snaps bottom x.kvs) = (ys.map Part.kvs).map (stayU snaps bottom) := by simp
      rw [this, hS]
      rfl
    rw [e] at h2
    obtain ⟨A7, k7, hv7⟩ := Kd.R_slice h2
    subst hv7
    have HH := Lib.hid (And.intro h2 (And.intro h6 (And.intro hD hK)))
    clear h1 h2 h3 h4 h5 h6 e HI hS hD hK x1 x2 x3 x4
    gi_wp2
    go_wp2
    refine ⟨by simp, .inl ⟨_, _, rfl, run_takeDeferred HH.out.2.2.2, ?_⟩⟩
    refine ⟨_, results_tmp2 rfl _ _ _, ?_⟩
    refine ⟨_, rfl, R_rowed HH.out.1 (grownBy_putObj' W D (.deferred none)) (fun r e => by cases e; exact ⟨_, HH.out.2.2.2, rfl⟩), ?_⟩
    exact HH.out.2.1.trans (belowK_b (w := W3) hsz W D _ _ HH.out.2.2.1 HH.out.2.2.2 rfl rfl)
  case stop =>
    rintro D c pre W _ _ h _
    exact h.elim

set_option maxHeartbeats 8000000 in
theorem drop_no (A : Option Addr) (c : Nat) (l : List PC.S44) (A2 : Option Addr) (c2 n2 : Nat) (bottom : Bool) (w : World) (hr : Kd.C PC.k44 w A l.length l) (hc : l.length ≤ c) (hup : risesB l = false) :
    Calls Try.prog 24 #[.slice A l.length c, .slice A2 n2 c2, .bool bottom] w fun e w' => e = .returned (.tuple #[.slice none 0 0, .int .i64 160]) ∧ Below w.heap.size w w' := by
  have HR := Lib.hid hr
  have HU := Lib.hid hup
  clear hr hup
  go_enter Try.func24, Try.ntmps24
  go_wp2_with (go_at_call 64; refine (rises_w A c l _ (keepC HR.out (Nat.le_refl _) (((Below.refl w.heap.size w).alloc (Nat.le_refl _) _).alloc (by simp) _)) hc).mono ?_; rintro e w1 ⟨rfl, hb1⟩; rw [HU.out])
  go_ret2
  exact ⟨rfl, (((Below.refl w.heap.size w).alloc (Nat.le_refl _) _).alloc (by simp) _).trans (hb1.mono (by simp; omega))⟩

end Go.Proofs.Ytehoojmalhloeaa.CM
