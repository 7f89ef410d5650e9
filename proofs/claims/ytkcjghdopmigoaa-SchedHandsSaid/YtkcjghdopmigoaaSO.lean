/- sched: rows that grow; the block of a result; a task more. -/
import Derived.Test.YtkcjghdopmigoaaSN
import Derived.OwnWalk
import Derived.Laws.CopyRow
import Derived.Laws.IdiomCopy
import Derived.Laws.Tables
namespace Go.Proofs.Ytkcjghdopmigoaa.SC
open Go.RowKit Go.Proofs.YtkcjghdopmigoaaW.PrintWords
set_option linter.unusedVariables false
set_option linter.unusedSimpArgs false
set_option maxRecDepth 100000

theorem cell_top {w : World} {cs : Array Value} {t b k : Nat} {v : Value} (hb : b = w.heap.size) (h : cs[k]? = some v) : (w.alloc (.cells cs t)).cell? ⟨b, k, none⟩ = some v := by
  subst hb
  have e : (w.alloc (.cells cs t)).heap[w.heap.size]? = some (.cells cs t) := heap_alloc_new w _
  unfold World.cell?
  rw [e]
  exact h
theorem own_form' {w : World} {cv : Value} {base e size n : Nat} {xs : List Value} (h : w.ownsRow base e size cv n xs) : ∃ A cap, cv = .slice A n cap := by
  rcases h.2 with ⟨rfl, rfl⟩ | ⟨g, cap, cur, rfl, _⟩
  · exact ⟨none, 0, rfl⟩
  · exact ⟨_, _, rfl⟩
theorem und24 : Try.prog.underlying 24 = some (.slice 3) := by kernel_rfl
theorem und41 : Try.prog.underlying 41 = some (.slice 48) := by kernel_rfl
theorem info3 : (Try.prog.info? 3).map (fun i => (i.zero, i.size, i.bytes)) = some (some (.int .i64 0), 1, 8) := by kernel_rfl
theorem info48 : (Try.prog.info? 48).map (fun i => (i.zero, i.size, i.bytes)) = some (some (.pointer none), 1, 8) := by kernel_rfl
theorem run_appendI {W : World} {base : Nat} {v : Value} {d : List Int} {B : Addr} {x : Int} (hR : W.ownsRow base 3 1 v d.length (nums d)) (hB : W.cell? B = some (.int .i64 x)) (hl : (d.length + 1) * 8 ≤ 140737488355328) (hbase : base ≤ W.heap.size) :
    ∃ v1 w1, (Builtin.append_ #[24, 24] 24 #[v, .slice (some B) 1 1]).run Try.prog W = .ok v1 w1 ∧ w1.ownsRow base 3 1 v1 (d ++ [x]).length (nums (d ++ [x])) ∧ W.grownBy w1 v.ownBlock ∧ (v1.ownBlock = v.ownBlock ∨ v1.ownBlock = some W.heap.size) := by
  obtain ⟨i0, hi, hzz⟩ := Option.map_eq_some_iff.1 info3
  simp only [Prod.mk.injEq] at hzz
  obtain ⟨hz0, hz1, hz2⟩ := hzz
  obtain ⟨v1, w1, hrun, h2, hg, _, hat⟩ := run_append_own_at (P := Try.prog) W base 24 24 3 i0 _ 1 8 und24 hi hz0 hz1 hz2 rfl (by omega) v d.length (nums d) hR B 1 1 [.int .i64 x] rfl
    (fun j u hj => by
      rcases j with _ | j
      · obtain rfl : Value.int .i64 x = u := by simpa using hj
        have e : B.add 0 = B := by simp [Addr.add]
        rw [e]; exact hB
      · simp at hj) (fun u hu => by rw [List.mem_singleton.1 hu]; rfl) (by simp only [maxLen]; omega) hl hbase
  refine ⟨v1, w1, hrun, ?_, hg, hat⟩
  rw [List.length_append]
  unfold nums at h2 ⊢
  rw [List.map_append]
  exact h2
theorem run_appendP {W : World} {base n : Nat} {v : Value} {xs : List Value} {B C : Addr} (hR : W.ownsRow base 48 1 v n xs) (hB : W.cell? B = some (.pointer (some C))) (hl : (n + 1) * 8 ≤ 140737488355328) (hbase : base ≤ W.heap.size) :
    ∃ A cap w1, (Builtin.append_ #[41, 41] 41 #[v, .slice (some B) 1 1]).run Try.prog W = .ok (.slice A (n + 1) cap) w1 ∧ w1.ownsRow base 48 1 (.slice A (n + 1) cap) (n + 1) (xs ++ [.pointer (some C)]) ∧ W.grownBy w1 v.ownBlock := by
  obtain ⟨i0, hi, hzz⟩ := Option.map_eq_some_iff.1 info48
  simp only [Prod.mk.injEq] at hzz
  obtain ⟨hz0, hz1, hz2⟩ := hzz
  obtain ⟨v1, w1, hrun, h2, hg, _, hat⟩ := run_append_own_at (P := Try.prog) W base 41 41 48 i0 _ 1 8 und41 hi hz0 hz1 hz2 rfl (by omega) v n xs hR B 1 1 [.pointer (some C)] rfl
    (fun j u hj => by
      rcases j with _ | j
      · obtain rfl : Value.pointer (some C) = u := by simpa using hj
        have e : B.add 0 = B := by simp [Addr.add]
        rw [e]; exact hB
      · simp at hj) (fun u hu => by rw [List.mem_singleton.1 hu]; rfl) (by simp only [maxLen]; omega) hl hbase
  obtain ⟨A, cap, rfl⟩ := own_form' h2
  exact ⟨A, cap, w1, hrun, h2, hg⟩
theorem wpList_append_run {P : Program} (w : World) {ops : Array Oper} {rest : List Oper} {o : Oper} {a : Act} {Q : Exit → Act → World → Prop}
    (hg : o.guard = none) (s x : Operand) (t : TypeId) (hop : o.op = Op.call { callee := Callee.builtin Builtin.append, args := #[s, x], argTypes := #[t, t] })
    (v u v' : Value) (w' : World) (hs : a.eval s = v) (hx : a.eval x = u) (hrun : (Builtin.append_ #[t, t] o.type #[v, u]).run P w = .ok v' w')
    (hK : wpList P ops Q rest (a.put o.dst v') w') :
    wpList P ops Q (o :: rest) a w := by
  refine wpList_plain hg fun K hK' => ?_
  unfold Oper.wp
  simp [execOp, hop, resolve, invoke, builtin, hs, hx, hrun, Result.andThen]
  exact hK' _ _ hK

/-- The code of a task, where all lie. -/
theorem at_code {w : World} {A : Option Addr} {n : Nat} {code : List (List I)} (h : Kd.C (Kd.slice 35 kI) w A n code) {i : Nat} (hi : i < n) : ∃ ad A0 c0, A = some ad ∧ w.cell? (ad.add i) = some (.slice A0 (code.getD i []).length c0) ∧ (code.getD i []).length ≤ c0 ∧ kI.C w A0 (code.getD i []).length (code.getD i []) := by
  obtain ⟨ad, c, e, _, hK, hc0⟩ := Kd.C_get h ([] : List I) (i : Int) (by omega) (by omega)
  rw [Int.toNat_natCast] at hK hc0
  have hc : ∀ j u, c[j]? = some u → w.cell? (ad.add (i * 1 + j)) = some u := hc0
  obtain ⟨A0, c0, rfl, l0, g0⟩ := hK
  exact ⟨ad, A0, c0, e, by have hq := hc 0 _ rfl; rwa [Nat.mul_one, Nat.add_zero] at hq, l0, g0⟩

/-- A result's block. -/
def RB (w : World) (q : Nat) (a b c : Value) (s : Int) : Prop := w.heap[q]? = some (.cells #[a, b, c, .int .i64 s] 27 (0, 0))
section
variable {w w1 : World} {q : Nat} {a b c : Value} {s : Int}
theorem RB.lt (h : RB w q a b c s) : q < w.heap.size := (Array.getElem?_eq_some_iff.1 h).1
theorem RB.below (h : RB w q a b c s) (hb : Below w.heap.size w w1) : RB w1 q a b c s := (hb.block q h.lt).trans h
theorem RB.cells (h : RB w q a b c s) : w.cell? ⟨q, 0, none⟩ = some a ∧ w.cell? ⟨q, 1, none⟩ = some b ∧ w.cell? ⟨q, 2, none⟩ = some c ∧ w.cell? ⟨q, 3, none⟩ = some (.int .i64 s) := by
  unfold RB at h
  refine ⟨?_, ?_, ?_, ?_⟩ <;> simp [World.cell?, h]
theorem RB.frozen (h : RB w q a b c s) (k : Nat) : w.frozen? ⟨q, k, none⟩ = false := by
  unfold RB at h
  simp [World.frozen?, h]
theorem RB.set0 (h : RB w q a b c s) (v : Value) : RB (w.setCell ⟨q, 0, none⟩ v) q v b c s := by
  unfold RB
  rw [heap_setCell_same w q 0 _ 27 _ h]; rfl
theorem RB.set1 (h : RB w q a b c s) (v : Value) : RB (w.setCell ⟨q, 1, none⟩ v) q a v c s := by
  unfold RB
  rw [heap_setCell_same w q 1 _ 27 _ h]; rfl
theorem RB.set2 (h : RB w q a b c s) (v : Value) : RB (w.setCell ⟨q, 2, none⟩ v) q a b v s := by
  unfold RB
  rw [heap_setCell_same w q 2 _ 27 _ h]; rfl
theorem RB.set3 (h : RB w q a b c s) (v : Int) : RB (w.setCell ⟨q, 3, none⟩ (.int .i64 v)) q a b c v := by
  unfold RB
  rw [heap_setCell_same w q 3 _ 27 _ h]; rfl
theorem RB.other (h : RB w q a b c s) (p : Addr) (v : Value) (hp : q ≠ p.block) : RB (w.setCell p v) q a b c s := (heap_setCell_other _ _ _ _ hp).trans h
theorem RB.fr {O : Nat → Prop} (h : RB w q a b c s) (k : Fr O w w1) (hO : ¬ O q) : RB w1 q a b c s := (k.block q h.lt hO).trans h
end
theorem RB.own {w0 w : World} {g : Nat} {T : Nat → Nat} {cv : Nat → Value} {tv es : Value} {D : Wd} {q : Nat} {a b c : Value} {s : Int} (hs : RB w q a b c s) (h : St w0 w g T cv tv es D) : ¬ Own g T D.ts.length es q := by
  rintro (e | ⟨i, hi, e⟩ | e)
  · exact ne_typed hs h.wb.1 (by decide) e
  · exact ne_typed hs (h.tb i _ (List.getElem?_eq_getElem hi)).1.1 (by decide) e
  · obtain ⟨cl, hcl⟩ := own_typed h.em q e
    exact ne_typed hs hcl (by decide) rfl
/-- A store into a block that the tasks do not keep. -/
theorem St.off {w0 w : World} {g : Nat} {T : Nat → Nat} {cv : Nat → Value} {tv es : Value} {D : Wd} (h : St w0 w g T cv tv es D) {q : Nat} {a b c : Value} {s : Int} (hq : RB w q a b c s) (hl : w0.heap.size ≤ q) (k : Nat) (v : Value) : St w0 (w.setCell ⟨q, k, none⟩ v) g T cv tv es D := by
  have hm : ∀ {p t : Nat} {cl : Array Value} {f : Nat × Nat}, w.heap[p]? = some (Obj.cells cl t f) → t ≠ 27 → (w.setCell ⟨q, k, none⟩ v).heap[p]? = w.heap[p]? := fun hp ht => heap_setCell_other _ _ _ _ (ne_typed hp hq ht)
  refine ⟨h.bel.setCell hl _, ⟨(hm h.wb.1 (by decide)).trans h.wb.1, h.wb.2⟩, h.gb, own_move h.row (fun k hk => ?_), fun j t2 hj => ?_, h.cd, h.inj, own_move h.em (fun k hk => ?_)⟩
  · obtain ⟨cl, hcl⟩ := own_typed h.row k hk
    exact hm hcl (by decide)
  · obtain ⟨h3, h4⟩ := h.tb j t2 hj
    exact ⟨⟨(hm h3.1 (by decide)).trans h3.1, h3.2⟩, h4⟩
  · obtain ⟨cl, hcl⟩ := own_typed h.em k hk
    exact hm hcl (by decide)
theorem ptrs_push (T : Nat → Nat) (n b : Nat) : ptrs (fun i => if i = n then b else T i) (n + 1) = ptrs T n ++ [Value.pointer (some ⟨b, 0, none⟩)] := by
  unfold ptrs
  rw [List.range_succ, List.map_append]
  congr 1
  · refine List.map_congr_left (fun i hi => ?_)
    rw [List.mem_range] at hi
    simp only [if_neg (show ¬ i = n by omega)]
  · simp
/-- One task more. -/
theorem St.push {w0 w w1 : World} {g : Nat} {T : Nat → Nat} {cv : Nat → Value} {tv es : Value} {D : Wd} (h : St w0 w g T cv tv es D) (hb : Below w.heap.size w w1) {b : Nat} {t : Tk} {A : Option Addr} {c : Nat} (hT : TB w1 b t (.slice A t.code.length c)) (hbn : w.heap.size ≤ b) (hA : t.code.length ≤ c) (hC : Kd.C kI w0 A t.code.length t.code) (hn : D.ts.length ≤ 100) :
    ∃ A' cap w3, (Builtin.append_ #[41, 41] 41 #[tv, .slice (some ⟨w1.heap.size, 0, none⟩) 1 1]).run Try.prog (w1.alloc (.cells #[.pointer (some ⟨b, 0, none⟩)] 48)) = .ok (.slice A' (D.ts.length + 1) cap) w3 ∧
      w3.cell? ⟨g, 0, none⟩ = some tv ∧ w3.frozen? ⟨g, 0, none⟩ = false ∧
      St w0 (w3.setCell ⟨g, 0, none⟩ (.slice A' (D.ts.length + 1) cap)) g (fun i => if i = D.ts.length then b else T i) (fun i => if i = D.ts.length then .slice A t.code.length c else cv i) (.slice A' (D.ts.length + 1) cap) es { D with ts := D.ts ++ [t] } ∧
      ∀ q a b c s, RB w q a b c s → RB (w3.setCell ⟨g, 0, none⟩ (.slice A' (D.ts.length + 1) cap)) q a b c s := by
  have h1 := h.below hb
  obtain ⟨W2, hW2⟩ : ∃ W2, w1.alloc (.cells #[.pointer (some ⟨b, 0, none⟩)] 48) = W2 := ⟨_, rfl⟩
  have b2 : Below w1.heap.size w1 W2 := by rw [← hW2]; exact (Below.refl _ _).alloc (Nat.le_refl _) _
  have h2 := h1.below b2
  have hT2 := hT.below b2
  have hB : W2.cell? ⟨w1.heap.size, 0, none⟩ = some (.pointer (some ⟨b, 0, none⟩)) := by rw [← hW2]; exact cell_top rfl rfl
  obtain ⟨A', cap, w3, hrun, hown, hg⟩ := run_appendP h2.row hB (by omega) h2.bel.size
  rw [hW2]
  have keep : ∀ {p ty : Nat} {cl : Array Value} {f : Nat × Nat}, W2.heap[p]? = some (Obj.cells cl ty f) → ty ≠ 48 → w3.heap[p]? = W2.heap[p]? := fun {p ty cl f} hp ht => hg.block p (Array.getElem?_eq_some_iff.1 hp).1 (fun e => by
    obtain ⟨cl2, hcl2⟩ := own_typed h2.row p e.symm
    exact ne_typed hp hcl2 ht rfl)
  have kw : WB w3 g tv es D.cells D.has := ⟨(keep h2.wb.1 (by decide)).trans h2.wb.1, h2.wb.2⟩
  refine ⟨A', cap, w3, hrun, kw.cells.1, kw.frozen 0, ?_, ?_⟩
  · have hbel : Below w0.heap.size w0 w3 := h2.bel.grown hg h2.bel.size (fun k hk => own_base h2.row k hk)
    have keep2 : ∀ {p ty : Nat} {cl : Array Value} {f : Nat × Nat}, W2.heap[p]? = some (Obj.cells cl ty f) → ty ≠ 48 → ty ≠ 44 → (w3.setCell ⟨g, 0, none⟩ (.slice A' (D.ts.length + 1) cap)).heap[p]? = W2.heap[p]? := fun {p ty cl f} hp ht ht2 =>
      (heap_setCell_other _ _ _ _ (ne_typed hp h2.wb.1 ht2)).trans (keep hp ht)
    refine ⟨hbel.setCell h.gb _, kw.setTv _, h.gb, ?_, fun i u hu => ?_, fun i u hu => ?_, fun i j hi hj e => ?_, own_move h2.em (fun k hk => ?_)⟩
    · show (World.setCell _ _ _).ownsRow _ _ _ _ (D.ts ++ [t]).length (ptrs _ (D.ts ++ [t]).length)
      rw [List.length_append]
      show (World.setCell _ _ _).ownsRow _ _ _ _ (D.ts.length + 1) (ptrs _ (D.ts.length + 1))
      rw [ptrs_push]
      refine own_move hown (fun k hk => heap_setCell_other _ _ _ _ (fun e => ?_))
      obtain ⟨cl, hcl⟩ := own_typed hown k hk
      exact ne_typed hcl kw.1 (by decide) e
    · have hu : (D.ts ++ [t])[i]? = some u := hu
      by_cases hi : i = D.ts.length
      · subst hi
        obtain rfl : t = u := by simpa using hu
        simp only [if_pos]
        exact ⟨⟨(keep2 hT2.1 (by decide) (by decide)).trans hT2.1, hT2.2⟩, by have := h.bel.size; omega⟩
      · simp only [if_neg hi]
        have hl : i < D.ts.length := by
          have := (List.getElem?_eq_some_iff.1 hu).1
          rw [List.length_append] at this
          simp at this
          omega
        rw [List.getElem?_append_left hl] at hu
        obtain ⟨h3, h4⟩ := h2.tb i u hu
        exact ⟨⟨(keep2 h3.1 (by decide) (by decide)).trans h3.1, h3.2⟩, h4⟩
    · have hu : (D.ts ++ [t])[i]? = some u := hu
      by_cases hi : i = D.ts.length
      · subst hi
        obtain rfl : t = u := by simpa using hu
        simp only [if_pos]
        exact ⟨A, c, rfl, hA, hC⟩
      · simp only [if_neg hi]
        have hl : i < D.ts.length := by
          have := (List.getElem?_eq_some_iff.1 hu).1
          rw [List.length_append] at this
          simp at this
          omega
        rw [List.getElem?_append_left hl] at hu
        exact h.cd i u hu
    · have hi : i < (D.ts ++ [t]).length := hi
      have hj : j < (D.ts ++ [t]).length := hj
      rw [List.length_append] at hi hj
      simp at hi hj
      have lo : ∀ k, k < D.ts.length → T k < w.heap.size := fun k hk => (h.tb k _ (List.getElem?_eq_getElem hk)).1.lt
      by_cases h3 : i = D.ts.length
      · by_cases h4 : j = D.ts.length
        · omega
        · simp only [if_pos h3, if_neg h4] at e
          have := lo j (by omega)
          omega
      · by_cases h4 : j = D.ts.length
        · simp only [if_pos h4, if_neg h3] at e
          have := lo i (by omega)
          omega
        · simp only [if_neg h3, if_neg h4] at e
          exact h.inj i j (by omega) (by omega) e
    · obtain ⟨cl, hcl⟩ := own_typed h2.em k hk
      exact keep2 hcl (by decide) (by decide)
  · intro q a b' c' s hq
    have hq2 := (hq.below hb).below b2
    have hq3 : RB w3 q a b' c' s := (keep hq2 (by decide)).trans hq2
    exact hq3.other _ _ (ne_typed hq3 kw.1 (by decide))
theorem at_int {w : World} {A : Option Addr} {n : Nat} {xs : List Int} (h : Kd.C (Kd.int .i64) w A n xs) {i : Nat} (hi : i < n) : ∃ ad, A = some ad ∧ w.cell? (ad.add i) = some (.int .i64 (xs.getD i 0)) := by
  obtain ⟨ad, c, e, _, hK, hc0⟩ := Kd.C_get h (0 : Int) (i : Int) (by omega) (by omega)
  rw [Int.toNat_natCast] at hK hc0
  have hc : ∀ j u, c[j]? = some u → w.cell? (ad.add (i * 1 + j)) = some u := hc0
  have hK : c = [.int .i64 (xs.getD i 0)] := hK
  subst hK
  exact ⟨ad, e, by have hq := hc 0 _ rfl; rwa [Nat.mul_one, Nat.add_zero] at hq⟩
theorem RB.set4 {w : World} {q : Nat} {a b c : Value} {s : Int} {a' b' c' : Value} {s' : Int} (h : RB w q a b c s) : RB ((((w.setCell ⟨q, 0, none⟩ a').setCell ⟨q, 1, none⟩ b').setCell ⟨q, 2, none⟩ c').setCell ⟨q, 3, none⟩ (.int .i64 s')) q a' b' c' s' := (((h.set0 a').set1 b').set2 c').set3 s'
theorem wpList_copy_run {P : Program} (w : World) {ops : Array Oper} {rest : List Oper} {o : Oper} {a : Act} {Q : Exit → Act → World → Prop}
    (hg : o.guard = none) (s x : Operand) (t : TypeId) (hop : o.op = Op.call { callee := Callee.builtin Builtin.copy, args := #[s, x], argTypes := #[t, t] })
    (v u v' : Value) (w' : World) (hs : a.eval s = v) (hx : a.eval x = u) (hrun : (Builtin.copy_ #[t, t] o.type #[v, u]).run P w = .ok v' w')
    (hK : wpList P ops Q rest (a.put o.dst v') w') :
    wpList P ops Q (o :: rest) a w := by
  refine wpList_plain hg fun K hK' => ?_
  unfold Oper.wp
  simp [execOp, hop, resolve, invoke, builtin, hs, hx, hrun, Result.andThen]
  exact hK' _ _ hK
theorem info3s : (Try.prog.info? 3).map (·.size) = some 1 := by kernel_rfl
/-- What the cells begin with. -/
theorem copy_cells {W : World} {g : Nat} {tv es : Value} {c h : List Int} (k : WB W g tv es c h) {B : Option Addr} {cells : List Int} (hB : Kd.C (Kd.int .i64) W B cells.length cells) (hn : cells.length ≤ 16) (d ty : Nat) :
    ∃ W', (Builtin.copy_ #[24, 24] ty #[.slice (some ⟨g, 1, none⟩) 16 16, .slice B cells.length d]).run Try.prog W = .ok (goInt cells.length) W' ∧ WB W' g tv es (cells ++ c.drop cells.length) h ∧ Fr (fun b => b = g) W W' := by
  by_cases h0 : cells.length = 0
  · have he : cells = [] := List.eq_nil_of_length_eq_zero h0
    subst he
    exact ⟨W, run_copy_none W 24 24 ty 3 _ _ 16 16 0 d und24 info3s (by simp), by simpa using k, Fr.refl _ _⟩
  · obtain ⟨ad, e, _⟩ := at_int hB (i := 0) (by omega)
    subst e
    have hsrc : ∀ j v, (nums cells)[j]? = some v → W.cell? (ad.add j) = some v := fun j v hj => by
      unfold nums at hj
      rw [List.getElem?_map] at hj
      obtain ⟨x, hx, rfl⟩ := Option.map_eq_some_iff.1 hj
      obtain ⟨ad', e, h1⟩ := at_int hB (i := j) (List.getElem?_eq_some_iff.1 hx).1
      injection e with e
      subst e
      rw [h1, List.getD_eq_getElem?_getD, hx]
      rfl
    have hl : (nums cells).length = cells.length := by simp [nums]
    have hr := run_copy_row (P := Try.prog) W 24 24 ty 3 g 1 16 16 ad cells.length d _ 44 (nums cells) und24 info3s k.1 (by rw [hl]; exact (Nat.min_eq_left hn).symm) hsrc (by simp [wArr, nums, k.2.1, k.2.2]; omega) (fun v hv => by
      unfold nums at hv
      obtain ⟨x, _, rfl⟩ := List.mem_map.1 hv
      rfl)
    rw [hl] at hr
    refine ⟨_, hr, ⟨?_, by simp [k.2.1]; omega, k.2.2⟩, ⟨rfl, rfl, rfl, by simp [World.setRow], fun b hb hn => setRow_other _ _ _ _ hn⟩⟩
    rw [setRow_heap _ _ _ _ _ _ k.1]
    congr 3
    unfold wArr
    simp only [List.take_succ_cons, List.take_zero, List.cons_append, List.nil_append]
    rw [Nat.add_comm 1, List.drop_succ_cons, List.drop_append_of_le_length (by simp [nums, k.2.1]; exact hn)]
    simp [nums, List.map_append, List.map_drop]
end Go.Proofs.Ytkcjghdopmigoaa.SC
