/- sched: a task does an instruction. -/
import Derived.Test.YtkcjghdopmigoaaSH
import Derived.Deep.RegionLaw
import Derived.WalkMore
namespace Go.Proofs.Ytkcjghdopmigoaa.SC
open Go.RowKit Go.Proofs.YtkcjghdopmigoaaW.PrintWords
set_option linter.unusedVariables false
set_option linter.unusedSimpArgs false
set_option maxRecDepth 100000

theorem cell_up {w : World} {o : Obj} {a : Addr} {v : Value} (h : w.cell? a = some v) : (w.alloc o).cell? a = some v :=
  ((Below.refl w.heap.size w).alloc (Nat.le_refl _) o |>.cell (World.block_lt_of_cell? w _ h)).trans h
theorem step_append_run {P : Program} {ops : Array Oper} {o : Oper} {a : Act} {w : World} {K : Act → World → Prop} {Q : Exit → Act → World → Prop} {E : Prop}
    (hg : o.guard = none) (s x : Operand) (t : TypeId) (hop : o.op = Op.call { callee := Callee.builtin Builtin.append, args := #[s, x], argTypes := #[t, t] })
    (v u v1 : Value) (w1 : World) (hs : a.eval s = v) (hx : a.eval x = u) (hrun : (Builtin.append_ #[t, t] o.type #[v, u]).run P w = .ok v1 w1) (hK : K (a.put o.dst v1) w1) :
    if Region.wanted o (yielded ops a.tmps) = true then Oper.wp P o a w K Q else E := by
  have hw : Region.wanted o (yielded ops a.tmps) = true := by simp [Region.wanted, hg]
  rw [if_pos hw]
  unfold Oper.wp
  simp [execOp, hop, resolve, invoke, builtin, hs, hx, hrun, Result.andThen]
  exact hK
theorem Own.es {g : Nat} {T : Nat → Nat} {n : Nat} {es : Value} {b : Nat} (h : es.ownBlock = some b) : Own g T n es b := .inr (.inr h)
theorem set_get {ts : List Tk} {i : Nat} {t t' : Tk} (h : ts[i]? = some t) : (ts.set i t')[i]? = some t' := by
  rw [List.getElem?_set, if_pos rfl, if_pos (List.getElem?_eq_some_iff.1 h).1]
theorem set_self {ts : List Tk} {i : Nat} {t : Tk} (h : ts[i]? = some t) : ts.set i t = ts := by
  apply List.ext_getElem?
  intro j
  rw [List.getElem?_set]
  split
  · rename_i e; subst e; rw [if_pos (List.getElem?_eq_some_iff.1 h).1, h]
  · rfl
theorem info32 : (Try.prog.info? 32).map (fun i => (i.zero, i.size, i.bytes)) = some (some (.agg #[.int .i64 0, .int .i64 0]), 2, 16) := by kernel_rfl
theorem und25 : Try.prog.underlying 25 = some (.slice 32) := by kernel_rfl
theorem run_appendE {w : World} {base : Nat} {v : Value} {xs : List Em} (y : Em) (hown : w.ownsRow base 32 2 v xs.length (cellsE xs)) (hl : xs.length ≤ 100000000) (hbase : base ≤ w.heap.size) :
    ∃ v1 w1, (Builtin.append_ #[25, 25] 25 #[v, .slice (some ⟨w.heap.size, 0, none⟩) 1 1]).run Try.prog (w.alloc (.cells #[.int .i64 y.task, .int .i64 y.value] 32)) = .ok v1 w1 ∧ w1.ownsRow base 32 2 v1 (xs ++ [y]).length (cellsE (xs ++ [y])) ∧ (w.alloc (.cells #[.int .i64 y.task, .int .i64 y.value] 32)).grownBy w1 v.ownBlock ∧ (v1.ownBlock = v.ownBlock ∨ v1.ownBlock = some (w.heap.size + 1)) := by
  obtain ⟨i0, hi, hzz⟩ := Option.map_eq_some_iff.1 info32
  simp only [Prod.mk.injEq] at hzz
  obtain ⟨hz0, hz1, hz2⟩ := hzz
  have hn := World.news_of_block (cs := #[.int .i64 y.task, .int .i64 y.value]) (t := 32) (fr := (0, 0)) (heap_alloc_new w _)
  obtain ⟨v1, w1, hrun, hown1, hg, _, hat⟩ := run_append_own_at (P := Try.prog) (w.alloc (.cells #[.int .i64 y.task, .int .i64 y.value] 32)) base 25 25 32 i0 _ 2 16 und25 hi hz0 hz1 hz2 rfl (by decide) v xs.length (cellsE xs) (hown.alloc _) ⟨w.heap.size, 0, none⟩ 1 1 [.int .i64 y.task, .int .i64 y.value] rfl
    (fun j u hu => by
      rcases j with _ | _ | j
      · exact hn 0 u (by simpa using hu)
      · exact hn 1 u (by simpa using hu)
      · simp at hu)
    (fun u hu => by
      simp only [List.mem_cons, List.not_mem_nil, or_false] at hu
      rcases hu with rfl | rfl <;> rfl) (by simp only [maxLen]; omega) (by omega) (by simp; omega)
  refine ⟨v1, w1, hrun, ?_, hg, ?_⟩
  · rw [List.length_append, cellsE_app]
    exact hown1
  · rcases hat with h | h
    · exact .inl h
    · exact .inr (by simpa using h)
/-- One more is told. -/
theorem St.emit {w0 w w1 : World} {g : Nat} {T : Nat → Nat} {cv : Nat → Value} {tv es v1 : Value} {D : Wd} {y : Em} {o : Obj} (h : St w0 w g T cv tv es D) (hown : w1.ownsRow w0.heap.size 32 2 v1 (D.emits ++ [y]).length (cellsE (D.emits ++ [y]))) (hg : (w.alloc o).grownBy w1 es.ownBlock) :
    WB w1 g tv es D.cells D.has ∧ (∀ i t, D.ts[i]? = some t → TB w1 (T i) t (cv i)) ∧ St w0 (w1.setCell ⟨g, 33, none⟩ v1) g T cv tv v1 { D with emits := D.emits ++ [y] } := by
  have ha : St w0 (w.alloc o) g T cv tv es D := h.below ((Below.refl _ w).alloc (Nat.le_refl _) _)
  have hes : ∀ k, es.ownBlock = some k → ∃ cl, (w.alloc o).heap[k]? = some (.cells cl 32 (0, 0)) := own_typed ha.em
  have hW : WB w1 g tv es D.cells D.has := ⟨(hg.block g ha.wb.lt (fun e => by obtain ⟨cl, hcl⟩ := hes g e.symm; exact ne_typed ha.wb.1 hcl (by decide) rfl)).trans ha.wb.1, ha.wb.2⟩
  have hT : ∀ i t, D.ts[i]? = some t → TB w1 (T i) t (cv i) := fun i t ht => by
    have h1 := (ha.tb i t ht).1
    exact ⟨(hg.block _ h1.lt (fun e => by obtain ⟨cl, hcl⟩ := hes _ e.symm; exact ne_typed h1.1 hcl (by decide) rfl)).trans h1.1, h1.2⟩
  refine ⟨hW, hT, ?_⟩
  have hbel : Below w0.heap.size w0 w1 := ha.bel.grown hg ha.bel.size (fun k hk => own_base ha.em k hk)
  refine ⟨hbel.setCell h.gb _, hW.setEs v1, h.gb, own_move ha.row (fun k hk => ?_), fun i t ht => ⟨⟨?_, (hT i t ht).2⟩, (h.tb i t ht).2⟩, h.cd, h.inj, own_move hown (fun k hk => heap_setCell_other _ _ _ _ (fun e => ?_))⟩
  · obtain ⟨cl, hcl⟩ := own_typed ha.row k hk
    rw [heap_setCell_other _ _ _ _ (ne_typed hcl ha.wb.1 (by decide))]
    exact hg.block k (own_lt ha.row k hk) (fun e => by obtain ⟨cl2, hcl2⟩ := hes k e.symm; exact ne_typed hcl hcl2 (by decide) rfl)
  · rw [heap_setCell_other _ _ _ _ (ne_typed (hT i t ht).1 hW.1 (by decide))]
    exact (hT i t ht).1
  · obtain ⟨cl, hcl⟩ := own_typed hown k hk
    exact ne_typed hcl hW.1 (by decide) e
def unC (c : Int) (u : Tk) : Tk := if u.cond = c then { u with cond := -1 } else u
theorem wakeL_all (c : Int) : ∀ l : List Tk, wakeL false c l = l.map (unC c)
  | [] => rfl
  | u :: t => by
    unfold wakeL
    rw [List.map_cons, ← wakeL_all c t]
    unfold unC
    by_cases h : u.cond = c
    · rw [if_pos h, if_pos h]; rfl
    · rw [if_neg h, if_neg h]
theorem wakeL_none (c : Int) : ∀ l : List Tk, (∀ u ∈ l, u.cond ≠ c) → wakeL true c l = l
  | [], _ => rfl
  | u :: t, h => by
    unfold wakeL
    rw [if_neg (h u (by simp)), wakeL_none c t (fun v hv => h v (List.mem_cons_of_mem _ hv))]
theorem wakeL_one (c : Int) : ∀ (l : List Tk) (k : Nat) (u : Tk), (∀ j v, j < k → l[j]? = some v → v.cond ≠ c) → l[k]? = some u → u.cond = c → wakeL true c l = l.set k { u with cond := -1 }
  | [], _, _, _, h, _ => by simp at h
  | v :: t, 0, u, _, h, hc => by
    obtain rfl : v = u := by simpa using h
    unfold wakeL
    rw [if_pos hc]
    rfl
  | v :: t, k + 1, u, hno, h, hc => by
    unfold wakeL
    rw [if_neg (hno 0 v (by omega) rfl), wakeL_one c t k u (fun j x hj hx => hno (j + 1) x (by omega) (by simpa using hx)) (by simpa using h) hc]
    rfl
def preK (c : Int) (l : List Tk) (k : Nat) : List Tk := (l.take k).map (unC c) ++ l.drop k
theorem preK_len (c : Int) (l : List Tk) (k : Nat) : (preK c l k).length = l.length := by
  unfold preK; simp; omega
theorem preK_get {c : Int} {l : List Tk} {k : Nat} (h : k < l.length) : (preK c l k)[k]? = l[k]? := by
  unfold preK
  rw [List.getElem?_append_right (by simp; omega), List.getElem?_drop]
  simp [Nat.min_eq_left (Nat.le_of_lt h)]
theorem preK_succ {c : Int} {l : List Tk} {k : Nat} {u : Tk} (h : l[k]? = some u) : preK c l (k + 1) = (preK c l k).set k (unC c u) := by
  have hk : k < l.length := (List.getElem?_eq_some_iff.1 h).1
  unfold preK
  rw [List.take_add_one, h, List.set_append_right _ _ (by simp; omega)]
  have e : l.drop k = u :: l.drop (k + 1) := by
    rw [List.drop_eq_getElem_cons hk]
    rw [List.getElem?_eq_getElem hk] at h
    injection h with h
    rw [h]
  rw [e]
  simp [Nat.min_eq_left (Nat.le_of_lt hk)]
theorem preK_end (c : Int) (l : List Tk) : preK c l l.length = l.map (unC c) := by unfold preK; simp
/-- What a step leaves. -/
def StepEnd (w0 w : World) (g : Nat) (T : Nat → Nat) (cv : Nat → Value) (tv es : Value) (n : Nat) (D' : Wd) (e : Ending) (w' : World) : Prop :=
  e = .returned (.tuple #[]) ∧ ∃ es', St w0 w' g T cv tv es' D' ∧ Fr (Own g T n es) w w' ∧ (es' = es ∨ es'.ownBlock = es.ownBlock ∨ ∃ b, es'.ownBlock = some b ∧ w.heap.size ≤ b)
theorem t_code {t t' : Tk} (h : t' = t) : t'.code = t.code := by rw [h]
theorem leaveW_set {D : Wd} {i : Nat} {t : Tk} {m : Nat} {t0 : Tk} : leaveW { D with ts := D.ts.set i t0 } i t m = leaveW D i t m := by
  unfold leaveW
  simp only [List.set_set]
section
variable {D : Wd} {i : Nat} {t : Tk} {x : I}
theorem doI1 (h : x.f0 = 1) : doI D i t x = { D with ts := D.ts.set i { t with r := t.r.set x.f1.toNat (D.cells.getD x.f2.toNat 0) } } := by unfold doI; rw [h]; rfl
theorem doI2 (h : x.f0 = 2) : doI D i t x = { D with ts := D.ts.set i t, cells := D.cells.set x.f1.toNat (t.r.getD x.f2.toNat 0) } := by unfold doI; rw [h]; rfl
theorem doI3 (h : x.f0 = 3) : doI D i t x = if D.cells.getD x.f1.toNat 0 = t.r.getD x.f2.toNat 0 then { D with ts := D.ts.set i { t with r := (t.r.set 3 0).set 3 1 }, cells := D.cells.set x.f1.toNat (t.r.getD x.f3.toNat 0) } else { D with ts := D.ts.set i { t with r := t.r.set 3 0 } } := by unfold doI; rw [h]; rfl
theorem doI4 (h : x.f0 = 4) : doI D i t x = { D with ts := D.ts.set i { t with r := t.r.set x.f1.toNat (wrap64 x.f2) } } := by unfold doI; rw [h]; rfl
theorem doI5 (h : x.f0 = 5) : doI D i t x = { D with ts := D.ts.set i { t with r := t.r.set x.f1.toNat (wrap64 (t.r.getD x.f1.toNat 0 + x.f2)) } } := by unfold doI; rw [h]; rfl
theorem doI6 (h : x.f0 = 6) : doI D i t x = if t.r.getD x.f1.toNat 0 ≠ 0 then { D with ts := D.ts.set i t } else { D with ts := D.ts.set i { t with pc := x.f2.toNat } } := by unfold doI; rw [h]; rfl
theorem doI7 (h : x.f0 = 7) : doI D i t x = { D with ts := D.ts.set i { t with pc := x.f2.toNat } } := by unfold doI; rw [h]; rfl
theorem doI8 (h : x.f0 = 8) : doI D i t x = { D with ts := D.ts.set i t, has := D.has.set x.f1.toNat (i : Int) } := by unfold doI; rw [h]; rfl
theorem doI9 (h : x.f0 = 9) : doI D i t x = leaveW D i t x.f1.toNat := by unfold doI; rw [h]; rfl
theorem doI10 (h : x.f0 = 10) : doI D i t x = if D.has.getD x.f2.toNat 0 ≠ (i : Int) then leaveW D i t x.f2.toNat else leaveW D i { t with cond := x.f1, wants := x.f2, pc := t.pc - 1 } x.f2.toNat := by unfold doI; rw [h]; rfl
theorem doI11 (h : x.f0 = 11) : doI D i t x = { D with ts := wakeL true x.f1 (D.ts.set i t) } := by unfold doI; rw [h]; rfl
theorem doI12 (h : x.f0 = 12) : doI D i t x = { D with ts := wakeL false x.f1 (D.ts.set i t) } := by unfold doI; rw [h]; rfl
theorem doI13 (h : x.f0 = 13) : doI D i t x = { D with ts := D.ts.set i t, emits := D.emits ++ [⟨(i : Int), t.r.getD x.f1.toNat 0⟩] } := by unfold doI; rw [h]; rfl
theorem doI14 (h : x.f0 = 14) : doI D i t x = { D with ts := D.ts.set i { t with ended := true } } := by unfold doI; rw [h]; rfl
end
end Go.Proofs.Ytkcjghdopmigoaa.SC
