/- sched: all that the program keeps, where it lies; what a store does to it; a mutex is given back; what a task is. -/
import Derived.Test.YtkcjghdopmigoaaSG
namespace Go.Proofs.Ytkcjghdopmigoaa.SC
open Go.RowKit Go.Proofs.YtkcjghdopmigoaaW.PrintWords
set_option linter.unusedVariables false
set_option linter.unusedSimpArgs false
set_option maxRecDepth 100000

/-- All is as it was, but some blocks. -/
structure Fr (O : Nat → Prop) (w w1 : World) : Prop where
  os : w1.os = w.os
  tape : w1.tape = w.tape
  output : w1.output = w.output
  size : w.heap.size ≤ w1.heap.size
  block : ∀ b, b < w.heap.size → ¬ O b → w1.heap[b]? = w.heap[b]?
theorem Fr.refl (O : Nat → Prop) (w : World) : Fr O w w := ⟨rfl, rfl, rfl, Nat.le_refl _, fun _ _ _ => rfl⟩
theorem Fr.trans {O O' : Nat → Prop} {w w1 w2 : World} (h : Fr O w w1) (k : Fr O' w1 w2) (ho : ∀ b, b < w.heap.size → O' b → O b) : Fr O w w2 :=
  ⟨k.os.trans h.os, k.tape.trans h.tape, k.output.trans h.output, Nat.le_trans h.size k.size, fun b hb hn => (k.block b (by have := h.size; omega) (fun h1 => hn (ho b hb h1))).trans (h.block b hb hn)⟩
theorem Fr.mono {O O' : Nat → Prop} {w w1 : World} (h : Fr O w w1) (ho : ∀ b, b < w.heap.size → O b → O' b) : Fr O' w w1 :=
  ⟨h.os, h.tape, h.output, h.size, fun b hb hn => h.block b hb (fun h1 => hn (ho b hb h1))⟩
theorem Fr.drew {O : Nat → Prop} {w w1 : World} (h : Fr O w w1) : Fr O w w1.drew := ⟨h.os, h.tape, h.output, h.size, h.block⟩
theorem Fr.set {O : Nat → Prop} {w w1 : World} (h : Fr O w w1) (a : Addr) (v : Value) (ha : O a.block) : Fr O w (w1.setCell a v) := by
  refine ⟨h.os, h.tape, h.output, by simpa [World.setCell] using h.size, fun b hb hn => ?_⟩
  rw [heap_setCell_other _ _ _ _ (fun e => hn (by rw [e]; exact ha))]
  exact h.block b hb hn
theorem Fr.of_below {O : Nat → Prop} {w w1 : World} (h : Below w.heap.size w w1) : Fr O w w1 := ⟨h.os, h.tape, h.output, h.size, fun b hb _ => h.block b hb⟩
theorem Fr.below {O : Nat → Prop} {w w1 w2 : World} (h : Fr O w w1) (k : Below w1.heap.size w1 w2) : Fr O w w2 := h.trans (Fr.of_below (O := O) k) (fun _ _ h => h)
theorem Fr.to_below {O : Nat → Prop} {B : Nat} {w w1 : World} (h : Fr O w w1) (hB : B ≤ w.heap.size) (hO : ∀ b, O b → B ≤ b) : Below B w w1 :=
  ⟨h.os, h.tape, h.output, h.size, fun b hb => h.block b (by omega) (fun h1 => by have := hO b h1; omega)⟩

def cellsE : List Em → List Value
  | [] => []
  | x :: t => [.int .i64 x.task, .int .i64 x.value] ++ cellsE t
theorem cellsE_app : ∀ xs ys : List Em, cellsE (xs ++ ys) = cellsE xs ++ cellsE ys
  | [], _ => rfl
  | x :: t, ys => by show _ ++ cellsE (t ++ ys) = (_ ++ cellsE t) ++ _; rw [cellsE_app t ys, List.append_assoc]
theorem cellsE_len : ∀ xs : List Em, (cellsE xs).length = xs.length * 2
  | [] => rfl
  | x :: t => by show ([_, _] ++ cellsE t).length = _; rw [List.length_append, cellsE_len t]; simp; omega
theorem cellsE_reps {R : Em → List Value → Prop} (hR : ∀ x, R x [.int .i64 x.task, .int .i64 x.value]) : ∀ (xs : List Em), Reps R 2 xs (cellsE xs)
  | [] => ⟨rfl, fun j p h => by simp at h⟩
  | x :: t => ⟨cellsE_len _, fun j p hj => by
    rcases j with _ | j
    · obtain rfl : x = p := by simpa using hj
      exact hR x
    · have := (cellsE_reps hR t).2 j p (by simpa using hj)
      rw [show (j + 1) * 2 = 2 + j * 2 by omega, ← List.drop_drop]
      exact this⟩
theorem R_ofE {W : World} {base : Nat} {v : Value} {xs : List Em} (h : W.ownsRow base 32 2 v xs.length (cellsE xs)) : Kd.R kE 32 W base (fun _ => True) v xs :=
  ⟨fun _ _ => trivial, cellsE xs, h, cellsE_reps (fun x => kE_mkM _ _ _ x) xs⟩

def ptrs (T : Nat → Nat) (n : Nat) : List Value := (List.range n).map (fun i => Value.pointer (some ⟨T i, 0, none⟩))
theorem ptrs_get {T : Nat → Nat} {n i : Nat} (h : i < n) : (ptrs T n)[i]? = some (Value.pointer (some ⟨T i, 0, none⟩)) := by simp [ptrs, h]
/-- All that the program keeps, and where. -/
structure St (w0 w : World) (g : Nat) (T : Nat → Nat) (cv : Nat → Value) (tv es : Value) (D : Wd) : Prop where
  bel : Below w0.heap.size w0 w
  wb : WB w g tv es D.cells D.has
  gb : w0.heap.size ≤ g
  row : w.ownsRow w0.heap.size 48 1 tv D.ts.length (ptrs T D.ts.length)
  tb : ∀ i t, D.ts[i]? = some t → TB w (T i) t (cv i) ∧ w0.heap.size ≤ T i
  cd : ∀ i t, D.ts[i]? = some t → ∃ A c, cv i = .slice A t.code.length c ∧ t.code.length ≤ c ∧ Kd.C kI w0 A t.code.length t.code
  inj : ∀ i j, i < D.ts.length → j < D.ts.length → T i = T j → i = j
  em : w.ownsRow w0.heap.size 32 2 es D.emits.length (cellsE D.emits)
def Own (g : Nat) (T : Nat → Nat) (n : Nat) (es : Value) (b : Nat) : Prop := b = g ∨ (∃ i, i < n ∧ b = T i) ∨ es.ownBlock = some b
section
variable {w0 w w1 : World} {g : Nat} {T : Nat → Nat} {cv : Nat → Value} {tv es : Value} {D : Wd}
theorem St.below (h : St w0 w g T cv tv es D) (hb : Below w.heap.size w w1) : St w0 w1 g T cv tv es D :=
  ⟨h.bel.trans (hb.mono h.bel.size), h.wb.below hb, h.gb, own_move h.row (fun k hk => hb.block k (own_lt h.row k hk)), fun i t ht => ⟨(h.tb i t ht).1.below hb, (h.tb i t ht).2⟩, h.cd, h.inj, own_move h.em (fun k hk => hb.block k (own_lt h.em k hk))⟩
theorem St.lt (h : St w0 w g T cv tv es D) {b : Nat} (hb : Own g T D.ts.length es b) : b < w.heap.size := by
  rcases hb with rfl | ⟨i, hi, rfl⟩ | hb
  · exact h.wb.lt
  · exact (h.tb i _ (List.getElem?_eq_getElem hi)).1.lt
  · exact own_lt h.em b hb
theorem St.lo (h : St w0 w g T cv tv es D) {b : Nat} (hb : Own g T D.ts.length es b) : w0.heap.size ≤ b := by
  rcases hb with rfl | ⟨i, hi, rfl⟩ | hb
  · exact h.gb
  · exact (h.tb i _ (List.getElem?_eq_getElem hi)).2
  · exact own_base h.em b hb
/-- The tasks' row. -/
theorem St.tasks (h : St w0 w g T cv tv es D) (hn : 0 < D.ts.length) : ∃ q cap, tv = .slice (some ⟨q, 0, none⟩) D.ts.length cap ∧ ∀ i, i < D.ts.length → w.cell? ⟨q, i, none⟩ = some (.pointer (some ⟨T i, 0, none⟩)) := by
  rcases h.row.2 with ⟨_, h0⟩ | ⟨q, cap, cur, rfl, hq, hh, h1, h2, h3, h4⟩
  · omega
  · refine ⟨q, cap, rfl, fun i hi => ?_⟩
    have hp := ptrs_get (T := T) hi
    rw [← h4, List.getElem?_take] at hp
    split at hp
    · simp [World.cell?, hh]
      simpa using hp
    · cases hp
theorem ne_typed {w : World} {a b t t' : Nat} {c c' : Array Value} {f f' : Nat × Nat} (h : w.heap[a]? = some (.cells c t f)) (h' : w.heap[b]? = some (.cells c' t' f')) (hne : t ≠ t') : a ≠ b := by
  rintro rfl
  rw [h] at h'
  injection h' with h'
  injection h' with _ ht
  exact hne ht
/-- A store into a task. -/
theorem St.setT (h : St w0 w g T cv tv es D) {i k : Nat} {t t' : Tk} {v : Value} (ht : D.ts[i]? = some t) (hc : t'.code = t.code) (hT : TB (w.setCell ⟨T i, k, none⟩ v) (T i) t' (cv i)) :
    St w0 (w.setCell ⟨T i, k, none⟩ v) g T cv tv es { D with ts := D.ts.set i t' } := by
  have hi : i < D.ts.length := (List.getElem?_eq_some_iff.1 ht).1
  obtain ⟨h1, h2⟩ := h.tb i t ht
  have hg : g ≠ T i := ne_typed h.wb.1 h1.1 (by decide)
  refine ⟨h.bel.setCell h2 _, ⟨(heap_setCell_other _ _ _ _ hg).trans h.wb.1, h.wb.2⟩, h.gb, ?_, fun j t2 hj => ?_, fun j t2 hj => ?_, ?_, own_move h.em (fun k hk => heap_setCell_other _ _ _ _ (fun e => ?_))⟩
  · show (World.setCell _ _ _).ownsRow _ _ _ _ (D.ts.set i t').length (ptrs T (D.ts.set i t').length)
    rw [List.length_set]
    refine own_move h.row (fun k hk => heap_setCell_other _ _ _ _ (fun e => ?_))
    obtain ⟨cl, hcl⟩ := own_typed h.row k hk
    exact ne_typed hcl h1.1 (by decide) e
  · replace hj : (D.ts.set i t')[j]? = some t2 := hj
    rw [List.getElem?_set] at hj
    split at hj
    · rename_i e
      subst e
      cases hj
      exact ⟨hT, h2⟩
    · rename_i e
      obtain ⟨h3, h4⟩ := h.tb j t2 hj
      exact ⟨⟨(heap_setCell_other _ _ _ _ (fun e2 => e (h.inj i j hi (List.getElem?_eq_some_iff.1 hj).1 e2.symm))).trans h3.1, h3.2⟩, h4⟩
  · replace hj : (D.ts.set i t')[j]? = some t2 := hj
    rw [List.getElem?_set] at hj
    split at hj
    · rename_i e
      subst e
      cases hj
      rw [hc]
      exact h.cd _ t ht
    · exact h.cd j t2 hj
  · intro a b ha hb
    have ha : a < (D.ts.set i t').length := ha
    have hb : b < (D.ts.set i t').length := hb
    rw [List.length_set] at ha hb
    exact h.inj a b ha hb
  · obtain ⟨cl, hcl⟩ := own_typed h.em k hk
    exact ne_typed hcl h1.1 (by decide) e
/-- A store into what the tasks share. -/
theorem St.setG (h : St w0 w g T cv tv es D) {k : Nat} {v : Value} {c hs : List Int} (hW : WB (w.setCell ⟨g, k, none⟩ v) g tv es c hs) :
    St w0 (w.setCell ⟨g, k, none⟩ v) g T cv tv es { D with cells := c, has := hs } := by
  refine ⟨h.bel.setCell h.gb _, hW, h.gb, own_move h.row (fun k hk => heap_setCell_other _ _ _ _ (fun e => ?_)), fun j t2 hj => ?_, h.cd, h.inj, own_move h.em (fun k hk => heap_setCell_other _ _ _ _ (fun e => ?_))⟩
  · obtain ⟨cl, hcl⟩ := own_typed h.row k hk
    exact ne_typed hcl h.wb.1 (by decide) e
  · obtain ⟨h3, h4⟩ := h.tb j t2 hj
    exact ⟨⟨(heap_setCell_other _ _ _ _ (ne_typed h3.1 h.wb.1 (by decide))).trans h3.1, h3.2⟩, h4⟩
  · obtain ⟨cl, hcl⟩ := own_typed h.em k hk
    exact ne_typed hcl h.wb.1 (by decide) e
theorem St.drew (h : St w0 w g T cv tv es D) : St w0 w.drew g T cv tv es D := h.below ((Below.refl _ w).drew)
end
set_option maxHeartbeats 4000000 in
theorem leave_w {w0 w : World} {g : Nat} {T : Nat → Nat} {cv : Nat → Value} {tv es : Value} {D : Wd} (h : St w0 w g T cv tv es D) {i : Nat} {t : Tk} (ht : D.ts[i]? = some t) (m : Nat) (hm : m < 16) (hi : i ≤ 1000) :
    Calls Try.prog 21 #[.pointer (some ⟨g, 0, none⟩), .int .i64 (i : Int), .int .i64 (m : Int)] w fun e w' => e = .returned (.tuple #[]) ∧ St w0 w' g T cv tv es (leaveW D i t m) ∧ Fr (Own g T D.ts.length es) w w' := by
  have hin : i < D.ts.length := (List.getElem?_eq_some_iff.1 ht).1
  obtain ⟨q, cap, htv, hrow⟩ := h.tasks (by omega)
  have c0 := h.wb.cells.1
  have cm := h.wb.hasc hm
  have ci := hrow i hin
  have H := Lib.hid (And.intro h ht)
  have f7 := (h.tb i t ht).1.frozen 7
  have c7 := (h.tb i t ht).1.cells.2.2.2.1
  have fm := h.wb.frozen (17 + m)
  obtain ⟨n, hn⟩ : ∃ n, D.ts.length = n := ⟨_, rfl⟩
  have Hn := Lib.hid hn
  rw [hn] at htv hin
  rw [htv] at c0
  obtain ⟨v, hv⟩ : ∃ v, D.has.getD m 0 = v := ⟨_, rfl⟩
  have Hv := Lib.hid hv
  rw [hv] at cm
  have p0 : (0 ≤ (m : Int)) = True := by simp
  have p1 : ((m : Int) < 16) = True := eq_true (by omega)
  have p2 : (m < 16) = True := eq_true hm
  have q0 : (0 ≤ (i : Int)) = True := by simp
  have q1 : ((i : Int) < n) = True := eq_true (by omega)
  have q2 : (i < n) = True := eq_true hin
  clear h ht hn htv hrow hv
  by_cases hvi : v = (i : Int)
  · have Hf := Lib.hid (show leaveW D i t m = { D with ts := D.ts.set i t, has := D.has.set m (-1) } from by unfold leaveW; rw [if_neg (by rw [Hv.out, hvi]; simp)])
    have hs : D.ts.set i t = D.ts := by
      apply List.ext_getElem?
      intro j
      rw [List.getElem?_set]
      split
      · rename_i e; subst e; rw [if_pos (by rw [Hn.out]; exact hin), H.out.2]
      · rfl
    have Hs := Lib.hid hs
    rw [hvi] at cm
    clear hvi hs
    go_enter Try.func21, Try.ntmps21
    go_wp2_with fail
    go_end0
    refine ⟨rfl, ?_, (Fr.refl _ _).set _ _ (.inl rfl)⟩
    rw [Hf.out, Hs.out]
    exact H.out.1.setG (H.out.1.wb.setHas hm (-1))
  · have d0 : (v == (i : Int)) = false := by simpa using hvi
    have Hf := Lib.hid (show leaveW D i t m = { D with ts := D.ts.set i { t with bad := true } } from by unfold leaveW; rw [if_pos (by rw [Hv.out]; exact hvi)])
    have HT := Lib.hid (show Own g T D.ts.length es (T i) from .inr (.inl ⟨i, by rw [Hn.out]; exact hin, rfl⟩))
    clear hvi
    go_enter Try.func21, Try.ntmps21
    go_wp2_with fail
    refine bodyPost_ret (results_none rfl _ _ _) rfl ?_
    refine ⟨rfl, ?_, (Fr.refl _ _).set _ _ HT.out⟩
    rw [Hf.out]
    exact H.out.1.setT H.out.2 rfl ((H.out.1.tb i t H.out.2).1.setBad true)
end Go.Proofs.Ytkcjghdopmigoaa.SC
