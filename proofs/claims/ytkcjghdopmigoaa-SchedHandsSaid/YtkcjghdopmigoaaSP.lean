/- sched: what a run asks and does, where all lies. -/
import Derived.Test.YtkcjghdopmigoaaSO
namespace Go.Proofs.Ytkcjghdopmigoaa.SC
open Go.RowKit Go.Proofs.YtkcjghdopmigoaaW.PrintWords
set_option linter.unusedVariables false
set_option linter.unusedSimpArgs false
set_option maxRecDepth 100000

theorem St.rowAt {w0 w : World} {g : Nat} {T : Nat → Nat} {cv : Nat → Value} {es : Value} {D : Wd} {TA : Option Addr} {n tc : Nat} (h : St w0 w g T cv (.slice TA n tc) es D) (hn : D.ts.length = n) (h0 : 0 < n) : ∃ qt, TA = some ⟨qt, 0, none⟩ ∧ ∀ i, i < n → w.cell? ⟨qt, i, none⟩ = some (.pointer (some ⟨T i, 0, none⟩)) := by
  obtain ⟨q, cap, e, hc⟩ := h.tasks (by omega)
  injection e with e1 e2 e3
  exact ⟨q, e1, fun i hi => hc i (by omega)⟩
theorem can_at {w0 w : World} {g : Nat} {T : Nat → Nat} {cv : Nat → Value} {tv es : Value} {D : Wd} (h : St w0 w g T cv tv es D) {i : Nat} {t : Tk} (ht : D.ts[i]? = some t) (hk : TOk t) :
    Calls Try.prog 16 #[.pointer (some ⟨g, 0, none⟩), .pointer (some ⟨T i, 0, none⟩)] w fun e w' => e = .returned (.bool (canW D t)) ∧ Below w.heap.size w w' := by
  obtain ⟨A, c, e, hc, hC⟩ := h.cd i t ht
  have hT := (h.tb i t ht).1
  rw [e] at hT
  have hl := hk.len
  refine can_w D g (T i) tv es t A c w h.wb hT (keepC hC (Nat.le_refl _) h.bel) hk.run hk.w1 hk.w2 (fun h8 => ?_) (by omega)
  by_cases hp : t.pc < t.code.length
  · have hg := hk.ins hp
    unfold goodB at hg
    rw [h8] at hg
    exact celB_iff.1 hg
  · exfalso
    have : insT t = zI := by
      unfold insT
      rw [List.getD_eq_getElem?_getD, List.getElem?_eq_none (by omega)]
      rfl
    rw [this] at h8
    exact absurd h8 (by decide)
theorem ends_at {w0 w : World} {g : Nat} {T : Nat → Nat} {cv : Nat → Value} {tv es : Value} {D : Wd} (h : St w0 w g T cv tv es D) {i : Nat} {t : Tk} (ht : D.ts[i]? = some t) :
    Calls Try.prog 15 #[.pointer (some ⟨T i, 0, none⟩)] w fun e w' => e = .returned (.tuple #[]) ∧ St w0 w' g T cv tv es (endD D i) ∧ Fr (Own g T D.ts.length es) w w' := by
  obtain ⟨A, c, e, hc, hC⟩ := h.cd i t ht
  have hT := (h.tb i t ht).1
  rw [e] at hT
  refine (ends_w (T i) t A c w hT).mono ?_
  rintro e2 w' ⟨rfl, h1, v, h2⟩
  refine ⟨rfl, ?_, ?_⟩
  · have hT2 : TB ((w.drew).setCell ⟨T i, 6, none⟩ v) (T i) (endT t) (cv i) := by rw [e, ← h2]; exact h1
    have h3 := h.drew.setT (t' := endT t) ht rfl hT2
    rw [← h2] at h3
    have hm : endD D i = { D with ts := D.ts.set i (endT t) } := by
      unfold endD
      congr 1
      apply List.ext_getElem?
      intro j
      rw [List.getElem?_modify, List.getElem?_set]
      by_cases hij : i = j
      · subst hij
        rw [if_pos rfl, if_pos (List.getElem?_eq_some_iff.1 ht).1, ht]
        simp
      · rw [if_neg hij]
        simp [hij]
    rw [hm]
    exact h3
  · rw [h2]
    exact (Fr.refl _ w).drew.set _ _ (.inr (.inl ⟨i, (List.getElem?_eq_some_iff.1 ht).1, rfl⟩))
/-- Who can go, of the first k. -/
def ableZ (D : Wd) (k : Nat) : List Int := ((List.range k).filter (canI D)).map (fun i : Nat => (i : Int))
theorem ableZ_succ (D : Wd) (k : Nat) : ableZ D (k + 1) = ableZ D k ++ if canI D k = true then [(k : Int)] else [] := by
  unfold ableZ
  rw [List.range_succ, List.filter_append, List.map_append]
  congr 1
  by_cases h : canI D k = true
  · rw [if_pos h, List.filter_cons_of_pos h]; rfl
  · rw [if_neg h, List.filter_cons_of_neg h]; rfl
theorem ableZ_le (D : Wd) (k : Nat) : (ableZ D k).length ≤ k := by
  unfold ableZ
  rw [List.length_map]
  exact Nat.le_trans (List.length_filter_le _ _) (by simp)
theorem ableZ_all (D : Wd) : ableZ D D.ts.length = (ableL D).map (fun i : Nat => (i : Int)) := rfl
theorem canI_at {D : Wd} {i : Nat} {t : Tk} (h : D.ts[i]? = some t) : canI D i = canW D t := by unfold canI; rw [h]
def absP (p : Int) : Int := if p < 0 then -p - 1 else p
theorem pickN_lt {p : Int} {n : Nat} (h : 0 < n) : pickN p n < n ∧ ((pickN p n : Nat) : Int) = (absP p).tmod n := by
  unfold pickN absP
  by_cases hp : p < 0
  · rw [if_pos hp, if_pos hp]
    have h1 := Int.emod_nonneg (-p - 1) (show (n : Int) ≠ 0 by omega)
    have h2 := Int.emod_lt_of_pos (-p - 1) (show (0 : Int) < n by omega)
    rw [Int.tmod_eq_emod_of_nonneg (by omega)]
    omega
  · rw [if_neg hp, if_neg hp]
    have h1 := Int.emod_nonneg p (show (n : Int) ≠ 0 by omega)
    have h2 := Int.emod_lt_of_pos p (show (0 : Int) < n by omega)
    rw [Int.tmod_eq_emod_of_nonneg (by omega)]
    omega
/-- One turn, of a task that can go. -/
theorem able_at {D : Wd} {j : Nat} (h : j < (ableL D).length) : ∃ m t, (ableL D).getD j 0 = m ∧ D.ts[m]? = some t ∧ canW D t = true ∧ m < D.ts.length := by
  have hm : (ableL D)[j] ∈ ableL D := List.getElem_mem h
  have e : (ableL D).getD j 0 = (ableL D)[j] := by rw [List.getD_eq_getElem?_getD, List.getElem?_eq_getElem h]; rfl
  unfold ableL at hm
  rw [List.mem_filter, List.mem_range] at hm
  obtain ⟨h1, h2⟩ := hm
  refine ⟨_, _, e, List.getElem?_eq_getElem h1, ?_, h1⟩
  rw [canI_at (List.getElem?_eq_getElem h1)] at h2
  exact h2
theorem turnW_eq {D : Wd} {p : Int} {m : Nat} {t : Tk} (h : (ableL D).getD (pickN p (ableL D).length) 0 = m) (ht : D.ts[m]? = some t) : turnW D p = endD (stepW D m t) m := by
  unfold turnW goD
  rw [h, ht]
theorem loopW_end (s : Nat) (D : Wd) : loopW s D [] = (D, s) := rfl
theorem loopW_stop {s : Nat} {D : Wd} {l : List Int} (h : ableL D = []) : loopW s D l = (D, s) := by
  cases l with
  | nil => rfl
  | cons p t => simp [loopW, h]
theorem loopW_go {s : Nat} {D : Wd} {p : Int} {l : List Int} (h : ableL D ≠ []) : loopW s D (p :: l) = loopW (s + 1) (turnW D p) l := by
  show (if (ableL D).isEmpty = true then _ else _) = _
  rw [if_neg (by simpa using h)]
theorem loopW_app : ∀ (l1 l2 : List Int) (s : Nat) (D : Wd), loopW s D (l1 ++ l2) = loopW (loopW s D l1).2 (loopW s D l1).1 l2
  | [], l2, s, D => rfl
  | p :: t, l2, s, D => by
    by_cases h : ableL D = []
    · rw [loopW_stop h, loopW_stop h, loopW_stop h]
    · rw [List.cons_append, loopW_go h, loopW_go h]
      exact loopW_app t l2 _ _
theorem turn_len {D : Wd} (hD : DOk D) {m : Nat} {t : Tk} (ht : D.ts[m]? = some t) (hcan : canW D t = true) : (stepW D m t).ts.length = D.ts.length := (step_ok (hD.t m t ht) ((hD.t m t ht).run (canW_yes hcan).1)).1
theorem endD_len (D : Wd) (i : Nat) : (endD D i).ts.length = D.ts.length := by unfold endD; simp
theorem turn_emits {D : Wd} {m : Nat} {t : Tk} : (endD (stepW D m t) m).emits.length ≤ D.emits.length + 1 := by
  show (stepW D m t).emits.length ≤ _
  rcases emits_step (D := D) (i := m) (t := t) with h | ⟨v, h⟩ <;> rw [h]
  · omega
  · simp
theorem xor_neg {x : Int} (h1 : -9223372036854775808 ≤ x) (h2 : x < 0) : bits .xor .i64 (-1) x = -x - 1 := by
  have e1 : (BitVec.ofInt 64 (-1)) = BitVec.allOnes 64 := by decide
  have e2 : bits .xor .i64 (-1) x = IntKind.i64.wrap (((BitVec.ofInt 64 (-1)) ^^^ (BitVec.ofInt 64 x)).toNat : Int) := rfl
  rw [e2, e1, BitVec.allOnes_xor, BitVec.toNat_not, BitVec.toNat_ofInt]
  have e3 : x % ((2 ^ 64 : Nat) : Int) = x + 18446744073709551616 := by omega
  rw [e3, IntWalk.i64_in _ (by omega)]
  omega
set_option maxHeartbeats 4000000 in
theorem state_at {w0 w : World} {g : Nat} {T : Nat → Nat} {cv : Nat → Value} {tv es : Value} {D : Wd} (h : St w0 w g T cv tv es D) {i : Nat} {t : Tk} (ht : D.ts[i]? = some t) (hk : TOk t) :
    Calls Try.prog 18 #[.pointer (some ⟨g, 0, none⟩), .pointer (some ⟨T i, 0, none⟩)] w fun e w' => e = .returned (.int .i64 (stateW D t)) ∧ Below w.heap.size w w' := by
  have HC := Lib.hid (can_at h ht hk)
  obtain ⟨c0, c1, c6, c7, c8, c9⟩ := (h.tb i t ht).1.cells
  clear h ht hk c0 c1 c8 c9
  obtain ⟨b, hb⟩ : ∃ b, T i = b := ⟨_, rfl⟩
  rw [hb] at c6 c7 HC ⊢
  clear hb
  cases hbd : t.bad
  · have Hbd := Lib.hid hbd
    rw [hbd] at c7
    cases he : t.ended
    · have He := Lib.hid he
      rw [he] at c6
      clear he hbd
      go_enter Try.func18, Try.ntmps18
      go_wp2_with fail
      refine HC.out.mono ?_
      rintro e w2 ⟨rfl, b2⟩
      cases hc : canW D t
      · have Hc := Lib.hid (show stateW D t = 1 from by unfold stateW; rw [Hbd.out, He.out, hc]; rfl)
        have Hb := Lib.hid b2
        clear hc b2
        go_wp2_with fail
        go_ret
        exact ⟨by rw [Hc.out]; rfl, Hb.out⟩
      · have Hc := Lib.hid (show stateW D t = 0 from by unfold stateW; rw [Hbd.out, He.out, hc]; rfl)
        have Hb := Lib.hid b2
        clear hc b2
        go_wp2_with fail
        go_ret
        exact ⟨by rw [Hc.out]; rfl, Hb.out⟩
    · have He := Lib.hid (show stateW D t = 2 from by unfold stateW; rw [Hbd.out, he]; rfl)
      rw [he] at c6
      clear he hbd
      go_enter Try.func18, Try.ntmps18
      go_wp2_with fail
      go_ret
      exact ⟨by rw [He.out]; rfl, Below.refl _ _⟩
  · have Hbd := Lib.hid (show stateW D t = 3 from by unfold stateW; rw [hbd]; rfl)
    rw [hbd] at c7
    clear hbd
    go_enter Try.func18, Try.ntmps18
    go_wp2_with fail
    go_ret
    exact ⟨by rw [Hbd.out]; rfl, Below.refl _ _⟩
/-- A row of numbers grows beside. -/
theorem St.grown {w0 w w1 : World} {g : Nat} {T : Nat → Nat} {cv : Nat → Value} {tv es : Value} {D : Wd} (h : St w0 w g T cv tv es D) {row : Option Nat} (hg : w.grownBy w1 row) (hr : ∀ k, row = some k → w0.heap.size ≤ k ∧ ∃ cl, w.heap[k]? = some (Obj.cells cl 3 (0, 0))) : St w0 w1 g T cv tv es D ∧ ∀ q a b c s, RB w q a b c s → RB w1 q a b c s := by
  have hm : ∀ {p t : Nat} {cl : Array Value} {f : Nat × Nat}, w.heap[p]? = some (Obj.cells cl t f) → t ≠ 3 → w1.heap[p]? = w.heap[p]? := fun {p t cl f} hp ht => hg.block _ (Array.getElem?_eq_some_iff.1 hp).1 (fun e => by
    obtain ⟨_, cl2, hcl2⟩ := hr p e.symm
    exact ne_typed hp hcl2 ht rfl)
  refine ⟨⟨h.bel.grown hg h.bel.size (fun k hk => (hr k hk).1), ⟨(hm h.wb.1 (by decide)).trans h.wb.1, h.wb.2⟩, h.gb, own_move h.row (fun k hk => ?_), fun j t2 hj => ?_, h.cd, h.inj, own_move h.em (fun k hk => ?_)⟩, fun q a b c s hq => (hm hq (by decide)).trans hq⟩
  · obtain ⟨cl, hcl⟩ := own_typed h.row k hk
    exact hm hcl (by decide)
  · obtain ⟨h3, h4⟩ := h.tb j t2 hj
    exact ⟨⟨(hm h3.1 (by decide)).trans h3.1, h3.2⟩, h4⟩
  · obtain ⟨cl, hcl⟩ := own_typed h.em k hk
    exact hm hcl (by decide)
/-- One state more is told. -/
theorem states_push {w0 w : World} {g : Nat} {T : Nat → Nat} {cv : Nat → Value} {tv es : Value} {R : Wd} (h : St w0 w g T cv tv es R) {q o i sc : Nat} {a b a' b' c' : Value} {s s' : Int} {As : Option Addr} (hq : RB w q a' b' c' s') (ho : RB w o a b (.slice As i sc) s) (hlo : w0.heap.size ≤ o) (hqo : q ≠ o) (hw : w.ownsRow w0.heap.size 3 1 (.slice As i sc) i (nums ((R.ts.take i).map (stateW R)))) {t : Tk} (ht : R.ts[i]? = some t) (hi : i ≤ 100) :
    ∃ A1 c1 w4, (Builtin.append_ #[24, 24] 24 #[.slice As i sc, .slice (some ⟨w.heap.size, 0, none⟩) 1 1]).run Try.prog (w.alloc (.cells #[.int .i64 (stateW R t)] 3)) = .ok (.slice A1 (i + 1) c1) w4 ∧ w4.cell? ⟨o, 2, none⟩ = some (.slice As i sc) ∧ w4.frozen? ⟨o, 2, none⟩ = false ∧
      St w0 (w4.setCell ⟨o, 2, none⟩ (.slice A1 (i + 1) c1)) g T cv tv es R ∧ RB (w4.setCell ⟨o, 2, none⟩ (.slice A1 (i + 1) c1)) q a' b' c' s' ∧ RB (w4.setCell ⟨o, 2, none⟩ (.slice A1 (i + 1) c1)) o a b (.slice A1 (i + 1) c1) s ∧ (w4.setCell ⟨o, 2, none⟩ (.slice A1 (i + 1) c1)).ownsRow w0.heap.size 3 1 (.slice A1 (i + 1) c1) (i + 1) (nums ((R.ts.take (i + 1)).map (stateW R))) := by
  have hin : i < R.ts.length := (List.getElem?_eq_some_iff.1 ht).1
  obtain ⟨W2, hW2⟩ : ∃ W2, w.alloc (.cells #[.int .i64 (stateW R t)] 3) = W2 := ⟨_, rfl⟩
  have b2 : Below w.heap.size w W2 := by rw [← hW2]; exact (Below.refl _ _).alloc (Nat.le_refl _) _
  have hB : W2.cell? ⟨w.heap.size, 0, none⟩ = some (.int .i64 (stateW R t)) := by rw [← hW2]; exact cell_top rfl rfl
  have hd : ((R.ts.take i).map (stateW R)).length = i := by simp; omega
  have h2 := h.below b2
  have o2 : W2.ownsRow w0.heap.size 3 1 (.slice As i sc) i (nums ((R.ts.take i).map (stateW R))) := own_move hw (fun k hk => b2.block k (own_lt hw k hk))
  have o2' : W2.ownsRow w0.heap.size 3 1 (.slice As i sc) ((R.ts.take i).map (stateW R)).length (nums ((R.ts.take i).map (stateW R))) := by rw [hd]; exact o2
  obtain ⟨v1, w4, hrun, hown, hg, _⟩ := run_appendI o2' hB (by rw [hd]; omega) h2.bel.size
  have htk : (R.ts.take i).map (stateW R) ++ [stateW R t] = (R.ts.take (i + 1)).map (stateW R) := by
    rw [List.take_add_one, ht, List.map_append]; rfl
  rw [htk] at hown
  have hl : ((R.ts.take (i + 1)).map (stateW R)).length = i + 1 := by simp; omega
  rw [hl] at hown
  obtain ⟨A1, c1, rfl⟩ := own_form' hown
  rw [hW2]
  obtain ⟨h4, k4⟩ := h2.grown hg (fun k hk => ⟨own_base o2 k hk, own_typed o2 k hk⟩)
  have q4 := k4 _ _ _ _ _ (hq.below b2)
  have o4 := k4 _ _ _ _ _ (ho.below b2)
  refine ⟨A1, c1, w4, hrun, o4.cells.2.2.1, o4.frozen 2, h4.off o4 hlo 2 _, q4.other _ _ hqo, o4.set2 _, own_move hown (fun k hk => heap_setCell_other _ _ _ _ (fun e => ?_))⟩
  obtain ⟨cl, hcl⟩ := own_typed hown k hk
  exact ne_typed hcl o4 (by decide) e
theorem nums_reps {R : Int → List Value → Prop} (hR : ∀ x, R x [.int .i64 x]) : ∀ (xs : List Int), Reps R 1 xs (nums xs)
  | [] => ⟨rfl, fun j p h => by simp at h⟩
  | x :: t => ⟨by simp [nums], fun j p hj => by
    rcases j with _ | j
    · obtain rfl : x = p := by simpa using hj
      exact hR x
    · have := (nums_reps hR t).2 j p (by simpa using hj)
      rw [show (j + 1) * 1 = 1 + j * 1 by omega, ← List.drop_drop]
      exact this⟩
theorem R_ofI {W : World} {base : Nat} {v : Value} {xs : List Int} (h : W.ownsRow base 3 1 v xs.length (nums xs)) : Kd.R (Kd.int .i64) 3 W base (fun _ => True) v xs :=
  ⟨fun _ _ => trivial, nums xs, h, nums_reps (R := (Kd.int .i64).M W base _) (fun x => rfl) xs⟩
theorem WB.readC {w : World} {g : Nat} {tv es : Value} {c h : List Int} (k : WB w g tv es c h) : Kd.C (Kd.int .i64) w (some ⟨g, 1, none⟩) 16 c := by
  refine ⟨k.2.1, by omega, fun _ => ⟨_, rfl, fun j p hj => ⟨[.int .i64 p], rfl, rfl, fun i u hu => ?_⟩⟩⟩
  rcases i with _ | i
  · obtain rfl : Value.int .i64 p = u := by simpa using hu
    have hj16 : j < 16 := by have := (List.getElem?_eq_some_iff.1 hj).1; have := k.2.1; omega
    have hc := k.cel hj16
    rw [List.getD_eq_getElem?_getD, hj] at hc
    have ea : (Addr.mk g 1 none).add (j * (Kd.int .i64).sz + 0) = ⟨g, 1 + j, none⟩ := by
      have e1 : j * (Kd.int .i64).sz + 0 = j := by show j * 1 + 0 = j; omega
      rw [e1]
      unfold Addr.add
      by_cases hj0 : j = 0
      · subst hj0; rfl
      · simp [hj0]
    rw [ea]
    exact hc
  · simp at hu
end Go.Proofs.Ytkcjghdopmigoaa.SC
