/- Are two lists of items one (contract written by the kit's print program, cut out of PCx6); a list of lists behind one list of one entry. -/
import Derived.Test.YtehoojmalhloeaaVQ
namespace Go.Proofs.Ytehoojmalhloeaa.PC
open Go.RowKit Go.Proofs.YtehoojmalhloeaaW.PrintWords Go.Proofs.YtehoojmalhloeaaW.PrintLast Go.Proofs.YtehoojmalhloeaaW.PrintMore
attribute [local go_sem] max2_int min2_int max_two min_two max_three min_three max_four min_four   -- for this text's walks alone
set_option linter.unusedVariables false
set_option linter.unusedSimpArgs false

attribute [local go_sem high] eqA76
/-! ### staddleref17_Same: function 30 -/
def staddleref17_Same.l0 : Nat → List (S76) → List (S76) → Int → Option (Bool)
  | 0, _, _, _ => none
  | k + 1, x0, x1, x5 => if x5 < (x0.length : Int) then (if 0 ≤ x5 then (if x5 < (x1.length : Int) then (if (!((((rd_T76 x0 x5).f0).toList) == (((rd_T76 x1 x5).f0).toList)) || (!((((rd_T76 x0 x5).f1).toList) == (((rd_T76 x1 x5).f1).toList)))) = true then (some false) else (staddleref17_Same.l0 k x0 x1 (wrap64 (x5 + 1)))) else (none)) else (none)) else (some true)
def staddleref17_Same.f (k : Nat) (l0 : List (S76)) (l1 : List (S76)) : Option (Bool) := if (l0.length : Int) = (l1.length : Int) then (staddleref17_Same.l0 k l0 l1 0) else (some false)
theorem staddleref17_Same.mono_l : ∀ k, (∀ y0 y1 y2, LeO (staddleref17_Same.l0 k y0 y1 y2) (staddleref17_Same.l0 (k + 1) y0 y1 y2))
  | 0 => fun _ _ _ r h => by simp [staddleref17_Same.l0] at h
  | k + 1 => by
    have ih0 := staddleref17_Same.mono_l k
    · intro y0 y1 y2
      unfold staddleref17_Same.l0
      repeat' first
      | (with_reducible exact ih0 _ _ _)
      | (with_reducible exact LeO.refl _)
      | (with_reducible exact LeO.none _)
      | (with_reducible refine LeO.ite ?_ ?_)
      | (with_reducible refine LeO.bind ?_ (fun _ => ?_))
      | exact ih0 _ _ _
      | exact LeO.none _
      | refine LeO.ite ?_ ?_
      | refine LeO.bind ?_ (fun _ => ?_)
theorem staddleref17_Same.mono : ∀ a0 a1 k, LeO (staddleref17_Same.f k a0 a1) (staddleref17_Same.f (k + 1) a0 a1) := by
  intro a0 a1 k
  have ih0 := staddleref17_Same.mono_l k
  unfold staddleref17_Same.f
  repeat' first
      | (with_reducible exact ih0 _ _ _)
      | (with_reducible exact LeO.refl _)
      | (with_reducible exact LeO.none _)
      | (with_reducible refine LeO.ite ?_ ?_)
      | (with_reducible refine LeO.bind ?_ (fun _ => ?_))
      | exact ih0 _ _ _
      | exact LeO.none _
      | refine LeO.ite ?_ ?_
      | refine LeO.bind ?_ (fun _ => ?_)
set_option maxHeartbeats 8000000 in
set_option maxRecDepth 100000 in
theorem staddleref17_Same.calls (k : Nat) (A0 : Option Addr) (c0 : Nat) (l0 : List (S76)) (A1 : Option Addr) (c1 : Nat) (l1 : List (S76)) (r : Bool) (w : World) (hr0 : Kd.C k76 w A0 l0.length l0) (hc0 : l0.length ≤ c0) (hr1 : Kd.C k76 w A1 l1.length l1) (hc1 : l1.length ≤ c1) (h : staddleref17_Same.f k l0 l1 = some r) :
    Calls Try.prog 30 #[.slice A0 l0.length c0, .slice A1 l1.length c1] w fun e w' => e = .returned (.bool r) ∧ Drawn0 w w' := by
  have hu76 := Try.underlying76
  have HR0 := Aside0.mk hr0
  have HC0 := Aside0.mk hc0
  clear hr0 hc0
  have HR1 := Aside0.mk hr1
  have HC1 := Aside0.mk hc1
  clear hr1 hc1
  have H : (if (l0.length : Int) = (l1.length : Int) then (staddleref17_Same.l0 k l0 l1 0) else (some false)) = some r := h
  clear h
  by_cases c3 : (l0.length : Int) = (l1.length : Int)
  · rw [if_pos c3] at H
    have c3b0 : ((l0.length : Int) == (l1.length : Int)) = true := beq_iff_eq.mpr c3
    have c3b1 : ((l0.length : Int) != (l1.length : Int)) = false := bne_eq_false_iff_eq.mpr c3
    have c3b2 : (l0.length == l1.length) = true := by first | simpa using c3 | (simp at c3 ⊢; omega)
    clear c3
    have H' := Aside0.mk H
    clear H
    go_enter Try.func30, Try.ntmps30
    go_wp2
    repeat (go_quiet (fail); try go_wp2)
    go_loopg [5] k (fun kq v5 w' => ∃ (x5_1 : Int), v5 = .int .i64 x5_1 ∧ Aside0 (staddleref17_Same.l0 kq l0 l1 x5_1 = some r) ∧ Aside0 (kq ≤ k) ∧ Drawn0 w w')
    case atStart => exact ⟨(0), (by first | rfl | (simp; done) | (simp [*]; done)), H', ⟨Nat.le_refl _⟩, by repeat (first | exact Drawn0.refl _ | apply Drawn0.step)⟩
    case round =>
      clear H'
      try clear c1
      try clear p2
      try clear c3
      try clear c3b0
      try clear c3b1
      try clear c3b2
      obtain ⟨x5_1, rfl, HA, HK1, ⟨m1, rfl⟩⟩ := hrel
      cases gk with
      | zero => exact absurd HA.out (by simp [staddleref17_Same.l0])
      | succ k1 =>
        have H := HA.out
        clear HA
        simp only [staddleref17_Same.l0] at H
        by_cases c4 : x5_1 < (l0.length : Int)
        · rw [if_pos c4] at H
          have c4b0 : decide (x5_1 < (l0.length : Int)) = true := decide_eq_true c4
          clear c4
          by_cases c5 : 0 ≤ x5_1
          · rw [if_pos c5] at H
            have c5b0 : decide (0 ≤ x5_1) = true := decide_eq_true c5
            clear c5
            by_cases c6 : x5_1 < (l1.length : Int)
            · rw [if_pos c6] at H
              have c6b0 : decide (x5_1 < (l1.length : Int)) = true := decide_eq_true c6
              clear c6
              by_cases c7 : (!((((rd_T76 l0 x5_1).f0).toList) == (((rd_T76 l1 x5_1).f0).toList)) || (!((((rd_T76 l0 x5_1).f1).toList) == (((rd_T76 l1 x5_1).f1).toList)))) = true
              · rw [if_pos c7] at H
                have c7b0 : (!((((rd_T76 l0 x5_1).f0).toList) == (((rd_T76 l1 x5_1).f0).toList)) || (!((((rd_T76 l0 x5_1).f1).toList) == (((rd_T76 l1 x5_1).f1).toList)))) = true := c7
                clear c7
                obtain rfl := Option.some.inj H
                have p186 : 0 ≤ (x5_1 : Int) := of_decide_eq_true (by first | (with_reducible assumption) | assumption)
                have q186 : x5_1 < (l0.length : Int) := of_decide_eq_true (by first | (with_reducible assumption) | assumption)
                obtain ⟨ad186, e186, hx186_0, hx186_1⟩ := at_T76 HR0.out x5_1 p186 q186
                cases e186
                replace p186 := eq_true p186
                replace q186 := eq_true q186
                have p187 : 0 ≤ (x5_1 : Int) := of_decide_eq_true (by first | (with_reducible assumption) | assumption)
                have q187 : x5_1 < (l1.length : Int) := of_decide_eq_true (by first | (with_reducible assumption) | assumption)
                obtain ⟨ad187, e187, hx187_0, hx187_1⟩ := at_T76 HR1.out x5_1 p187 q187
                cases e187
                replace p187 := eq_true p187
                replace q187 := eq_true q187
                go_wp2
                repeat (go_quiet (fail); try go_wp2)
                go_ret
                exact ⟨by first | rfl | (simp; done) | (simp [*]; done), by repeat (first | exact Drawn0.refl _ | apply Drawn0.step)⟩
              · rw [if_neg c7] at H
                have c7b0 : (!((((rd_T76 l0 x5_1).f0).toList) == (((rd_T76 l1 x5_1).f0).toList)) || (!((((rd_T76 l0 x5_1).f1).toList) == (((rd_T76 l1 x5_1).f1).toList)))) = false := by simpa using c7
                clear c7
                have H' := Aside0.mk H
                clear H
                have p186 : 0 ≤ (x5_1 : Int) := of_decide_eq_true (by first | (with_reducible assumption) | assumption)
                have q186 : x5_1 < (l0.length : Int) := of_decide_eq_true (by first | (with_reducible assumption) | assumption)
                obtain ⟨ad186, e186, hx186_0, hx186_1⟩ := at_T76 HR0.out x5_1 p186 q186
                cases e186
                replace p186 := eq_true p186
                replace q186 := eq_true q186
                have p187 : 0 ≤ (x5_1 : Int) := of_decide_eq_true (by first | (with_reducible assumption) | assumption)
                have q187 : x5_1 < (l1.length : Int) := of_decide_eq_true (by first | (with_reducible assumption) | assumption)
                obtain ⟨ad187, e187, hx187_0, hx187_1⟩ := at_T76 HR1.out x5_1 p187 q187
                cases e187
                replace p187 := eq_true p187
                replace q187 := eq_true q187
                go_wp2
                repeat (go_quiet (fail); try go_wp2)
                go_roundg k1
                case measure => have := HK1.out; omega
                case rel => exact ⟨(wrap64 (x5_1 + 1)), (by first | rfl | (simp; done) | (simp [*]; done)), H', ⟨by have := HK1.out; omega⟩, by repeat (first | exact Drawn0.refl _ | apply Drawn0.step)⟩
            · rw [if_neg c6] at H
              exact absurd H (by simp)
          · rw [if_neg c5] at H
            exact absurd H (by simp)
        · rw [if_neg c4] at H
          have c4b0 : decide (x5_1 < (l0.length : Int)) = false := decide_eq_false c4
          clear c4
          obtain rfl := Option.some.inj H
          go_wp2
          repeat (go_quiet (fail); try go_wp2)
          go_ret
          exact ⟨by first | rfl | (simp; done) | (simp [*]; done), by repeat (first | exact Drawn0.refl _ | apply Drawn0.step)⟩
  · rw [if_neg c3] at H
    have c3b0 : ((l0.length : Int) == (l1.length : Int)) = false := beq_eq_false_iff_ne.mpr c3
    have c3b1 : ((l0.length : Int) != (l1.length : Int)) = true := bne_iff_ne.mpr c3
    have c3b2 : (l0.length == l1.length) = false := by first | simpa using c3 | (simp at c3 ⊢; omega)
    obtain rfl := Option.some.inj H
    go_enter Try.func30, Try.ntmps30
    go_wp2
    repeat (go_quiet (fail); try go_wp2)
    go_ret
    exact ⟨by first | rfl | (simp; done) | (simp [*]; done), by repeat (first | exact Drawn0.refl _ | apply Drawn0.step)⟩

end Go.Proofs.Ytehoojmalhloeaa.PC
namespace Go.Proofs.Ytehoojmalhloeaa.CM
open Go.RowKit Go.Proofs.YtehoojmalhloeaaW.PrintWords
set_option linter.unusedVariables false
set_option linter.unusedSimpArgs false
set_option maxRecDepth 100000

theorem same_l0 (l : List PC.S76) (hl : l.length ≤ 1000000) : ∀ (n k i : Nat), l.length - i ≤ n → n + 1 ≤ k → i ≤ l.length → PC.staddleref17_Same.l0 k l l (i : Int) = some true
  | n, 0, i, _, hk, _ => by omega
  | n, k + 1, i, hn, hk, hi => by
    unfold PC.staddleref17_Same.l0
    by_cases h : i < l.length
    · have ih := same_l0 l hl (n - 1) k (i + 1) (by omega) (by omega) (by omega)
      rw [show (((i + 1 : Nat) : Int)) = (i : Int) + 1 by omega] at ih
      rw [if_pos (by omega), if_pos (by omega), if_pos (by omega), if_neg (by simp), w64z ((i : Int) + 1) (by omega), ih]
    · rw [if_neg (by omega)]
theorem same_w (A0 A1 : Option Addr) (c0 c1 : Nat) (l m : List PC.S76) (w : World) (hlm : l = m) (h0 : Kd.C PC.k76 w A0 l.length l) (hc0 : l.length ≤ c0) (h1 : Kd.C PC.k76 w A1 m.length m) (hc1 : m.length ≤ c1) (hl : l.length ≤ 1000000) :
    Calls Try.prog 30 #[.slice A0 l.length c0, .slice A1 m.length c1] w fun e w' => e = .returned (.bool true) ∧ Below w.heap.size w w' := by
  subst hlm
  have hf : PC.staddleref17_Same.f (l.length + 1) l l = some true := by
    unfold PC.staddleref17_Same.f
    rw [if_pos rfl]
    exact same_l0 l hl l.length _ 0 (by omega) (by omega) (by omega)
  refine (PC.staddleref17_Same.calls (l.length + 1) A0 c0 l A1 c1 l true w h0 hc0 h1 hc1 hf).mono ?_
  rintro e w' ⟨h1, h2⟩
  obtain ⟨n, rfl⟩ := h2
  exact ⟨h1, ⟨rfl, rfl, rfl, Nat.le_refl _, fun _ _ => rfl⟩⟩

/-- Lists behind one list: what the program appends. -/
theorem app_lists {W : World} {Ab : Option Addr} {cb c2 : Nat} {e : List PC.S44} {D : List (List PC.S44)} {A2 : Option Addr} (he : Kd.C PC.k44 W Ab e.length e) (hce : e.length ≤ cb) (hD : Kd.C (Kd.slice 44 PC.k44) W A2 D.length D) (hl : D.length ≤ 1000) :
    ∃ A' c' w2, (Builtin.append_ #[32, 32] 32 #[.slice (some ⟨W.heap.size, 0, none⟩) 1 1, .slice A2 D.length c2]).run Try.prog (W.alloc (.cells #[.slice Ab e.length cb] 22)) = .ok (.slice A' (D.length + 1) c') w2 ∧ Kd.C (Kd.slice 44 PC.k44) w2 A' (D.length + 1) (e :: D) ∧ D.length + 1 ≤ c' ∧ Below W.heap.size W w2 := by
  obtain ⟨i0, hi, hzz⟩ := Option.map_eq_some_iff.1 PC.info22
  simp only [Prod.mk.injEq] at hzz
  obtain ⟨hz0, hz1, hz2⟩ := hzz
  have bl : Below W.heap.size W (W.alloc (.cells #[.slice Ab e.length cb] 22)) := (Below.refl _ _).alloc (Nat.le_refl _) _
  have hown : (W.alloc (.cells #[.slice Ab e.length cb] 22)).ownsRow W.heap.size 22 1 (.slice (some ⟨W.heap.size, 0, none⟩) 1 1) 1 [.slice Ab e.length cb] :=
    ⟨rfl, .inr ⟨W.heap.size, 1, _, rfl, Nat.le_refl _, World.alloc_heap_new W _, Nat.le_refl _, by decide, rfl, rfl⟩⟩
  rcases A2 with _ | ad
  · have h0 : D.length = 0 := by
      rcases Nat.eq_zero_or_pos D.length with h0 | h0
      · exact h0
      · obtain ⟨ad, h, _⟩ := hD.2.2 h0
        cases h
    obtain rfl : D = [] := List.eq_nil_of_length_eq_zero h0
    exact ⟨some ⟨W.heap.size, 0, none⟩, 1, _, by simp [Builtin.append_, run_underlying (show Try.prog.underlying 32 = some (.slice 22) by kernel_rfl), sizeOf, typeInfo, hi, Builtin.lenOf, Builtin.firstCells, storeCells], C_one he hce rfl, Nat.le_refl _, bl⟩
  · obtain ⟨news, hnr, hnc⟩ := ReadsRow.inner_ hD
    have hnl : news.length = D.length * 1 := hnr.1
    obtain ⟨v1, w1, hrun, hown1, hg, _, hat⟩ := run_append_own_at (P := Try.prog) (W.alloc (.cells #[.slice Ab e.length cb] 22)) W.heap.size 32 32 22 i0 _ 1 24 (by kernel_rfl) hi hz0 hz1 hz2 rfl (by decide) (.slice (some ⟨W.heap.size, 0, none⟩) 1 1) 1 [.slice Ab e.length cb] hown ad D.length c2 news (by omega)
      (fun j u hu => by
        have := hnc j u hu
        exact (bl.cell (World.block_lt_of_cell? _ _ this)).trans this)
      (fun u hu => by
        obtain ⟨j, hj, rfl⟩ := List.getElem_of_mem hu
        have hp := hnr.2 j D[j] (by rw [List.getElem?_eq_getElem (by omega)])
        obtain ⟨A, c, hcs, _⟩ := hp
        have hcs : (news.drop (j * 1)).take 1 = [.slice A (D[j]'(by omega)).length c] := hcs
        have : ((news.drop (j * 1)).take 1)[0]? = some news[j] := by simp [List.getElem?_take, List.getElem?_drop]
        rw [hcs] at this
        injection this with this
        rw [← this]
        rfl) (by simp only [maxLen]; omega) (by omega) (by simp)
    have b1 : Below W.heap.size W w1 := bl.grown hg (by simp) (fun k hk => by simp [Value.ownBlock] at hk; omega)
    obtain ⟨h2, h2'⟩ := hown1
    rcases h2' with ⟨_, h0⟩ | ⟨g, cap, cur, rfl, hgb, hh, hc1, hc2, hc3, hc4⟩
    · omega
    · have hnew := World.news_of_block hh
      have hcell : ∀ (j : Nat) (u : Value), ([Value.slice Ab e.length cb] ++ news)[j]? = some u → w1.cell? ((⟨g, 0, none⟩ : Addr).add j) = some u := fun j u hu => by
        rw [← hc4, List.getElem?_take] at hu
        split at hu
        · exact hnew j u (by simpa using hu)
        · cases hu
      refine ⟨some ⟨g, 0, none⟩, cap, w1, by rw [hrun, Nat.add_comm], ⟨rfl, by omega, fun _ => ⟨_, rfl, fun j p hj => ?_⟩⟩, by omega, b1⟩
      rcases j with _ | j
      · obtain rfl : e = p := by simpa using hj
        refine ⟨[.slice Ab e.length cb], rfl, ⟨Ab, cb, rfl, hce, keepC he (Nat.le_refl _) b1⟩, fun i u hu => ?_⟩
        rcases i with _ | i
        · exact hcell 0 u (by simpa using hu)
        · simp at hu
      · have hj' : D[j]? = some p := by simpa using hj
        have hp := hnr.2 j p hj'
        obtain ⟨A, c, hcs, hlc, hCp⟩ := hp
        have hcs : (news.drop (j * 1)).take 1 = [.slice A p.length c] := hcs
        refine ⟨[.slice A p.length c], rfl, ⟨A, c, rfl, hlc, keepC hCp (Nat.le_refl _) b1⟩, fun i u hu => ?_⟩
        rcases i with _ | i
        · have hu' : u = .slice A p.length c := by simpa using hu.symm
          subst hu'
          refine hcell ((j + 1) * 1 + 0) _ ?_
          have h5 : ((news.drop (j * 1)).take 1)[0]? = some (.slice A p.length c) := by rw [hcs]; rfl
          rw [List.getElem?_take] at h5
          simp only [Nat.mul_one, Nat.add_zero, List.getElem?_drop] at h5 ⊢
          simpa using h5
        · simp at hu
theorem R_fr76 {w w1 : World} {P : Nat → Prop} {lo : Nat} {v : Value} {xs : List PC.S76} (h : Kd.R PC.k76 76 w lo (fun _ => True) v xs) (hf : Fr P w w1) (hP : ∀ b, P b → b < lo) : Kd.R PC.k76 76 w1 lo (fun _ => True) v xs :=
  R_of76 (own_move (own76 h) (fun k hk => hf.block k (Kd.R_lt h k hk) (fun hp => by have := Kd.R_base h k hk; have := hP k hp; omega)))
theorem fk_upto2 {s : Sh} {L : List (List PC.S44)} (hL : s.L = L) (h : ∀ l ∈ L, ∀ x ∈ l, FK x) : ∀ x ∈ upto s s.N, FK x := fun x hx => by
  have := (upto_perm s).mem_iff.1 hx
  rw [hL] at this
  obtain ⟨l, hl, hx⟩ := List.mem_flatten.1 this
  exact h l hl x hx
theorem N_flat {s : Sh} {L : List (List PC.S44)} (hL : s.L = L) : s.N = L.flatten.length := by
  rw [← upto_len s s.N, (upto_perm s).length_eq, hL]
end Go.Proofs.Ytehoojmalhloeaa.CM
