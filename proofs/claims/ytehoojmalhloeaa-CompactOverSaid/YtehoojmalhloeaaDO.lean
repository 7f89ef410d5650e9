/- CompactMore: the walk: the statement's function answers true. Its conditions are that its arguments can be read. -/
import Derived.Test.YtehoojmalhloeaaDN
namespace Go.Proofs.Ytehoojmalhloeaa.CM
open Go.RowKit Go.Proofs.YtehoojmalhloeaaW.PrintWords
set_option linter.unusedVariables false
set_option linter.unusedSimpArgs false
set_option maxRecDepth 100000

theorem repsU : ∀ (xs : List Int) (inner : List Value), Reps (fun (x : Int) (cs : List Value) => cs = [Value.int .u64 x]) 1 xs inner → inner = xs.map (Value.int .u64)
  | [], inner, h => List.eq_nil_of_length_eq_zero (by simpa using h.1)
  | x :: t, inner, h => by
    have h0 := h.2 0 x rfl
    simp only [Nat.zero_mul, List.drop_zero] at h0
    have ht : Reps (fun (x : Int) (cs : List Value) => cs = [Value.int .u64 x]) 1 t (inner.drop 1) := ⟨by have := h.1; simp only [List.length_cons, List.length_drop] at this ⊢; omega, fun j p hj => by
      have := h.2 (j + 1) p (by simpa using hj)
      rw [show (j + 1) * 1 = 1 + j * 1 by omega, ← List.drop_drop] at this
      exact this⟩
    have := repsU t _ ht
    rw [← List.take_append_drop 1 inner, h0, this]
    rfl
theorem repsU_mk : ∀ (xs : List Int), Reps (fun (x : Int) (cs : List Value) => cs = [Value.int .u64 x]) 1 xs (xs.map (Value.int .u64))
  | [] => ⟨rfl, fun j p h => by simp at h⟩
  | x :: t => ⟨by simp, fun j p hj => by
    cases j with
    | zero =>
      obtain rfl : x = p := by simpa using hj
      rfl
    | succ j =>
      have := (repsU_mk t).2 j p (by simpa using hj)
      rw [show (j + 1) * 1 = 1 + j * 1 by omega, ← List.drop_drop]
      exact this⟩
theorem run_appendU {W : World} {base : Nat} {v : Value} {xs ys : List Int} {ad : Addr} {m c : Nat} (ty : TypeId) (hR : Kd.R (Kd.int .u64) 37 W base (fun _ => True) v xs) (hC : Kd.C (Kd.int .u64) W (some ad) m ys) (hl : (xs.length + m) * 8 ≤ 140737488355328) (hbase : base ≤ W.heap.size) :
    ∃ v1 w1, (Builtin.append_ #[23, 23] ty #[v, .slice (some ad) m c]).run Try.prog W = .ok v1 w1 ∧ Kd.R (Kd.int .u64) 37 w1 base (fun _ => True) v1 (xs ++ ys) ∧ W.grownBy w1 v.ownBlock ∧ (v1.ownBlock = v.ownBlock ∨ v1.ownBlock = some W.heap.size) := by
  obtain ⟨i0, hi, hzz⟩ := Option.map_eq_some_iff.1 PC.info37
  simp only [Prod.mk.injEq] at hzz
  obtain ⟨hz0, hz1, hz2⟩ := hzz
  have hm : ys.length = m := hC.1
  have hown : W.ownsRow base 37 1 v xs.length (xs.map (Value.int .u64)) := by
    obtain ⟨_, inner, ho, hr⟩ := hR
    have e := repsU xs inner hr
    subst e
    exact ho
  obtain ⟨news, hnr, hnc⟩ := ReadsRow.inner_ hC
  obtain rfl := repsU ys news hnr
  obtain ⟨v1, w1, hrun, h2, hg, _, hat⟩ := run_append_own_at (P := Try.prog) W base 23 ty 37 i0 _ 1 8 Try.underlying23 hi hz0 hz1 hz2 rfl (by omega) v xs.length (xs.map (Value.int .u64)) hown ad m c (ys.map (Value.int .u64)) (by rw [List.length_map, hm]; omega) hnc (fun u hu => by obtain ⟨y, _, rfl⟩ := List.mem_map.1 hu; rfl) (by simp only [maxLen]; omega) hl hbase
  refine ⟨v1, w1, hrun, ⟨fun _ _ => trivial, _, ?_, repsU_mk _⟩, hg, hat⟩
  rw [List.length_append, hm, List.map_append]
  exact h2
theorem R_emptyU (w : World) (base : Nat) (hb : base ≤ w.heap.size) : Kd.R (Kd.int .u64) 37 (w.alloc (.cells #[] 37)) base (fun _ => True) (.slice (some ⟨w.heap.size, 0, none⟩) 0 0) [] :=
  ⟨fun _ _ => trivial, [], ⟨rfl, .inr ⟨_, 0, _, rfl, hb, World.alloc_heap_new w _, Nat.le_refl _, by decide, rfl, rfl⟩⟩, repsU_mk []⟩
theorem C_oneU (w : World) (x : Int) : Kd.C (Kd.int .u64) (w.alloc (.cells #[.int .u64 x] 37)) (some ⟨w.heap.size, 0, none⟩) 1 [x] := by
  refine ⟨rfl, by decide, fun _ => ⟨_, rfl, fun j p hj => ⟨[.int .u64 p], rfl, rfl, fun i u hu => ?_⟩⟩⟩
  have hi : i = 0 := by
    rcases i with _ | i
    · rfl
    · simp at hu
  subst hi
  have hj0 : j = 0 := by
    rcases j with _ | j
    · rfl
    · simp at hj
  subst hj0
  obtain rfl : x = p := by simpa using hj
  obtain rfl : Value.int .u64 x = u := by simpa using hu
  exact World.news_of_block (cs := #[.int .u64 x]) (t := 37) (fr := (0, 0)) (World.alloc_heap_new w _) 0 _ rfl
/-- append(append([]uint64{}, xs...), x): what it leaves. -/
theorem twice_U (w : World) (A : Option Addr) (n c : Nat) (xs : List Int) (x : Int) (hC : Kd.C (Kd.int .u64) w A n xs) (hl : (n + 1) * 8 ≤ 140737488355328) (hA : A = none → c = 0 ∧ n = 0) :
    ∃ v1 w1 v2 w2, (Builtin.append_ #[23, 23] 23 #[.slice (some ⟨w.heap.size, 0, none⟩) 0 0, .slice A n c]).run Try.prog (w.alloc (.cells #[] 37)) = .ok v1 w1
      ∧ (Builtin.append_ #[23, 23] 23 #[v1, .slice (some ⟨w1.heap.size, 0, none⟩) 1 1]).run Try.prog (w1.alloc (.cells #[.int .u64 x] 37)) = .ok v2 w2 ∧ Kd.R (Kd.int .u64) 37 w2 w.heap.size (fun _ => True) v2 (xs ++ [x]) ∧ Below w.heap.size w w2 := by
  have hn : xs.length = n := hC.1
  have hC' : Kd.C (Kd.int .u64) (w.alloc (.cells #[] 37)) A n xs := keepC hC (Nat.le_refl _) ((Below.refl _ w).alloc (Nat.le_refl _) _)
  obtain ⟨v1, w1, hrun, hR, hb⟩ : ∃ v1 w1, (Builtin.append_ #[23, 23] 23 #[.slice (some ⟨w.heap.size, 0, none⟩) 0 0, .slice A n c]).run Try.prog (w.alloc (.cells #[] 37)) = .ok v1 w1 ∧ Kd.R (Kd.int .u64) 37 w1 w.heap.size (fun _ => True) v1 xs ∧ Below w.heap.size w w1 := by
    rcases A with _ | ad
    · obtain ⟨rfl, rfl⟩ := hA rfl
      obtain rfl : xs = [] := List.eq_nil_of_length_eq_zero hn
      obtain ⟨i0, hi, hzz⟩ := Option.map_eq_some_iff.1 PC.info37
      refine ⟨_, _, ?_, R_emptyU w w.heap.size (Nat.le_refl _), (Below.refl _ w).alloc (Nat.le_refl _) _⟩
      simp [Builtin.append_, run_underlying Try.underlying23, sizeOf, typeInfo, hi, Builtin.lenOf, Builtin.firstCells, storeCells]
    · obtain ⟨v1, w1, h1, h2, h3, h4⟩ := run_appendU (c := c) 23 (R_emptyU w w.heap.size (Nat.le_refl _)) hC' (by simp; omega) (by simp)
      refine ⟨v1, w1, h1, by simpa using h2, ((Below.refl _ w).alloc (Nat.le_refl _) _).grown h3 (by simp) (fun j e => by simp [Value.ownBlock] at e; omega)⟩
  obtain ⟨v2, w2, hrun2, hR2, hg2, _⟩ := run_appendU (c := 1) 23 (Kd.R_alloc hR (.cells #[.int .u64 x] 37)) (C_oneU w1 x) (by rw [hn]; omega) (by have := hb.size; simp; omega)
  exact ⟨v1, w1, v2, w2, hrun, hrun2, hR2, (hb.alloc hb.size _).grown hg2 (by have := hb.size; simp; omega) (fun j e => Kd.R_base hR j e)⟩

theorem sub_tail {x y : PC.S44} {a b : List PC.S44} (h : (x :: a).Sublist (y :: b)) : a.Sublist b := by
  cases h with
  | cons _ h => exact (List.sublist_cons_self x a).trans h
  | cons_cons _ h => exact h
theorem sub_skip {x y : PC.S44} {a b : List PC.S44} (h : (x :: a).Sublist (y :: b)) (hne : x ≠ y) : (x :: a).Sublist b := by
  cases h with
  | cons _ h => exact h
  | cons_cons _ h => exact absurd rfl hne

attribute [local go_sem high] PC.eqA44
set_option maxHeartbeats 16000000 in
theorem compactMore_w (A : Option Addr) (n c : Nat) (l : List PC.S44) (A2 : Option Addr) (n2 c2 : Nat) (snaps : List Int) (more : Int) (bottom : Bool) (w : World) (hr : Kd.C PC.k44 w A n l) (hc : n ≤ c) (hr2 : Kd.C (Kd.int .u64) w A2 n2 snaps) (hc2 : n2 ≤ c2)
    (hv : ∀ y ∈ l, okN y) (hA : A2 = none → c2 = 0) :
    Calls Try.prog 8 #[.slice A n c, .slice A2 n2 c2, .int .u64 more, .bool bottom] w fun e w' => e = .returned (.bool true) ∧ Below w.heap.size w w' := by
  obtain rfl : l.length = n := hr.1
  obtain rfl : snaps.length = n2 := hr2.1
  obtain ⟨m, hm⟩ : ∃ m, m = if 200 < l.length then 200 else l.length := ⟨_, rfl⟩
  obtain ⟨m2, hm2⟩ : ∃ m2, m2 = if 50 < snaps.length then 50 else snaps.length := ⟨_, rfl⟩
  have few := few_w A l.length c A2 snaps.length c2 m m2
  have hml : m ≤ l.length ∧ m ≤ 200 := by rw [hm]; split <;> omega
  have hml2 : m2 ≤ snaps.length ∧ m2 ≤ 50 := by rw [hm2]; split <;> omega
  have hcl := Kd.C_take hr hml.1
  have hcl2 := Kd.C_take hr2 hml2.1
  obtain ⟨l1, hl1⟩ : ∃ l1, l.take m = l1 := ⟨_, rfl⟩
  obtain ⟨s1, hs1⟩ : ∃ s1, snaps.take m2 = s1 := ⟨_, rfl⟩
  have hlen1 : l1.length = m := by rw [← hl1, List.length_take]; omega
  have hlen2 : s1.length = m2 := by rw [← hs1, List.length_take]; omega
  have hv1 : ∀ y ∈ l1, okN y := fun y hy => hv y (by rw [← hl1] at hy; exact List.mem_of_mem_take hy)
  rw [hl1] at hcl
  rw [hs1] at hcl2
  have HF := Lib.hid (fun w => few w hm hm2 hc hc2)
  have HB := Lib.hid (And.intro hml hml2)
  have HC := Lib.hid (And.intro hcl hcl2)
  have HV := Lib.hid hv1
  have hmc : m ≤ c := by omega
  have hmc2 : m2 ≤ c2 := by omega
  have hm200 : m ≤ 200 := hml.2
  have hm50 : m2 ≤ 50 := hml2.2
  have hA2 : A2 = none → c2 = 0 ∧ m2 = 0 := fun h => ⟨hA h, by have := hA h; omega⟩
  clear hA
  clear few hm hm2 hml hml2 hcl hcl2 hv1 hv hr hr2 hl1 hs1
  have H1 := Lib.hid hlen1
  have H2 := Lib.hid hlen2
  clear hlen1 hlen2
  by_cases hup : risesB l1 = true
  · obtain ⟨X, hX⟩ : ∃ X, dropL s1 bottom l1 = X := ⟨_, rfl⟩
    obtain ⟨V, hV⟩ : ∃ V, dropL (s1 ++ [more]) bottom l1 = V := ⟨_, rfl⟩
    obtain ⟨Z, hZ⟩ : ∃ Z, dropL s1 false l1 = Z := ⟨_, rfl⟩
    have hXl : X.length ≤ m := by have := (dropL_sub s1 bottom l1 HV.out).length_le; rw [hX, H1.out] at this; exact this
    have hVl : V.length ≤ m := by have := (dropL_sub (s1 ++ [more]) bottom l1 HV.out).length_le; rw [hV, H1.out] at this; exact this
    have hZl : Z.length ≤ m := by have := (dropL_sub s1 false l1 HV.out).length_le; rw [hZ, H1.out] at this; exact this
    have hXV : X.Sublist V := by rw [← hX, ← hV]; exact dropL_more (fun s hs => List.mem_append_left _ hs) bottom l1 HV.out
    have hXZ : X.Sublist Z := by rw [← hX, ← hZ]; exact dropL_above s1 bottom l1
    have HX : Hid (dropA s1 bottom l1 = (X, 0) ∧ dropA (s1 ++ [more]) bottom l1 = (V, 0) ∧ dropA s1 false l1 = (Z, 0) ∧ X.Sublist V ∧ X.Sublist Z) := Lib.hid ⟨by rw [← hX]; exact if_pos hup, by rw [← hV]; exact if_pos hup, by rw [← hZ]; exact if_pos hup, hXV, hXZ⟩
    clear hX hV hZ hXV hXZ hup
    go_enter Try.func8, Try.ntmps8
    go_wp2_with fail
    refine (awake19_w _).mono ?_
    rintro e w1 ⟨rfl, b1⟩
    have B1 := Lib.hid b1
    clear b1
    go_wp2_with fail
    refine (HF.out _).mono ?_
    rintro e w1 ⟨rfl, rfl⟩
    have D := drop_any A c l1 A2 m2 c2 s1 bottom w1 (keepC HC.out.1 (Nat.le_refl _) B1.out) (by rw [H1.out]; exact hmc) H2.out.symm (keepC HC.out.2 (Nat.le_refl _) B1.out) (by have := H1.out; omega)
    rw [H1.out, HX.out.1] at D
    have HD := Lib.hid D
    clear D
    go_wp2_with fail
    refine HD.out.mono ?_
    rintro e w4 ⟨va, rfl, ra, b4⟩
    obtain ⟨Aa, ca, hva, hla, hCa⟩ := Kd.R_reads ra
    try simp only at hva hla hCa
    subst hva
    have B4 := Lib.hid (B1.out.trans (b4.mono B1.out.size))
    have G4 := Lib.hid (And.intro hla hCa)
    clear ra b4 hla hCa HD
    obtain ⟨v1, wa, v2, wb, hrun1, hrun2, hRs, hBs⟩ := twice_U w4 A2 m2 c2 s1 more (H2.out ▸ keepC HC.out.2 (Nat.le_refl _) B4.out) (by omega) hA2
    obtain ⟨As, cs, hvs, hls, hCs⟩ := Kd.R_reads hRs
    rw [show (s1 ++ [more]).length = m2 + 1 by have := H2.out; simp; omega] at hvs
    subst hvs
    have D := drop_any A c l1 As (m2 + 1) cs (s1 ++ [more]) bottom wb (keepC HC.out.1 (Nat.le_refl _) (B4.out.trans (hBs.mono B4.out.size))) (by rw [H1.out]; exact hmc) (by have := H2.out; simp; omega) hCs (by have := H1.out; omega)
    rw [H1.out, HX.out.2.1] at D
    have HD := Lib.hid D
    have GB := Lib.hid hBs
    clear D hRs hls hCs hBs
    go_wp2_with (first | (at_builtin; refine wpList_append_run _ rfl (.tmp 36) (.tmp 37) 23 rfl _ _ _ _ rfl rfl hrun1 ?_; clear hrun1) | (at_builtin; refine wpList_append_run _ rfl (.tmp 38) (.tmp 40) 23 rfl _ _ _ _ rfl rfl hrun2 ?_; clear hrun2))
    refine HD.out.mono ?_
    rintro e w5 ⟨vb, rfl, rb, b5⟩
    obtain ⟨Ab, cb, hvb, hlb, hCb⟩ := Kd.R_reads rb
    try simp only at hvb hlb hCb
    subst hvb
    have B5 := Lib.hid (And.intro (B4.out.trans ((GB.out.trans (b5.mono GB.out.size)).mono B4.out.size)) (GB.out.trans (b5.mono GB.out.size)))
    have G5 := Lib.hid (And.intro hlb hCb)
    clear rb b5 hlb hCb HD
    have D := drop_any A c l1 A2 m2 c2 s1 false w5 (keepC HC.out.1 (Nat.le_refl _) B5.out.1) (by rw [H1.out]; exact hmc) H2.out.symm (keepC HC.out.2 (Nat.le_refl _) B5.out.1) (by have := H1.out; omega)
    rw [H1.out, HX.out.2.2.1] at D
    have HD := Lib.hid D
    clear D
    go_wp2_with fail
    refine HD.out.mono ?_
    rintro e w6 ⟨vc, rfl, rc, b6⟩
    obtain ⟨Ac, cc, hvc, hlc, hCc⟩ := Kd.R_reads rc
    try simp only at hvc hlc hCc
    subst hvc
    have G6 := Lib.hid (And.intro (keepC G4.out.2 (Nat.le_refl _) (B5.out.2.trans (b6.mono B5.out.2.size))) (And.intro (keepC G5.out.2 (Nat.le_refl _) b6) (And.intro hCc (B5.out.1.trans (b6.mono B5.out.1.size)))))
    clear rc b6 hCc HD
    go_wp2_with fail
    go_loopw [16, 17] (fun t u wr => ∃ k i : Nat, t = .int .i64 (k : Int) ∧ u = .int .i64 (i : Int) ∧ k ≤ X.length ∧ i ≤ V.length ∧ Hid ((X.drop k).Sublist (V.drop i)) ∧ Hid (∃ q, wr = w6.drewN q)) (fun _ u _ => V.length - (intOf u).toNat)
    case atStart => exact ⟨0, 0, rfl, rfl, by omega, by omega, Lib.hid (by simpa using HX.out.2.2.2.1), Lib.hid ⟨0, rfl⟩⟩
    case round =>
      obtain ⟨k, i, rfl, rfl, hk, hi, HS, HW⟩ := hrel
      obtain ⟨q, hq⟩ := HW.out
      subst hq
      have hw1 : IntKind.i64.wrap ((i : Int) + 1) = (i : Int) + 1 := by rw [IntWalk.i64_in _ (by omega)]
      have hw2 : IntKind.i64.wrap ((k : Int) + 1) = (k : Int) + 1 := by rw [IntWalk.i64_in _ (by omega)]
      by_cases hlt : i < V.length ∧ k < X.length
      · obtain ⟨hi1, hk1⟩ := hlt
        have d1 : decide ((i : Int) < (V.length : Int)) = true := decide_eq_true (by omega)
        have d2 : decide ((k : Int) < (X.length : Int)) = true := decide_eq_true (by omega)
        have d3 : decide (i < V.length) = true := decide_eq_true hi1
        have d4 : decide (k < X.length) = true := decide_eq_true hk1
        obtain ⟨ad, e, X0⟩ := at44 G6.out.1 k hk1
        subst e
        obtain ⟨ad2, e2, Y0⟩ := at44 G6.out.2.1 i hi1
        subst e2
        obtain ⟨x, hx⟩ : ∃ x, X.getD k PC.z44 = x := ⟨_, rfl⟩
        obtain ⟨y, hy⟩ : ∃ y, V.getD i PC.z44 = y := ⟨_, rfl⟩
        have hdx := getD_drop' X k hk1
        have hdy := getD_drop' V i hi1
        rw [hx] at X0 hdx
        rw [hy] at Y0 hdy
        have hS := HS.out
        rw [hdx, hdy] at hS
        have p0 : (k < X.length) = True := eq_true hk1
        have p1 : (i < V.length) = True := eq_true hi1
        obtain ⟨x0, x1, x2, x3⟩ := X0
        obtain ⟨y0, y1, y2, y3⟩ := Y0
        have hS2 := Lib.hid hS
        have HDX := Lib.hid hdx
        clear hx hy hdx hdy hS HS
        by_cases hq : ((x.f0.f0.toList == y.f0.f0.toList && (x.f0.f1 == y.f0.f1 && (x.f0.f2 == y.f0.f2))) && (x.f1.toList == y.f1.toList)) = true
        · go_wp2_with fail
          go_quiet (fail)
          go_wp2
          exact ⟨⟨k + 1, i + 1, by simp, by simp, by omega, by omega, Lib.hid (sub_tail hS2.out), Lib.hid ⟨_, rfl⟩⟩, by simp [intOf]; omega⟩
        · rw [Bool.not_eq_true] at hq
          go_wp2_with fail
          go_quiet (fail)
          go_wp2
          exact ⟨⟨k, i + 1, by simp, by simp, by omega, by omega, Lib.hid (by
            rw [HDX.out]
            exact sub_skip hS2.out (by
              intro e
              subst e
              simp at hq)), Lib.hid ⟨_, rfl⟩⟩, by simp [intOf]; omega⟩
      · have hkX : k = X.length := by
          by_cases h1 : i < V.length
          · omega
          · have hS := HS.out
            rw [List.drop_of_length_le (show V.length ≤ i by omega)] at hS
            have := List.sublist_nil.1 hS
            have := List.drop_eq_nil_iff.1 this
            omega
        subst hkX
        have d2 : decide ((X.length : Int) < (X.length : Int)) = false := decide_eq_false (by omega)
        by_cases h1 : i < V.length
        all_goals
          first
          | have d1 : decide ((i : Int) < (V.length : Int)) = true := decide_eq_true (by omega)
          | have d1 : decide ((i : Int) < (V.length : Int)) = false := decide_eq_false (by omega)
          go_wp2_with fail
          go_loopw [18, 19] (fun t u wr => ∃ k i : Nat, t = .int .i64 (k : Int) ∧ u = .int .i64 (i : Int) ∧ k ≤ X.length ∧ i ≤ Z.length ∧ Hid ((X.drop k).Sublist (Z.drop i)) ∧ Hid (∃ q, wr = w6.drewN q)) (fun _ u _ => Z.length - (intOf u).toNat)
          case atStart => exact ⟨0, 0, rfl, rfl, by omega, by omega, Lib.hid (by simpa using HX.out.2.2.2.2), Lib.hid ⟨_, rfl⟩⟩
          case round =>
            obtain ⟨k, i, rfl, rfl, hk, hi, HS, HW⟩ := hrel
            obtain ⟨q, hq⟩ := HW.out
            subst hq
            have hw1 : IntKind.i64.wrap ((i : Int) + 1) = (i : Int) + 1 := by rw [IntWalk.i64_in _ (by omega)]
            have hw2 : IntKind.i64.wrap ((k : Int) + 1) = (k : Int) + 1 := by rw [IntWalk.i64_in _ (by omega)]
            by_cases hlt : i < Z.length ∧ k < X.length
            · obtain ⟨hi1, hk1⟩ := hlt
              have d1 : decide ((i : Int) < (Z.length : Int)) = true := decide_eq_true (by omega)
              have d2 : decide ((k : Int) < (X.length : Int)) = true := decide_eq_true (by omega)
              have d3 : decide (i < Z.length) = true := decide_eq_true hi1
              have d4 : decide (k < X.length) = true := decide_eq_true hk1
              obtain ⟨ad, e, X0⟩ := at44 G6.out.1 k hk1
              subst e
              obtain ⟨ad2, e2, Y0⟩ := at44 G6.out.2.2.1 i hi1
              subst e2
              obtain ⟨x, hx⟩ : ∃ x, X.getD k PC.z44 = x := ⟨_, rfl⟩
              obtain ⟨y, hy⟩ : ∃ y, Z.getD i PC.z44 = y := ⟨_, rfl⟩
              have hdx := getD_drop' X k hk1
              have hdy := getD_drop' Z i hi1
              rw [hx] at X0 hdx
              rw [hy] at Y0 hdy
              have hS := HS.out
              rw [hdx, hdy] at hS
              have p0 : (k < X.length) = True := eq_true hk1
              have p1 : (i < Z.length) = True := eq_true hi1
              obtain ⟨x0, x1, x2, x3⟩ := X0
              obtain ⟨y0, y1, y2, y3⟩ := Y0
              have hS2 := Lib.hid hS
              have HDX := Lib.hid hdx
              clear hx hy hdx hdy hS HS
              by_cases hq : ((x.f0.f0.toList == y.f0.f0.toList && (x.f0.f1 == y.f0.f1 && (x.f0.f2 == y.f0.f2))) && (x.f1.toList == y.f1.toList)) = true
              · go_wp2_with fail
                go_quiet (fail)
                go_wp2
                exact ⟨⟨k + 1, i + 1, by simp, by simp, by omega, by omega, Lib.hid (sub_tail hS2.out), Lib.hid ⟨_, rfl⟩⟩, by simp [intOf]; omega⟩
              · rw [Bool.not_eq_true] at hq
                go_wp2_with fail
                go_quiet (fail)
                go_wp2
                exact ⟨⟨k, i + 1, by simp, by simp, by omega, by omega, Lib.hid (by
                  rw [HDX.out]
                  exact sub_skip hS2.out (by
                    intro e
                    subst e
                    simp at hq)), Lib.hid ⟨_, rfl⟩⟩, by simp [intOf]; omega⟩
            · have hkX : k = X.length := by
                by_cases h1 : i < Z.length
                · omega
                · have hS := HS.out
                  rw [List.drop_of_length_le (show Z.length ≤ i by omega)] at hS
                  have := List.sublist_nil.1 hS
                  have := List.drop_eq_nil_iff.1 this
                  omega
              subst hkX
              have d2 : decide ((X.length : Int) < (X.length : Int)) = false := decide_eq_false (by omega)
              by_cases h1 : i < Z.length
              all_goals
                first
                | have d1 : decide ((i : Int) < (Z.length : Int)) = true := decide_eq_true (by omega)
                | have d1 : decide ((i : Int) < (Z.length : Int)) = false := decide_eq_false (by omega)
                go_wp2_with fail
                go_ret
                exact ⟨by simp, below_drewN G6.out.2.2.2 _⟩
  · have HX : Hid (dropA s1 bottom l1 = ([], 160) ∧ dropA (s1 ++ [more]) bottom l1 = ([], 160) ∧ dropA s1 false l1 = ([], 160)) := Lib.hid ⟨if_neg hup, if_neg hup, if_neg hup⟩
    clear hup
    go_enter Try.func8, Try.ntmps8
    go_wp2_with fail
    refine (awake19_w _).mono ?_
    rintro e w1 ⟨rfl, b1⟩
    have B1 := Lib.hid b1
    clear b1
    go_wp2_with fail
    refine (HF.out _).mono ?_
    rintro e w1 ⟨rfl, rfl⟩
    have D := drop_any A c l1 A2 m2 c2 s1 bottom w1 (keepC HC.out.1 (Nat.le_refl _) B1.out) (by rw [H1.out]; exact hmc) H2.out.symm (keepC HC.out.2 (Nat.le_refl _) B1.out) (by have := H1.out; omega)
    rw [H1.out, HX.out.1] at D
    have HD := Lib.hid D
    clear D
    go_wp2_with fail
    refine HD.out.mono ?_
    rintro e w4 ⟨va, rfl, ra, b4⟩
    obtain ⟨Aa, ca, hva, hla, hCa⟩ := Kd.R_reads ra
    try simp only at hva hla hCa
    subst hva
    have B4 := Lib.hid (B1.out.trans (b4.mono B1.out.size))
    have G4 := Lib.hid (And.intro hla hCa)
    clear ra b4 hla hCa HD
    obtain ⟨v1, wa, v2, wb, hrun1, hrun2, hRs, hBs⟩ := twice_U w4 A2 m2 c2 s1 more (H2.out ▸ keepC HC.out.2 (Nat.le_refl _) B4.out) (by omega) hA2
    obtain ⟨As, cs, hvs, hls, hCs⟩ := Kd.R_reads hRs
    rw [show (s1 ++ [more]).length = m2 + 1 by have := H2.out; simp; omega] at hvs
    subst hvs
    have D := drop_any A c l1 As (m2 + 1) cs (s1 ++ [more]) bottom wb (keepC HC.out.1 (Nat.le_refl _) (B4.out.trans (hBs.mono B4.out.size))) (by rw [H1.out]; exact hmc) (by have := H2.out; simp; omega) hCs (by have := H1.out; omega)
    rw [H1.out, HX.out.2.1] at D
    have HD := Lib.hid D
    have GB := Lib.hid hBs
    clear D hRs hls hCs hBs
    go_wp2_with (first | (at_builtin; refine wpList_append_run _ rfl (.tmp 36) (.tmp 37) 23 rfl _ _ _ _ rfl rfl hrun1 ?_; clear hrun1) | (at_builtin; refine wpList_append_run _ rfl (.tmp 38) (.tmp 40) 23 rfl _ _ _ _ rfl rfl hrun2 ?_; clear hrun2))
    refine HD.out.mono ?_
    rintro e w5 ⟨vb, rfl, rb, b5⟩
    obtain ⟨Ab, cb, hvb, hlb, hCb⟩ := Kd.R_reads rb
    try simp only at hvb hlb hCb
    subst hvb
    have B5 := Lib.hid (And.intro (B4.out.trans ((GB.out.trans (b5.mono GB.out.size)).mono B4.out.size)) (GB.out.trans (b5.mono GB.out.size)))
    have G5 := Lib.hid (And.intro hlb hCb)
    clear rb b5 hlb hCb HD
    have D := drop_any A c l1 A2 m2 c2 s1 false w5 (keepC HC.out.1 (Nat.le_refl _) B5.out.1) (by rw [H1.out]; exact hmc) H2.out.symm (keepC HC.out.2 (Nat.le_refl _) B5.out.1) (by have := H1.out; omega)
    rw [H1.out, HX.out.2.2] at D
    have HD := Lib.hid D
    clear D
    go_wp2_with fail
    refine HD.out.mono ?_
    rintro e w6 ⟨vc, rfl, rc, b6⟩
    obtain ⟨Ac, cc, hvc, hlc, hCc⟩ := Kd.R_reads rc
    try simp only at hvc hlc hCc
    subst hvc
    have G6 := Lib.hid (And.intro (keepC G4.out.2 (Nat.le_refl _) (B5.out.2.trans (b6.mono B5.out.2.size))) (And.intro (keepC G5.out.2 (Nat.le_refl _) b6) (And.intro hCc (B5.out.1.trans (b6.mono B5.out.1.size)))))
    clear rc b6 hCc HD
    go_wp2_with fail
    go_ret
    exact ⟨by simp, G6.out.2.2.2⟩

theorem compactMore_row (a0 : Option Addr) (len0 cap0 : Nat) (a1 : Option Addr) (len1 cap1 : Nat) (a2 : Int) (a3 : Bool) (w : World)
    (F0 : ∃ A len cap xs, Value.slice a0 len0 cap0 = .slice A len cap ∧ Kd.C PC.k44 w A len xs ∧ len ≤ cap ∧ len * 48 ≤ 140737488351232 ∧ (∀ p ∈ xs, Fits p) ∧ (A = none → cap = 0))
    (F1 : ∃ A len cap xs, Value.slice a1 len1 cap1 = .slice A len cap ∧ Kd.C (Kd.int .u64) w A len xs ∧ len ≤ cap ∧ len * 8 ≤ 140737488351232 ∧ (∀ p ∈ xs, 0 ≤ p ∧ p ≤ 18446744073709551615) ∧ (A = none → cap = 0)) (w2 : (Lit.int .u64 a2).wf = true) :
    Calls Try.prog 8 #[.slice a0 len0 cap0, .slice a1 len1 cap1, .int .u64 a2, .bool a3] w fun e w' => e = .returned (.bool true) ∧ Below w.heap.size w w' := by
  obtain ⟨A, len, cap, xs, h0, h1, h2, _, h3, _⟩ := F0
  obtain ⟨A2, len2, cap2, xs2, k0, k1, k2, _, k3, k4⟩ := F1
  cases h0
  cases k0
  exact compactMore_w _ _ _ xs _ _ _ xs2 a2 a3 w h1 h2 k1 k2 (fun y hy => (h3 y hy).okN) k4

end Go.Proofs.Ytehoojmalhloeaa.CM
