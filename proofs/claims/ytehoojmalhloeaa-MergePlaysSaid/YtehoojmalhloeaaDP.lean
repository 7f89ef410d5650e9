/- All entries of several lists in order (chapter 16's document), in plain words. No program in sight. -/
import Derived.Test.YtehoojmalhloeaaPCx9
import Derived.Test.YtehoojmalhloeaaDW
namespace Go.Proofs.Ytehoojmalhloeaa.CM
open Go.RowKit Go.Proofs.YtehoojmalhloeaaW.PrintWords
set_option linter.unusedVariables false
set_option linter.unusedSimpArgs false

/-- The first list whose next entry is ahead of all others'. -/
def bst : Nat → Option (Nat × PC.S44) → List (List PC.S44) → Option (Nat × PC.S44)
  | _, cur, [] => cur
  | i, cur, [] :: t => bst (i + 1) cur t
  | i, none, (x :: _) :: t => bst (i + 1) (some (i, x)) t
  | i, some (j, y), (x :: _) :: t => bst (i + 1) (if cmpK x.f0 y.f0 < 0 then some (i, x) else some (j, y)) t
/-- All entries; n: how many there are. -/
def allS : Nat → List (List PC.S44) → List PC.S44
  | 0, _ => []
  | n + 1, rs => match bst 0 none rs with
    | none => []
    | some (j, x) => x :: allS n (rs.modify j List.tail)
/-- All entries of lists. -/
def allL (ls : List (List PC.S44)) : List PC.S44 := allS ls.flatten.length ls

/-! ### what bst finds -/
theorem bst_spec : ∀ (rs : List (List PC.S44)) (i : Nat) (cur : Option (Nat × PC.S44)),
    (bst i cur rs = none ↔ cur = none ∧ rs.flatten = []) ∧
    (∀ j x, bst i cur rs = some (j, x) → (cur = some (j, x) ∨ ∃ pre t post, rs = pre ++ (x :: t) :: post ∧ j = i + pre.length) ∧ (∀ j' y, cur = some (j', y) → ¬ R y x) ∧ ∀ y t, (y :: t) ∈ rs → ¬ R y x)
  | [], i, cur => by
    refine ⟨by simp [bst], fun j x h => ⟨.inl h, fun j' y hy => ?_, by simp⟩⟩
    have : some (j', y) = some (j, x) := hy.symm.trans h
    cases this
    exact R_irrefl _
  | [] :: rs, i, cur => by
    obtain ⟨h1, h2⟩ := bst_spec rs (i + 1) cur
    refine ⟨by simpa [bst] using h1, fun j x h => ?_⟩
    obtain ⟨a, b, c⟩ := h2 j x h
    refine ⟨?_, b, fun y t hy => ?_⟩
    · rcases a with a | ⟨pre, t, post, e, ej⟩
      · exact .inl a
      · exact .inr ⟨[] :: pre, t, post, by rw [e]; rfl, by simp; omega⟩
    · rcases List.mem_cons.1 hy with hy | hy
      · cases hy
      · exact c y t hy
  | (x0 :: t0) :: rs, i, none => by
    obtain ⟨h1, h2⟩ := bst_spec rs (i + 1) (some (i, x0))
    refine ⟨by simpa [bst] using h1, fun j x h => ?_⟩
    obtain ⟨a, b, c⟩ := h2 j x h
    refine ⟨.inr ?_, (fun _ _ h => by cases h), fun y t hy => ?_⟩
    · rcases a with a | ⟨pre, t, post, e, ej⟩
      · cases a
        exact ⟨[], t0, rs, rfl, rfl⟩
      · exact ⟨(x0 :: t0) :: pre, t, post, by rw [e]; rfl, by simp; omega⟩
    · rcases List.mem_cons.1 hy with hy | hy
      · cases hy
        exact b i x0 rfl
      · exact c y t hy
  | (x0 :: t0) :: rs, i, some (j0, y0) => by
    by_cases hc : cmpK x0.f0 y0.f0 < 0
    · obtain ⟨h1, h2⟩ := bst_spec rs (i + 1) (some (i, x0))
      refine ⟨by simp only [bst, hc, if_true, h1]; simp, fun j x h => ?_⟩
      simp only [bst, hc, if_true] at h
      obtain ⟨a, b, c⟩ := h2 j x h
      have hx0 := b i x0 rfl
      refine ⟨.inr ?_, fun j' y hy => ?_, fun y t hy => ?_⟩
      · rcases a with a | ⟨pre, t, post, e, ej⟩
        · cases a
          exact ⟨[], t0, rs, rfl, rfl⟩
        · exact ⟨(x0 :: t0) :: pre, t, post, by rw [e]; rfl, by simp; omega⟩
      · cases hy
        exact fun hq => hx0 (R_trans hc hq)
      · rcases List.mem_cons.1 hy with hy | hy
        · cases hy
          exact hx0
        · exact c y t hy
    · obtain ⟨h1, h2⟩ := bst_spec rs (i + 1) (some (j0, y0))
      refine ⟨by simp only [bst, hc, if_false, h1]; simp, fun j x h => ?_⟩
      simp only [bst, hc, if_false] at h
      obtain ⟨a, b, c⟩ := h2 j x h
      have hy0 := b j0 y0 rfl
      refine ⟨?_, fun j' y hy => ?_, fun y t hy => ?_⟩
      · rcases a with a | ⟨pre, t, post, e, ej⟩
        · exact .inl a
        · exact .inr ⟨(x0 :: t0) :: pre, t, post, by rw [e]; rfl, by simp; omega⟩
      · cases hy
        exact hy0
      · rcases List.mem_cons.1 hy with hy | hy
        · cases hy
          intro hq
          -- x0 ahead of x, y0 not ahead of x: so x0 ahead of y0
          rcases R_total x0 y0 with h9 | h9 | ⟨hu, hs, hk⟩
          · exact hc h9
          · exact hy0 (R_trans h9 hq)
          · refine hy0 ?_
            rw [R_iff] at hq ⊢
            have e1 := sameU_eq hu
            rcases hq with hq | ⟨hq1, hq2⟩
            · rw [e1] at hq; exact .inl hq
            · refine .inr ⟨?_, by omega⟩
              rw [sameU_comm, ← sameU_cong (a := x) hu, sameU_comm]
              exact hq1
        · exact c y t hy

theorem bst_some {rs : List (List PC.S44)} {j : Nat} {x : PC.S44} (h : bst 0 none rs = some (j, x)) : ∃ pre t post, rs = pre ++ (x :: t) :: post ∧ j = pre.length ∧ ∀ y t, (y :: t) ∈ rs → ¬ R y x := by
  obtain ⟨a, _, c⟩ := (bst_spec rs 0 none).2 j x h
  rcases a with a | ⟨pre, t, post, e, ej⟩
  · cases a
  · exact ⟨pre, t, post, e, by omega, c⟩
theorem modify_mid (pre post : List (List PC.S44)) (x : PC.S44) (t : List PC.S44) : (pre ++ (x :: t) :: post).modify pre.length List.tail = pre ++ t :: post := by
  induction pre with
  | nil => rfl
  | cons p pre ih =>
    simp only [List.cons_append, List.length_cons, List.modify_succ_cons, ih]
/-- Is one not behind another? -/
def LE (a b : PC.S44) : Prop := ¬ R b a
theorem allS_spec : ∀ (n : Nat) (rs : List (List PC.S44)), rs.flatten.length = n → (allS n rs).Perm rs.flatten ∧ ((∀ l ∈ rs, l.Pairwise R) → (allS n rs).Pairwise LE)
  | 0, rs, h => by
    have : rs.flatten = [] := List.eq_nil_of_length_eq_zero h
    rw [this]
    exact ⟨List.Perm.refl _, fun _ => List.Pairwise.nil⟩
  | n + 1, rs, h => by
    cases hb : bst 0 none rs with
    | none =>
      have := ((bst_spec rs 0 none).1.1 hb).2
      rw [this] at h
      simp at h
    | some r =>
      obtain ⟨j, x⟩ := r
      obtain ⟨pre, t, post, e, rfl, hmin⟩ := bst_some hb
      have hstep : allS (n + 1) rs = x :: allS n (pre ++ t :: post) := by
        show (match bst 0 none rs with | none => [] | some (j, x) => x :: allS n (rs.modify j List.tail)) = _
        rw [hb]
        simp only
        rw [e, modify_mid]
      have hlen : (pre ++ t :: post).flatten.length = n := by
        rw [e] at h
        simp only [List.flatten_append, List.flatten_cons, List.length_append, List.length_cons] at h ⊢
        omega
      obtain ⟨ih1, ih2⟩ := allS_spec n (pre ++ t :: post) hlen
      rw [hstep]
      refine ⟨?_, fun hs => ?_⟩
      · have h1 := ih1.cons x
        refine h1.trans ?_
        rw [e]
        simp only [List.flatten_append, List.flatten_cons, List.cons_append]
        exact List.perm_middle.symm
      · have hs' : ∀ l ∈ pre ++ t :: post, l.Pairwise R := fun l hl => by
          rcases List.mem_append.1 hl with hl | hl
          · exact hs l (by rw [e]; exact List.mem_append_left _ hl)
          · rcases List.mem_cons.1 hl with rfl | hl
            · exact (List.pairwise_cons.1 (hs (x :: l) (by rw [e]; simp))).2
            · exact hs l (by rw [e]; simp [hl])
        refine List.Pairwise.cons (fun y hy => ?_) (ih2 hs')
        have hyf := ih1.subset hy
        obtain ⟨l, hl, hyl⟩ := List.mem_flatten.1 hyf
        -- the head of y's list isn't ahead of x
        have key : ∀ l', l' ∈ rs → y ∈ l' → ¬ R y x := fun l' hl' hy' => by
          cases l' with
          | nil => cases hy'
          | cons z t' =>
            have hz := hmin z t' hl'
            rcases List.mem_cons.1 hy' with rfl | h9
            · exact hz
            · exact fun hq => hz (R_trans ((List.pairwise_cons.1 (hs _ hl')).1 y h9) hq)
        rcases List.mem_append.1 hl with hl | hl
        · exact key l (by rw [e]; exact List.mem_append_left _ hl) hyl
        · rcases List.mem_cons.1 hl with rfl | hl
          · exact key (x :: l) (by rw [e]; simp) (List.mem_cons_of_mem _ hyl)
          · exact key l (by rw [e]; simp [hl]) hyl
theorem allL_perm (ls : List (List PC.S44)) : (allL ls).Perm ls.flatten := (allS_spec _ ls rfl).1
theorem allL_sorted (ls : List (List PC.S44)) (h : ∀ l ∈ ls, l.Pairwise R) : (allL ls).Pairwise LE := (allS_spec _ ls rfl).2 h
/-- Where no two entries have like keys, all rise. -/
theorem allL_rises (ls : List (List PC.S44)) (h : ∀ l ∈ ls, l.Pairwise R) (hd : ls.flatten.Pairwise (fun a b => R a b ∨ R b a)) : (allL ls).Pairwise R := by
  have h1 := allL_sorted ls h
  have h2 : (allL ls).Pairwise (fun a b => R a b ∨ R b a) := ((allL_perm ls).pairwise_iff (fun {a b} h => h.symm)).2 hd
  refine (h1.and h2).imp (fun {a b} h => ?_)
  rcases h.2 with h3 | h3
  · exact h3
  · exact absurd h3 h.1

/-! ### the loops -/
/-- What is left of lists. -/
def rsOf : List (List PC.S44) → List Nat → List (List PC.S44)
  | l :: ls, a :: ats => l.drop a :: rsOf ls ats
  | _, _ => []
theorem rsOf_len : ∀ (ls : List (List PC.S44)) (ats : List Nat), ats.length = ls.length → (rsOf ls ats).length = ls.length
  | [], [], _ => rfl
  | l :: ls, a :: ats, h => by simp [rsOf, rsOf_len ls ats (by simpa using h)]
theorem rsOf_get : ∀ (ls : List (List PC.S44)) (ats : List Nat), ats.length = ls.length → ∀ j, j < ls.length → (rsOf ls ats).drop j = ((ls.getD j []).drop (ats.getD j 0)) :: (rsOf ls ats).drop (j + 1)
  | [], [], _, j, h => by simp at h
  | l :: ls, a :: ats, he, 0, _ => rfl
  | l :: ls, a :: ats, he, j + 1, h => by
    have := rsOf_get ls ats (by simpa using he) j (by simpa using h)
    simpa [rsOf] using this
theorem rsOf_set : ∀ (ls : List (List PC.S44)) (ats : List Nat), ats.length = ls.length → ∀ j, j < ls.length → rsOf ls (ats.set j (ats.getD j 0 + 1)) = (rsOf ls ats).modify j List.tail
  | [], [], _, j, h => by simp at h
  | l :: ls, a :: ats, he, 0, _ => by simp [rsOf]
  | l :: ls, a :: ats, he, j + 1, h => by
    have := rsOf_set ls ats (by simpa using he) j (by simpa using h)
    simpa [rsOf] using this
def atsI (ats : List Nat) : List Int := ats.map (fun a : Nat => (a : Int))
theorem rd_ats (ats : List Nat) (j : Nat) : rd (atsI ats) (j : Int) = ((ats.getD j 0 : Nat) : Int) := by
  simp only [rd, atsI, Int.toNat_natCast, List.getD_eq_getElem?_getD, List.getElem?_map]
  cases ats[j]? <;> rfl
theorem rd6 (ls : List (List PC.S44)) (j : Nat) : PC.rd_L6 ls (j : Int) = ls.getD j [] := by simp [PC.rd_L6]
/-- The best so far, as the loop holds it. -/
def bestI : Option (Nat × PC.S44) → Int
  | none => -1
  | some (j, _) => (j : Int)
def Cur (ls : List (List PC.S44)) (ats : List Nat) : Option (Nat × PC.S44) → Prop
  | none => True
  | some (j, y) => j < ls.length ∧ ats.getD j 0 < (ls.getD j []).length ∧ (ls.getD j []).getD (ats.getD j 0) PC.z44 = y
theorem drop_head (l : List PC.S44) (a : Nat) (h : a < l.length) : l.drop a = l.getD a PC.z44 :: l.drop (a + 1) := getD_drop' l a h
theorem All_l1 (ls : List (List PC.S44)) (ats : List Nat) (out : List PC.S44) (he : ats.length = ls.length) (hle : ∀ j, j < ls.length → ats.getD j 0 ≤ (ls.getD j []).length) (hbig : ∀ j, j < ls.length → (ls.getD j []).length ≤ 9223372036854775806) (hn : ls.length ≤ 9223372036854775806) (ho : out.length < 2932031007402) (k' : Nat) :
    ∀ (d i : Nat) (cur : Option (Nat × PC.S44)), ls.length - i = d → i ≤ ls.length → Cur ls ats cur →
      PC.staddleref16_All.l1 (d + 1 + k') ls out (atsI ats) (bestI cur) (i : Int) = match bst i cur ((rsOf ls ats).drop i) with
        | none => some out
        | some (j, x) => PC.staddleref16_All.l0 k' ls (out ++ [x]) (atsI (ats.set j (ats.getD j 0 + 1)))
  | 0, i, cur, hd, hi, hc => by
    obtain rfl : i = ls.length := by omega
    have hdr : (rsOf ls ats).drop ls.length = [] := List.drop_of_length_le (by rw [rsOf_len ls ats he]; exact Nat.le_refl _)
    rw [hdr, show 0 + 1 + k' = k' + 1 by omega]
    unfold PC.staddleref16_All.l1
    rw [if_neg (by omega)]
    cases cur with
    | none =>
      rw [if_pos (by simp [bestI])]
      rfl
    | some r =>
      obtain ⟨j, y⟩ := r
      obtain ⟨c1, c2, c3⟩ := hc
      have hal : (atsI ats).length = ls.length := by simp [atsI, he]
      rw [show bestI (some (j, y)) = (j : Int) from rfl, if_neg (by omega), if_pos (by omega), if_pos (by omega), if_pos (by omega), rd_ats, rd6, if_pos (by omega), if_pos (by omega), if_pos ho, rd44, c3, w64 (((ats.getD j 0 : Nat) : Int) + 1) (by have := hbig j c1; omega)]
      show PC.staddleref16_All.l0 k' ls (out ++ [y]) ((atsI ats).set (j : Int).toNat (((ats.getD j 0 : Nat) : Int) + 1)) = PC.staddleref16_All.l0 k' ls (out ++ [y]) (atsI (ats.set j (ats.getD j 0 + 1)))
      congr 1
      simp [atsI]
  | d + 1, i, cur, hd, hi, hc => by
    have hil : i < ls.length := by omega
    have hal : (atsI ats).length = ls.length := by simp [atsI, he]
    have e1 : ((i : Int) + 1) = ((i + 1 : Nat) : Int) := by omega
    have ih := fun cur' hc' => All_l1 ls ats out he hle hbig hn ho k' d (i + 1) cur' (by omega) (by omega) hc'
    rw [rsOf_get ls ats he i hil, show d + 1 + 1 + k' = (d + 1 + k') + 1 by omega]
    obtain ⟨l, hl⟩ : ∃ l, ls.getD i [] = l := ⟨_, rfl⟩
    obtain ⟨a, ha⟩ : ∃ a, ats.getD i 0 = a := ⟨_, rfl⟩
    have hla := hle i hil
    rw [hl, ha] at hla
    rw [hl, ha]
    unfold PC.staddleref16_All.l1
    rw [if_pos (by omega), if_pos (by omega), if_pos (by omega), rd_ats, rd6, hl, ha, w64 ((i : Int) + 1) (by omega), e1]
    by_cases hend : a = l.length
    · rw [if_pos (by omega), List.drop_of_length_le (show l.length ≤ a by omega)]
      exact ih cur hc
    · rw [if_neg (by omega), drop_head l a (by omega)]
      have hx : Cur ls ats (some (i, l.getD a PC.z44)) := ⟨hil, by rw [hl, ha]; omega, by rw [hl, ha]⟩
      cases cur with
      | none =>
        rw [if_pos (by simp [bestI])]
        exact ih (some (i, l.getD a PC.z44)) hx
      | some r =>
        obtain ⟨j, y⟩ := r
        obtain ⟨c1, c2, c3⟩ := hc
        obtain ⟨kk, hkk⟩ : ∃ kk, d + 1 + k' = kk + 1 := ⟨d + k', by omega⟩
        rw [show bestI (some (j, y)) = (j : Int) from rfl, if_neg (by omega), if_pos (by omega), if_pos (by omega), if_pos (by omega), if_pos (by omega), if_pos (by omega), rd_ats, rd6, if_pos (by omega), if_pos (by omega), rd44, rd44, c3]
        have hcmp := refCompare_f kk (l.getD a PC.z44).f0 y.f0
        rw [← hkk] at hcmp
        rw [hcmp, Option.bind_some]
        by_cases hc9 : cmpK (l.getD a PC.z44).f0 y.f0 < 0
        · rw [if_pos hc9]
          have := ih (some (i, l.getD a PC.z44)) hx
          simp only [bst, hc9, if_true]
          exact this
        · rw [if_neg hc9]
          have := ih (some (j, y)) ⟨c1, c2, c3⟩
          simp only [bst, hc9, if_false]
          exact this
theorem All_l0 (ls : List (List PC.S44)) (hbig : ∀ j, j < ls.length → (ls.getD j []).length ≤ 9223372036854775806) (hn : ls.length ≤ 9223372036854775806) : ∀ (n : Nat) (ats : List Nat) (out : List PC.S44) (k : Nat), ats.length = ls.length → (∀ j, j < ls.length → ats.getD j 0 ≤ (ls.getD j []).length) → (rsOf ls ats).flatten.length = n → out.length + n < 2932031007402 → (n + 1) * (ls.length + 2) ≤ k →
    PC.staddleref16_All.l0 k ls out (atsI ats) = some (out ++ allS n (rsOf ls ats))
  | n, ats, out, k, he, hle, hfl, ho, hk => by
    have hk0 : ls.length + 2 ≤ k := Nat.le_trans (Nat.le_mul_of_pos_left _ (by omega)) hk
    obtain ⟨k', rfl⟩ : ∃ k', k = ls.length + 1 + k' + 1 := ⟨k - ls.length - 2, by omega⟩
    have h1 := All_l1 ls ats out he hle hbig hn (by omega) k' ls.length 0 none (by omega) (by omega) trivial
    unfold PC.staddleref16_All.l0
    show PC.staddleref16_All.l1 (ls.length + 1 + k') ls out (atsI ats) (-1) 0 = _
    rw [show PC.staddleref16_All.l1 (ls.length + 1 + k') ls out (atsI ats) (-1) 0 = _ from h1, List.drop_zero]
    cases n with
    | zero =>
      have : (rsOf ls ats).flatten = [] := List.eq_nil_of_length_eq_zero hfl
      have hb := (bst_spec (rsOf ls ats) 0 none).1.2 ⟨rfl, this⟩
      rw [hb]
      simp [allS]
    | succ n =>
      cases hb : bst 0 none (rsOf ls ats) with
      | none =>
        have := ((bst_spec (rsOf ls ats) 0 none).1.1 hb).2
        rw [this] at hfl
        simp at hfl
      | some r =>
        obtain ⟨j, x⟩ := r
        obtain ⟨pre, t, post, e, rfl, hmin⟩ := bst_some hb
        have hjl : pre.length < ls.length := by
          rw [← rsOf_len ls ats he, e]
          simp
        have hset := rsOf_set ls ats he pre.length hjl
        have hget := rsOf_get ls ats he pre.length hjl
        rw [e, List.drop_left] at hget
        have hat : ats.getD pre.length 0 < (ls.getD pre.length []).length := by
          have h9 := (List.cons.inj hget).1
          by_cases h10 : ats.getD pre.length 0 < (ls.getD pre.length []).length
          · exact h10
          · rw [List.drop_of_length_le (by omega)] at h9
            cases h9
        simp only
        have ih := All_l0 ls hbig hn n (ats.set pre.length (ats.getD pre.length 0 + 1)) (out ++ [x]) k' (by simp [he]) (fun j hj => by
          by_cases hjp : j = pre.length
          · subst hjp
            rw [List.getD_eq_getElem?_getD, List.getElem?_set_self (by omega)]
            exact hat
          · rw [List.getD_eq_getElem?_getD, List.getElem?_set_ne (by omega), ← List.getD_eq_getElem?_getD]
            exact hle j hj) (by
          rw [hset, e, modify_mid]
          rw [e] at hfl
          simp only [List.flatten_append, List.flatten_cons, List.length_append, List.length_cons] at hfl ⊢
          omega) (by simp; omega) (by
          have : (n + 1 + 1) * (ls.length + 2) = (n + 1) * (ls.length + 2) + (ls.length + 2) := by rw [Nat.add_mul (n + 1) 1, Nat.one_mul]
          omega)
        rw [ih, hset]
        show some (out ++ [x] ++ _) = some (out ++ (match bst 0 none (rsOf ls ats) with | none => [] | some (j, x) => x :: allS n ((rsOf ls ats).modify j List.tail)))
        rw [hb]
        simp
theorem rsOf_zero : ∀ ls : List (List PC.S44), rsOf ls (List.replicate ls.length 0) = ls
  | [] => rfl
  | l :: ls => by simp [rsOf, List.replicate_succ, rsOf_zero ls]
theorem All_f (ls : List (List PC.S44)) (k : Nat) (hb : ls.flatten.length < 2932031007402) (hn : ls.length ≤ 35184372088832) (hk : (ls.flatten.length + 1) * (ls.length + 2) ≤ k) : PC.staddleref16_All.f k ls = some (allL ls) := by
  unfold PC.staddleref16_All.f
  rw [if_pos (by omega), if_pos (by omega)]
  have hbig : ∀ j, j < ls.length → (ls.getD j []).length ≤ 9223372036854775806 := fun j hj => by
    have : ls.getD j [] ∈ ls := by
      rw [List.getD_eq_getElem?_getD, List.getElem?_eq_getElem hj]
      exact List.getElem_mem hj
    have h2 : ∀ (xss : List (List PC.S44)) (x : List PC.S44), x ∈ xss → x.length ≤ xss.flatten.length := by
      intro xss
      induction xss with
      | nil => intro x h; cases h
      | cons y t ih =>
        intro x h
        simp only [List.flatten_cons, List.length_append]
        rcases List.mem_cons.1 h with rfl | h
        · omega
        · have := ih x h
          omega
    have := h2 ls _ this
    omega
  have := All_l0 ls hbig (by omega) ls.flatten.length (List.replicate ls.length 0) [] k (by simp) (fun j hj => by
    rw [List.getD_eq_getElem?_getD, List.getElem?_replicate]
    simp [hj]) (by rw [rsOf_zero]) (by simpa using hb) hk
  rw [rsOf_zero] at this
  simpa [atsI, allL] using this

end Go.Proofs.Ytehoojmalhloeaa.CM
