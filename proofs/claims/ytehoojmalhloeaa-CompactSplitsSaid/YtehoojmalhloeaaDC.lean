/- What stays, user by user: the document's answer is the program's. No program in sight. -/
import Derived.Test.YtehoojmalhloeaaDB
namespace Go.Proofs.Ytehoojmalhloeaa.CM
open Go.RowKit Go.Proofs.YtehoojmalhloeaaW.PrintWords
set_option linter.unusedVariables false
set_option linter.unusedSimpArgs false

theorem sameU_refl (a : PC.S44) : sameU a a = true := by simp [sameU]
theorem sameU_symm {a b : PC.S44} (h : sameU a b = true) : sameU b a = true := by
  simp only [sameU, beq_iff_eq] at *
  exact h.symm
theorem sameU_cong {a b c : PC.S44} (h : sameU b c = true) : sameU a b = sameU a c := by
  simp only [sameU, beq_iff_eq] at h ⊢
  rw [h]
theorem sameU_comm (a b : PC.S44) : sameU a b = sameU b a := by
  rw [Bool.eq_iff_iff]
  exact ⟨sameU_symm, sameU_symm⟩
theorem groups_span (a : PC.S44) : ∀ t : List PC.S44, groups (a :: t) = (a :: t.takeWhile (fun y => sameU y a)) :: groups (t.dropWhile (fun y => sameU y a))
  | [] => rfl
  | b :: t => by
    have ih := groups_span b t
    show joinU a (groups (b :: t)) = _
    by_cases h : sameU b a = true
    · have e : (fun y => sameU y b) = (fun y => sameU y a) := by funext y; exact sameU_cong h
      rw [e] at ih
      rw [ih]
      simp [joinU, h]
    · have h' : sameU b a = false := by simpa using h
      rw [ih]
      simp only [joinU, h', Bool.false_eq_true, if_false, List.takeWhile_cons, List.dropWhile_cons]
      rw [← ih]

/-! ### what stands ahead of a user's entries does not matter -/
def Bnd (q pre : List PC.S44) (x : PC.S44) : Prop := ∀ y, pre.head? = some y → sameU y (q.getLast?.getD x) = false
theorem Bnd.push {q pre : List PC.S44} {x : PC.S44} (h : Bnd q pre x) (z : PC.S44) : Bnd (x :: q) pre z := by
  intro y hy
  have := h y hy
  cases q with
  | nil => simpa using this
  | cons a q => simpa [List.getLast?_cons] using this
theorem fst_ctx (x : PC.S44) (s : Int) (pre : List PC.S44) : ∀ q, Bnd q pre x → fstR x s (q ++ pre) = fstR x s q
  | [], h => by
    cases pre with
    | nil => rfl
    | cons y p =>
      have : sameU y x = false := by simpa using h y rfl
      simp [fstR, this]
  | z :: q, h => by
    show fstR x s (z :: (q ++ pre)) = fstR x s (z :: q)
    simp only [fstR]
    by_cases hz : sameU z x = true
    · rw [if_pos hz, if_pos hz, fst_ctx x s pre q]
      intro y hy
      have := h y hy
      cases q with
      | nil =>
        have h1 : sameU y z = false := by simpa using this
        rw [sameU_cong hz] at h1
        simpa using h1
      | cons a q => simpa [List.getLast?_cons] using this
    · rw [if_neg hz, if_neg hz]
theorem isCnt_ctx (snaps : List Int) (x : PC.S44) (pre q : List PC.S44) (h : Bnd q pre x) : isCnt snaps (q ++ pre) x = isCnt snaps q x := by
  simp only [isCnt, isFst, fst_ctx x _ pre q h]
theorem RB_ctx (snaps : List Int) (bottom : Bool) (pre : List PC.S44) : ∀ (r q : List PC.S44), (∀ x, r.head? = some x → Bnd q pre x) → RB snaps bottom (q ++ pre) r = RB snaps bottom q r
  | [], q, _ => rfl
  | x :: t, q, h => by
    have ih := RB_ctx snaps bottom pre t (x :: q) (fun z hz => (h x rfl).push z)
    rw [RB_cons, RB_cons, isCnt_ctx snaps x pre q (h x rfl)]
    rw [show x :: (q ++ pre) = (x :: q) ++ pre from rfl, ih]
theorem RB_group (snaps : List Int) (bottom : Bool) (x0 : PC.S44) (r : List PC.S44) (hr : ∀ y, r.head? = some y → sameU y x0 = false) : ∀ (g pre : List PC.S44), (∀ y ∈ g, sameU y x0 = true) → g ≠ [] →
    RB snaps bottom pre (g ++ r) = ((RB snaps bottom pre g).1, (RB snaps bottom pre g).2 ++ (RB snaps bottom (g.reverse ++ pre) r).2)
  | [], _, _, h => absurd rfl h
  | [x], pre, hg, _ => by
    show RB snaps bottom pre (x :: r) = _
    rw [RB_cons, RB_cons]
    have hx := hg x (by simp)
    cases r with
    | nil =>
      simp only [RB, putAt]
      split <;> rfl
    | cons y r =>
      have hy : sameU y x0 = false := hr y rfl
      have : sameU x y = false := by
        rw [sameU_comm, sameU_cong hx]
        exact hy
      simp only [putAt, this, RB, Bool.false_eq_true, if_false, List.reverse_cons, List.reverse_nil, List.nil_append, List.singleton_append]
      split <;> rfl
  | x :: x' :: g, pre, hg, _ => by
    have ih := RB_group snaps bottom x0 r hr (x' :: g) (x :: pre) (fun y hy => hg y (by simp [hy])) (by simp)
    show RB snaps bottom pre (x :: (x' :: g ++ r)) = _
    rw [RB_cons, RB_cons snaps bottom pre x (x' :: g), ih]
    have e : (x :: x' :: g).reverse ++ pre = (x' :: g).reverse ++ (x :: pre) := by simp
    rw [e]
    simp only [List.cons_append, putAt]
    split <;> rfl
theorem pick_append : ∀ (g r : List PC.S44) (a b : List Bool), a.length = g.length → pick (g ++ r) (a ++ b) = pick g a ++ pick r b
  | [], r, [], b, _ => rfl
  | x :: g, r, c :: a, b, h => by
    have ih := pick_append g r a b (by simpa using h)
    simp only [List.cons_append, pick, ih]
    split <;> simp

/-! ### a user's entries -/
def cntT (snaps : List Int) : Int → List PC.S44 → List PC.S44
  | _, [] => []
  | b, y :: t => if y.f0.f1 ≤ b then (if snaps.any (within y.f0.f1 b) = true then y :: cntT snaps (y.f0.f1 - 1) t else cntT snaps (y.f0.f1 - 1) t) else cntT snaps b t
def keepP : List PC.S44 → List PC.S44
  | [] => []
  | x :: t => if (x :: t).any (fun y => y.f0.f2 == 1) = true then x :: keepP t else []
theorem keepP_none : ∀ l : List PC.S44, l.any (fun y => y.f0.f2 == 1) = false → keepP l = []
  | [], _ => rfl
  | x :: t, h => by
    unfold keepP
    rw [if_neg (by rw [h]; decide)]
def cF (snaps : List Int) : List PC.S44 → List PC.S44 → List PC.S44
  | _, [] => []
  | pre, x :: t => if isCnt snaps pre x = true then x :: cF snaps (x :: pre) t else cF snaps (x :: pre) t
theorem putAt_same (x : PC.S44) (t : List PC.S44) (b : Bool) (h : ∀ y, t.head? = some y → sameU x y = true) : putAt x t b = b := by
  cases t with
  | nil => rfl
  | cons y t => simp [putAt, h y rfl]
theorem keepP_cons (x : PC.S44) (t : List PC.S44) : keepP (x :: t) = if (x :: t).any (fun y => y.f0.f2 == 1) = true then x :: keepP t else [] := rfl
theorem pick_RB (snaps : List Int) (bottom : Bool) (x0 : PC.S44) : ∀ (g pre : List PC.S44), (∀ y ∈ g, sameU y x0 = true) →
    (RB snaps bottom pre g).1 = (cF snaps pre g).any (fun y => y.f0.f2 == 1) ∧ pick g (RB snaps bottom pre g).2 = if bottom = true then keepP (cF snaps pre g) else cF snaps pre g
  | [], _, _ => by simp [RB, cF, pick, keepP]
  | x :: t, pre, hg => by
    obtain ⟨i1, i2⟩ := pick_RB snaps bottom x0 t (x :: pre) (fun y hy => hg y (by simp [hy]))
    have hp : ∀ b : Bool, putAt x t b = b := fun b => putAt_same x t b (fun y hy => by
      have h1 := hg x (by simp)
      have h2 := hg y (List.mem_cons_of_mem _ (List.mem_of_mem_head? hy))
      rw [sameU_cong h2]
      exact h1)
    rw [RB_cons]
    simp only [hp]
    unfold cF
    by_cases hc : isCnt snaps pre x = true
    · rw [if_pos hc, if_pos hc]
      refine ⟨?_, ?_⟩
      · simp only [List.any_cons, i1, Bool.or_comm]
      · simp only [pick]
        rw [i2, i1]
        cases bottom with
        | false => simp
        | true =>
          simp only [Bool.not_true, Bool.or_false, if_true]
          have e : (x :: cF snaps (x :: pre) t).any (fun y => y.f0.f2 == 1) = ((cF snaps (x :: pre) t).any (fun y => y.f0.f2 == 1) || x.f0.f2 == 1) := by rw [List.any_cons, Bool.or_comm]
          rw [keepP_cons]
          by_cases hq : ((cF snaps (x :: pre) t).any (fun y => y.f0.f2 == 1) || x.f0.f2 == 1) = true
          · rw [if_pos hq, if_pos (e.trans hq)]
          · rw [if_neg hq, if_neg (by rw [e]; exact hq)]
            have hq2 : (cF snaps (x :: pre) t).any (fun y => y.f0.f2 == 1) = false := by
              rw [Bool.not_eq_true, Bool.or_eq_false_iff] at hq
              exact hq.1
            exact keepP_none _ hq2
    · rw [if_neg hc, if_neg hc]
      exact ⟨i1, by simpa [pick] using i2⟩
theorem fstR_all (x : PC.S44) (s : Int) : ∀ pre : List PC.S44, (∀ y ∈ pre, sameU y x = true) → fstR x s pre = pre.all (fun y => decide (s < y.f0.f1))
  | [], _ => rfl
  | y :: p, h => by
    unfold fstR
    rw [if_pos (h y (by simp)), fstR_all x s p (fun z hz => h z (by simp [hz]))]
    by_cases hs : y.f0.f1 ≤ s
    · rw [if_pos hs, List.all_cons, decide_eq_false (by omega), Bool.false_and]
    · rw [if_neg hs, List.all_cons, decide_eq_true (by omega), Bool.true_and]
theorem cF_cntT (snaps : List Int) (x0 : PC.S44) : ∀ (t pre : List PC.S44) (b : Int), (∀ y ∈ pre, sameU y x0 = true) → (∀ y ∈ t, sameU y x0 = true) → b < topU → (∀ s, pre.all (fun y => decide (s < y.f0.f1)) = decide (s ≤ b)) → cF snaps pre t = cntT snaps b t
  | [], _, _, _, _, _, _ => rfl
  | y :: t, pre, b, hp, ht, hb, hall => by
    have hy := ht y (by simp)
    have hpy : ∀ z ∈ pre, sameU z y = true := fun z hz => by rw [sameU_cong hy]; exact hp z hz
    have hi : isCnt snaps pre y = snaps.any (within y.f0.f1 b) := by
      have e : ∀ s, isFst y s pre = within y.f0.f1 b s := fun s => by
        unfold isFst within
        rw [fstR_all y s pre hpy, hall]
      unfold isCnt
      rw [show (fun s => isFst y s pre) = within y.f0.f1 b from funext e, e]
      have : within y.f0.f1 b topU = false := by
        unfold within
        rw [decide_eq_false (show ¬ topU ≤ b by omega), Bool.and_false]
      rw [this, Bool.false_or]
    have hp2 : ∀ z ∈ y :: pre, sameU z x0 = true := fun z hz => by
      rcases List.mem_cons.1 hz with rfl | h
      · exact hy
      · exact hp z h
    unfold cF cntT
    rw [hi]
    by_cases hle : y.f0.f1 ≤ b
    · rw [if_pos hle]
      have ih := cF_cntT snaps x0 t (y :: pre) (y.f0.f1 - 1) hp2 (fun z hz => ht z (by simp [hz])) (by omega) (fun s => by
        rw [List.all_cons, hall, Bool.eq_iff_iff]
        simp only [Bool.and_eq_true, decide_eq_true_eq]
        omega)
      rw [ih]
    · rw [if_neg hle]
      have ih := cF_cntT snaps x0 t (y :: pre) b hp2 (fun z hz => ht z (by simp [hz])) hb (fun s => by
        rw [List.all_cons, hall, Bool.eq_iff_iff]
        simp only [Bool.and_eq_true, decide_eq_true_eq]
        omega)
      rw [ih]
      have : snaps.any (within y.f0.f1 b) = false := by
        rw [List.any_eq_false]
        intro s _
        unfold within
        simp only [Bool.and_eq_true, decide_eq_true_eq]
        omega
      rw [if_neg (by rw [this]; decide)]
/-- An entry's number is a number. -/
def okN (x : PC.S44) : Prop := 0 ≤ x.f0.f1 ∧ x.f0.f1 ≤ topU
theorem cF_first (snaps : List Int) (x : PC.S44) (t : List PC.S44) (hx : okN x) (ht : ∀ y ∈ t, sameU y x = true) : cF snaps [] (x :: t) = x :: cntT snaps (x.f0.f1 - 1) t := by
  have h1 : isCnt snaps [] x = true := by
    unfold isCnt isFst
    rw [decide_eq_true hx.2]
    rfl
  have h2 := hx.2
  unfold cF
  rw [if_pos h1, cF_cntT snaps x t [x] (x.f0.f1 - 1) (fun y hy => by rw [List.mem_singleton.1 hy]; exact sameU_refl x) ht (by omega) (fun s => by
    simp only [List.all_cons, List.all_nil, Bool.and_true]
    rw [Bool.eq_iff_iff]
    simp only [decide_eq_true_eq]
    omega)]
theorem runC_cntT (snaps : List Int) : ∀ (t : List PC.S44) (out : List PC.S44) (ab : Int) (op : Bool), out ≠ [] → (op = true → 0 ≤ ab ∨ ab = -1) → (∀ y ∈ t, okN y) → (t.foldl (stepC snaps) (out, ab, op)).1 = out ++ cntT snaps (if op = true then ab else -1) t
  | [], out, ab, op, _, _, _ => by simp [cntT]
  | y :: t, out, ab, op, ho, hab, hv => by
    have hy := hv y (by simp)
    have hvt : ∀ z ∈ t, okN z := fun z hz => hv z (by simp [hz])
    obtain ⟨h0, h1⟩ := hy
    have hou : decide (out = []) = false := decide_eq_false ho
    rw [List.foldl_cons]
    unfold cntT
    cases op with
    | false =>
      have hs : (if (false = true) then ab else (-1 : Int)) = -1 := rfl
      rw [hs, if_neg (by omega)]
      have : stepC snaps (out, ab, false) y = (out, (if y.f0.f1 ≤ ab then IntKind.u64.wrap (y.f0.f1 - 1) else ab), false) := by
        simp [stepC, seenC]
      rw [this, runC_cntT snaps t out _ false ho (by simp) hvt]
      rfl
    | true =>
      have hs : (if (true = true) then ab else (-1 : Int)) = ab := rfl
      rw [hs]
      by_cases hle : y.f0.f1 ≤ ab
      · rw [if_pos hle]
        have hseen : seenC snaps (out, ab, true) y = snaps.any (within y.f0.f1 ab) := by
          simp [seenC, hle, ho]
        have hst : stepC snaps (out, ab, true) y = (if snaps.any (within y.f0.f1 ab) = true then out ++ [y] else out, IntKind.u64.wrap (y.f0.f1 - 1), decide (0 < y.f0.f1)) := by
          unfold stepC
          rw [hseen]
          simp [hle]
        have hb : (if decide (0 < y.f0.f1) = true then IntKind.u64.wrap (y.f0.f1 - 1) else -1) = y.f0.f1 - 1 := by
          by_cases hp : 0 < y.f0.f1
          · rw [if_pos (decide_eq_true hp)]
            unfold topU at h1
            have : IntKind.u64.wrap (y.f0.f1 - 1) = y.f0.f1 - 1 := by
              rw [IntKind.wrap]
              simp [IntKind.signed, IntKind.bits]
              omega
            exact this
          · rw [if_neg (by simpa using hp)]
            omega
        rw [hst]
        by_cases ha : snaps.any (within y.f0.f1 ab) = true
        · rw [if_pos ha, if_pos ha, runC_cntT snaps t (out ++ [y]) _ _ (by simp) (fun hd => by rw [if_pos hd] at hb; omega) hvt, hb]
          simp
        · rw [if_neg ha, if_neg ha, runC_cntT snaps t out _ _ ho (fun hd => by rw [if_pos hd] at hb; omega) hvt, hb]
      · rw [if_neg hle]
        have : stepC snaps (out, ab, true) y = (out, ab, true) := by
          simp [stepC, seenC, hle]
        rw [this, runC_cntT snaps t out ab true ho hab hvt]
        rfl
theorem countedL_cons (snaps : List Int) (x : PC.S44) (t : List PC.S44) (hx : okN x) (ht : ∀ y ∈ t, okN y) : countedL snaps (x :: t) = x :: cntT snaps (x.f0.f1 - 1) t := by
  obtain ⟨h0, h1⟩ := hx
  have hst : stepC snaps ([], topU, true) x = ([x], IntKind.u64.wrap (x.f0.f1 - 1), decide (0 < x.f0.f1)) := by
    simp [stepC, seenC, h1]
  have hb : (if decide (0 < x.f0.f1) = true then IntKind.u64.wrap (x.f0.f1 - 1) else -1) = x.f0.f1 - 1 := by
    by_cases hp : 0 < x.f0.f1
    · rw [if_pos (decide_eq_true hp)]
      unfold topU at h1
      have : IntKind.u64.wrap (x.f0.f1 - 1) = x.f0.f1 - 1 := by
        rw [IntKind.wrap]
        simp [IntKind.signed, IntKind.bits]
        omega
      exact this
    · rw [if_neg (by simpa using hp)]
      omega
  unfold countedL runC
  rw [List.foldl_cons, hst, runC_cntT snaps t [x] _ _ (by simp) (fun hd => by rw [if_pos hd] at hb; omega) ht, hb]
  rfl
theorem runM_foldr (l : List PC.S44) : (runM l.reverse).1 = l.any (fun y => y.f0.f2 == 1) ∧ (runM l.reverse).2.reverse = keepP l := by
  unfold runM
  rw [List.foldl_reverse]
  induction l with
  | nil => exact ⟨rfl, rfl⟩
  | cons x t ih =>
    obtain ⟨i1, i2⟩ := ih
    rw [List.foldr_cons]
    obtain ⟨st, hst⟩ : ∃ st, List.foldr (fun x y => stepM y x) (false, []) t = st := ⟨_, rfl⟩
    rw [hst] at i1 i2 ⊢
    have e : (x :: t).any (fun y => y.f0.f2 == 1) = (st.1 || x.f0.f2 == 1) := by rw [List.any_cons, Bool.or_comm, i1]
    rw [keepP_cons, e]
    refine ⟨rfl, ?_⟩
    by_cases h : (st.1 || x.f0.f2 == 1) = true
    · rw [if_pos h]
      show (if (st.1 || x.f0.f2 == 1) = true then st.2 ++ [x] else st.2).reverse = _
      rw [if_pos h, List.reverse_append, i2]
      rfl
    · rw [if_neg h]
      show (if (st.1 || x.f0.f2 == 1) = true then st.2 ++ [x] else st.2).reverse = _
      rw [if_neg h, i2]
      refine keepP_none t ?_
      rw [← i1]
      rw [Bool.not_eq_true, Bool.or_eq_false_iff] at h
      exact h.1
theorem settledL_keepP (l : List PC.S44) : settledL l = keepP l := (runM_foldr l).2
theorem pick_group (snaps : List Int) (bottom : Bool) (x : PC.S44) (t : List PC.S44) (hx : okN x) (ht : ∀ y ∈ t, okN y) (hs : ∀ y ∈ t, sameU y x = true) : pick (x :: t) (RB snaps bottom [] (x :: t)).2 = stayU snaps bottom (x :: t) := by
  rw [(pick_RB snaps bottom x (x :: t) [] (fun y hy => by
    rcases List.mem_cons.1 hy with rfl | h
    · exact sameU_refl _
    · exact hs y h)).2, cF_first snaps x t hx hs]
  unfold stayU
  rw [countedL_cons snaps x t hx ht, settledL_keepP]
theorem mem_tw {α : Type} (p : α → Bool) : ∀ (l : List α) (y : α), y ∈ l.takeWhile p → p y = true
  | [], y, h => by simp at h
  | a :: t, y, h => by
    rw [List.takeWhile_cons] at h
    split at h
    · rename_i ha
      rcases List.mem_cons.1 h with rfl | h
      · exact ha
      · exact mem_tw p t y h
    · cases h
theorem pick_dropL (snaps : List Int) (bottom : Bool) : ∀ (n : Nat) (l : List PC.S44), l.length ≤ n → (∀ y ∈ l, okN y) → pick l (RB snaps bottom [] l).2 = dropL snaps bottom l
  | _, [], _, _ => rfl
  | 0, _ :: _, h, _ => by simp at h
  | n + 1, x :: t, hn, hv => by
    have ht : t = t.takeWhile (fun y => sameU y x) ++ t.dropWhile (fun y => sameU y x) := (List.takeWhile_append_dropWhile).symm
    obtain ⟨g, hg⟩ : ∃ g, t.takeWhile (fun y => sameU y x) = g := ⟨_, rfl⟩
    obtain ⟨r, hr⟩ : ∃ r, t.dropWhile (fun y => sameU y x) = r := ⟨_, rfl⟩
    have hgs : ∀ y ∈ g, sameU y x = true := fun y hy => by
      rw [← hg] at hy
      exact mem_tw (fun y => sameU y x) _ _ hy
    have hrs : ∀ y, r.head? = some y → sameU y x = false := fun y hy => by
      have h2 := List.head?_dropWhile_not (fun y => sameU y x) t
      rw [hr, hy] at h2
      simpa using h2
    have hd : dropL snaps bottom (x :: t) = stayU snaps bottom (x :: g) ++ dropL snaps bottom r := by
      unfold dropL
      rw [groups_span, hg, hr]
      simp
    rw [hd]
    rw [hg, hr] at ht
    have hlr : r.length ≤ n := by
      have := congrArg List.length ht
      simp at this hn
      omega
    have hvr : ∀ y ∈ r, okN y := fun y hy => hv y (by rw [ht]; simp [hy])
    have hvg : ∀ y ∈ g, okN y := fun y hy => hv y (by rw [ht]; simp [hy])
    have hall : ∀ y ∈ x :: g, sameU y x = true := fun y hy => by
      rcases List.mem_cons.1 hy with rfl | h
      · exact sameU_refl _
      · exact hgs y h
    rw [show x :: t = (x :: g) ++ r by rw [ht]; rfl, RB_group snaps bottom x r hrs (x :: g) [] hall (by simp), pick_append _ _ _ _ (RB_len _ _ _ _), pick_group snaps bottom x g (hv x (by simp)) hvg hgs]
    congr 1
    have hctx := RB_ctx snaps bottom ((x :: g).reverse) r [] (fun z hz y hy => by
      have hy' : y ∈ (x :: g).reverse := List.mem_of_mem_head? hy
      have h1 := hall y (List.mem_reverse.1 hy')
      have h2 := hrs z hz
      show sameU y z = false
      rw [sameU_comm, sameU_cong h1]
      exact h2)
    rw [List.append_nil]
    rw [List.nil_append] at hctx
    rw [hctx]
    exact pick_dropL snaps bottom n r hlr hvr

/-- **What the document lets stay is what the program keeps.** -/
theorem refDrop_eq (l : List PC.S44) (snaps : List Int) (bottom : Bool) (k : Nat) (hl : l.length ≤ 2932031007402) (hs : snaps.length ≤ 9223372036854775806) (hk : 5 * l.length + snaps.length + 10 ≤ k) (hv : ∀ y ∈ l, okN y) :
    PC.staddleref19_Drop.f k l snaps bottom = if risesB l = true then some (dropL snaps bottom l, 0) else some ([], 160) := by
  rw [Drop_f l snaps bottom k hl hs hk, pick_dropL snaps bottom l.length l (Nat.le_refl _) hv]

end Go.Proofs.Ytehoojmalhloeaa.CM
