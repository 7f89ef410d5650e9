/- What is seen of entries at a number (chapter 17's document), in plain words; what is seen of what stays. No program in sight. -/
import Derived.Test.YtehoojmalhloeaaPCx6
import Derived.Test.YtehoojmalhloeaaPCx7
import Derived.Test.YtehoojmalhloeaaDK
namespace Go.Proofs.Ytehoojmalhloeaa.CM
open Go.RowKit Go.Proofs.YtehoojmalhloeaaW.PrintWords
set_option linter.unusedVariables false
set_option linter.unusedSimpArgs false

/-- What is shown of an entry. -/
def item (x : PC.S44) : PC.S76 := ⟨x.f0.f0, x.f1⟩
/-- What is seen. pre: what stands ahead, the nearest first. -/
def VS (s : Int) : List PC.S44 → List PC.S44 → List PC.S76
  | _, [] => []
  | pre, x :: t => if (isFst x s pre && x.f0.f2 == 1) = true then item x :: VS s (x :: pre) t else VS s (x :: pre) t
theorem fstR_congr {x y : PC.S44} (h : sameU x y = true) (s : Int) : ∀ p, fstR x s p = fstR y s p
  | [] => rfl
  | z :: p => by
    unfold fstR
    rw [sameU_cong h, fstR_congr h s p]
/-- Is this user's entry behind already? -/
def prevD (s : Int) : List PC.S44 → Bool
  | [] => false
  | y :: p => !(fstR y s p) || decide (y.f0.f1 ≤ s)
theorem prevD_cons (s : Int) (y : PC.S44) (p : List PC.S44) : prevD s (y :: p) = (!(fstR y s p) || decide (y.f0.f1 ≤ s)) := rfl
theorem fstR_cons (x : PC.S44) (s : Int) (y : PC.S44) (p : List PC.S44) : fstR x s (y :: p) = if sameU y x = true then (if y.f0.f1 ≤ s then false else fstR x s p) else true := rfl
theorem getD_drop' (l : List PC.S44) (i : Nat) (h : i < l.length) : l.drop i = l.getD i PC.z44 :: l.drop (i + 1) := by
  rw [List.drop_eq_getElem_cons h]
  simp [List.getD_eq_getElem?_getD, List.getElem?_eq_getElem h]
theorem Seen_l0 (l : List PC.S44) (s : Int) (hl : l.length ≤ 4398046511103) : ∀ (m k i : Nat) (out : List PC.S76), l.length - i ≤ m → 4 * m + 1 ≤ k → i ≤ l.length → out.length ≤ i →
    PC.staddleref17_Seen.l0 k l s out (prevD s (l.take i).reverse) (i : Int) = some (out ++ VS s (l.take i).reverse (l.drop i))
  | m, 0, i, out, _, hk, _, _ => by omega
  | 0, k + 1, i, out, hm, hk, hi, ho => by
    have hd : l.drop i = [] := List.drop_of_length_le (by omega)
    unfold PC.staddleref17_Seen.l0
    rw [if_neg (by omega), hd]
    simp [VS]
  | m + 1, 1, i, out, hm, hk, hi, ho => by omega
  | m + 1, 2, i, out, hm, hk, hi, ho => by omega
  | m + 1, 3, i, out, hm, hk, hi, ho => by omega
  | m + 1, k + 4, i, out, hm, hk, hi, ho => by
    unfold PC.staddleref17_Seen.l0
    by_cases h : i < l.length
    · obtain ⟨x, hx⟩ : ∃ x, l.getD i PC.z44 = x := ⟨_, rfl⟩
      have hd := getD_drop' l i h
      have ht := take_rev l i h
      rw [hx] at hd ht
      obtain ⟨pre, hpre⟩ : ∃ pre, (l.take i).reverse = pre := ⟨_, rfl⟩
      rw [hpre] at ht ⊢
      have e1 : ((i : Int) + 1) = ((i + 1 : Nat) : Int) := by omega
      have ih : ∀ (k' : Nat) (out' : List PC.S76), 4 * m + 1 ≤ k' → out'.length ≤ i + 1 → PC.staddleref17_Seen.l0 k' l s out' (prevD s (x :: pre)) ((i : Int) + 1) = some (out' ++ VS s (x :: pre) (l.drop (i + 1))) := fun k' out' hk' ho' => by
        have := Seen_l0 l s hl m k' (i + 1) out' (by omega) hk' (by omega) ho'
        rw [ht] at this
        rw [e1]
        exact this
      -- behind the question of the user
      have hj2 : ∀ d : Bool, d = !(fstR x s pre) → PC.staddleref17_Seen.j2 (k + 2) l s out d (i : Int) = some (out ++ VS s pre (l.drop i)) := by
        rintro d rfl
        rw [hd]
        unfold VS isFst
        simp only [PC.staddleref17_Seen.j2, PC.staddleref17_Seen.j3]
        rw [rd44, hx, w64 ((i : Int) + 1) (by omega)]
        cases hf : fstR x s pre with
        | false =>
          rw [if_pos (by decide), if_pos trivial]
          have hp : prevD s (x :: pre) = true := by simp [prevD, hf]
          have := ih k out (by omega) (by omega)
          rw [hp] at this
          simp only [Bool.and_false, Bool.false_and, Bool.false_eq_true, if_false, Bool.not_false]
          exact this
        | true =>
          rw [if_neg (by decide), if_pos (by omega), if_pos (by omega)]
          by_cases hs : x.f0.f1 ≤ s
          · have hp : prevD s (x :: pre) = true := by simp [prevD, hs]
            rw [if_neg (by simp; omega), if_pos (by omega), if_pos (by omega)]
            by_cases hk1 : x.f0.f2 = 1
            · rw [if_pos hk1, if_pos (by omega)]
              have := ih k (out ++ [⟨x.f0.f0, x.f1⟩]) (by omega) (by simp; omega)
              rw [hp] at this
              rw [this, decide_eq_true hs, show (x.f0.f2 == 1) = true from beq_iff_eq.mpr hk1]
              simp [item]
            · rw [if_neg hk1]
              have := ih k out (by omega) (by omega)
              rw [hp] at this
              rw [this, show (x.f0.f2 == 1) = false from beq_eq_false_iff_ne.mpr hk1]
              simp
          · have hp : prevD s (x :: pre) = false := by simp [prevD, hf]; omega
            rw [if_pos (by simp; omega)]
            have := ih k out (by omega) (by omega)
            rw [hp] at this
            rw [decide_eq_false hs]
            simp only [Bool.false_and, Bool.false_eq_true, if_false, Bool.not_true]
            exact this
      rw [if_pos (by omega)]
      by_cases h0 : (i : Int) > 0
      · obtain ⟨j, rfl⟩ : ∃ j, i = j + 1 := ⟨i - 1, by omega⟩
        have htj := take_rev l j (by omega)
        obtain ⟨y, hy⟩ : ∃ y, l.getD j PC.z44 = y := ⟨_, rfl⟩
        rw [hy, hpre] at htj
        have e2 : ((j + 1 : Nat) : Int) - 1 = (j : Int) := by omega
        rw [if_pos h0, if_pos (by omega), w64 (((j + 1 : Nat) : Int) - 1) (by omega), e2, if_pos (by omega), if_pos (by omega), rd44, rd44, hx, hy]
        unfold PC.staddleref17_Seen.j1
        by_cases hu : sameU y x = true
        · have hu' : ¬ (x.f0.f0.toList != y.f0.f0.toList) = true := by
            have := sameU_eq hu
            simp [this]
          rw [if_neg hu']
          refine hj2 _ ?_
          rw [htj, prevD_cons, fstR_cons, if_pos hu, fstR_congr hu s]
          by_cases hys : y.f0.f1 ≤ s
          · rw [if_pos hys, decide_eq_true hys]; simp
          · rw [if_neg hys, decide_eq_false hys]; simp
        · have hu' : (x.f0.f0.toList != y.f0.f0.toList) = true := by
            rw [bne_iff_ne]
            intro e
            refine hu ?_
            unfold sameU
            rw [beq_iff_eq]
            exact e.symm
          rw [if_pos hu']
          refine hj2 _ ?_
          rw [htj, fstR_cons, if_neg hu]
          rfl
      · obtain rfl : i = 0 := by omega
        rw [if_neg h0]
        have hp0 : pre = [] := by rw [← hpre]; simp
        unfold PC.staddleref17_Seen.j1
        rw [if_neg (by decide)]
        refine hj2 _ ?_
        rw [hp0]
        rfl
    · have hd : l.drop i = [] := List.drop_of_length_le (by omega)
      rw [if_neg (by omega), hd]
      simp [VS]
theorem Seen_f (l : List PC.S44) (s : Int) (k : Nat) (hl : l.length ≤ 4398046511103) (hk : 4 * l.length + 1 ≤ k) : PC.staddleref17_Seen.f k l s = some (VS s [] l) := by
  have := Seen_l0 l s hl l.length k 0 [] (by omega) hk (by omega) (by simp)
  simpa [PC.staddleref17_Seen.f, prevD] using this

/-! ### what is seen of a row that rises -/
/-- Is x seen, in l at s: the first of its user's that is not above s, and one that puts? -/
def seenB (s : Int) (l : List PC.S44) (x : PC.S44) : Prop := x.f0.f1 ≤ s ∧ (∀ y ∈ l, sameU y x = true → y.f0.f1 ≤ s → ¬ R y x) ∧ x.f0.f2 = 1
theorem fstR_sorted (x : PC.S44) (s : Int) : ∀ pre : List PC.S44, pre.Pairwise (fun a b => R b a) → (∀ y ∈ pre, R y x) → (fstR x s pre = true ↔ ∀ y ∈ pre, sameU y x = true → ¬ y.f0.f1 ≤ s)
  | [], _, _ => by simp [fstR]
  | y :: p, hp, hx => by
    obtain ⟨h1, h2⟩ := List.pairwise_cons.1 hp
    have ih := fstR_sorted x s p h2 (fun z hz => hx z (List.mem_cons_of_mem _ hz))
    unfold fstR
    by_cases hu : sameU y x = true
    · rw [if_pos hu]
      by_cases hs : y.f0.f1 ≤ s
      · rw [if_pos hs]
        exact ⟨(fun h => by cases h), fun h => absurd hs (h y (by simp) hu)⟩
      · rw [if_neg hs, ih]
        constructor
        · intro h z hz
          rcases List.mem_cons.1 hz with rfl | hz
          · exact fun _ => hs
          · exact h z hz
        · exact fun h z hz => h z (List.mem_cons_of_mem _ hz)
    · rw [if_neg hu]
      refine ⟨fun _ z hz hzu => ?_, fun _ => rfl⟩
      rcases List.mem_cons.1 hz with rfl | hz
      · exact absurd hzu hu
      · exact absurd (R_between (h1 z hz) (hx y (by simp)) hzu) hu
open Classical in
theorem VS_filter (s : Int) (M : List PC.S44) (hM : M.Pairwise R) : ∀ (t pre : List PC.S44), M = pre.reverse ++ t → VS s pre t = (t.filter (fun x => decide (seenB s M x))).map item
  | [], _, _ => rfl
  | x :: t, pre, he => by
    have ih := VS_filter s M hM t (x :: pre) (by rw [he]; simp)
    have hM' := hM
    rw [he] at hM'
    obtain ⟨p1, p2, p3⟩ := List.pairwise_append.1 hM'
    obtain ⟨q1, q2⟩ := List.pairwise_cons.1 p2
    have hpx : ∀ y ∈ pre, R y x := fun y hy => p3 y (List.mem_reverse.2 hy) x (by simp)
    have hf := fstR_sorted x s pre (by rwa [List.pairwise_reverse] at p1) hpx
    have e : (isFst x s pre && x.f0.f2 == 1) = decide (seenB s M x) := by
      rw [Bool.eq_iff_iff, @decide_eq_true_iff (seenB s M x)]
      simp only [isFst, Bool.and_eq_true, decide_eq_true_eq, beq_iff_eq, hf]
      unfold seenB
      constructor
      · rintro ⟨⟨h1, h2⟩, h3⟩
        refine ⟨h1, fun y hy hu hs hR => ?_, h3⟩
        rw [he] at hy
        rcases List.mem_append.1 hy with hy | hy
        · exact h2 y (List.mem_reverse.1 hy) hu hs
        · rcases List.mem_cons.1 hy with rfl | hy
          · exact R_irrefl _ hR
          · exact R_asymm hR (q1 y hy)
      · rintro ⟨h1, h2, h3⟩
        exact ⟨⟨h1, fun y hy hu hs => h2 y (by rw [he]; exact List.mem_append_left _ (List.mem_reverse.2 hy)) hu hs (hpx y hy)⟩, h3⟩
    unfold VS
    rw [e, List.filter_cons]
    by_cases h : seenB s M x
    · rw [decide_eq_true h, if_pos rfl, if_pos rfl, ih]
      rfl
    · rw [decide_eq_false h, if_neg (by decide), if_neg (by decide), ih]
/-- Rows that rise, of which the same entries are seen, are seen alike. -/
theorem VS_ext (s : Int) (l m : List PC.S44) (hl : l.Pairwise R) (hm : m.Pairwise R) (h : ∀ x, (x ∈ l ∧ seenB s l x) ↔ (x ∈ m ∧ seenB s m x)) : VS s [] l = VS s [] m := by
  classical
  rw [VS_filter s l hl l [] rfl, VS_filter s m hm m [] rfl]
  congr 1
  refine pw_ext _ _ (hl.filter _) (hm.filter _) (fun x => ?_)
  simp only [List.mem_filter, decide_eq_true_eq]
  exact h x

/-! ### what is seen of what stays -/
theorem cntT_first (snaps : List Int) (s : Int) (hs : s ∈ snaps) (x : PC.S44) (hx : x.f0.f1 ≤ s) : ∀ (pre post : List PC.S44) (b : Int), (∀ y ∈ pre, s < y.f0.f1) → s ≤ b → x ∈ cntT snaps b (pre ++ x :: post)
  | [], post, b, _, hb => by
    have : snaps.any (within x.f0.f1 b) = true := List.any_eq_true.2 ⟨s, hs, by simp [within, hx, hb]⟩
    show x ∈ cntT snaps b (x :: post)
    unfold cntT
    rw [if_pos (by omega), if_pos this]
    exact List.mem_cons_self
  | y :: pre, post, b, hp, hb => by
    have hy := hp y (by simp)
    have ih : ∀ b', s ≤ b' → x ∈ cntT snaps b' (pre ++ x :: post) := fun b' hb' => cntT_first snaps s hs x hx pre post b' (fun z hz => hp z (List.mem_cons_of_mem _ hz)) hb'
    show x ∈ cntT snaps b (y :: (pre ++ x :: post))
    unfold cntT
    split
    · split
      · exact List.mem_cons_of_mem _ (ih _ (by omega))
      · exact ih _ (by omega)
    · exact ih _ hb
/-- The first of a user's entries that is not above one of the numbers counts. -/
theorem counted_first (snaps : List Int) (s : Int) (hs : s ∈ snaps ∨ s = topU) (x : PC.S44) (hx : x.f0.f1 ≤ s) (pre post : List PC.S44) (hv : ∀ y ∈ pre ++ x :: post, okN y) (hp : ∀ y ∈ pre, s < y.f0.f1) : x ∈ countedL snaps (pre ++ x :: post) := by
  cases pre with
  | nil =>
    rw [List.nil_append, countedL_cons snaps x post (hv x (by simp)) (fun y hy => hv y (by simp [hy]))]
    exact List.mem_cons_self
  | cons a pre =>
    have ha := hp a (by simp)
    have hs' : s ∈ snaps := by
      rcases hs with h | rfl
      · exact h
      · have := (hv a (by simp)).2
        omega
    show x ∈ countedL snaps (a :: (pre ++ x :: post))
    rw [countedL_cons snaps a _ (hv a (by simp)) (fun y hy => hv y (by simp at hy ⊢; rcases hy with h | h | h <;> simp [h]))]
    exact List.mem_cons_of_mem _ (cntT_first snaps s hs' x hx pre post _ (fun y hy => hp y (by simp [hy])) (by omega))
/-- The first entry that fits, in a row that rises. -/
theorem exists_first (p : PC.S44 → Bool) : ∀ l : List PC.S44, l.Pairwise R → ∀ x ∈ l, p x = true → ∃ z pre post, l = pre ++ z :: post ∧ p z = true ∧ (∀ y ∈ pre, p y = false) ∧ (z = x ∨ R z x)
  | [], _, x, h, _ => by cases h
  | a :: t, hp, x, hx, hpx => by
    obtain ⟨h1, h2⟩ := List.pairwise_cons.1 hp
    by_cases ha : p a = true
    · refine ⟨a, [], t, rfl, ha, by simp, ?_⟩
      rcases List.mem_cons.1 hx with rfl | h
      · exact .inl rfl
      · exact .inr (h1 x h)
    · rcases List.mem_cons.1 hx with rfl | h
      · exact absurd hpx ha
      · obtain ⟨z, pre, post, e, hz, hpre, hzx⟩ := exists_first p t h2 x h hpx
        refine ⟨z, a :: pre, post, by rw [e]; rfl, hz, fun y hy => ?_, hzx⟩
        rcases List.mem_cons.1 hy with rfl | hy
        · simpa using ha
        · exact hpre y hy
theorem keepP_mem : ∀ (c pre post : List PC.S44) (z : PC.S44), c = pre ++ z :: post → (z :: post).any (fun y => y.f0.f2 == 1) = true → z ∈ keepP c
  | _, [], post, z, rfl, h => by
    show z ∈ keepP (z :: post)
    rw [keepP_cons, if_pos h]
    exact List.mem_cons_self
  | _, a :: pre, post, z, rfl, h => by
    show z ∈ keepP (a :: (pre ++ z :: post))
    rw [keepP_cons, if_pos (by simp only [List.any_cons, List.any_append] at h ⊢; rw [h]; simp)]
    exact List.mem_cons_of_mem _ (keepP_mem _ pre post z rfl h)
theorem keepP_sub : ∀ c : List PC.S44, (keepP c).Sublist c
  | [] => List.Sublist.refl _
  | x :: t => by
    rw [keepP_cons]
    split
    · exact (keepP_sub t).cons_cons x
    · exact List.nil_sublist _
theorem filter_user (l : List PC.S44) (x y : PC.S44) (h : sameU y x = true) : l.filter (fun z => sameU z y) = l.filter (fun z => sameU z x) := by
  congr 1
  funext z
  exact sameU_cong h
/-- The first of a user's entries not above a number counts, in a row that rises. -/
theorem first_counted (snaps : List Int) (l : List PC.S44) (hv : ∀ y ∈ l, okN y) (hp : l.Pairwise R) (s : Int) (hs : s ∈ snaps ∨ s = topU) (x : PC.S44) (hx : x ∈ l) (hxs : x.f0.f1 ≤ s) :
    ∃ z, z ∈ l ∧ sameU z x = true ∧ z.f0.f1 ≤ s ∧ (∀ y ∈ l, sameU y x = true → y.f0.f1 ≤ s → y = z ∨ R z y) ∧ z ∈ countedL snaps (l.filter (fun y => sameU y x)) := by
  have hpf : (l.filter (fun y => sameU y x)).Pairwise R := hp.filter _
  have hvf : ∀ y ∈ l.filter (fun y => sameU y x), okN y := fun y hy => hv y (List.mem_filter.1 hy).1
  obtain ⟨z, pre, post, e, hz, hpre, _⟩ := exists_first (fun y => decide (y.f0.f1 ≤ s)) _ hpf x (List.mem_filter.2 ⟨hx, sameU_refl x⟩) (decide_eq_true hxs)
  have hzm : z ∈ l.filter (fun y => sameU y x) := by rw [e]; simp
  refine ⟨z, (List.mem_filter.1 hzm).1, (List.mem_filter.1 hzm).2, of_decide_eq_true hz, fun y hy hyu hys => ?_, ?_⟩
  · have hym : y ∈ l.filter (fun y => sameU y x) := List.mem_filter.2 ⟨hy, hyu⟩
    rw [e] at hym hpf
    rcases List.mem_append.1 hym with h | h
    · have := hpre y h
      rw [decide_eq_true hys] at this
      cases this
    · rcases List.mem_cons.1 h with rfl | h
      · exact .inl rfl
      · exact .inr ((List.pairwise_cons.1 (List.pairwise_append.1 hpf).2.1).1 y h)
  · rw [e] at hvf ⊢
    exact counted_first snaps s hs z (of_decide_eq_true hz) pre post hvf (fun y hy => by
      have := hpre y hy
      simpa using this)
theorem keeps_seen (snaps : List Int) (bottom : Bool) (l : List PC.S44) (hv : ∀ y ∈ l, okN y) (hp : l.Pairwise R) (s : Int) (hs : s ∈ snaps ∨ s = topU) : VS s [] (dropL snaps bottom l) = VS s [] l := by
  have hsub := dropL_sub snaps bottom l hv
  refine VS_ext s _ _ (hp.sublist hsub) hp (fun x => ⟨?_, ?_⟩)
  · rintro ⟨hx, h1, h2, h3⟩
    have hxl := hsub.subset hx
    refine ⟨hxl, h1, fun y hy hu hys hR => ?_, h3⟩
    obtain ⟨z, hz1, hz2, hz3, hz4, hz5⟩ := first_counted snaps l hv hp s hs x hxl h1
    -- z is ahead of x
    have hzx : R z x := by
      rcases hz4 y hy hu hys with rfl | h
      · exact hR
      · exact R_trans h hR
    -- and stays
    have hzd : z ∈ dropL snaps bottom l := by
      rw [mem_dropL snaps bottom l hv hp, filter_user l x z hz2]
      have hxd := (mem_dropL snaps bottom l hv hp x).1 hx
      unfold stayU at hxd ⊢
      cases bottom with
      | false => simpa using hz5
      | true =>
        rw [if_pos rfl, settledL_keepP] at hxd ⊢
        obtain ⟨pre, post, e⟩ := List.append_of_mem hz5
        refine keepP_mem _ pre post z e ?_
        have hxc := (keepP_sub _).subset hxd
        have hpc : (countedL snaps (l.filter (fun y => sameU y x))).Pairwise R := by
          have h9 := stayU_sub snaps false (l.filter (fun y => sameU y x)) (fun y hy => hv y (List.mem_filter.1 hy).1)
          unfold stayU at h9
          rw [if_neg (by decide)] at h9
          exact (hp.filter _).sublist h9
        rw [e] at hxc hpc
        rcases List.mem_append.1 hxc with h | h
        · exact absurd hzx (fun q => R_asymm q ((List.pairwise_append.1 hpc).2.2 x h z (by simp)))
        · exact List.any_eq_true.2 ⟨x, h, beq_iff_eq.mpr h3⟩
    exact h2 z hzd hz2 hz3 hzx
  · rintro ⟨hx, h1, h2, h3⟩
    obtain ⟨z, hz1, hz2, hz3, hz4, hz5⟩ := first_counted snaps l hv hp s hs x hx h1
    have hzx : z = x := by
      rcases hz4 x hx (sameU_refl x) h1 with h | h
      · exact h.symm
      · exact absurd h (h2 z hz1 hz2 hz3)
    subst hzx
    refine ⟨?_, h1, fun y hy => h2 y (hsub.subset hy), h3⟩
    rw [mem_dropL snaps bottom l hv hp]
    unfold stayU
    cases bottom with
    | false => simpa using hz5
    | true =>
      rw [if_pos rfl, settledL_keepP]
      obtain ⟨pre, post, e⟩ := List.append_of_mem hz5
      exact keepP_mem _ pre post z e (List.any_eq_true.2 ⟨z, by simp, beq_iff_eq.mpr h3⟩)

end Go.Proofs.Ytehoojmalhloeaa.CM
