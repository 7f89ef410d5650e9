/- view: what is seen, from before and from behind; a place in it. No program in sight. -/
import Derived.Test.YtehoojmalhloeaaVE
import Derived.Test.YtehoojmalhloeaaNM

/-! view: what is seen, as a list; what is found from a place on, and back. No program in sight. -/
namespace Go.Proofs.Ytehoojmalhloeaa.CM
open Go.RowKit Go.Proofs.YtehoojmalhloeaaW.PrintWords
set_option linter.unusedVariables false
set_option linter.unusedSimpArgs false
set_option maxRecDepth 100000

abbrev us (x : PC.S44) : List UInt8 := x.f0.f0.toList
def lu (a b : List UInt8) : Prop := Op.bytesLess a b = true
theorem lu_irr (a : List UInt8) : ¬ lu a a := fun h => by unfold lu at h; rw [less_irrefl] at h; cases h
theorem lu_tr {a b c : List UInt8} (h : lu a b) (k : lu b c) : lu a c := less_trans a b c h k
theorem lu_as {a b : List UInt8} (h : lu a b) (k : lu b a) : False := lu_irr a (lu_tr h k)
/-- Users do not fall. -/
def SU (l : List PC.S44) : Prop := l.Pairwise (fun x y => lu (us x) (us y) ∨ us x = us y)
def itemO (x : PC.S44) : PC.S76 := ⟨x.f0.f0, x.f1⟩
/-- What is seen. -/
def vsS (seq : Int) : Option ByteArray → List PC.S44 → List PC.S76
  | _, [] => []
  | d, x :: t => if skp seq d x = true then vsS seq d t else if x.f0.f2 = 1 then itemO x :: vsS seq (some x.f0.f0) t else vsS seq (some x.f0.f0) t
theorem vsS_cons (seq : Int) (d : Option ByteArray) (x : PC.S44) (t : List PC.S44) : vsS seq d (x :: t) = if skp seq d x = true then vsS seq d t else if x.f0.f2 = 1 then itemO x :: vsS seq (some x.f0.f0) t else vsS seq (some x.f0.f0) t := rfl
theorem onS_vs (seq : Int) : ∀ (l : List PC.S44) (d : Option ByteArray), onS seq d l = (vsS seq d l).head?
  | [], d => rfl
  | x :: t, d => by
    show (if skp seq d x = true then onS seq d t else if x.f0.f2 = 1 then some ⟨x.f0.f0, x.f1⟩ else onS seq (some x.f0.f0) t) = _
    unfold vsS
    by_cases h1 : skp seq d x = true
    · rw [if_pos h1, if_pos h1, onS_vs seq t d]
    · rw [if_neg h1, if_neg h1]
      by_cases h2 : x.f0.f2 = 1
      · rw [if_pos h2, if_pos h2]; rfl
      · rw [if_neg h2, if_neg h2, onS_vs seq t]
theorem vs_mem (seq : Int) : ∀ (l : List PC.S44) (d : Option ByteArray), ∀ y ∈ vsS seq d l, ∃ z ∈ l, y = itemO z
  | [], d, y, h => by cases h
  | x :: t, d, y, h => by
    unfold vsS at h
    split at h
    · obtain ⟨z, h1, h2⟩ := vs_mem seq t d y h; exact ⟨z, List.mem_cons_of_mem _ h1, h2⟩
    · split at h
      · rcases List.mem_cons.1 h with rfl | h
        · exact ⟨x, by simp, rfl⟩
        · obtain ⟨z, h1, h2⟩ := vs_mem seq t _ y h; exact ⟨z, List.mem_cons_of_mem _ h1, h2⟩
      · obtain ⟨z, h1, h2⟩ := vs_mem seq t _ y h; exact ⟨z, List.mem_cons_of_mem _ h1, h2⟩
theorem vs_ne (seq : Int) (u : ByteArray) : ∀ t : List PC.S44, (∀ z ∈ t, us z ≠ u.toList) → vsS seq (some u) t = vsS seq none t
  | [], _ => rfl
  | x :: t, h => by
    have hx : (x.f0.f0.toList == u.toList) = false := by simpa using h x (by simp)
    have e : skp seq (some u) x = skp seq none x := by unfold skp; simp only [hx]
    unfold vsS
    rw [e, vs_ne seq u t (fun z hz => h z (by simp [hz]))]
theorem vs_fil (seq : Int) (u : ByteArray) : ∀ t : List PC.S44, SU t → (∀ z ∈ t, us z = u.toList ∨ lu u.toList (us z)) → vsS seq (some u) t = (vsS seq none t).filter (fun y => !(y.f0.toList == u.toList))
  | [], _, _ => rfl
  | x :: t, hs, h => by
    obtain ⟨h1, h2⟩ := List.pairwise_cons.1 hs
    have ih := vs_fil seq u t h2 (fun z hz => h z (by simp [hz]))
    by_cases hx : us x = u.toList
    · have hb : (x.f0.f0.toList == u.toList) = true := by simpa using hx
      have e : skp seq (some u) x = true := by unfold skp; simp only [hb, Bool.true_or]
      have hxu : x.f0.f0 = u := bytes_eq hx
      rw [vsS_cons seq (some u), if_pos e, vsS_cons seq none]
      by_cases h3 : skp seq none x = true
      · rw [if_pos h3, ih]
      · rw [if_neg h3]
        have hf : (vsS seq (some u) t).filter (fun y => !(y.f0.toList == u.toList)) = vsS seq (some u) t := by
          rw [ih, List.filter_filter]; simp
        by_cases h4 : x.f0.f2 = 1
        · rw [if_pos h4, List.filter_cons_of_neg (by show ¬ (!(x.f0.f0.toList == u.toList)) = true; rw [hb]; decide), hxu, hf]
        · rw [if_neg h4, hxu, hf]
    · have hlt : lu u.toList (us x) := (h x (by simp)).resolve_left hx
      have hb : (x.f0.f0.toList == u.toList) = false := by simpa using hx
      have hne : ∀ z ∈ t, us z ≠ u.toList := fun z hz e => by
        rcases h1 z hz with h5 | h5
        · exact lu_irr _ (e ▸ lu_tr hlt h5)
        · exact hx (h5.trans e)
      rw [vs_ne seq u (x :: t) (fun z hz => by
        rcases List.mem_cons.1 hz with rfl | hz
        · exact hx
        · exact hne z hz)]
      symm
      rw [List.filter_eq_self]
      intro y hy
      obtain ⟨z, hz, rfl⟩ := vs_mem seq _ _ y hy
      have : us z ≠ u.toList := by
        rcases List.mem_cons.1 hz with rfl | hz
        · exact hx
        · exact hne z hz
      simpa [itemO] using this
/-- Parts of two users' apart. -/
theorem vs_app (seq : Int) (B : List PC.S44) : ∀ (A : List PC.S44) (d : Option ByteArray), (∀ u, d = some u → ∀ b ∈ B, us b ≠ u.toList) → (∀ a ∈ A, ∀ b ∈ B, us b ≠ us a) → vsS seq d (A ++ B) = vsS seq d A ++ vsS seq none B
  | [], d, hd, _ => by
    cases d with
    | none => rfl
    | some u => exact vs_ne seq u B (hd u rfl)
  | x :: A, d, hd, h => by
    have hx := h x (by simp)
    have hA : ∀ a ∈ A, ∀ b ∈ B, us b ≠ us a := fun a ha => h a (by simp [ha])
    have i1 := vs_app seq B A d hd hA
    have i2 := vs_app seq B A (some x.f0.f0) (fun u e => by cases e; exact hx) hA
    rw [List.cons_append, vsS_cons, vsS_cons]
    split
    · exact i1
    · split
      · rw [i2]; rfl
      · exact i2

/-! ### back -/
def stepB (seq : Int) (x : PC.S44) (r : Bool × Option PC.S44) : Bool × Option PC.S44 := if r.1 = true then r else if stp r.2 x = true then (true, r.2) else (false, nxF seq r.2 x)
def resB (seq : Int) : List PC.S44 → Bool × Option PC.S44
  | [] => (false, none)
  | x :: t => stepB seq x (resB seq t)
theorem goB_stop (seq : Int) (ys : List PC.S44) : ∀ (xs : List PC.S44) (f : Option PC.S44), goB seq f xs = none → goB seq f (xs ++ ys) = none ∧ bkS seq f (xs ++ ys) = bkS seq f xs
  | [], f, h => by cases h
  | x :: t, f, h => by
    have h : (if stp f x = true then none else goB seq (nxF seq f x) t) = none := h
    show (if stp f x = true then none else goB seq (nxF seq f x) (t ++ ys)) = none ∧ (if stp f x = true then f else bkS seq (nxF seq f x) (t ++ ys)) = (if stp f x = true then f else bkS seq (nxF seq f x) t)
    by_cases h1 : stp f x = true
    · rw [if_pos h1, if_pos h1, if_pos h1]; exact ⟨rfl, rfl⟩
    · rw [if_neg h1] at h
      obtain ⟨a, b⟩ := goB_stop seq ys t _ h
      rw [if_neg h1, if_neg h1, if_neg h1]
      exact ⟨a, b⟩
theorem res_bk (seq : Int) : ∀ l : List PC.S44, ((resB seq l).1 = false → goB seq none l.reverse = some (resB seq l).2) ∧ ((resB seq l).1 = true → goB seq none l.reverse = none) ∧ bkS seq none l.reverse = (resB seq l).2
  | [] => ⟨fun _ => rfl, (fun h => by cases h), rfl⟩
  | x :: t => by
    obtain ⟨h1, h2, h3⟩ := res_bk seq t
    rw [List.reverse_cons]
    show ((stepB seq x (resB seq t)).1 = false → _) ∧ _
    unfold stepB
    cases hr : (resB seq t).1 with
    | true =>
      obtain ⟨a, b⟩ := goB_stop seq [x] _ _ (h2 hr)
      rw [if_pos rfl]
      have e : resB seq (x :: t) = resB seq t := by show stepB seq x (resB seq t) = _; unfold stepB; rw [hr, if_pos rfl]
      rw [e]
      exact ⟨fun h => (by rw [hr] at h; cases h), fun _ => a, by rw [b, h3]⟩
    | false =>
      have g := h1 hr
      rw [if_neg (by decide)]
      have e : resB seq (x :: t) = if stp (resB seq t).2 x = true then (true, (resB seq t).2) else (false, nxF seq (resB seq t).2 x) := by show stepB seq x (resB seq t) = _; unfold stepB; rw [hr, if_neg (by decide)]
      rw [e, goB_snoc seq x _ _ _ g, bkS_go seq [x] _ _ _ g]
      by_cases hs : stp (resB seq t).2 x = true
      · rw [if_pos hs, if_pos hs]
        refine ⟨(fun h => by cases h), fun _ => rfl, ?_⟩
        show (if stp _ x = true then _ else _) = _
        rw [if_pos hs]
      · rw [if_neg hs, if_neg hs]
        refine ⟨fun _ => rfl, (fun h => by cases h), ?_⟩
        show (if stp _ x = true then _ else _) = _
        rw [if_neg hs]
        rfl
def BInv (seq : Int) (l : List PC.S44) : Prop :=
  match (resB seq l).1, (resB seq l).2 with
  | true, some y => y.f0.f2 = 1 ∧ (vsS seq none l).getLast? = some (itemO y) ∧ ∃ z ∈ l, lu (us z) (us y)
  | true, none => False
  | false, none => vsS seq none l = []
  | false, some y => y ∈ l ∧ (∀ z ∈ l, ¬ lu (us z) (us y)) ∧ vsS seq none l = if y.f0.f2 = 1 then [itemO y] else []
theorem last_fil {p : PC.S76 → Bool} {L : List PC.S76} {a : PC.S76} (h : L.getLast? = some a) (hp : p a = true) : (L.filter p).getLast? = some a := by
  obtain ⟨L', rfl⟩ := List.getLast?_eq_some_iff.1 h
  rw [List.filter_append, List.filter_cons_of_pos hp]
  simp
theorem vs_cons (seq : Int) (x : PC.S44) (t : List PC.S44) : vsS seq none (x :: t) = if x.f0.f1 ≤ seq then (if x.f0.f2 = 1 then itemO x :: vsS seq (some x.f0.f0) t else vsS seq (some x.f0.f0) t) else vsS seq none t := by
  rw [vsS_cons]
  by_cases h : x.f0.f1 ≤ seq
  · rw [if_pos h, if_neg (by unfold skp; simp; omega)]
  · rw [if_neg h, if_pos (by unfold skp; simp; omega)]
theorem stp_some (y x : PC.S44) : stp (some y) x = (!(us x == us y) && (y.f0.f2 == 1)) := rfl
theorem oth_some (y x : PC.S44) : oth (some y) x = !(us x == us y) := rfl
theorem binv (seq : Int) : ∀ l : List PC.S44, SU l → BInv seq l
  | [], _ => rfl
  | x :: t, hs => by
    obtain ⟨h1, h2⟩ := List.pairwise_cons.1 hs
    have ih := binv seq t h2
    have hf := vs_fil seq x.f0.f0 t h2 (fun z hz => by
      rcases h1 z hz with h | h
      · exact .inr h
      · exact .inl h.symm)
    have hmin : ∀ z ∈ x :: t, ¬ lu (us z) (us x) := fun z hz hl => by
      rcases List.mem_cons.1 hz with rfl | hz
      · exact lu_irr _ hl
      · rcases h1 z hz with h | h
        · exact lu_as h hl
        · exact lu_irr _ (h ▸ hl)
    unfold BInv at ih ⊢
    have er : resB seq (x :: t) = stepB seq x (resB seq t) := rfl
    rw [er]
    unfold stepB
    obtain ⟨⟨st, f⟩, hr⟩ : ∃ r, resB seq t = r := ⟨_, rfl⟩
    rw [hr] at ih ⊢
    -- a visible entry ahead of none that is seen
    have vis : ∀ {L : List PC.S76}, vsS seq none t = L → L.filter (fun y => !(y.f0.toList == x.f0.f0.toList)) = [] → x.f0.f1 ≤ seq → vsS seq none (x :: t) = if x.f0.f2 = 1 then [itemO x] else [] := fun {L} e1 e2 hv => by
      rw [vs_cons, if_pos hv, hf, e1, e2]
    have inv : x.f0.f1 ≤ seq ∨ ¬ x.f0.f1 ≤ seq := Classical.em _
    cases st with
    | true =>
      cases f with
      | none => exact ih.elim
      | some y =>
        obtain ⟨hk, hl, z, hz, hlz⟩ := ih
        rw [if_pos rfl]
        refine ⟨hk, ?_, z, by simp [hz], hlz⟩
        have hne : us y ≠ us x := fun e => by
          rcases h1 z hz with h | h
          · exact lu_irr _ (e ▸ lu_tr h hlz)
          · rw [← h, e] at hlz; exact lu_irr _ hlz
        rw [vs_cons]
        by_cases hv : x.f0.f1 ≤ seq
        · rw [if_pos hv, hf]
          have hl2 := last_fil (p := fun y => !(y.f0.toList == x.f0.f0.toList)) hl (by simpa [itemO] using hne)
          split
          · rw [List.getLast?_cons]
            rw [hl2]
            rfl
          · exact hl2
        · rw [if_neg hv]; exact hl
    | false =>
      rw [if_neg (show ¬ (false, f).1 = true from fun h => Bool.noConfusion h)]
      cases f with
      | none =>
        rw [if_neg (show ¬ stp none x = true from fun h => Bool.noConfusion (show false = true from h))]
        show (match false, nxF seq none x with
          | true, some y => _
          | true, none => False
          | false, none => vsS seq none (x :: t) = []
          | false, some y => y ∈ x :: t ∧ (∀ z ∈ x :: t, ¬ lu (us z) (us y)) ∧ vsS seq none (x :: t) = if y.f0.f2 = 1 then [itemO y] else [])
        unfold nxF
        rcases inv with hv | hv
        · rw [if_pos hv]
          exact ⟨by simp, hmin, vis ih rfl hv⟩
        · rw [if_neg hv, if_neg (show ¬ oth none x = true from fun h => Bool.noConfusion (show false = true from h))]
          show vsS seq none (x :: t) = []
          rw [vs_cons, if_neg hv]; exact ih
      | some y =>
        obtain ⟨hy, hm, hvs⟩ := ih
        by_cases hu : us x = us y
        · have hs1 : stp (some y) x = false := by rw [stp_some]; simp [hu]
          have ho1 : oth (some y) x = false := by rw [oth_some]; simp [hu]
          rw [if_neg (by rw [hs1]; decide)]
          show (match false, nxF seq (some y) x with
            | true, some y => _
            | true, none => False
            | false, none => vsS seq none (x :: t) = []
            | false, some y => y ∈ x :: t ∧ (∀ z ∈ x :: t, ¬ lu (us z) (us y)) ∧ vsS seq none (x :: t) = if y.f0.f2 = 1 then [itemO y] else [])
          unfold nxF
          rcases inv with hv | hv
          · rw [if_pos hv]
            refine ⟨by simp, hmin, vis hvs ?_ hv⟩
            split
            · have : ((itemO y).f0.toList == x.f0.f0.toList) = true := by simpa [itemO] using hu.symm
              rw [List.filter_cons_of_neg (by rw [this]; decide)]; rfl
            · rfl
          · rw [if_neg hv, if_neg (by rw [ho1]; decide)]
            refine ⟨by simp [hy], fun z hz hl => ?_, by rw [vs_cons, if_neg hv]; exact hvs⟩
            rw [← hu] at hl
            exact hmin z hz hl
        · have hlt : lu (us x) (us y) := (h1 y hy).resolve_right hu
          have hub : (us x == us y) = false := by simpa using hu
          by_cases hk : y.f0.f2 = 1
          · have hs1 : stp (some y) x = true := by rw [stp_some, hub]; simpa using hk
            rw [if_pos hs1]
            refine ⟨hk, ?_, x, by simp, hlt⟩
            rw [if_pos hk] at hvs
            rw [vs_cons]
            by_cases hv : x.f0.f1 ≤ seq
            · rw [if_pos hv, hf, hvs]
              have hne : us y ≠ us x := fun e => hu e.symm
              have : ((itemO y).f0.toList == x.f0.f0.toList) = false := by simpa [itemO] using hne
              rw [List.filter_cons_of_pos (by rw [this]; decide)]
              split <;> rfl
            · rw [if_neg hv, hvs]; rfl
          · have hs1 : stp (some y) x = false := by rw [stp_some, hub]; simpa using hk
            have ho1 : oth (some y) x = true := by rw [oth_some, hub]; rfl
            rw [if_neg (by rw [hs1]; decide)]
            rw [if_neg hk] at hvs
            show (match false, nxF seq (some y) x with
              | true, some y => _
              | true, none => False
              | false, none => vsS seq none (x :: t) = []
              | false, some y => y ∈ x :: t ∧ (∀ z ∈ x :: t, ¬ lu (us z) (us y)) ∧ vsS seq none (x :: t) = if y.f0.f2 = 1 then [itemO y] else [])
            unfold nxF
            rcases inv with hv | hv
            · rw [if_pos hv]
              exact ⟨by simp, hmin, vis hvs rfl hv⟩
            · rw [if_neg hv, if_pos ho1]
              show vsS seq none (x :: t) = []
              rw [vs_cons, if_neg hv]; exact hvs
/-- From behind one finds the last. -/
theorem back_vs (seq : Int) (l : List PC.S44) (h : SU l) : finB (bkS seq none l.reverse) = (vsS seq none l).getLast? := by
  rw [(res_bk seq l).2.2]
  have hb := binv seq l h
  unfold BInv at hb
  obtain ⟨⟨st, f⟩, hr⟩ : ∃ r, resB seq l = r := ⟨_, rfl⟩
  rw [hr] at hb ⊢
  cases st with
  | true =>
    cases f with
    | none => exact hb.elim
    | some y =>
      obtain ⟨hk, hl, _⟩ := hb
      rw [hl]
      exact if_pos hk
  | false =>
    cases f with
    | none =>
      have hb : vsS seq none l = [] := hb
      rw [hb]; rfl
    | some y =>
      obtain ⟨_, _, hv⟩ := hb
      rw [hv]
      show (if y.f0.f2 = 1 then some _ else none) = _
      split <;> rfl
end Go.Proofs.Ytehoojmalhloeaa.CM

/-! view: what is seen, and a place in it. No program in sight. -/
namespace Go.Proofs.Ytehoojmalhloeaa.CM
open Go.RowKit Go.Proofs.YtehoojmalhloeaaW.PrintWords
set_option linter.unusedVariables false
set_option linter.unusedSimpArgs false
set_option maxRecDepth 100000

/-- Numbers and kinds are numbers. -/
def FK (x : PC.S44) : Prop := x.f0.f1 ≤ 18446744073709551615 ∧ x.f0.f2 ≤ 9223372036854775807 ∧ x.f0.f0.size ≤ 140737488351232
theorem su_of {s : Sh} (hr : Ris s) : SU (upto s s.N) := (upto_T hr).imp (fun {x y} h => by
  rcases h with h | h
  · rcases (R_iff x y).1 h with h | h
    · exact .inl h
    · exact .inr (sameU_eq h.1)
  · exact .inr (sameU_eq h.1))
theorem st_iff {x : PC.S44} (h : FK x) (u : ByteArray) : cmpK x.f0 (st u) < 0 ↔ lu (us x) u.toList := by
  have := R_iff x ⟨st u, ⟨#[]⟩⟩
  unfold R at this
  rw [this]
  constructor
  · rintro (h1 | ⟨_, h1⟩)
    · exact h1
    · have a := h.1
      have b := h.2.1
      exfalso
      simp only [st] at h1
      omega
  · exact fun h => .inl h
/-- The keys rise. -/
def KP (l : List PC.S76) : Prop := l.Pairwise (fun a b => lu a.f0.toList b.f0.toList)
theorem vs_pw (seq : Int) : ∀ l : List PC.S44, SU l → KP (vsS seq none l)
  | [], _ => List.Pairwise.nil
  | x :: t, hs => by
    obtain ⟨h1, h2⟩ := List.pairwise_cons.1 hs
    have ih := vs_pw seq t h2
    have hf := vs_fil seq x.f0.f0 t h2 (fun z hz => by
      rcases h1 z hz with h | h
      · exact .inr h
      · exact .inl h.symm)
    have hk : KP (vsS seq (some x.f0.f0) t) := by rw [hf]; exact ih.sublist List.filter_sublist
    rw [vs_cons]
    split
    · split
      · refine List.pairwise_cons.2 ⟨fun y hy => ?_, hk⟩
        rw [hf, List.mem_filter] at hy
        obtain ⟨hy, hne⟩ := hy
        obtain ⟨z, hz, rfl⟩ := vs_mem seq _ _ y hy
        rcases h1 z hz with h | h
        · exact h
        · exfalso
          have : ((itemO z).f0.toList == x.f0.f0.toList) = true := by simpa [itemO] using h.symm
          rw [this] at hne
          cases hne
      · exact hk
    · exact ih
/-- How many keys are less. -/
def rnk (L : List PC.S76) (u : List UInt8) : Nat := (L.takeWhile (fun y => Op.bytesLess y.f0.toList u)).length
theorem rnk_app {P Q : List PC.S76} {u : List UInt8} (hP : ∀ y ∈ P, lu y.f0.toList u) (hQ : ∀ y ∈ Q, ¬ lu y.f0.toList u) : rnk (P ++ Q) u = P.length := by
  unfold rnk
  rw [List.takeWhile_append_of_pos (fun y hy => hP y hy)]
  cases Q with
  | nil => simp
  | cons y t => rw [List.takeWhile_cons_of_neg (by exact hQ y (by simp))]; simp
theorem mem_take_lowK (xs : List PC.S44) (a : PC.S42) : ∀ x ∈ xs.take (lowK xs a), cmpK x.f0 a < 0 := fun x hx => by
  obtain ⟨j, hj, e⟩ := List.getElem_of_mem hx
  rw [List.length_take] at hj
  rw [List.getElem_take] at e
  have := lowK_lt xs a j (by omega)
  rw [List.getD_eq_getElem?_getD, List.getElem?_eq_getElem (by omega), Option.getD_some, e] at this
  exact this
theorem split_at {s : Sh} (hr : Ris s) (hk : ∀ x ∈ upto s s.N, FK x) (seq : Int) (u : ByteArray) :
    vsS seq none (upto s s.N) = vsS seq none ((upto s s.N).take (cntQ s (st u))) ++ vsS seq none ((upto s s.N).drop (cntQ s (st u))) ∧ (∀ y ∈ vsS seq none ((upto s s.N).take (cntQ s (st u))), lu y.f0.toList u.toList) ∧ ∀ y ∈ vsS seq none ((upto s s.N).drop (cntQ s (st u))), ¬ lu y.f0.toList u.toList := by
  have hA : ∀ a ∈ (upto s s.N).take (cntQ s (st u)), lu (us a) u.toList := fun a ha => (st_iff (hk a (List.mem_of_mem_take ha)) u).1 (mem_take_lowK _ _ a ha)
  have hB : ∀ b ∈ (upto s s.N).drop (cntQ s (st u)), ¬ lu (us b) u.toList := fun b hb hl => by
    have hc := (st_iff (hk b (List.mem_of_mem_drop hb)) u).2 hl
    obtain ⟨j, hj, e⟩ := List.getElem_of_mem hb
    rw [List.length_drop, upto_len] at hj
    rw [List.getElem_drop] at e
    have hi : itm s (cntQ s (st u) + j) = b := by rw [← e]; simp [upto]
    rw [← hi] at hc
    have hc2 := itm_mono hr (show cntQ s (st u) ≤ cntQ s (st u) + j by omega) (by omega) hc
    have := lowK_not (upto s s.N) (st u) (by rw [upto_len]; show cntQ s (st u) < _; omega)
    rw [upto_get s (show lowK (upto s s.N) (st u) < s.N by show cntQ s (st u) < _; omega)] at this
    exact this hc2
  refine ⟨?_, fun y hy => ?_, fun y hy => ?_⟩
  · conv => lhs; rw [← List.take_append_drop (cntQ s (st u)) (upto s s.N)]
    exact vs_app seq _ _ none (fun u h => by cases h) (fun a ha b hb e => hB b hb (e ▸ hA a ha))
  · obtain ⟨z, hz, rfl⟩ := vs_mem seq _ _ y hy; exact hA z hz
  · obtain ⟨z, hz, rfl⟩ := vs_mem seq _ _ y hy; exact hB z hz
def seen (s : Sh) (seq : Int) : List PC.S76 := vsS seq none (upto s s.N)
theorem seen_pw {s : Sh} (hr : Ris s) (seq : Int) : KP (seen s seq) := vs_pw seq _ (su_of hr)
theorem seek_seen {s : Sh} (hr : Ris s) (hk : ∀ x ∈ upto s s.N, FK x) (seq : Int) (u : ByteArray) :
    onS seq none ((upto s s.N).drop (cntQ s (st u))) = (seen s seq)[rnk (seen s seq) u.toList]? := by
  obtain ⟨h1, h2, h3⟩ := split_at hr hk seq u
  rw [onS_vs]
  unfold seen
  rw [h1, rnk_app h2 h3, List.getElem?_append_right (Nat.le_refl _), Nat.sub_self, List.head?_eq_getElem?]
theorem prev_seen {s : Sh} (hr : Ris s) (hk : ∀ x ∈ upto s s.N, FK x) (seq : Int) (u : ByteArray) :
    finB (bkS seq none ((upto s s.N).take (cntQ s (st u))).reverse) = ((seen s seq).take (rnk (seen s seq) u.toList)).getLast? := by
  obtain ⟨h1, h2, h3⟩ := split_at hr hk seq u
  rw [back_vs seq _ ((su_of hr).sublist (List.take_sublist _ _))]
  unfold seen
  rw [h1, rnk_app h2 h3, List.take_left]
theorem last_seen {s : Sh} (hr : Ris s) (seq : Int) : finB (bkS seq none (upto s s.N).reverse) = (seen s seq).getLast? := back_vs seq _ (su_of hr)
theorem first_seen (s : Sh) (seq : Int) : onS seq none (upto s s.N) = (seen s seq)[0]? := by rw [onS_vs, List.head?_eq_getElem?]; rfl
theorem rnk_at {L : List PC.S76} (h : KP L) {k : Nat} {y : PC.S76} (hy : L[k]? = some y) : rnk L y.f0.toList = k := by
  obtain ⟨hl, e⟩ := List.getElem?_eq_some_iff.1 hy
  have hd : L = L.take k ++ y :: L.drop (k + 1) := by
    rw [← e, ← List.drop_eq_getElem_cons hl, List.take_append_drop]
  have hp := h
  rw [hd] at hp
  obtain ⟨p1, p2, p3⟩ := List.pairwise_append.1 hp
  have p4 := List.pairwise_cons.1 p2
  have := rnk_app (P := L.take k) (Q := y :: L.drop (k + 1)) (u := y.f0.toList) (fun z hz => p3 z hz y (by simp)) (fun z hz hl' => by
    rcases List.mem_cons.1 hz with rfl | hz
    · exact lu_irr _ hl'
    · exact lu_as hl' (p4.1 z hz))
  rw [← hd, List.length_take] at this
  omega
theorem less_up0 (u : List UInt8) : ∀ k : List UInt8, Op.bytesLess k (u ++ [0]) = (Op.bytesLess k u || k == u) := by
  induction u with
  | nil =>
    intro k
    cases k with
    | nil => rfl
    | cons b k =>
      cases k with
      | nil => simp [Op.bytesLess]
      | cons c k => simp [Op.bytesLess]
  | cons a u ih =>
    intro k
    cases k with
    | nil => rfl
    | cons b k =>
      simp only [List.cons_append, Op.bytesLess]
      rw [ih k]
      by_cases h1 : b < a
      · simp [h1]
        try omega
      · by_cases h2 : b = a
        · subst h2; simp
        · have h3 : (b == a) = false := by simpa using h2
          simp [h1, h2, h3]
theorem rnk_next {L : List PC.S76} (h : KP L) {k : Nat} {y : PC.S76} (hy : L[k]? = some y) : rnk L (up0 y.f0).toList = k + 1 := by
  obtain ⟨hl, e⟩ := List.getElem?_eq_some_iff.1 hy
  have hd : L = L.take (k + 1) ++ L.drop (k + 1) := (List.take_append_drop _ _).symm
  have hu : (up0 y.f0).toList = y.f0.toList ++ [0] := by
    rw [ByteArray.toList_eq, ByteArray.toList_eq]
    unfold up0
    simp
  have hlast : L.take (k + 1) = L.take k ++ [y] := by rw [List.take_add_one, hy]; rfl
  have hp := h
  rw [hd, hlast] at hp
  obtain ⟨p1, p2, p3⟩ := List.pairwise_append.1 hp
  obtain ⟨p4, p5, p6⟩ := List.pairwise_append.1 p1
  have := rnk_app (P := L.take (k + 1)) (Q := L.drop (k + 1)) (u := (up0 y.f0).toList) (fun z hz => by
    unfold lu
    rw [hu, less_up0]
    rw [hlast] at hz
    rcases List.mem_append.1 hz with hz | hz
    · have := p6 z hz y (by simp)
      unfold lu at this
      rw [this]; rfl
    · rw [List.mem_singleton.1 hz]; simp) (fun z hz hl' => by
    have h5 := p3 y (by simp) z hz
    unfold lu at hl'
    rw [hu, less_up0, Bool.or_eq_true] at hl'
    rcases hl' with h6 | h6
    · exact lu_as h5 h6
    · have : z.f0.toList = y.f0.toList := by simpa using h6
      rw [this] at h5
      exact lu_irr _ h5)
  rw [← hd, List.length_take] at this
  omega
end Go.Proofs.Ytehoojmalhloeaa.CM
