/- view: what is seen is what is known (Get). No program in sight, but for the contract of Get. -/
import Derived.Test.YtehoojmalhloeaaVQ
namespace Go.Proofs.Ytehoojmalhloeaa.CM
open Go.RowKit Go.Proofs.YtehoojmalhloeaaW.PrintWords
set_option linter.unusedVariables false
set_option linter.unusedSimpArgs false
set_option maxRecDepth 100000

/-- The first of a user's that counts. -/
def fv (seq : Int) (u : ByteArray) (l : List PC.S44) : Option PC.S44 := l.find? (fun x => x.f0.f0.toList == u.toList && decide (x.f0.f1 ≤ seq))
def getL (l : List PC.S44) (u : ByteArray) (seq : Int) : ByteArray × Int :=
  match fv seq u l with
  | none => (⟨#[]⟩, 0)
  | some z => if z.f0.f2 = 0 then (⟨#[]⟩, 1) else (z.f1, 2)
theorem fv_pos {seq : Int} {u : ByteArray} {x : PC.S44} {t : List PC.S44} (h1 : x.f0.f0.toList = u.toList) (h2 : x.f0.f1 ≤ seq) : fv seq u (x :: t) = some x := by
  unfold fv
  exact List.find?_cons_of_pos (by simp [h1, h2])
theorem fv_neg {seq : Int} {u : ByteArray} {x : PC.S44} {t : List PC.S44} (h : ¬ (x.f0.f0.toList = u.toList ∧ x.f0.f1 ≤ seq)) : fv seq u (x :: t) = fv seq u t := by
  unfold fv
  refine List.find?_cons_of_neg ?_
  intro hb
  rw [Bool.and_eq_true, beq_iff_eq, decide_eq_true_eq] at hb
  exact h hb
theorem get_l0 (l : List PC.S44) (hl : l.length ≤ 100000) (u : ByteArray) (seq : Int) : ∀ (n k i : Nat), l.length - i ≤ n → 2 * n + 2 ≤ k → i ≤ l.length → PC.staddleref08_Get.l0 k l u seq (i : Int) = some (getL (l.drop i) u seq)
  | n, 0, i, _, hk, _ => by omega
  | n, 1, i, hn, hk, hi => by
    have hnil : l.drop i = [] := List.drop_eq_nil_of_le (by omega)
    unfold PC.staddleref08_Get.l0
    rw [if_neg (by omega), hnil]
    rfl
  | n, k + 2, i, hn, hk, hi => by
    unfold PC.staddleref08_Get.l0
    by_cases h : i < l.length
    · have e : PC.rd_T44 l (i : Int) = l[i] := by simp [PC.rd_T44, h]
      have ed : l.drop i = l[i] :: l.drop (i + 1) := List.drop_eq_getElem_cons h
      have ih := get_l0 l hl u seq (n - 1) k (i + 1) (by omega) (by omega) (by omega)
      rw [show (((i + 1 : Nat) : Int)) = (i : Int) + 1 by omega] at ih
      rw [if_pos (by omega), if_pos (by omega), e, ed]
      unfold getL
      by_cases h1 : l[i].f0.f0.toList = u.toList
      · rw [if_pos h1]
        unfold PC.staddleref08_Get.j1
        by_cases h2 : l[i].f0.f1 ≤ seq
        · rw [if_pos (by simpa using h2), if_pos (by omega), if_pos (by omega), e, fv_pos h1 h2]
          by_cases h3 : l[i].f0.f2 = 0
          · simp [h3]
          · simp [h3]
        · rw [if_neg (by simpa using h2), fv_neg (fun h => h2 h.2), w64z ((i : Int) + 1) (by omega), ih]
          rfl
      · rw [if_neg h1]
        unfold PC.staddleref08_Get.j1
        rw [if_neg (by simp), fv_neg (fun h => h1 h.1), w64z ((i : Int) + 1) (by omega), ih]
        rfl
    · rw [if_neg (by omega), List.drop_eq_nil_of_le (by omega)]
      rfl
theorem get_w (A : Option Addr) (c : Nat) (l : List PC.S44) (u : ByteArray) (seq : Int) (w : World) (hr : Kd.C PC.k44 w A l.length l) (hc : l.length ≤ c) (hl : l.length ≤ 100000) :
    Calls Try.prog 53 #[.slice A l.length c, .string u, .int .u64 seq] w fun e w' => e = .returned (.tuple #[.string (getL l u seq).1, .int .i64 (getL l u seq).2]) ∧ Below w.heap.size w w' := by
  have := get_l0 l hl u seq l.length (2 * l.length + 2) 0 (by omega) (by omega) (by omega)
  refine (PC.staddleref08_Get.calls (2 * l.length + 2) A c l u seq (getL l u seq).1 (getL l u seq).2 w hr hc this).mono ?_
  rintro e w' ⟨h1, h2⟩
  obtain ⟨n, rfl⟩ := h2
  exact ⟨h1, ⟨rfl, rfl, rfl, Nat.le_refl _, fun _ _ => rfl⟩⟩

theorem find_fil {L : List PC.S76} {a u : List UInt8} (h : u ≠ a) : (L.filter (fun y => !(y.f0.toList == a))).find? (fun y => y.f0.toList == u) = L.find? (fun y => y.f0.toList == u) := by
  induction L with
  | nil => rfl
  | cons y t ih =>
    by_cases h1 : y.f0.toList = u
    · have hp : (!(y.f0.toList == a)) = true := by rw [h1]; simpa using h
      rw [List.filter_cons_of_pos (by exact hp), List.find?_cons_of_pos (by simpa using h1), List.find?_cons_of_pos (by simpa using h1)]
    · rw [List.find?_cons_of_neg (by simpa using h1)]
      by_cases h2 : y.f0.toList = a
      · rw [List.filter_cons_of_neg (by simp [h2]), ih]
      · rw [List.filter_cons_of_pos (by simpa using h2), List.find?_cons_of_neg (by simpa using h1), ih]
theorem find_no {L : List PC.S76} {u : List UInt8} : (L.filter (fun y => !(y.f0.toList == u))).find? (fun y => y.f0.toList == u) = none := by
  rw [List.find?_eq_none]
  intro y hy
  have := (List.mem_filter.1 hy).2
  simpa using this
theorem find_vs (seq : Int) (u : ByteArray) : ∀ l : List PC.S44, SU l → (vsS seq none l).find? (fun y => y.f0.toList == u.toList) = (fv seq u l).bind (fun z => if z.f0.f2 = 1 then some (itemO z) else none)
  | [], _ => rfl
  | x :: t, hs => by
    obtain ⟨h1, h2⟩ := List.pairwise_cons.1 hs
    have ih := find_vs seq u t h2
    have hf := vs_fil seq x.f0.f0 t h2 (fun z hz => by
      rcases h1 z hz with h | h
      · exact .inr h
      · exact .inl h.symm)
    rw [vs_cons, hf]
    by_cases hv : x.f0.f1 ≤ seq
    · rw [if_pos hv]
      by_cases hu : x.f0.f0.toList = u.toList
      · rw [fv_pos hu hv, hu]
        by_cases hk : x.f0.f2 = 1
        · rw [if_pos hk, List.find?_cons_of_pos (by simpa [itemO] using hu)]
          simp [hk]
        · rw [if_neg hk, find_no]
          simp [hk]
      · rw [fv_neg (fun h => hu h.1)]
        have e := find_fil (L := vsS seq none t) (a := x.f0.f0.toList) (u := u.toList) (fun h => hu h.symm)
        by_cases hk : x.f0.f2 = 1
        · rw [if_pos hk, List.find?_cons_of_neg (by simpa [itemO] using hu), e, ih]
        · rw [if_neg hk, e, ih]
    · rw [if_neg hv, fv_neg (fun h => hv h.2), ih]
theorem find_rnk {L : List PC.S76} (h : KP L) (u : List UInt8) : L.find? (fun y => y.f0.toList == u) = (L[rnk L u]?).filter (fun y => y.f0.toList == u) := by
  cases hf : L.find? (fun y => y.f0.toList == u) with
  | some y =>
    have hm := List.mem_of_find?_eq_some hf
    have hp := List.find?_some hf
    have hu : y.f0.toList = u := by simpa using hp
    obtain ⟨k, hk⟩ := List.getElem?_of_mem hm
    have := rnk_at h hk
    rw [hu] at this
    rw [this, hk]
    show some y = (if (y.f0.toList == u) = true then some y else none)
    rw [if_pos hp]
  | none =>
    cases hg : L[rnk L u]? with
    | none => rfl
    | some y =>
      have := List.find?_eq_none.1 hf y (List.mem_of_getElem? hg)
      show none = (if (y.f0.toList == u) = true then some y else none)
      rw [if_neg this]
/-- What is seen is what is known. -/
theorem seen_get {s : Sh} (hr : Ris s) {l : List PC.S44} (hl : upto s s.N = l) (hk : ∀ x ∈ l, x.f0.f2 = 0 ∨ x.f0.f2 = 1) (seq : Int) {y : PC.S76} (hy : y ∈ seen s seq) : getL l y.f0 seq = (y.f1, 2) := by
  obtain ⟨k, hk'⟩ := List.getElem?_of_mem hy
  have h1 := find_rnk (seen_pw hr seq) y.f0.toList
  rw [rnk_at (seen_pw hr seq) hk', hk'] at h1
  have h2 := find_vs seq y.f0 _ (su_of hr)
  unfold seen at h1
  rw [h1, hl] at h2
  unfold getL
  cases hz : fv seq y.f0 l with
  | none => rw [hz] at h2; simp at h2
  | some z =>
    rw [hz] at h2
    simp only [Option.filter, beq_self_eq_true, if_true, Option.bind_some] at h2
    by_cases h3 : z.f0.f2 = 1
    · rw [if_pos h3] at h2
      injection h2 with h2
      subst h2
      show (if z.f0.f2 = 0 then _ else _) = _
      rw [if_neg (by omega)]
      rfl
    · rw [if_neg h3] at h2
      cases h2
theorem get_seen {s : Sh} (hr : Ris s) {l : List PC.S44} (hl : upto s s.N = l) (hk : ∀ x ∈ l, x.f0.f2 = 0 ∨ x.f0.f2 = 1) (seq : Int) (u : ByteArray) : (getL l u seq).2 = 2 ↔ ∃ y, (seen s seq)[rnk (seen s seq) u.toList]? = some y ∧ y.f0.toList = u.toList := by
  have h1 := find_rnk (seen_pw hr seq) u.toList
  have h2 := find_vs seq u _ (su_of hr)
  unfold seen at h1
  rw [h1, hl] at h2
  have h3 : (∃ y, (seen s seq)[rnk (seen s seq) u.toList]? = some y ∧ y.f0.toList = u.toList) ↔ ((vsS seq none (upto s s.N))[rnk (vsS seq none (upto s s.N)) u.toList]?.filter (fun y => y.f0.toList == u.toList)).isSome = true := by
    unfold seen
    rw [hl]
    cases (vsS seq none l)[rnk (vsS seq none l) u.toList]? with
    | none => simp
    | some y => simp [Option.filter]
  rw [h3, hl, h2]
  unfold getL
  cases hz : fv seq u l with
  | none => simp
  | some z =>
    have hzm : z ∈ l := List.mem_of_find?_eq_some hz
    rcases hk z hzm with h4 | h4
    · simp [h4]
    · simp [h4]
end Go.Proofs.Ytehoojmalhloeaa.CM
