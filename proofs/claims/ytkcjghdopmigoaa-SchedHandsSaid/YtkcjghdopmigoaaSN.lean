/- sched: a run, in plain words; what stays true in it. No program in sight. -/
import Derived.Test.YtkcjghdopmigoaaSM
namespace Go.Proofs.Ytkcjghdopmigoaa.SC
open Go.RowKit Go.Proofs.YtkcjghdopmigoaaW.PrintWords
set_option linter.unusedVariables false
set_option linter.unusedSimpArgs false
set_option maxRecDepth 100000

def mk0 (c : List I) : Tk := ⟨c, 0, [0, 0, 0, 0], false, false, -1, -1⟩
def mkT (c : List I) : Tk := endT (mk0 c)
def codeB (c : List I) : Bool := decide (c.length ≤ 64) && c.all (fun x => goodB x c.length)
def okB (code : List (List I)) (cells : List Int) : Bool := decide (code.length ≤ 8) && decide (cells.length ≤ 16) && code.all codeB
def D0 (code : List (List I)) (cells : List Int) : Wd := ⟨code.map mkT, cells ++ List.replicate (16 - cells.length) 0, List.replicate 16 (-1), []⟩
def canI (D : Wd) (i : Nat) : Bool :=
  match D.ts[i]? with
  | some t => canW D t
  | none => false
def ableL (D : Wd) : List Nat := (List.range D.ts.length).filter (canI D)
def pickN (p : Int) (n : Nat) : Nat := (if p < 0 then (-p - 1) % (n : Int) else p % (n : Int)).toNat
def endD (D : Wd) (i : Nat) : Wd := { D with ts := D.ts.modify i endT }
def goD (D : Wd) (i : Nat) : Wd :=
  match D.ts[i]? with
  | some t => endD (stepW D i t) i
  | none => D
def turnW (D : Wd) (p : Int) : Wd := goD D ((ableL D).getD (pickN p (ableL D).length) 0)
/-- The turns; how many were done. -/
def loopW : Nat → Wd → List Int → Wd × Nat
  | s, D, [] => (D, s)
  | s, D, p :: ps => if (ableL D).isEmpty = true then (D, s) else loopW (s + 1) (turnW D p) ps

/-! ### what stays true -/
structure DOk (D : Wd) : Prop where
  n : D.ts.length ≤ 8
  t : ∀ (i : Nat) (t : Tk), D.ts[i]? = some t → TOk t
/-- What a step may do to the tasks. -/
def TsOk (i : Nat) (t : Tk) (ts ts' : List Tk) : Prop := ts'.length = ts.length ∧ ∀ (j : Nat) (u' : Tk), ts'[j]? = some u' → (j = i → u'.code = t.code ∧ u'.pc ≤ t.code.length ∧ -1 ≤ u'.wants ∧ u'.wants < 16) ∧ (j ≠ i → ∃ u : Tk, ts[j]? = some u ∧ u'.code = u.code ∧ u'.pc = u.pc ∧ u'.ended = u.ended ∧ u'.wants = u.wants)
theorem TsOk.set {i : Nat} {t t' : Tk} {ts : List Tk} (hc : t'.code = t.code) (hp : t'.pc ≤ t.code.length) (h1 : -1 ≤ t'.wants) (h2 : t'.wants < 16) : TsOk i t ts (ts.set i t') := by
  refine ⟨by simp, fun j u' hj => ?_⟩
  rw [List.getElem?_set] at hj
  split at hj
  · rename_i e
    subst e
    split at hj
    · cases hj
      exact ⟨fun _ => ⟨hc, hp, h1, h2⟩, fun h => absurd rfl h⟩
    · cases hj
  · rename_i e
    exact ⟨fun h => absurd h.symm e, fun _ => ⟨u', hj, rfl, rfl, rfl, rfl⟩⟩
theorem wakeL_get (one : Bool) (c : Int) : ∀ (l : List Tk) (j : Nat) (u' : Tk), (wakeL one c l)[j]? = some u' → ∃ u, l[j]? = some u ∧ (u' = u ∨ u' = { u with cond := -1 })
  | [], j, u', h => by simp [wakeL] at h
  | v :: t, j, u', h => by
    unfold wakeL at h
    by_cases hc : v.cond = c
    · rw [if_pos hc] at h
      rcases j with _ | j
      · obtain rfl : _ = u' := by simpa using h
        exact ⟨v, rfl, .inr rfl⟩
      · rw [List.getElem?_cons_succ] at h
        cases one
        · obtain ⟨u, h1, h2⟩ := wakeL_get false c t j u' h
          exact ⟨u, by simpa using h1, h2⟩
        · exact ⟨u', by simpa using h, .inl rfl⟩
    · rw [if_neg hc] at h
      rcases j with _ | j
      · obtain rfl : v = u' := by simpa using h
        exact ⟨v, rfl, .inl rfl⟩
      · rw [List.getElem?_cons_succ] at h
        obtain ⟨u, h1, h2⟩ := wakeL_get one c t j u' h
        exact ⟨u, by simpa using h1, h2⟩
theorem wakeL_len (one : Bool) (c : Int) : ∀ l : List Tk, (wakeL one c l).length = l.length
  | [] => rfl
  | v :: t => by
    unfold wakeL
    by_cases hc : v.cond = c
    · rw [if_pos hc]
      cases one
      · show (wakeL false c t).length + 1 = _; rw [wakeL_len false c t]; rfl
      · rfl
    · rw [if_neg hc]
      show (wakeL one c t).length + 1 = _; rw [wakeL_len one c t]; rfl
theorem TsOk.wake {i : Nat} {t : Tk} {ts ts' : List Tk} (h : TsOk i t ts ts') (one : Bool) (c : Int) : TsOk i t ts (wakeL one c ts') := by
  refine ⟨(wakeL_len one c ts').trans h.1, fun j u' hj => ?_⟩
  obtain ⟨u, hu, e⟩ := wakeL_get one c ts' j u' hj
  have h2 := h.2 j u hu
  rcases e with rfl | rfl
  · exact h2
  · exact h2
theorem TsOk.leave {D : Wd} {i : Nat} {t t' : Tk} {m : Nat} (hc : t'.code = t.code) (hp : t'.pc ≤ t.code.length) (h1 : -1 ≤ t'.wants) (h2 : t'.wants < 16) : TsOk i t D.ts (leaveW D i t' m).ts := by
  unfold leaveW
  split
  · exact TsOk.set (t' := { t' with bad := true }) hc hp h1 h2
  · exact TsOk.set hc hp h1 h2
theorem step_ok {D : Wd} {i : Nat} {t : Tk} (hk : TOk t) (hp : t.pc < t.code.length) : TsOk i t D.ts (stepW D i t).ts := by
  have hg := hk.ins hp
  have w1 := hk.w1
  have w2 := hk.w2
  unfold stepW
  split
  · exact TsOk.set (t' := { t with wants := -1, pc := t.pc + 1 }) rfl hp (by show (-1 : Int) ≤ -1; omega) (by show (-1 : Int) < 16; omega)
  · obtain ⟨x, hx⟩ : ∃ x, insT t = x := ⟨_, rfl⟩
    rw [hx] at hg ⊢
    have hn : (nxT t).pc ≤ t.code.length := hp
    by_cases h1 : x.f0 = 1
    · rw [doI1 h1]; exact TsOk.set (t' := { nxT t with r := _ }) rfl hn w1 w2
    by_cases h2 : x.f0 = 2
    · rw [doI2 h2]; exact TsOk.set (t' := nxT t) rfl hn w1 w2
    by_cases h3 : x.f0 = 3
    · rw [doI3 h3]
      split
      · exact TsOk.set (t' := { nxT t with r := _ }) rfl hn w1 w2
      · exact TsOk.set (t' := { nxT t with r := _ }) rfl hn w1 w2
    by_cases h4 : x.f0 = 4
    · rw [doI4 h4]; exact TsOk.set (t' := { nxT t with r := _ }) rfl hn w1 w2
    by_cases h5 : x.f0 = 5
    · rw [doI5 h5]; exact TsOk.set (t' := { nxT t with r := _ }) rfl hn w1 w2
    by_cases h6 : x.f0 = 6
    · rw [goodB_6 h6] at hg
      simp only [Bool.and_eq_true, regB_iff, plcB_iff] at hg
      rw [doI6 h6]
      split
      · exact TsOk.set (t' := nxT t) rfl hn w1 w2
      · exact TsOk.set (t' := { nxT t with pc := _ }) rfl (by show x.f2.toNat ≤ _; omega) w1 w2
    by_cases h7 : x.f0 = 7
    · rw [goodB_7 h7] at hg
      simp only [plcB_iff] at hg
      rw [doI7 h7]
      exact TsOk.set (t' := { nxT t with pc := _ }) rfl (by show x.f2.toNat ≤ _; omega) w1 w2
    by_cases h8 : x.f0 = 8
    · rw [doI8 h8]; exact TsOk.set (t' := nxT t) rfl hn w1 w2
    by_cases h9 : x.f0 = 9
    · rw [doI9 h9]; exact TsOk.leave (t' := nxT t) rfl hn w1 w2
    by_cases h10 : x.f0 = 10
    · rw [goodB_10 h10] at hg
      simp only [Bool.and_eq_true, celB_iff] at hg
      rw [doI10 h10]
      split
      · exact TsOk.leave (t' := nxT t) rfl hn w1 w2
      · exact TsOk.leave (t' := { nxT t with cond := _, wants := _, pc := _ }) rfl (by show (nxT t).pc - 1 ≤ _; omega) (by show -1 ≤ x.f2; omega) (by show x.f2 < 16; omega)
    by_cases h11 : x.f0 = 11
    · rw [doI11 h11]; exact TsOk.wake (TsOk.set (t' := nxT t) rfl hn w1 w2) _ _
    by_cases h12 : x.f0 = 12
    · rw [doI12 h12]; exact TsOk.wake (TsOk.set (t' := nxT t) rfl hn w1 w2) _ _
    by_cases h13 : x.f0 = 13
    · rw [doI13 h13]; exact TsOk.set (t' := nxT t) rfl hn w1 w2
    have h14 : x.f0 = 14 := by
      rw [goodB_else (fun k hk => by rcases hk with rfl | rfl | rfl | rfl | rfl | rfl | rfl | rfl | rfl | rfl | rfl | rfl | rfl <;> assumption)] at hg
      simpa using hg
    rw [doI14 h14]; exact TsOk.set (t' := { nxT t with ended := true }) rfl hn w1 w2
theorem leave_emits {D : Wd} {i : Nat} {t : Tk} {m : Nat} : (leaveW D i t m).emits = D.emits := by
  unfold leaveW
  split <;> rfl
theorem emits_step {D : Wd} {i : Nat} {t : Tk} : (stepW D i t).emits = D.emits ∨ ∃ v, (stepW D i t).emits = D.emits ++ [⟨(i : Int), v⟩] := by
  unfold stepW
  split
  · exact .inl rfl
  · by_cases h13 : (insT t).f0 = 13
    · rw [doI13 h13]; exact .inr ⟨_, rfl⟩
    · refine .inl ?_
      by_cases h1 : (insT t).f0 = 1
      · rw [doI1 h1]
      by_cases h2 : (insT t).f0 = 2
      · rw [doI2 h2]
      by_cases h3 : (insT t).f0 = 3
      · rw [doI3 h3]; split <;> rfl
      by_cases h4 : (insT t).f0 = 4
      · rw [doI4 h4]
      by_cases h5 : (insT t).f0 = 5
      · rw [doI5 h5]
      by_cases h6 : (insT t).f0 = 6
      · rw [doI6 h6]; split <;> rfl
      by_cases h7 : (insT t).f0 = 7
      · rw [doI7 h7]
      by_cases h8 : (insT t).f0 = 8
      · rw [doI8 h8]
      by_cases h9 : (insT t).f0 = 9
      · rw [doI9 h9]; exact leave_emits
      by_cases h10 : (insT t).f0 = 10
      · rw [doI10 h10]; split <;> exact leave_emits
      by_cases h11 : (insT t).f0 = 11
      · rw [doI11 h11]
      by_cases h12 : (insT t).f0 = 12
      · rw [doI12 h12]
      by_cases h14 : (insT t).f0 = 14
      · rw [doI14 h14]
      unfold doI
      rw [if_neg h1, if_neg h2, if_neg h3, if_neg h4, if_neg h5, if_neg h6, if_neg h7, if_neg h8, if_neg h9, if_neg h10, if_neg h11, if_neg h12, if_neg h13, if_neg h14]
theorem endT_ok {t u : Tk} (hk : TOk t) (hc : u.code = t.code) (hp : u.pc ≤ t.code.length) (h1 : -1 ≤ u.wants) (h2 : u.wants < 16) : TOk (endT u) := by
  refine ⟨by show ∀ x ∈ u.code, goodB x u.code.length = true; rw [hc]; exact hk.code, by show u.code.length ≤ 64; rw [hc]; exact hk.len, by show u.pc ≤ u.code.length; rw [hc]; exact hp, fun he => ?_, h1, h2⟩
  have he : (u.ended || decide (u.code.length ≤ u.pc)) = false := he
  rw [Bool.or_eq_false_iff] at he
  have := he.2
  show u.pc < u.code.length
  simpa using this
theorem go_ok {D : Wd} (h : DOk D) {i : Nat} {t : Tk} (ht : D.ts[i]? = some t) (hcan : canW D t = true) : DOk (endD (stepW D i t) i) := by
  have hk := h.t i t ht
  have hp := hk.run (canW_yes hcan).1
  have hs := step_ok (D := D) (i := i) hk hp
  refine ⟨by show ((stepW D i t).ts.modify i endT).length ≤ 8; rw [List.length_modify, hs.1]; exact h.n, fun j u hj => ?_⟩
  have hj : ((stepW D i t).ts.modify i endT)[j]? = some u := hj
  rw [List.getElem?_modify] at hj
  obtain ⟨u0, hu0, e⟩ := Option.map_eq_some_iff.1 hj
  have h2 := hs.2 j u0 hu0
  by_cases hij : j = i
  · subst hij
    rw [if_pos rfl] at e
    subst e
    obtain ⟨a, b, c, d⟩ := h2.1 rfl
    exact endT_ok hk a b c d
  · rw [if_neg (fun e => hij e.symm)] at e
    obtain rfl : u0 = u := e
    obtain ⟨v, hv, a, b, c, d⟩ := h2.2 hij
    have hv := h.t j v hv
    exact ⟨by rw [a]; exact hv.code, by rw [a]; exact hv.len, by rw [a, b]; exact hv.pc, by rw [a, b, c]; exact hv.run, by rw [d]; exact hv.w1, by rw [d]; exact hv.w2⟩
theorem D0_ok {code : List (List I)} {cells : List Int} (h : okB code cells = true) : DOk (D0 code cells) := by
  unfold okB at h
  simp only [Bool.and_eq_true, decide_eq_true_eq, List.all_eq_true] at h
  obtain ⟨⟨h1, h2⟩, h3⟩ := h
  refine ⟨by show (code.map mkT).length ≤ 8; simpa using h1, fun i t ht => ?_⟩
  have ht : (code.map mkT)[i]? = some t := ht
  rw [List.getElem?_map] at ht
  obtain ⟨c, hc, rfl⟩ := Option.map_eq_some_iff.1 ht
  have hb := h3 c (List.mem_of_getElem? hc)
  unfold codeB at hb
  simp only [Bool.and_eq_true, decide_eq_true_eq, List.all_eq_true] at hb
  refine ⟨hb.2, hb.1, Nat.zero_le _, fun he => ?_, by show (-1 : Int) ≤ -1; omega, by show (-1 : Int) < 16; omega⟩
  have he : (false || decide (c.length ≤ 0)) = false := he
  show 0 < c.length
  simp at he
  exact List.length_pos_iff.2 he
end Go.Proofs.Ytkcjghdopmigoaa.SC
