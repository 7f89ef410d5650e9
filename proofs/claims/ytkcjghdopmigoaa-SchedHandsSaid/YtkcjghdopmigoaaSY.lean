/- sched: what is handed over is had: all runs, looked through by levels. Plain, no program in sight. -/
import Derived.Test.YtkcjghdopmigoaaSX
namespace Go.Proofs.Ytkcjghdopmigoaa.SC
open Go.RowKit Go.Proofs.YtkcjghdopmigoaaW.PrintWords
set_option linter.unusedVariables false
set_option linter.unusedSimpArgs false
set_option maxRecDepth 100000

def giveB (i at_ : Nat) : List I := [⟨8, 0, 0, 0⟩, ⟨1, 0, 0, 0⟩, ⟨6, 0, (at_ : Int) + 5, 0⟩, ⟨10, 1, 0, 0⟩, ⟨7, 0, (at_ : Int) + 1, 0⟩, ⟨4, 1, (i : Int) + 1, 0⟩, ⟨2, 0, 1, 0⟩, ⟨11, 0, 0, 0⟩, ⟨9, 0, 0, 0⟩]
def takeB (at_ : Nat) : List I := [⟨8, 0, 0, 0⟩, ⟨1, 0, 0, 0⟩, ⟨6, 0, (at_ : Int) + 4, 0⟩, ⟨7, 0, (at_ : Int) + 6, 0⟩, ⟨10, 0, 0, 0⟩, ⟨7, 0, (at_ : Int) + 1, 0⟩, ⟨13, 0, 0, 0⟩, ⟨2, 0, 1, 0⟩, ⟨11, 1, 0, 0⟩, ⟨9, 0, 0, 0⟩]
def giveL : Nat → List I
  | 0 => []
  | i + 1 => giveL i ++ giveB i (9 * i)
def takeL : Nat → List I
  | 0 => []
  | i + 1 => takeL i ++ takeB (10 * i)
def force (n : Nat) (f : Nat → Bool) : Bool :=
  match n with
  | 0 => f 0
  | m + 1 => f (m + 1)
theorem force_eq (n : Nat) (f : Nat → Bool) : force n f = f n := by cases n <;> rfl
def fld (x k : Nat) : Nat := (x / 64 ^ k) % 64
def pack : List Nat → Nat
  | [] => 0
  | a :: t => a + 64 * pack t
def decT (c : List I) (len p a b e w : Nat) : Tk := ⟨c, p, [(a : Int), (b : Int), 0, 0], decide (len ≤ p), false, (e : Int) - 1, (w : Int) - 1⟩
def decH (c d : List I) (n x : Nat) : Wd :=
  ⟨[decT c (9 * n) (fld x 0) (fld x 1) (fld x 2) (fld x 3) (fld x 4), decT d (10 * n) (fld x 5) (fld x 6) (fld x 7) (fld x 8) (fld x 9)],
    (fld x 10 : Int) :: List.replicate 15 0, ((fld x 11 : Int) - 1) :: List.replicate 15 (-1), (List.range (fld x 12)).map (fun j : Nat => ⟨1, (j : Int) + 1⟩)⟩
def encH (D : Wd) : Nat :=
  match D.ts with
  | [u, v] => pack [u.pc, (u.r.getD 0 0).toNat, (u.r.getD 1 0).toNat, (u.cond + 1).toNat, (u.wants + 1).toNat, v.pc, (v.r.getD 0 0).toNat, (v.r.getD 1 0).toNat, (v.cond + 1).toNat, (v.wants + 1).toNat,
      (D.cells.getD 0 0).toNat, (D.has.getD 0 0 + 1).toNat, D.emits.length]
  | _ => 0
def sameT (u v : Tk) : Bool := u.pc == v.pc && (u.r == v.r) && (u.ended == v.ended) && (u.bad == v.bad) && (u.cond == v.cond) && (u.wants == v.wants)
def sameTs : List Tk → List Tk → Bool
  | [], [] => true
  | u :: s, v :: t => sameT u v && sameTs s t
  | _, _ => false
def sameEs : List Em → List Em → Bool
  | [], [] => true
  | u :: s, v :: t => (u.task == v.task) && (u.value == v.value) && sameEs s t
  | _, _ => false
def sameD (D E : Wd) : Bool := sameTs D.ts E.ts && (D.cells == E.cells) && (D.has == E.has) && sameEs D.emits E.emits
theorem sameTs_eq : ∀ {l m : List Tk}, l.map Tk.code = m.map Tk.code → sameTs l m = true → l = m
  | [], [], _, _ => rfl
  | [], _ :: _, _, h => by cases h
  | _ :: _, [], _, h => by cases h
  | ⟨c, p, r, e, b, k, w⟩ :: s, ⟨c', p', r', e', b', k', w'⟩ :: t, hc, h => by
    simp only [List.map_cons, List.cons.injEq] at hc
    simp only [sameTs, sameT, Bool.and_eq_true, beq_iff_eq] at h
    obtain ⟨⟨⟨⟨⟨⟨rfl, rfl⟩, rfl⟩, rfl⟩, rfl⟩, rfl⟩, h⟩ := h
    rw [sameTs_eq hc.2 h, show c = c' from hc.1]
theorem sameEs_eq : ∀ {l m : List Em}, sameEs l m = true → l = m
  | [], [], _ => rfl
  | [], _ :: _, h => by cases h
  | _ :: _, [], h => by cases h
  | ⟨a, b⟩ :: s, ⟨c, d⟩ :: t, h => by
    simp only [sameEs, Bool.and_eq_true, beq_iff_eq] at h
    obtain ⟨⟨rfl, rfl⟩, h⟩ := h
    rw [sameEs_eq h]
theorem sameD_eq {D E : Wd} (hc : D.ts.map Tk.code = E.ts.map Tk.code) (h : sameD D E = true) : D = E := by
  obtain ⟨t, c, h1, e⟩ := D
  obtain ⟨t', c', h1', e'⟩ := E
  simp only [sameD, Bool.and_eq_true, beq_iff_eq] at h
  obtain ⟨⟨⟨a, rfl⟩, rfl⟩, b⟩ := h
  obtain rfl := sameTs_eq hc a
  obtain rfl := sameEs_eq b
  rfl
def ins (v : Nat) (l : List Nat) : List Nat := if l.any (fun y => Nat.beq y v) = true then l else v :: l
theorem mem_ins {v x : Nat} {l : List Nat} : x ∈ ins v l ↔ x = v ∨ x ∈ l := by
  unfold ins
  split
  · rename_i h
    rw [List.any_eq_true] at h
    obtain ⟨y, hy, e⟩ := h
    obtain rfl := Nat.eq_of_beq_eq_true e
    exact ⟨.inr, fun h => h.elim (fun e => e ▸ hy) id⟩
  · exact List.mem_cons
section
variable (c d : List I) (n : Nat)
/-- the next states of one state, one behind the other; all are as their number says -/
def nexts (D : Wd) : List Nat → List Nat → (List Nat → Bool) → Bool
  | [], acc, k => k acc
  | i :: t, acc, k => force (encH (goD D i)) fun v => sameD (goD D i) (decH c d n v) && nexts D t (ins v acc) k
def level : List Nat → List Nat → (List Nat → Bool) → Bool
  | [], acc, k => k acc
  | x :: t, acc, k =>
    let D := decH c d n x
    match ableL D with
    | [] => (fld x 0 == 9 * n && fld x 5 == 10 * n && fld x 12 == n) && level t acc k
    | i :: s => nexts c d n D (i :: s) acc fun acc' => level t acc' k
def levels : Nat → List Nat → Bool
  | 0, l => l.isEmpty
  | f + 1, l => l.isEmpty || level c d n l [] (levels f)
end
def start : Nat := pack [0, 0, 0, 0, 0, 0, 0, 0, 0, 0, 0, 0, 0]

theorem code_set {ts : List Tk} {i : Nat} {t u : Tk} (ht : ts[i]? = some t) (hc : u.code = t.code) : (ts.set i u).map Tk.code = ts.map Tk.code := by
  rw [List.map_set, hc]
  refine List.ext_getElem? fun j => ?_
  rw [List.getElem?_set]
  split
  · rename_i e
    subst e
    rw [List.getElem?_map, ht]
    split
    · rfl
    · rename_i h
      exact absurd (by rw [List.length_map]; exact (List.getElem?_eq_some_iff.1 ht).1) h
  · rfl
theorem wake_code (one : Bool) (c : Int) : ∀ ts : List Tk, (wakeL one c ts).map Tk.code = ts.map Tk.code
  | [] => rfl
  | v :: t => by
    unfold wakeL
    split
    · cases one
      · show v.code :: (wakeL false c t).map Tk.code = _
        rw [wake_code false c t]; rfl
      · rfl
    · show v.code :: (wakeL one c t).map Tk.code = _
      rw [wake_code one c t]; rfl
theorem leave_code {D : Wd} {i : Nat} {t u : Tk} {m : Nat} (ht : D.ts[i]? = some t) (hc : u.code = t.code) : (leaveW D i u m).ts.map Tk.code = D.ts.map Tk.code := by
  unfold leaveW
  split
  · exact code_set (u := { u with bad := true }) ht hc
  · exact code_set ht hc
theorem step_code {D : Wd} {i : Nat} {t : Tk} (ht : D.ts[i]? = some t) : (stepW D i t).ts.map Tk.code = D.ts.map Tk.code := by
  unfold stepW
  split
  · exact code_set (u := { t with wants := -1, pc := t.pc + 1 }) ht rfl
  · by_cases h1 : (insT t).f0 = 1
    · rw [doI1 h1]; exact code_set (u := { nxT t with r := _ }) ht rfl
    by_cases h2 : (insT t).f0 = 2
    · rw [doI2 h2]; exact code_set (u := nxT t) ht rfl
    by_cases h3 : (insT t).f0 = 3
    · rw [doI3 h3]; split <;> exact code_set (u := { nxT t with r := _ }) ht rfl
    by_cases h4 : (insT t).f0 = 4
    · rw [doI4 h4]; exact code_set (u := { nxT t with r := _ }) ht rfl
    by_cases h5 : (insT t).f0 = 5
    · rw [doI5 h5]; exact code_set (u := { nxT t with r := _ }) ht rfl
    by_cases h6 : (insT t).f0 = 6
    · rw [doI6 h6]; split
      · exact code_set (u := nxT t) ht rfl
      · exact code_set (u := { nxT t with pc := _ }) ht rfl
    by_cases h7 : (insT t).f0 = 7
    · rw [doI7 h7]; exact code_set (u := { nxT t with pc := _ }) ht rfl
    by_cases h8 : (insT t).f0 = 8
    · rw [doI8 h8]; exact code_set (u := nxT t) ht rfl
    by_cases h9 : (insT t).f0 = 9
    · rw [doI9 h9]; exact leave_code (u := nxT t) ht rfl
    by_cases h10 : (insT t).f0 = 10
    · rw [doI10 h10]; split
      · exact leave_code (u := nxT t) ht rfl
      · exact leave_code (u := { nxT t with cond := _, wants := _, pc := _ }) ht rfl
    by_cases h11 : (insT t).f0 = 11
    · rw [doI11 h11]; exact (wake_code _ _ _).trans (code_set (u := nxT t) ht rfl)
    by_cases h12 : (insT t).f0 = 12
    · rw [doI12 h12]; exact (wake_code _ _ _).trans (code_set (u := nxT t) ht rfl)
    by_cases h13 : (insT t).f0 = 13
    · rw [doI13 h13]; exact code_set (u := nxT t) ht rfl
    by_cases h14 : (insT t).f0 = 14
    · rw [doI14 h14]; exact code_set (u := { nxT t with ended := true }) ht rfl
    unfold doI
    rw [if_neg h1, if_neg h2, if_neg h3, if_neg h4, if_neg h5, if_neg h6, if_neg h7, if_neg h8, if_neg h9, if_neg h10, if_neg h11, if_neg h12, if_neg h13, if_neg h14]
    exact code_set (u := nxT t) ht rfl
theorem goD_code (D : Wd) (i : Nat) : (goD D i).ts.map Tk.code = D.ts.map Tk.code := by
  unfold goD
  split
  · rename_i t ht
    refine Eq.trans ?_ (step_code ht)
    show ((stepW D i t).ts.modify i endT).map Tk.code = _
    refine List.ext_getElem? fun j => ?_
    rw [List.getElem?_map, List.getElem?_map, List.getElem?_modify]
    rcases (stepW D i t).ts[j]? with _ | u
    · rfl
    · show some (Tk.code (if i = j then endT u else u)) = some (Tk.code u)
      split <;> rfl
  · rfl
section
variable {c d : List I} {n : Nat}
theorem nexts_ok {D : Wd} : ∀ (l acc : List Nat) (k : List Nat → Bool), nexts c d n D l acc k = true → ∃ acc', k acc' = true ∧ (∀ v ∈ acc, v ∈ acc') ∧ ∀ i ∈ l, ∃ v ∈ acc', sameD (goD D i) (decH c d n v) = true
  | [], acc, k, h => ⟨acc, h, fun _ h => h, fun i hi => absurd hi (by simp)⟩
  | i :: t, acc, k, h => by
    unfold nexts at h
    rw [force_eq, Bool.and_eq_true] at h
    obtain ⟨acc', h1, h2, h3⟩ := nexts_ok t _ k h.2
    refine ⟨acc', h1, fun v hv => h2 v (mem_ins.2 (.inr hv)), fun j hj => ?_⟩
    rcases List.mem_cons.1 hj with rfl | hj
    · exact ⟨_, h2 _ (mem_ins.2 (.inl rfl)), h.1⟩
    · exact h3 j hj
def endH (n x : Nat) : Prop := fld x 0 = 9 * n ∧ fld x 5 = 10 * n ∧ fld x 12 = n
theorem level_ok : ∀ (l acc : List Nat) (k : List Nat → Bool), level c d n l acc k = true → ∃ acc', k acc' = true ∧ (∀ v ∈ acc, v ∈ acc') ∧
    ∀ x ∈ l, (ableL (decH c d n x) = [] ∧ endH n x) ∨ (ableL (decH c d n x) ≠ [] ∧ ∀ i ∈ ableL (decH c d n x), ∃ v ∈ acc', sameD (goD (decH c d n x) i) (decH c d n v) = true)
  | [], acc, k, h => ⟨acc, h, fun _ h => h, fun i hi => absurd hi (by simp)⟩
  | x :: t, acc, k, h => by
    unfold level at h
    simp only at h
    split at h
    · rename_i he
      simp only [Bool.and_eq_true, beq_iff_eq] at h
      obtain ⟨acc', h1, h2, h3⟩ := level_ok t acc k h.2
      refine ⟨acc', h1, h2, fun y hy => ?_⟩
      rcases List.mem_cons.1 hy with rfl | hy
      · exact .inl ⟨he, h.1.1.1, h.1.1.2, h.1.2⟩
      · exact h3 y hy
    · rename_i i s he
      obtain ⟨a1, g1, g2, g3⟩ := nexts_ok _ _ _ h
      obtain ⟨acc', h1, h2, h3⟩ := level_ok t a1 k g1
      refine ⟨acc', h1, fun v hv => h2 v (g2 v hv), fun y hy => ?_⟩
      rcases List.mem_cons.1 hy with rfl | hy
      · refine .inr ⟨by rw [he]; simp, fun j hj => ?_⟩
        rw [he] at hj
        obtain ⟨v, hv, e⟩ := g3 j hj
        exact ⟨v, h2 v hv, e⟩
      · exact h3 y hy
theorem decH_code (x : Nat) : (decH c d n x).ts.map Tk.code = [c, d] := rfl
theorem levels_ok : ∀ (f : Nat) (l : List Nat), levels c d n f l = true → ∀ x ∈ l, ∀ (ps : List Int) (s : Nat), f ≤ ps.length →
    ∃ y, (loopW s (decH c d n x) ps).1 = decH c d n y ∧ endH n y
  | 0, l, h, x, hx, ps, s, hp => by
    unfold levels at h
    rw [List.isEmpty_iff] at h
    subst h
    simp at hx
  | f + 1, l, h, x, hx, ps, s, hp => by
    unfold levels at h
    rw [Bool.or_eq_true] at h
    rcases h with h | h
    · rw [List.isEmpty_iff] at h
      subst h
      simp at hx
    obtain ⟨acc, h1, _, h3⟩ := level_ok _ _ _ h
    rcases h3 x hx with ⟨he, hg⟩ | ⟨he, hg⟩
    · rw [loopW_stop he]
      exact ⟨x, rfl, hg⟩
    · rcases ps with _ | ⟨p, t⟩
      · simp at hp
      rw [loopW_go he]
      obtain ⟨m, _, e, _, _, _⟩ := able_at (pickN_lt (p := p) (List.length_pos_iff.2 he)).1
      have hm : m ∈ ableL (decH c d n x) := by
        rw [← e, List.getD_eq_getElem?_getD, List.getElem?_eq_getElem (pickN_lt (p := p) (List.length_pos_iff.2 he)).1]
        exact List.getElem_mem _
      obtain ⟨v, hv, hs⟩ := hg m hm
      have ht : turnW (decH c d n x) p = decH c d n v := by
        unfold turnW
        rw [e]
        exact sameD_eq ((goD_code _ _).trans ((decH_code x).trans (decH_code v).symm)) hs
      rw [ht]
      exact levels_ok f acc h1 v hv t (s + 1) (by simpa using hp)
end
theorem lev1 : levels (giveL 1) (takeL 1) 1 150 [start] = true := by decide +kernel
theorem lev2 : levels (giveL 2) (takeL 2) 2 150 [start] = true := by decide +kernel
theorem lev3 : levels (giveL 3) (takeL 3) 3 150 [start] = true := by decide +kernel
theorem lev4 : levels (giveL 4) (takeL 4) 4 150 [start] = true := by decide +kernel
theorem lev5 : levels (giveL 5) (takeL 5) 5 150 [start] = true := by decide +kernel
theorem lev6 : levels (giveL 6) (takeL 6) 6 150 [start] = true := by decide +kernel
theorem giveL_len : ∀ n, (giveL n).length = 9 * n
  | 0 => rfl
  | n + 1 => by show (giveL n ++ giveB n (9 * n)).length = _; rw [List.length_append, giveL_len n]; simp [giveB]; omega
theorem takeL_len : ∀ n, (takeL n).length = 10 * n
  | 0 => rfl
  | n + 1 => by show (takeL n ++ takeB (10 * n)).length = _; rw [List.length_append, takeL_len n]; simp [takeB]; omega
theorem D0_H (n : Nat) : D0 [giveL n, takeL n] [] = decH (giveL n) (takeL n) n start := by
  simp [D0, decH, mkT, mk0, endT, decT, giveL_len, takeL_len, start, pack, fld]
/-- What is handed over is had, in order. -/
theorem hands {n : Nat} (h1 : 1 ≤ n) (hn : n ≤ 6) {ps : List Int} (hp : 400 ≤ ps.length) {R : Wd} {s : Nat} (hl : loopW 0 (D0 [giveL n, takeL n] []) ps = (R, s)) :
    R.ts.length = 2 ∧ R.ts.map (stateW R) = [2, 2] ∧ R.emits = (List.range n).map (fun j : Nat => (⟨1, (j : Int) + 1⟩ : Em)) := by
  have hL : levels (giveL n) (takeL n) n 150 [start] = true := by
    match n, h1, hn with
    | 1, _, _ => exact lev1
    | 2, _, _ => exact lev2
    | 3, _, _ => exact lev3
    | 4, _, _ => exact lev4
    | 5, _, _ => exact lev5
    | 6, _, _ => exact lev6
  obtain ⟨y, h2, e0, e5, e12⟩ := levels_ok 150 _ hL start (by simp) ps 0 (by omega)
  rw [← D0_H, hl] at h2
  have h2 : R = _ := h2
  subst h2
  refine ⟨rfl, ?_, ?_⟩
  · show [stateW _ (decT _ _ _ _ _ _ _), stateW _ (decT _ _ _ _ _ _ _)] = [2, 2]
    rw [e0, e5]
    simp [stateW, decT]
  · show (List.range (fld y 12)).map _ = _
    rw [e12]
end Go.Proofs.Ytkcjghdopmigoaa.SC
