/- merge: what an iterator's calls do, by places. -/
import Derived.Test.YtehoojmalhloeaaMT
namespace Go.Proofs.Ytehoojmalhloeaa.CM
open Go.RowKit Go.Proofs.YtehoojmalhloeaaW.PrintWords
set_option linter.unusedVariables false
set_option linter.unusedSimpArgs false
set_option maxRecDepth 100000

/-- All blocks in which an iterator lies. -/
def Foot (X : Nat) (s : Sh) (lv : Value) (b : Nat) : Prop := b = X ∨ lv.ownBlock = some b ∨ (∃ i, i < s.n ∧ b = s.C i) ∨ (0 < s.n ∧ b = s.G) ∨ ∃ i, i < s.n ∧ 0 < (s.l i).length ∧ ∃ a, s.A i = some a ∧ b = a.block
theorem Own.foot {X : Nat} {s : Sh} {lv : Value} {b : Nat} (h : Own X s lv b) : Foot X s lv b := by
  rcases h with h | h | h
  · exact .inl h
  · exact .inr (.inr (.inl h))
  · exact .inr (.inl h)
theorem foot_off {X : Nat} {s : Sh} {lv : Value} {b : Nat} (h : ¬ Foot X s lv b) : Off s b :=
  ⟨fun h0 e => h (.inr (.inr (.inr (.inl ⟨h0, e⟩)))), fun i hi e => h (.inr (.inr (.inl ⟨i, hi, e⟩))), fun i hi h0 a ea e => h (.inr (.inr (.inr (.inr ⟨i, hi, h0, a, ea, e⟩))))⟩
theorem foot_new {X : Nat} {s : Sh} {lv lv' : Value} {n : Nat} {m : Nat} (ho : ∀ k, lv'.ownBlock = some k → lv.ownBlock = some k ∨ (n ≤ k ∧ k < m)) {b : Nat} (h : Foot X s lv' b) : Foot X s lv b ∨ (n ≤ b ∧ b < m) := by
  rcases h with h | h | h
  · exact .inl (.inl h)
  · rcases ho b h with h | h
    · exact .inl (.inr (.inl h))
    · exact .inr h
  · exact .inl (.inr (.inr h))

def hereQ (s : Sh) : Option Nat → Option Nat
  | none => none
  | some p => who s p
/-- An iterator is at a place; its blocks are among F. -/
def It (w : World) (X : Nat) (s : Sh) (q : Option Nat) (F : Nat → Prop) : Prop :=
  ∃ lv gv2 at_, Bk w X s at_ lv gv2 (hereQ s q) ∧ Fix s ∧ Ris s ∧ (∀ b, F b ↔ Foot X s lv b) ∧ (∀ k, lv.ownBlock = some k → k < w.heap.size) ∧ ∀ p, q = some p → p < s.N ∧ at_ = ats s (p + 1) ∧ gv2 = .slice s.ga s.n s.gc ∧ Line w X s at_ lv (hereV s (hereQ s q))
theorem Line.fr {w w1 : World} {X : Nat} {s : Sh} {at_ : Nat → Nat} {lv hv : Value} {P : Nat → Prop} (h : Line w X s at_ lv hv) (hf : Fr P w w1) (hd : ∀ b, b < w.heap.size → P b → ¬ Foot X s lv b) : Line w1 X s at_ lv hv := by
  rcases h with h | ⟨H, m, cap, d, r, e, hq, h⟩
  · exact .inl h
  · refine .inr ⟨H, m, cap, d, r, e, ?_, h⟩
    have hX := (Array.getElem?_eq_some_iff.1 hq.x).1
    have hH := (Array.getElem?_eq_some_iff.1 hq.row).1
    exact ⟨(hf.block X hX (fun hP => hd X hX hP (.inl rfl))).trans hq.x, hq.ne, (hf.block H hH (fun hP => hd H hH hP (.inr (.inl (by rw [e]; rfl))))).trans hq.row, hq.len, hq.cs.fr' hf (fun b hb hP => foot_off (hd b hb hP)), hq.off, hq.lt, hq.at'⟩
theorem It.fr {w w1 : World} {X : Nat} {s : Sh} {q : Option Nat} {F P : Nat → Prop} (h : It w X s q F) (hf : Fr P w w1) (hd : ∀ b, b < w.heap.size → P b → ¬ F b) : It w1 X s q F := by
  obtain ⟨lv, gv2, at_, hb, hx, hr, hF, hlt, hq⟩ := h
  have hd' : ∀ b, b < w.heap.size → P b → ¬ Foot X s lv b := fun b h1 h2 h3 => hd b h1 h2 ((hF b).2 h3)
  exact ⟨lv, gv2, at_, hb.fr hf (fun hP => hd' X hb.lt hP (.inl rfl)) (fun b h1 h2 => foot_off (hd' b h1 h2)), hx, hr, hF, fun k hk => by have := hlt k hk; have := hf.size; omega, fun p hp => by
    obtain ⟨h1, h2, h3, h4⟩ := hq p hp
    exact ⟨h1, h2, h3, h4.fr hf hd'⟩⟩
theorem It.below {w w1 : World} {X : Nat} {s : Sh} {q : Option Nat} {F : Nat → Prop} (h : It w X s q F) (hb : Below w.heap.size w w1) : It w1 X s q F := h.fr (P := fun _ => False) (Fr.of_below hb) (fun _ _ h => h.elim)
/-- What a call leaves. -/
def Goes (w : World) (X : Nat) (s : Sh) (F : Nat → Prop) (q : Option Nat) (w' : World) : Prop :=
  ∃ F', It w' X s q F' ∧ Fr F w w' ∧ ∀ b, F' b → F b ∨ (w.heap.size ≤ b ∧ b < w'.heap.size)

theorem SetEnd.goes {w w' : World} {X : Nat} {s : Sh} {lv : Value} {p : Nat} {F : Nat → Prop} (h : SetEnd w X s (ats s p) lv w') (hp : p ≤ s.N) (hx : Fix s) (hr : Ris s) (hF : ∀ b, F b ↔ Foot X s lv b) (hlt : ∀ k, lv.ownBlock = some k → k < w.heap.size) : Goes w X s F (if p < s.N then some p else none) w' := by
  obtain ⟨lv', at', here', h1, h2, h3, h4, h5⟩ := h
  have hlt' : ∀ k, lv'.ownBlock = some k → k < w'.heap.size := fun k hk => by
    have := h3.size
    rcases h4 k hk with h | h
    · have := hlt k h; omega
    · omega
  have f3 : Fr F w w' := h3.mono (fun b _ h => (hF b).2 h.foot)
  rcases h5 with ⟨e1, e2, e3⟩ | ⟨i, e1, e2, e3, e4⟩
  · have hw : who s p = none := head_none e1
    have hn : ¬ p < s.N := fun h => by obtain ⟨i, hi⟩ := who_lt h; rw [hw] at hi; cases hi
    rw [if_neg hn]
    refine ⟨fun b => Foot X s lv' b, ⟨lv', _, at', by rw [e2] at h1; exact h1, hx, hr, fun b => Iff.rfl, hlt', fun p hp => by cases hp⟩, f3, fun b hb => ?_⟩
    rcases foot_new h4 hb with h | h
    · exact .inl ((hF b).2 h)
    · exact .inr h
  · have hw : who s p = some i := head_some e1 e2
    have hn : p < s.N := by
      rcases Nat.lt_or_eq_of_le hp with h | rfl
      · exact h
      · rw [who_end] at hw; cases hw
    rw [if_pos hn]
    have e5 : at' = ats s (p + 1) := by rw [e4, ats_some hw]
    refine ⟨fun b => Foot X s lv' b, ⟨lv', _, at', by show Bk w' X s at' lv' _ (who s p); rw [hw, ← e3]; exact h1, hx, hr, fun b => Iff.rfl, hlt', fun p' hp' => ?_⟩, f3, fun b hb => ?_⟩
    · cases hp'
      exact ⟨hn, e5, rfl, by show Line w' X s at' lv' (hereV s (who s p)); rw [hw, ← e3]; exact h2⟩
    · rcases foot_new h4 hb with h | h
      · exact .inl ((hF b).2 h)
      · exact .inr h
theorem OnEnd.goes {w w' : World} {X : Nat} {s : Sh} {lv : Value} {p : Nat} {F : Nat → Prop} (h : OnEnd w X s (ats s p) lv w') (hp : p ≤ s.N) (hx : Fix s) (hr : Ris s) (hF : ∀ b, F b ↔ Foot X s lv b) (hlt : ∀ k, lv.ownBlock = some k → k < w.heap.size) : Goes w X s F (if p < s.N then some p else none) w' := by
  obtain ⟨lv', at', here', h1, h2, h3, h4, h5⟩ := h
  exact SetEnd.goes ⟨lv', at', here', h1, h2, h3, fun k hk => .inl (h4 k hk), h5⟩ hp hx hr hF hlt
def prvQ : Option Nat → Option Nat
  | some (p + 1) => some p
  | _ => none
theorem BackEnd.goes {w w' : World} {X : Nat} {s : Sh} {lv : Value} {p : Nat} {F : Nat → Prop} (h : BackEnd w X s (ats s p) lv w') (hp : p ≤ s.N) (hx : Fix s) (hr : Ris s) (hF : ∀ b, F b ↔ Foot X s lv b) : Goes w X s F (prvQ (some p)) w' := by
  obtain ⟨lv', h1, h2, h3, h4⟩ := h
  have f3 : Fr F w w' := h3.mono (fun b _ h => (hF b).2 h.foot)
  have hnew : ∀ b, Foot X s lv' b → F b ∨ (w.heap.size ≤ b ∧ b < w'.heap.size) := fun b hb => by
    rcases foot_new (lv := lv) (fun k hk => .inr (h4 k hk)) hb with h | h
    · exact .inl ((hF b).2 h)
    · exact .inr h
  cases p with
  | zero =>
    rw [best_zero] at h1
    exact ⟨fun b => Foot X s lv' b, ⟨lv', _, _, h1, hx, hr, fun b => Iff.rfl, fun k hk => (h4 k hk).2, fun p hp => by cases hp⟩, f3, hnew⟩
  | succ p =>
    rw [best_who hr (by omega)] at h1 h2
    refine ⟨fun b => Foot X s lv' b, ⟨lv', _, _, h1, hx, hr, fun b => Iff.rfl, fun k hk => (h4 k hk).2, fun p' hp' => ?_⟩, f3, hnew⟩
    cases hp'
    exact ⟨by omega, rfl, rfl, h2⟩

/-! ### the calls -/
theorem first_q {w : World} {X : Nat} {s : Sh} {q : Option Nat} {F : Nat → Prop} (h : It w X s q F) :
    Calls Try.prog 37 #[.pointer (some ⟨X, 0, none⟩)] w (fun e w' => e = .returned (.tuple #[]) ∧ Goes w X s F (if 0 < s.N then some 0 else none) w') := by
  obtain ⟨lv, gv2, at_, hb, hx, hr, hF, hlt, hq⟩ := h
  exact (first_w X s at_ lv gv2 _ w hb hx).mono (fun e w' ⟨he, h⟩ => ⟨he, SetEnd.goes (p := 0) h (Nat.zero_le _) hx hr hF hlt⟩)
def nxtQ (s : Sh) : Option Nat → Option Nat
  | some p => if p + 1 < s.N then some (p + 1) else none
  | none => none
theorem next_q {w : World} {X : Nat} {s : Sh} {q : Option Nat} {F : Nat → Prop} (h : It w X s q F) :
    Calls Try.prog 39 #[.pointer (some ⟨X, 0, none⟩)] w (fun e w' => e = .returned (.tuple #[]) ∧ Goes w X s F (nxtQ s q) w') := by
  have h' := h
  obtain ⟨lv, gv2, at_, hb, hx, hr, hF, hlt, hq⟩ := h
  cases q with
  | none =>
    refine (next_none X w hb.cell.2.2.2.1).mono ?_
    rintro e w' ⟨rfl, rfl⟩
    exact ⟨rfl, F, h', Fr.refl _ _, fun b h => .inl h⟩
  | some p =>
    obtain ⟨h1, h2, h3, h4⟩ := hq p rfl
    obtain ⟨i, hi⟩ := who_lt h1
    have hb : Bk w X s at_ lv gv2 (who s p) := hb
    have h4 : Line w X s at_ lv (hereV s (who s p)) := h4
    rw [hi] at hb h4
    rw [h3] at hb
    subst h2
    exact (next_w X i s _ lv w hb hx h4).mono (fun e w' ⟨he, h⟩ => ⟨he, OnEnd.goes (p := p + 1) h (by omega) hx hr hF hlt⟩)
theorem prev_q {w : World} {X : Nat} {s : Sh} {q : Option Nat} {F : Nat → Prop} (h : It w X s q F) :
    Calls Try.prog 40 #[.pointer (some ⟨X, 0, none⟩)] w (fun e w' => e = .returned (.tuple #[]) ∧ Goes w X s F (prvQ q) w') := by
  have h' := h
  obtain ⟨lv, gv2, at_, hb, hx, hr, hF, hlt, hq⟩ := h
  cases q with
  | none =>
    refine (prev_none X w hb.cell.2.2.2.1).mono ?_
    rintro e w' ⟨rfl, rfl⟩
    exact ⟨rfl, F, h', Fr.refl _ _, fun b h => .inl h⟩
  | some p =>
    obtain ⟨h1, h2, h3, h4⟩ := hq p rfl
    obtain ⟨i, hi⟩ := who_lt h1
    have hb : Bk w X s at_ lv gv2 (who s p) := hb
    rw [hi] at hb
    subst h2
    refine (prev_w X i s _ lv gv2 w hb hx (who_some hi).1 (by rw [ats_some hi, upd_same]; omega) (fun j _ => ats_le s _ j)).mono (fun e w' ⟨he, h⟩ => ⟨he, ?_⟩)
    rw [ats_back hi] at h
    exact BackEnd.goes h (by omega) hx hr hF
theorem last_q {w : World} {X : Nat} {s : Sh} {q : Option Nat} {F : Nat → Prop} (h : It w X s q F) :
    Calls Try.prog 42 #[.pointer (some ⟨X, 0, none⟩)] w (fun e w' => e = .returned (.tuple #[]) ∧ Goes w X s F (prvQ (some s.N)) w') := by
  obtain ⟨lv, gv2, at_, hb, hx, hr, hF, hlt, hq⟩ := h
  refine (last_w X s at_ lv gv2 _ w hb hx).mono (fun e w' ⟨he, h⟩ => ⟨he, ?_⟩)
  rw [show (fun j => (s.l j).length) = ats s s.N from funext (fun j => (ats_end s j).symm)] at h
  exact BackEnd.goes h (Nat.le_refl _) hx hr hF
def told (s : Sh) : Option Nat → PC.S44 × Bool
  | some p => (itm s p, true)
  | none => (PC.z44, false)
theorem at_q {w : World} {X : Nat} {s : Sh} {q : Option Nat} {F : Nat → Prop} (h : It w X s q F) :
    Calls Try.prog 38 #[.pointer (some ⟨X, 0, none⟩)] w (fun e w' => e = .returned (.tuple #[val44 (told s q).1, .bool (told s q).2]) ∧ Below w.heap.size w w') := by
  obtain ⟨lv, gv2, at_, hb, hx, hr, hF, hlt, hq⟩ := h
  cases q with
  | none => exact at_none X w hb.cell.2.2.2.1
  | some p =>
    obtain ⟨h1, h2, h3, h4⟩ := hq p rfl
    obtain ⟨i, hi⟩ := who_lt h1
    have hb : Bk w X s at_ lv gv2 (who s p) := hb
    rw [hi] at hb
    subst h2
    have := at_w X i s _ lv gv2 w hb hx (who_some hi).1 (by rw [ats_some hi, upd_same]; omega) (ats_le s _ i)
    rw [itm_last hi] at this
    exact this
end Go.Proofs.Ytehoojmalhloeaa.CM
