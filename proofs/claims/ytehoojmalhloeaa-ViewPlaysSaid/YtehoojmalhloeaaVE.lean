/- view: its calls. -/
import Derived.Test.YtehoojmalhloeaaVD
import Derived.Test.YtehoojmalhloeaaPCx10
namespace Go.Proofs.Ytehoojmalhloeaa.CM
open Go.RowKit Go.Proofs.YtehoojmalhloeaaW.PrintWords
set_option linter.unusedVariables false
set_option linter.unusedSimpArgs false
set_option maxRecDepth 100000

def obj76 (y : PC.S76) : Obj := .cells #[.string y.f0, .string y.f1] 76 (0, 0)
/-- What a view is at, where. -/
def HB (V : Nat) (F : Nat → Prop) (w : World) : Option PC.S76 → Value → Option Nat → Prop
  | none, hv, hb => hv = .pointer none ∧ hb = none
  | some y, hv, hb => ∃ b, hv = .pointer (some ⟨b, 0, none⟩) ∧ hb = some b ∧ w.heap[b]? = some (obj76 y) ∧ ¬ F b ∧ b ≠ V
/-- A view; its blocks are G. -/
def Vi (w : World) (V X : Nat) (s : Sh) (seq : Int) (here : Option PC.S76) (G : Nat → Prop) : Prop :=
  ∃ q F hv hb, It w X s q F ∧ ¬ F V ∧ w.heap[V]? = some (.cells #[.pointer (some ⟨X, 0, none⟩), .int .u64 seq, hv] 124 (0, 0)) ∧ HB V F w here hv hb ∧ ∀ b, G b ↔ (b = V ∨ F b ∨ hb = some b)
def VGo (w : World) (V X : Nat) (s : Sh) (seq : Int) (G : Nat → Prop) (here : Option PC.S76) (w' : World) : Prop :=
  ∃ G', Vi w' V X s seq here G' ∧ Fr G w w' ∧ ∀ b, G' b → G b ∨ (w.heap.size ≤ b ∧ b < w'.heap.size)
section
variable {w w1 w2 : World} {V X : Nat} {s : Sh} {seq : Int} {here : Option PC.S76} {G P : Nat → Prop}
theorem Vi.lt (h : Vi w V X s seq here G) {b : Nat} (hb : G b) : b < w.heap.size := by
  obtain ⟨q, F, hv, hbk, hi, hn, hV, hH, hG⟩ := h
  rcases (hG b).1 hb with rfl | h | h
  · exact (Array.getElem?_eq_some_iff.1 hV).1
  · exact hi.lt h
  · cases here with
    | none => rw [hH.2] at h; cases h
    | some y =>
      obtain ⟨b', _, e, hk, _⟩ := hH
      rw [e] at h
      cases h
      exact (Array.getElem?_eq_some_iff.1 hk).1
theorem Vi.fr (h : Vi w V X s seq here G) (hf : Fr P w w1) (hd : ∀ b, P b → ¬ G b) : Vi w1 V X s seq here G := by
  obtain ⟨q, F, hv, hbk, hi, hn, hV, hH, hG⟩ := h
  refine ⟨q, F, hv, hbk, hi.fr hf (fun b _ hP hF => hd b hP ((hG b).2 (.inr (.inl hF)))), hn, (hf.block _ (Array.getElem?_eq_some_iff.1 hV).1 (fun hP => hd _ hP ((hG _).2 (.inl rfl)))).trans hV, ?_, hG⟩
  cases here with
  | none => exact hH
  | some y =>
    obtain ⟨b, e1, e2, hk, h3, h4⟩ := hH
    exact ⟨b, e1, e2, (hf.block _ (Array.getElem?_eq_some_iff.1 hk).1 (fun hP => hd _ hP ((hG _).2 (.inr (.inr e2))))).trans hk, h3, h4⟩
theorem Vi.below (h : Vi w V X s seq here G) (hb : Below w.heap.size w w1) : Vi w1 V X s seq here G := h.fr (P := fun _ => False) (Fr.of_below hb) (fun _ h => h.elim)
/-- From the iterator's goings and a look for a key. -/
theorem vgo {F F1 : Nat → Prop} {here' : Option PC.S76} (hG : ∀ b, (b = V ∨ F b) → G b) (hGl : ∀ b, G b → b < w.heap.size) (hV : ¬ F V) (hf : Fr F w w1) (hn : ∀ b, F1 b → F b ∨ (w.heap.size ≤ b ∧ b < w1.heap.size)) (hVl : V < w.heap.size) (he : VEnd w1 X V s F1 seq here' w2) : VGo w V X s seq G here' w2 := by
  obtain ⟨q', F', hv', hi, hf2, hn2, hk, hH⟩ := he
  have hs1 := hf.size
  have hs2 := hf2.size
  have hF' : ∀ b, F' b → F b ∨ (w.heap.size ≤ b ∧ b < w2.heap.size) := fun b hb => by
    rcases hn2 b hb with h | h
    · rcases hn b h with h | h
      · exact .inl h
      · exact .inr ⟨h.1, by omega⟩
    · exact .inr ⟨by omega, h.2⟩
  have hfr : Fr G w w2 := (hf.mono (fun b _ h => hG b (.inr h))).trans hf2 (fun b hb h => by
    rcases h with h | h
    · exact hG b (.inl h)
    · rcases hn b h with h | h
      · exact hG b (.inr h)
      · omega)
  have hnV : ¬ F' V := fun h => by
    rcases hF' _ h with h | h
    · exact hV h
    · omega
  cases here' with
  | none =>
    refine ⟨fun b => b = V ∨ F' b ∨ (none : Option Nat) = some b, ⟨q', F', hv', none, hi, hnV, hk, ⟨hH, rfl⟩, fun b => Iff.rfl⟩, hfr, fun b hb => ?_⟩
    rcases hb with h | h | h
    · exact .inl (hG b (.inl h))
    · rcases hF' b h with h | h
      · exact .inl (hG b (.inr h))
      · exact .inr h
    · cases h
  | some y =>
    obtain ⟨hb, e, hk2, hlo, hnb⟩ := hH
    refine ⟨fun b => b = V ∨ F' b ∨ some hb = some b, ⟨q', F', hv', some hb, hi, hnV, hk, ⟨hb, e, rfl, hk2, hnb, by omega⟩, fun b => Iff.rfl⟩, hfr, fun b hb' => ?_⟩
    rcases hb' with h | h | h
    · exact .inl (hG b (.inl h))
    · rcases hF' b h with h | h
      · exact .inl (hG b (.inr h))
      · exact .inr h
    · cases h
      exact .inr ⟨by omega, (Array.getElem?_eq_some_iff.1 hk2).1⟩
end
/-- The key ahead of all of a user's. -/
def st (u : ByteArray) : PC.S42 := ⟨u, 18446744073709551615, 9223372036854775807⟩
theorem start_w (u : ByteArray) (w : World) : Calls Try.prog 81 #[.string u] w fun e w' => e = .returned (kv42 (st u)) ∧ Below w.heap.size w w' := PC.view_start.calls u u _ _ w rfl

set_option maxHeartbeats 4000000 in
theorem vfirst_w {w : World} {V X : Nat} {s : Sh} {seq : Int} {here : Option PC.S76} {G : Nat → Prop} (h : Vi w V X s seq here G) :
    Calls Try.prog 62 #[.pointer (some ⟨V, 0, none⟩)] w (fun e w' => e = .returned (.tuple #[]) ∧ VGo w V X s seq G (onS seq none (upto s s.N)) w') := by
  have hl := fun b => h.lt (b := b)
  obtain ⟨q, F, hv, hb, hi, hn, hV, hH, hG⟩ := h
  have c0 : w.cell? ⟨V, 0, none⟩ = some (.pointer (some ⟨X, 0, none⟩)) := by simp [World.cell?, hV]
  have H := Lib.hid (And.intro hi (And.intro hn (And.intro hV (And.intro hG hl))))
  clear hi hn hV hG hl hH
  go_enter Try.func62, Try.ntmps62
  go_wp2_with fail
  refine (first_q H.out.1).mono ?_
  rintro e w1 ⟨rfl, g⟩
  obtain ⟨F1, hi1, hf1, hn1⟩ := g
  have hV1 := (hf1.block _ (Array.getElem?_eq_some_iff.1 H.out.2.2.1).1 H.out.2.1).trans H.out.2.2.1
  have hnV1 : ¬ F1 V := fun h => by
    rcases hn1 _ h with h | h
    · exact H.out.2.1 h
    · have := (Array.getElem?_eq_some_iff.1 H.out.2.2.1).1; omega
  have HO := Lib.hid (von_w w1 X V s 0 F1 seq hv hi1 hV1 hnV1)
  have H1 := Lib.hid (And.intro hf1 hn1)
  clear hi1 hf1 hn1 hV1 hnV1
  go_wp2_with (first | (go_at_call 82; refine HO.out.mono ?_; rintro e w2 ⟨rfl, t⟩))
  go_end0
  exact ⟨rfl, vgo (fun b h => (H.out.2.2.2.1 b).2 (by rcases h with h | h; exact .inl h; exact .inr (.inl h))) H.out.2.2.2.2 H.out.2.1 H1.out.1 H1.out.2 (Array.getElem?_eq_some_iff.1 H.out.2.2.1).1 t⟩

set_option maxHeartbeats 4000000 in
theorem vlast_w {w : World} {V X : Nat} {s : Sh} {seq : Int} {here : Option PC.S76} {G : Nat → Prop} (h : Vi w V X s seq here G) :
    Calls Try.prog 57 #[.pointer (some ⟨V, 0, none⟩)] w (fun e w' => e = .returned (.tuple #[]) ∧ VGo w V X s seq G (finB (bkS seq none (upto s s.N).reverse)) w') := by
  have hl := fun b => h.lt (b := b)
  obtain ⟨q, F, hv, hb, hi, hn, hV, hH, hG⟩ := h
  have c0 : w.cell? ⟨V, 0, none⟩ = some (.pointer (some ⟨X, 0, none⟩)) := by simp [World.cell?, hV]
  have H := Lib.hid (And.intro hi (And.intro hn (And.intro hV (And.intro hG hl))))
  clear hi hn hV hG hl hH
  go_enter Try.func57, Try.ntmps57
  go_wp2_with fail
  refine (last_q H.out.1).mono ?_
  rintro e w1 ⟨rfl, g⟩
  obtain ⟨F1, hi1, hf1, hn1⟩ := g
  have hV1 := (hf1.block _ (Array.getElem?_eq_some_iff.1 H.out.2.2.1).1 H.out.2.1).trans H.out.2.2.1
  have hnV1 : ¬ F1 V := fun h => by
    rcases hn1 _ h with h | h
    · exact H.out.2.1 h
    · have := (Array.getElem?_eq_some_iff.1 H.out.2.2.1).1; omega
  have hO := vback_w w1 X V s s.N F1 seq hv (Nat.le_refl _) hi1 hV1 hnV1
  rw [List.take_of_length_le (by rw [upto_len]; exact Nat.le_refl _)] at hO
  have HO := Lib.hid hO
  have H1 := Lib.hid (And.intro hf1 hn1)
  clear hi1 hf1 hn1 hV1 hnV1 hO
  go_wp2_with (first | (go_at_call 83; refine HO.out.mono ?_; rintro e w2 ⟨rfl, t⟩))
  go_end0
  exact ⟨rfl, vgo (fun b h => (H.out.2.2.2.1 b).2 (by rcases h with h | h; exact .inl h; exact .inr (.inl h))) H.out.2.2.2.2 H.out.2.1 H1.out.1 H1.out.2 (Array.getElem?_eq_some_iff.1 H.out.2.2.1).1 t⟩

/-- The iterator seeks: behind a draw, and the key that is made. -/
theorem seek_g {w w0 : World} {X : Nat} {s : Sh} {q : Option Nat} {F : Nat → Prop} (h : It w X s q F) (hb : Below w.heap.size w w0) (a : PC.S42) :
    Calls Try.prog 47 #[.pointer (some ⟨X, 0, none⟩), kv42 a] w0 (fun e w' => e = .returned (.tuple #[]) ∧ Goes w X s F (plc s (cntQ s a)) w') :=
  (seek_q (h.below hb) a).mono (fun e w' ⟨h1, h2⟩ => ⟨h1, by
    obtain ⟨F', i1, i2, i3⟩ := h2
    refine ⟨F', i1, (Fr.of_below (O := F) hb).trans i2 (fun _ _ h => h), fun b hF => ?_⟩
    rcases i3 b hF with h4 | h4
    · exact .inl h4
    · have := hb.size; exact .inr ⟨by omega, h4.2⟩⟩)
set_option maxHeartbeats 4000000 in
theorem vseek_w {w : World} {V X : Nat} {s : Sh} {seq : Int} {here : Option PC.S76} {G : Nat → Prop} (h : Vi w V X s seq here G) (u : ByteArray) :
    Calls Try.prog 54 #[.pointer (some ⟨V, 0, none⟩), .string u] w (fun e w' => e = .returned (.tuple #[]) ∧ VGo w V X s seq G (onS seq none ((upto s s.N).drop (cntQ s (st u)))) w') := by
  have hl := fun b => h.lt (b := b)
  obtain ⟨q, F, hv, hb, hi, hn, hV, hH, hG⟩ := h
  have c0 : w.cell? ⟨V, 0, none⟩ = some (.pointer (some ⟨X, 0, none⟩)) := by simp [World.cell?, hV]
  have H := Lib.hid (And.intro hi (And.intro hn (And.intro hV (And.intro hG hl))))
  have cd : w.drew.cell? ⟨V, 0, none⟩ = some (.pointer (some ⟨X, 0, none⟩)) := by simpa using c0
  have HC := Lib.hid cd
  have hS := start_w u w.drew
  unfold kv42 at hS
  have HS := Lib.hid hS
  have HK := Lib.hid (fun w0 (hb : Below w.heap.size w w0) => seek_g H.out.1 hb (st u))
  unfold kv42 at HK
  clear hi hn hV hG hl hH cd hS
  go_enter Try.func54, Try.ntmps54
  go_wp2_with fail
  go_region_law (first | (go_simp; go_at_call 47; refine (HK.out _ HB.out).mono ?_; rintro e w1 ⟨rfl, g⟩; have HG := Lib.hid g; clear g) | (go_simp; go_at_call 81; refine HS.out.mono ?_; rintro e wk ⟨rfl, hbk⟩; have HB := Lib.hid ((Below.refl w.heap.size w).drew.trans hbk); have ck := cell_up' HC.out hbk; clear hbk))
  all_goals
    have g := HG.out
    obtain ⟨F1, hi1, hf1, hn1⟩ := g
    have hV1 := (hf1.block _ (Array.getElem?_eq_some_iff.1 H.out.2.2.1).1 H.out.2.1).trans H.out.2.2.1
    have hnV1 : ¬ F1 V := fun h => by
      rcases hn1 _ h with h | h
      · exact H.out.2.1 h
      · have := (Array.getElem?_eq_some_iff.1 H.out.2.2.1).1; omega
    have HO := Lib.hid (von_w w1 X V s _ F1 seq hv hi1 hV1 hnV1)
    have H1 := Lib.hid (And.intro hf1 hn1)
    clear hi1 hf1 hn1 hV1 hnV1
    go_wp2_with (first | (go_at_call 82; refine HO.out.mono ?_; rintro e w2 ⟨rfl, t⟩))
    go_end0
    exact ⟨rfl, vgo (fun b h => (H.out.2.2.2.1 b).2 (by rcases h with h | h; exact .inl h; exact .inr (.inl h))) H.out.2.2.2.2 H.out.2.1 H1.out.1 H1.out.2 (Array.getElem?_eq_some_iff.1 H.out.2.2.1).1 t⟩

set_option maxHeartbeats 4000000 in
theorem vnext_none {w : World} {V X : Nat} {s : Sh} {seq : Int} {G : Nat → Prop} (h : Vi w V X s seq none G) (g : Nat) (hg : g = 63 ∨ g = 56) :
    Calls Try.prog g #[.pointer (some ⟨V, 0, none⟩)] w (fun e w' => e = .returned (.tuple #[]) ∧ w' = w) := by
  obtain ⟨q, F, hv, hb, hi, hn, hV, ⟨hH, _⟩, hG⟩ := h
  subst hH
  have c2 : w.cell? ⟨V, 2, none⟩ = some (.pointer none) := by simp [World.cell?, hV]
  clear hi hn hV hG
  rcases hg with rfl | rfl
  · go_enter Try.func63, Try.ntmps63
    go_wp2_with fail
    (try simp only [Exit.inBlock, Exit.then]); refine bodyPost_ret (results_none rfl _ _ _) rfl ?_
    exact ⟨rfl, rfl⟩
  · go_enter Try.func56, Try.ntmps56
    go_wp2_with fail
    (try simp only [Exit.inBlock, Exit.then]); refine bodyPost_ret (results_none rfl _ _ _) rfl ?_
    exact ⟨rfl, rfl⟩
def up0 (u : ByteArray) : ByteArray := u ++ ⟨#[0]⟩
set_option maxHeartbeats 4000000 in
theorem vnext_w {w : World} {V X : Nat} {s : Sh} {seq : Int} {y : PC.S76} {G : Nat → Prop} (h : Vi w V X s seq (some y) G) (hy : y.f0.size ≤ 140737488351232) :
    Calls Try.prog 63 #[.pointer (some ⟨V, 0, none⟩)] w (fun e w' => e = .returned (.tuple #[]) ∧ VGo w V X s seq G (onS seq none ((upto s s.N).drop (cntQ s (st (up0 y.f0))))) w') := by
  have hl := fun b => h.lt (b := b)
  obtain ⟨q, F, hv, hb, hi, hn, hV, hH, hG⟩ := h
  have c0 : w.cell? ⟨V, 0, none⟩ = some (.pointer (some ⟨X, 0, none⟩)) := by simp [World.cell?, hV]
  have H := Lib.hid (And.intro hi (And.intro hn (And.intro hV (And.intro hG hl))))
  obtain ⟨bh, e1, e2, hk, h3, h4⟩ := hH
  subst e1
  unfold obj76 at hk
  have c2 : w.cell? ⟨V, 2, none⟩ = some (.pointer (some ⟨bh, 0, none⟩)) := by simp [World.cell?, hV]
  have c3 : w.cell? ⟨bh, 0, none⟩ = some (.string y.f0) := by simp [World.cell?, hk]
  have cd : w.drew.cell? ⟨V, 0, none⟩ = some (.pointer (some ⟨X, 0, none⟩)) := by simpa using c0
  have HC := Lib.hid cd
  have hS := start_w (up0 y.f0) w.drew
  unfold kv42 up0 at hS
  have HS := Lib.hid hS
  have HK := Lib.hid (fun w0 (hb : Below w.heap.size w w0) => seek_g H.out.1 hb (st (up0 y.f0)))
  unfold kv42 at HK
  clear hi hn hV hG hl cd hS e2 hk h3 h4
  have hsz : (9223372036854775807 < y.f0.size + 1) = False := eq_false (by omega)
  go_enter Try.func63, Try.ntmps63
  go_wp2_with fail
  go_region_law (first | (go_simp; go_at_call 47; refine (HK.out _ HB.out).mono ?_; rintro e w1 ⟨rfl, g⟩; have HG := Lib.hid g; clear g) | (go_simp; go_at_call 81; refine HS.out.mono ?_; rintro e wk ⟨rfl, hbk⟩; have HB := Lib.hid ((Below.refl w.heap.size w).drew.trans hbk); have ck := cell_up' HC.out hbk; clear hbk))
  all_goals
    have g := HG.out
    obtain ⟨F1, hi1, hf1, hn1⟩ := g
    have hV1 := (hf1.block _ (Array.getElem?_eq_some_iff.1 H.out.2.2.1).1 H.out.2.1).trans H.out.2.2.1
    have hnV1 : ¬ F1 V := fun h => by
      rcases hn1 _ h with h | h
      · exact H.out.2.1 h
      · have := (Array.getElem?_eq_some_iff.1 H.out.2.2.1).1; omega
    have HO := Lib.hid (von_w w1 X V s _ F1 seq _ hi1 hV1 hnV1)
    have H1 := Lib.hid (And.intro hf1 hn1)
    clear hi1 hf1 hn1 hV1 hnV1
    go_wp2_with (first | (go_at_call 82; refine HO.out.mono ?_; rintro e w2 ⟨rfl, t⟩))
    go_end0
    exact ⟨rfl, vgo (fun b h => (H.out.2.2.2.1 b).2 (by rcases h with h | h; exact .inl h; exact .inr (.inl h))) H.out.2.2.2.2 H.out.2.1 H1.out.1 H1.out.2 (Array.getElem?_eq_some_iff.1 H.out.2.2.1).1 t⟩

set_option maxHeartbeats 4000000 in
theorem vprev_w {w : World} {V X : Nat} {s : Sh} {seq : Int} {y : PC.S76} {G : Nat → Prop} (h : Vi w V X s seq (some y) G) :
    Calls Try.prog 56 #[.pointer (some ⟨V, 0, none⟩)] w (fun e w' => e = .returned (.tuple #[]) ∧ VGo w V X s seq G (finB (bkS seq none ((upto s s.N).take (if cntQ s (st y.f0) < s.N then cntQ s (st y.f0) else 0)).reverse)) w') := by
  obtain ⟨kq, hkq⟩ : ∃ kq, (if cntQ s (st y.f0) < s.N then cntQ s (st y.f0) else 0) = kq := ⟨_, rfl⟩
  rw [hkq]
  have HKq := Lib.hid hkq
  clear hkq
  have hl := fun b => h.lt (b := b)
  obtain ⟨q, F, hv, hb, hi, hn, hV, hH, hG⟩ := h
  have c0 : w.cell? ⟨V, 0, none⟩ = some (.pointer (some ⟨X, 0, none⟩)) := by simp [World.cell?, hV]
  have H := Lib.hid (And.intro hi (And.intro hn (And.intro hV (And.intro hG hl))))
  obtain ⟨bh, e1, e2, hk, h3, h4⟩ := hH
  subst e1
  unfold obj76 at hk
  have c2 : w.cell? ⟨V, 2, none⟩ = some (.pointer (some ⟨bh, 0, none⟩)) := by simp [World.cell?, hV]
  have c3 : w.cell? ⟨bh, 0, none⟩ = some (.string y.f0) := by simp [World.cell?, hk]
  have cd : w.drew.cell? ⟨V, 0, none⟩ = some (.pointer (some ⟨X, 0, none⟩)) := by simpa using c0
  have HC := Lib.hid cd
  have hS := start_w y.f0 w.drew
  unfold kv42 at hS
  have HS := Lib.hid hS
  have HK := Lib.hid (fun w0 (hb : Below w.heap.size w w0) => seek_g H.out.1 hb (st y.f0))
  unfold kv42 at HK
  clear hi hn hV hG hl cd hS e2 hk h3 h4
  go_enter Try.func56, Try.ntmps56
  go_wp2_with fail
  go_region_law (first | (go_simp; go_at_call 47; refine (HK.out _ HB.out).mono ?_; rintro e w1 ⟨rfl, g⟩; have HG := Lib.hid g; clear g) | (go_simp; go_at_call 81; refine HS.out.mono ?_; rintro e wk ⟨rfl, hbk⟩; have HB := Lib.hid ((Below.refl w.heap.size w).drew.trans hbk); have ck := cell_up' HC.out hbk; clear hbk))
  all_goals
    have g := HG.out
    obtain ⟨F1, hi1, hf1, hn1⟩ := g
    have hV1 := (hf1.block _ (Array.getElem?_eq_some_iff.1 H.out.2.2.1).1 H.out.2.1).trans H.out.2.2.1
    have hnV1 : ¬ F1 V := fun h => by
      rcases hn1 _ h with h | h
      · exact H.out.2.1 h
      · have := (Array.getElem?_eq_some_iff.1 H.out.2.2.1).1; omega
    have cV : w1.cell? ⟨V, 0, none⟩ = some (.pointer (some ⟨X, 0, none⟩)) := by simp [World.cell?, hV1]
    have hp := prev_q hi1
    have HP := Lib.hid hp
    have H1 := Lib.hid (And.intro hf1 (And.intro hn1 (And.intro hi1 (And.intro hV1 hnV1))))
    clear hi1 hf1 hn1 hV1 hnV1 hp
    go_wp2_with fail
    refine HP.out.mono ?_
    rintro e w2 ⟨rfl, ⟨F2, hi2, hf2, hn2⟩⟩
    have hV2 := (hf2.block _ (Array.getElem?_eq_some_iff.1 H1.out.2.2.2.1).1 H1.out.2.2.2.2).trans H1.out.2.2.2.1
    have hnV2 : ¬ F2 V := fun h => by
      rcases hn2 _ h with h | h
      · exact H1.out.2.2.2.2 h
      · have := (Array.getElem?_eq_some_iff.1 H1.out.2.2.2.1).1; omega
    have hpl : prvQ (plc s (cntQ s (st y.f0))) = prvQ (some kq) ∧ kq ≤ s.N := by
      rw [← HKq.out]
      unfold plc
      split
      · exact ⟨rfl, by omega⟩
      · exact ⟨rfl, Nat.zero_le _⟩
    rw [hpl.1] at hi2
    have HO := Lib.hid (vback_w w2 X V s kq F2 seq _ hpl.2 hi2 hV2 hnV2)
    have H2 := Lib.hid (And.intro hf2 hn2)
    clear hi2 hf2 hn2 hV2 hnV2 hpl
    go_wp2_with (first | (go_at_call 83; refine HO.out.mono ?_; rintro e w3 ⟨rfl, t⟩))
    go_end0
    have hf3 : Fr F w w2 := H1.out.1.trans H2.out.1 (fun b hb h => by
      rcases H1.out.2.1 b h with h | h
      · exact h
      · omega)
    have hs1 := H1.out.1.size
    have hs2 := H2.out.1.size
    exact ⟨rfl, vgo (fun b h => (H.out.2.2.2.1 b).2 (by rcases h with h | h; exact .inl h; exact .inr (.inl h))) H.out.2.2.2.2 H.out.2.1 hf3 (fun b hb => by
      rcases H2.out.2 b hb with h | h
      · rcases H1.out.2.1 b h with h | h
        · exact .inl h
        · exact .inr ⟨h.1, by omega⟩
      · exact .inr ⟨by omega, h.2⟩) (Array.getElem?_eq_some_iff.1 H.out.2.2.1).1 t⟩

def val76 (y : PC.S76) : Value := .agg #[.string y.f0, .string y.f1]
def zi : PC.S76 := ⟨⟨#[]⟩, ⟨#[]⟩⟩
def toldV : Option PC.S76 → PC.S76 × Bool
  | none => (zi, false)
  | some y => (y, true)
set_option maxHeartbeats 4000000 in
theorem vat_w {w : World} {V X : Nat} {s : Sh} {seq : Int} {here : Option PC.S76} {G : Nat → Prop} (h : Vi w V X s seq here G) :
    Calls Try.prog 55 #[.pointer (some ⟨V, 0, none⟩)] w (fun e w' => e = .returned (.tuple #[val76 (toldV here).1, .bool (toldV here).2]) ∧ Below w.heap.size w w') := by
  obtain ⟨q, F, hv, hb, hi, hn, hV, hH, hG⟩ := h
  obtain ⟨W, hW⟩ : ∃ W, w.alloc (.cells #[.string ⟨#[]⟩, .string ⟨#[]⟩] 76) = W := ⟨_, rfl⟩
  have bl : Below w.heap.size w W := by rw [← hW]; exact (Below.refl _ _).alloc (Nat.le_refl _) _
  have hk := World.alloc_heap_new w (.cells #[.string ⟨#[]⟩, .string ⟨#[]⟩] 76)
  have kV := blk_below hV bl
  cases here with
  | none =>
    obtain ⟨rfl, _⟩ := hH
    have c2 : (w.alloc (.cells #[.string ⟨#[]⟩, .string ⟨#[]⟩] 76)).cell? ⟨V, 2, none⟩ = some (.pointer none) := by rw [hW]; simp [World.cell?, kV]
    clear hi hn hV hG bl kV hk hW
    go_enter Try.func55, Try.ntmps55
    go_wp2
    (try simp only [Exit.inBlock, Exit.then])
    refine bodyPost_ret (results_ct rfl _ _ w.heap.size 76 #[.string ⟨#[]⟩, .string ⟨#[]⟩] (0, 0) _ rfl (World.alloc_heap_new w _) Try.underlying76 rfl (by kernel_rfl)) rfl ?_
    exact ⟨rfl, (Below.refl _ w).alloc (Nat.le_refl _) _⟩
  | some y =>
    obtain ⟨bh, rfl, _, hkb, _, _⟩ := hH
    have kb := blk_below hkb bl
    unfold obj76 at kb
    obtain ⟨B, hB⟩ : ∃ B, w.heap.size = B := ⟨_, rfl⟩
    rw [hW, hB] at hk
    have c2 : W.cell? ⟨V, 2, none⟩ = some (.pointer (some ⟨bh, 0, none⟩)) := by simp [World.cell?, kV]
    have e0 : W.cell? ⟨bh, 0, none⟩ = some (.string y.f0) := by simp [World.cell?, kb]
    have e1 : W.cell? ⟨bh, 1, none⟩ = some (.string y.f1) := by simp [World.cell?, kb]
    have b0 : W.cell? ⟨B, 0, none⟩ = some (.string ⟨#[]⟩) := by simp [World.cell?, hk]
    have b1 : W.cell? ⟨B, 1, none⟩ = some (.string ⟨#[]⟩) := by simp [World.cell?, hk]
    have f0 : W.frozen? ⟨B, 0, none⟩ = false := by simp [World.frozen?, hk]
    have f1 : W.frozen? ⟨B, 1, none⟩ = false := by simp [World.frozen?, hk]
    have HN := Lib.hid (And.intro hk (And.intro bl hB))
    clear hi hn hV hG bl kV hk hkb kb
    go_enter Try.func55, Try.ntmps55
    go_wp2_with (first | rw [hW, hB])
    (try simp only [Exit.inBlock, Exit.then])
    obtain ⟨hk, bl, hB⟩ := HN.out
    have hp : ((W.setCell ⟨B, 0, none⟩ (.string y.f0)).setCell ⟨B, 1, none⟩ (.string y.f1)).heap[B]? = some (.cells #[.string y.f0, .string y.f1] 76 (0, 0)) := heap_setCell_same _ B 1 _ 76 _ (heap_setCell_same W B 0 _ 76 _ hk)
    refine bodyPost_ret (results_ct rfl _ _ B 76 _ (0, 0) _ rfl hp Try.underlying76 rfl (by kernel_rfl)) rfl ?_
    refine ⟨rfl, ?_⟩
    have F : Fr (fun b => b = B) w W := Fr.of_below bl
    exact ((F.set ⟨B, 0, none⟩ _ rfl).set ⟨B, 1, none⟩ _ rfl).to_below (by omega) (fun b e => by omega)
def VNew (L : List (List PC.S44)) (seq : Int) (w : World) (e : Ending) (w' : World) : Prop :=
  (e = .returned (.tuple #[.pointer none, .int .i64 160]) ∧ (∃ j, j < L.length ∧ risesB (L.getD j []) = false) ∧ Below w.heap.size w w') ∨
    ∃ V X s G, e = .returned (.tuple #[.pointer (some ⟨V, 0, none⟩), .int .i64 0]) ∧ (∀ j, j < L.length → risesB (L.getD j []) = true) ∧ s.L = L ∧ Vi w' V X s seq none G ∧ (∀ b, G b → w.heap.size ≤ b) ∧ Below w.heap.size w w'
set_option maxHeartbeats 4000000 in
theorem vnew_w (LA : Option Addr) (lc : Nat) (L : List (List PC.S44)) (seq : Int) (w : World) (hr : Kd.C (Kd.slice 44 PC.k44) w LA L.length L) (hn : L.length ≤ 2932031007317) (hl : ∀ j, j < L.length → (L.getD j []).length ≤ 2932031007317) :
    Calls Try.prog 50 #[.slice LA L.length lc, .int .u64 seq] w (VNew L seq w) := by
  have HN := Lib.hid (new_w LA lc L w hr hn hl)
  clear hr hl
  go_enter Try.func50, Try.ntmps50
  go_wp2_with fail
  refine HN.out.mono ?_
  rintro e w3 (⟨rfl, hbad, b⟩ | ⟨X, s, rfl, hris, hL, hM⟩)
  · have H3 := Lib.hid (And.intro hbad b)
    clear hbad b
    go_wp2_with fail
    go_ret2
    exact .inl ⟨rfl, H3.out.1, H3.out.2⟩
  · have N0 := hM.nw (fun j hj => by show risesB (s.L.getD j []) = true; rw [hL]; exact hris j (by rw [← hL]; exact hj))
    obtain ⟨F0, hF0⟩ : ∃ F, Foot X s (.slice none 0 0) = F := ⟨_, rfl⟩
    rw [hF0] at N0
    obtain ⟨W4, hW4⟩ : ∃ W4, w3.alloc (.cells #[.pointer (some ⟨X, 0, none⟩), .int .u64 seq, .pointer none] 124) = W4 := ⟨_, rfl⟩
    have b4 : Below w3.heap.size w3 W4 := by rw [← hW4]; exact (Below.refl _ _).alloc (Nat.le_refl _) _
    have k4 : W4.heap[w3.heap.size]? = some (.cells #[.pointer (some ⟨X, 0, none⟩), .int .u64 seq, .pointer none] 124 (0, 0)) := by rw [← hW4]; exact World.alloc_heap_new w3 _
    have hVi : Vi W4 w3.heap.size X s seq none (fun b => b = w3.heap.size ∨ F0 b ∨ (none : Option Nat) = some b) := ⟨none, F0, _, none, N0.it.below b4, fun h => by have := N0.it.lt h; omega, k4, ⟨rfl, rfl⟩, fun b => Iff.rfl⟩
    have HZ := Lib.hid (show (∀ j, j < L.length → risesB (L.getD j []) = true) ∧ s.L = L ∧ Vi W4 w3.heap.size X s seq none (fun b => b = w3.heap.size ∨ F0 b ∨ (none : Option Nat) = some b) ∧ (∀ b, (b = w3.heap.size ∨ F0 b ∨ (none : Option Nat) = some b) → w.heap.size ≤ b) ∧ Below w.heap.size w W4 from
      ⟨hris, hL, hVi, (fun b h => by
        rcases h with h | h | h
        · have := N0.bel.size; omega
        · exact N0.lo b h
        · cases h), N0.bel.trans (b4.mono N0.bel.size)⟩)
    clear hris hL hM N0 hF0 b4 k4 hVi HN
    go_wp2_with (first | rw [hW4])
    go_ret2
    exact .inr ⟨w3.heap.size, X, s, _, rfl, HZ.out⟩
end Go.Proofs.Ytehoojmalhloeaa.CM
