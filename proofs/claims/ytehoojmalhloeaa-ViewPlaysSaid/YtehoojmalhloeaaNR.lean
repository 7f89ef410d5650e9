/- merge: the place that a key is sought at. -/
import Derived.Test.YtehoojmalhloeaaNQ
import Derived.Test.YtehoojmalhloeaaNJ
namespace Go.Proofs.Ytehoojmalhloeaa.CM
open Go.RowKit Go.Proofs.YtehoojmalhloeaaW.PrintWords
set_option linter.unusedVariables false
set_option linter.unusedSimpArgs false
set_option maxRecDepth 100000

theorem lowK_lt : ∀ (xs : List PC.S44) (a : PC.S42) (j : Nat), j < lowK xs a → cmpK (xs.getD j PC.z44).f0 a < 0
  | [], a, j, h => by simp [lowK] at h
  | x :: t, a, j, h => by
    unfold lowK at h
    by_cases hx : cmpK x.f0 a < 0
    · rw [List.takeWhile_cons_of_pos (by simpa using hx), List.length_cons] at h
      rcases j with _ | j
      · simpa using hx
      · have := lowK_lt t a j (by unfold lowK; omega)
        simpa using this
    · rw [List.takeWhile_cons_of_neg (by simpa using hx)] at h
      simp at h
theorem lowK_not : ∀ (xs : List PC.S44) (a : PC.S42), lowK xs a < xs.length → ¬ cmpK (xs.getD (lowK xs a) PC.z44).f0 a < 0
  | [], a, h => by simp at h
  | x :: t, a, h => by
    by_cases hx : cmpK x.f0 a < 0
    · have e : lowK (x :: t) a = lowK t a + 1 := by
        unfold lowK
        rw [List.takeWhile_cons_of_pos (by simpa using hx), List.length_cons]
      rw [e] at h ⊢
      have := lowK_not t a (by simpa using h)
      simpa using this
    · have e : lowK (x :: t) a = 0 := by
        unfold lowK
        rw [List.takeWhile_cons_of_neg (by simpa using hx)]
        rfl
      rw [e]
      simpa using hx
theorem took {s : Sh} {i : Nat} : ∀ p j, j < ats s p i → ∃ p', p' < p ∧ who s p' = some i ∧ ats s p' i = j
  | 0, j, h => absurd h (Nat.not_lt_zero _)
  | p + 1, j, h => by
    by_cases h1 : j < ats s p i
    · obtain ⟨p', h2, h3⟩ := took p j h1
      exact ⟨p', by omega, h3⟩
    · cases hw : who s p with
      | none => rw [ats_none hw] at h; omega
      | some k =>
        rw [ats_some hw] at h
        by_cases e : i = k
        · subst e
          rw [upd_same] at h
          exact ⟨p, by omega, hw, by omega⟩
        · rw [upd_ne e] at h
          omega
theorem itm_mono {s : Sh} (hr : Ris s) {a : PC.S42} {p q : Nat} (hpq : p ≤ q) (hq : q < s.N) (h : cmpK (itm s q).f0 a < 0) : cmpK (itm s p).f0 a < 0 := by
  rcases Nat.lt_or_eq_of_le hpq with h1 | rfl
  · obtain ⟨i, hi⟩ := who_lt (show p < s.N by omega)
    obtain ⟨j, hj⟩ := who_lt hq
    rw [itm_some hj] at h
    rw [itm_some hi]
    have h' : R (s.e j (ats s q j)) ⟨a, ⟨#[]⟩⟩ := h
    show R (s.e i (ats s p i)) ⟨a, ⟨#[]⟩⟩
    rcases itm_lt hr hi hj h1 with l | ⟨l, _⟩
    · exact R_trans l h'
    · exact E_R l h'
  · exact h
/-- How many entries are ahead of a key. -/
def cntQ (s : Sh) (a : PC.S42) : Nat := lowK (upto s s.N) a
theorem cntQ_le (s : Sh) (a : PC.S42) : cntQ s a ≤ s.N := by have := lowK_le (upto s s.N) a; rw [upto_len] at this; exact this
theorem seek_ats {s : Sh} (hr : Ris s) (a : PC.S42) : (fun i => lowK (s.l i) a) = ats s (cntQ s a) := by
  have hq := cntQ_le s a
  have hlt : ∀ p, p < cntQ s a → cmpK (itm s p).f0 a < 0 := fun p hp => by
    have := lowK_lt (upto s s.N) a p hp
    rwa [upto_get s (by omega)] at this
  have hge : ∀ p, cntQ s a ≤ p → p < s.N → ¬ cmpK (itm s p).f0 a < 0 := fun p hp hpN h => by
    have h1 := itm_mono hr hp hpN h
    have h2 := lowK_not (upto s s.N) a (by rw [upto_len]; exact Nat.lt_of_le_of_lt hp hpN)
    rw [upto_get s (show lowK (upto s s.N) a < s.N from Nat.lt_of_le_of_lt hp hpN)] at h2
    exact h2 h1
  funext i
  refine lowK_of _ a _ (ats_le s _ i) (fun j hj => ?_) (fun hj => ?_)
  · obtain ⟨p, h1, h2, h3⟩ := took _ j hj
    have := hlt p h1
    rw [itm_some h2, h3] at this
    exact this
  · rw [← ats_end s i] at hj
    obtain ⟨p, h1, h2, h3⟩ := took _ _ hj
    have hp : cntQ s a ≤ p := by
      apply Classical.byContradiction
      intro hn
      have h4 := ats_mono s (show p + 1 ≤ cntQ s a by omega) i
      rw [ats_some h2, upd_same] at h4
      omega
    have := hge p hp h1
    rw [itm_some h2, h3] at this
    exact this

theorem C_of_ents {w : World} {A : Option Addr} {xs : List PC.S44} (h : Ents w A xs) (hl : xs.length ≤ 9223372036854775807) : Kd.C PC.k44 w A xs.length xs := by
  refine ⟨rfl, hl, fun hp => ?_⟩
  obtain ⟨ad, e, _⟩ := h 0 hp
  refine ⟨ad, e, fun j p hj => ?_⟩
  obtain ⟨hjl, hjp⟩ := List.getElem?_eq_some_iff.1 hj
  obtain ⟨ad', e', x0, x1, x2, x3⟩ := h j hjl
  rw [e] at e'
  obtain rfl : ad = ad' := by injection e'
  have hx : xs.getD j PC.z44 = p := by rw [List.getD_eq_getElem?_getD, hj]; rfl
  rw [hx] at x0 x1 x2 x3
  refine ⟨_, rfl, PC.k44_mk w p, fun i u hu => ?_⟩
  show w.cell? (ad.add (j * 4 + i)) = some u
  have hi4 : i < 4 := (List.getElem?_eq_some_iff.1 hu).1
  rcases i with _ | _ | _ | _ | i
  · obtain rfl : _ = u := by simpa using hu
    exact x0
  · obtain rfl : _ = u := by simpa using hu
    rw [add_field _ _ 1 (by omega)]; exact x1
  · obtain rfl : _ = u := by simpa using hu
    rw [add_field _ _ 2 (by omega)]; exact x2
  · obtain rfl : _ = u := by simpa using hu
    rw [add_field _ _ 3 (by omega)]; exact x3
  · omega
set_option maxHeartbeats 4000000 in
theorem place78 (s : Sh) (at_ : Nat → Nat) (i B : Nat) (a : PC.S42) (w : World) (hi : i < s.n) (hc : Cs w s at_) (hf : Fix s) (hr : Ris s) (hk : w.heap[B]? = some (obj3 a)) :
    Calls Try.prog 78 #[.pointer (some ⟨s.C i, 0, none⟩), .pointer (some ⟨B, 0, none⟩)] w fun e w' => e = .returned (.int .i64 (lowK (s.l i) a : Nat)) ∧ Below w.heap.size w w' := by
  have hbd : Below w.heap.size w w.drew := (Below.refl _ w).drew
  have kd := blk_below hk hbd
  obtain ⟨c0, c1, c2⟩ := obj3_cells kd
  have g := (hc.cell hi).2.2.1
  have gd := cell_up' g hbd
  have hC := C_of_ents (hc.ents i hi) (by have := hf.l i hi; omega)
  have HS := Lib.hid (search_w (s.A i) (s.cp i) (s.l i) a w.drew (keepC hC (Nat.le_refl _) hbd) (hf.l i hi) (hr i hi))
  unfold kv42 at HS
  have HX := Lib.hid (And.intro gd (And.intro c0 (And.intro c1 c2)))
  obtain ⟨Ai, hAi⟩ : ∃ x, s.A i = x := ⟨_, rfl⟩
  obtain ⟨li, hli⟩ : ∃ x, (s.l i).length = x := ⟨_, rfl⟩
  obtain ⟨cp, hcp⟩ : ∃ x, s.cp i = x := ⟨_, rfl⟩
  obtain ⟨lk, hlk⟩ : ∃ x, lowK (s.l i) a = x := ⟨_, rfl⟩
  rw [hAi, hli, hcp] at HX HS
  rw [hlk] at HS ⊢
  clear hbd kd c0 c1 c2 g gd hC hAi hli hcp hlk
  go_enter Try.func78, Try.ntmps78
  go_wp2_with fail
  go_region_held3 (fun w' => w'.cell? ⟨s.C i, 0, none⟩ = some (.slice Ai li cp) ∧ w'.cell? ⟨B, 0, none⟩ = some (.string a.f0) ∧ w'.cell? ⟨B, 1, none⟩ = some (.int .u64 a.f1) ∧ w'.cell? ⟨B, 2, none⟩ = some (.int .i64 a.f2)) (first | exact HX.out | exact HB2.out) (first | (go_at_call 79; refine Calls.mono HS.out ?_; rintro e w1 ⟨bb, rfl, hb1⟩; have HB2 := Lib.hid (And.intro (cell_up' HX.out.1 hb1) (And.intro (cell_up' HX.out.2.1 hb1) (And.intro (cell_up' HX.out.2.2.1 hb1) (cell_up' HX.out.2.2.2 hb1)))); have HB1 := Lib.hid ((Below.refl w.heap.size w).drew.trans hb1); clear hb1))
  go_wp2_with fail
  go_ret
  exact ⟨rfl, HB1.out⟩
theorem enters78 : ∀ args W, (callFunc 78 args).run Try.prog W = .ok (.enter 78 args) W := fun _ _ => by kernel_rfl
set_option maxHeartbeats 4000000 in
theorem seek_q {w : World} {X : Nat} {s : Sh} {q : Option Nat} {F : Nat → Prop} (h : It w X s q F) (a : PC.S42) :
    Calls Try.prog 47 #[.pointer (some ⟨X, 0, none⟩), kv42 a] w (fun e w' => e = .returned (.tuple #[]) ∧ Goes w X s F (plc s (cntQ s a)) w') := by
  unfold kv42
  obtain ⟨W0, hW0⟩ : ∃ W0, w.alloc (.cells #[.string a.f0, .int .u64 a.f1, .int .i64 a.f2] 42) = W0 := ⟨_, rfl⟩
  have b0 : Below w.heap.size w W0 := by rw [← hW0]; exact (Below.refl _ _).alloc (Nat.le_refl _) _
  have s0 : w.heap.size < W0.heap.size := by rw [← hW0]; simp
  have k0 : W0.heap[w.heap.size]? = some (obj3 a) := by rw [← hW0]; exact World.alloc_heap_new w _
  have hlt := fun b => h.lt (b := b)
  have h0 := h.below b0
  obtain ⟨lv, gv2, at_, hb, hx, hr, hF, hl, hq⟩ := h0
  have hS := set_w X s at_ (fun i => lowK (s.l i) a) lv gv2 _ 78 #[.pointer (some ⟨w.heap.size, 0, none⟩)] W0 hb hx (fun i W at' hi hf hc =>
    place78 s at' i w.heap.size a W hi hc hx hr ((hf.block _ s0 (fun ho => by have := hlt _ ((hF _).2 ho.foot); omega)).trans k0)) enters78
  rw [seek_ats hr] at hS
  have HS := Lib.hid (hS.mono (fun e w' ⟨he, hse⟩ => (⟨he, SetEnd.goes hse (cntQ_le s a) hx hr hF hl⟩ : e = Ending.returned (.tuple #[]) ∧ Goes W0 X s F (plc s (cntQ s a)) w')))
  have H0 := Lib.hid (And.intro b0 s0)
  clear hb hx hr hF hl hq hS b0 s0 k0 hlt
  go_enter Try.func47, Try.ntmps47
  go_wp2_with (first | rw [hW0] | (go_at_call 71; refine HS.out.mono ?_; rintro e w1 ⟨rfl, t⟩))
  go_end0
  refine ⟨rfl, ?_⟩
  obtain ⟨F', h1, h2, h3⟩ := t
  refine ⟨F', h1, (Fr.of_below (O := F) H0.out.1).trans h2 (fun _ _ h => h), fun b hb => ?_⟩
  rcases h3 b hb with h4 | h4
  · exact .inl h4
  · have := H0.out.2; exact .inr ⟨by omega, h4.2⟩
end Go.Proofs.Ytehoojmalhloeaa.CM
