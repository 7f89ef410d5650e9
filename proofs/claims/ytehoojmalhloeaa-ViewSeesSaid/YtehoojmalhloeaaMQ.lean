/- merge: New. -/
import Derived.Test.YtehoojmalhloeaaNB
import Derived.Deep.RegionLaw
import Derived.Deep.AppendLies
namespace Go.Proofs.Ytehoojmalhloeaa.CM
open Go.RowKit Go.Proofs.YtehoojmalhloeaaW.PrintWords
set_option linter.unusedVariables false
set_option linter.unusedSimpArgs false
set_option maxRecDepth 100000

theorem und104 : Try.prog.underlying 104 = some (.slice 108) := by kernel_rfl
theorem info108 : (Try.prog.info? 108).map (fun i => (i.zero, i.size, i.bytes)) = some (some (.pointer none), 1, 8) := by kernel_rfl
theorem run_appendP {W : World} {base n : Nat} {v : Value} {xs : List Value} {B C : Addr} (hR : W.ownsRow base 108 1 v n xs) (hB : W.cell? B = some (.pointer (some C))) (hl : (n + 1) * 8 ≤ 140737488355328) (hbase : base ≤ W.heap.size) :
    ∃ g cap w1, (Builtin.append_ #[104, 104] 104 #[v, .slice (some B) 1 1]).run Try.prog W = .ok (.slice (some ⟨g, 0, none⟩) (n + 1) cap) w1 ∧ w1.ownsRow base 108 1 (.slice (some ⟨g, 0, none⟩) (n + 1) cap) (n + 1) (xs ++ [.pointer (some C)]) ∧ W.grownBy w1 v.ownBlock ∧ (v.ownBlock = some g ∨ g = W.heap.size) := by
  obtain ⟨i0, hi, hzz⟩ := Option.map_eq_some_iff.1 info108
  simp only [Prod.mk.injEq] at hzz
  obtain ⟨hz0, hz1, hz2⟩ := hzz
  obtain ⟨v1, w1, hrun, h2, hg, _, hat⟩ := run_append_own_at (P := Try.prog) W base 104 104 108 i0 _ 1 8 und104 hi hz0 hz1 hz2 rfl (by omega) v n xs hR B 1 1 [.pointer (some C)] rfl
    (fun j u hj => by
      rcases j with _ | j
      · obtain rfl : Value.pointer (some C) = u := by simpa using hj
        have e : B.add 0 = B := by simp [Addr.add]
        rw [e]; exact hB
      · simp at hj) (fun u hu => by rw [List.mem_singleton.1 hu]; rfl) (by simp only [maxLen]; omega) hl hbase
  rcases h2.2 with ⟨rfl, h0⟩ | ⟨g, cap, cur, rfl, _⟩
  · omega
  · refine ⟨g, cap, w1, hrun, h2, hg, ?_⟩
    rcases hat with h | h
    · exact .inl h.symm
    · refine .inr ?_
      simpa [Value.ownBlock] using h

def ptrs (s : Sh) : List Value := (List.range s.n).map (fun j => Value.pointer (some ⟨s.C j, 0, none⟩))
/-- An iterator that was just made (of the first lists): where it lies, and that all is new. -/
structure Mk (w0 w : World) (X : Nat) (s : Sh) : Prop where
  bk : Bk w X s (fun _ => 0) (.slice none 0 0) (.slice none 0 0) none
  fx : Fix s
  own : w.ownsRow w0.heap.size 108 1 (.slice s.ga s.n s.gc) s.n (ptrs s)
  bel : Below w0.heap.size w0 w
  nx : w0.heap.size ≤ X
  nc : ∀ i, i < s.n → w0.heap.size ≤ s.C i
  len : ∀ i, i < s.n → (s.l i).length ≤ s.cp i
  na : ∀ i, i < s.n → 0 < (s.l i).length → ∀ a, s.A i = some a → (Value.slice s.ga s.n s.gc).ownBlock ≠ some a.block
  nA : ∀ i, i < s.n → 0 < (s.l i).length → ∀ a, s.A i = some a → w0.heap.size ≤ a.block
theorem Mk.below {w0 w w1 : World} {X : Nat} {s : Sh} (h : Mk w0 w X s) (hb : Below w.heap.size w w1) : Mk w0 w1 X s :=
  ⟨h.bk.below hb, h.fx, own_move h.own (fun k hk => hb.block k (own_lt h.own k hk)), h.bel.trans (hb.mono h.bel.size), h.nx, h.nc, h.len, h.na, h.nA⟩
theorem Ents.lt {w : World} {A : Option Addr} {xs : List PC.S44} (h : Ents w A xs) (h0 : 0 < xs.length) {a : Addr} (e : A = some a) : a.block < w.heap.size := by
  obtain ⟨ad, e1, h1⟩ := h 0 h0
  have hl := World.block_lt_of_cell? _ _ h1.1
  have hl : ad.block < w.heap.size := by unfold Addr.add at hl; split at hl <;> exact hl
  rw [e] at e1
  obtain rfl : a = ad := by injection e1
  exact hl

theorem Mk.push {w0 wb w : World} {X : Nat} {s : Sh} (hb : Mk w0 wb X s) (hbw : Below wb.heap.size wb w) (l : List PC.S44) (A1 : Option Addr) (c1 : Nat) (hE : Ents w A1 l) (hc : l.length ≤ c1) (hA : ∀ a, A1 = some a → wb.heap.size ≤ a.block) (hl : l.length ≤ 2932031007317) (hn : s.n < 2932031007317) :
    ∃ g cap w6, (Builtin.append_ #[104, 104] 104 #[.slice s.ga s.n s.gc, .slice (some ⟨w.heap.size + 1, 0, none⟩) 1 1]).run Try.prog ((w.alloc (.cells #[.slice A1 l.length c1, .int .i64 0, .int .i64 (s.n : Nat)] 112)).alloc (.cells #[.pointer (some ⟨w.heap.size, 0, none⟩)] 108)) = .ok (.slice (some ⟨g, 0, none⟩) (s.n + 1) cap) w6 ∧
      w6.cell? ⟨X, 0, none⟩ = some (.slice s.ga s.n s.gc) ∧ w6.frozen? ⟨X, 0, none⟩ = false ∧ ∃ s', s'.L = s.L ++ [l] ∧ Mk w0 (w6.setCell ⟨X, 0, none⟩ (.slice (some ⟨g, 0, none⟩) (s.n + 1) cap)) X s' := by
  have h := hb.below hbw
  obtain ⟨W4, hW4⟩ : ∃ W4, w.alloc (.cells #[.slice A1 l.length c1, .int .i64 0, .int .i64 (s.n : Nat)] 112) = W4 := ⟨_, rfl⟩
  have b4 : Below w.heap.size w W4 := by rw [← hW4]; exact (Below.refl _ _).alloc (Nat.le_refl _) _
  have s4 : W4.heap.size = w.heap.size + 1 := by rw [← hW4]; simp
  have n4 : W4.heap[w.heap.size]? = some (.cells #[.slice A1 l.length c1, .int .i64 0, .int .i64 (s.n : Nat)] 112 (0, 0)) := by rw [← hW4]; exact World.alloc_heap_new w _
  obtain ⟨W5, hW5⟩ : ∃ W5, W4.alloc (.cells #[.pointer (some ⟨w.heap.size, 0, none⟩)] 108) = W5 := ⟨_, rfl⟩
  have b5 : Below W4.heap.size W4 W5 := by rw [← hW5]; exact (Below.refl _ _).alloc (Nat.le_refl _) _
  have s5 : W5.heap.size = w.heap.size + 2 := by rw [← hW5]; simp [s4]
  have n5 : W5.cell? ⟨w.heap.size + 1, 0, none⟩ = some (.pointer (some ⟨w.heap.size, 0, none⟩)) := by rw [← hW5]; exact cell_top s4.symm rfl
  have b45 : Below w.heap.size w W5 := b4.trans (b5.mono b4.size)
  have h5 := h.below b45
  obtain ⟨g, cap, w6, hrun, hown, hg, hat⟩ := run_appendP h5.own n5 (by omega) (by have := h5.bel.size; omega)
  rw [hW4, hW5]
  have hgl : ∀ k, (Value.slice s.ga s.n s.gc).ownBlock = some k → k < wb.heap.size := fun k e => own_lt hb.own k e
  have hXb : X < wb.heap.size := hb.bk.lt
  have hsz := hbw.size
  have oldb : ∀ b, b < W5.heap.size → (Value.slice s.ga s.n s.gc).ownBlock ≠ some b → w6.heap[b]? = W5.heap[b]? := fun b h1 h2 => hg.block b h1 (fun e => h2 e.symm)
  have hgX : (Value.slice s.ga s.n s.gc).ownBlock ≠ some X := fun e => own_ne h5.own h5.bk.x (by decide) e.symm
  have hgC : ∀ j, j < s.n → (Value.slice s.ga s.n s.gc).ownBlock ≠ some (s.C j) := fun j hj e => own_ne h5.own (h5.bk.cs.cur j hj) (by decide) e.symm
  have x6 : w6.heap[X]? = some (.cells #[.slice s.ga s.n s.gc, .slice none 0 0, .slice none 0 0, .pointer none] 110 (0, 0)) := (oldb X (by omega) hgX).trans h5.bk.x
  have hgne : g ≠ X := fun e => by
    rcases hat with h1 | h1
    · exact hgX (e ▸ h1)
    · omega
  have hCb : ∀ j, j < s.n → s.C j < wb.heap.size := fun j hj => (Array.getElem?_eq_some_iff.1 (hb.bk.cs.cur j hj)).1
  have hl1 : ∀ j, j < s.n → (s.L ++ [l]).getD j [] = s.l j := fun j hj => by simp [Sh.l, List.getElem?_append_left hj]
  have hl2 : (s.L ++ [l]).getD s.n [] = l := by simp [Sh.n]
  have hnn : (s.L ++ [l]).length = s.n + 1 := by simp [Sh.n]
  have keep7 : ∀ b, b ≠ X → (w6.setCell ⟨X, 0, none⟩ (.slice (some ⟨g, 0, none⟩) (s.n + 1) cap)).heap[b]? = w6.heap[b]? := fun b hb => heap_setCell_other _ _ _ _ hb
  have hrow : ∃ cur, w6.heap[g]? = some (.cells cur 108 (0, 0)) ∧ cur.toList.take (s.n + 1) = ptrs s ++ [.pointer (some ⟨w.heap.size, 0, none⟩)] := by
    rcases hown.2 with ⟨e, _⟩ | ⟨g', cap', cur, e, _, h2, _, _, _, h3⟩
    · cases e
    · cases e
      exact ⟨cur, h2, by rw [Nat.mul_one] at h3; exact h3⟩
  obtain ⟨cur, hc1, hc2⟩ := hrow
  have hpl : (ptrs s).length = s.n := by simp [ptrs]
  have gcell : ∀ j, j < s.n + 1 → (w6.setCell ⟨X, 0, none⟩ (.slice (some ⟨g, 0, none⟩) (s.n + 1) cap)).cell? ⟨g, j, none⟩ = some (.pointer (some ⟨if j = s.n then w.heap.size else s.C j, 0, none⟩)) := fun j hj => by
    rw [World.cell?_of_block (keep7 g hgne)]
    have e1 : cur[j]? = (ptrs s ++ [Value.pointer (some ⟨w.heap.size, 0, none⟩)])[j]? := by rw [← hc2, List.getElem?_take, if_pos hj, Array.getElem?_toList]
    have e2 : w6.cell? ⟨g, j, none⟩ = cur[j]? := by simp [World.cell?, hc1]
    rw [e2, e1]
    by_cases e : j = s.n
    · subst e
      rw [if_pos rfl, List.getElem?_append_right (by rw [hpl]; exact Nat.le_refl _), hpl, Nat.sub_self]
      rfl
    · rw [if_neg e, List.getElem?_append_left (by rw [hpl]; omega)]
      simp [ptrs, show j < s.n by omega]
  have ccell : ∀ j, j < s.n → (w6.setCell ⟨X, 0, none⟩ (.slice (some ⟨g, 0, none⟩) (s.n + 1) cap)).heap[s.C j]? = some (.cells #[.slice (s.A j) (s.l j).length (s.cp j), .int .i64 ((0 : Nat) : Int), .int .i64 j] 112 (0, 0)) := fun j hj => by
    rw [keep7 _ (fun e => h5.bk.off.c j hj e.symm), oldb _ (by have := hCb j hj; omega) (hgC j hj)]
    exact h5.bk.cs.cur j hj
  have hgw : (Value.slice s.ga s.n s.gc).ownBlock ≠ some w.heap.size := fun e => by have := hgl _ e; omega
  have ncell : (w6.setCell ⟨X, 0, none⟩ (.slice (some ⟨g, 0, none⟩) (s.n + 1) cap)).heap[w.heap.size]? = some (.cells #[.slice A1 l.length c1, .int .i64 0, .int .i64 (s.n : Nat)] 112 (0, 0)) := by
    rw [keep7 _ (by omega), oldb _ (by omega) hgw, b5.block _ (by omega)]
    exact n4
  have ent1 : ∀ j, j < s.n → Ents (w6.setCell ⟨X, 0, none⟩ (.slice (some ⟨g, 0, none⟩) (s.n + 1) cap)) (s.A j) (s.l j) := fun j hj => by
    rcases Nat.eq_zero_or_pos (s.l j).length with h0 | h0
    · intro k hk; omega
    · exact (h5.bk.cs.ents j hj).moved (fun a ea => by
        rw [keep7 _ (fun e => h5.bk.off.a j hj h0 a ea e.symm)]
        exact oldb _ ((h5.bk.cs.ents j hj).lt h0 ea) (h5.na j hj h0 a ea))
  have hE5 := hE
  have a1lt : 0 < l.length → ∀ a, A1 = some a → a.block < w.heap.size := fun h0 a ea => hE.lt h0 ea
  have ent2 : Ents (w6.setCell ⟨X, 0, none⟩ (.slice (some ⟨g, 0, none⟩) (s.n + 1) cap)) A1 l := by
    rcases Nat.eq_zero_or_pos l.length with h0 | h0
    · intro k hk; omega
    · exact hE.moved (fun a ea => by
        have h1 := a1lt h0 a ea
        have h2 := hA a ea
        rw [keep7 _ (by omega), oldb _ (by omega) (fun e => by have := hgl _ e; omega)]
        exact b45.block _ h1)
  have hAold : ∀ j, j < s.n → 0 < (s.l j).length → ∀ a, s.A j = some a → a.block < wb.heap.size := fun j hj h0 a ea => (hb.bk.cs.ents j hj).lt h0 ea
  have hgcase : g < wb.heap.size ∧ (Value.slice s.ga s.n s.gc).ownBlock = some g ∨ g = w.heap.size + 2 := by
    rcases hat with h1 | h1
    · exact .inl ⟨hgl g h1, h1⟩
    · exact .inr (by omega)
  obtain ⟨s', hL, hG, hga, hgc, hC, hAA, hcp⟩ : ∃ s' : Sh, s'.L = s.L ++ [l] ∧ s'.G = g ∧ s'.ga = some ⟨g, 0, none⟩ ∧ s'.gc = cap ∧ (∀ j, s'.C j = if j = s.n then w.heap.size else s.C j) ∧ (∀ j, s'.A j = if j = s.n then A1 else s.A j) ∧ (∀ j, s'.cp j = if j = s.n then c1 else s.cp j) :=
    ⟨⟨s.L ++ [l], g, some ⟨g, 0, none⟩, cap, fun j => if j = s.n then w.heap.size else s.C j, fun j => if j = s.n then A1 else s.A j, fun j => if j = s.n then c1 else s.cp j⟩, rfl, rfl, rfl, rfl, fun _ => rfl, fun _ => rfl, fun _ => rfl⟩
  have en : s'.n = s.n + 1 := by show s'.L.length = _; rw [hL, hnn]
  have el1 : ∀ j, j < s.n → s'.l j = s.l j := fun j hj => by show s'.L.getD j [] = _; rw [hL]; exact hl1 j hj
  have el2 : s'.l s.n = l := by show s'.L.getD s.n [] = _; rw [hL]; exact hl2
  have eC1 : ∀ j, j < s.n → s'.C j = s.C j := fun j hj => by rw [hC, if_neg (by omega)]
  have eC2 : s'.C s.n = w.heap.size := by rw [hC, if_pos rfl]
  have eA1 : ∀ j, j < s.n → s'.A j = s.A j := fun j hj => by rw [hAA, if_neg (by omega)]
  have eA2 : s'.A s.n = A1 := by rw [hAA, if_pos rfl]
  have ec1 : ∀ j, j < s.n → s'.cp j = s.cp j := fun j hj => by rw [hcp, if_neg (by omega)]
  have ec2 : s'.cp s.n = c1 := by rw [hcp, if_pos rfl]
  have cas : ∀ j, j < s'.n → j < s.n ∨ j = s.n := fun j hj => by omega
  refine ⟨g, cap, w6, hrun, by simp [World.cell?, x6], by simp [World.frozen?, x6], s', hL, ?_⟩
  have hoffX : Off s' X := by
    refine ⟨fun _ => fun e => hgne (by rw [e, hG]), fun j hj => ?_, fun j hj h0 a ea => ?_⟩
    · rcases cas j hj with h1 | rfl
      · rw [eC1 j h1]; exact h5.bk.off.c j h1
      · rw [eC2]; omega
    · rcases cas j hj with h1 | rfl
      · rw [el1 j h1] at h0; rw [eA1 j h1] at ea; exact h5.bk.off.a j h1 h0 a ea
      · rw [eA2] at ea; have := hA a ea; omega
  have hfix : Fix s' := by
    refine ⟨by omega, fun j hj => ?_, fun i j hi hj he => ?_, fun j hj => ⟨?_, fun k hk h0 a ea => ?_⟩⟩
    · rcases cas j hj with h1 | rfl
      · rw [el1 j h1]; exact h.fx.l j h1
      · rw [el2]; exact hl
    · rcases cas i hi with h1 | rfl <;> rcases cas j hj with h2 | rfl
      · rw [eC1 i h1, eC1 j h2] at he; exact h.fx.inj i j h1 h2 he
      · rw [eC1 i h1, eC2] at he; have := hCb i h1; omega
      · rw [eC1 j h2, eC2] at he; have := hCb j h2; omega
      · rfl
    · rw [hG]
      rcases cas j hj with h1 | rfl
      · rw [eC1 j h1]
        intro e
        rcases hgcase with ⟨_, h2⟩ | h2
        · exact hgC j h1 (by rw [h2, e])
        · have := hCb j h1; omega
      · rw [eC2]; rcases hgcase with ⟨h2, _⟩ | h2 <;> omega
    · rcases cas j hj with h1 | rfl <;> rcases cas k hk with h2 | rfl
      · rw [el1 k h2] at h0; rw [eA1 k h2] at ea; rw [eC1 j h1]; exact (h.fx.offC j h1).2 k h2 h0 a ea
      · rw [eA2] at ea; rw [eC1 j h1]; have := hA a ea; have := hCb j h1; omega
      · rw [el1 k h2] at h0; rw [eA1 k h2] at ea; rw [eC2]; have := hAold k h2 h0 a ea; omega
      · rw [el2] at h0; rw [eA2] at ea; rw [eC2]; have := a1lt h0 a ea; omega
  refine ⟨⟨?_, ⟨fun j hj => ⟨by rw [hga, hG], ?_⟩, fun j hj => ?_, fun j hj => ?_⟩, hoffX⟩, hfix, ?_, ?_, h5.nx, fun j hj => ?_, fun j hj => ?_, fun j hj h0 a ea => ?_, fun j hj h0 a ea => ?_⟩
  · rw [heap_setCell_same w6 X 0 _ 110 _ x6, hga, en, hgc]
    rfl
  · rw [hG, hC]
    exact gcell j (by omega)
  · rcases cas j hj with h1 | rfl
    · rw [eC1 j h1, eA1 j h1, el1 j h1, ec1 j h1]; exact ccell j h1
    · rw [eC2, eA2, el2, ec2]; exact ncell
  · rcases cas j hj with h1 | rfl
    · rw [eA1 j h1, el1 j h1]; exact ent1 j h1
    · rw [eA2, el2]; exact ent2
  · have e : ptrs s' = ptrs s ++ [.pointer (some ⟨w.heap.size, 0, none⟩)] := by
      unfold ptrs
      rw [en, List.range_succ, List.map_append]
      congr 1
      · exact List.map_congr_left (fun j hj => by rw [eC1 j (List.mem_range.1 hj)])
      · simp [eC2]
    rw [hga, en, hgc, e]
    exact own_move hown (fun k hk => keep7 k (fun e => by simp [Value.ownBlock] at hk; omega))
  · have f5 : Fr (fun b => b = X ∨ (Value.slice s.ga s.n s.gc).ownBlock = some b) W5 (w6.setCell ⟨X, 0, none⟩ (.slice (some ⟨g, 0, none⟩) (s.n + 1) cap)) :=
      (Fr.set (O := fun b => b = X ∨ (Value.slice s.ga s.n s.gc).ownBlock = some b) ⟨hg.os, hg.tape, hg.output, hg.size, fun b h1 h2 => oldb b h1 (fun e => h2 (.inr e))⟩ _ _ (.inl rfl))
    exact h5.bel.trans (f5.to_below h5.bel.size (fun b hb => by
      rcases hb with rfl | hb
      · exact h5.nx
      · exact own_base h5.own b hb))
  · rcases cas j hj with h1 | rfl
    · rw [eC1 j h1]; exact h5.nc j h1
    · rw [eC2]; have := h.bel.size; omega
  · rcases cas j hj with h1 | rfl
    · rw [el1 j h1, ec1 j h1]; exact h5.len j h1
    · rw [el2, ec2]; exact hc
  · rw [hga]
    intro e
    have e : g = a.block := by simpa [Value.ownBlock] using e
    rcases cas j hj with h1 | rfl
    · rw [el1 j h1] at h0; rw [eA1 j h1] at ea
      rcases hgcase with ⟨_, h2⟩ | h2
      · exact h5.na j h1 h0 a ea (by rw [h2, e])
      · have := hAold j h1 h0 a ea; omega
    · rw [eA2] at ea; rw [el2] at h0
      have h3 := hA a ea
      have h4 := a1lt h0 a ea
      rcases hgcase with ⟨h2, _⟩ | h2 <;> omega
  · rcases cas j hj with h1 | rfl
    · rw [el1 j h1] at h0; rw [eA1 j h1] at ea; exact h5.nA j h1 h0 a ea
    · rw [eA2] at ea; have := hA a ea; have := hb.bel.size; omega

end Go.Proofs.Ytehoojmalhloeaa.CM
