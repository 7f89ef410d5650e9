/- merge: its iterator: contracts of New, First, Last, Next, Prev, At; the heap of lists. -/
import Derived.Test.YtehoojmalhloeaaNB
import Derived.Deep.RegionLaw
import Derived.Deep.AppendLies
import Derived.Test.YtehoojmalhloeaaDJ

/-! merge: New. -/
namespace Go.Proofs.Ytehoojmalhloeaa.CM
open Go.RowKit Go.Proofs.YtehoojmalhloeaaW.PrintWords
set_option linter.unusedVariables false
set_option linter.unusedSimpArgs false
set_option maxRecDepth 100000

theorem und104 : Try.prog.underlying 104 = some (.slice 108) := by kernel_rfl
theorem info108 : (Try.prog.info? 108).map (fun i => (i.zero, i.size, i.bytes)) = some (some (.pointer none), 1, 8) := by kernel_rfl
theorem run_appendP {W : World} {base n : Nat} {v : Value} {xs : List Value} {B C : Addr} (hR : W.ownsRow base 108 1 v n xs) (hB : W.cell? B = some (.pointer (some C))) (hl : (n + 1) * 8 ≤ 140737488355328) (hbase : base ≤ W.heap.size) :
    ∃ g cap w1, (Builtin.append_ #[104, 104] 104 #[v, .slice (some B) 1 1]).run Try.prog W = .ok (.slice (some ⟨g, 0, none⟩) (n + 1) cap) w1 ∧ w1.ownsRow base 108 1 (.slice (some ⟨g, 0, none⟩) (n + 1) cap) (n + 1) (xs ++ [.pointer (some C)]) ∧ W.grownBy w1 v.ownBlock ∧ (v.ownBlock = some g ∨ g = W.heap.size) := by
  obtain ⟨i0, hi, hzz⟩ := Option.map_eq_some_iff.1 info108
  simp only [Prod.mk.injEq] at hzz
  obtain ⟨hz0, hz1, hz2⟩ := hzz
  obtain ⟨v1, w1, hrun, h2, hg, _, hat⟩ := run_append_own_at (P := Try.prog) W base 104 104 108 i0 _ 1 8 und104 hi hz0 hz1 hz2 rfl (by omega) v n xs hR B 1 1 [.pointer (some C)] rfl
    (fun j u hj => by
      rcases j with _ | j
      · obtain rfl : Value.pointer (some C) = u := by simpa using hj
        have e : B.add 0 = B := by simp [Addr.add]
        rw [e]; exact hB
      · simp at hj) (fun u hu => by rw [List.mem_singleton.1 hu]; rfl) (by simp only [maxLen]; omega) hl hbase
  rcases h2.2 with ⟨rfl, h0⟩ | ⟨g, cap, cur, rfl, _⟩
  · omega
  · refine ⟨g, cap, w1, hrun, h2, hg, ?_⟩
    rcases hat with h | h
    · exact .inl h.symm
    · refine .inr ?_
      simpa [Value.ownBlock] using h

def ptrs (s : Sh) : List Value := (List.range s.n).map (fun j => Value.pointer (some ⟨s.C j, 0, none⟩))
/-- An iterator that was just made (of the first lists): where it lies, and that all is new. -/
structure Mk (w0 w : World) (X : Nat) (s : Sh) : Prop where
  bk : Bk w X s (fun _ => 0) (.slice none 0 0) (.slice none 0 0) none
  fx : Fix s
  own : w.ownsRow w0.heap.size 108 1 (.slice s.ga s.n s.gc) s.n (ptrs s)
  bel : Below w0.heap.size w0 w
  nx : w0.heap.size ≤ X
  nc : ∀ i, i < s.n → w0.heap.size ≤ s.C i
  len : ∀ i, i < s.n → (s.l i).length ≤ s.cp i
  na : ∀ i, i < s.n → 0 < (s.l i).length → ∀ a, s.A i = some a → (Value.slice s.ga s.n s.gc).ownBlock ≠ some a.block
  nA : ∀ i, i < s.n → 0 < (s.l i).length → ∀ a, s.A i = some a → w0.heap.size ≤ a.block
theorem Mk.below {w0 w w1 : World} {X : Nat} {s : Sh} (h : Mk w0 w X s) (hb : Below w.heap.size w w1) : Mk w0 w1 X s :=
  ⟨h.bk.below hb, h.fx, own_move h.own (fun k hk => hb.block k (own_lt h.own k hk)), h.bel.trans (hb.mono h.bel.size), h.nx, h.nc, h.len, h.na, h.nA⟩
theorem Ents.lt {w : World} {A : Option Addr} {xs : List PC.S44} (h : Ents w A xs) (h0 : 0 < xs.length) {a : Addr} (e : A = some a) : a.block < w.heap.size := by
  obtain ⟨ad, e1, h1⟩ := h 0 h0
  have hl := World.block_lt_of_cell? _ _ h1.1
  have hl : ad.block < w.heap.size := by unfold Addr.add at hl; split at hl <;> exact hl
  rw [e] at e1
  obtain rfl : a = ad := by injection e1
  exact hl

theorem Mk.push {w0 wb w : World} {X : Nat} {s : Sh} (hb : Mk w0 wb X s) (hbw : Below wb.heap.size wb w) (l : List PC.S44) (A1 : Option Addr) (c1 : Nat) (hE : Ents w A1 l) (hc : l.length ≤ c1) (hA : ∀ a, A1 = some a → wb.heap.size ≤ a.block) (hl : l.length ≤ 2932031007317) (hn : s.n < 2932031007317) :
    ∃ g cap w6, (Builtin.append_ #[104, 104] 104 #[.slice s.ga s.n s.gc, .slice (some ⟨w.heap.size + 1, 0, none⟩) 1 1]).run Try.prog ((w.alloc (.cells #[.slice A1 l.length c1, .int .i64 0, .int .i64 (s.n : Nat)] 112)).alloc (.cells #[.pointer (some ⟨w.heap.size, 0, none⟩)] 108)) = .ok (.slice (some ⟨g, 0, none⟩) (s.n + 1) cap) w6 ∧
      w6.cell? ⟨X, 0, none⟩ = some (.slice s.ga s.n s.gc) ∧ w6.frozen? ⟨X, 0, none⟩ = false ∧ ∃ s', s'.L = s.L ++ [l] ∧ Mk w0 (w6.setCell ⟨X, 0, none⟩ (.slice (some ⟨g, 0, none⟩) (s.n + 1) cap)) X s' := by
  have h := hb.below hbw
  obtain ⟨W4, hW4⟩ : ∃ W4, w.alloc (.cells #[.slice A1 l.length c1, .int .i64 0, .int .i64 (s.n : Nat)] 112) = W4 := ⟨_, rfl⟩
  have b4 : Below w.heap.size w W4 := by rw [← hW4]; exact (Below.refl _ _).alloc (Nat.le_refl _) _
  have s4 : W4.heap.size = w.heap.size + 1 := by rw [← hW4]; simp
  have n4 : W4.heap[w.heap.size]? = some (.cells #[.slice A1 l.length c1, .int .i64 0, .int .i64 (s.n : Nat)] 112 (0, 0)) := by rw [← hW4]; exact World.alloc_heap_new w _
  obtain ⟨W5, hW5⟩ : ∃ W5, W4.alloc (.cells #[.pointer (some ⟨w.heap.size, 0, none⟩)] 108) = W5 := ⟨_, rfl⟩
  have b5 : Below W4.heap.size W4 W5 := by rw [← hW5]; exact (Below.refl _ _).alloc (Nat.le_refl _) _
  have s5 : W5.heap.size = w.heap.size + 2 := by rw [← hW5]; simp [s4]
  have n5 : W5.cell? ⟨w.heap.size + 1, 0, none⟩ = some (.pointer (some ⟨w.heap.size, 0, none⟩)) := by rw [← hW5]; exact cell_top s4.symm rfl
  have b45 : Below w.heap.size w W5 := b4.trans (b5.mono b4.size)
  have h5 := h.below b45
  obtain ⟨g, cap, w6, hrun, hown, hg, hat⟩ := run_appendP h5.own n5 (by omega) (by have := h5.bel.size; omega)
  rw [hW4, hW5]
  have hgl : ∀ k, (Value.slice s.ga s.n s.gc).ownBlock = some k → k < wb.heap.size := fun k e => own_lt hb.own k e
  have hXb : X < wb.heap.size := hb.bk.lt
  have hsz := hbw.size
  have oldb : ∀ b, b < W5.heap.size → (Value.slice s.ga s.n s.gc).ownBlock ≠ some b → w6.heap[b]? = W5.heap[b]? := fun b h1 h2 => hg.block b h1 (fun e => h2 e.symm)
  have hgX : (Value.slice s.ga s.n s.gc).ownBlock ≠ some X := fun e => own_ne h5.own h5.bk.x (by decide) e.symm
  have hgC : ∀ j, j < s.n → (Value.slice s.ga s.n s.gc).ownBlock ≠ some (s.C j) := fun j hj e => own_ne h5.own (h5.bk.cs.cur j hj) (by decide) e.symm
  have x6 : w6.heap[X]? = some (.cells #[.slice s.ga s.n s.gc, .slice none 0 0, .slice none 0 0, .pointer none] 110 (0, 0)) := (oldb X (by omega) hgX).trans h5.bk.x
  have hgne : g ≠ X := fun e => by
    rcases hat with h1 | h1
    · exact hgX (e ▸ h1)
    · omega
  have hCb : ∀ j, j < s.n → s.C j < wb.heap.size := fun j hj => (Array.getElem?_eq_some_iff.1 (hb.bk.cs.cur j hj)).1
  have hl1 : ∀ j, j < s.n → (s.L ++ [l]).getD j [] = s.l j := fun j hj => by simp [Sh.l, List.getElem?_append_left hj]
  have hl2 : (s.L ++ [l]).getD s.n [] = l := by simp [Sh.n]
  have hnn : (s.L ++ [l]).length = s.n + 1 := by simp [Sh.n]
  have keep7 : ∀ b, b ≠ X → (w6.setCell ⟨X, 0, none⟩ (.slice (some ⟨g, 0, none⟩) (s.n + 1) cap)).heap[b]? = w6.heap[b]? := fun b hb => heap_setCell_other _ _ _ _ hb
  have hrow : ∃ cur, w6.heap[g]? = some (.cells cur 108 (0, 0)) ∧ cur.toList.take (s.n + 1) = ptrs s ++ [.pointer (some ⟨w.heap.size, 0, none⟩)] := by
    rcases hown.2 with ⟨e, _⟩ | ⟨g', cap', cur, e, _, h2, _, _, _, h3⟩
    · cases e
    · cases e
      exact ⟨cur, h2, by rw [Nat.mul_one] at h3; exact h3⟩
  obtain ⟨cur, hc1, hc2⟩ := hrow
  have hpl : (ptrs s).length = s.n := by simp [ptrs]
  have gcell : ∀ j, j < s.n + 1 → (w6.setCell ⟨X, 0, none⟩ (.slice (some ⟨g, 0, none⟩) (s.n + 1) cap)).cell? ⟨g, j, none⟩ = some (.pointer (some ⟨if j = s.n then w.heap.size else s.C j, 0, none⟩)) := fun j hj => by
    rw [World.cell?_of_block (keep7 g hgne)]
    have e1 : cur[j]? = (ptrs s ++ [Value.pointer (some ⟨w.heap.size, 0, none⟩)])[j]? := by rw [← hc2, List.getElem?_take, if_pos hj, Array.getElem?_toList]
    have e2 : w6.cell? ⟨g, j, none⟩ = cur[j]? := by simp [World.cell?, hc1]
    rw [e2, e1]
    by_cases e : j = s.n
    · subst e
      rw [if_pos rfl, List.getElem?_append_right (by rw [hpl]; exact Nat.le_refl _), hpl, Nat.sub_self]
      rfl
    · rw [if_neg e, List.getElem?_append_left (by rw [hpl]; omega)]
      simp [ptrs, show j < s.n by omega]
  have ccell : ∀ j, j < s.n → (w6.setCell ⟨X, 0, none⟩ (.slice (some ⟨g, 0, none⟩) (s.n + 1) cap)).heap[s.C j]? = some (.cells #[.slice (s.A j) (s.l j).length (s.cp j), .int .i64 ((0 : Nat) : Int), .int .i64 j] 112 (0, 0)) := fun j hj => by
    rw [keep7 _ (fun e => h5.bk.off.c j hj e.symm), oldb _ (by have := hCb j hj; omega) (hgC j hj)]
    exact h5.bk.cs.cur j hj
  have hgw : (Value.slice s.ga s.n s.gc).ownBlock ≠ some w.heap.size := fun e => by have := hgl _ e; omega
  have ncell : (w6.setCell ⟨X, 0, none⟩ (.slice (some ⟨g, 0, none⟩) (s.n + 1) cap)).heap[w.heap.size]? = some (.cells #[.slice A1 l.length c1, .int .i64 0, .int .i64 (s.n : Nat)] 112 (0, 0)) := by
    rw [keep7 _ (by omega), oldb _ (by omega) hgw, b5.block _ (by omega)]
    exact n4
  have ent1 : ∀ j, j < s.n → Ents (w6.setCell ⟨X, 0, none⟩ (.slice (some ⟨g, 0, none⟩) (s.n + 1) cap)) (s.A j) (s.l j) := fun j hj => by
    rcases Nat.eq_zero_or_pos (s.l j).length with h0 | h0
    · intro k hk; omega
    · exact (h5.bk.cs.ents j hj).moved (fun a ea => by
        rw [keep7 _ (fun e => h5.bk.off.a j hj h0 a ea e.symm)]
        exact oldb _ ((h5.bk.cs.ents j hj).lt h0 ea) (h5.na j hj h0 a ea))
  have hE5 := hE
  have a1lt : 0 < l.length → ∀ a, A1 = some a → a.block < w.heap.size := fun h0 a ea => hE.lt h0 ea
  have ent2 : Ents (w6.setCell ⟨X, 0, none⟩ (.slice (some ⟨g, 0, none⟩) (s.n + 1) cap)) A1 l := by
    rcases Nat.eq_zero_or_pos l.length with h0 | h0
    · intro k hk; omega
    · exact hE.moved (fun a ea => by
        have h1 := a1lt h0 a ea
        have h2 := hA a ea
        rw [keep7 _ (by omega), oldb _ (by omega) (fun e => by have := hgl _ e; omega)]
        exact b45.block _ h1)
  have hAold : ∀ j, j < s.n → 0 < (s.l j).length → ∀ a, s.A j = some a → a.block < wb.heap.size := fun j hj h0 a ea => (hb.bk.cs.ents j hj).lt h0 ea
  have hgcase : g < wb.heap.size ∧ (Value.slice s.ga s.n s.gc).ownBlock = some g ∨ g = w.heap.size + 2 := by
    rcases hat with h1 | h1
    · exact .inl ⟨hgl g h1, h1⟩
    · exact .inr (by omega)
  obtain ⟨s', hL, hG, hga, hgc, hC, hAA, hcp⟩ : ∃ s' : Sh, s'.L = s.L ++ [l] ∧ s'.G = g ∧ s'.ga = some ⟨g, 0, none⟩ ∧ s'.gc = cap ∧ (∀ j, s'.C j = if j = s.n then w.heap.size else s.C j) ∧ (∀ j, s'.A j = if j = s.n then A1 else s.A j) ∧ (∀ j, s'.cp j = if j = s.n then c1 else s.cp j) :=
    ⟨⟨s.L ++ [l], g, some ⟨g, 0, none⟩, cap, fun j => if j = s.n then w.heap.size else s.C j, fun j => if j = s.n then A1 else s.A j, fun j => if j = s.n then c1 else s.cp j⟩, rfl, rfl, rfl, rfl, fun _ => rfl, fun _ => rfl, fun _ => rfl⟩
  have en : s'.n = s.n + 1 := by show s'.L.length = _; rw [hL, hnn]
  have el1 : ∀ j, j < s.n → s'.l j = s.l j := fun j hj => by show s'.L.getD j [] = _; rw [hL]; exact hl1 j hj
  have el2 : s'.l s.n = l := by show s'.L.getD s.n [] = _; rw [hL]; exact hl2
  have eC1 : ∀ j, j < s.n → s'.C j = s.C j := fun j hj => by rw [hC, if_neg (by omega)]
  have eC2 : s'.C s.n = w.heap.size := by rw [hC, if_pos rfl]
  have eA1 : ∀ j, j < s.n → s'.A j = s.A j := fun j hj => by rw [hAA, if_neg (by omega)]
  have eA2 : s'.A s.n = A1 := by rw [hAA, if_pos rfl]
  have ec1 : ∀ j, j < s.n → s'.cp j = s.cp j := fun j hj => by rw [hcp, if_neg (by omega)]
  have ec2 : s'.cp s.n = c1 := by rw [hcp, if_pos rfl]
  have cas : ∀ j, j < s'.n → j < s.n ∨ j = s.n := fun j hj => by omega
  refine ⟨g, cap, w6, hrun, by simp [World.cell?, x6], by simp [World.frozen?, x6], s', hL, ?_⟩
  have hoffX : Off s' X := by
    refine ⟨fun _ => fun e => hgne (by rw [e, hG]), fun j hj => ?_, fun j hj h0 a ea => ?_⟩
    · rcases cas j hj with h1 | rfl
      · rw [eC1 j h1]; exact h5.bk.off.c j h1
      · rw [eC2]; omega
    · rcases cas j hj with h1 | rfl
      · rw [el1 j h1] at h0; rw [eA1 j h1] at ea; exact h5.bk.off.a j h1 h0 a ea
      · rw [eA2] at ea; have := hA a ea; omega
  have hfix : Fix s' := by
    refine ⟨by omega, fun j hj => ?_, fun i j hi hj he => ?_, fun j hj => ⟨?_, fun k hk h0 a ea => ?_⟩⟩
    · rcases cas j hj with h1 | rfl
      · rw [el1 j h1]; exact h.fx.l j h1
      · rw [el2]; exact hl
    · rcases cas i hi with h1 | rfl <;> rcases cas j hj with h2 | rfl
      · rw [eC1 i h1, eC1 j h2] at he; exact h.fx.inj i j h1 h2 he
      · rw [eC1 i h1, eC2] at he; have := hCb i h1; omega
      · rw [eC1 j h2, eC2] at he; have := hCb j h2; omega
      · rfl
    · rw [hG]
      rcases cas j hj with h1 | rfl
      · rw [eC1 j h1]
        intro e
        rcases hgcase with ⟨_, h2⟩ | h2
        · exact hgC j h1 (by rw [h2, e])
        · have := hCb j h1; omega
      · rw [eC2]; rcases hgcase with ⟨h2, _⟩ | h2 <;> omega
    · rcases cas j hj with h1 | rfl <;> rcases cas k hk with h2 | rfl
      · rw [el1 k h2] at h0; rw [eA1 k h2] at ea; rw [eC1 j h1]; exact (h.fx.offC j h1).2 k h2 h0 a ea
      · rw [eA2] at ea; rw [eC1 j h1]; have := hA a ea; have := hCb j h1; omega
      · rw [el1 k h2] at h0; rw [eA1 k h2] at ea; rw [eC2]; have := hAold k h2 h0 a ea; omega
      · rw [el2] at h0; rw [eA2] at ea; rw [eC2]; have := a1lt h0 a ea; omega
  refine ⟨⟨?_, ⟨fun j hj => ⟨by rw [hga, hG], ?_⟩, fun j hj => ?_, fun j hj => ?_⟩, hoffX⟩, hfix, ?_, ?_, h5.nx, fun j hj => ?_, fun j hj => ?_, fun j hj h0 a ea => ?_, fun j hj h0 a ea => ?_⟩
  · rw [heap_setCell_same w6 X 0 _ 110 _ x6, hga, en, hgc]
    rfl
  · rw [hG, hC]
    exact gcell j (by omega)
  · rcases cas j hj with h1 | rfl
    · rw [eC1 j h1, eA1 j h1, el1 j h1, ec1 j h1]; exact ccell j h1
    · rw [eC2, eA2, el2, ec2]; exact ncell
  · rcases cas j hj with h1 | rfl
    · rw [eA1 j h1, el1 j h1]; exact ent1 j h1
    · rw [eA2, el2]; exact ent2
  · have e : ptrs s' = ptrs s ++ [.pointer (some ⟨w.heap.size, 0, none⟩)] := by
      unfold ptrs
      rw [en, List.range_succ, List.map_append]
      congr 1
      · exact List.map_congr_left (fun j hj => by rw [eC1 j (List.mem_range.1 hj)])
      · simp [eC2]
    rw [hga, en, hgc, e]
    exact own_move hown (fun k hk => keep7 k (fun e => by simp [Value.ownBlock] at hk; omega))
  · have f5 : Fr (fun b => b = X ∨ (Value.slice s.ga s.n s.gc).ownBlock = some b) W5 (w6.setCell ⟨X, 0, none⟩ (.slice (some ⟨g, 0, none⟩) (s.n + 1) cap)) :=
      (Fr.set (O := fun b => b = X ∨ (Value.slice s.ga s.n s.gc).ownBlock = some b) ⟨hg.os, hg.tape, hg.output, hg.size, fun b h1 h2 => oldb b h1 (fun e => h2 (.inr e))⟩ _ _ (.inl rfl))
    exact h5.bel.trans (f5.to_below h5.bel.size (fun b hb => by
      rcases hb with rfl | hb
      · exact h5.nx
      · exact own_base h5.own b hb))
  · rcases cas j hj with h1 | rfl
    · rw [eC1 j h1]; exact h5.nc j h1
    · rw [eC2]; have := h.bel.size; omega
  · rcases cas j hj with h1 | rfl
    · rw [el1 j h1, ec1 j h1]; exact h5.len j h1
    · rw [el2, ec2]; exact hc
  · rw [hga]
    intro e
    have e : g = a.block := by simpa [Value.ownBlock] using e
    rcases cas j hj with h1 | rfl
    · rw [el1 j h1] at h0; rw [eA1 j h1] at ea
      rcases hgcase with ⟨_, h2⟩ | h2
      · exact h5.na j h1 h0 a ea (by rw [h2, e])
      · have := hAold j h1 h0 a ea; omega
    · rw [eA2] at ea; rw [el2] at h0
      have h3 := hA a ea
      have h4 := a1lt h0 a ea
      rcases hgcase with ⟨h2, _⟩ | h2 <;> omega
  · rcases cas j hj with h1 | rfl
    · rw [el1 j h1] at h0; rw [eA1 j h1] at ea; exact h5.nA j h1 h0 a ea
    · rw [eA2] at ea; have := hA a ea; have := hb.bel.size; omega

end Go.Proofs.Ytehoojmalhloeaa.CM

/-! merge: New. -/
namespace Go.Proofs.Ytehoojmalhloeaa.CM
open Go.RowKit Go.Proofs.YtehoojmalhloeaaW.PrintWords
set_option linter.unusedVariables false
set_option linter.unusedSimpArgs false
set_option maxRecDepth 100000

theorem step_append_run {P : Program} {ops : Array Oper} {o : Oper} {a : Act} {w : World} {K : Act → World → Prop} {Q : Exit → Act → World → Prop} {E : Prop}
    (hg : o.guard = none) (s x : Operand) (t : TypeId) (hop : o.op = Op.call { callee := Callee.builtin Builtin.append, args := #[s, x], argTypes := #[t, t] })
    (v u v1 : Value) (w1 : World) (hs : a.eval s = v) (hx : a.eval x = u) (hrun : (Builtin.append_ #[t, t] o.type #[v, u]).run P w = .ok v1 w1) (hK : K (a.put o.dst v1) w1) :
    if Region.wanted o (yielded ops a.tmps) = true then Oper.wp P o a w K Q else E := by
  have hw : Region.wanted o (yielded ops a.tmps) = true := by simp [Region.wanted, hg]
  rw [if_pos hw]
  unfold Oper.wp
  simp [execOp, hop, resolve, invoke, builtin, hs, hx, hrun, Result.andThen]
  exact hK

def NewEnd (L : List (List PC.S44)) (w : World) (e : Ending) (w' : World) : Prop :=
  (e = .returned (.tuple #[.pointer none, .int .i64 160]) ∧ (∃ j, j < L.length ∧ risesB (L.getD j []) = false) ∧ Below w.heap.size w w') ∨
      ∃ X s, e = .returned (.tuple #[.pointer (some ⟨X, 0, none⟩), .int .i64 0]) ∧ (∀ j, j < L.length → risesB (L.getD j []) = true) ∧ s.L = L ∧ Mk w w' X s

set_option maxHeartbeats 8000000 in
theorem new_w (LA : Option Addr) (lc : Nat) (L : List (List PC.S44)) (w : World) (hr : Kd.C (Kd.slice 44 PC.k44) w LA L.length L) (hn : L.length ≤ 2932031007317) (hl : ∀ j, j < L.length → (L.getD j []).length ≤ 2932031007317) :
    Calls Try.prog 36 #[.slice LA L.length lc] w (NewEnd L w) := by
  have HR := Lib.hid (And.intro hr hl)
  clear hr hl
  go_enter Try.func36, Try.ntmps36
  go_wp2_with fail
  obtain ⟨X, hX⟩ : ∃ X, w.heap.size = X := ⟨_, rfl⟩
  obtain ⟨W0, hW0⟩ : ∃ W0, w.alloc (.cells #[.slice none 0 0, .slice none 0 0, .slice none 0 0, .pointer none] 110) = W0 := ⟨_, rfl⟩
  have M0 : Mk w W0 X ⟨[], 0, none, 0, fun _ => 0, fun _ => none, fun _ => 0⟩ := by
    have hx : W0.heap[X]? = some (.cells #[.slice none 0 0, .slice none 0 0, .slice none 0 0, .pointer none] 110 (0, 0)) := by rw [← hW0, ← hX]; exact World.alloc_heap_new w _
    refine ⟨⟨hx, ⟨fun i hi => (Nat.not_lt_zero i hi).elim, fun i hi => (Nat.not_lt_zero i hi).elim, fun i hi => (Nat.not_lt_zero i hi).elim⟩, ⟨fun h => (Nat.not_lt_zero 0 h).elim, fun i hi => (Nat.not_lt_zero i hi).elim, fun i hi => (Nat.not_lt_zero i hi).elim⟩⟩, ⟨Nat.zero_le _, fun i hi => (Nat.not_lt_zero i hi).elim, fun i j hi => (Nat.not_lt_zero i hi).elim, fun i hi => (Nat.not_lt_zero i hi).elim⟩, World.ownsRow_nil _ _ _ _, ?_, by omega, fun i hi => (Nat.not_lt_zero i hi).elim, fun i hi => (Nat.not_lt_zero i hi).elim, fun i hi => (Nat.not_lt_zero i hi).elim, fun i hi => (Nat.not_lt_zero i hi).elim⟩
    rw [← hW0]
    exact (Below.refl _ w).alloc (Nat.le_refl _) _
  rw [hW0, hX]
  have H0 := Lib.hid M0
  clear M0 hW0
  go_loopw [12] (fun t wr => ∃ (i : Nat) (s : Sh), i ≤ L.length ∧ t = .int .i64 (i : Int) ∧ Hid ((∀ j, j < i → risesB (L.getD j []) = true) ∧ s.L = L.take i ∧ Mk w wr X s)) (fun t _ => L.length - (intOf t).toNat)
  case atStart => exact ⟨0, _, by omega, rfl, Lib.hid ⟨fun j h => by omega, rfl, H0.out⟩⟩
  case round =>
    obtain ⟨i, s, hi, rfl, HI⟩ := hrel
    obtain ⟨Wo, rfl⟩ : ∃ Wo, Wo = wr := ⟨_, rfl⟩
    have m1 : IntKind.i64.wrap ((i : Int) + 1) = (i : Int) + 1 := by rw [IntWalk.i64_in _ (by omega)]
    by_cases hlt : i < L.length
    · have hltz : (i : Int) < L.length := by omega
      obtain ⟨ad0, A0, c0_, e0, g0, g1, g2⟩ := PC.at_L6 (Kd.C_below HR.out.1 HI.out.2.2.bel) (i : Int) (by omega) (by omega)
      subst e0
      obtain ⟨l, hlD⟩ : ∃ l, PC.rd_L6 L (i : Int) = l := ⟨_, rfl⟩
      rw [hlD] at g0 g1 g2
      have hlD' : L.getD i [] = l := by rw [← hlD]; simp [PC.rd_L6]
      have hll : l.length ≤ 2932031007317 := by rw [← hlD']; exact HR.out.2 i hlt
      have HC := Lib.hid (And.intro g2 (And.intro g1 hlD'))
      simp only [Int.toNat_natCast] at g0
      clear g1 g2 hlD hlD'
      go_wp2_with fail
      go_loopw [7] (fun t w2 => ∃ k : Nat, (k + 1 ≤ l.length ∨ k = 0) ∧ t = .int .i64 ((k : Int) + 1) ∧ Hid ((∀ j : Nat, j < k → cmpK (l.getD j PC.z44).f0 (l.getD (j + 1) PC.z44).f0 < 0) ∧ Below Wo.heap.size Wo w2)) (fun t _ => l.length - (intOf t).toNat)
      case atStart => exact ⟨0, Or.inr rfl, rfl, Lib.hid ⟨fun j h => by omega, Below.refl _ _⟩⟩
      case round =>
        obtain ⟨k, hi2, rfl, HZ⟩ := hrel
        by_cases hlt2 : (k : Int) + 1 < l.length
        · have hj : IntKind.i64.wrap ((k : Int) + 1 - 1) = (k : Int) := by rw [IntWalk.i64_in _ (by omega)]; omega
          have hj2 : IntKind.i64.wrap ((k : Int) + 1 + 1) = (k : Int) + 1 + 1 := by rw [IntWalk.i64_in _ (by omega)]
          obtain ⟨ad, e, X0⟩ := at44 (keepC HC.out.1 (Nat.le_refl _) HZ.out.2.drew) k (by omega)
          obtain ⟨ad2, e2, Y0⟩ := at44 (keepC HC.out.1 (Nat.le_refl _) HZ.out.2.drew) (k + 1) (by omega)
          obtain rfl : ad = ad2 := by rw [e] at e2; injection e2
          subst e
          obtain ⟨a, ha⟩ : ∃ a, l.getD k PC.z44 = a := ⟨_, rfl⟩
          obtain ⟨b, hb⟩ : ∃ b, l.getD (k + 1) PC.z44 = b := ⟨_, rfl⟩
          rw [ha] at X0
          rw [hb] at Y0
          have HX := Lib.hid (And.intro X0 Y0)
          have Ha := Lib.hid (And.intro ha hb)
          clear X0 Y0 ha hb e2
          have p0 : (0 ≤ (k : Int)) = True := by simp
          have p1 : ((k : Int) < l.length) = True := eq_true (by omega)
          have p2 : (0 ≤ (k : Int) + 1) = True := eq_true (by omega)
          have p3 : ((k : Int) + 1 < l.length) = True := eq_true hlt2
          have p4 : (k < l.length) = True := eq_true (by omega)
          have p5 : (k + 1 < l.length) = True := eq_true (by omega)
          have hj3 : IntKind.i64.wrap (k : Int) = (k : Int) := by rw [IntWalk.i64_in _ (by omega)]
          have C := compare_w a.f0 b.f0
          unfold kv42 at C
          have HK := Lib.hid C
          clear C
          go_wp2_with fail
          go_region_held3 (fun w' => (w'.cell? (ad.add (k * 4)) = some (.string a.f0.f0) ∧ w'.cell? ⟨(ad.add (k * 4)).block, (ad.add (k * 4)).off + 1, none⟩ = some (.int .u64 a.f0.f1) ∧ w'.cell? ⟨(ad.add (k * 4)).block, (ad.add (k * 4)).off + 2, none⟩ = some (.int .i64 a.f0.f2) ∧ w'.cell? ⟨(ad.add (k * 4)).block, (ad.add (k * 4)).off + 3, none⟩ = some (.string a.f1)) ∧ w'.cell? (ad.add ((k + 1) * 4)) = some (.string b.f0.f0) ∧ w'.cell? ⟨(ad.add ((k + 1) * 4)).block, (ad.add ((k + 1) * 4)).off + 1, none⟩ = some (.int .u64 b.f0.f1) ∧ w'.cell? ⟨(ad.add ((k + 1) * 4)).block, (ad.add ((k + 1) * 4)).off + 2, none⟩ = some (.int .i64 b.f0.f2) ∧ w'.cell? ⟨(ad.add ((k + 1) * 4)).block, (ad.add ((k + 1) * 4)).off + 3, none⟩ = some (.string b.f1)) (first | exact HX.out | exact HB2.out) (first | (go_at_call 69; refine Calls.mono (HK.out _) ?_; rintro e w1 ⟨rfl, hb1⟩; have HB2 := Lib.hid (And.intro (HX.out.1.below hb1) (HX.out.2.below hb1)); have HB1 := Lib.hid ((Below.refl wr.heap.size wr).drew.trans hb1); clear hb1))
          have HW := Lib.hid (HZ.out.2.trans (HB1.out.mono HZ.out.2.size))
          clear HB1 HX HK HB2
          by_cases hc1 : 0 ≤ cmpK a.f0 b.f0
          · have hc2 : decide (0 ≤ cmpK a.f0 b.f0) = true := decide_eq_true hc1
            go_wp2_with fail
            go_ret2
            refine .inl ⟨rfl, ⟨i, hlt, ?_⟩, HI.out.2.2.bel.trans (HW.out.mono HI.out.2.2.bel.size)⟩
            rw [HC.out.2.2]
            exact risesB_false (j := k) (by omega) (by rw [Ha.out.1, Ha.out.2]; omega)
          · have hc2 : decide (0 ≤ cmpK a.f0 b.f0) = false := decide_eq_false hc1
            go_wp2_with fail
            go_roundw
            case rel => exact ⟨k + 1, Or.inl (by omega), by simp, Lib.hid ⟨fun j hj => (by
              rcases Nat.lt_succ_iff_lt_or_eq.1 hj with h | rfl
              · exact HZ.out.1 j h
              · rw [Ha.out.1, Ha.out.2]; omega), HW.out⟩⟩
            case measure => simp [intOf]; omega
        · have hlt3 : decide ((k : Int) + 1 < l.length) = false := decide_eq_false hlt2
          have hri : risesB l = true := by
            rw [risesB_iff]
            exact fun j hj => HZ.out.1 j (by omega)
          have MW := HI.out.2.2.below HZ.out.2
          have hsn : s.n = i := by show s.L.length = i; rw [HI.out.2.1, List.length_take]; omega
          have HM := Lib.hid (And.intro MW (And.intro hri hsn))
          have c0 := MW.bk.cell.1
          have cf := MW.bk.cell.2.2.2.2 0
          have HCl := Lib.hid (clone_w A0 l.length c0_ l wr.drew (keepC HC.out.1 (Nat.le_refl _) HZ.out.2.drew) hll)
          rw [hsn] at c0
          clear MW hri hsn
          go_wp2_with fail
          go_region_law (first | (refine step_append_run rfl _ _ 104 rfl _ _ _ _ rfl rfl hrun ?_) | (go_simp; go_at_call 70; refine HCl.out.mono ?_; rintro e w3 ⟨A1, k1, rfl, h1, h2, h3, h4⟩; have hpush := Mk.push HM.out.1 ((Below.refl wr.heap.size wr).drew.trans h4) l A1 k1 h1 h2 h3 hll (by have := HM.out.2.2; omega); rw [HM.out.2.2] at hpush; obtain ⟨g, cap, w6, hrun, d0, df, s', hL, hMk⟩ := hpush; have c3 := ((HM.out.1.below ((Below.refl wr.heap.size wr).drew.trans h4)).bk.cell.1); rw [HM.out.2.2] at c3; have c4 := cell_up (o := .cells #[.slice A1 l.length k1, .int .i64 0, .int .i64 (i : Nat)] 112) c3; have c5 := cell_up (o := .cells #[.pointer (some ⟨w3.heap.size, 0, none⟩)] 108) c4; have HP := Lib.hid (And.intro hL hMk); clear hL hMk h1 h2 h3 h4))
          all_goals
            go_wp2_with fail
            refine ⟨⟨i + 1, s', by omega, by simp, Lib.hid ⟨fun j hj => ?_, ?_, HP.out.2⟩⟩, by simp [intOf]; omega⟩
            · rcases Nat.lt_succ_iff_lt_or_eq.1 hj with h | rfl
              · exact HI.out.1 j h
              · rw [HC.out.2.2]; exact HM.out.2.1
            · rw [HP.out.1, HI.out.2.1, ← HC.out.2.2]
              have e : L.getD i [] = L[i] := by simp [hlt]
              rw [e, List.take_append_getElem]
    · obtain rfl : i = L.length := by omega
      have hltz : decide ((L.length : Int) < (L.length : Int)) = false := decide_eq_false (by omega)
      go_wp2_with fail
      go_ret2
      exact .inr ⟨X, s, rfl, HI.out.1, by rw [HI.out.2.1, List.take_length], HI.out.2.2⟩
end Go.Proofs.Ytehoojmalhloeaa.CM

/-! merge: all entries in their order, and places in it: plain law. -/
namespace Go.Proofs.Ytehoojmalhloeaa.CM
open Go.RowKit
set_option linter.unusedVariables false
set_option linter.unusedSimpArgs false

/-- The list whose next entry is ahead of all others', of the first k. -/
def headK (s : Sh) (at_ : Nat → Nat) : Nat → Option Nat
  | 0 => none
  | k + 1 => if at_ k < (s.l k).length then (match headK s at_ k with
    | none => some k
    | some b => if s.less at_ k b = true then some k else some b) else headK s at_ k
theorem headK_spec (s : Sh) (at_ : Nat → Nat) : ∀ k : Nat, (headK s at_ k = none ∧ ∀ j, j < k → (s.l j).length ≤ at_ j) ∨
    ∃ b, headK s at_ k = some b ∧ b < k ∧ at_ b < (s.l b).length ∧ ∀ j, j < k → at_ j < (s.l j).length → s.less at_ j b = false
  | 0 => .inl ⟨rfl, fun j h => by omega⟩
  | k + 1 => by
    have o := less_ord s at_
    by_cases h : at_ k < (s.l k).length
    · refine .inr ?_
      rcases headK_spec s at_ k with ⟨e, h1⟩ | ⟨b, e, h1, h2, h3⟩
      · refine ⟨k, ?_, by omega, h, fun j hj hjo => ?_⟩
        · show (if _ then _ else _) = _
          rw [if_pos h, e]
        · rcases Nat.lt_succ_iff_lt_or_eq.1 hj with h4 | rfl
          · have := h1 j h4; omega
          · exact o.irr _
      · by_cases hs : s.less at_ k b = true
        · refine ⟨k, ?_, by omega, h, fun j hj hjo => ?_⟩
          · show (if _ then _ else _) = _
            rw [if_pos h, e]
            show (if _ then _ else _) = _
            rw [if_pos hs]
          · rcases Nat.lt_succ_iff_lt_or_eq.1 hj with h4 | rfl
            · exact o.ntr (o.asymm hs) (h3 j h4 hjo)
            · exact o.irr _
        · refine ⟨b, ?_, by omega, h2, fun j hj hjo => ?_⟩
          · show (if _ then _ else _) = _
            rw [if_pos h, e]
            show (if _ then _ else _) = _
            rw [if_neg hs]
          · rcases Nat.lt_succ_iff_lt_or_eq.1 hj with h4 | rfl
            · exact h3 j h4 hjo
            · simpa using hs
    · rcases headK_spec s at_ k with ⟨e, h1⟩ | ⟨b, e, h1, h2, h3⟩
      · refine .inl ⟨?_, fun j hj => ?_⟩
        · show (if _ then _ else _) = _
          rw [if_neg h, e]
        · rcases Nat.lt_succ_iff_lt_or_eq.1 hj with h4 | rfl
          · exact h1 j h4
          · omega
      · refine .inr ⟨b, ?_, by omega, h2, fun j hj hjo => ?_⟩
        · show (if _ then _ else _) = _
          rw [if_neg h, e]
        · rcases Nat.lt_succ_iff_lt_or_eq.1 hj with h4 | rfl
          · exact h3 j h4 hjo
          · omega
theorem head_none {s : Sh} {at_ : Nat → Nat} (h : openL s at_ s.n = []) : headK s at_ s.n = none := by
  rcases headK_spec s at_ s.n with ⟨e, _⟩ | ⟨b, e, h1, h2, _⟩
  · exact e
  · have : b ∈ openL s at_ s.n := openL_mem.2 ⟨h1, h2⟩
    rw [h] at this
    simp at this
theorem head_some {s : Sh} {at_ : Nat → Nat} {i : Nat} (h : i ∈ openL s at_ s.n) (hm : ∀ j ∈ openL s at_ s.n, s.less at_ j i = false) : headK s at_ s.n = some i := by
  have hi := openL_mem.1 h
  rcases headK_spec s at_ s.n with ⟨e, h1⟩ | ⟨b, e, h1, h2, h3⟩
  · have := h1 i hi.1; omega
  · by_cases hbi : b = i
    · rw [e, hbi]
    · rcases (less_ord s at_).tot b i hbi with h4 | h4
      · rw [hm b (openL_mem.2 ⟨h1, h2⟩)] at h4; exact absurd h4 (by decide)
      · rw [h3 i hi.1 hi.2] at h4; exact absurd h4 (by decide)

/-- How many of each list were taken, behind so many steps. -/
def ats (s : Sh) : Nat → (Nat → Nat)
  | 0 => fun _ => 0
  | p + 1 => match headK s (ats s p) s.n with
    | none => ats s p
    | some i => upd (ats s p) i (ats s p i + 1)
def who (s : Sh) (p : Nat) : Option Nat := headK s (ats s p) s.n
theorem ats_none {s : Sh} {p : Nat} (h : who s p = none) : ats s (p + 1) = ats s p := by
  show (match headK s (ats s p) s.n with | none => ats s p | some i => upd (ats s p) i (ats s p i + 1)) = _
  unfold who at h
  rw [h]
theorem ats_some {s : Sh} {p i : Nat} (h : who s p = some i) : ats s (p + 1) = upd (ats s p) i (ats s p i + 1) := by
  show (match headK s (ats s p) s.n with | none => ats s p | some i => upd (ats s p) i (ats s p i + 1)) = _
  unfold who at h
  rw [h]
theorem who_some {s : Sh} {p i : Nat} (h : who s p = some i) : i < s.n ∧ ats s p i < (s.l i).length ∧ ∀ j, j < s.n → ats s p j < (s.l j).length → s.less (ats s p) j i = false := by
  rcases headK_spec s (ats s p) s.n with ⟨e, _⟩ | ⟨b, e, h1, h2, h3⟩
  · unfold who at h; rw [e] at h; cases h
  · unfold who at h; rw [e] at h; injection h with h; subst h; exact ⟨h1, h2, h3⟩
theorem who_none {s : Sh} {p : Nat} (h : who s p = none) : ∀ j, j < s.n → (s.l j).length ≤ ats s p j := by
  rcases headK_spec s (ats s p) s.n with ⟨e, h1⟩ | ⟨b, e, _⟩
  · exact h1
  · unfold who at h; rw [e] at h; cases h
theorem ats_le (s : Sh) : ∀ p j, ats s p j ≤ (s.l j).length
  | 0, j => Nat.zero_le _
  | p + 1, j => by
    cases h : who s p with
    | none => rw [ats_none h]; exact ats_le s p j
    | some i =>
      rw [ats_some h]
      by_cases e : j = i
      · subst e; rw [upd_same]; exact (who_some h).2.1
      · rw [upd_ne e]; exact ats_le s p j
theorem ats_step (s : Sh) (p j : Nat) : ats s p j ≤ ats s (p + 1) j := by
  cases h : who s p with
  | none => rw [ats_none h]; exact Nat.le_refl _
  | some i =>
    rw [ats_some h]
    by_cases e : j = i
    · subst e; rw [upd_same]; omega
    · rw [upd_ne e]; exact Nat.le_refl _
theorem ats_mono (s : Sh) {p q : Nat} (h : p ≤ q) (j : Nat) : ats s p j ≤ ats s q j := by
  induction q with
  | zero => obtain rfl : p = 0 := by omega
            exact Nat.le_refl _
  | succ q ih =>
    rcases Nat.lt_or_eq_of_le h with h1 | rfl
    · exact Nat.le_trans (ih (by omega)) (ats_step s q j)
    · exact Nat.le_refl _

/-! ### how many there are -/
def tot (f : Nat → Nat) : Nat → Nat
  | 0 => 0
  | k + 1 => tot f k + f k
theorem tot_upd (f : Nat → Nat) (i v : Nat) : ∀ k, tot (upd f i v) k + (if i < k then f i else 0) = tot f k + (if i < k then v else 0)
  | 0 => by simp [tot]
  | k + 1 => by
    have ih := tot_upd f i v k
    show tot (upd f i v) k + upd f i v k + _ = tot f k + f k + _
    by_cases e : k = i
    · subst e
      rw [upd_same, if_pos (by omega), if_pos (by omega)]
      rw [if_neg (by omega), if_neg (by omega)] at ih
      omega
    · rw [upd_ne e]
      by_cases h : i < k
      · rw [if_pos (by omega), if_pos (by omega)]
        rw [if_pos h, if_pos h] at ih
        omega
      · rw [if_neg (by omega), if_neg (by omega)]
        rw [if_neg h, if_neg h] at ih
        omega
theorem tot_le {f g : Nat → Nat} : ∀ k, (∀ j, j < k → f j ≤ g j) → tot f k ≤ tot g k
  | 0, _ => Nat.le_refl _
  | k + 1, h => by
    have := tot_le k (fun j hj => h j (by omega))
    have := h k (by omega)
    show tot f k + f k ≤ tot g k + g k
    omega
theorem tot_eq {f g : Nat → Nat} : ∀ k, (∀ j, j < k → f j ≤ g j) → tot f k = tot g k → ∀ j, j < k → f j = g j
  | 0, _, _, j, h => by omega
  | k + 1, h, he, j, hj => by
    have h1 := tot_le k (fun j hj => h j (by omega))
    have h2 := h k (by omega)
    have he : tot f k + f k = tot g k + g k := he
    rcases Nat.lt_succ_iff_lt_or_eq.1 hj with h3 | rfl
    · exact tot_eq k (fun j hj => h j (by omega)) (by omega) j h3
    · omega
/-- How many entries there are. -/
def Sh.N (s : Sh) : Nat := tot (fun j => (s.l j).length) s.n
theorem ats_tot (s : Sh) : ∀ p, p ≤ s.N → tot (ats s p) s.n = p ∧ (p < s.N → ∃ i, who s p = some i)
  | 0, _ => by
    have h0 : ∀ k, tot (ats s 0) k = 0 := fun k => by
      induction k with
      | zero => rfl
      | succ k ih => show tot (ats s 0) k + 0 = 0; omega
    refine ⟨h0 _, fun h => ?_⟩
    cases h1 : who s 0 with
    | some i => exact ⟨i, rfl⟩
    | none =>
      have := tot_le (f := fun j => (s.l j).length) (g := ats s 0) s.n (who_none h1)
      rw [h0] at this
      unfold Sh.N at h
      omega
  | p + 1, hp => by
    obtain ⟨h1, h2⟩ := ats_tot s p (by omega)
    obtain ⟨i, hi⟩ := h2 (by omega)
    have h3 := who_some hi
    have h4 := tot_upd (ats s p) i (ats s p i + 1) s.n
    rw [if_pos h3.1, if_pos h3.1] at h4
    have h5 : tot (ats s (p + 1)) s.n = p + 1 := by rw [ats_some hi]; omega
    refine ⟨h5, fun h => ?_⟩
    cases h6 : who s (p + 1) with
    | some i => exact ⟨i, rfl⟩
    | none =>
      have := tot_le (f := fun j => (s.l j).length) (g := ats s (p + 1)) s.n (who_none h6)
      rw [h5] at this
      unfold Sh.N at h
      omega
theorem who_lt {s : Sh} {p : Nat} (h : p < s.N) : ∃ i, who s p = some i := (ats_tot s p (by omega)).2 h
theorem ats_end (s : Sh) : ∀ j, ats s s.N j = (s.l j).length := fun j => by
  by_cases hj : j < s.n
  · exact tot_eq s.n (fun j _ => ats_le s s.N j) (ats_tot s s.N (Nat.le_refl _)).1 j hj
  · have h1 := ats_le s s.N j
    have h2 : s.l j = [] := by simp [Sh.l, show s.L.length ≤ j by have : s.n = s.L.length := rfl; omega]
    rw [h2] at h1 ⊢
    simp at h1 ⊢
    omega
theorem who_end (s : Sh) : who s s.N = none := by
  cases h : who s s.N with
  | none => rfl
  | some i => have := (who_some h).2.1; rw [ats_end] at this; omega
/-- The entry at a place. -/
def itm (s : Sh) (p : Nat) : PC.S44 := match who s p with
  | none => PC.z44
  | some i => s.e i (ats s p i)
theorem itm_some {s : Sh} {p i : Nat} (h : who s p = some i) : itm s p = s.e i (ats s p i) := by unfold itm; rw [h]
end Go.Proofs.Ytehoojmalhloeaa.CM

/-! merge: a step back from a place is the place ahead of it: plain law. -/
namespace Go.Proofs.Ytehoojmalhloeaa.CM
open Go.RowKit
set_option linter.unusedVariables false
set_option linter.unusedSimpArgs false

/-- All lists rise. -/
def Ris (s : Sh) : Prop := ∀ i, i < s.n → (s.l i).Pairwise R
theorem ris_lt {s : Sh} (h : Ris s) {i a b : Nat} (hi : i < s.n) (hab : a < b) (hb : b < (s.l i).length) : R (s.e i a) (s.e i b) := by
  have := List.pairwise_iff_getElem.1 (h i hi) a b (by omega) hb hab
  have ea : s.e i a = (s.l i)[a]'(by omega) := by unfold Sh.e; rw [List.getD_eq_getElem?_getD, List.getElem?_eq_getElem (by omega)]; rfl
  have eb : s.e i b = (s.l i)[b] := by unfold Sh.e; rw [List.getD_eq_getElem?_getD, List.getElem?_eq_getElem hb]; rfl
  rw [ea, eb]
  exact this
theorem itm_lt {s : Sh} (hr : Ris s) {p q i j : Nat} (hp : who s p = some i) (hq : who s q = some j) (hpq : p < q) : T (s.e i (ats s p i)) (s.e j (ats s q j)) i j := by
  have h1 := who_some hp
  have h2 := who_some hq
  have hm : ats s (p + 1) j ≤ ats s q j := ats_mono s (by omega) j
  by_cases e : j = i
  · subst e
    rw [ats_some hp, upd_same] at hm
    exact .inl (ris_lt hr h1.1 (by omega) h2.2.1)
  · have hm0 : ats s p j ≤ ats s q j := ats_mono s (by omega) j
    have ho := h1.2.2 j h2.1 (by omega)
    have hT : T (s.e i (ats s p i)) (s.e j (ats s p j)) i j := by
      rcases (less_ord s (ats s p)).tot i j (fun h => e h.symm) with h | h
      · exact (less_iff _ _ _ _).1 h
      · rw [ho] at h; exact absurd h (by decide)
    rcases Nat.lt_or_eq_of_le hm0 with h3 | h3
    · exact T_trans hT (.inl (ris_lt hr h2.1 h3 h2.2.1))
    · rw [← h3]; exact hT
theorem last_who {s : Sh} {j : Nat} : ∀ p, 0 < ats s p j → ∃ q, q < p ∧ who s q = some j ∧ ats s q j + 1 = ats s p j
  | 0, h => by exact absurd h (Nat.lt_irrefl 0)
  | p + 1, h => by
    cases hw : who s p with
    | none =>
      rw [ats_none hw] at h ⊢
      obtain ⟨q, h1, h2, h3⟩ := last_who p h
      exact ⟨q, by omega, h2, h3⟩
    | some i =>
      by_cases e : j = i
      · subst e
        exact ⟨p, by omega, hw, by rw [ats_some hw, upd_same]⟩
      · rw [ats_some hw, upd_ne e] at h ⊢
        obtain ⟨q, h1, h2, h3⟩ := last_who p h
        exact ⟨q, by omega, h2, h3⟩
theorem more_irr {s : Sh} {f : Nat → Nat} (a : Nat) : s.more f a a = false := by
  rw [← Bool.not_eq_true, more_iff]; exact T_irr
theorem bestK_spec (s : Sh) (f : Nat → Nat) : ∀ k, (bestK s f k = none ∧ ∀ j, j < k → f j = 0) ∨ ∃ b, bestK s f k = some b ∧ b < k ∧ 0 < f b ∧ ∀ j, j < k → 0 < f j → s.more f j b = false
  | 0 => .inl ⟨rfl, fun j h => by omega⟩
  | k + 1 => by
    rcases Nat.eq_zero_or_pos (f k) with h0 | h0
    · rw [bestK_step_no h0]
      rcases bestK_spec s f k with ⟨e, h1⟩ | ⟨b, e, h1, h2, h3⟩
      · refine .inl ⟨e, fun j hj => ?_⟩
        rcases Nat.lt_succ_iff_lt_or_eq.1 hj with h | rfl
        · exact h1 j h
        · exact h0
      · refine .inr ⟨b, e, by omega, h2, fun j hj hjo => ?_⟩
        rcases Nat.lt_succ_iff_lt_or_eq.1 hj with h | rfl
        · exact h3 j h hjo
        · omega
    · rcases bestK_spec s f k with ⟨e, h1⟩ | ⟨b, e, h1, h2, h3⟩
      · rw [bestK_step_none h0 e]
        refine .inr ⟨k, rfl, by omega, h0, fun j hj hjo => ?_⟩
        rcases Nat.lt_succ_iff_lt_or_eq.1 hj with h | rfl
        · have := h1 j h; omega
        · exact more_irr _
      · rw [bestK_step_some h0 e]
        by_cases hm : s.more f k b = true
        · rw [if_pos hm]
          refine .inr ⟨k, rfl, by omega, h0, fun j hj hjo => ?_⟩
          rcases Nat.lt_succ_iff_lt_or_eq.1 hj with h | rfl
          · have h4 := h3 j h hjo
            rw [← Bool.not_eq_true, more_iff] at h4 ⊢
            rw [more_iff] at hm
            exact fun h5 => h4 (T_trans hm h5)
          · exact more_irr _
        · rw [if_neg hm]
          refine .inr ⟨b, rfl, by omega, h2, fun j hj hjo => ?_⟩
          rcases Nat.lt_succ_iff_lt_or_eq.1 hj with h | rfl
          · exact h3 j h hjo
          · simpa using hm
theorem best_zero {s : Sh} : bestK s (ats s 0) s.n = none := by
  rcases bestK_spec s (ats s 0) s.n with ⟨e, _⟩ | ⟨b, e, h1, h2, h3⟩
  · exact e
  · exact absurd h2 (Nat.lt_irrefl 0)
/-- Whose last entry is behind all others' is he who was taken last. -/
theorem best_who {s : Sh} (hr : Ris s) {p : Nat} (hp : p < s.N) : bestK s (ats s (p + 1)) s.n = who s p := by
  obtain ⟨i, hi⟩ := who_lt hp
  have hi1 := who_some hi
  have hai : ats s (p + 1) i = ats s p i + 1 := by rw [ats_some hi, upd_same]
  rw [hi]
  rcases bestK_spec s (ats s (p + 1)) s.n with ⟨e, h1⟩ | ⟨b, e, h1, h2, h3⟩
  · have := h1 i hi1.1; omega
  · by_cases hb : b = i
    · rw [e, hb]
    · obtain ⟨q, hq1, hq2, hq3⟩ := last_who (p + 1) h2
      have hqp : q ≠ p := fun h => by rw [h, hi] at hq2; injection hq2 with h; exact hb h.symm
      have ht := itm_lt hr hq2 hi (by omega)
      have h4 := h3 i hi1.1 (by omega)
      have h5 : s.more (ats s (p + 1)) i b = true := by
        rw [more_iff]
        rw [hai, show ats s p i + 1 - 1 = ats s p i by omega, show ats s (p + 1) b - 1 = ats s q b by omega]
        exact ht
      rw [h5] at h4
      exact absurd h4 (by decide)
theorem ats_back {s : Sh} {p i : Nat} (h : who s p = some i) : upd (ats s (p + 1)) i (ats s (p + 1) i - 1) = ats s p := by
  funext j
  rw [ats_some h]
  by_cases e : j = i
  · subst e; rw [upd_same, upd_same]; omega
  · rw [upd_ne e, upd_ne e]
theorem itm_last {s : Sh} {p i : Nat} (h : who s p = some i) : s.e i (ats s (p + 1) i - 1) = itm s p := by
  rw [itm_some h, ats_some h, upd_same]
  rfl
end Go.Proofs.Ytehoojmalhloeaa.CM

/-! merge: what an iterator's calls do, by places. -/
namespace Go.Proofs.Ytehoojmalhloeaa.CM
open Go.RowKit Go.Proofs.YtehoojmalhloeaaW.PrintWords
set_option linter.unusedVariables false
set_option linter.unusedSimpArgs false
set_option maxRecDepth 100000

/-- All blocks in which an iterator lies. -/
def Foot (X : Nat) (s : Sh) (lv : Value) (b : Nat) : Prop := b = X ∨ lv.ownBlock = some b ∨ (∃ i, i < s.n ∧ b = s.C i) ∨ (0 < s.n ∧ b = s.G) ∨ ∃ i, i < s.n ∧ 0 < (s.l i).length ∧ ∃ a, s.A i = some a ∧ b = a.block
theorem Own.foot {X : Nat} {s : Sh} {lv : Value} {b : Nat} (h : Own X s lv b) : Foot X s lv b := by
  rcases h with h | h | h
  · exact .inl h
  · exact .inr (.inr (.inl h))
  · exact .inr (.inl h)
theorem foot_off {X : Nat} {s : Sh} {lv : Value} {b : Nat} (h : ¬ Foot X s lv b) : Off s b :=
  ⟨fun h0 e => h (.inr (.inr (.inr (.inl ⟨h0, e⟩)))), fun i hi e => h (.inr (.inr (.inl ⟨i, hi, e⟩))), fun i hi h0 a ea e => h (.inr (.inr (.inr (.inr ⟨i, hi, h0, a, ea, e⟩))))⟩
theorem foot_new {X : Nat} {s : Sh} {lv lv' : Value} {n : Nat} {m : Nat} (ho : ∀ k, lv'.ownBlock = some k → lv.ownBlock = some k ∨ (n ≤ k ∧ k < m)) {b : Nat} (h : Foot X s lv' b) : Foot X s lv b ∨ (n ≤ b ∧ b < m) := by
  rcases h with h | h | h
  · exact .inl (.inl h)
  · rcases ho b h with h | h
    · exact .inl (.inr (.inl h))
    · exact .inr h
  · exact .inl (.inr (.inr h))

def hereQ (s : Sh) : Option Nat → Option Nat
  | none => none
  | some p => who s p
/-- An iterator is at a place; its blocks are among F. -/
def It (w : World) (X : Nat) (s : Sh) (q : Option Nat) (F : Nat → Prop) : Prop :=
  ∃ lv gv2 at_, Bk w X s at_ lv gv2 (hereQ s q) ∧ Fix s ∧ Ris s ∧ (∀ b, F b ↔ Foot X s lv b) ∧ (∀ k, lv.ownBlock = some k → k < w.heap.size) ∧ ∀ p, q = some p → p < s.N ∧ at_ = ats s (p + 1) ∧ gv2 = .slice s.ga s.n s.gc ∧ Line w X s at_ lv (hereV s (hereQ s q))
theorem Line.fr {w w1 : World} {X : Nat} {s : Sh} {at_ : Nat → Nat} {lv hv : Value} {P : Nat → Prop} (h : Line w X s at_ lv hv) (hf : Fr P w w1) (hd : ∀ b, b < w.heap.size → P b → ¬ Foot X s lv b) : Line w1 X s at_ lv hv := by
  rcases h with h | ⟨H, m, cap, d, r, e, hq, h⟩
  · exact .inl h
  · refine .inr ⟨H, m, cap, d, r, e, ?_, h⟩
    have hX := (Array.getElem?_eq_some_iff.1 hq.x).1
    have hH := (Array.getElem?_eq_some_iff.1 hq.row).1
    exact ⟨(hf.block X hX (fun hP => hd X hX hP (.inl rfl))).trans hq.x, hq.ne, (hf.block H hH (fun hP => hd H hH hP (.inr (.inl (by rw [e]; rfl))))).trans hq.row, hq.len, hq.cs.fr' hf (fun b hb hP => foot_off (hd b hb hP)), hq.off, hq.lt, hq.at'⟩
theorem It.fr {w w1 : World} {X : Nat} {s : Sh} {q : Option Nat} {F P : Nat → Prop} (h : It w X s q F) (hf : Fr P w w1) (hd : ∀ b, b < w.heap.size → P b → ¬ F b) : It w1 X s q F := by
  obtain ⟨lv, gv2, at_, hb, hx, hr, hF, hlt, hq⟩ := h
  have hd' : ∀ b, b < w.heap.size → P b → ¬ Foot X s lv b := fun b h1 h2 h3 => hd b h1 h2 ((hF b).2 h3)
  exact ⟨lv, gv2, at_, hb.fr hf (fun hP => hd' X hb.lt hP (.inl rfl)) (fun b h1 h2 => foot_off (hd' b h1 h2)), hx, hr, hF, fun k hk => by have := hlt k hk; have := hf.size; omega, fun p hp => by
    obtain ⟨h1, h2, h3, h4⟩ := hq p hp
    exact ⟨h1, h2, h3, h4.fr hf hd'⟩⟩
theorem It.below {w w1 : World} {X : Nat} {s : Sh} {q : Option Nat} {F : Nat → Prop} (h : It w X s q F) (hb : Below w.heap.size w w1) : It w1 X s q F := h.fr (P := fun _ => False) (Fr.of_below hb) (fun _ _ h => h.elim)
/-- What a call leaves. -/
def Goes (w : World) (X : Nat) (s : Sh) (F : Nat → Prop) (q : Option Nat) (w' : World) : Prop :=
  ∃ F', It w' X s q F' ∧ Fr F w w' ∧ ∀ b, F' b → F b ∨ (w.heap.size ≤ b ∧ b < w'.heap.size)

theorem SetEnd.goes {w w' : World} {X : Nat} {s : Sh} {lv : Value} {p : Nat} {F : Nat → Prop} (h : SetEnd w X s (ats s p) lv w') (hp : p ≤ s.N) (hx : Fix s) (hr : Ris s) (hF : ∀ b, F b ↔ Foot X s lv b) (hlt : ∀ k, lv.ownBlock = some k → k < w.heap.size) : Goes w X s F (if p < s.N then some p else none) w' := by
  obtain ⟨lv', at', here', h1, h2, h3, h4, h5⟩ := h
  have hlt' : ∀ k, lv'.ownBlock = some k → k < w'.heap.size := fun k hk => by
    have := h3.size
    rcases h4 k hk with h | h
    · have := hlt k h; omega
    · omega
  have f3 : Fr F w w' := h3.mono (fun b _ h => (hF b).2 h.foot)
  rcases h5 with ⟨e1, e2, e3⟩ | ⟨i, e1, e2, e3, e4⟩
  · have hw : who s p = none := head_none e1
    have hn : ¬ p < s.N := fun h => by obtain ⟨i, hi⟩ := who_lt h; rw [hw] at hi; cases hi
    rw [if_neg hn]
    refine ⟨fun b => Foot X s lv' b, ⟨lv', _, at', by rw [e2] at h1; exact h1, hx, hr, fun b => Iff.rfl, hlt', fun p hp => by cases hp⟩, f3, fun b hb => ?_⟩
    rcases foot_new h4 hb with h | h
    · exact .inl ((hF b).2 h)
    · exact .inr h
  · have hw : who s p = some i := head_some e1 e2
    have hn : p < s.N := by
      rcases Nat.lt_or_eq_of_le hp with h | rfl
      · exact h
      · rw [who_end] at hw; cases hw
    rw [if_pos hn]
    have e5 : at' = ats s (p + 1) := by rw [e4, ats_some hw]
    refine ⟨fun b => Foot X s lv' b, ⟨lv', _, at', by show Bk w' X s at' lv' _ (who s p); rw [hw, ← e3]; exact h1, hx, hr, fun b => Iff.rfl, hlt', fun p' hp' => ?_⟩, f3, fun b hb => ?_⟩
    · cases hp'
      exact ⟨hn, e5, rfl, by show Line w' X s at' lv' (hereV s (who s p)); rw [hw, ← e3]; exact h2⟩
    · rcases foot_new h4 hb with h | h
      · exact .inl ((hF b).2 h)
      · exact .inr h
theorem OnEnd.goes {w w' : World} {X : Nat} {s : Sh} {lv : Value} {p : Nat} {F : Nat → Prop} (h : OnEnd w X s (ats s p) lv w') (hp : p ≤ s.N) (hx : Fix s) (hr : Ris s) (hF : ∀ b, F b ↔ Foot X s lv b) (hlt : ∀ k, lv.ownBlock = some k → k < w.heap.size) : Goes w X s F (if p < s.N then some p else none) w' := by
  obtain ⟨lv', at', here', h1, h2, h3, h4, h5⟩ := h
  exact SetEnd.goes ⟨lv', at', here', h1, h2, h3, fun k hk => .inl (h4 k hk), h5⟩ hp hx hr hF hlt
def prvQ : Option Nat → Option Nat
  | some (p + 1) => some p
  | _ => none
theorem BackEnd.goes {w w' : World} {X : Nat} {s : Sh} {lv : Value} {p : Nat} {F : Nat → Prop} (h : BackEnd w X s (ats s p) lv w') (hp : p ≤ s.N) (hx : Fix s) (hr : Ris s) (hF : ∀ b, F b ↔ Foot X s lv b) : Goes w X s F (prvQ (some p)) w' := by
  obtain ⟨lv', h1, h2, h3, h4⟩ := h
  have f3 : Fr F w w' := h3.mono (fun b _ h => (hF b).2 h.foot)
  have hnew : ∀ b, Foot X s lv' b → F b ∨ (w.heap.size ≤ b ∧ b < w'.heap.size) := fun b hb => by
    rcases foot_new (lv := lv) (fun k hk => .inr (h4 k hk)) hb with h | h
    · exact .inl ((hF b).2 h)
    · exact .inr h
  cases p with
  | zero =>
    rw [best_zero] at h1
    exact ⟨fun b => Foot X s lv' b, ⟨lv', _, _, h1, hx, hr, fun b => Iff.rfl, fun k hk => (h4 k hk).2, fun p hp => by cases hp⟩, f3, hnew⟩
  | succ p =>
    rw [best_who hr (by omega)] at h1 h2
    refine ⟨fun b => Foot X s lv' b, ⟨lv', _, _, h1, hx, hr, fun b => Iff.rfl, fun k hk => (h4 k hk).2, fun p' hp' => ?_⟩, f3, hnew⟩
    cases hp'
    exact ⟨by omega, rfl, rfl, h2⟩

/-! ### the calls -/
theorem first_q {w : World} {X : Nat} {s : Sh} {q : Option Nat} {F : Nat → Prop} (h : It w X s q F) :
    Calls Try.prog 37 #[.pointer (some ⟨X, 0, none⟩)] w (fun e w' => e = .returned (.tuple #[]) ∧ Goes w X s F (if 0 < s.N then some 0 else none) w') := by
  obtain ⟨lv, gv2, at_, hb, hx, hr, hF, hlt, hq⟩ := h
  exact (first_w X s at_ lv gv2 _ w hb hx).mono (fun e w' ⟨he, h⟩ => ⟨he, SetEnd.goes (p := 0) h (Nat.zero_le _) hx hr hF hlt⟩)
def nxtQ (s : Sh) : Option Nat → Option Nat
  | some p => if p + 1 < s.N then some (p + 1) else none
  | none => none
theorem next_q {w : World} {X : Nat} {s : Sh} {q : Option Nat} {F : Nat → Prop} (h : It w X s q F) :
    Calls Try.prog 39 #[.pointer (some ⟨X, 0, none⟩)] w (fun e w' => e = .returned (.tuple #[]) ∧ Goes w X s F (nxtQ s q) w') := by
  have h' := h
  obtain ⟨lv, gv2, at_, hb, hx, hr, hF, hlt, hq⟩ := h
  cases q with
  | none =>
    refine (next_none X w hb.cell.2.2.2.1).mono ?_
    rintro e w' ⟨rfl, rfl⟩
    exact ⟨rfl, F, h', Fr.refl _ _, fun b h => .inl h⟩
  | some p =>
    obtain ⟨h1, h2, h3, h4⟩ := hq p rfl
    obtain ⟨i, hi⟩ := who_lt h1
    have hb : Bk w X s at_ lv gv2 (who s p) := hb
    have h4 : Line w X s at_ lv (hereV s (who s p)) := h4
    rw [hi] at hb h4
    rw [h3] at hb
    subst h2
    exact (next_w X i s _ lv w hb hx h4).mono (fun e w' ⟨he, h⟩ => ⟨he, OnEnd.goes (p := p + 1) h (by omega) hx hr hF hlt⟩)
theorem prev_q {w : World} {X : Nat} {s : Sh} {q : Option Nat} {F : Nat → Prop} (h : It w X s q F) :
    Calls Try.prog 40 #[.pointer (some ⟨X, 0, none⟩)] w (fun e w' => e = .returned (.tuple #[]) ∧ Goes w X s F (prvQ q) w') := by
  have h' := h
  obtain ⟨lv, gv2, at_, hb, hx, hr, hF, hlt, hq⟩ := h
  cases q with
  | none =>
    refine (prev_none X w hb.cell.2.2.2.1).mono ?_
    rintro e w' ⟨rfl, rfl⟩
    exact ⟨rfl, F, h', Fr.refl _ _, fun b h => .inl h⟩
  | some p =>
    obtain ⟨h1, h2, h3, h4⟩ := hq p rfl
    obtain ⟨i, hi⟩ := who_lt h1
    have hb : Bk w X s at_ lv gv2 (who s p) := hb
    rw [hi] at hb
    subst h2
    refine (prev_w X i s _ lv gv2 w hb hx (who_some hi).1 (by rw [ats_some hi, upd_same]; omega) (fun j _ => ats_le s _ j)).mono (fun e w' ⟨he, h⟩ => ⟨he, ?_⟩)
    rw [ats_back hi] at h
    exact BackEnd.goes h (by omega) hx hr hF
theorem last_q {w : World} {X : Nat} {s : Sh} {q : Option Nat} {F : Nat → Prop} (h : It w X s q F) :
    Calls Try.prog 42 #[.pointer (some ⟨X, 0, none⟩)] w (fun e w' => e = .returned (.tuple #[]) ∧ Goes w X s F (prvQ (some s.N)) w') := by
  obtain ⟨lv, gv2, at_, hb, hx, hr, hF, hlt, hq⟩ := h
  refine (last_w X s at_ lv gv2 _ w hb hx).mono (fun e w' ⟨he, h⟩ => ⟨he, ?_⟩)
  rw [show (fun j => (s.l j).length) = ats s s.N from funext (fun j => (ats_end s j).symm)] at h
  exact BackEnd.goes h (Nat.le_refl _) hx hr hF
def told (s : Sh) : Option Nat → PC.S44 × Bool
  | some p => (itm s p, true)
  | none => (PC.z44, false)
theorem at_q {w : World} {X : Nat} {s : Sh} {q : Option Nat} {F : Nat → Prop} (h : It w X s q F) :
    Calls Try.prog 38 #[.pointer (some ⟨X, 0, none⟩)] w (fun e w' => e = .returned (.tuple #[val44 (told s q).1, .bool (told s q).2]) ∧ Below w.heap.size w w') := by
  obtain ⟨lv, gv2, at_, hb, hx, hr, hF, hlt, hq⟩ := h
  cases q with
  | none => exact at_none X w hb.cell.2.2.2.1
  | some p =>
    obtain ⟨h1, h2, h3, h4⟩ := hq p rfl
    obtain ⟨i, hi⟩ := who_lt h1
    have hb : Bk w X s at_ lv gv2 (who s p) := hb
    rw [hi] at hb
    subst h2
    have := at_w X i s _ lv gv2 w hb hx (who_some hi).1 (by rw [ats_some hi, upd_same]; omega) (ats_le s _ i)
    rw [itm_last hi] at this
    exact this
end Go.Proofs.Ytehoojmalhloeaa.CM

/-! merge: an iterator that a call made itself; the statement's awake. -/
namespace Go.Proofs.Ytehoojmalhloeaa.CM
open Go.RowKit Go.Proofs.YtehoojmalhloeaaW.PrintWords
set_option linter.unusedVariables false
set_option linter.unusedSimpArgs false
set_option maxRecDepth 100000

/-- An iterator that is new since w0. -/
structure Nw (w0 w : World) (X : Nat) (s : Sh) (q : Option Nat) (F : Nat → Prop) : Prop where
  it : It w X s q F
  lo : ∀ b, F b → w0.heap.size ≤ b
  bel : Below w0.heap.size w0 w
theorem It.lt {w : World} {X : Nat} {s : Sh} {q : Option Nat} {F : Nat → Prop} (h : It w X s q F) {b : Nat} (hb : F b) : b < w.heap.size := by
  obtain ⟨lv, gv2, at_, hk, hx, hr, hF, hlt, hq⟩ := h
  rcases (hF b).1 hb with rfl | h | ⟨i, hi, rfl⟩ | ⟨h0, rfl⟩ | ⟨i, hi, h0, a, ea, rfl⟩
  · exact hk.lt
  · exact hlt b h
  · exact (Array.getElem?_eq_some_iff.1 (hk.cs.cur i hi)).1
  · have := World.block_lt_of_cell? _ _ (hk.cs.gl 0 h0).2
    exact this
  · exact (hk.cs.ents i hi).lt h0 ea
theorem Mk.nw {w0 w : World} {X : Nat} {s : Sh} (h : Mk w0 w X s) (hr : ∀ j, j < s.n → risesB (s.l j) = true) : Nw w0 w X s none (Foot X s (.slice none 0 0)) := by
  refine ⟨⟨.slice none 0 0, .slice none 0 0, fun _ => 0, h.bk, h.fx, fun i hi => pw_of_rises _ (hr i hi), fun b => Iff.rfl, (by intro k hk; cases hk), (by intro p hp; cases hp)⟩, fun b hb => ?_, h.bel⟩
  rcases hb with rfl | h1 | ⟨i, hi, rfl⟩ | ⟨h0, rfl⟩ | ⟨i, hi, h0, a, ea, rfl⟩
  · exact h.nx
  · cases h1
  · exact h.nc i hi
  · exact own_base h.own _ (by rw [(h.bk.cs.gl 0 h0).1]; rfl)
  · exact h.nA i hi h0 a ea
section
variable {w0 w w1 : World} {X : Nat} {s : Sh} {q q' : Option Nat} {F : Nat → Prop}
theorem Nw.goes (h : Nw w0 w X s q F) (g : Goes w X s F q' w1) : ∃ F', Nw w0 w1 X s q' F' ∧ Fr F w w1 ∧ ∀ b, F' b → F b ∨ (w.heap.size ≤ b ∧ b < w1.heap.size) := by
  obtain ⟨F', h1, h2, h3⟩ := g
  refine ⟨F', ⟨h1, fun b hb => ?_, h.bel.trans (h2.to_below h.bel.size h.lo)⟩, h2, h3⟩
  rcases h3 b hb with h4 | h4
  · exact h.lo b h4
  · have := h.bel.size; omega
theorem Nw.below (h : Nw w0 w X s q F) (hb : Below w.heap.size w w1) : Nw w0 w1 X s q F := ⟨h.it.below hb, h.lo, h.bel.trans (hb.mono h.bel.size)⟩
/-- A block that is not the iterator's stays. -/
structure Kp (w : World) (F : Nat → Prop) (b : Nat) (o : Obj) : Prop where
  blk : w.heap[b]? = some o
  nf : ¬ F b
theorem Kp.fr {F' : Nat → Prop} {b : Nat} {o : Obj} (h : Kp w F b o) (hf : Fr F w w1) (hn : ∀ b, F' b → F b ∨ (w.heap.size ≤ b ∧ b < w1.heap.size)) : Kp w1 F' b o := by
  have hl := (Array.getElem?_eq_some_iff.1 h.blk).1
  refine ⟨(hf.block b hl h.nf).trans h.blk, fun h1 => ?_⟩
  rcases hn b h1 with h2 | h2
  · exact h.nf h2
  · omega
theorem Kp.below {b : Nat} {o : Obj} (h : Kp w F b o) (hb : Below w.heap.size w w1) : Kp w1 F b o := ⟨(hb.block b (Array.getElem?_eq_some_iff.1 h.blk).1).trans h.blk, h.nf⟩
theorem Kp.new (h : It w X s q F) (o : Obj) : Kp (w.alloc o) F w.heap.size o := ⟨World.alloc_heap_new w o, fun h1 => by have := h.lt h1; omega⟩
end

def wA : List PC.S44 := [⟨⟨⟨#[97]⟩, 2, 0⟩, ⟨#[]⟩⟩, ⟨⟨⟨#[98]⟩, 1, 0⟩, ⟨#[]⟩⟩]
def wB : List PC.S44 := [⟨⟨⟨#[97]⟩, 3, 0⟩, ⟨#[]⟩⟩]
theorem wA_rises : risesB wA = true := by decide
theorem wB_rises : risesB wB = true := by decide
theorem w_who (G : Nat) (ga : Option Addr) (gc : Nat) (C : Nat → Nat) (A : Nat → Option Addr) (cp : Nat → Nat) :
    (⟨[wA, wB], G, ga, gc, C, A, cp⟩ : Sh).N = 3 ∧ itm ⟨[wA, wB], G, ga, gc, C, A, cp⟩ 0 = wB.getD 0 PC.z44 ∧ itm ⟨[wA, wB], G, ga, gc, C, A, cp⟩ 1 = wA.getD 0 PC.z44 := by
  refine ⟨by rfl, by rfl, by rfl⟩

attribute [local go_sem high] PC.eqA44
set_option maxHeartbeats 16000000 in
theorem awake16_w (w : World) : Calls Try.prog 34 #[] w fun e w' => e = .returned (.bool true) ∧ Below w.heap.size w w' := by
  obtain ⟨W1, hW1⟩ : ∃ W1, w.alloc (.cells #[.string ⟨#[97]⟩, .int .u64 2, .int .i64 0, .string ⟨#[]⟩, .string ⟨#[98]⟩, .int .u64 1, .int .i64 0, .string ⟨#[]⟩] 44) = W1 := ⟨_, rfl⟩
  have hs1 : w.heap.size < W1.heap.size := by rw [← hW1]; simp
  have B1 : Below w.heap.size w W1 := by rw [← hW1]; exact (Below.refl _ _).alloc (Nat.le_refl _) _
  have C1 : Kd.C PC.k44 W1 (some ⟨w.heap.size, 0, none⟩) 2 wA := by
    rw [← hW1]
    exact C44_block (W := w.alloc _) (xs := wA) (World.alloc_heap_new w _) (by decide)
  have K1 : W1.heap[w.heap.size]? = some (.cells #[.string ⟨#[97]⟩, .int .u64 2, .int .i64 0, .string ⟨#[]⟩, .string ⟨#[98]⟩, .int .u64 1, .int .i64 0, .string ⟨#[]⟩] 44) := by rw [← hW1]; exact World.alloc_heap_new w _
  obtain ⟨W2, hW2⟩ : ∃ W2, W1.alloc (.cells #[.string ⟨#[97]⟩, .int .u64 3, .int .i64 0, .string ⟨#[]⟩] 44) = W2 := ⟨_, rfl⟩
  have B2 : Below W1.heap.size W1 W2 := by rw [← hW2]; exact (Below.refl _ _).alloc (Nat.le_refl _) _
  have C2 : Kd.C PC.k44 W2 (some ⟨W1.heap.size, 0, none⟩) 1 wB := by
    rw [← hW2]
    exact C44_block (W := W1.alloc _) (xs := wB) (World.alloc_heap_new W1 _) (by decide)
  have K2 : W2.heap[W1.heap.size]? = some (.cells #[.string ⟨#[97]⟩, .int .u64 3, .int .i64 0, .string ⟨#[]⟩] 44) := by rw [← hW2]; exact World.alloc_heap_new W1 _
  have C3 := C_two (c1 := 2) (c2 := 1) (keepC C1 (Nat.le_refl _) B2) (by decide) C2 (by decide) (show 2 = wA.length from rfl) (show 1 = wB.length from rfl)
  obtain ⟨W3, hW3⟩ : ∃ W3, W2.alloc (.cells #[.slice (some ⟨w.heap.size, 0, none⟩) 2 2, .slice (some ⟨W1.heap.size, 0, none⟩) 1 1] 22) = W3 := ⟨_, rfl⟩
  have B3 : Below W2.heap.size W2 W3 := by rw [← hW3]; exact (Below.refl _ _).alloc (Nat.le_refl _) _
  rw [hW3] at C3
  have N1 := new_w _ 2 [wA, wB] W3 C3 (by decide) (fun j hj => by
    rcases j with _ | _ | j
    · decide
    · decide
    · exact absurd (show j + 1 + 1 < 2 from hj) (by omega))
  have N2 := N1.mono (fun e w' h => (show ∃ X s, e = .returned (.tuple #[.pointer (some ⟨X, 0, none⟩), .int .i64 0]) ∧ s.L = [wA, wB] ∧ Mk W3 w' X s from by
    rcases h with ⟨_, ⟨j, hj, hr⟩, _⟩ | ⟨X, s, h1, _, h2, h3⟩
    · rcases j with _ | _ | j
      · exact absurd (hr.symm.trans wA_rises) (by decide)
      · exact absurd (hr.symm.trans wB_rises) (by decide)
      · exact absurd (show j + 1 + 1 < 2 from hj) (by omega)
    · exact ⟨X, s, h1, h2, h3⟩))
  have HN := Lib.hid N2
  have H0 := Lib.hid (And.intro hs1 (And.intro B1 (And.intro B2 (And.intro B3 (And.intro K1 K2)))))
  clear N1 N2 C1 C2 C3 B1 B2 B3 K1 K2 hs1
  go_enter Try.func34, Try.ntmps34
  go_wp2_with (first | rw [hW3] | rw [hW2] | rw [hW1])
  refine HN.out.mono ?_
  rintro e w4 ⟨X, s, rfl, hL, hM⟩
  have N4 := hM.nw (fun j hj => by
    have hn : s.n = 2 := by show s.L.length = 2; rw [hL]; rfl
    rcases j with _ | _ | j
    · show risesB (s.L.getD 0 []) = true; rw [hL]; exact wA_rises
    · show risesB (s.L.getD 1 []) = true; rw [hL]; exact wB_rises
    · omega)
  have hs : s.N = 3 ∧ itm s 0 = wB.getD 0 PC.z44 ∧ itm s 1 = wA.getD 0 PC.z44 := by
    obtain ⟨L, G, ga, gc, C, A, cp⟩ := s
    subst hL
    exact w_who G ga gc C A cp
  have HS := Lib.hid hs
  obtain ⟨F4, hF4⟩ : ∃ F, Foot X s (.slice none 0 0) = F := ⟨_, rfl⟩
  rw [hF4] at N4
  have H4 := Lib.hid N4
  clear hL hM N4 hs hF4 HN
  go_wp2_with fail
  refine (first_q H4.out.it).mono ?_
  rintro e w5 ⟨rfl, g5⟩
  rw [HS.out.1] at g5
  obtain ⟨F5, N5, f5, n5⟩ := H4.out.goes g5
  have H5 := Lib.hid N5
  clear g5 N5 f5 n5
  go_wp2_with fail
  refine (at_q H5.out.it).mono ?_
  rintro e w6 ⟨rfl, b6⟩
  have H6 := Lib.hid (H5.out.below b6)
  clear b6
  have t0 : told s (some 0) = (⟨⟨⟨#[97]⟩, 3, 0⟩, ⟨#[]⟩⟩, true) := by show (itm s 0, true) = _; rw [HS.out.2.1]; rfl
  rw [if_pos (by decide), t0]
  simp only [val44]
  clear t0
  go_wp2_with fail
  obtain ⟨W6, hW6⟩ : ∃ W6, w6.alloc (.cells #[.string ⟨#[97]⟩, .int .u64 3, .int .i64 0, .string ⟨#[]⟩] 44) = W6 := ⟨_, rfl⟩
  have bl6 : Below w6.heap.size w6 W6 := by rw [← hW6]; exact (Below.refl _ _).alloc (Nat.le_refl _) _
  have N6 := H6.out.below bl6
  have K6 := Kp.new H6.out.it (.cells #[.string ⟨#[97]⟩, .int .u64 3, .int .i64 0, .string ⟨#[]⟩] 44)
  rw [hW6] at K6
  have L6 := Lib.hid (And.intro N6 K6)
  have BK6 := Lib.hid bl6
  clear N6 K6 bl6
  try rw [hW6]
  refine (next_q L6.out.1.it).mono ?_
  rintro e w7 ⟨rfl, g⟩
  obtain ⟨F7, N, f, n⟩ := L6.out.1.goes g
  have M7 := Lib.hid (And.intro N (And.intro f n))
  clear g N f n
  go_wp2_with fail
  refine (at_q M7.out.1.it).mono ?_
  rintro e w8 ⟨rfl, b⟩
  have H8 := Lib.hid (M7.out.1.below b)
  have P8 := Lib.hid b
  clear b
  have t0 : told s (some 1) = (⟨⟨⟨#[97]⟩, 2, 0⟩, ⟨#[]⟩⟩, true) := by show (itm s 1, true) = _; rw [HS.out.2.2]; rfl
  rw [show nxtQ s (if 0 < 3 then some 0 else none) = some 1 from (by rw [if_pos (by decide)]; show (if 0 + 1 < s.N then _ else _) = _; rw [HS.out.1]; rfl), t0]
  simp only [val44]
  clear t0
  go_wp2_with fail
  obtain ⟨W8, hW8⟩ : ∃ W8, w8.alloc (.cells #[.string ⟨#[97]⟩, .int .u64 2, .int .i64 0, .string ⟨#[]⟩] 44) = W8 := ⟨_, rfl⟩
  have bl8 : Below w8.heap.size w8 W8 := by rw [← hW8]; exact (Below.refl _ _).alloc (Nat.le_refl _) _
  have N8 := H8.out.below bl8
  have K8 := Kp.new H8.out.it (.cells #[.string ⟨#[97]⟩, .int .u64 2, .int .i64 0, .string ⟨#[]⟩] 44)
  rw [hW8] at K8
  have L8 := Lib.hid (And.intro N8 K8)
  have BK8 := Lib.hid bl8
  clear N8 K8 bl8
  try rw [hW8]
  refine (prev_q L8.out.1.it).mono ?_
  rintro e w9 ⟨rfl, g⟩
  obtain ⟨F9, N, f, n⟩ := L8.out.1.goes g
  have M9 := Lib.hid (And.intro N (And.intro f n))
  clear g N f n
  go_wp2_with fail
  refine (at_q M9.out.1.it).mono ?_
  rintro e w10 ⟨rfl, b⟩
  have H10 := Lib.hid (M9.out.1.below b)
  have P10 := Lib.hid b
  clear b
  have t0 : told s (some 0) = (⟨⟨⟨#[97]⟩, 3, 0⟩, ⟨#[]⟩⟩, true) := by show (itm s 0, true) = _; rw [HS.out.2.1]; rfl
  rw [show prvQ (nxtQ s (if 0 < 3 then some 0 else none)) = some 0 from (by rw [if_pos (by decide)]; show prvQ (if 0 + 1 < s.N then _ else _) = _; rw [HS.out.1]; rfl), t0]
  simp only [val44]
  clear t0
  go_wp2_with fail
  obtain ⟨W10, hW10⟩ : ∃ W10, w10.alloc (.cells #[.string ⟨#[97]⟩, .int .u64 3, .int .i64 0, .string ⟨#[]⟩] 44) = W10 := ⟨_, rfl⟩
  have bl10 : Below w10.heap.size w10 W10 := by rw [← hW10]; exact (Below.refl _ _).alloc (Nat.le_refl _) _
  have N10 := H10.out.below bl10
  have K10 := Kp.new H10.out.it (.cells #[.string ⟨#[97]⟩, .int .u64 3, .int .i64 0, .string ⟨#[]⟩] 44)
  rw [hW10] at K10
  have L10 := Lib.hid (And.intro N10 K10)
  have BK10 := Lib.hid bl10
  clear N10 K10 bl10
  try rw [hW10]
  refine (prev_q L10.out.1.it).mono ?_
  rintro e w11 ⟨rfl, g⟩
  obtain ⟨F11, N, f, n⟩ := L10.out.1.goes g
  have M11 := Lib.hid (And.intro N (And.intro f n))
  clear g N f n
  go_wp2_with fail
  refine (at_q M11.out.1.it).mono ?_
  rintro e w12 ⟨rfl, b⟩
  have H12 := Lib.hid (M11.out.1.below b)
  have P12 := Lib.hid b
  clear b
  have t0 : told s none = (PC.z44, false) := rfl
  rw [show prvQ (prvQ (nxtQ s (if 0 < 3 then some 0 else none))) = none from (by rw [if_pos (by decide)]; show prvQ (prvQ (if 0 + 1 < s.N then _ else _)) = _; rw [HS.out.1]; rfl), t0]
  simp only [val44, PC.z44, PC.z42]
  clear t0
  go_wp2_with fail
  obtain ⟨W12, hW12⟩ : ∃ W12, w12.alloc (.cells #[.string ⟨#[]⟩, .int .u64 0, .int .i64 0, .string ⟨#[]⟩] 44) = W12 := ⟨_, rfl⟩
  have bl12 : Below w12.heap.size w12 W12 := by rw [← hW12]; exact (Below.refl _ _).alloc (Nat.le_refl _) _
  have N12 := H12.out.below bl12
  have K12 := Kp.new H12.out.it (.cells #[.string ⟨#[]⟩, .int .u64 0, .int .i64 0, .string ⟨#[]⟩] 44)
  rw [hW12] at K12
  have L12 := Lib.hid (And.intro N12 K12)
  have BK12 := Lib.hid bl12
  clear N12 K12 bl12
  try rw [hW12]
  -- what was told lies where it lay
  have k8 := ((L6.out.2.fr M7.out.2.1 M7.out.2.2).below P8.out).below BK8.out
  have k10 := ((k8.fr M9.out.2.1 M9.out.2.2).below P10.out).below BK10.out
  have k12 := ((k10.fr M11.out.2.1 M11.out.2.2).below P12.out).below BK12.out
  have j10 := ((L8.out.2.fr M9.out.2.1 M9.out.2.2).below P10.out).below BK10.out
  have j12 := ((j10.fr M11.out.2.1 M11.out.2.2).below P12.out).below BK12.out
  have i12 := ((L10.out.2.fr M11.out.2.1 M11.out.2.2).below P12.out).below BK12.out
  have bA := L12.out.1.bel
  obtain ⟨z1, z2, z3, z4, z5, z6⟩ := H0.out
  have a12 : W12.heap[w.heap.size]? = _ := (bA.block _ (by have := z3.size; have := z4.size; omega)).trans ((z4.block _ (by have := z3.size; omega)).trans ((z3.block _ (by omega)).trans z5))
  have b12 : W12.heap[W1.heap.size]? = _ := (bA.block _ (by have := z4.size; have := (Array.getElem?_eq_some_iff.1 z6).1; omega)).trans ((z4.block _ (Array.getElem?_eq_some_iff.1 z6).1).trans z6)
  have p0 : W12.cell? ⟨w6.heap.size, 0, none⟩ = some (.string ⟨#[97]⟩) := by simp [World.cell?, k12.blk]
  have p1 : W12.cell? ⟨w6.heap.size, 1, none⟩ = some (.int .u64 3) := by simp [World.cell?, k12.blk]
  have p2 : W12.cell? ⟨w6.heap.size, 2, none⟩ = some (.int .i64 0) := by simp [World.cell?, k12.blk]
  have p3 : W12.cell? ⟨w6.heap.size, 3, none⟩ = some (.string ⟨#[]⟩) := by simp [World.cell?, k12.blk]
  have q0 : W12.cell? ⟨w8.heap.size, 0, none⟩ = some (.string ⟨#[97]⟩) := by simp [World.cell?, j12.blk]
  have q1 : W12.cell? ⟨w8.heap.size, 1, none⟩ = some (.int .u64 2) := by simp [World.cell?, j12.blk]
  have q2 : W12.cell? ⟨w8.heap.size, 2, none⟩ = some (.int .i64 0) := by simp [World.cell?, j12.blk]
  have q3 : W12.cell? ⟨w8.heap.size, 3, none⟩ = some (.string ⟨#[]⟩) := by simp [World.cell?, j12.blk]
  have r0 : W12.cell? ⟨w10.heap.size, 0, none⟩ = some (.string ⟨#[97]⟩) := by simp [World.cell?, i12.blk]
  have r1 : W12.cell? ⟨w10.heap.size, 1, none⟩ = some (.int .u64 3) := by simp [World.cell?, i12.blk]
  have r2 : W12.cell? ⟨w10.heap.size, 2, none⟩ = some (.int .i64 0) := by simp [World.cell?, i12.blk]
  have r3 : W12.cell? ⟨w10.heap.size, 3, none⟩ = some (.string ⟨#[]⟩) := by simp [World.cell?, i12.blk]
  have s_0 : W12.cell? ⟨w.heap.size, 0, none⟩ = some (.string ⟨#[97]⟩) := by simp [World.cell?, a12]
  have s_1 : W12.cell? ⟨w.heap.size, 1, none⟩ = some (.int .u64 2) := by simp [World.cell?, a12]
  have s_2 : W12.cell? ⟨w.heap.size, 2, none⟩ = some (.int .i64 0) := by simp [World.cell?, a12]
  have s_3 : W12.cell? ⟨w.heap.size, 3, none⟩ = some (.string ⟨#[]⟩) := by simp [World.cell?, a12]
  have t_0 : W12.cell? ⟨W1.heap.size, 0, none⟩ = some (.string ⟨#[97]⟩) := by simp [World.cell?, b12]
  have t_1 : W12.cell? ⟨W1.heap.size, 1, none⟩ = some (.int .u64 3) := by simp [World.cell?, b12]
  have t_2 : W12.cell? ⟨W1.heap.size, 2, none⟩ = some (.int .i64 0) := by simp [World.cell?, b12]
  have t_3 : W12.cell? ⟨W1.heap.size, 3, none⟩ = some (.string ⟨#[]⟩) := by simp [World.cell?, b12]
  have HF : Hid (Below w.heap.size w W12) := Lib.hid (by
    have b1 : Below w.heap.size w W3 := (z2.trans (z3.mono (by omega))).trans (z4.mono (by have := z3.size; omega))
    exact b1.trans (bA.mono (by have := b1.size; exact this)))
  clear k8 k10 k12 j10 j12 i12 bA z1 z2 z3 z4 z5 z6 a12 b12
  go_quiet (fail)
  go_wp2_with fail
  go_ret
  exact ⟨rfl, HF.out.os, HF.out.tape, HF.out.output, HF.out.size, HF.out.block⟩
end Go.Proofs.Ytehoojmalhloeaa.CM
