/- view: what it goes through (entries), as an iterator. -/
import Derived.Test.YtehoojmalhloeaaVA
import Derived.Test.YtehoojmalhloeaaNR
import Derived.Shelf.Abstract
import Derived.Shelf.AbstractIn
namespace Go.Proofs.Ytehoojmalhloeaa.CM
open Go.RowKit Go.Proofs.YtehoojmalhloeaaW.PrintWords
set_option linter.unusedVariables false
set_option linter.unusedSimpArgs false
set_option maxRecDepth 100000

/-- The places, one behind the other. -/
def itq (nx : Option Nat → Option Nat) (q : Option Nat) : Nat → Option Nat
  | 0 => q
  | j + 1 => nx (itq nx q j)
/-- These come from there on. -/
def Way (s : Sh) (nx : Option Nat → Option Nat) (q : Option Nat) (xs : List PC.S44) : Prop := ∀ j, j < xs.length → ∃ p, itq nx q j = some p ∧ xs[j]? = some (itm s p)
theorem Way.nil (s : Sh) (nx : Option Nat → Option Nat) (q : Option Nat) : Way s nx q [] := fun j h => absurd h (Nat.not_lt_zero j)
theorem Way.snoc {s : Sh} {nx : Option Nat → Option Nat} {q : Option Nat} {xs : List PC.S44} {p : Nat} (h : Way s nx q xs) (hp : itq nx q xs.length = some p) : Way s nx q (xs ++ [itm s p]) := fun j hj => by
  by_cases e : j < xs.length
  · obtain ⟨p', h1, h2⟩ := h j e
    exact ⟨p', h1, by rw [List.getElem?_append_left e]; exact h2⟩
  · have : j = xs.length := by simp at hj; omega
    subst this
    exact ⟨p, hp, by simp⟩
/-- A step of the iterator: it goes. -/
def RelX (X : Nat) (s : Sh) (D : Nat) (A B : World) : Prop := ∃ q F q', It A X s q F ∧ Goes A X s F q' B ∧ ¬ F D ∧ ¬ F (D + 1) ∧ D + 1 < A.heap.size
theorem RelX.kd {X D : Nat} {s : Sh} {A B : World} (h : RelX X s D A B) : KD D A B := by
  obtain ⟨q, F, q', _, ⟨F', _, hf, _⟩, h1, h2, h3⟩ := h
  exact ⟨hf.block D (by omega) h1, hf.block (D + 1) h3 h2⟩
/-- The iterator's blocks are what they are. -/
theorem It.uniq {w : World} {X : Nat} {s : Sh} {q q2 : Option Nat} {F F2 : Nat → Prop} (h : It w X s q F) (h2 : It w X s q2 F2) (b : Nat) : F b ↔ F2 b := by
  obtain ⟨lv, gv2, at_, hb, _, _, hF, _⟩ := h
  obtain ⟨lv', gv2', at', hb', _, _, hF', _⟩ := h2
  have e := hb.x.symm.trans hb'.x
  simp only [Option.some.injEq, Obj.cells.injEq, Array.mk.injEq, List.cons.injEq] at e
  obtain ⟨⟨_, e2, _⟩, _⟩ := e
  subst e2
  rw [hF, hF']
/-- The iterator is somewhere, in blocks of its first ones or new ones. -/
def BX (w : World) (X : Nat) (s : Sh) (F0 : Nat → Prop) (m : Nat) : Prop := ∃ q F, It w X s q F ∧ ∀ b, F b → F0 b ∨ m ≤ b
theorem BX.rel {X D m : Nat} {s : Sh} {A B : World} {F0 : Nat → Prop} (h : BX A X s F0 m) (hr : RelX X s D A B) (hm : m ≤ D + 2) : BX B X s F0 m ∧ Fr (fun b => F0 b ∨ m ≤ b) A B := by
  obtain ⟨q, F, hi, hF⟩ := h
  obtain ⟨q2, F2, q', hi2, ⟨F', hi', hf, hn⟩, h1, h2, h3⟩ := hr
  refine ⟨⟨q', F', hi', fun b hb => ?_⟩, hf.mono (fun b _ hb => hF b ((hi.uniq hi2 b).2 hb))⟩
  rcases hn b hb with h | h
  · exact hF b ((hi.uniq hi2 b).2 h)
  · exact .inr (by omega)
theorem BX.fr {X m : Nat} {s : Sh} {A B : World} {F0 P : Nat → Prop} (h : BX A X s F0 m) (hf : Fr P A B) (hd : ∀ b, P b → ¬ F0 b ∧ b < m) : BX B X s F0 m := by
  obtain ⟨q, F, hi, hF⟩ := h
  refine ⟨q, F, hi.fr hf (fun b _ hP hFb => ?_), hF⟩
  rcases hF b hFb with h | h
  · exact (hd b hP).1 h
  · have := (hd b hP).2; omega
theorem BX.below {X m : Nat} {s : Sh} {A B : World} {F0 : Nat → Prop} (h : BX A X s F0 m) (hb : Below A.heap.size A B) : BX B X s F0 m := by
  obtain ⟨q, F, hi, hF⟩ := h
  exact ⟨q, F, hi.below hb, hF⟩
/-- What a loop's body may change: its own boxes; the loop's two blocks. -/
def KpX (Bd : Nat → Prop) (D : Nat) (A B : World) : Prop := Fr (fun b => Bd b ∨ b = D ∨ b = D + 1) A B
theorem KpX.trans {Bd : Nat → Prop} {D : Nat} {A B C : World} (h : KpX Bd D A B) (k : KpX Bd D B C) : KpX Bd D A C := Fr.trans h k (fun _ _ h => h)

theorem cells_fr' {w : World} {g m : Nat} {y : PC.S44} (h : w.heap[g]? = some (obj y)) : w.frozen? ⟨g, m, none⟩ = false := by unfold obj at h; simp [World.frozen?, h]
/-- What the iterator holds. -/
structure En (w0 w : World) (X V b1 b2 g : Nat) (s : Sh) (q : Option Nat) (F0 : Nat → Prop) (kb : Nat) (y : PC.S44) : Prop where
  it : ∃ F, It w X s q F ∧ (∀ b, F b → F0 b ∨ w0.heap.size + 2 ≤ b) ∧ ¬ F kb
  k1 : w.heap[b1]? = some (.cells #[.pointer (some ⟨V, 0, none⟩)] 69 (0, 0))
  k2 : w.heap[b2]? = some (.cells #[.func (.func g) #[.pointer (some ⟨X, 0, none⟩)] #[]] 147 (0, 0))
  kv : w.cell? ⟨V, 0, none⟩ = some (.pointer (some ⟨X, 0, none⟩))
  kk : w.heap[kb]? = some (obj y)
  lo : w0.heap.size + 2 ≤ kb
theorem En.cells {w0 w : World} {X V b1 b2 g kb : Nat} {s : Sh} {q : Option Nat} {F0 : Nat → Prop} {y : PC.S44} (h : En w0 w X V b1 b2 g s q F0 kb y) :
    w.cell? ⟨b1, 0, none⟩ = some (.pointer (some ⟨V, 0, none⟩)) ∧ w.cell? ⟨b2, 0, none⟩ = some (.func (.func g) #[.pointer (some ⟨X, 0, none⟩)] #[]) ∧ w.cell? ⟨V, 0, none⟩ = some (.pointer (some ⟨X, 0, none⟩)) :=
  ⟨by simp [World.cell?, h.k1], by simp [World.cell?, h.k2], h.kv⟩
theorem En.kp {w0 w w1 : World} {X V b1 b2 g kb : Nat} {s : Sh} {q : Option Nat} {F0 Bd : Nat → Prop} {y : PC.S44} (h : En w0 w X V b1 b2 g s q F0 kb y) (hk : KpX Bd w0.heap.size w w1)
    (hF : ∀ b, F0 b → b < w0.heap.size) (hV : V < w0.heap.size) (h1 : b1 < w0.heap.size) (h2 : b2 < w0.heap.size) (hBd : ∀ b, Bd b → b < w0.heap.size ∧ ¬ F0 b ∧ b ≠ V ∧ b ≠ b1 ∧ b ≠ b2) : En w0 w1 X V b1 b2 g s q F0 kb y := by
  obtain ⟨⟨F, hi, hF2, hnk⟩, k1, k2, kv, kk, lo⟩ := h
  have hb : ∀ b o, w.heap[b]? = some o → ¬ (Bd b ∨ b = w0.heap.size ∨ b = w0.heap.size + 1) → w1.heap[b]? = some o := fun b o hb hn => (hk.block b (Array.getElem?_eq_some_iff.1 hb).1 hn).trans hb
  have nV : ¬ (Bd V ∨ V = w0.heap.size ∨ V = w0.heap.size + 1) := by
    rintro (h | h | h)
    · exact (hBd _ h).2.2.1 rfl
    · omega
    · omega
  have n1 : ¬ (Bd b1 ∨ b1 = w0.heap.size ∨ b1 = w0.heap.size + 1) := by
    rintro (h | h | h)
    · exact (hBd _ h).2.2.2.1 rfl
    · omega
    · omega
  have n2 : ¬ (Bd b2 ∨ b2 = w0.heap.size ∨ b2 = w0.heap.size + 1) := by
    rintro (h | h | h)
    · exact (hBd _ h).2.2.2.2 rfl
    · omega
    · omega
  have nk : ¬ (Bd kb ∨ kb = w0.heap.size ∨ kb = w0.heap.size + 1) := by
    rintro (h | h | h)
    · have := (hBd _ h).1; omega
    · omega
    · omega
  refine ⟨⟨F, hi.fr hk (fun b _ hP hFb => ?_), hF2, hnk⟩, hb _ _ k1 n1, hb _ _ k2 n2, ?_, hb _ _ kk nk, lo⟩
  · rcases hF2 b hFb with h | h
    · have := hF b h
      rcases hP with hP | hP | hP
      · exact (hBd _ hP).2.1 h
      · omega
      · omega
    · rcases hP with hP | hP | hP
      · have := (hBd _ hP).1; omega
      · omega
      · omega
  · have hl := World.block_lt_of_cell? _ _ kv
    have := hk.block V hl nV
    rw [World.cell?_of_block (w := w) (w' := w1) (a := ⟨V, 0, none⟩) this]
    exact kv
set_option maxHeartbeats 8000000 in
theorem entries1_w (n : Nat) (hn : 1 ≤ n) (w : World) (X V b1 b2 g : Nat) (s : Sh) (q : Option Nat) (F Bd : Nat → Prop) (nx : Option Nat → Option Nat) (ms : Option Nat → Nat)
    (hms : ∀ p, ms (nx (some p)) < ms (some p))
    (hst : ∀ w q F, It w X s q F → Calls Try.prog g #[.pointer (some ⟨X, 0, none⟩)] w (fun e w' => e = .returned (.tuple #[]) ∧ Goes w X s F (nx q) w'))
    (eg : ∀ args W, (callFunc g args).run Try.prog W = .ok (.enter g args) W)
    (hIt : It w X s q F) (hV : w.cell? ⟨V, 0, none⟩ = some (.pointer (some ⟨X, 0, none⟩))) (h1 : w.heap[b1]? = some (.cells #[.pointer (some ⟨V, 0, none⟩)] 69 (0, 0)))
    (h2 : w.heap[b2]? = some (.cells #[.func (.func g) #[.pointer (some ⟨X, 0, none⟩)] #[]] 147 (0, 0)))
    (fV : ¬ F V) (f1 : ¬ F b1) (f2 : ¬ F b2) (hBd : ∀ b, Bd b → b < w.heap.size ∧ ¬ F b ∧ b ≠ V ∧ b ≠ b1 ∧ b ≠ b2) :
    Iter2 Fence.wide n Try.prog 105 #[.pointer (some ⟨b1, 0, none⟩), .pointer (some ⟨b2, 0, none⟩)] (fun x : PC.S44 => #[val44 x]) (RelX X s w.heap.size) (KpX Bd w.heap.size)
      (fun xs => Way s nx q xs ∧ itq nx q xs.length = none) (Way s nx q) w := by
  intro l J Jx W hW hsz hJ hJx hY h0
  have HY := Lib.hid hY
  have HJ := Lib.hid (And.intro hJ hJx)
  have H0 := Lib.hid h0
  have HI := Lib.hid (And.intro (hIt.below hW) (And.intro (blk_below h1 hW) (And.intro (blk_below h2 hW) (cell_up' hV hW))))
  obtain ⟨c1, c2⟩ : W.cell? ⟨b1, 0, none⟩ = some (.pointer (some ⟨V, 0, none⟩)) ∧ W.cell? ⟨V, 0, none⟩ = some (.pointer (some ⟨X, 0, none⟩)) := ⟨by simp [World.cell?, HI.out.2.1], HI.out.2.2.2⟩
  have HF := Lib.hid (And.intro fV (And.intro f1 (And.intro f2 hBd)))
  have HW := Lib.hid (And.intro hW hsz)
  have HS := Lib.hid (And.intro hms (And.intro hst eg))
  have HL := Lib.hid (show (∀ b, F b → b < w.heap.size) ∧ V < w.heap.size ∧ b1 < w.heap.size ∧ b2 < w.heap.size from ⟨fun b hb => hIt.lt hb, World.block_lt_of_cell? _ _ hV, (Array.getElem?_eq_some_iff.1 h1).1, (Array.getElem?_eq_some_iff.1 h2).1⟩)
  clear hJ hJx hY h0 hIt hV h1 h2 fV f1 f2 hBd hW hsz hms hst eg
  refine callsIn_wide.2 ?_
  simp only [List.push_toArray, List.append_toArray, List.nil_append, List.cons_append]
  go_enter Try.func105, Try.ntmps105
  go_wp2_with fail
  refine (at_q HI.out.1).mono ?_
  rintro e w1 ⟨rfl, b⟩
  obtain ⟨y, tb, hyt⟩ : ∃ y tb, told s q = (y, tb) := ⟨_, _, rfl⟩
  have HT := Lib.hid hyt
  rw [hyt]
  clear hyt
  simp only [val44]
  obtain ⟨W1, hW1⟩ : ∃ W1, w1.alloc (.cells #[.string y.f0.f0, .int .u64 y.f0.f1, .int .i64 y.f0.f2, .string y.f1] 44) = W1 := ⟨_, rfl⟩
  have bl1 : Below w1.heap.size w1 W1 := by rw [← hW1]; exact (Below.refl _ _).alloc (Nat.le_refl _) _
  have hk1 : W1.heap[w1.heap.size]? = some (obj y) := by rw [← hW1]; exact World.alloc_heap_new w1 _
  have bW := b.trans (bl1.mono b.size)
  have HE := Lib.hid (show En w W1 X V b1 b2 g s q F w1.heap.size y from ⟨⟨F, HI.out.1.below bW, (fun b h => .inl h), fun h => by have := HI.out.1.lt h; have := b.size; omega⟩, blk_below HI.out.2.1 bW, blk_below HI.out.2.2.1 bW, cell_up' HI.out.2.2.2 bW, hk1, by have := HW.out.2; have := b.size; omega⟩)
  have HJ0 := Lib.hid (HJ.out.1 _ _ _ H0.out ⟨q, F, q, HI.out.1, ⟨F, HI.out.1.below bW, Fr.of_below bW, fun b h => .inl h⟩, fun h => by have := HL.out.1 _ h; omega, fun h => by have := HL.out.1 _ h; omega, by have := HW.out.2; omega⟩)
  clear b bl1 hk1 bW
  go_wp2_with (first | rw [hW1])
  go_loopg [4, 5] (ms q) (fun k t4 t5 wr => ∃ (pre : List PC.S44) (kb : Nat) (y : PC.S44) (tb : Bool), k = ms (itq nx q pre.length) ∧ t4 = .pointer (some ⟨kb, 0, none⟩) ∧ t5 = .bool tb ∧ Hid (Way s nx q pre ∧ told s (itq nx q pre.length) = (y, tb) ∧ J pre wr ∧ En w wr X V b1 b2 g s (itq nx q pre.length) F kb y))
  case atStart => exact ⟨[], _, y, tb, rfl, rfl, rfl, Lib.hid ⟨Way.nil _ _ _, HT.out, HJ0.out, HE.out⟩⟩
  case round =>
    obtain ⟨pre, kb, y, tb, rfl, rfl, rfl, HR⟩ := hrel
    obtain ⟨a0, a1, a2, a3⟩ := obj_cells HR.out.2.2.2.kk
    cases tb
    · go_wp2_with fail
      refine bodyPost_end (results_none rfl _ _ _) rfl ?_
      refine ⟨⟨_, rfl⟩, .inl ⟨pre, ⟨HR.out.1, ?_⟩, HR.out.2.2.1⟩⟩
      cases h : itq nx q pre.length with
      | none => rfl
      | some p => have := HR.out.2.1; rw [h] at this; cases this
    · obtain ⟨p, hp⟩ : ∃ p, itq nx q pre.length = some p := by
        cases h : itq nx q pre.length with
        | none => have := HR.out.2.1; rw [h] at this; cases this
        | some p => exact ⟨p, rfl⟩
      have hyi : itm s p = y := by have := HR.out.2.1; rw [hp] at this; cases this; rfl
      obtain ⟨fn, tmps, assign, body, hy, hR⟩ := HY.out pre y wr HR.out.2.2.1 (by rw [← hyi]; exact HR.out.1.snoc hp)
      have Hp := Lib.hid (And.intro hp hyi)
      clear hp hyi
      unfold val44 at hy
      refine (wpIn_wide (n := n)).1 ?_
      gi_wp2_with fail
      refine hR.mono ?_
      clear hy hR
      rintro e W3 (⟨rfl, hJ3, hk3⟩ | ⟨rfl, hJx3⟩)
      · have E3 := HR.out.2.2.2.kp hk3 HL.out.1 HL.out.2.1 HL.out.2.2.1 HL.out.2.2.2 HF.out.2.2.2
        obtain ⟨g1, g2, g3⟩ := E3.cells
        have HE3 := Lib.hid (And.intro E3 hJ3)
        obtain ⟨F3, hi3, hF3, hn3⟩ := E3.it
        have H3 := Lib.hid (And.intro hi3 (And.intro hF3 hn3))
        have eg := HS.out.2.2
        clear E3 hJ3 hk3 hi3 hF3 hn3 a0 a1 a2 a3
        gi_wp2_with fail
        refine ⟨trivial, (callsIn_wide.2 (HS.out.2.1 _ _ _ H3.out.1)).mono ?_⟩
        rintro e w4 ⟨rfl, g4⟩
        obtain ⟨F4, hi4, hf4, hn4⟩ := g4
        obtain ⟨W5, hW5⟩ : ∃ W5, w4.alloc (.cells #[.string y.f0.f0, .int .u64 y.f0.f1, .int .i64 y.f0.f2, .string y.f1] 44) = W5 := ⟨_, rfl⟩
        have bl5 : Below w4.heap.size w4 W5 := by rw [← hW5]; exact (Below.refl _ _).alloc (Nat.le_refl _) _
        have k5 : W5.heap[w4.heap.size]? = some (obj y) := by rw [← hW5]; exact World.alloc_heap_new w4 _
        have hle4 := hf4.size
        have nF : ∀ b, b < w.heap.size → ¬ F b → ¬ F3 b := fun b hb hn h => by
          rcases H3.out.2.1 b h with h | h
          · exact hn h
          · omega
        have h1lt := HL.out.2.2.1
        have c41 := cell_up' ((World.cell?_of_block (w := W3) (w' := w4) (a := ⟨b1, 0, none⟩) (hf4.block b1 (World.block_lt_of_cell? _ _ g1) (nF _ HL.out.2.2.1 HF.out.2.1))).trans g1) bl5
        have c42 := cell_up' ((World.cell?_of_block (w := W3) (w' := w4) (a := ⟨V, 0, none⟩) (hf4.block V (World.block_lt_of_cell? _ _ g3) (nF _ HL.out.2.1 HF.out.1))).trans g3) bl5
        obtain ⟨a0, a1, a2, a3⟩ := obj_cells ((hf4.block _ (Array.getElem?_eq_some_iff.1 HE3.out.1.kk).1 H3.out.2.2).trans HE3.out.1.kk)
        have H5 := Lib.hid (And.intro (hi4.below bl5) (And.intro k5 (And.intro hf4 (And.intro hn4 (And.intro bl5 nF)))))
        clear hi4 hf4 hn4 bl5 k5 g1 g2 g3 nF h1lt
        gi_wp2_with (first | rw [hW5])
        refine ⟨trivial, (callsIn_wide.2 (at_q H5.out.1)).mono ?_⟩
        rintro e w6 ⟨rfl, b6⟩
        obtain ⟨y2, tb2, hyt2⟩ : ∃ y tb, told s (nx (itq nx q pre.length)) = (y, tb) := ⟨_, _, rfl⟩
        have HT2 := Lib.hid hyt2
        rw [hyt2]
        simp only [val44]
        have k6 := blk_below H5.out.2.1 b6
        obtain ⟨u0, u1, u2, u3⟩ := obj_cells k6
        have v0 := cells_fr' (m := 0) k6
        have v1 := cells_fr' (m := 1) k6
        have v2 := cells_fr' (m := 2) k6
        have v3 := cells_fr' (m := 3) k6
        have H6 := Lib.hid (And.intro k6 b6)
        clear hyt2 k6 b6 c41 c42 a0 a1 a2 a3
        gi_wp2_with fail
        obtain ⟨i5, k5, hf4, hn4, bl5, nF⟩ := H5.out
        obtain ⟨k6, b6⟩ := H6.out
        obtain ⟨W7, hW7⟩ : ∃ W7, ((((w6.setCell ⟨w4.heap.size, 0, none⟩ (.string y2.f0.f0)).setCell ⟨w4.heap.size, 1, none⟩ (.int .u64 y2.f0.f1)).setCell ⟨w4.heap.size, 2, none⟩ (.int .i64 y2.f0.f2)).setCell ⟨w4.heap.size, 3, none⟩ (.string y2.f1)) = W7 := ⟨_, rfl⟩
        have k7 : W7.heap[w4.heap.size]? = some (obj y2) := by
          rw [← hW7]
          unfold obj at k6 ⊢
          exact heap_setCell_same _ _ 3 _ 44 _ (heap_setCell_same _ _ 2 _ 44 _ (heap_setCell_same _ _ 1 _ 44 _ (heap_setCell_same _ _ 0 _ 44 _ k6)))
        have f67 : Fr (fun b => b = w4.heap.size) w6 W7 := by rw [← hW7]; exact (((((Fr.refl (fun b => b = w4.heap.size) w6).set ⟨w4.heap.size, 0, none⟩ _ rfl).set ⟨w4.heap.size, 1, none⟩ _ rfl).set ⟨w4.heap.size, 2, none⟩ _ rfl).set ⟨w4.heap.size, 3, none⟩ _ rfl)
        have hF4 : ∀ b, F4 b → b < w4.heap.size := fun b hb => by
          rcases hn4 b hb with h | h
          · have := H3.out.1.lt h; omega
          · exact h.2
        have i7 : It W7 X s (nx (itq nx q pre.length)) F4 := (i5.below b6).fr f67 (fun b _ hb hF => by have := hF4 b hF; omega)
        have f37 : Fr F3 W3 W7 := ((hf4.below bl5).below b6).trans f67 (fun b hb e => by omega)
        have s3 : w.heap.size + 2 ≤ W3.heap.size := by have h1 := HE3.out.1.lo; have h2 := (Array.getElem?_eq_some_iff.1 HE3.out.1.kk).1; omega
        have s47 : w4.heap.size < W7.heap.size := (Array.getElem?_eq_some_iff.1 k7).1
        have hJ7 : J (pre ++ [y]) W7 := HJ.out.1 _ _ _ HE3.out.2 ⟨_, F3, _, H3.out.1, ⟨F4, i7, f37, fun b hb => by
          rcases hn4 b hb with h | h
          · exact .inl h
          · exact .inr ⟨h.1, by omega⟩⟩, fun h => by
          rcases H3.out.2.1 _ h with h | h
          · have := HL.out.1 _ h; omega
          · omega, fun h => by
          rcases H3.out.2.1 _ h with h | h
          · have := HL.out.1 _ h; omega
          · omega, by omega⟩
        have hE7 : En w W7 X V b1 b2 g s (nx (itq nx q pre.length)) F w4.heap.size y2 := by
          refine ⟨⟨F4, i7, fun b hb => ?_, fun h => by have := hF4 _ h; omega⟩, ?_, ?_, ?_, k7, by omega⟩
          · rcases hn4 b hb with h | h
            · exact H3.out.2.1 b h
            · exact .inr (by omega)
          · exact (f37.block _ (Array.getElem?_eq_some_iff.1 HE3.out.1.k1).1 (nF _ HL.out.2.2.1 HF.out.2.1)).trans HE3.out.1.k1
          · exact (f37.block _ (Array.getElem?_eq_some_iff.1 HE3.out.1.k2).1 (nF _ HL.out.2.2.2 HF.out.2.2.1)).trans HE3.out.1.k2
          · exact (World.cell?_of_block (w := W3) (w' := W7) (a := ⟨V, 0, none⟩) (f37.block V (World.block_lt_of_cell? _ _ HE3.out.1.kv) (nF _ HL.out.2.1 HF.out.1))).trans HE3.out.1.kv
        have hlen : itq nx q (pre ++ [y]).length = nx (itq nx q pre.length) := by rw [List.length_append]; rfl
        have HZ := Lib.hid (show Way s nx q (pre ++ [y]) ∧ told s (itq nx q (pre ++ [y]).length) = (y2, tb2) ∧ J (pre ++ [y]) W7 ∧ En w W7 X V b1 b2 g s (itq nx q (pre ++ [y]).length) F w4.heap.size y2 from
          ⟨by rw [← Hp.out.2]; exact HR.out.1.snoc Hp.out.1, by rw [hlen]; exact HT2.out, hJ7, by rw [hlen]; exact hE7⟩)
        rw [hW7]
        have hms : ms (itq nx q (pre ++ [y]).length) < ms (itq nx q pre.length) := by rw [hlen, Hp.out.1]; exact HS.out.1 p
        have HMS := Lib.hid hms
        clear i5 k5 hf4 hn4 bl5 nF k6 b6 k7 f67 hF4 i7 f37 s3 s47 hJ7 hE7 hlen hms hW7
        go_roundg (ms (itq nx q (pre ++ [y]).length))
        case measure => exact HMS.out
        case rel => exact ⟨pre ++ [y], w4.heap.size, y2, tb2, rfl, rfl, rfl, HZ⟩
      · gi_wp2_with fail
        refine bodyPost_end (results_none rfl _ _ _) rfl ?_
        exact ⟨⟨_, rfl⟩, .inr ⟨pre ++ [y], by rw [← Hp.out.2]; exact HR.out.1.snoc Hp.out.1, hJx3⟩⟩
end Go.Proofs.Ytehoojmalhloeaa.CM
