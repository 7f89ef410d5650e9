/- view: the document's view: where it lies; told; it goes. -/
import Derived.Test.YtehoojmalhloeaaVQ
namespace Go.Proofs.Ytehoojmalhloeaa.CM
open Go.RowKit Go.Proofs.YtehoojmalhloeaaW.PrintWords
set_option linter.unusedVariables false
set_option linter.unusedSimpArgs false
set_option maxRecDepth 100000

/-- An item lies at an address: its two cells. -/
def ElI (w : World) (p : Addr) (y : PC.S76) : Prop := w.cell? p = some (.string y.f0) ∧ w.cell? ⟨p.block, p.off + 1, none⟩ = some (.string y.f1)
theorem ElI.moved {w w1 : World} {p : Addr} {x : PC.S76} (h : ElI w p x) (hb : w1.heap[p.block]? = w.heap[p.block]?) : ElI w1 p x := by
  unfold ElI at *
  simp only [World.cell?] at *
  rw [hb]
  exact h
theorem add_block (a : Addr) (n : Nat) : (a.add n).block = a.block := by unfold Addr.add; split <;> rfl
/-- The document's view: where it lies. -/
structure Rv (w : World) (Rb : Nat) (LA : Option Addr) (cp : Nat) (L : List PC.S76) (at_ : Int) : Prop where
  blk : w.heap[Rb]? = some (.cells #[.slice LA L.length cp, .int .i64 at_] 127 (0, 0))
  c : ∀ j, j < L.length → ∃ ad, LA = some ad ∧ ElI w (ad.add (j * 2)) (L.getD j zi)
  ne : ∀ a, LA = some a → a.block ≠ Rb
  len : L.length ≤ 9223372036854775806
section
variable {w w1 : World} {Rb cp : Nat} {LA : Option Addr} {L : List PC.S76} {at_ : Int}
theorem Rv.cells (h : Rv w Rb LA cp L at_) : w.cell? ⟨Rb, 0, none⟩ = some (.slice LA L.length cp) ∧ w.cell? ⟨Rb, 1, none⟩ = some (.int .i64 at_) ∧ w.frozen? ⟨Rb, 1, none⟩ = false := by
  refine ⟨?_, ?_, ?_⟩ <;> simp [World.cell?, World.frozen?, h.blk]
theorem Rv.lt (h : Rv w Rb LA cp L at_) : Rb < w.heap.size := (Array.getElem?_eq_some_iff.1 h.blk).1
theorem Rv.set (h : Rv w Rb LA cp L at_) (v : Int) : Rv (w.setCell ⟨Rb, 1, none⟩ (.int .i64 v)) Rb LA cp L v := by
  refine ⟨?_, fun j hj => ?_, h.ne, h.len⟩
  · rw [heap_setCell_same w Rb 1 _ 127 _ h.blk]
    rfl
  · obtain ⟨ad, e, h1⟩ := h.c j hj
    refine ⟨ad, e, h1.moved ?_⟩
    refine heap_setCell_other _ _ _ _ ?_
    rw [add_block]
    exact h.ne ad e
theorem Rv.fr {P : Nat → Prop} (h : Rv w Rb LA cp L at_) (hf : Fr P w w1) (h1 : ¬ P Rb) (h2 : ∀ a, LA = some a → ¬ P a.block) : Rv w1 Rb LA cp L at_ := by
  refine ⟨(hf.block _ h.lt h1).trans h.blk, fun j hj => ?_, h.ne, h.len⟩
  obtain ⟨ad, e, h3⟩ := h.c j hj
  refine ⟨ad, e, h3.moved ?_⟩
  have hl := World.block_lt_of_cell? _ _ h3.1
  rw [add_block] at hl ⊢
  exact hf.block _ hl (h2 ad e)
theorem Rv.below (h : Rv w Rb LA cp L at_) (hb : Below w.heap.size w w1) : Rv w1 Rb LA cp L at_ := h.fr (P := fun _ => False) (Fr.of_below hb) (fun h => h) (fun _ _ h => h)
end
theorem vtold_none {w : World} {Rb cp : Nat} {LA : Option Addr} {L : List PC.S76} (h : Rv w Rb LA cp L (-1)) :
    Calls Try.prog 61 #[.pointer (some ⟨Rb, 0, none⟩)] w (fun e w' => e = .returned (.tuple #[val76 zi, .bool false]) ∧ Below w.heap.size w w') := by
  have hx : (w.alloc (.cells #[.string ⟨#[]⟩, .string ⟨#[]⟩] 76)).cell? ⟨Rb, 1, none⟩ = some (.int .i64 (-1)) := cell_up h.cells.2.1
  clear h
  go_enter Try.func61, Try.ntmps61
  go_wp2
  (try simp only [Exit.inBlock, Exit.then])
  refine bodyPost_ret (results_ct rfl _ _ w.heap.size 76 #[.string ⟨#[]⟩, .string ⟨#[]⟩] (0, 0) _ rfl (World.alloc_heap_new w _) Try.underlying76 rfl (by kernel_rfl)) rfl ?_
  exact ⟨rfl, (Below.refl _ w).alloc (Nat.le_refl _) _⟩
set_option maxHeartbeats 4000000 in
theorem vtold_some {w : World} {Rb cp p : Nat} {LA : Option Addr} {L : List PC.S76} (h : Rv w Rb LA cp L (p : Int)) (hp : p < L.length) :
    Calls Try.prog 61 #[.pointer (some ⟨Rb, 0, none⟩)] w (fun e w' => e = .returned (.tuple #[val76 (L.getD p zi), .bool true]) ∧ Below w.heap.size w w') := by
  obtain ⟨x, hx⟩ : ∃ x, L.getD p zi = x := ⟨_, rfl⟩
  rw [hx]
  obtain ⟨W, hW⟩ : ∃ W, w.alloc (.cells #[.string ⟨#[]⟩, .string ⟨#[]⟩] 76) = W := ⟨_, rfl⟩
  have bl : Below w.heap.size w W := by rw [← hW]; exact (Below.refl _ _).alloc (Nat.le_refl _) _
  have hn := World.alloc_heap_new w (.cells #[.string ⟨#[]⟩, .string ⟨#[]⟩] 76)
  obtain ⟨B, hB⟩ : ∃ B, w.heap.size = B := ⟨_, rfl⟩
  rw [hW, hB] at hn
  have h' := h.below bl
  obtain ⟨k10, k11, _⟩ := h'.cells
  obtain ⟨ad, e, Z⟩ := h'.c p hp
  rw [hx] at Z
  have hl := h.len
  obtain ⟨la, hLa⟩ : ∃ m, L.length = m := ⟨_, rfl⟩
  rw [hLa] at k10 hl hp
  subst e
  have p0 : (0 ≤ (p : Int)) = True := by simp
  have p1 : ((p : Int) < la) = True := eq_true (by omega)
  have p2 : (p < la) = True := eq_true hp
  have d0 : decide ((p : Int) < 0) = false := decide_eq_false (by omega)
  obtain ⟨x0, x1⟩ := Z
  have b0 : W.cell? ⟨B, 0, none⟩ = some (.string ⟨#[]⟩) := by simp [World.cell?, hn]
  have b1 : W.cell? ⟨B, 1, none⟩ = some (.string ⟨#[]⟩) := by simp [World.cell?, hn]
  have f0 : W.frozen? ⟨B, 0, none⟩ = false := by simp [World.frozen?, hn]
  have f1 : W.frozen? ⟨B, 1, none⟩ = false := by simp [World.frozen?, hn]
  have HN := Lib.hid (And.intro hn bl)
  clear h h' hx hLa hn bl hl
  go_enter Try.func61, Try.ntmps61
  go_wp2_with (first | rw [hW, hB])
  go_region
  go_wp2_with fail
  (try simp only [Exit.inBlock, Exit.then])
  obtain ⟨hn, bl⟩ := HN.out
  have hp : ((W.setCell ⟨B, 0, none⟩ (.string x.f0)).setCell ⟨B, 1, none⟩ (.string x.f1)).drew.heap[B]? = some (.cells #[.string x.f0, .string x.f1] 76 (0, 0)) :=
    (heap_setCell_same _ B 1 _ 76 _ (heap_setCell_same W B 0 _ 76 _ hn))
  refine bodyPost_ret (results_ct rfl _ _ B 76 _ (0, 0) _ rfl hp Try.underlying76 rfl (by kernel_rfl)) rfl ?_
  refine ⟨rfl, ?_⟩
  have F : Fr (fun b => b = B) w W := Fr.of_below bl
  exact (((F.set _ _ rfl).set _ _ rfl).drew).to_below (Nat.le_refl _ |> fun _ => by omega) (fun b e => by omega)

/-! ### where it goes -/
def refT2 (L : List PC.S76) (kind : Int) (u : ByteArray) (at_ : Int) : Int :=
  if kind = 1 then 0 else if kind = 2 then (L.length : Int) - 1 else if kind = 3 then (rnk L u.toList : Int) else if kind = 4 then (if 0 ≤ at_ then at_ + 1 else at_) else if kind = 5 then (if 0 ≤ at_ then at_ - 1 else at_) else at_
def refGo2 (L : List PC.S76) (kind : Int) (u : ByteArray) (at_ : Int) : Int := if (L.length : Int) ≤ refT2 L kind u at_ then -1 else refT2 L kind u at_
def GoEnd2 (w : World) (Rb cp : Nat) (LA : Option Addr) (L : List PC.S76) (v : Int) (e : Ending) (w' : World) : Prop := e = .returned (.tuple #[]) ∧ Rv w' Rb LA cp L v ∧ Fr (fun b => b = Rb) w w'
theorem rnk_le2 (L : List PC.S76) (u : List UInt8) : rnk L u ≤ L.length := (List.takeWhile_sublist _).length_le
theorem rnk_lt2 {L : List PC.S76} {u : List UInt8} (n : Nat) (h : n < rnk L u) : Op.bytesLess (L.getD n zi).f0.toList u = true := by
  unfold rnk at h
  have hm : (L.takeWhile (fun y => Op.bytesLess y.f0.toList u))[n]? = L[n]? := by
    obtain ⟨t, ht⟩ := List.takeWhile_prefix (l := L) (fun y : PC.S76 => Op.bytesLess y.f0.toList u)
    conv => rhs; rw [← ht]
    rw [List.getElem?_append_left h]
  rw [List.getElem?_eq_getElem h] at hm
  have := List.mem_of_getElem? hm.symm
  rw [List.getD_eq_getElem?_getD, ← hm]
  exact List.all_eq_true.1 (List.all_takeWhile (p := fun y : PC.S76 => Op.bytesLess y.f0.toList u) (l := L)) _ (List.getElem_mem h)
theorem rnk_not2 {u : List UInt8} : ∀ {L : List PC.S76}, rnk L u < L.length → Op.bytesLess (L.getD (rnk L u) zi).f0.toList u = false
  | [], h => absurd h (Nat.not_lt_zero _)
  | x :: t, h => by
    have e : rnk (x :: t) u = if Op.bytesLess x.f0.toList u = true then rnk t u + 1 else 0 := by
      unfold rnk
      rw [List.takeWhile_cons]
      split <;> simp
    rw [e] at h ⊢
    by_cases hx : Op.bytesLess x.f0.toList u = true
    · rw [if_pos hx] at h ⊢
      exact rnk_not2 (L := t) (by simpa using h)
    · rw [if_neg hx]
      simpa using hx
set_option maxHeartbeats 4000000 in
theorem vrefgo1_w {w : World} {Rb cp : Nat} {LA : Option Addr} {L : List PC.S76} {at_ : Int} (h : Rv w Rb LA cp L at_) (u : ByteArray) (hat1 : -1 ≤ at_) (hat2 : at_ < L.length) :
    Calls Try.prog 60 #[.pointer (some ⟨Rb, 0, none⟩), .int .i64 1, .string u] w (GoEnd2 w Rb cp LA L (refGo2 L 1 u at_)) := by
  have hlt := h.lt
  have hlen := h.len
  obtain ⟨r0, r1, r2⟩ := h.cells
  have H0 := Lib.hid (And.intro h (Fr.refl (fun b => b = Rb) w))
  clear h
  go_enter Try.func60, Try.ntmps60
  by_cases hnil : L = []
  · subst hnil
    have hT : refT2 [] 1 u at_ = 0 := by
      unfold refT2
      simp only [if_true, if_false]
    obtain ⟨V, hV⟩ : ∃ V, w.setCell ⟨Rb, 1, none⟩ (.int .i64 (0)) = V := ⟨_, rfl⟩
    have RV := Lib.hid (show Rv V Rb LA cp ([] : List PC.S76) (0) ∧ Fr (fun b => b = Rb) w V from by rw [← hV]; exact ⟨H0.out.1.set _, H0.out.2.set _ _ rfl⟩)
    obtain ⟨s0, s1, s2⟩ := RV.out.1.cells
    by_cases hge : (([] : List PC.S76).length : Int) ≤ 0
    · have dg : decide ((([] : List PC.S76).length : Int) ≤ 0) = true := decide_eq_true hge
      go_wp2_with (first | rw [hV])
      go_quiet (fail)
      obtain ⟨V2, hV2⟩ : ∃ V2, V.drewN nq = V2 := ⟨_, rfl⟩
      have bd : Below V.heap.size V V2 := by rw [← hV2]; exact ⟨rfl, rfl, rfl, Nat.le_refl _, fun _ _ => rfl⟩
      have R2 := RV.out.1.below bd
      obtain ⟨t0, t1, t2⟩ := R2.cells
      have F2 := RV.out.2.below bd
      have HR := Lib.hid (And.intro (R2.set (-1)) (F2.set ⟨Rb, 1, none⟩ (.int .i64 (-1)) rfl))
      rw [hV2]
      clear R2 F2 bd hV2 s0 s1 s2
      go_wp2_with fail
      go_end0
      refine ⟨rfl, ?_, HR.out.2⟩
      rw [show refGo2 ([] : List PC.S76) 1 u at_ = -1 from by unfold refGo2; rw [hT, if_pos (by omega)]]
      exact HR.out.1
    · exact absurd (by simp) hge
  · have hpos : 0 < L.length := List.length_pos_iff.2 hnil
    have hT : refT2 L 1 u at_ = 0 := by
      unfold refT2
      simp only [if_true, if_false]
    obtain ⟨V, hV⟩ : ∃ V, w.setCell ⟨Rb, 1, none⟩ (.int .i64 (0)) = V := ⟨_, rfl⟩
    have RV := Lib.hid (show Rv V Rb LA cp L (0) ∧ Fr (fun b => b = Rb) w V from by rw [← hV]; exact ⟨H0.out.1.set _, H0.out.2.set _ _ rfl⟩)
    obtain ⟨s0, s1, s2⟩ := RV.out.1.cells
    by_cases hge : (L.length : Int) ≤ 0
    · exfalso; omega
    · have dg : decide ((L.length : Int) ≤ 0) = false := decide_eq_false hge
      go_wp2_with (first | rw [hV])
      go_quiet (fail)
      obtain ⟨V2, hV2⟩ : ∃ V2, V.drewN nq = V2 := ⟨_, rfl⟩
      have bd : Below V.heap.size V V2 := by rw [← hV2]; exact ⟨rfl, rfl, rfl, Nat.le_refl _, fun _ _ => rfl⟩
      have HR := Lib.hid (And.intro (RV.out.1.below bd) (RV.out.2.below bd))
      rw [hV2]
      clear bd hV2 s0 s1 s2
      go_wp2_with fail
      go_end0
      refine ⟨rfl, ?_, HR.out.2⟩
      rw [show refGo2 L 1 u at_ = 0 from by unfold refGo2; rw [hT, if_neg (by omega)]]
      exact HR.out.1
set_option maxHeartbeats 4000000 in
theorem vrefgo2_w {w : World} {Rb cp : Nat} {LA : Option Addr} {L : List PC.S76} {at_ : Int} (h : Rv w Rb LA cp L at_) (u : ByteArray) (hat1 : -1 ≤ at_) (hat2 : at_ < L.length) :
    Calls Try.prog 60 #[.pointer (some ⟨Rb, 0, none⟩), .int .i64 2, .string u] w (GoEnd2 w Rb cp LA L (refGo2 L 2 u at_)) := by
  have hlt := h.lt
  have hlen := h.len
  obtain ⟨r0, r1, r2⟩ := h.cells
  have H0 := Lib.hid (And.intro h (Fr.refl (fun b => b = Rb) w))
  clear h
  go_enter Try.func60, Try.ntmps60
  have hT : refT2 L 2 u at_ = (L.length : Int) - 1 := by
    unfold refT2
    simp only [show ((2 : Int) = 1) = False by simp, if_true, if_false]
  have m1 : IntKind.i64.wrap ((L.length : Int) - 1) = (L.length : Int) - 1 := by rw [IntWalk.i64_in _ (by omega)]
  obtain ⟨V, hV⟩ : ∃ V, w.setCell ⟨Rb, 1, none⟩ (.int .i64 ((L.length : Int) - 1)) = V := ⟨_, rfl⟩
  have RV := Lib.hid (show Rv V Rb LA cp L ((L.length : Int) - 1) ∧ Fr (fun b => b = Rb) w V from by rw [← hV]; exact ⟨H0.out.1.set _, H0.out.2.set _ _ rfl⟩)
  obtain ⟨s0, s1, s2⟩ := RV.out.1.cells
  by_cases hge : (L.length : Int) ≤ (L.length : Int) - 1
  · exfalso; omega
  · have dg : decide ((L.length : Int) ≤ (L.length : Int) - 1) = false := decide_eq_false hge
    go_wp2_with (first | rw [hV])
    go_quiet (fail)
    obtain ⟨V2, hV2⟩ : ∃ V2, V.drewN nq = V2 := ⟨_, rfl⟩
    have bd : Below V.heap.size V V2 := by rw [← hV2]; exact ⟨rfl, rfl, rfl, Nat.le_refl _, fun _ _ => rfl⟩
    have HR := Lib.hid (And.intro (RV.out.1.below bd) (RV.out.2.below bd))
    rw [hV2]
    clear bd hV2 s0 s1 s2
    go_wp2_with fail
    go_end0
    refine ⟨rfl, ?_, HR.out.2⟩
    rw [show refGo2 L 2 u at_ = (L.length : Int) - 1 from by unfold refGo2; rw [hT, if_neg (by omega)]]
    exact HR.out.1
set_option maxHeartbeats 4000000 in
theorem vrefgo4_w {w : World} {Rb cp : Nat} {LA : Option Addr} {L : List PC.S76} {at_ : Int} (h : Rv w Rb LA cp L at_) (u : ByteArray) (hat1 : -1 ≤ at_) (hat2 : at_ < L.length) :
    Calls Try.prog 60 #[.pointer (some ⟨Rb, 0, none⟩), .int .i64 4, .string u] w (GoEnd2 w Rb cp LA L (refGo2 L 4 u at_)) := by
  have hlt := h.lt
  have hlen := h.len
  obtain ⟨r0, r1, r2⟩ := h.cells
  have H0 := Lib.hid (And.intro h (Fr.refl (fun b => b = Rb) w))
  clear h
  go_enter Try.func60, Try.ntmps60
  have m1 : IntKind.i64.wrap (at_ + 1) = at_ + 1 := by rw [IntWalk.i64_in _ (by omega)]
  by_cases hpos : 0 ≤ at_
  · have dp : decide (0 ≤ at_) = true := decide_eq_true hpos
    have hT : refT2 L 4 u at_ = at_ + 1 := by
      unfold refT2
      simp only [show ((4 : Int) = 1) = False by simp, show ((4 : Int) = 2) = False by simp, show ((4 : Int) = 3) = False by simp, if_true, if_false]
      rw [if_pos hpos]
    obtain ⟨V, hV⟩ : ∃ V, w.setCell ⟨Rb, 1, none⟩ (.int .i64 (at_ + 1)) = V := ⟨_, rfl⟩
    have RV := Lib.hid (show Rv V Rb LA cp L (at_ + 1) ∧ Fr (fun b => b = Rb) w V from by rw [← hV]; exact ⟨H0.out.1.set _, H0.out.2.set _ _ rfl⟩)
    obtain ⟨s0, s1, s2⟩ := RV.out.1.cells
    by_cases hge : (L.length : Int) ≤ at_ + 1
    · have dg : decide ((L.length : Int) ≤ at_ + 1) = true := decide_eq_true hge
      go_wp2_with (first | rw [hV])
      go_quiet (fail)
      obtain ⟨V2, hV2⟩ : ∃ V2, V.drewN nq = V2 := ⟨_, rfl⟩
      have bd : Below V.heap.size V V2 := by rw [← hV2]; exact ⟨rfl, rfl, rfl, Nat.le_refl _, fun _ _ => rfl⟩
      have R2 := RV.out.1.below bd
      obtain ⟨t0, t1, t2⟩ := R2.cells
      have F2 := RV.out.2.below bd
      have HR := Lib.hid (And.intro (R2.set (-1)) (F2.set ⟨Rb, 1, none⟩ (.int .i64 (-1)) rfl))
      rw [hV2]
      clear R2 F2 bd hV2 s0 s1 s2
      go_wp2_with fail
      go_end0
      refine ⟨rfl, ?_, HR.out.2⟩
      rw [show refGo2 L 4 u at_ = -1 from by unfold refGo2; rw [hT, if_pos (by omega)]]
      exact HR.out.1
    · have dg : decide ((L.length : Int) ≤ at_ + 1) = false := decide_eq_false hge
      go_wp2_with (first | rw [hV])
      go_quiet (fail)
      obtain ⟨V2, hV2⟩ : ∃ V2, V.drewN nq = V2 := ⟨_, rfl⟩
      have bd : Below V.heap.size V V2 := by rw [← hV2]; exact ⟨rfl, rfl, rfl, Nat.le_refl _, fun _ _ => rfl⟩
      have HR := Lib.hid (And.intro (RV.out.1.below bd) (RV.out.2.below bd))
      rw [hV2]
      clear bd hV2 s0 s1 s2
      go_wp2_with fail
      go_end0
      refine ⟨rfl, ?_, HR.out.2⟩
      rw [show refGo2 L 4 u at_ = at_ + 1 from by unfold refGo2; rw [hT, if_neg (by omega)]]
      exact HR.out.1
  · have dp : decide (0 ≤ at_) = false := decide_eq_false hpos
    have hT : refT2 L 4 u at_ = at_ := by
      unfold refT2
      simp only [show ((4 : Int) = 1) = False by simp, show ((4 : Int) = 2) = False by simp, show ((4 : Int) = 3) = False by simp, if_true, if_false]
      rw [if_neg hpos]
    have RV := Lib.hid H0.out
    obtain ⟨s0, s1, s2⟩ := RV.out.1.cells
    by_cases hge : (L.length : Int) ≤ at_
    · exfalso; omega
    · have dg : decide ((L.length : Int) ≤ at_) = false := decide_eq_false hge
      go_wp2_with fail
      go_quiet (fail)
      obtain ⟨V2, hV2⟩ : ∃ V2, w.drewN nq = V2 := ⟨_, rfl⟩
      have bd : Below w.heap.size w V2 := by rw [← hV2]; exact ⟨rfl, rfl, rfl, Nat.le_refl _, fun _ _ => rfl⟩
      have HR := Lib.hid (And.intro (RV.out.1.below bd) (RV.out.2.below bd))
      rw [hV2]
      clear bd hV2 s0 s1 s2
      go_wp2_with fail
      go_end0
      refine ⟨rfl, ?_, HR.out.2⟩
      rw [show refGo2 L 4 u at_ = at_ from by unfold refGo2; rw [hT, if_neg (by omega)]]
      exact HR.out.1
set_option maxHeartbeats 4000000 in
theorem vrefgo5_w {w : World} {Rb cp : Nat} {LA : Option Addr} {L : List PC.S76} {at_ : Int} (h : Rv w Rb LA cp L at_) (u : ByteArray) (hat1 : -1 ≤ at_) (hat2 : at_ < L.length) :
    Calls Try.prog 60 #[.pointer (some ⟨Rb, 0, none⟩), .int .i64 5, .string u] w (GoEnd2 w Rb cp LA L (refGo2 L 5 u at_)) := by
  have hlt := h.lt
  have hlen := h.len
  obtain ⟨r0, r1, r2⟩ := h.cells
  have H0 := Lib.hid (And.intro h (Fr.refl (fun b => b = Rb) w))
  clear h
  go_enter Try.func60, Try.ntmps60
  have m1 : IntKind.i64.wrap (at_ - 1) = at_ - 1 := by rw [IntWalk.i64_in _ (by omega)]
  by_cases hpos : 0 ≤ at_
  · have dp : decide (0 ≤ at_) = true := decide_eq_true hpos
    have hT : refT2 L 5 u at_ = at_ - 1 := by
      unfold refT2
      simp only [show ((5 : Int) = 1) = False by simp, show ((5 : Int) = 2) = False by simp, show ((5 : Int) = 3) = False by simp, show ((5 : Int) = 4) = False by simp, if_true, if_false]
      rw [if_pos hpos]
    obtain ⟨V, hV⟩ : ∃ V, w.setCell ⟨Rb, 1, none⟩ (.int .i64 (at_ - 1)) = V := ⟨_, rfl⟩
    have RV := Lib.hid (show Rv V Rb LA cp L (at_ - 1) ∧ Fr (fun b => b = Rb) w V from by rw [← hV]; exact ⟨H0.out.1.set _, H0.out.2.set _ _ rfl⟩)
    obtain ⟨s0, s1, s2⟩ := RV.out.1.cells
    by_cases hge : (L.length : Int) ≤ at_ - 1
    · exfalso; omega
    · have dg : decide ((L.length : Int) ≤ at_ - 1) = false := decide_eq_false hge
      go_wp2_with (first | rw [hV])
      go_quiet (fail)
      obtain ⟨V2, hV2⟩ : ∃ V2, V.drewN nq = V2 := ⟨_, rfl⟩
      have bd : Below V.heap.size V V2 := by rw [← hV2]; exact ⟨rfl, rfl, rfl, Nat.le_refl _, fun _ _ => rfl⟩
      have HR := Lib.hid (And.intro (RV.out.1.below bd) (RV.out.2.below bd))
      rw [hV2]
      clear bd hV2 s0 s1 s2
      go_wp2_with fail
      go_end0
      refine ⟨rfl, ?_, HR.out.2⟩
      rw [show refGo2 L 5 u at_ = at_ - 1 from by unfold refGo2; rw [hT, if_neg (by omega)]]
      exact HR.out.1
  · have dp : decide (0 ≤ at_) = false := decide_eq_false hpos
    have hT : refT2 L 5 u at_ = at_ := by
      unfold refT2
      simp only [show ((5 : Int) = 1) = False by simp, show ((5 : Int) = 2) = False by simp, show ((5 : Int) = 3) = False by simp, show ((5 : Int) = 4) = False by simp, if_true, if_false]
      rw [if_neg hpos]
    have RV := Lib.hid H0.out
    obtain ⟨s0, s1, s2⟩ := RV.out.1.cells
    by_cases hge : (L.length : Int) ≤ at_
    · exfalso; omega
    · have dg : decide ((L.length : Int) ≤ at_) = false := decide_eq_false hge
      go_wp2_with fail
      go_quiet (fail)
      obtain ⟨V2, hV2⟩ : ∃ V2, w.drewN nq = V2 := ⟨_, rfl⟩
      have bd : Below w.heap.size w V2 := by rw [← hV2]; exact ⟨rfl, rfl, rfl, Nat.le_refl _, fun _ _ => rfl⟩
      have HR := Lib.hid (And.intro (RV.out.1.below bd) (RV.out.2.below bd))
      rw [hV2]
      clear bd hV2 s0 s1 s2
      go_wp2_with fail
      go_end0
      refine ⟨rfl, ?_, HR.out.2⟩
      rw [show refGo2 L 5 u at_ = at_ from by unfold refGo2; rw [hT, if_neg (by omega)]]
      exact HR.out.1
set_option maxHeartbeats 4000000 in
theorem vrefgo3_w {w : World} {Rb cp : Nat} {LA : Option Addr} {L : List PC.S76} {at_ : Int} (h : Rv w Rb LA cp L at_) (u : ByteArray) (hat1 : -1 ≤ at_) (hat2 : at_ < L.length) :
    Calls Try.prog 60 #[.pointer (some ⟨Rb, 0, none⟩), .int .i64 3, .string u] w (GoEnd2 w Rb cp LA L (refGo2 L 3 u at_)) := by
  have hlt := h.lt
  have hlen := h.len
  obtain ⟨r0, r1, r2⟩ := h.cells
  have H0 := Lib.hid (And.intro h (Fr.refl (fun b => b = Rb) w))
  clear h
  go_enter Try.func60, Try.ntmps60
  have hkle := rnk_le2 L u.toList
  obtain ⟨V, hV⟩ : ∃ V, w.setCell ⟨Rb, 1, none⟩ (.int .i64 (0)) = V := ⟨_, rfl⟩
  have RV := Lib.hid (show Rv V Rb LA cp L ((0 : Nat) : Int) ∧ Fr (fun b => b = Rb) w V from by rw [← hV]; exact ⟨H0.out.1.set _, (Fr.refl _ _).set _ _ rfl⟩)
  go_wp2_with (first | rw [hV])
  go_loopg [53] (rnk L u.toList) (fun k _ wr => ∃ i : Nat, i ≤ rnk L u.toList ∧ k = rnk L u.toList - i ∧ Hid (Rv wr Rb LA cp L (i : Int) ∧ Fr (fun b => b = Rb) w wr))
  case atStart => exact ⟨0, by omega, by omega, Lib.hid RV.out⟩
  case round =>
    obtain ⟨i, hi, rfl, HI⟩ := hrel
    obtain ⟨s0, s1, s2⟩ := HI.out.1.cells
    have m1 : IntKind.i64.wrap ((i : Int) + 1) = (i : Int) + 1 := by rw [IntWalk.i64_in _ (by omega)]
    by_cases hin : i < L.length
    · have d0 : decide ((i : Int) < L.length) = true := decide_eq_true (by omega)
      obtain ⟨ad, e, X0⟩ := HI.out.1.c i hin
      obtain ⟨x, hx⟩ : ∃ x, L.getD i zi = x := ⟨_, rfl⟩
      rw [hx] at X0
      have Hx := Lib.hid hx
      have x0 := X0.1
      rw [e] at s0
      clear X0 hx e
      have p0 : (0 ≤ (i : Int)) = True := by simp
      have p1 : ((i : Int) < L.length) = True := eq_true (by omega)
      have p4 : (i < L.length) = True := eq_true hin
      cases hc : Op.bytesLess x.f0.toList u.toList
      · have hlow : i = rnk L u.toList := by
          rcases Nat.lt_or_eq_of_le hi with h1 | h1
          · exfalso
            have := rnk_lt2 (L := L) (u := u.toList) i h1
            rw [Hx.out, hc] at this
            cases this
          · exact h1
        have Hlow := Lib.hid hlow
        clear hlow
        go_wp2_with fail
        go_quiet (fail)
        obtain ⟨W1, hW1⟩ : ∃ W1, wr.drewN nq = W1 := ⟨_, rfl⟩
        have bd1 : Below wr.heap.size wr W1 := by rw [← hW1]; exact ⟨rfl, rfl, rfl, Nat.le_refl _, fun _ _ => rfl⟩
        have RV := Lib.hid (And.intro (HI.out.1.below bd1) (HI.out.2.below bd1))
        rw [hW1]
        clear bd1 hW1 s0 s1 s2 x0
        obtain ⟨s0, s1, s2⟩ := RV.out.1.cells
        have dg : decide ((L.length : Int) ≤ (i : Int)) = false := decide_eq_false (by omega)
        have hT : refT2 L 3 u at_ = (i : Int) := by
          unfold refT2
          simp only [show ((3 : Int) = 1) = False by simp, show ((3 : Int) = 2) = False by simp, if_true, if_false]
          rw [← Hlow.out]
        go_wp2_with fail
        go_quiet (fail)
        obtain ⟨V2, hV2⟩ : ∃ V2, W1.drewN nq = V2 := ⟨_, rfl⟩
        have bd : Below W1.heap.size W1 V2 := by rw [← hV2]; exact ⟨rfl, rfl, rfl, Nat.le_refl _, fun _ _ => rfl⟩
        have HR := Lib.hid (And.intro (RV.out.1.below bd) (RV.out.2.below bd))
        rw [hV2]
        clear bd hV2 s0 s1 s2
        go_wp2_with fail
        go_end0
        refine ⟨rfl, ?_, HR.out.2⟩
        rw [show refGo2 L 3 u at_ = (i : Int) from by unfold refGo2; rw [hT, if_neg (by omega)]]
        exact HR.out.1
      · have hlow : i < rnk L u.toList := by
          rcases Nat.lt_or_eq_of_le hi with h1 | h1
          · exact h1
          · exfalso
            have := rnk_not2 (L := L) (u := u.toList) (by omega)
            rw [← h1, Hx.out, hc] at this
            cases this
        go_wp2_with fail
        go_quiet (fail)
        obtain ⟨W1, hW1⟩ : ∃ W1, wr.drewN nq = W1 := ⟨_, rfl⟩
        have bd1 : Below wr.heap.size wr W1 := by rw [← hW1]; exact ⟨rfl, rfl, rfl, Nat.le_refl _, fun _ _ => rfl⟩
        have HW := Lib.hid (And.intro (HI.out.1.below bd1) (HI.out.2.below bd1))
        rw [hW1]
        clear bd1 hW1 s0 s1 s2 x0
        obtain ⟨s0, s1, s2⟩ := HW.out.1.cells
        go_wp2_with fail
        go_roundg (rnk L u.toList - (i + 1))
        case measure => omega
        case rel => exact ⟨i + 1, by omega, rfl, Lib.hid ⟨by have := HW.out.1.set ((i : Int) + 1); simpa using this, HW.out.2.set _ _ rfl⟩⟩
    · have hie : i = L.length := by omega
      have hre : rnk L u.toList = L.length := by omega
      have d0 : decide ((i : Int) < L.length) = false := decide_eq_false (by omega)
      have Hie := Lib.hid (And.intro hie hre)
      clear hie hre
      go_wp2_with fail
      go_quiet (fail)
      obtain ⟨W1, hW1⟩ : ∃ W1, wr.drewN nq = W1 := ⟨_, rfl⟩
      have bd1 : Below wr.heap.size wr W1 := by rw [← hW1]; exact ⟨rfl, rfl, rfl, Nat.le_refl _, fun _ _ => rfl⟩
      have RV := Lib.hid (And.intro (HI.out.1.below bd1) (HI.out.2.below bd1))
      rw [hW1]
      clear bd1 hW1 s0 s1 s2
      obtain ⟨s0, s1, s2⟩ := RV.out.1.cells
      have dg : decide ((L.length : Int) ≤ (i : Int)) = true := decide_eq_true (by have := Hie.out; omega)
      have hT : refT2 L 3 u at_ = (i : Int) := by
        unfold refT2
        simp only [show ((3 : Int) = 1) = False by simp, show ((3 : Int) = 2) = False by simp, if_true, if_false]
        have := Hie.out; omega
      go_wp2_with fail
      go_quiet (fail)
      obtain ⟨V2, hV2⟩ : ∃ V2, W1.drewN nq = V2 := ⟨_, rfl⟩
      have bd : Below W1.heap.size W1 V2 := by rw [← hV2]; exact ⟨rfl, rfl, rfl, Nat.le_refl _, fun _ _ => rfl⟩
      have R2 := RV.out.1.below bd
      obtain ⟨t0, t1, t2⟩ := R2.cells
      have F2 := RV.out.2.below bd
      have HR := Lib.hid (And.intro (R2.set (-1)) (F2.set ⟨Rb, 1, none⟩ (.int .i64 (-1)) rfl))
      rw [hV2]
      clear R2 F2 bd hV2 s0 s1 s2
      go_wp2_with fail
      go_end0
      refine ⟨rfl, ?_, HR.out.2⟩
      rw [show refGo2 L 3 u at_ = -1 from by unfold refGo2; rw [hT, if_pos (by have := Hie.out; omega)]]
      exact HR.out.1
end Go.Proofs.Ytehoojmalhloeaa.CM
