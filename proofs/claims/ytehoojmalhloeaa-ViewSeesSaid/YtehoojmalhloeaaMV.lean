/- merge: an iterator that a call made itself; the statement's awake. -/
import Derived.Test.YtehoojmalhloeaaMU
import Derived.Test.YtehoojmalhloeaaDJ
namespace Go.Proofs.Ytehoojmalhloeaa.CM
open Go.RowKit Go.Proofs.YtehoojmalhloeaaW.PrintWords
set_option linter.unusedVariables false
set_option linter.unusedSimpArgs false
set_option maxRecDepth 100000

/-- An iterator that is new since w0. -/
structure Nw (w0 w : World) (X : Nat) (s : Sh) (q : Option Nat) (F : Nat → Prop) : Prop where
  it : It w X s q F
  lo : ∀ b, F b → w0.heap.size ≤ b
  bel : Below w0.heap.size w0 w
theorem It.lt {w : World} {X : Nat} {s : Sh} {q : Option Nat} {F : Nat → Prop} (h : It w X s q F) {b : Nat} (hb : F b) : b < w.heap.size := by
  obtain ⟨lv, gv2, at_, hk, hx, hr, hF, hlt, hq⟩ := h
  rcases (hF b).1 hb with rfl | h | ⟨i, hi, rfl⟩ | ⟨h0, rfl⟩ | ⟨i, hi, h0, a, ea, rfl⟩
  · exact hk.lt
  · exact hlt b h
  · exact (Array.getElem?_eq_some_iff.1 (hk.cs.cur i hi)).1
  · have := World.block_lt_of_cell? _ _ (hk.cs.gl 0 h0).2
    exact this
  · exact (hk.cs.ents i hi).lt h0 ea
theorem Mk.nw {w0 w : World} {X : Nat} {s : Sh} (h : Mk w0 w X s) (hr : ∀ j, j < s.n → risesB (s.l j) = true) : Nw w0 w X s none (Foot X s (.slice none 0 0)) := by
  refine ⟨⟨.slice none 0 0, .slice none 0 0, fun _ => 0, h.bk, h.fx, fun i hi => pw_of_rises _ (hr i hi), fun b => Iff.rfl, (by intro k hk; cases hk), (by intro p hp; cases hp)⟩, fun b hb => ?_, h.bel⟩
  rcases hb with rfl | h1 | ⟨i, hi, rfl⟩ | ⟨h0, rfl⟩ | ⟨i, hi, h0, a, ea, rfl⟩
  · exact h.nx
  · cases h1
  · exact h.nc i hi
  · exact own_base h.own _ (by rw [(h.bk.cs.gl 0 h0).1]; rfl)
  · exact h.nA i hi h0 a ea
section
variable {w0 w w1 : World} {X : Nat} {s : Sh} {q q' : Option Nat} {F : Nat → Prop}
theorem Nw.goes (h : Nw w0 w X s q F) (g : Goes w X s F q' w1) : ∃ F', Nw w0 w1 X s q' F' ∧ Fr F w w1 ∧ ∀ b, F' b → F b ∨ (w.heap.size ≤ b ∧ b < w1.heap.size) := by
  obtain ⟨F', h1, h2, h3⟩ := g
  refine ⟨F', ⟨h1, fun b hb => ?_, h.bel.trans (h2.to_below h.bel.size h.lo)⟩, h2, h3⟩
  rcases h3 b hb with h4 | h4
  · exact h.lo b h4
  · have := h.bel.size; omega
theorem Nw.below (h : Nw w0 w X s q F) (hb : Below w.heap.size w w1) : Nw w0 w1 X s q F := ⟨h.it.below hb, h.lo, h.bel.trans (hb.mono h.bel.size)⟩
/-- A block that is not the iterator's stays. -/
structure Kp (w : World) (F : Nat → Prop) (b : Nat) (o : Obj) : Prop where
  blk : w.heap[b]? = some o
  nf : ¬ F b
theorem Kp.fr {F' : Nat → Prop} {b : Nat} {o : Obj} (h : Kp w F b o) (hf : Fr F w w1) (hn : ∀ b, F' b → F b ∨ (w.heap.size ≤ b ∧ b < w1.heap.size)) : Kp w1 F' b o := by
  have hl := (Array.getElem?_eq_some_iff.1 h.blk).1
  refine ⟨(hf.block b hl h.nf).trans h.blk, fun h1 => ?_⟩
  rcases hn b h1 with h2 | h2
  · exact h.nf h2
  · omega
theorem Kp.below {b : Nat} {o : Obj} (h : Kp w F b o) (hb : Below w.heap.size w w1) : Kp w1 F b o := ⟨(hb.block b (Array.getElem?_eq_some_iff.1 h.blk).1).trans h.blk, h.nf⟩
theorem Kp.new (h : It w X s q F) (o : Obj) : Kp (w.alloc o) F w.heap.size o := ⟨World.alloc_heap_new w o, fun h1 => by have := h.lt h1; omega⟩
end

def wA : List PC.S44 := [⟨⟨⟨#[97]⟩, 2, 0⟩, ⟨#[]⟩⟩, ⟨⟨⟨#[98]⟩, 1, 0⟩, ⟨#[]⟩⟩]
def wB : List PC.S44 := [⟨⟨⟨#[97]⟩, 3, 0⟩, ⟨#[]⟩⟩]
theorem wA_rises : risesB wA = true := by decide
theorem wB_rises : risesB wB = true := by decide
theorem w_who (G : Nat) (ga : Option Addr) (gc : Nat) (C : Nat → Nat) (A : Nat → Option Addr) (cp : Nat → Nat) :
    (⟨[wA, wB], G, ga, gc, C, A, cp⟩ : Sh).N = 3 ∧ itm ⟨[wA, wB], G, ga, gc, C, A, cp⟩ 0 = wB.getD 0 PC.z44 ∧ itm ⟨[wA, wB], G, ga, gc, C, A, cp⟩ 1 = wA.getD 0 PC.z44 := by
  refine ⟨by rfl, by rfl, by rfl⟩

attribute [local go_sem high] PC.eqA44
set_option maxHeartbeats 16000000 in
theorem awake16_w (w : World) : Calls Try.prog 34 #[] w fun e w' => e = .returned (.bool true) ∧ Below w.heap.size w w' := by
  obtain ⟨W1, hW1⟩ : ∃ W1, w.alloc (.cells #[.string ⟨#[97]⟩, .int .u64 2, .int .i64 0, .string ⟨#[]⟩, .string ⟨#[98]⟩, .int .u64 1, .int .i64 0, .string ⟨#[]⟩] 44) = W1 := ⟨_, rfl⟩
  have hs1 : w.heap.size < W1.heap.size := by rw [← hW1]; simp
  have B1 : Below w.heap.size w W1 := by rw [← hW1]; exact (Below.refl _ _).alloc (Nat.le_refl _) _
  have C1 : Kd.C PC.k44 W1 (some ⟨w.heap.size, 0, none⟩) 2 wA := by
    rw [← hW1]
    exact C44_block (W := w.alloc _) (xs := wA) (World.alloc_heap_new w _) (by decide)
  have K1 : W1.heap[w.heap.size]? = some (.cells #[.string ⟨#[97]⟩, .int .u64 2, .int .i64 0, .string ⟨#[]⟩, .string ⟨#[98]⟩, .int .u64 1, .int .i64 0, .string ⟨#[]⟩] 44) := by rw [← hW1]; exact World.alloc_heap_new w _
  obtain ⟨W2, hW2⟩ : ∃ W2, W1.alloc (.cells #[.string ⟨#[97]⟩, .int .u64 3, .int .i64 0, .string ⟨#[]⟩] 44) = W2 := ⟨_, rfl⟩
  have B2 : Below W1.heap.size W1 W2 := by rw [← hW2]; exact (Below.refl _ _).alloc (Nat.le_refl _) _
  have C2 : Kd.C PC.k44 W2 (some ⟨W1.heap.size, 0, none⟩) 1 wB := by
    rw [← hW2]
    exact C44_block (W := W1.alloc _) (xs := wB) (World.alloc_heap_new W1 _) (by decide)
  have K2 : W2.heap[W1.heap.size]? = some (.cells #[.string ⟨#[97]⟩, .int .u64 3, .int .i64 0, .string ⟨#[]⟩] 44) := by rw [← hW2]; exact World.alloc_heap_new W1 _
  have C3 := C_two (c1 := 2) (c2 := 1) (keepC C1 (Nat.le_refl _) B2) (by decide) C2 (by decide) (show 2 = wA.length from rfl) (show 1 = wB.length from rfl)
  obtain ⟨W3, hW3⟩ : ∃ W3, W2.alloc (.cells #[.slice (some ⟨w.heap.size, 0, none⟩) 2 2, .slice (some ⟨W1.heap.size, 0, none⟩) 1 1] 22) = W3 := ⟨_, rfl⟩
  have B3 : Below W2.heap.size W2 W3 := by rw [← hW3]; exact (Below.refl _ _).alloc (Nat.le_refl _) _
  rw [hW3] at C3
  have N1 := new_w _ 2 [wA, wB] W3 C3 (by decide) (fun j hj => by
    rcases j with _ | _ | j
    · decide
    · decide
    · exact absurd (show j + 1 + 1 < 2 from hj) (by omega))
  have N2 := N1.mono (fun e w' h => (show ∃ X s, e = .returned (.tuple #[.pointer (some ⟨X, 0, none⟩), .int .i64 0]) ∧ s.L = [wA, wB] ∧ Mk W3 w' X s from by
    rcases h with ⟨_, ⟨j, hj, hr⟩, _⟩ | ⟨X, s, h1, _, h2, h3⟩
    · rcases j with _ | _ | j
      · exact absurd (hr.symm.trans wA_rises) (by decide)
      · exact absurd (hr.symm.trans wB_rises) (by decide)
      · exact absurd (show j + 1 + 1 < 2 from hj) (by omega)
    · exact ⟨X, s, h1, h2, h3⟩))
  have HN := Lib.hid N2
  have H0 := Lib.hid (And.intro hs1 (And.intro B1 (And.intro B2 (And.intro B3 (And.intro K1 K2)))))
  clear N1 N2 C1 C2 C3 B1 B2 B3 K1 K2 hs1
  go_enter Try.func34, Try.ntmps34
  go_wp2_with (first | rw [hW3] | rw [hW2] | rw [hW1])
  refine HN.out.mono ?_
  rintro e w4 ⟨X, s, rfl, hL, hM⟩
  have N4 := hM.nw (fun j hj => by
    have hn : s.n = 2 := by show s.L.length = 2; rw [hL]; rfl
    rcases j with _ | _ | j
    · show risesB (s.L.getD 0 []) = true; rw [hL]; exact wA_rises
    · show risesB (s.L.getD 1 []) = true; rw [hL]; exact wB_rises
    · omega)
  have hs : s.N = 3 ∧ itm s 0 = wB.getD 0 PC.z44 ∧ itm s 1 = wA.getD 0 PC.z44 := by
    obtain ⟨L, G, ga, gc, C, A, cp⟩ := s
    subst hL
    exact w_who G ga gc C A cp
  have HS := Lib.hid hs
  obtain ⟨F4, hF4⟩ : ∃ F, Foot X s (.slice none 0 0) = F := ⟨_, rfl⟩
  rw [hF4] at N4
  have H4 := Lib.hid N4
  clear hL hM N4 hs hF4 HN
  go_wp2_with fail
  refine (first_q H4.out.it).mono ?_
  rintro e w5 ⟨rfl, g5⟩
  rw [HS.out.1] at g5
  obtain ⟨F5, N5, f5, n5⟩ := H4.out.goes g5
  have H5 := Lib.hid N5
  clear g5 N5 f5 n5
  go_wp2_with fail
  refine (at_q H5.out.it).mono ?_
  rintro e w6 ⟨rfl, b6⟩
  have H6 := Lib.hid (H5.out.below b6)
  clear b6
  have t0 : told s (some 0) = (⟨⟨⟨#[97]⟩, 3, 0⟩, ⟨#[]⟩⟩, true) := by show (itm s 0, true) = _; rw [HS.out.2.1]; rfl
  rw [if_pos (by decide), t0]
  simp only [val44]
  clear t0
  go_wp2_with fail
  obtain ⟨W6, hW6⟩ : ∃ W6, w6.alloc (.cells #[.string ⟨#[97]⟩, .int .u64 3, .int .i64 0, .string ⟨#[]⟩] 44) = W6 := ⟨_, rfl⟩
  have bl6 : Below w6.heap.size w6 W6 := by rw [← hW6]; exact (Below.refl _ _).alloc (Nat.le_refl _) _
  have N6 := H6.out.below bl6
  have K6 := Kp.new H6.out.it (.cells #[.string ⟨#[97]⟩, .int .u64 3, .int .i64 0, .string ⟨#[]⟩] 44)
  rw [hW6] at K6
  have L6 := Lib.hid (And.intro N6 K6)
  have BK6 := Lib.hid bl6
  clear N6 K6 bl6
  try rw [hW6]
  refine (next_q L6.out.1.it).mono ?_
  rintro e w7 ⟨rfl, g⟩
  obtain ⟨F7, N, f, n⟩ := L6.out.1.goes g
  have M7 := Lib.hid (And.intro N (And.intro f n))
  clear g N f n
  go_wp2_with fail
  refine (at_q M7.out.1.it).mono ?_
  rintro e w8 ⟨rfl, b⟩
  have H8 := Lib.hid (M7.out.1.below b)
  have P8 := Lib.hid b
  clear b
  have t0 : told s (some 1) = (⟨⟨⟨#[97]⟩, 2, 0⟩, ⟨#[]⟩⟩, true) := by show (itm s 1, true) = _; rw [HS.out.2.2]; rfl
  rw [show nxtQ s (if 0 < 3 then some 0 else none) = some 1 from (by rw [if_pos (by decide)]; show (if 0 + 1 < s.N then _ else _) = _; rw [HS.out.1]; rfl), t0]
  simp only [val44]
  clear t0
  go_wp2_with fail
  obtain ⟨W8, hW8⟩ : ∃ W8, w8.alloc (.cells #[.string ⟨#[97]⟩, .int .u64 2, .int .i64 0, .string ⟨#[]⟩] 44) = W8 := ⟨_, rfl⟩
  have bl8 : Below w8.heap.size w8 W8 := by rw [← hW8]; exact (Below.refl _ _).alloc (Nat.le_refl _) _
  have N8 := H8.out.below bl8
  have K8 := Kp.new H8.out.it (.cells #[.string ⟨#[97]⟩, .int .u64 2, .int .i64 0, .string ⟨#[]⟩] 44)
  rw [hW8] at K8
  have L8 := Lib.hid (And.intro N8 K8)
  have BK8 := Lib.hid bl8
  clear N8 K8 bl8
  try rw [hW8]
  refine (prev_q L8.out.1.it).mono ?_
  rintro e w9 ⟨rfl, g⟩
  obtain ⟨F9, N, f, n⟩ := L8.out.1.goes g
  have M9 := Lib.hid (And.intro N (And.intro f n))
  clear g N f n
  go_wp2_with fail
  refine (at_q M9.out.1.it).mono ?_
  rintro e w10 ⟨rfl, b⟩
  have H10 := Lib.hid (M9.out.1.below b)
  have P10 := Lib.hid b
  clear b
  have t0 : told s (some 0) = (⟨⟨⟨#[97]⟩, 3, 0⟩, ⟨#[]⟩⟩, true) := by show (itm s 0, true) = _; rw [HS.out.2.1]; rfl
  rw [show prvQ (nxtQ s (if 0 < 3 then some 0 else none)) = some 0 from (by rw [if_pos (by decide)]; show prvQ (if 0 + 1 < s.N then _ else _) = _; rw [HS.out.1]; rfl), t0]
  simp only [val44]
  clear t0
  go_wp2_with fail
  obtain ⟨W10, hW10⟩ : ∃ W10, w10.alloc (.cells #[.string ⟨#[97]⟩, .int .u64 3, .int .i64 0, .string ⟨#[]⟩] 44) = W10 := ⟨_, rfl⟩
  have bl10 : Below w10.heap.size w10 W10 := by rw [← hW10]; exact (Below.refl _ _).alloc (Nat.le_refl _) _
  have N10 := H10.out.below bl10
  have K10 := Kp.new H10.out.it (.cells #[.string ⟨#[97]⟩, .int .u64 3, .int .i64 0, .string ⟨#[]⟩] 44)
  rw [hW10] at K10
  have L10 := Lib.hid (And.intro N10 K10)
  have BK10 := Lib.hid bl10
  clear N10 K10 bl10
  try rw [hW10]
  refine (prev_q L10.out.1.it).mono ?_
  rintro e w11 ⟨rfl, g⟩
  obtain ⟨F11, N, f, n⟩ := L10.out.1.goes g
  have M11 := Lib.hid (And.intro N (And.intro f n))
  clear g N f n
  go_wp2_with fail
  refine (at_q M11.out.1.it).mono ?_
  rintro e w12 ⟨rfl, b⟩
  have H12 := Lib.hid (M11.out.1.below b)
  have P12 := Lib.hid b
  clear b
  have t0 : told s none = (PC.z44, false) := rfl
  rw [show prvQ (prvQ (nxtQ s (if 0 < 3 then some 0 else none))) = none from (by rw [if_pos (by decide)]; show prvQ (prvQ (if 0 + 1 < s.N then _ else _)) = _; rw [HS.out.1]; rfl), t0]
  simp only [val44, PC.z44, PC.z42]
  clear t0
  go_wp2_with fail
  obtain ⟨W12, hW12⟩ : ∃ W12, w12.alloc (.cells #[.string ⟨#[]⟩, .int .u64 0, .int .i64 0, .string ⟨#[]⟩] 44) = W12 := ⟨_, rfl⟩
  have bl12 : Below w12.heap.size w12 W12 := by rw [← hW12]; exact (Below.refl _ _).alloc (Nat.le_refl _) _
  have N12 := H12.out.below bl12
  have K12 := Kp.new H12.out.it (.cells #[.string ⟨#[]⟩, .int .u64 0, .int .i64 0, .string ⟨#[]⟩] 44)
  rw [hW12] at K12
  have L12 := Lib.hid (And.intro N12 K12)
  have BK12 := Lib.hid bl12
  clear N12 K12 bl12
  try rw [hW12]
  -- what was told lies where it lay
  have k8 := ((L6.out.2.fr M7.out.2.1 M7.out.2.2).below P8.out).below BK8.out
  have k10 := ((k8.fr M9.out.2.1 M9.out.2.2).below P10.out).below BK10.out
  have k12 := ((k10.fr M11.out.2.1 M11.out.2.2).below P12.out).below BK12.out
  have j10 := ((L8.out.2.fr M9.out.2.1 M9.out.2.2).below P10.out).below BK10.out
  have j12 := ((j10.fr M11.out.2.1 M11.out.2.2).below P12.out).below BK12.out
  have i12 := ((L10.out.2.fr M11.out.2.1 M11.out.2.2).below P12.out).below BK12.out
  have bA := L12.out.1.bel
  obtain ⟨z1, z2, z3, z4, z5, z6⟩ := H0.out
  have a12 : W12.heap[w.heap.size]? = _ := (bA.block _ (by have := z3.size; have := z4.size; omega)).trans ((z4.block _ (by have := z3.size; omega)).trans ((z3.block _ (by omega)).trans z5))
  have b12 : W12.heap[W1.heap.size]? = _ := (bA.block _ (by have := z4.size; have := (Array.getElem?_eq_some_iff.1 z6).1; omega)).trans ((z4.block _ (Array.getElem?_eq_some_iff.1 z6).1).trans z6)
  have p0 : W12.cell? ⟨w6.heap.size, 0, none⟩ = some (.string ⟨#[97]⟩) := by simp [World.cell?, k12.blk]
  have p1 : W12.cell? ⟨w6.heap.size, 1, none⟩ = some (.int .u64 3) := by simp [World.cell?, k12.blk]
  have p2 : W12.cell? ⟨w6.heap.size, 2, none⟩ = some (.int .i64 0) := by simp [World.cell?, k12.blk]
  have p3 : W12.cell? ⟨w6.heap.size, 3, none⟩ = some (.string ⟨#[]⟩) := by simp [World.cell?, k12.blk]
  have q0 : W12.cell? ⟨w8.heap.size, 0, none⟩ = some (.string ⟨#[97]⟩) := by simp [World.cell?, j12.blk]
  have q1 : W12.cell? ⟨w8.heap.size, 1, none⟩ = some (.int .u64 2) := by simp [World.cell?, j12.blk]
  have q2 : W12.cell? ⟨w8.heap.size, 2, none⟩ = some (.int .i64 0) := by simp [World.cell?, j12.blk]
  have q3 : W12.cell? ⟨w8.heap.size, 3, none⟩ = some (.string ⟨#[]⟩) := by simp [World.cell?, j12.blk]
  have r0 : W12.cell? ⟨w10.heap.size, 0, none⟩ = some (.string ⟨#[97]⟩) := by simp [World.cell?, i12.blk]
  have r1 : W12.cell? ⟨w10.heap.size, 1, none⟩ = some (.int .u64 3) := by simp [World.cell?, i12.blk]
  have r2 : W12.cell? ⟨w10.heap.size, 2, none⟩ = some (.int .i64 0) := by simp [World.cell?, i12.blk]
  have r3 : W12.cell? ⟨w10.heap.size, 3, none⟩ = some (.string ⟨#[]⟩) := by simp [World.cell?, i12.blk]
  have s_0 : W12.cell? ⟨w.heap.size, 0, none⟩ = some (.string ⟨#[97]⟩) := by simp [World.cell?, a12]
  have s_1 : W12.cell? ⟨w.heap.size, 1, none⟩ = some (.int .u64 2) := by simp [World.cell?, a12]
  have s_2 : W12.cell? ⟨w.heap.size, 2, none⟩ = some (.int .i64 0) := by simp [World.cell?, a12]
  have s_3 : W12.cell? ⟨w.heap.size, 3, none⟩ = some (.string ⟨#[]⟩) := by simp [World.cell?, a12]
  have t_0 : W12.cell? ⟨W1.heap.size, 0, none⟩ = some (.string ⟨#[97]⟩) := by simp [World.cell?, b12]
  have t_1 : W12.cell? ⟨W1.heap.size, 1, none⟩ = some (.int .u64 3) := by simp [World.cell?, b12]
  have t_2 : W12.cell? ⟨W1.heap.size, 2, none⟩ = some (.int .i64 0) := by simp [World.cell?, b12]
  have t_3 : W12.cell? ⟨W1.heap.size, 3, none⟩ = some (.string ⟨#[]⟩) := by simp [World.cell?, b12]
  have HF : Hid (Below w.heap.size w W12) := Lib.hid (by
    have b1 : Below w.heap.size w W3 := (z2.trans (z3.mono (by omega))).trans (z4.mono (by have := z3.size; omega))
    exact b1.trans (bA.mono (by have := b1.size; exact this)))
  clear k8 k10 k12 j10 j12 i12 bA z1 z2 z3 z4 z5 z6 a12 b12
  go_quiet (fail)
  go_wp2_with fail
  go_ret
  exact ⟨rfl, HF.out.os, HF.out.tape, HF.out.output, HF.out.size, HF.out.block⟩
end Go.Proofs.Ytehoojmalhloeaa.CM
