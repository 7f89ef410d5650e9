/- merge: all entries, by the document (All, Rises): what it computes. -/
import Derived.Test.YtehoojmalhloeaaNJ
import Derived.Test.YtehoojmalhloeaaNQ
import Derived.Deep.OwnRows
namespace Go.Proofs.Ytehoojmalhloeaa.CM
open Go.RowKit Go.Proofs.YtehoojmalhloeaaW.PrintWords
set_option linter.unusedVariables false
set_option linter.unusedSimpArgs false
set_option maxRecDepth 100000

/-- A row of numbers in a block. -/
def AtB (w : World) (b n : Nat) (f : Nat → Nat) : Prop := ∃ cs : Array Value, w.heap[b]? = some (.cells cs 3 (0, 0)) ∧ cs.size = n ∧ ∀ j, j < n → cs[j]? = some (.int .i64 (f j : Nat))
theorem AtB.cell {w : World} {b n : Nat} {f : Nat → Nat} (h : AtB w b n f) {j : Nat} (hj : j < n) : w.cell? ⟨b, j, none⟩ = some (.int .i64 (f j : Nat)) := by
  obtain ⟨cs, h1, h2, h3⟩ := h
  simp [World.cell?, h1, h3 j hj]
theorem AtB.frozen {w : World} {b n : Nat} {f : Nat → Nat} (h : AtB w b n f) (j : Nat) : w.frozen? ⟨b, j, none⟩ = false := by
  obtain ⟨cs, h1, _⟩ := h
  simp [World.frozen?, h1]
theorem AtB.lt {w : World} {b n : Nat} {f : Nat → Nat} (h : AtB w b n f) : b < w.heap.size := by
  obtain ⟨cs, h1, _⟩ := h
  exact (Array.getElem?_eq_some_iff.1 h1).1
theorem AtB.below {w w1 : World} {b n : Nat} {f : Nat → Nat} (h : AtB w b n f) (hb : Below w.heap.size w w1) : AtB w1 b n f := by
  have hl := h.lt
  obtain ⟨cs, h1, h2⟩ := h
  exact ⟨cs, (hb.block b hl).trans h1, h2⟩
theorem AtB.set {w : World} {b n : Nat} {f : Nat → Nat} (h : AtB w b n f) (j v : Nat) (hj : j < n) : AtB (w.setCell ⟨b, j, none⟩ (.int .i64 (v : Nat))) b n (upd f j v) := by
  obtain ⟨cs, h1, h2, h3⟩ := h
  refine ⟨_, heap_setCell_same w b j cs 3 _ h1, by simpa using h2, fun k hk => ?_⟩
  by_cases e : k = j
  · subst e
    rw [upd_same]
    simp [Array.getElem?_setIfInBounds, h2, hj]
  · rw [upd_ne e, Array.getElem?_setIfInBounds_ne (Ne.symm e), h3 k hk]
theorem AtB.grown {w w1 : World} {b n : Nat} {f : Nat → Nat} {row : Option Nat} (h : AtB w b n f) (hg : w.grownBy w1 row) (hr : row ≠ some b) : AtB w1 b n f := by
  have hl := h.lt
  obtain ⟨cs, h1, h2⟩ := h
  exact ⟨cs, (hg.block b hl (Ne.symm hr)).trans h1, h2⟩
def hdV : Option Nat → Int
  | none => -1
  | some b => (b : Int)
set_option maxHeartbeats 4000000 in
theorem rises29_w (A : Option Addr) (c : Nat) (l : List PC.S44) (w : World) (hr : Kd.C PC.k44 w A l.length l) (hl : l.length ≤ 1000000) :
    Calls Try.prog 29 #[.slice A l.length c] w fun e w' => e = .returned (.bool (risesB l)) ∧ Below w.heap.size w w' := by
  have HR := Lib.hid hr
  clear hr
  go_enter Try.func29, Try.ntmps29
  go_wp2_with fail
  go_loopw [3] (fun t wr => ∃ i : Nat, i ≤ l.length ∧ t = .int .i64 (i : Int) ∧ Hid (risesB l = risesB (l.drop i) ∧ Below w.heap.size w wr)) (fun t _ => l.length - (intOf t).toNat)
  case atStart => exact ⟨0, by omega, rfl, Lib.hid ⟨rfl, Below.refl _ _⟩⟩
  case round =>
    obtain ⟨i, hi, rfl, HI⟩ := hrel
    have m1 : IntKind.i64.wrap ((i : Int) + 1) = (i : Int) + 1 := by rw [IntWalk.i64_in _ (by omega)]
    by_cases hlt : i + 1 < l.length
    · have d0 : decide ((i : Int) + 1 < (l.length : Int)) = true := decide_eq_true (by omega)
      obtain ⟨x, hx⟩ : ∃ x, l.getD i PC.z44 = x := ⟨_, rfl⟩
      obtain ⟨y, hy⟩ : ∃ y, l.getD (i + 1) PC.z44 = y := ⟨_, rfl⟩
      have bdr : Below wr.heap.size wr wr.drew := (Below.refl _ wr).drew
      have hw := keepC HR.out (Nat.le_refl _) (HI.out.2.trans (bdr.mono HI.out.2.size))
      obtain ⟨ad, e, X0⟩ := at44 hw i (by omega)
      obtain ⟨ad2, e2, Y0⟩ := at44 hw (i + 1) (by omega)
      rw [hx] at X0
      rw [hy] at Y0
      subst e
      obtain rfl : ad = ad2 := by injection e2
      have HX := Lib.hid (And.intro X0 Y0)
      have Hdr := Lib.hid (show l.drop i = x :: y :: l.drop (i + 2) from by
        rw [← hx, ← hy, List.getD_eq_getElem?_getD, List.getD_eq_getElem?_getD, List.getElem?_eq_getElem (show i < l.length by omega), List.getElem?_eq_getElem hlt]
        rw [List.drop_eq_getElem_cons (show i < l.length by omega), List.drop_eq_getElem_cons hlt]
        rfl)
      have Hdr2 := Lib.hid (show l.drop (i + 1) = y :: l.drop (i + 2) from by
        rw [← hy, List.getD_eq_getElem?_getD, List.getElem?_eq_getElem hlt, List.drop_eq_getElem_cons hlt]
        rfl)
      have HD := Lib.hid bdr
      have C := refCompare_w x.f0 y.f0
      unfold kv42 at C
      simp only [refK_eq] at C
      have HK := Lib.hid C
      have p0 : (0 ≤ (i : Int)) = True := by simp
      have p1 : ((i : Int) < l.length) = True := eq_true (by omega)
      have p2 : (i < l.length) = True := eq_true (by omega)
      have q0 : (0 ≤ (i : Int) + 1) = True := eq_true (by omega)
      have q1 : ((i : Int) + 1 < l.length) = True := eq_true (by omega)
      have q2 : (i + 1 < l.length) = True := eq_true hlt
      have q3 : ((i : Int) + 1).toNat = i + 1 := by omega
      clear C hx hy e2 X0 Y0 hw bdr
      go_wp2_with fail
      go_region_held3 (fun w' => (w'.cell? (ad.add (i * 4)) = some (.string x.f0.f0) ∧ w'.cell? ⟨(ad.add (i * 4)).block, (ad.add (i * 4)).off + 1, none⟩ = some (.int .u64 x.f0.f1) ∧ w'.cell? ⟨(ad.add (i * 4)).block, (ad.add (i * 4)).off + 2, none⟩ = some (.int .i64 x.f0.f2) ∧ w'.cell? ⟨(ad.add (i * 4)).block, (ad.add (i * 4)).off + 3, none⟩ = some (.string x.f1)) ∧ (w'.cell? (ad.add ((i + 1) * 4)) = some (.string y.f0.f0) ∧ w'.cell? ⟨(ad.add ((i + 1) * 4)).block, (ad.add ((i + 1) * 4)).off + 1, none⟩ = some (.int .u64 y.f0.f1) ∧ w'.cell? ⟨(ad.add ((i + 1) * 4)).block, (ad.add ((i + 1) * 4)).off + 2, none⟩ = some (.int .i64 y.f0.f2) ∧ w'.cell? ⟨(ad.add ((i + 1) * 4)).block, (ad.add ((i + 1) * 4)).off + 3, none⟩ = some (.string y.f1))) (first | exact HX.out | exact HB2.out) (first | (go_at_call 41; refine Calls.mono (HK.out _) ?_; rintro e w1 ⟨rfl, hb1⟩; have HB2 := Lib.hid (And.intro (El.below' HX.out.1 hb1) (El.below' HX.out.2 hb1)); have HB1 := Lib.hid hb1; clear hb1))
      have HW := Lib.hid ((HI.out.2.trans (HD.out.mono HI.out.2.size)).trans (HB1.out.mono (HI.out.2.trans (HD.out.mono HI.out.2.size)).size))
      clear HB1 HX HK HB2 HD
      by_cases hc : cmpK x.f0 y.f0 < 0
      · have dc : decide (0 ≤ cmpK x.f0 y.f0) = false := decide_eq_false (by omega)
        have He := Lib.hid (show risesB (l.drop i) = risesB (l.drop (i + 1)) from by rw [Hdr.out, Hdr2.out]; show (decide _ && _) = _; rw [decide_eq_true hc]; rfl)
        go_wp2_with fail
        go_roundw
        case rel => exact ⟨i + 1, by omega, by simp, Lib.hid ⟨HI.out.1.trans He.out, HW.out⟩⟩
        case measure => simp [intOf]; omega
      · have dc : decide (0 ≤ cmpK x.f0 y.f0) = true := decide_eq_true (by omega)
        have He := Lib.hid (show risesB (l.drop i) = false from by rw [Hdr.out]; show (decide _ && _) = _; rw [decide_eq_false hc]; rfl)
        go_wp2_with fail
        go_ret
        exact ⟨by rw [HI.out.1, He.out]; rfl, HW.out⟩
    · have d0 : decide ((i : Int) + 1 < (l.length : Int)) = false := decide_eq_false (by omega)
      have He := Lib.hid (show risesB (l.drop i) = true from by
        have h1 : (l.drop i).length ≤ 1 := by simp; omega
        match l.drop i, h1 with
        | [], _ => rfl
        | [x], _ => rfl)
      go_wp2_with fail
      go_ret
      exact ⟨by rw [HI.out.1, He.out]; rfl, HI.out.2⟩
theorem ent_at {s : Sh} {w : World} {A : Option Addr} (h : Kd.C (Kd.slice 44 PC.k44) w A s.L.length s.L) {i a : Nat} (hi : i < s.L.length) (ha : a < (s.l i).length) :
    ∃ ad Ai ci, A = some ad ∧ w.cell? (ad.add i) = some (.slice (some Ai) (s.l i).length ci) ∧ El w (Ai.add (a * 4)) (s.e i a) := by
  obtain ⟨ad, A0, c0, e0, g0, g1, g2⟩ := PC.at_L6 h (i : Int) (by omega) (by omega)
  rw [show PC.rd_L6 s.L (i : Int) = s.l i from by simp [PC.rd_L6, Sh.l]] at g0 g1 g2
  simp only [Int.toNat_natCast] at g0
  obtain ⟨Ai, e1, gx⟩ := at44 g2 a ha
  subst e1
  exact ⟨ad, Ai, c0, e0, g0, gx⟩
theorem R_set44 {w : World} {base b : Nat} {v : Value} {xs : List PC.S44} (h : Kd.R PC.k44 44 w base (fun _ => True) v xs) (hb : b < base) (a : Addr) (ha : a.block = b) (u : Value) : Kd.R PC.k44 44 (w.setCell a u) base (fun _ => True) v xs :=
  R_of44 (own_move (own44 h) (fun k hk => heap_setCell_other _ _ _ _ (fun e => by have := Kd.R_base h k hk; omega)))
set_option maxHeartbeats 16000000 in
theorem all32_w (s : Sh) (A : Option Addr) (c : Nat) (w : World) (hr : Kd.C (Kd.slice 44 PC.k44) w A s.L.length s.L) (hn : s.L.length ≤ 40) (hl : ∀ j, (s.L.getD j []).length ≤ 200) (hN : s.N ≤ 8000) :
    Calls Try.prog 32 #[.slice A s.L.length c] w fun e w' => ∃ v, e = .returned v ∧ Kd.R PC.k44 44 w' w.heap.size (fun _ => True) v (upto s s.N) ∧ Below w.heap.size w w' := by
  have HR := Lib.hid (And.intro hr hl)
  have hmk := fun W => run_make_row' (P := Try.prog) 103 3 (.int .i64 0) 8 Try.underlying103 PC.info3 rfl .i64 .i64 s.L.length (by omega) (by omega) W
  clear hr hl
  go_enter Try.func32, Try.ntmps32
  go_wp2_with fail
  clear hmk
  obtain ⟨W0, hW0⟩ : ∃ W0, w.alloc (.cells (madeCells #[.int .i64 0] s.L.length) 3) = W0 := ⟨_, rfl⟩
  have A0 : AtB W0 w.heap.size s.L.length (ats s 0) := by
    rw [← hW0]
    refine ⟨_, World.alloc_heap_new w _, by simp [madeCells], fun j hj => ?_⟩
    simp [madeCells, hj, ats, Nat.mod_one]
  have B0 : Below w.heap.size w W0 := by rw [← hW0]; exact (Below.refl _ _).alloc (Nat.le_refl _) _
  have Z0 : w.heap.size + 1 ≤ W0.heap.size := by rw [← hW0]; simp
  have H0 := Lib.hid (And.intro A0 B0)
  rw [hW0]
  clear A0 B0 hW0
  go_loopg [3] s.N (fun k v wr => ∃ p : Nat, p ≤ s.N ∧ k = s.N - p ∧ Hid (AtB wr w.heap.size s.L.length (ats s p) ∧ Kd.R PC.k44 44 wr (w.heap.size + 1) (fun _ => True) v (upto s p) ∧ Below w.heap.size w wr ∧ w.heap.size + 1 ≤ wr.heap.size))
  case atStart => exact ⟨0, by omega, by omega, Lib.hid ⟨H0.out.1, Kd.R_nil _ _ _ _ _, H0.out.2, Z0⟩⟩
  case round =>
    obtain ⟨p, hp, rfl, HI⟩ := hrel
    go_wp2_with fail
    go_loopw [5, 6] (fun b t wi => ∃ i : Nat, i ≤ s.L.length ∧ t = .int .i64 (i : Int) ∧ b = .int .i64 (hdV (headK s (ats s p) i)) ∧ Hid (Below wr.heap.size wr wi)) (fun _ t _ => s.L.length - (intOf t).toNat)
    case atStart => exact ⟨0, by omega, rfl, rfl, Lib.hid (Below.refl _ _)⟩
    case round =>
      rename World => wi
      obtain ⟨i, hi, rfl, rfl, HK⟩ := hrel
      have m1 : IntKind.i64.wrap ((i : Int) + 1) = (i : Int) + 1 := by rw [IntWalk.i64_in _ (by omega)]
      have HB := Lib.hid (HI.out.2.2.1.trans (HK.out.mono HI.out.2.2.1.size))
      have HA := Lib.hid (HI.out.1.below HK.out)
      by_cases hlt : i < s.L.length
      · have hltz : decide ((i : Int) < (s.L.length : Int)) = true := decide_eq_true (by omega)
        have c1 := HA.out.cell hlt
        obtain ⟨ad, A0, c0, e0, g0, g1, g2⟩ := PC.at_L6 (keepC HR.out.1 (Nat.le_refl _) HB.out) (i : Int) (by omega) (by omega)
        obtain ⟨l, hlD⟩ : ∃ l, PC.rd_L6 s.L (i : Int) = l := ⟨_, rfl⟩
        rw [hlD] at g0 g1 g2
        simp only [Int.toNat_natCast] at g0
        have hlD' : s.L.getD i [] = l := by rw [← hlD]; simp [PC.rd_L6]
        have hll : l.length ≤ 200 := by rw [← hlD']; exact HR.out.2 i
        have hle := ats_le s p i
        rw [show s.l i = l from hlD'] at hle
        obtain ⟨li, hli⟩ : ∃ li, l.length = li := ⟨_, rfl⟩
        obtain ⟨ai, hai⟩ : ∃ ai, ats s p i = ai := ⟨_, rfl⟩
        rw [hai] at c1 hle
        rw [hli] at g0 hle hll
        subst e0
        have HL := Lib.hid (And.intro g2 (And.intro hlD' (And.intro hli hai)))
        have p0 : (0 ≤ (i : Int)) = True := by simp
        have p1 : ((i : Int) < s.L.length) = True := eq_true (by omega)
        have p2 : (i < s.L.length) = True := eq_true hlt
        clear hlD hlD' hli hai g1 g2
        by_cases ho : ai < li
        · have z0 : ((ai : Int) == (li : Int)) = false := by simp; omega
          have z1 : (ai == li) = false := by simp; omega
          obtain ⟨Ai, eA, gx⟩ := at44 HL.out.1 ai (by rw [HL.out.2.2.1]; exact ho)
          rw [show l.getD ai PC.z44 = s.e i (ats s p i) from by unfold Sh.e; rw [show s.l i = l from HL.out.2.1, HL.out.2.2.2]] at gx
          subst eA
          have Hho := Lib.hid (show ats s p i < (s.l i).length from by rw [HL.out.2.2.2, show s.l i = l from HL.out.2.1, HL.out.2.2.1]; exact ho)
          have GX := Lib.hid gx
          clear gx
          cases hh : headK s (ats s p) i with
          | none =>
            have He := Lib.hid (show headK s (ats s p) (i + 1) = some i from by
              show (if ats s p i < (s.l i).length then (match headK s (ats s p) i with | none => some i | some b => if s.less (ats s p) i b = true then some i else some b) else headK s (ats s p) i) = _
              rw [if_pos Hho.out, hh])
            simp only [hdV]
            clear hh
            go_wp2_with fail
            go_quiet (fail)
            obtain ⟨W1, hW1⟩ : ∃ W1, wi.drewN nq = W1 := ⟨_, rfl⟩
            have HD := Lib.hid (show Below wi.heap.size wi W1 from by rw [← hW1]; exact ⟨rfl, rfl, rfl, Nat.le_refl _, fun _ _ => rfl⟩)
            rw [hW1]
            clear hW1 c1 g0
            go_wp2_with fail
            go_quiet (fail)
            obtain ⟨W2, hW2⟩ : ∃ W2, W1.drewN nq = W2 := ⟨_, rfl⟩
            have HD2 := Lib.hid (show Below W1.heap.size W1 W2 from by rw [← hW2]; exact ⟨rfl, rfl, rfl, Nat.le_refl _, fun _ _ => rfl⟩)
            rw [hW2]
            clear hW2
            go_wp2_with fail
            go_roundw
            case rel => exact ⟨i + 1, by omega, by simp, by rw [He.out], Lib.hid (HK.out.trans ((HD.out.trans (HD2.out.mono HD.out.size)).mono HK.out.size))⟩
            case measure => simp [intOf]; omega
          | some b =>
            obtain ⟨hbi, hbl⟩ : b < i ∧ ats s p b < (s.l b).length := by
              rcases headK_spec s (ats s p) i with ⟨e, _⟩ | ⟨b', e, h1, h2, h3⟩
              · rw [hh] at e; cases e
              · rw [hh] at e; cases e; exact ⟨h1, h2⟩
            obtain ⟨ad', Ab, cb, e', f0, fy⟩ := ent_at (keepC HR.out.1 (Nat.le_refl _) HB.out) (show b < s.L.length by omega) hbl
            obtain rfl : ad = ad' := by injection e'
            have c2 := HA.out.cell (show b < s.L.length by omega)
            have Hls := Lib.hid (show s.less (ats s p) i b = decide (cmpK (s.e i (ats s p i)).f0 (s.e b (ats s p b)).f0 < 0) from by
              unfold Sh.less Sh.key
              rw [show decide (i < b) = false from decide_eq_false (by omega), Bool.and_false, Bool.or_false]
              rfl)
            have Hhs := Lib.hid (show headK s (ats s p) (i + 1) = if s.less (ats s p) i b = true then some i else some b from by
              show (if ats s p i < (s.l i).length then (match headK s (ats s p) i with | none => some i | some b => if s.less (ats s p) i b = true then some i else some b) else headK s (ats s p) i) = _
              rw [if_pos Hho.out, hh])
            have GX2 := GX.out
            obtain ⟨x, hx⟩ : ∃ x, s.e i (ats s p i) = x := ⟨_, rfl⟩
            obtain ⟨y, hy⟩ : ∃ y, s.e b (ats s p b) = y := ⟨_, rfl⟩
            obtain ⟨lb, hlb⟩ : ∃ lb, (s.l b).length = lb := ⟨_, rfl⟩
            obtain ⟨ab, hab⟩ : ∃ ab, ats s p b = ab := ⟨_, rfl⟩
            rw [hx] at GX2
            rw [hy] at fy
            rw [hab] at fy c2 hbl
            rw [hlb] at f0 hbl
            rw [hx, hy] at Hls
            simp only [hdV]
            have dB : decide ((b : Int) < 0) = false := decide_eq_false (by omega)
            have HF := Lib.hid (And.intro GX2 (And.intro fy (And.intro g0 (And.intro f0 (And.intro c1 c2)))))
            clear hh hx hy hlb hab e' fy f0 c2 GX2
            go_wp2_with fail
            go_quiet (fail)
            obtain ⟨W1, hW1⟩ : ∃ W1, wi.drewN nq = W1 := ⟨_, rfl⟩
            have hD : Below wi.heap.size wi W1 := by rw [← hW1]; exact ⟨rfl, rfl, rfl, Nat.le_refl _, fun _ _ => rfl⟩
            have hD2 : Below wi.heap.size wi W1.drew := hD.drew
            have HD := Lib.hid hD2
            have HX := Lib.hid (And.intro (HF.out.1.below hD2) (And.intro (HF.out.2.1.below hD2) (And.intro (cell_up' HF.out.2.2.1 hD2) (And.intro (cell_up' HF.out.2.2.2.1 hD2) (And.intro (cell_up' HF.out.2.2.2.2.1 hD2) (cell_up' HF.out.2.2.2.2.2 hD2))))))
            rw [hW1]
            have C := refCompare_w x.f0 y.f0
            unfold kv42 at C
            simp only [refK_eq] at C
            have HC := Lib.hid C
            have r0 : (0 ≤ (b : Int)) = True := by simp
            have r1 : ((b : Int) < s.L.length) = True := eq_true (by omega)
            have r2 : (b < s.L.length) = True := eq_true (by omega)
            have s0 : (0 ≤ (ai : Int)) = True := by simp
            have s1 : ((ai : Int) < li) = True := eq_true (by omega)
            have s2 : (ai < li) = True := eq_true ho
            have t0 : (0 ≤ (ab : Int)) = True := by simp
            have t1 : ((ab : Int) < lb) = True := eq_true (by omega)
            have t2 : (ab < lb) = True := eq_true hbl
            clear hW1 c1 g0 C hD hD2
            go_wp2_with fail
            go_region_held3 (fun w' => (w'.cell? (Ai.add (ai * 4)) = some (.string x.f0.f0) ∧ w'.cell? ⟨(Ai.add (ai * 4)).block, (Ai.add (ai * 4)).off + 1, none⟩ = some (.int .u64 x.f0.f1) ∧ w'.cell? ⟨(Ai.add (ai * 4)).block, (Ai.add (ai * 4)).off + 2, none⟩ = some (.int .i64 x.f0.f2) ∧ w'.cell? ⟨(Ai.add (ai * 4)).block, (Ai.add (ai * 4)).off + 3, none⟩ = some (.string x.f1)) ∧ (w'.cell? (Ab.add (ab * 4)) = some (.string y.f0.f0) ∧ w'.cell? ⟨(Ab.add (ab * 4)).block, (Ab.add (ab * 4)).off + 1, none⟩ = some (.int .u64 y.f0.f1) ∧ w'.cell? ⟨(Ab.add (ab * 4)).block, (Ab.add (ab * 4)).off + 2, none⟩ = some (.int .i64 y.f0.f2) ∧ w'.cell? ⟨(Ab.add (ab * 4)).block, (Ab.add (ab * 4)).off + 3, none⟩ = some (.string y.f1)) ∧ w'.cell? (ad.add i) = some (.slice (some Ai) li c0) ∧ w'.cell? (ad.add b) = some (.slice (some Ab) lb cb) ∧ w'.cell? ⟨w.heap.size, i, none⟩ = some (.int .i64 (ai : Nat)) ∧ w'.cell? ⟨w.heap.size, b, none⟩ = some (.int .i64 (ab : Nat))) (first | exact HX.out | exact HX2.out) (first | (go_at_call 41; refine Calls.mono (HC.out _) ?_; rintro e w5 ⟨rfl, hb5⟩; have HX2 := Lib.hid (And.intro (HX.out.1.below hb5) (And.intro (HX.out.2.1.below hb5) (And.intro (cell_up' HX.out.2.2.1 hb5) (And.intro (cell_up' HX.out.2.2.2.1 hb5) (And.intro (cell_up' HX.out.2.2.2.2.1 hb5) (cell_up' HX.out.2.2.2.2.2 hb5)))))); have HD5 := Lib.hid (HD.out.trans (hb5.mono HD.out.size)); clear hb5))
            clear HX HX2 HC HF
            by_cases hc : cmpK x.f0 y.f0 < 0
            · have dc : decide (cmpK x.f0 y.f0 < 0) = true := decide_eq_true hc
              have He := Lib.hid (show headK s (ats s p) (i + 1) = some i from by rw [Hhs.out, Hls.out, dc]; rfl)
              go_wp2_with fail
              go_roundw
              case rel => exact ⟨i + 1, by omega, by simp, by rw [He.out], Lib.hid (HK.out.trans (HD5.out.mono HK.out.size))⟩
              case measure => simp [intOf]; omega
            · have dc : decide (cmpK x.f0 y.f0 < 0) = false := decide_eq_false hc
              have He := Lib.hid (show headK s (ats s p) (i + 1) = some b from by rw [Hhs.out, Hls.out, dc]; rfl)
              go_wp2_with fail
              go_roundw
              case rel => exact ⟨i + 1, by omega, by simp, by rw [He.out], Lib.hid (HK.out.trans (HD5.out.mono HK.out.size))⟩
              case measure => simp [intOf]; omega
        · obtain rfl : ai = li := by omega
          have He := Lib.hid (show headK s (ats s p) (i + 1) = headK s (ats s p) i from by
            show (if ats s p i < (s.l i).length then _ else headK s (ats s p) i) = _
            rw [if_neg (by rw [HL.out.2.2.2, show s.l i = l from HL.out.2.1, HL.out.2.2.1]; omega)])
          clear ho
          go_wp2_with fail
          go_quiet (fail)
          obtain ⟨W1, hW1⟩ : ∃ W1, wi.drewN nq = W1 := ⟨_, rfl⟩
          have HD := Lib.hid (show Below wi.heap.size wi W1 from by rw [← hW1]; exact ⟨rfl, rfl, rfl, Nat.le_refl _, fun _ _ => rfl⟩)
          rw [hW1]
          clear hW1 c1 g0
          go_wp2_with fail
          go_roundw
          case rel => exact ⟨i + 1, by omega, by simp, by rw [He.out], Lib.hid (HK.out.trans (HD.out.mono HK.out.size))⟩
          case measure => simp [intOf]; omega
      · obtain rfl : i = s.L.length := by omega
        have hltz : decide ((s.L.length : Int) < (s.L.length : Int)) = false := decide_eq_false (by omega)
        have hwho : headK s (ats s p) s.L.length = who s p := rfl
        rw [hwho]
        clear hwho
        cases hw : who s p with
        | none =>
          have hpN : p = s.N := by
            rcases Nat.lt_or_eq_of_le hp with h | h
            · obtain ⟨i, hi⟩ := who_lt h
              rw [hw] at hi; cases hi
            · exact h
          have HpN := Lib.hid hpN
          simp only [hdV]
          clear hw hpN
          go_wp2_with fail
          go_ret
          refine ⟨_, rfl, ?_, HB.out⟩
          rw [← HpN.out]
          exact Kd.R_lower (Kd.R_below HI.out.2.1 HK.out) (by omega)
        | some b =>
          obtain ⟨hbi, hbl, _⟩ := who_some hw
          have hpN : p < s.N := by
            rcases Nat.lt_or_eq_of_le hp with h | h
            · exact h
            · rw [h, who_end] at hw; cases hw
          have Hat := Lib.hid (And.intro (ats_some hw) (itm_some hw))
          obtain ⟨ad, Ab, cb, e', f0, fy⟩ := ent_at HR.out.1 (show b < s.L.length from hbi) hbl
          obtain ⟨y, hy⟩ : ∃ y, s.e b (ats s p b) = y := ⟨_, rfl⟩
          obtain ⟨lb, hlb⟩ : ∃ lb, (s.l b).length = lb := ⟨_, rfl⟩
          obtain ⟨ab, hab⟩ : ∃ ab, ats s p b = ab := ⟨_, rfl⟩
          have hlb2 : lb ≤ 200 := by rw [← hlb]; exact HR.out.2 b
          rw [hy] at fy Hat
          have Hab := Lib.hid hab
          rw [hab] at fy hbl Hat
          rw [hlb] at f0 hbl
          subst e'
          have HE := Lib.hid (And.intro f0 fy)
          have hD : Below wi.heap.size wi wi.drew := (Below.refl _ _).drew
          have hzi : w.heap.size + 1 ≤ wi.heap.size := Nat.le_trans HI.out.2.2.2 HK.out.size
          obtain ⟨W3, hW3⟩ : ∃ W3, wi.drew.alloc (.cells #[.string y.f0.f0, .int .u64 y.f0.f1, .int .i64 y.f0.f2, .string y.f1] 44) = W3 := ⟨_, rfl⟩
          have b3 : Below wi.heap.size wi W3 := by rw [← hW3]; exact hD.alloc (Nat.le_refl _) _
          have hC : Kd.C PC.k44 W3 (some ⟨wi.heap.size, 0, none⟩) 1 [y] := by rw [← hW3]; exact C44_block (W := wi.drew.alloc _) (xs := [y]) (World.alloc_heap_new wi.drew _) (by simp)
          obtain ⟨v1, w5, hrun, hR5, hg5, _⟩ := run_append44 (c := 1) 22 (Kd.R_below (Kd.R_below HI.out.2.1 HK.out) b3) hC (by rw [upto_len]; omega) (Nat.le_trans hzi b3.size)
          have hA5 : AtB w5 w.heap.size s.L.length (ats s p) := (HA.out.below b3).grown hg5 (fun e => by have := Kd.R_base HI.out.2.1 _ e; omega)
          have B5 := (HB.out.trans (b3.mono HB.out.size)).grown hg5 (Nat.le_trans HB.out.size b3.size) (fun k hk => by have := Kd.R_base HI.out.2.1 k hk; omega)
          have hz5 : w.heap.size + 1 ≤ w5.heap.size := Nat.le_trans hzi (Nat.le_trans b3.size hg5.size)
          rw [← hW3] at hrun
          have HX := Lib.hid (And.intro (HE.out.2.below HB.out.drew) (And.intro (cell_up' HE.out.1 HB.out.drew) (show wi.drew.cell? ⟨w.heap.size, b, none⟩ = some (.int .i64 (ab : Nat)) from by rw [← Hab.out]; exact (HA.out.below hD).cell hbi)))
          have b4 : Below w.heap.size w (wi.alloc (.cells #[.string y.f0.f0, .int .u64 y.f0.f1, .int .i64 y.f0.f2, .string y.f1] 44)).drew := (HB.out.alloc HB.out.size _).drew
          have HX3 := Lib.hid (And.intro (HE.out.2.below b4) (And.intro (cell_up' HE.out.1 b4) (show (wi.alloc (.cells #[.string y.f0.f0, .int .u64 y.f0.f1, .int .i64 y.f0.f2, .string y.f1] 44)).drew.cell? ⟨w.heap.size, b, none⟩ = some (.int .i64 (ab : Nat)) from by rw [← Hab.out]; exact (HA.out.below (((Below.refl _ wi).alloc (Nat.le_refl _) _).drew)).cell hbi)))
          have HX5 := Lib.hid (And.intro (HE.out.2.below B5) (And.intro (cell_up' HE.out.1 B5) (show w5.cell? ⟨w.heap.size, b, none⟩ = some (.int .i64 (ab : Nat)) from by rw [← Hab.out]; exact hA5.cell hbi)))
          have H5 := Lib.hid (And.intro hA5 (And.intro hR5 B5))
          have c5 := HX5.out.2.2
          have fz := hA5.frozen b
          have m2 : IntKind.i64.wrap ((ab : Int) + 1) = (ab : Int) + 1 := by rw [IntWalk.i64_in _ (by omega)]
          have dB : decide ((b : Int) < 0) = false := decide_eq_false (by omega)
          have r0 : (0 ≤ (b : Int)) = True := by simp
          have r1 : ((b : Int) < s.L.length) = True := eq_true (by have : b < s.L.length := hbi; omega)
          have r2 : (b < s.L.length) = True := eq_true hbi
          have t0 : (0 ≤ (ab : Int)) = True := by simp
          have t1 : ((ab : Int) < lb) = True := eq_true (by omega)
          have t2 : (ab < lb) = True := eq_true hbl
          have Hbi := Lib.hid hbi
          simp only [hdV]
          clear hw hy hlb hab f0 fy hD hW3 b3 b4 hC hR5 hA5 B5 hg5 hbi
          go_wp2_with fail
          go_region_held3 (fun w' => (w'.cell? (Ab.add (ab * 4)) = some (.string y.f0.f0) ∧ w'.cell? ⟨(Ab.add (ab * 4)).block, (Ab.add (ab * 4)).off + 1, none⟩ = some (.int .u64 y.f0.f1) ∧ w'.cell? ⟨(Ab.add (ab * 4)).block, (Ab.add (ab * 4)).off + 2, none⟩ = some (.int .i64 y.f0.f2) ∧ w'.cell? ⟨(Ab.add (ab * 4)).block, (Ab.add (ab * 4)).off + 3, none⟩ = some (.string y.f1)) ∧ w'.cell? (ad.add b) = some (.slice (some Ab) lb cb) ∧ w'.cell? ⟨w.heap.size, b, none⟩ = some (.int .i64 (ab : Nat))) (first | exact HX.out | exact HX5.out | exact HX3.out) ((refine step_append_run (by rfl) (.tmp 58) (.tmp 69) 22 (by rfl) _ _ _ _ (by rfl) (by rfl) hrun ?_))
          clear hrun HX HX5 HX3
          go_wp2_with fail
          go_roundg (s.N - (p + 1))
          case measure => omega
          case rel => exact ⟨p + 1, by omega, rfl, Lib.hid ⟨by
            rw [Hat.out.1]
            have := H5.out.1.set b (ab + 1) Hbi.out
            simpa using this, by
            rw [upto_succ, Hat.out.2]
            exact R_set44 (b := w.heap.size) H5.out.2.1 (Nat.lt_succ_self _) _ rfl _, H5.out.2.2.setCell (by simp) _, by simpa [World.setCell] using hz5⟩⟩
end Go.Proofs.Ytehoojmalhloeaa.CM
