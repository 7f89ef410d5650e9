/- view: the document's New. -/
import Derived.Test.YtehoojmalhloeaaUB
import Derived.Test.YtehoojmalhloeaaUC
import Derived.Test.YtehoojmalhloeaaUD
namespace Go.Proofs.Ytehoojmalhloeaa.CM
open Go.RowKit Go.Proofs.YtehoojmalhloeaaW.PrintWords
set_option linter.unusedVariables false
set_option linter.unusedSimpArgs false
set_option maxRecDepth 100000

def Ref43 (s : Sh) (w : World) (e : Ending) (w' : World) : Prop :=
  (e = .returned (.tuple #[.pointer none, .int .i64 160]) ∧ (∃ j, j < s.L.length ∧ risesB (s.L.getD j []) = false) ∧ Below w.heap.size w w') ∨
    ∃ Xb LA cp, e = .returned (.tuple #[.pointer (some ⟨Xb, 0, none⟩), .int .i64 0]) ∧ (∀ j, j < s.L.length → risesB (s.L.getD j []) = true) ∧ w'.heap[Xb]? = some (.cells #[.slice LA (upto s s.N).length cp, .int .i64 (-1)] 118 (0, 0)) ∧ Kd.C PC.k44 w' LA (upto s s.N).length (upto s s.N) ∧ Below w.heap.size w w'
set_option maxHeartbeats 4000000 in
theorem ref43_w (s : Sh) (A : Option Addr) (c : Nat) (w : World) (hr : Kd.C (Kd.slice 44 PC.k44) w A s.L.length s.L) (hn : s.L.length ≤ 40) (hl : ∀ j, (s.L.getD j []).length ≤ 200) (hN : s.N ≤ 8000) :
    Calls Try.prog 43 #[.slice A s.L.length c] w (Ref43 s w) := by
  have HR := Lib.hid (And.intro hr hl)
  clear hr hl
  obtain ⟨D, hD⟩ : ∃ D, s.L = D := ⟨_, rfl⟩
  have HDD := Lib.hid hD
  have HS := Lib.hid (fun wr (h : Kd.C (Kd.slice 44 PC.k44) wr A s.L.length s.L) => all32_w s A c wr h hn HR.out.2 hN)
  rw [hD] at HR HS hn ⊢
  unfold Ref43
  rw [hD]
  clear hD
  go_enter Try.func43, Try.ntmps43
  go_wp2_with fail
  go_loopw [4] (fun t wr => ∃ i : Nat, i ≤ D.length ∧ t = .int .i64 (i : Int) ∧ Hid ((∀ j, j < i → risesB (D.getD j []) = true) ∧ Below w.heap.size w wr)) (fun t _ => D.length - (intOf t).toNat)
  case atStart => exact ⟨0, by omega, rfl, Lib.hid ⟨fun j h => by omega, Below.refl _ _⟩⟩
  case round =>
    obtain ⟨i, hi, rfl, HI⟩ := hrel
    have m1 : IntKind.i64.wrap ((i : Int) + 1) = (i : Int) + 1 := by rw [IntWalk.i64_in _ (by omega)]
    by_cases hlt : i < D.length
    · have hltz : (i : Int) < D.length := by omega
      obtain ⟨ad, A0, c0, e0, g0, g1, g2⟩ := PC.at_L6 (keepC HR.out.1 (Nat.le_refl _) HI.out.2) (i : Int) (by omega) (by omega)
      subst e0
      obtain ⟨l, hlD⟩ : ∃ l, PC.rd_L6 D (i : Int) = l := ⟨_, rfl⟩
      rw [hlD] at g0 g1 g2
      simp only [Int.toNat_natCast] at g0
      have hlD' : D.getD i [] = l := by rw [← hlD]; simp [PC.rd_L6]
      have hll : l.length ≤ 200 := by rw [← hlD']; exact HR.out.2 i
      have HC := Lib.hid (And.intro hlD' (rises29_w A0 c0 l wr g2 (by omega)))
      have p0 : ((i : Int) < D.length) = True := eq_true hltz
      have p1 : (0 ≤ (i : Int)) = True := by simp
      have p2 : (i < D.length) = True := eq_true hlt
      clear hlD hlD' hll g1 g2
      go_wp2_with fail
      refine HC.out.2.mono ?_
      rintro e w1 ⟨rfl, b⟩
      have HB := Lib.hid (HI.out.2.trans (b.mono HI.out.2.size))
      clear b
      cases hri : risesB l
      · go_wp2_with fail
        go_ret2
        exact .inl ⟨rfl, ⟨i, hlt, by rw [HC.out.1]; exact hri⟩, HB.out⟩
      · go_wp2_with fail
        go_roundw
        case rel => exact ⟨i + 1, by omega, by simp, Lib.hid ⟨fun j hj => by
          rcases Nat.lt_succ_iff_lt_or_eq.1 hj with h | rfl
          · exact HI.out.1 j h
          · rw [HC.out.1]; exact hri, HB.out⟩⟩
        case measure => simp [intOf]; omega
    · obtain rfl : i = D.length := by omega
      have hltz : decide ((D.length : Int) < (D.length : Int)) = false := decide_eq_false (by omega)
      go_wp2_with fail
      refine (HS.out wr (keepC HR.out.1 (Nat.le_refl _) HI.out.2)).mono ?_
      rintro e w1 ⟨v, rfl, hR, b⟩
      obtain ⟨U, hU⟩ : ∃ U, upto s s.N = U := ⟨_, rfl⟩
      have HU := Lib.hid hU
      rw [hU] at hR
      obtain ⟨LA, cp, hv, hle, hC⟩ := Kd.R_reads hR
      subst hv
      obtain ⟨W2, hW2⟩ : ∃ W2, w1.alloc (.cells #[.slice LA U.length cp, .int .i64 (-1)] 118) = W2 := ⟨_, rfl⟩
      have bl : Below w1.heap.size w1 W2 := by rw [← hW2]; exact (Below.refl _ _).alloc (Nat.le_refl _) _
      have kk : W2.heap[w1.heap.size]? = some (.cells #[.slice LA U.length cp, .int .i64 (-1)] 118) := by rw [← hW2]; exact World.alloc_heap_new w1 _
      have HZ := Lib.hid (And.intro kk (And.intro (keepC hC (Nat.le_refl _) bl) (HI.out.2.trans ((b.trans (bl.mono b.size)).mono HI.out.2.size))))
      clear hR hC hle bl kk b hU
      go_wp2_with (first | rw [hW2])
      go_ret2
      have hz := HZ.out
      rw [← HU.out] at hz
      exact .inr ⟨w1.heap.size, LA, cp, rfl, HI.out.1, hz⟩

def Ref58 (s : Sh) (seq : Int) (w : World) (e : Ending) (w' : World) : Prop :=
  (e = .returned (.tuple #[.pointer none, .int .i64 160]) ∧ (∃ j, j < s.L.length ∧ risesB (s.L.getD j []) = false) ∧ Below w.heap.size w w') ∨
    ∃ Rb LA cp, e = .returned (.tuple #[.pointer (some ⟨Rb, 0, none⟩), .int .i64 0]) ∧ (∀ j, j < s.L.length → risesB (s.L.getD j []) = true) ∧ Rv w' Rb LA cp (seen s seq) (-1) ∧ Below w.heap.size w w' ∧ w.heap.size ≤ Rb ∧ ∀ a, LA = some a → w.heap.size ≤ a.block ∧ a.block < w'.heap.size
set_option maxHeartbeats 4000000 in
theorem ref58_w (s : Sh) (seq : Int) (A : Option Addr) (c : Nat) (w : World) (hr : Kd.C (Kd.slice 44 PC.k44) w A s.L.length s.L) (hn : s.L.length ≤ 40) (hl : ∀ j, (s.L.getD j []).length ≤ 200) (hN : s.N ≤ 8000) :
    Calls Try.prog 58 #[.slice A s.L.length c, .int .u64 seq] w (Ref58 s seq w) := by
  have HS := Lib.hid (ref43_w s A c w hr hn hl hN)
  clear hr hl
  obtain ⟨n, hn'⟩ : ∃ n, s.L.length = n := ⟨_, rfl⟩
  have Hn := Lib.hid hn'
  rw [hn'] at HS ⊢
  clear hn'
  go_enter Try.func58, Try.ntmps58
  go_wp2_with fail
  refine HS.out.mono ?_
  rintro e w1 (⟨rfl, hb, b⟩ | ⟨Xb, LA, cp, rfl, hris, hX, hC, b⟩)
  · have HB := Lib.hid (And.intro hb b)
    clear hb b
    go_wp2_with fail
    go_ret2
    exact .inl ⟨rfl, HB.out⟩
  · have HB := Lib.hid (And.intro hris b)
    have hpw : Ris s := fun j hj => pw_of_rises _ (hris j hj)
    have hlen := upto_len s s.N
    obtain ⟨U, hU⟩ : ∃ U, upto s s.N = U := ⟨_, rfl⟩
    rw [hU] at hX hC hlen
    have hsd : seenD seq none false U = seen s seq := by
      have h := su_of hpw
      rw [hU] at h
      rw [seenD_vs0 seq U h]
      unfold seen
      rw [hU]
    have HU := Lib.hid hsd
    have HC := Lib.hid (seen17_w LA cp U seq w1 hC (by omega))
    have x0 : w1.cell? ⟨Xb, 0, none⟩ = some (.slice LA U.length cp) := by simp [World.cell?, hX]
    have hql : (seenD seq none false U).length ≤ 1000000 := by have := seenD_len seq U none false; omega
    rw [hsd] at HC hql
    clear hris b hX hC hU hsd hpw hlen HS
    obtain ⟨Q, hQ⟩ : ∃ Q, seen s seq = Q := ⟨_, rfl⟩
    rw [hQ] at HC hql
    have HQ := Lib.hid hQ
    clear hQ
    go_wp2_with fail
    refine HC.out.mono ?_
    rintro e w2 ⟨v, rfl, hR, b⟩
    obtain ⟨LB, cq, hv, hle, hC⟩ := Kd.R_reads hR
    have hlt1 := Kd.R_lt hR
    have hba1 := Kd.R_base hR
    subst hv
    obtain ⟨W3, hW3⟩ : ∃ W3, w2.alloc (.cells #[.slice LB Q.length cq, .int .i64 (-1)] 127) = W3 := ⟨_, rfl⟩
    have bl : Below w2.heap.size w2 W3 := by rw [← hW3]; exact (Below.refl _ _).alloc (Nat.le_refl _) _
    have bs : w2.heap.size < W3.heap.size := by rw [← hW3]; simp
    have kk : W3.heap[w2.heap.size]? = some (.cells #[.slice LB Q.length cq, .int .i64 (-1)] 127) := by rw [← hW3]; exact World.alloc_heap_new w2 _
    have HZ := Lib.hid (show Rv W3 w2.heap.size LB cq Q (-1) ∧ Below w.heap.size w W3 ∧ w.heap.size ≤ w2.heap.size ∧ ∀ a, LB = some a → w.heap.size ≤ a.block ∧ a.block < W3.heap.size from by
      have hs1 := HB.out.2.size
      have hs2 := b.size
      refine ⟨⟨kk, fun j hj => ?_, fun a e h => ?_, by omega⟩, HB.out.2.trans ((b.trans (bl.mono b.size)).mono hs1), by omega, fun a e => ?_⟩
      · obtain ⟨ad, e, x0, x1⟩ := PC.at_T76 (keepC hC (Nat.le_refl _) bl) (j : Int) (by omega) (by omega)
        rw [show PC.rd_T76 Q (j : Int) = Q.getD j zi from by unfold PC.rd_T76; rw [Int.toNat_natCast]; rfl, Int.toNat_natCast] at x0 x1
        exact ⟨ad, e, x0, x1⟩
      · have := hlt1 a.block (by rw [e]; rfl); omega
      · have h1 := hlt1 a.block (by rw [e]; rfl)
        have h2 := hba1 a.block (by rw [e]; rfl)
        exact ⟨by omega, by omega⟩)
    clear hR hC hle hlt1 hba1 bl bs kk b
    go_wp2_with (first | rw [hW3])
    go_ret2
    exact .inr ⟨w2.heap.size, LB, cq, rfl, HB.out.1, by rw [HQ.out]; exact HZ.out.1, HZ.out.2⟩
end Go.Proofs.Ytehoojmalhloeaa.CM
