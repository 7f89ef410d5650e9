/- Whether keys rise, as the program (compact.rises) tells it. No condition of its own but that the entries can be read. -/
import Derived.Test.YtehoojmalhloeaaCB
import Derived.Deep.RegionHeld3
import Derived.IntWalk
namespace Go.Proofs.Ytehoojmalhloeaa.CM
open Go.RowKit Go.Proofs.YtehoojmalhloeaaW.PrintWords
set_option linter.unusedVariables false
set_option linter.unusedSimpArgs false
set_option maxRecDepth 100000

/-- Does each key stand ahead of the next one? -/
def risesB : List PC.S44 → Bool
  | a :: b :: t => decide (cmpK a.f0 b.f0 < 0) && risesB (b :: t)
  | _ => true
theorem risesB_iff : ∀ l : List PC.S44, risesB l = true ↔ ∀ j : Nat, j + 1 < l.length → cmpK (l.getD j PC.z44).f0 (l.getD (j + 1) PC.z44).f0 < 0
  | [] => by simp [risesB]
  | [a] => by simp [risesB]
  | a :: b :: t => by
    have ih := risesB_iff (b :: t)
    simp only [risesB, Bool.and_eq_true, decide_eq_true_eq, ih]
    constructor
    · rintro ⟨h0, h⟩ j hj
      cases j with
      | zero => simpa using h0
      | succ j => simpa using h j (by simpa using hj)
    · intro h
      refine ⟨by simpa using h 0 (by simp), fun j hj => ?_⟩
      simpa using h (j + 1) (by simpa using hj)
theorem risesB_false {l : List PC.S44} {j : Nat} (hj : j + 1 < l.length) (h : ¬ cmpK (l.getD j PC.z44).f0 (l.getD (j + 1) PC.z44).f0 < 0) : risesB l = false := by
  rw [← Bool.not_eq_true, risesB_iff]
  exact fun H => h (H j hj)

theorem keepC {α : Type} {d : Kd α} {w w1 : World} {A : Option Addr} {n : Nat} {xs : List α} {m : Nat} (h : Kd.C d w A n xs) (hm : w.heap.size ≤ m) (hb : Below m w w1) : Kd.C d w1 A n xs := Kd.C_below h (hb.mono hm)

/-- An entry lies at an address: its four cells. -/
def El (w : World) (p : Addr) (x : PC.S44) : Prop :=
  w.cell? p = some (.string x.f0.f0) ∧ w.cell? ⟨p.block, p.off + 1, none⟩ = some (.int .u64 x.f0.f1) ∧ w.cell? ⟨p.block, p.off + 2, none⟩ = some (.int .i64 x.f0.f2) ∧ w.cell? ⟨p.block, p.off + 3, none⟩ = some (.string x.f1)
theorem El.below {w w1 : World} {p : Addr} {x : PC.S44} (h : El w p x) (hb : Below w.heap.size w w1) : El w1 p x :=
  ⟨(hb.cell (World.block_lt_of_cell? _ _ h.1)).trans h.1, (hb.cell (World.block_lt_of_cell? _ _ h.2.1)).trans h.2.1, (hb.cell (World.block_lt_of_cell? _ _ h.2.2.1)).trans h.2.2.1, (hb.cell (World.block_lt_of_cell? _ _ h.2.2.2)).trans h.2.2.2⟩
theorem at44 {w : World} {A : Option Addr} {n : Nat} {xs : List PC.S44} (h : Kd.C PC.k44 w A n xs) (k : Nat) (hk : k < n) : ∃ ad, A = some ad ∧ El w (ad.add (k * 4)) (xs.getD k PC.z44) := by
  obtain ⟨ad, e, h0, h1, h2, h3⟩ := PC.at_T44 h (k : Int) (by omega) (by omega)
  exact ⟨ad, e, h0, h1, h2, h3⟩

set_option maxHeartbeats 4000000 in
theorem rises_w (A : Option Addr) (c : Nat) (l : List PC.S44) (w : World) (hr : Kd.C PC.k44 w A l.length l) (hc : l.length ≤ c) :
    Calls Try.prog 64 #[.slice A l.length c] w fun e w' => e = .returned (.bool (risesB l)) ∧ Below w.heap.size w w' := by
  have hlen := hr.2.1
  have HR := Lib.hid hr
  clear hr
  go_enter Try.func64, Try.ntmps64
  go_wp2
  go_loopw [3] (fun t wr => ∃ k : Nat, (k + 1 ≤ l.length ∨ k = 0) ∧ t = .int .i64 ((k : Int) + 1) ∧ (∀ j : Nat, j < k → cmpK (l.getD j PC.z44).f0 (l.getD (j + 1) PC.z44).f0 < 0) ∧ Below w.heap.size w wr) (fun t _ => l.length - (intOf t).toNat)
  case atStart => exact ⟨0, Or.inr rfl, rfl, fun j h => by omega, Below.refl _ _⟩
  case round =>
    obtain ⟨k, hi2, rfl, hz, hB⟩ := hrel
    have Z := Lib.hid hz
    have KB := Lib.hid hB
    clear hz hB
    by_cases hlt : (k : Int) + 1 < l.length
    · have hj : IntKind.i64.wrap ((k : Int) + 1 - 1) = (k : Int) := by rw [IntWalk.i64_in _ (by omega)]; omega
      have hj2 : IntKind.i64.wrap ((k : Int) + 1 + 1) = (k : Int) + 1 + 1 := by rw [IntWalk.i64_in _ (by omega)]
      obtain ⟨ad, e, X0⟩ := at44 (keepC HR.out (Nat.le_refl _) KB.out.drew) k (by omega)
      obtain ⟨ad2, e2, Y0⟩ := at44 (keepC HR.out (Nat.le_refl _) KB.out.drew) (k + 1) (by omega)
      obtain rfl : ad = ad2 := by rw [e] at e2; injection e2
      subst e
      obtain ⟨a, ha⟩ : ∃ a, l.getD k PC.z44 = a := ⟨_, rfl⟩
      obtain ⟨b, hb⟩ : ∃ b, l.getD (k + 1) PC.z44 = b := ⟨_, rfl⟩
      rw [ha] at X0
      rw [hb] at Y0
      have HX := Lib.hid (And.intro X0 Y0)
      have Ha := Lib.hid ha
      have Hb := Lib.hid hb
      clear X0 Y0 ha hb e2
      have p0 : (0 ≤ (k : Int)) = True := by simp
      have p1 : ((k : Int) < l.length) = True := eq_true (by omega)
      have p2 : (0 ≤ (k : Int) + 1) = True := eq_true (by omega)
      have p3 : ((k : Int) + 1 < l.length) = True := eq_true hlt
      have p4 : (k < l.length) = True := eq_true (by omega)
      have p5 : (k + 1 < l.length) = True := eq_true (by omega)
      have hj3 : IntKind.i64.wrap (k : Int) = (k : Int) := by rw [IntWalk.i64_in _ (by omega)]
      have C := compare_w a.f0 b.f0
      unfold kv42 at C
      have HC := Lib.hid C
      clear C
      go_wp2_with fail
      go_region_held3 (fun w' => (w'.cell? (ad.add (k * 4)) = some (.string a.f0.f0) ∧ w'.cell? ⟨(ad.add (k * 4)).block, (ad.add (k * 4)).off + 1, none⟩ = some (.int .u64 a.f0.f1) ∧ w'.cell? ⟨(ad.add (k * 4)).block, (ad.add (k * 4)).off + 2, none⟩ = some (.int .i64 a.f0.f2) ∧ w'.cell? ⟨(ad.add (k * 4)).block, (ad.add (k * 4)).off + 3, none⟩ = some (.string a.f1)) ∧ w'.cell? (ad.add ((k + 1) * 4)) = some (.string b.f0.f0) ∧ w'.cell? ⟨(ad.add ((k + 1) * 4)).block, (ad.add ((k + 1) * 4)).off + 1, none⟩ = some (.int .u64 b.f0.f1) ∧ w'.cell? ⟨(ad.add ((k + 1) * 4)).block, (ad.add ((k + 1) * 4)).off + 2, none⟩ = some (.int .i64 b.f0.f2) ∧ w'.cell? ⟨(ad.add ((k + 1) * 4)).block, (ad.add ((k + 1) * 4)).off + 3, none⟩ = some (.string b.f1)) (first | exact HX.out | exact HB2.out) (first | (go_at_call 69; refine Calls.mono (HC.out _) ?_; rintro e w1 ⟨rfl, hb1⟩; have HB2 := Lib.hid (And.intro (HX.out.1.below hb1) (HX.out.2.below hb1)); have HB1 := Lib.hid ((Below.refl wr.heap.size wr).drew.trans hb1); clear hb1))
      all_goals
        by_cases hc1 : 0 ≤ cmpK a.f0 b.f0
        · have hc2 : decide (0 ≤ cmpK a.f0 b.f0) = true := decide_eq_true hc1
          go_wp2_with fail
          go_ret
          have : risesB l = false := risesB_false (j := k) (by omega) (by rw [Ha.out, Hb.out]; omega)
          exact ⟨by simp [this], KB.out.trans (HB1.out.mono KB.out.size)⟩
        · have hc2 : decide (0 ≤ cmpK a.f0 b.f0) = false := decide_eq_false hc1
          go_wp2_with fail
          go_roundw
          case rel => exact ⟨k + 1, Or.inl (by omega), by simp, fun j hj => (by
            rcases Nat.lt_succ_iff_lt_or_eq.1 hj with h | rfl
            · exact Z.out j h
            · rw [Ha.out, Hb.out]; omega), KB.out.trans (HB1.out.mono KB.out.size)⟩
          case measure => simp [intOf]; omega
    · go_wp2
      go_ret
      refine ⟨?_, KB.out⟩
      have : risesB l = true := by
        rw [risesB_iff]
        exact fun j hj => Z.out j (by omega)
      simp [this]

end Go.Proofs.Ytehoojmalhloeaa.CM
