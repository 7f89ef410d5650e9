/- The entries of each user, one after the other (compact.users): the contract of that iterator. Its condition is that the entries can be read. -/
import Derived.Test.YtehoojmalhloeaaCC
import Derived.Test.YtehoojmalhloeaaCD
import Derived.BigQuiet
import Derived.OwnWalkIn
import Derived.TacticsInMore
import Derived.LoopNIn
import Derived.LoopIn
namespace Go.Proofs.Ytehoojmalhloeaa.CM
open Go.RowKit Go.Proofs.YtehoojmalhloeaaW.PrintWords
set_option linter.unusedVariables false
set_option linter.unusedSimpArgs false
set_option maxRecDepth 100000

/-- Are two entries of one user? -/
def sameU (a b : PC.S44) : Bool := a.f0.f0.toList == b.f0.f0.toList
/-- The entries of each user. -/
def joinU (a : PC.S44) : List (List PC.S44) → List (List PC.S44)
  | (b :: g) :: gs => if sameU b a = true then (a :: b :: g) :: gs else [a] :: (b :: g) :: gs
  | gs => [a] :: gs
def groups : List PC.S44 → List (List PC.S44)
  | [] => []
  | a :: t => joinU a (groups t)

theorem groups_cons (a : PC.S44) (t : List PC.S44) : ∃ g gs, groups (a :: t) = (a :: g) :: gs := by
  unfold groups
  unfold joinU
  split
  · split <;> exact ⟨_, _, rfl⟩
  · exact ⟨_, _, rfl⟩
theorem sameU_trans {a b c : PC.S44} (h1 : sameU a c = true) (h2 : sameU b c = true) : sameU a b = true := by
  simp only [sameU, beq_iff_eq] at *
  rw [h1, h2]
theorem groups_take : ∀ (m : Nat) (l : List PC.S44), 1 ≤ m → m ≤ l.length → (∀ j, j < m → sameU (l.getD j PC.z44) (l.getD 0 PC.z44) = true) → (m = l.length ∨ sameU (l.getD m PC.z44) (l.getD 0 PC.z44) = false) →
    groups l = l.take m :: groups (l.drop m)
  | 0, _, h, _, _, _ => absurd h (by omega)
  | _ + 1, [], _, h, _, _ => by simp at h
  | 1, [a], _, _, _, _ => by simp [groups, joinU]
  | 1, a :: b :: t, _, _, _, h => by
    have hb : sameU b a = false := by simpa using h
    obtain ⟨g, gs, hg⟩ := groups_cons b t
    show joinU a (groups (b :: t)) = [a] :: groups (b :: t)
    rw [hg]
    simp [joinU, hb]
  | m + 2, [a], _, h, _, _ => by simp at h
  | m + 2, a :: b :: t, _, hle, hz, he => by
    have hb : sameU b a = true := by simpa using hz 1 (by omega)
    have ih := groups_take (m + 1) (b :: t) (by omega) (by simpa using hle) (fun j hj => by
      have h1 := hz (j + 1) (by omega)
      have h1 : sameU ((b :: t).getD j PC.z44) a = true := by simpa using h1
      exact sameU_trans h1 hb) (by
      rcases he with he | he
      · exact .inl (by simpa using he)
      · refine .inr ?_
        have h1 : sameU ((b :: t).getD (m + 1) PC.z44) a = false := by simpa using he
        rw [← Bool.not_eq_true] at h1 ⊢
        intro h2
        refine h1 ?_
        simp only [sameU, beq_iff_eq, List.getD_cons_zero] at *
        rw [h2, hb])
    show joinU a (groups (b :: t)) = (a :: b :: t.take m) :: groups (t.drop m)
    rw [ih]
    simp [joinU, hb]

/-- A part of what can be read: where it lies, what it can hold, its entries. -/
abbrev Part (w0 : World) := { x : Option Addr × Nat × List PC.S44 // Kd.C PC.k44 w0 x.1 x.2.2.length x.2.2 ∧ x.2.2.length ≤ x.2.1 ∧ 0 < x.2.2.length }
def Part.kvs {w0 : World} (x : Part w0) : List PC.S44 := x.1.2.2
def Part.encs {w0 : World} (x : Part w0) : Array Value := #[.slice x.1.1 x.1.2.2.length x.1.2.1]

theorem Part.encs_eq {w0 : World} (x : Part w0) (m : Nat) (h : x.1.2.2.length = m) : Part.encs x = #[.slice x.1.1 m x.1.2.1] := by
  unfold Part.encs
  rw [h]

/-- A step of the iterator: orders are drawn, or its own variable is set. -/
def StepB (B : Nat) (A A' : World) : Prop := (∃ n, A' = A.drewN n) ∨ (∃ v, A' = A.setCell ⟨B, 0, none⟩ v)
/-- What a round keeps. -/
def KeepB (n₀ B : Nat) (A A' : World) : Prop := Below n₀ A A' ∧ A'.heap[B]? = A.heap[B]?

/-- How many are left, by the variable. -/
def lenAt (B : Nat) (W : World) : Nat := match W.cell? ⟨B, 0, none⟩ with
  | some (.slice _ n _) => n
  | _ => 0

set_option maxHeartbeats 4000000 in
theorem users1_w (n : Nat) (hn : 1 ≤ n) (w0 w : World) (B : Nat) (hB : w0.heap.size ≤ B) (hBw : B < w.heap.size) (hb0 : Below w0.heap.size w0 w)
    (A : Option Addr) (c : Nat) (xs : List PC.S44) (hr : Kd.C PC.k44 w0 A xs.length xs) (hc : xs.length ≤ c) (hcell : w.heap[B]? = some (.cells #[.slice A xs.length c] 22 (0, 0))) :
    Iter Fence.wide n Try.prog 84 #[.pointer (some ⟨B, 0, none⟩)] Part.encs (StepB B) (KeepB w0.heap.size B)
      (fun ys : List (Part w0) => ys.map Part.kvs = groups xs) (fun ys : List (Part w0) => ys.map Part.kvs <+: groups xs) w := by
  intro l J Jx W hW hJ hJx hY h0
  refine callsIn_of_wp Try.func84 rfl trivial ?_ rfl
  simp only [Try.ntmps84, List.size_toArray, List.length_cons, List.length_nil, Nat.reduceAdd, Nat.reduceSub, Array.replicate_succ, Array.replicate_zero, List.push_toArray, List.append_toArray, List.nil_append, List.cons_append]
  have HY := Lib.hid hY
  have HJ := Lib.hid hJ
  have HR := Lib.hid (And.intro hr hc)
  have HW := Lib.hid (And.intro hb0 hW)
  clear hY hJ hJx hb0 hW
  gi_wp2
  gi_loopw [3] (fun t wr => ∃ (pre : List (Part w0)) (rest : List PC.S44) (A : Option Addr) (c : Nat), wr.heap[B]? = some (.cells #[.slice A rest.length c] 22 (0, 0)) ∧ Kd.C PC.k44 w0 A rest.length rest ∧ rest.length ≤ c ∧ groups xs = pre.map Part.kvs ++ groups rest ∧ J pre wr ∧ Below w0.heap.size w0 wr) (fun _ wr => lenAt B wr)
  case atStart => exact ⟨[], xs, A, c, (HW.out.2.block B hBw).trans hcell, HR.out.1, HR.out.2, by simp, h0, HW.out.1.trans (HW.out.2.mono HW.out.1.size)⟩
  case round =>
    obtain ⟨pre, rest, A', c', hcell', hr', hc', hg, hJ0, hB0⟩ := hrel
    have hlen := hr'.2.1
    have hv : wr.cell? ⟨B, 0, none⟩ = some (.slice A' rest.length c') := by simp [World.cell?, hcell']
    have hf : wr.frozen? ⟨B, 0, none⟩ = false := by simp [World.frozen?, hcell']
    have H := Lib.hid (And.intro hcell' (And.intro hr' (And.intro hc' (And.intro hg (And.intro hJ0 hB0)))))
    clear hcell' hr' hc' hg hJ0 hB0
    cases rest with
    | nil =>
      gi_wp2
      go_end0
      exact ⟨⟨_, rfl⟩, .inl ⟨pre, by simpa [groups] using H.out.2.2.2.1.symm, H.out.2.2.2.2.1⟩⟩
    | cons a t =>
      have hpos : 0 < (a :: t).length := by simp
      obtain ⟨rest, hrest⟩ : ∃ rest, a :: t = rest := ⟨_, rfl⟩
      rw [hrest] at H hv hlen hpos
      gi_wp2
      refine wpIn_wide.2 ?_
      go_loopw [3] (fun t wi => ∃ (m k : Nat), 1 ≤ m ∧ m ≤ rest.length ∧ t = .int .i64 (m : Int) ∧ (∀ j, j < m → sameU (rest.getD j PC.z44) (rest.getD 0 PC.z44) = true) ∧ wi = wr.drewN k) (fun t _ => rest.length - (intOf t).toNat)
      case atStart => exact ⟨1, 0, Nat.le_refl _, hpos, rfl, fun j hj => by
        obtain rfl : j = 0 := by omega
        simp [sameU], rfl⟩
      case round =>
        obtain ⟨m, k, hm1, hm2, rfl, hz, rfl⟩ := hrel
        have Z := Lib.hid hz
        clear hz
        have hmc : (m ≤ c') = True := eq_true (by have := H.out.2.2.1; omega)
        by_cases hm : m < rest.length
        · obtain ⟨ad, e, X0, _⟩ := at44 (keepC H.out.2.1 (Nat.le_refl _) (H.out.2.2.2.2.2.trans (below_drewN (Below.refl _ _) k))) 0 (by omega)
          obtain ⟨ad2, e2, Y0, _⟩ := at44 (keepC H.out.2.1 (Nat.le_refl _) (H.out.2.2.2.2.2.trans (below_drewN (Below.refl _ _) k))) m hm
          obtain rfl : ad = ad2 := by rw [e] at e2; injection e2
          subst e
          have X1 : wr.cell? ad = some (.string (rest.getD 0 PC.z44).f0.f0) := by simpa [Addr.add] using X0
          have Y1 : wr.cell? (ad.add (m * 4)) = some (.string (rest.getD m PC.z44).f0.f0) := Y0
          clear X0 Y0
          have dm : decide ((m : Int) < (rest.length : Int)) = true := decide_eq_true (by omega)
          have p1 : (m < rest.length) = True := eq_true hm
          have p0 : (0 < rest.length) = True := eq_true hpos
          obtain ⟨x0, hx0⟩ : ∃ x0, rest.getD 0 PC.z44 = x0 := ⟨_, rfl⟩
          obtain ⟨xm, hxm⟩ : ∃ xm, rest.getD m PC.z44 = xm := ⟨_, rfl⟩
          rw [hx0] at X1
          rw [hxm] at Y1
          have X2 := Lib.hid hx0
          have Y2 := Lib.hid hxm
          clear hx0 hxm e2
          by_cases hs : sameU xm x0 = true
          · have hs2 : (xm.f0.f0.toList == x0.f0.f0.toList) = true := hs
            have hw1 : IntKind.i64.wrap ((m : Int) + 1) = (m : Int) + 1 := by rw [IntWalk.i64_in _ (by omega)]
            go_wp2_with (go_quiet (fail))
            refine ⟨⟨m + 1, _, by omega, by omega, by simp, fun j hj => ?_, rfl⟩, by simp [intOf]; omega⟩
            rcases Nat.lt_succ_iff_lt_or_eq.1 hj with h | rfl
            · exact Z.out j h
            · rw [X2.out, Y2.out]; exact hs
          · have hs2 : (xm.f0.f0.toList == x0.f0.f0.toList) = false := by simpa [sameU] using hs
            have hend : m = rest.length ∨ sameU (rest.getD m PC.z44) (rest.getD 0 PC.z44) = false := .inr (by rw [X2.out, Y2.out]; simpa using hs)
            have HE := Lib.hid (groups_take m rest hm1 hm2 Z.out hend)
            clear hend X2 Y2 hs
            go_wp2_with (go_quiet (fail))
            gi_wp2_with fail
            generalize hWw : wr.drewN _ = Ww
            have hBw : Below w0.heap.size w0 Ww := hWw ▸ below_drewN H.out.2.2.2.2.2 _
            have hJw : J pre Ww := hWw ▸ HJ.out _ _ _ H.out.2.2.2.2.1 (.inl ⟨_, rfl⟩)
            have hbox : Boxed Ww B 22 (.slice (some ad) rest.length c') := by subst hWw; exact H.out.1
            have hv' := hbox.cell
            have hc0 := H.out.2.2.1
            have hlt : (rest.take m).length = m := by rw [List.length_take]; omega
            have hpx : Kd.C PC.k44 w0 (some ad) (rest.take m).length (rest.take m) := Kd.C_take H.out.2.1 hm2
            have hpre : (pre ++ [(⟨((some ad), c', rest.take m), hpx, by show (rest.take m).length ≤ c'; omega, by show 0 < (rest.take m).length; omega⟩ : Part w0)]).map Part.kvs <+: groups xs := by
              rw [H.out.2.2.2.1, HE.out]
              exact ⟨groups (rest.drop m), by simp [Part.kvs]⟩
            obtain ⟨fn, tmps, assign, body, hy, hR⟩ := HY.out pre _ Ww hJw hpre
            have hy : (Instr.yield l #[.slice (some ad) m c']).run Try.prog Ww = .ok (.round l fn tmps assign body) Ww := by
              rw [Part.encs_eq _ m hlt] at hy
              exact hy
            clear hWw
            gi_wp2
            rw [hy, Oper.uponIn_round]
            refine ⟨fun h => by simp [Fence.wide] at h, hR.mono ?_⟩
            rintro e W3 (⟨rfl, hJ3, hk3⟩ | ⟨rfl, hJx3⟩)
            · have hbox3 : Boxed W3 B 22 (.slice (some ad) rest.length c') := hk3.2.trans hbox
              have hv3 := hbox3.cell
              have hf3 := hbox3.frozen
              have hmr : (m ≤ rest.length) = True := eq_true hm2
              gi_wp2
              have hdr := Kd.C_drop (c := c') H.out.2.1 hm2 hc0
              rw [if_neg (by omega)] at hdr
              have hld : (rest.drop m).length = rest.length - m := List.length_drop
              refine ⟨⟨_, rest.drop m, some (ad.add (m * 4)), c' - m, ?_, hdr, by omega, ?_, HJ.out _ _ _ hJ3 (.inr ⟨_, rfl⟩), (hBw.trans hk3.1).setCell (p := ⟨B, 0, none⟩) hB _⟩, ?_⟩
              · rw [hld]
                exact hbox3.set _
              · rw [H.out.2.2.2.1, HE.out]
                simp [Part.kvs]
              · unfold lenAt
                rw [(hbox3.set _).cell, hv]
                show rest.length - m < rest.length
                omega
            · gi_wp2
              refine bodyPost_ret (results_none rfl _ _ _) rfl ?_
              exact ⟨⟨_, rfl⟩, .inr ⟨_, hpre, hJx3⟩⟩
        · have dm : decide ((m : Int) < (rest.length : Int)) = false := decide_eq_false (by omega)
          have HE := Lib.hid (groups_take m rest hm1 hm2 Z.out (.inl (by omega)))
          go_wp2_with (go_quiet (fail))
          gi_wp2_with fail
          generalize hWw : wr.drewN _ = Ww
          have hBw : Below w0.heap.size w0 Ww := hWw ▸ below_drewN H.out.2.2.2.2.2 _
          have hJw : J pre Ww := hWw ▸ HJ.out _ _ _ H.out.2.2.2.2.1 (.inl ⟨_, rfl⟩)
          have hbox : Boxed Ww B 22 (.slice A' rest.length c') := by subst hWw; exact H.out.1
          have hv' := hbox.cell
          have hc0 := H.out.2.2.1
          have hlt : (rest.take m).length = m := by rw [List.length_take]; omega
          have hpx : Kd.C PC.k44 w0 A' (rest.take m).length (rest.take m) := Kd.C_take H.out.2.1 hm2
          have hpre : (pre ++ [(⟨(A', c', rest.take m), hpx, by show (rest.take m).length ≤ c'; omega, by show 0 < (rest.take m).length; omega⟩ : Part w0)]).map Part.kvs <+: groups xs := by
            rw [H.out.2.2.2.1, HE.out]
            exact ⟨groups (rest.drop m), by simp [Part.kvs]⟩
          obtain ⟨fn, tmps, assign, body, hy, hR⟩ := HY.out pre _ Ww hJw hpre
          have hy : (Instr.yield l #[.slice A' m c']).run Try.prog Ww = .ok (.round l fn tmps assign body) Ww := by
            rw [Part.encs_eq _ m hlt] at hy
            exact hy
          clear hWw
          gi_wp2
          rw [hy, Oper.uponIn_round]
          refine ⟨fun h => by simp [Fence.wide] at h, hR.mono ?_⟩
          rintro e W3 (⟨rfl, hJ3, hk3⟩ | ⟨rfl, hJx3⟩)
          · have hbox3 : Boxed W3 B 22 (.slice A' rest.length c') := hk3.2.trans hbox
            have hv3 := hbox3.cell
            have hf3 := hbox3.frozen
            have hmr : (m ≤ rest.length) = True := eq_true hm2
            gi_wp2
            have hdr := Kd.C_drop (c := c') H.out.2.1 hm2 hc0
            have hld : (rest.drop m).length = rest.length - m := List.length_drop
            refine ⟨⟨_, rest.drop m, (if c' = m then A' else A'.map (·.add (m * 4))), c' - m, ?_, hdr, by omega, ?_, HJ.out _ _ _ hJ3 (.inr ⟨_, rfl⟩), (hBw.trans hk3.1).setCell (p := ⟨B, 0, none⟩) hB _⟩, ?_⟩
            · rw [hld]
              exact hbox3.set _
            · rw [H.out.2.2.2.1, HE.out]
              simp [Part.kvs]
            · unfold lenAt
              rw [(hbox3.set _).cell, hv]
              show rest.length - m < rest.length
              omega
          · gi_wp2
            refine bodyPost_ret (results_none rfl _ _ _) rfl ?_
            exact ⟨⟨_, rfl⟩, .inr ⟨_, hpre, hJx3⟩⟩

end Go.Proofs.Ytehoojmalhloeaa.CM
