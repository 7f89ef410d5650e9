/- The inner functions of compact: what they compute. Their conditions are that what they read can be read and is not too long for memory. -/
import Derived.Test.YtehoojmalhloeaaCY
import Derived.Deep.RegionHeld3
import Derived.IntWalk
import Derived.RangeFuncNested
import Derived.RangeFuncBound
import Derived.RangeFuncCalls
import Derived.RangeFuncLeaves
import Derived.BigQuiet
import Derived.OwnWalkIn
import Derived.TacticsInMore
import Derived.LoopNIn
import Derived.LoopIn
import Derived.RangeFuncBox
import Derived.Defers

/-! Whether keys rise, as the program (compact.rises) tells it. No condition of its own but that the entries can be read. -/
namespace Go.Proofs.Ytehoojmalhloeaa.CM
open Go.RowKit Go.Proofs.YtehoojmalhloeaaW.PrintWords
set_option linter.unusedVariables false
set_option linter.unusedSimpArgs false
set_option maxRecDepth 100000

/-- Does each key stand ahead of the next one? -/
def risesB : List PC.S44 → Bool
  | a :: b :: t => decide (cmpK a.f0 b.f0 < 0) && risesB (b :: t)
  | _ => true
theorem risesB_iff : ∀ l : List PC.S44, risesB l = true ↔ ∀ j : Nat, j + 1 < l.length → cmpK (l.getD j PC.z44).f0 (l.getD (j + 1) PC.z44).f0 < 0
  | [] => by simp [risesB]
  | [a] => by simp [risesB]
  | a :: b :: t => by
    have ih := risesB_iff (b :: t)
    simp only [risesB, Bool.and_eq_true, decide_eq_true_eq, ih]
    constructor
    · rintro ⟨h0, h⟩ j hj
      cases j with
      | zero => simpa using h0
      | succ j => simpa using h j (by simpa using hj)
    · intro h
      refine ⟨by simpa using h 0 (by simp), fun j hj => ?_⟩
      simpa using h (j + 1) (by simpa using hj)
theorem risesB_false {l : List PC.S44} {j : Nat} (hj : j + 1 < l.length) (h : ¬ cmpK (l.getD j PC.z44).f0 (l.getD (j + 1) PC.z44).f0 < 0) : risesB l = false := by
  rw [← Bool.not_eq_true, risesB_iff]
  exact fun H => h (H j hj)

theorem keepC {α : Type} {d : Kd α} {w w1 : World} {A : Option Addr} {n : Nat} {xs : List α} {m : Nat} (h : Kd.C d w A n xs) (hm : w.heap.size ≤ m) (hb : Below m w w1) : Kd.C d w1 A n xs := Kd.C_below h (hb.mono hm)

/-- An entry lies at an address: its four cells. -/
def El (w : World) (p : Addr) (x : PC.S44) : Prop :=
  w.cell? p = some (.string x.f0.f0) ∧ w.cell? ⟨p.block, p.off + 1, none⟩ = some (.int .u64 x.f0.f1) ∧ w.cell? ⟨p.block, p.off + 2, none⟩ = some (.int .i64 x.f0.f2) ∧ w.cell? ⟨p.block, p.off + 3, none⟩ = some (.string x.f1)
theorem El.below {w w1 : World} {p : Addr} {x : PC.S44} (h : El w p x) (hb : Below w.heap.size w w1) : El w1 p x :=
  ⟨(hb.cell (World.block_lt_of_cell? _ _ h.1)).trans h.1, (hb.cell (World.block_lt_of_cell? _ _ h.2.1)).trans h.2.1, (hb.cell (World.block_lt_of_cell? _ _ h.2.2.1)).trans h.2.2.1, (hb.cell (World.block_lt_of_cell? _ _ h.2.2.2)).trans h.2.2.2⟩
theorem at44 {w : World} {A : Option Addr} {n : Nat} {xs : List PC.S44} (h : Kd.C PC.k44 w A n xs) (k : Nat) (hk : k < n) : ∃ ad, A = some ad ∧ El w (ad.add (k * 4)) (xs.getD k PC.z44) := by
  obtain ⟨ad, e, h0, h1, h2, h3⟩ := PC.at_T44 h (k : Int) (by omega) (by omega)
  exact ⟨ad, e, h0, h1, h2, h3⟩

set_option maxHeartbeats 4000000 in
theorem rises_w (A : Option Addr) (c : Nat) (l : List PC.S44) (w : World) (hr : Kd.C PC.k44 w A l.length l) (hc : l.length ≤ c) :
    Calls Try.prog 64 #[.slice A l.length c] w fun e w' => e = .returned (.bool (risesB l)) ∧ Below w.heap.size w w' := by
  have hlen := hr.2.1
  have HR := Lib.hid hr
  clear hr
  go_enter Try.func64, Try.ntmps64
  go_wp2
  go_loopw [3] (fun t wr => ∃ k : Nat, (k + 1 ≤ l.length ∨ k = 0) ∧ t = .int .i64 ((k : Int) + 1) ∧ (∀ j : Nat, j < k → cmpK (l.getD j PC.z44).f0 (l.getD (j + 1) PC.z44).f0 < 0) ∧ Below w.heap.size w wr) (fun t _ => l.length - (intOf t).toNat)
  case atStart => exact ⟨0, Or.inr rfl, rfl, fun j h => by omega, Below.refl _ _⟩
  case round =>
    obtain ⟨k, hi2, rfl, hz, hB⟩ := hrel
    have Z := Lib.hid hz
    have KB := Lib.hid hB
    clear hz hB
    by_cases hlt : (k : Int) + 1 < l.length
    · have hj : IntKind.i64.wrap ((k : Int) + 1 - 1) = (k : Int) := by rw [IntWalk.i64_in _ (by omega)]; omega
      have hj2 : IntKind.i64.wrap ((k : Int) + 1 + 1) = (k : Int) + 1 + 1 := by rw [IntWalk.i64_in _ (by omega)]
      obtain ⟨ad, e, X0⟩ := at44 (keepC HR.out (Nat.le_refl _) KB.out.drew) k (by omega)
      obtain ⟨ad2, e2, Y0⟩ := at44 (keepC HR.out (Nat.le_refl _) KB.out.drew) (k + 1) (by omega)
      obtain rfl : ad = ad2 := by rw [e] at e2; injection e2
      subst e
      obtain ⟨a, ha⟩ : ∃ a, l.getD k PC.z44 = a := ⟨_, rfl⟩
      obtain ⟨b, hb⟩ : ∃ b, l.getD (k + 1) PC.z44 = b := ⟨_, rfl⟩
      rw [ha] at X0
      rw [hb] at Y0
      have HX := Lib.hid (And.intro X0 Y0)
      have Ha := Lib.hid ha
      have Hb := Lib.hid hb
      clear X0 Y0 ha hb e2
      have p0 : (0 ≤ (k : Int)) = True := by simp
      have p1 : ((k : Int) < l.length) = True := eq_true (by omega)
      have p2 : (0 ≤ (k : Int) + 1) = True := eq_true (by omega)
      have p3 : ((k : Int) + 1 < l.length) = True := eq_true hlt
      have p4 : (k < l.length) = True := eq_true (by omega)
      have p5 : (k + 1 < l.length) = True := eq_true (by omega)
      have hj3 : IntKind.i64.wrap (k : Int) = (k : Int) := by rw [IntWalk.i64_in _ (by omega)]
      have C := compare_w a.f0 b.f0
      unfold kv42 at C
      have HC := Lib.hid C
      clear C
      go_wp2_with fail
      go_region_held3 (fun w' => (w'.cell? (ad.add (k * 4)) = some (.string a.f0.f0) ∧ w'.cell? ⟨(ad.add (k * 4)).block, (ad.add (k * 4)).off + 1, none⟩ = some (.int .u64 a.f0.f1) ∧ w'.cell? ⟨(ad.add (k * 4)).block, (ad.add (k * 4)).off + 2, none⟩ = some (.int .i64 a.f0.f2) ∧ w'.cell? ⟨(ad.add (k * 4)).block, (ad.add (k * 4)).off + 3, none⟩ = some (.string a.f1)) ∧ w'.cell? (ad.add ((k + 1) * 4)) = some (.string b.f0.f0) ∧ w'.cell? ⟨(ad.add ((k + 1) * 4)).block, (ad.add ((k + 1) * 4)).off + 1, none⟩ = some (.int .u64 b.f0.f1) ∧ w'.cell? ⟨(ad.add ((k + 1) * 4)).block, (ad.add ((k + 1) * 4)).off + 2, none⟩ = some (.int .i64 b.f0.f2) ∧ w'.cell? ⟨(ad.add ((k + 1) * 4)).block, (ad.add ((k + 1) * 4)).off + 3, none⟩ = some (.string b.f1)) (first | exact HX.out | exact HB2.out) (first | (go_at_call 69; refine Calls.mono (HC.out _) ?_; rintro e w1 ⟨rfl, hb1⟩; have HB2 := Lib.hid (And.intro (HX.out.1.below hb1) (HX.out.2.below hb1)); have HB1 := Lib.hid ((Below.refl wr.heap.size wr).drew.trans hb1); clear hb1))
      all_goals
        by_cases hc1 : 0 ≤ cmpK a.f0 b.f0
        · have hc2 : decide (0 ≤ cmpK a.f0 b.f0) = true := decide_eq_true hc1
          go_wp2_with fail
          go_ret
          have : risesB l = false := risesB_false (j := k) (by omega) (by rw [Ha.out, Hb.out]; omega)
          exact ⟨by simp [this], KB.out.trans (HB1.out.mono KB.out.size)⟩
        · have hc2 : decide (0 ≤ cmpK a.f0 b.f0) = false := decide_eq_false hc1
          go_wp2_with fail
          go_roundw
          case rel => exact ⟨k + 1, Or.inl (by omega), by simp, fun j hj => (by
            rcases Nat.lt_succ_iff_lt_or_eq.1 hj with h | rfl
            · exact Z.out j h
            · rw [Ha.out, Hb.out]; omega), KB.out.trans (HB1.out.mono KB.out.size)⟩
          case measure => simp [intOf]; omega
    · go_wp2
      go_ret
      refine ⟨?_, KB.out⟩
      have : risesB l = true := by
        rw [risesB_iff]
        exact fun j hj => Z.out j (by omega)
      simp [this]

end Go.Proofs.Ytehoojmalhloeaa.CM

/-! A loop over an iterator that changes memory of its own between two rounds: a law for such a loop. Its conditions are the iterator's contract and what the caller's own facts abide. -/
namespace Go.Proofs.Ytehoojmalhloeaa.CM
open Go.RowKit
set_option linter.unusedVariables false
set_option linter.unusedSimpArgs false
variable {F : Fence} {n : Nat} {P : Program}

/-- What is said of each state abides every step of a kind. -/
def Stays {β : Type} (Rel : World → World → Prop) (J : β → World → Prop) : Prop := ∀ s A B, J s A → Rel A B → J s B

/-- The contract of an iterator whose own steps are of a kind Rel: for every loop body that keeps Kp from round to round. -/
def Iter {α : Type} (F : Fence) (n : Nat) (P : Program) (g : Nat) (lb : Array Value) (encs : α → Array Value) (Rel Kp : World → World → Prop) (S Sp : List α → Prop) (w : World) : Prop :=
  ∀ (l : Nat) (J Jx : List α → World → Prop) (W : World), Below w.heap.size w W → Stays Rel J → Stays Rel Jx →
    (∀ pre x W1, J pre W1 → Sp (pre ++ [x]) → YieldAt F (n - 1) P l (encs x) W1 fun e W' =>
      (e = .returned (.bool true) ∧ J (pre ++ [x]) W' ∧ Kp W1 W') ∨ (e = .returned (.bool false) ∧ Jx (pre ++ [x]) W')) →
    J [] W →
    CallsIn F n P g (#[.func (.yield l) #[] #[]] ++ lb) W fun e W' => (∃ v, e = .returned v) ∧ ((∃ xs, S xs ∧ J xs W') ∨ (∃ pre, Sp pre ∧ Jx pre W'))

/-- The record of a loop. -/
def recOf (fn : FuncId) (a : Act) (ps : Array Tmp) (assign body : Code) (D : Nat) (st : LoopState) (pe : Option Code) : Loop :=
  { state := st, pending := pe, fn := fn, tmps := a.tmps, params := ps, assign := assign, body := body, defers := D }

/-- Where a loop's two blocks lie. -/
def Books (W : World) (D : Nat) (r : Loop) : Prop := W.heap[D + 1]? = some (.loop r) ∧ W.heap[D]? = some (.deferred (some []))
theorem Books.keeps {W W' : World} {D : Nat} {r : Loop} (h : Books W D r) (hk : KeepsFrom D W W') : Books W' D r :=
  ⟨hk.same _ _ (by omega) h.1 rfl, hk.same _ _ (Nat.le_refl _) h.2 rfl⟩
theorem Books.put {W : World} {D : Nat} {r : Loop} (r' : Loop) (h : Books W D r) : Books (W.putObj (D + 1) (.loop r')) D r' :=
  ⟨World.putObj_heap_same (Array.getElem?_eq_some_iff.1 h.1).1, (World.putObj_heap_other (by omega)).trans h.2⟩

theorem range_rel {α : Type} {g : Operand} {ps : Array Tmp} {assign body : Code} {Q : Exit → Act → World → Prop} {a : Act} {w : World}
    (hro : F.round = none) (h1 : 1 ≤ n) {gf : Nat} {lb : Array Value} (hg : a.eval g = .func (.func gf) #[] lb) (hFg : F.fn gf) (eg : ∀ args w, (callFunc gf args).run P w = .ok (.enter gf args) w)
    {encs : α → Array Value} {Rel Kp : World → World → Prop} {S Sp : List α → Prop} (hseq : Iter F (n - 1) P gf lb encs Rel Kp S Sp w) (hps : ∀ x, (encs x).size = ps.size)
    (hRel : ∀ A B, Rel A B → KeepsFrom w.heap.size A B)
    (hKt : ∀ {A B C : World}, Kp A B → Kp B C → Kp A C) (hKb : ∀ (W : World) (l : Nat) (o o' : Obj), w.heap.size ≤ l → W.heap[l]? = some o → o.isCells = false → o.isWalk = false → Kp W (W.putObj l o'))
    (I : List α → World → Prop) (Ix : Code → List α → World → Prop) (hI : OwnFrom w.heap.size I) (hIx : ∀ c, OwnFrom w.heap.size (Ix c)) (hIr : Stays Rel I) (hIxr : ∀ c, Stays Rel (Ix c)) (h0 : I [] w) (a₁ : α → Act)
    (hassign : ∀ (l : Nat) (x : α) (W : World) (K : Act → World → Prop), K (a₁ x) W →
      assign.wpIn (F.inRound l) (n - 1 - 1) P (Exit.then K (fun _ _ _ => False)) { tmps := (ps.zip (encs x)).foldl (fun t (p, v) => t.setIfInBounds p v) a.tmps, defers := [] } W)
    (hbody : ∀ (l : Nat) (pre : List α) (x : α) (W : World), I pre W → Sp (pre ++ [x]) → body.wpIn (F.inRound l) (n - 1 - 1) P (ownPostG w.heap.size Kp I Ix (pre ++ [x]) W) (a₁ x) W)
    (hdone : ∀ (D : Nat) (xs : List α) (W : World), w.heap.size ≤ D → S xs → I xs W → W.heap[D]? = some (.deferred (some [])) → Q .normal { a with defers := { target := .collected D, args := #[] } :: a.defers } W)
    (hstop : ∀ (D : Nat) (c : Code) (pre : List α) (W : World), w.heap.size ≤ D → Sp pre → Ix c pre W → W.heap[D]? = some (.deferred (some [])) → c.wpIn F n P Q { a with defers := { target := .collected D, args := #[] } :: a.defers } W) :
    (Code.rangeFunc g ps assign body).wpIn F n P Q a w := by
  refine wpIn_rangeFunc fun fn hfn => ?_
  rw [hro]
  obtain ⟨D, hD⟩ : ∃ D, D = w.heap.size := ⟨_, rfl⟩
  obtain ⟨R, hR⟩ : ∃ R, R = recOf fn a ps assign body D := ⟨_, rfl⟩
  obtain ⟨W1, hW1⟩ : ∃ W1, (w.alloc (.deferred (some []))).alloc (.loop (R .ready none)) = W1 := ⟨_, rfl⟩
  have hbk : Books W1 D (R .ready none) := by
    subst hD
    rw [← hW1]
    refine ⟨?_, (Below.heap_alloc _ _ _ (by simp)).trans (World.alloc_heap_new w _)⟩
    have := World.alloc_heap_new (w.alloc (.deferred (some []))) (.loop (R .ready none))
    rwa [World.size_alloc] at this
  have hI1 : I [] W1 := by rw [← hW1]; exact hI.alloc _ (hI.alloc _ h0)
  have hb1 : Below w.heap.size w W1 := by
    rw [← hW1]; exact ((Below.refl _ w).alloc (Nat.le_refl _) _).alloc (by simp) _
  refine ⟨D + 1, [{ target := .collected D, args := #[] }], W1, { target := .fn (.func gf) lb, args := #[.func (.yield (D + 1)) #[] #[]] }, W1, gf,
    #[.func (.yield (D + 1)) #[] #[]] ++ lb, W1, ?_, ?_, ?_, ?_, fun _ => h1, ?_⟩
  · rw [← hW1, hR, hD]; exact run_enterLoop_outer _ _ _ _ _
  · simp only [resolve, hg]
    simp [go_sem]
  · intro f' hf'; simp [Target.leads] at hf'; subst hf'; exact hFg
  · simp [invoke, go_sem, eg]
  refine (hseq (D + 1) (fun pre W => I pre W ∧ Books W D (R .ready none)) (fun pre W => ∃ c, Ix c pre W ∧ Books W D (R .done (some c))) W1 hb1
    (fun s A B h hr => ⟨hIr s A B h.1 hr, h.2.keeps (hD ▸ hRel A B hr)⟩)
    (fun s A B ⟨c, hc, hk⟩ hr => ⟨c, hIxr c s A B hc hr, hk.keeps (hD ▸ hRel A B hr)⟩) ?_ ⟨hI1, hbk⟩).mono ?_
  · -- one round
    rintro pre x W ⟨hi, hk⟩ hsp
    have hle : w.heap.size ≤ D + 1 := by omega
    have hy := run_yield (P := P) (args := encs x) hk.1 (by rw [hR]; exact hps x)
    rw [hR] at hy
    refine ⟨fn, _, assign, body, hy, roundIn_of_wpIn hfn (hassign _ x W _ ⟨_, run_beginRound hk.1 (by rw [hR]; rfl), ?_⟩)⟩
    obtain ⟨Wb, hWb⟩ : ∃ Wb, W.putObj (D + 1) (.loop { R .ready none with state := .busy }) = Wb := ⟨_, rfl⟩
    rw [hWb]
    have hkb : Books Wb D { R .ready none with state := .busy } := hWb ▸ hk.put _
    have hib : I pre Wb := hWb ▸ hI.putObj _ hi hle hk.1 rfl
    have hwb : Kp W Wb := hWb ▸ hKb _ _ _ _ hle hk.1 rfl rfl
    refine wpIn_mono (hbody _ pre x Wb hib hsp) ?_
    have fin : ∀ (jump : Option Code) (W3 : World), KeepsFrom w.heap.size Wb W3 →
        (Instr.endRound (D + 1) jump).run P W3 = .ok (.bool jump.isNone) (W3.putObj (D + 1) (.loop (R (if jump.isNone then .ready else .done) jump))) ∧ Books W3 D { R .ready none with state := .busy } := fun jump W3 hk3 => by
      have h3 := hkb.keeps (hD ▸ hk3)
      have := run_endRound (P := P) jump h3.1
      rw [hR] at this ⊢
      exact ⟨this, by rw [hR] at h3; exact h3⟩
    rintro e a3 W3 hp
    cases e with
    | normal =>
      obtain ⟨hk3, hkp3, hi3⟩ := hp
      obtain ⟨hr, h3⟩ := fin none W3 hk3
      exact ⟨_, _, hr, .inl ⟨rfl, ⟨hI.putObj _ hi3 hle h3.1 rfl, h3.put _⟩, hKt (hKt hwb hkp3) (hKb _ _ _ _ hle h3.1 rfl rfl)⟩⟩
    | ret =>
      obtain ⟨hk3, hi3⟩ := hp
      obtain ⟨hr, h3⟩ := fin (some .ret) W3 hk3
      exact ⟨_, _, hr, .inr ⟨rfl, .ret, (hIx _).putObj _ hi3 hle h3.1 rfl, h3.put _⟩⟩
    | exit id =>
      obtain ⟨hk3, hi3⟩ := hp
      obtain ⟨hr, h3⟩ := fin (some (.exit id)) W3 hk3
      exact ⟨_, _, hr, .inr ⟨rfl, .exit id, (hIx _).putObj _ hi3 hle h3.1 rfl, h3.put _⟩⟩
    | goto t =>
      obtain ⟨hk3, hi3⟩ := hp
      obtain ⟨hr, h3⟩ := fin (some (.goto t)) W3 hk3
      exact ⟨_, _, hr, .inr ⟨rfl, .goto t, (hIx _).putObj _ hi3 hle h3.1 rfl, h3.put _⟩⟩
    | panic ch => exact hp.elim
    | outgrown => exact hp.elim
  · -- behind the iterator
    have hle : w.heap.size ≤ D + 1 := by omega
    rintro e W2 ⟨⟨v, rfl⟩, (⟨xs, hS, hi, hk⟩ | ⟨pre, hSp, c, hi, hk⟩)⟩
    · refine ⟨none, W2.putObj (D + 1) (.loop { R .ready none with state := .exhausted }), by have := run_endLoop (P := P) hk.1 (by rw [hR]; simp [recOf]); rw [hR] at this ⊢; exact this, hdone D xs _ (Nat.le_of_eq hD.symm) hS (hI.putObj _ hi hle hk.1 rfl) (hk.put _).2⟩
    · refine ⟨some c, W2.putObj (D + 1) (.loop { R .done (some c) with state := .exhausted }), by have := run_endLoop (P := P) hk.1 (by rw [hR]; simp [recOf]); rw [hR] at this ⊢; exact this, hstop D c pre _ (Nat.le_of_eq hD.symm) hSp ((hIx c).putObj _ hi hle hk.1 rfl) (hk.put _).2⟩

end Go.Proofs.Ytehoojmalhloeaa.CM

/-! The entries of each user, one after the other (compact.users): the contract of that iterator. Its condition is that the entries can be read. -/
namespace Go.Proofs.Ytehoojmalhloeaa.CM
open Go.RowKit Go.Proofs.YtehoojmalhloeaaW.PrintWords
set_option linter.unusedVariables false
set_option linter.unusedSimpArgs false
set_option maxRecDepth 100000

/-- Are two entries of one user? -/
def sameU (a b : PC.S44) : Bool := a.f0.f0.toList == b.f0.f0.toList
/-- The entries of each user. -/
def joinU (a : PC.S44) : List (List PC.S44) → List (List PC.S44)
  | (b :: g) :: gs => if sameU b a = true then (a :: b :: g) :: gs else [a] :: (b :: g) :: gs
  | gs => [a] :: gs
def groups : List PC.S44 → List (List PC.S44)
  | [] => []
  | a :: t => joinU a (groups t)

theorem groups_cons (a : PC.S44) (t : List PC.S44) : ∃ g gs, groups (a :: t) = (a :: g) :: gs := by
  unfold groups
  unfold joinU
  split
  · split <;> exact ⟨_, _, rfl⟩
  · exact ⟨_, _, rfl⟩
theorem sameU_trans {a b c : PC.S44} (h1 : sameU a c = true) (h2 : sameU b c = true) : sameU a b = true := by
  simp only [sameU, beq_iff_eq] at *
  rw [h1, h2]
theorem groups_take : ∀ (m : Nat) (l : List PC.S44), 1 ≤ m → m ≤ l.length → (∀ j, j < m → sameU (l.getD j PC.z44) (l.getD 0 PC.z44) = true) → (m = l.length ∨ sameU (l.getD m PC.z44) (l.getD 0 PC.z44) = false) →
    groups l = l.take m :: groups (l.drop m)
  | 0, _, h, _, _, _ => absurd h (by omega)
  | _ + 1, [], _, h, _, _ => by simp at h
  | 1, [a], _, _, _, _ => by simp [groups, joinU]
  | 1, a :: b :: t, _, _, _, h => by
    have hb : sameU b a = false := by simpa using h
    obtain ⟨g, gs, hg⟩ := groups_cons b t
    show joinU a (groups (b :: t)) = [a] :: groups (b :: t)
    rw [hg]
    simp [joinU, hb]
  | m + 2, [a], _, h, _, _ => by simp at h
  | m + 2, a :: b :: t, _, hle, hz, he => by
    have hb : sameU b a = true := by simpa using hz 1 (by omega)
    have ih := groups_take (m + 1) (b :: t) (by omega) (by simpa using hle) (fun j hj => by
      have h1 := hz (j + 1) (by omega)
      have h1 : sameU ((b :: t).getD j PC.z44) a = true := by simpa using h1
      exact sameU_trans h1 hb) (by
      rcases he with he | he
      · exact .inl (by simpa using he)
      · refine .inr ?_
        have h1 : sameU ((b :: t).getD (m + 1) PC.z44) a = false := by simpa using he
        rw [← Bool.not_eq_true] at h1 ⊢
        intro h2
        refine h1 ?_
        simp only [sameU, beq_iff_eq, List.getD_cons_zero] at *
        rw [h2, hb])
    show joinU a (groups (b :: t)) = (a :: b :: t.take m) :: groups (t.drop m)
    rw [ih]
    simp [joinU, hb]

/-- A part of what can be read: where it lies, what it can hold, its entries. -/
abbrev Part (w0 : World) := { x : Option Addr × Nat × List PC.S44 // Kd.C PC.k44 w0 x.1 x.2.2.length x.2.2 ∧ x.2.2.length ≤ x.2.1 ∧ 0 < x.2.2.length }
def Part.kvs {w0 : World} (x : Part w0) : List PC.S44 := x.1.2.2
def Part.encs {w0 : World} (x : Part w0) : Array Value := #[.slice x.1.1 x.1.2.2.length x.1.2.1]

theorem Part.encs_eq {w0 : World} (x : Part w0) (m : Nat) (h : x.1.2.2.length = m) : Part.encs x = #[.slice x.1.1 m x.1.2.1] := by
  unfold Part.encs
  rw [h]

/-- A step of the iterator: orders are drawn, or its own variable is set. -/
def StepB (B : Nat) (A A' : World) : Prop := (∃ n, A' = A.drewN n) ∨ (∃ v, A' = A.setCell ⟨B, 0, none⟩ v)
/-- What a round keeps. -/
def KeepB (n₀ B : Nat) (A A' : World) : Prop := Below n₀ A A' ∧ A'.heap[B]? = A.heap[B]?

/-- How many are left, by the variable. -/
def lenAt (B : Nat) (W : World) : Nat := match W.cell? ⟨B, 0, none⟩ with
  | some (.slice _ n _) => n
  | _ => 0

set_option maxHeartbeats 4000000 in
theorem users1_w (n : Nat) (hn : 1 ≤ n) (w0 w : World) (B : Nat) (hB : w0.heap.size ≤ B) (hBw : B < w.heap.size) (hb0 : Below w0.heap.size w0 w)
    (A : Option Addr) (c : Nat) (xs : List PC.S44) (hr : Kd.C PC.k44 w0 A xs.length xs) (hc : xs.length ≤ c) (hcell : w.heap[B]? = some (.cells #[.slice A xs.length c] 22 (0, 0))) :
    Iter Fence.wide n Try.prog 84 #[.pointer (some ⟨B, 0, none⟩)] Part.encs (StepB B) (KeepB w0.heap.size B)
      (fun ys : List (Part w0) => ys.map Part.kvs = groups xs) (fun ys : List (Part w0) => ys.map Part.kvs <+: groups xs) w := by
  intro l J Jx W hW hJ hJx hY h0
  refine callsIn_of_wp Try.func84 rfl trivial ?_ rfl
  simp only [Try.ntmps84, List.size_toArray, List.length_cons, List.length_nil, Nat.reduceAdd, Nat.reduceSub, Array.replicate_succ, Array.replicate_zero, List.push_toArray, List.append_toArray, List.nil_append, List.cons_append]
  have HY := Lib.hid hY
  have HJ := Lib.hid hJ
  have HR := Lib.hid (And.intro hr hc)
  have HW := Lib.hid (And.intro hb0 hW)
  clear hY hJ hJx hb0 hW
  gi_wp2
  gi_loopw [3] (fun t wr => ∃ (pre : List (Part w0)) (rest : List PC.S44) (A : Option Addr) (c : Nat), wr.heap[B]? = some (.cells #[.slice A rest.length c] 22 (0, 0)) ∧ Kd.C PC.k44 w0 A rest.length rest ∧ rest.length ≤ c ∧ groups xs = pre.map Part.kvs ++ groups rest ∧ J pre wr ∧ Below w0.heap.size w0 wr) (fun _ wr => lenAt B wr)
  case atStart => exact ⟨[], xs, A, c, (HW.out.2.block B hBw).trans hcell, HR.out.1, HR.out.2, by simp, h0, HW.out.1.trans (HW.out.2.mono HW.out.1.size)⟩
  case round =>
    obtain ⟨pre, rest, A', c', hcell', hr', hc', hg, hJ0, hB0⟩ := hrel
    have hlen := hr'.2.1
    have hv : wr.cell? ⟨B, 0, none⟩ = some (.slice A' rest.length c') := by simp [World.cell?, hcell']
    have hf : wr.frozen? ⟨B, 0, none⟩ = false := by simp [World.frozen?, hcell']
    have H := Lib.hid (And.intro hcell' (And.intro hr' (And.intro hc' (And.intro hg (And.intro hJ0 hB0)))))
    clear hcell' hr' hc' hg hJ0 hB0
    cases rest with
    | nil =>
      gi_wp2
      go_end0
      exact ⟨⟨_, rfl⟩, .inl ⟨pre, by simpa [groups] using H.out.2.2.2.1.symm, H.out.2.2.2.2.1⟩⟩
    | cons a t =>
      have hpos : 0 < (a :: t).length := by simp
      obtain ⟨rest, hrest⟩ : ∃ rest, a :: t = rest := ⟨_, rfl⟩
      rw [hrest] at H hv hlen hpos
      gi_wp2
      refine wpIn_wide.2 ?_
      go_loopw [3] (fun t wi => ∃ (m k : Nat), 1 ≤ m ∧ m ≤ rest.length ∧ t = .int .i64 (m : Int) ∧ (∀ j, j < m → sameU (rest.getD j PC.z44) (rest.getD 0 PC.z44) = true) ∧ wi = wr.drewN k) (fun t _ => rest.length - (intOf t).toNat)
      case atStart => exact ⟨1, 0, Nat.le_refl _, hpos, rfl, fun j hj => by
        obtain rfl : j = 0 := by omega
        simp [sameU], rfl⟩
      case round =>
        obtain ⟨m, k, hm1, hm2, rfl, hz, rfl⟩ := hrel
        have Z := Lib.hid hz
        clear hz
        have hmc : (m ≤ c') = True := eq_true (by have := H.out.2.2.1; omega)
        by_cases hm : m < rest.length
        · obtain ⟨ad, e, X0, _⟩ := at44 (keepC H.out.2.1 (Nat.le_refl _) (H.out.2.2.2.2.2.trans (below_drewN (Below.refl _ _) k))) 0 (by omega)
          obtain ⟨ad2, e2, Y0, _⟩ := at44 (keepC H.out.2.1 (Nat.le_refl _) (H.out.2.2.2.2.2.trans (below_drewN (Below.refl _ _) k))) m hm
          obtain rfl : ad = ad2 := by rw [e] at e2; injection e2
          subst e
          have X1 : wr.cell? ad = some (.string (rest.getD 0 PC.z44).f0.f0) := by simpa [Addr.add] using X0
          have Y1 : wr.cell? (ad.add (m * 4)) = some (.string (rest.getD m PC.z44).f0.f0) := Y0
          clear X0 Y0
          have dm : decide ((m : Int) < (rest.length : Int)) = true := decide_eq_true (by omega)
          have p1 : (m < rest.length) = True := eq_true hm
          have p0 : (0 < rest.length) = True := eq_true hpos
          obtain ⟨x0, hx0⟩ : ∃ x0, rest.getD 0 PC.z44 = x0 := ⟨_, rfl⟩
          obtain ⟨xm, hxm⟩ : ∃ xm, rest.getD m PC.z44 = xm := ⟨_, rfl⟩
          rw [hx0] at X1
          rw [hxm] at Y1
          have X2 := Lib.hid hx0
          have Y2 := Lib.hid hxm
          clear hx0 hxm e2
          by_cases hs : sameU xm x0 = true
          · have hs2 : (xm.f0.f0.toList == x0.f0.f0.toList) = true := hs
            have hw1 : IntKind.i64.wrap ((m : Int) + 1) = (m : Int) + 1 := by rw [IntWalk.i64_in _ (by omega)]
            go_wp2_with (go_quiet (fail))
            refine ⟨⟨m + 1, _, by omega, by omega, by simp, fun j hj => ?_, rfl⟩, by simp [intOf]; omega⟩
            rcases Nat.lt_succ_iff_lt_or_eq.1 hj with h | rfl
            · exact Z.out j h
            · rw [X2.out, Y2.out]; exact hs
          · have hs2 : (xm.f0.f0.toList == x0.f0.f0.toList) = false := by simpa [sameU] using hs
            have hend : m = rest.length ∨ sameU (rest.getD m PC.z44) (rest.getD 0 PC.z44) = false := .inr (by rw [X2.out, Y2.out]; simpa using hs)
            have HE := Lib.hid (groups_take m rest hm1 hm2 Z.out hend)
            clear hend X2 Y2 hs
            go_wp2_with (go_quiet (fail))
            gi_wp2_with fail
            generalize hWw : wr.drewN _ = Ww
            have hBw : Below w0.heap.size w0 Ww := hWw ▸ below_drewN H.out.2.2.2.2.2 _
            have hJw : J pre Ww := hWw ▸ HJ.out _ _ _ H.out.2.2.2.2.1 (.inl ⟨_, rfl⟩)
            have hbox : Boxed Ww B 22 (.slice (some ad) rest.length c') := by subst hWw; exact H.out.1
            have hv' := hbox.cell
            have hc0 := H.out.2.2.1
            have hlt : (rest.take m).length = m := by rw [List.length_take]; omega
            have hpx : Kd.C PC.k44 w0 (some ad) (rest.take m).length (rest.take m) := Kd.C_take H.out.2.1 hm2
            have hpre : (pre ++ [(⟨((some ad), c', rest.take m), hpx, by show (rest.take m).length ≤ c'; omega, by show 0 < (rest.take m).length; omega⟩ : Part w0)]).map Part.kvs <+: groups xs := by
              rw [H.out.2.2.2.1, HE.out]
              exact ⟨groups (rest.drop m), by simp [Part.kvs]⟩
            obtain ⟨fn, tmps, assign, body, hy, hR⟩ := HY.out pre _ Ww hJw hpre
            have hy : (Instr.yield l #[.slice (some ad) m c']).run Try.prog Ww = .ok (.round l fn tmps assign body) Ww := by
              rw [Part.encs_eq _ m hlt] at hy
              exact hy
            clear hWw
            gi_wp2
            rw [hy, Oper.uponIn_round]
            refine ⟨fun h => by simp [Fence.wide] at h, hR.mono ?_⟩
            rintro e W3 (⟨rfl, hJ3, hk3⟩ | ⟨rfl, hJx3⟩)
            · have hbox3 : Boxed W3 B 22 (.slice (some ad) rest.length c') := hk3.2.trans hbox
              have hv3 := hbox3.cell
              have hf3 := hbox3.frozen
              have hmr : (m ≤ rest.length) = True := eq_true hm2
              gi_wp2
              have hdr := Kd.C_drop (c := c') H.out.2.1 hm2 hc0
              rw [if_neg (by omega)] at hdr
              have hld : (rest.drop m).length = rest.length - m := List.length_drop
              refine ⟨⟨_, rest.drop m, some (ad.add (m * 4)), c' - m, ?_, hdr, by omega, ?_, HJ.out _ _ _ hJ3 (.inr ⟨_, rfl⟩), (hBw.trans hk3.1).setCell (p := ⟨B, 0, none⟩) hB _⟩, ?_⟩
              · rw [hld]
                exact hbox3.set _
              · rw [H.out.2.2.2.1, HE.out]
                simp [Part.kvs]
              · unfold lenAt
                rw [(hbox3.set _).cell, hv]
                show rest.length - m < rest.length
                omega
            · gi_wp2
              refine bodyPost_ret (results_none rfl _ _ _) rfl ?_
              exact ⟨⟨_, rfl⟩, .inr ⟨_, hpre, hJx3⟩⟩
        · have dm : decide ((m : Int) < (rest.length : Int)) = false := decide_eq_false (by omega)
          have HE := Lib.hid (groups_take m rest hm1 hm2 Z.out (.inl (by omega)))
          go_wp2_with (go_quiet (fail))
          gi_wp2_with fail
          generalize hWw : wr.drewN _ = Ww
          have hBw : Below w0.heap.size w0 Ww := hWw ▸ below_drewN H.out.2.2.2.2.2 _
          have hJw : J pre Ww := hWw ▸ HJ.out _ _ _ H.out.2.2.2.2.1 (.inl ⟨_, rfl⟩)
          have hbox : Boxed Ww B 22 (.slice A' rest.length c') := by subst hWw; exact H.out.1
          have hv' := hbox.cell
          have hc0 := H.out.2.2.1
          have hlt : (rest.take m).length = m := by rw [List.length_take]; omega
          have hpx : Kd.C PC.k44 w0 A' (rest.take m).length (rest.take m) := Kd.C_take H.out.2.1 hm2
          have hpre : (pre ++ [(⟨(A', c', rest.take m), hpx, by show (rest.take m).length ≤ c'; omega, by show 0 < (rest.take m).length; omega⟩ : Part w0)]).map Part.kvs <+: groups xs := by
            rw [H.out.2.2.2.1, HE.out]
            exact ⟨groups (rest.drop m), by simp [Part.kvs]⟩
          obtain ⟨fn, tmps, assign, body, hy, hR⟩ := HY.out pre _ Ww hJw hpre
          have hy : (Instr.yield l #[.slice A' m c']).run Try.prog Ww = .ok (.round l fn tmps assign body) Ww := by
            rw [Part.encs_eq _ m hlt] at hy
            exact hy
          clear hWw
          gi_wp2
          rw [hy, Oper.uponIn_round]
          refine ⟨fun h => by simp [Fence.wide] at h, hR.mono ?_⟩
          rintro e W3 (⟨rfl, hJ3, hk3⟩ | ⟨rfl, hJx3⟩)
          · have hbox3 : Boxed W3 B 22 (.slice A' rest.length c') := hk3.2.trans hbox
            have hv3 := hbox3.cell
            have hf3 := hbox3.frozen
            have hmr : (m ≤ rest.length) = True := eq_true hm2
            gi_wp2
            have hdr := Kd.C_drop (c := c') H.out.2.1 hm2 hc0
            have hld : (rest.drop m).length = rest.length - m := List.length_drop
            refine ⟨⟨_, rest.drop m, (if c' = m then A' else A'.map (·.add (m * 4))), c' - m, ?_, hdr, by omega, ?_, HJ.out _ _ _ hJ3 (.inr ⟨_, rfl⟩), (hBw.trans hk3.1).setCell (p := ⟨B, 0, none⟩) hB _⟩, ?_⟩
            · rw [hld]
              exact hbox3.set _
            · rw [H.out.2.2.2.1, HE.out]
              simp [Part.kvs]
            · unfold lenAt
              rw [(hbox3.set _).cell, hv]
              show rest.length - m < rest.length
              omega
          · gi_wp2
            refine bodyPost_ret (results_none rfl _ _ _) rfl ?_
            exact ⟨⟨_, rfl⟩, .inr ⟨_, hpre, hJx3⟩⟩

end Go.Proofs.Ytehoojmalhloeaa.CM

/-! The smaller functions of compact: what each computes and leaves. Their conditions are that what they read can be read. -/
namespace Go.Proofs.Ytehoojmalhloeaa.CM
open Go.RowKit Go.Proofs.YtehoojmalhloeaaW.PrintWords
set_option linter.unusedVariables false
set_option linter.unusedSimpArgs false
set_option maxRecDepth 100000

theorem users_w (v : Value) (A : Option Addr) (n c : Nat) (hv : v = .slice A n c) (w : World) : Calls Try.prog 65 #[v] w fun e w' => e = .returned (.func (.func 84) #[] #[.pointer (some ⟨w.heap.size, 0, none⟩)]) ∧ w' = w.alloc (.cells #[v] 22) := by
  subst hv
  go_enter Try.func65, Try.ntmps65
  go_wp2
  go_ret
  exact ⟨rfl, rfl⟩

/-- Is a number from an entry's to a bound? -/
def within (lo hi s : Int) : Bool := decide (lo ≤ s) && decide (s ≤ hi)

theorem counted1_w (s : Int) (gk ga : Nat) (lo hi : Int) (w : World) (h1 : w.cell? ⟨gk, 1, none⟩ = some (.int .u64 lo)) (h2 : w.cell? ⟨ga, 0, none⟩ = some (.int .u64 hi)) :
    Calls Try.prog 86 #[.int .u64 s, .pointer (some ⟨gk, 0, none⟩), .pointer (some ⟨ga, 0, none⟩)] w fun e w' => e = .returned (.bool (within lo hi s)) ∧ w' = w := by
  go_enter Try.func86, Try.ntmps86
  unfold within
  by_cases c1 : lo ≤ s
  · have d1 : decide (lo ≤ s) = true := decide_eq_true c1
    go_wp2
    go_ret
    exact ⟨by simp [d1], rfl⟩
  · have d1 : decide (lo ≤ s) = false := decide_eq_false c1
    go_wp2
    go_ret
    exact ⟨by simp [d1], rfl⟩

/-- Where the first number is that is between. -/
def firstIn (lo hi : Int) : Nat → List Int → Int
  | _, [] => -1
  | k, s :: t => if within lo hi s = true then (k : Int) else firstIn lo hi (k + 1) t

theorem firstIn_none {lo hi : Int} : ∀ (k : Nat) (xs : List Int), (∀ j, j < xs.length → within lo hi (xs.getD j 0) = false) → firstIn lo hi k xs = -1
  | _, [], _ => rfl
  | k, s :: t, h => by
    have h0 : within lo hi s = false := h 0 (by simp)
    simp only [firstIn, h0, Bool.false_eq_true, if_false]
    exact firstIn_none (k + 1) t (fun j hj => by simpa using h (j + 1) (by simpa using hj))
theorem firstIn_some {lo hi : Int} : ∀ (k j : Nat) (xs : List Int), j < xs.length → (∀ i, i < j → within lo hi (xs.getD i 0) = false) → within lo hi (xs.getD j 0) = true → firstIn lo hi k xs = ((k + j : Nat) : Int)
  | _, _, [], h, _, _ => by simp at h
  | k, 0, s :: t, _, _, h => by
    have h0 : within lo hi s = true := h
    simp [firstIn, h0]
  | k, j + 1, s :: t, hj, hz, h => by
    have h0 : within lo hi s = false := hz 0 (by omega)
    simp only [firstIn, h0, Bool.false_eq_true, if_false]
    rw [firstIn_some (k + 1) j t (by simpa using hj) (fun i hi => by simpa using hz (i + 1) (by omega)) (by simpa using h)]
    omega
theorem firstIn_any {lo hi : Int} : ∀ (k : Nat) (xs : List Int), decide (0 ≤ firstIn lo hi k xs) = xs.any (within lo hi)
  | _, [] => by simp [firstIn]
  | k, s :: t => by
    by_cases h : within lo hi s = true
    · simp [firstIn, h]
    · have ih := firstIn_any (lo := lo) (hi := hi) (k + 1) t
      simp only [Bool.not_eq_true] at h
      simp [firstIn, h, ih]

theorem atInt {k : IntKind} {w : World} {A : Option Addr} {n : Nat} {xs : List Int} (h : Kd.C (Kd.int k) w A n xs) (i : Nat) (hi : i < n) : ∃ ad, A = some ad ∧ w.cell? (ad.add i) = some (.int k (xs.getD i 0)) := by
  obtain ⟨ad, c, e, hl, hK, hc⟩ := Kd.C_get h 0 (i : Int) (by omega) (by omega)
  refine ⟨ad, e, ?_⟩
  have hK : c = [.int k (xs.getD i 0)] := hK
  subst hK
  have h1 : (Kd.int k).sz = 1 := rfl
  have := hc 0 _ rfl
  rw [h1] at this
  simpa using this

set_option maxHeartbeats 4000000 in
theorem idx_w (A : Option Addr) (c : Nat) (xs : List Int) (gk ga : Nat) (lo hi : Int) (w : World) (hr : Kd.C (Kd.int .u64) w A xs.length xs) (h1 : w.cell? ⟨gk, 1, none⟩ = some (.int .u64 lo)) (h2 : w.cell? ⟨ga, 0, none⟩ = some (.int .u64 hi)) :
    Calls Try.prog 99 #[.slice A xs.length c, .func (.func 86) #[] #[.pointer (some ⟨gk, 0, none⟩), .pointer (some ⟨ga, 0, none⟩)]] w fun e w' => e = .returned (.int .i64 (firstIn lo hi 0 xs)) ∧ w' = w := by
  have hlen := hr.2.1
  have HR := Lib.hid hr
  have HC := Lib.hid (fun s => counted1_w s gk ga lo hi w h1 h2)
  clear hr h1 h2
  go_enter Try.func99, Try.ntmps99
  go_wp2
  go_loop [8] (fun t => ∃ k : Nat, k ≤ xs.length ∧ t = .int .i64 (k : Int) ∧ Hid (∀ j, j < k → within lo hi (xs.getD j 0) = false)) (fun t => xs.length - (intOf t).toNat)
  case atStart => exact ⟨0, by omega, rfl, Lib.hid (fun j h => by omega)⟩
  case round =>
    obtain ⟨k, hk, rfl, Z⟩ := hrel
    by_cases hlt : k < xs.length
    · obtain ⟨ad, e, x0⟩ := atInt HR.out k hlt
      subst e
      obtain ⟨x, hx⟩ : ∃ x, xs.getD k 0 = x := ⟨_, rfl⟩
      rw [hx] at x0
      have X := Lib.hid hx
      clear hx
      have p0 : (k < xs.length) = True := eq_true hlt
      have hw1 : IntKind.i64.wrap ((k : Int) + 1) = (k : Int) + 1 := by rw [IntWalk.i64_in _ (by omega)]
      by_cases hc : within lo hi x = true
      · go_wp2_with (go_at_call 86; refine (HC.out _).mono ?_; rintro e w' ⟨rfl, rfl⟩)
        go_ret
        have := firstIn_some (lo := lo) (hi := hi) 0 k xs hlt Z.out (by rw [X.out]; exact hc)
        exact ⟨by simp [this], rfl⟩
      · have hc : within lo hi x = false := by simpa using hc
        go_wp2_with (go_at_call 86; refine (HC.out _).mono ?_; rintro e w' ⟨rfl, rfl⟩)
        refine ⟨⟨k + 1, by omega, by simp, Lib.hid (fun j hj => ?_)⟩, by simp [intOf]; omega⟩
        rcases Nat.lt_succ_iff_lt_or_eq.1 hj with h | rfl
        · exact Z.out j h
        · rw [X.out]; exact hc
    · go_wp2
      go_ret
      have := firstIn_none (lo := lo) (hi := hi) 0 xs (fun j hj => Z.out j (by omega))
      exact ⟨by simp [this], rfl⟩

theorem any_w (A : Option Addr) (c : Nat) (xs : List Int) (gk ga : Nat) (lo hi : Int) (w : World) (hr : Kd.C (Kd.int .u64) w A xs.length xs) (h1 : w.cell? ⟨gk, 1, none⟩ = some (.int .u64 lo)) (h2 : w.cell? ⟨ga, 0, none⟩ = some (.int .u64 hi)) :
    Calls Try.prog 85 #[.slice A xs.length c, .func (.func 86) #[] #[.pointer (some ⟨gk, 0, none⟩), .pointer (some ⟨ga, 0, none⟩)]] w fun e w' => e = .returned (.bool (xs.any (within lo hi))) ∧ w' = w := by
  have HI := Lib.hid (idx_w A c xs gk ga lo hi w hr h1 h2)
  clear hr h1 h2
  go_enter Try.func85, Try.ntmps85
  go_wp2_with (go_at_call 99; refine HI.out.mono ?_; rintro e w' ⟨rfl, rfl⟩)
  go_ret
  have := firstIn_any (lo := lo) (hi := hi) 0 xs
  exact ⟨by simp [← this], rfl⟩

end Go.Proofs.Ytehoojmalhloeaa.CM

/-! Which of a user's entries count (compact.counted): what the program computes. Its conditions are that what it reads can be read and is not too long for memory. -/
namespace Go.Proofs.Ytehoojmalhloeaa.CM
open Go.RowKit Go.Proofs.YtehoojmalhloeaaW.PrintWords
set_option linter.unusedVariables false
set_option linter.unusedSimpArgs false
set_option maxRecDepth 100000

/-- What has been found, the bound, whether any number is left. -/
abbrev CSt := List PC.S44 × Int × Bool
def seenC (snaps : List Int) (st : CSt) (kv : PC.S44) : Bool :=
  (st.2.2 && decide (kv.f0.f1 ≤ st.2.1)) && (decide (st.1 = []) || snaps.any (within kv.f0.f1 st.2.1))
def stepC (snaps : List Int) (st : CSt) (kv : PC.S44) : CSt :=
  (if seenC snaps st kv = true then st.1 ++ [kv] else st.1,
   if kv.f0.f1 ≤ st.2.1 then IntKind.u64.wrap (kv.f0.f1 - 1) else st.2.1,
   if kv.f0.f1 ≤ st.2.1 then (st.2.2 && decide (0 < kv.f0.f1)) else st.2.2)
def topU : Int := 18446744073709551615
def runC (snaps : List Int) (l : List PC.S44) : CSt := l.foldl (stepC snaps) ([], topU, true)
/-- The entries that count. -/
def countedL (snaps : List Int) (l : List PC.S44) : List PC.S44 := (runC snaps l).1

theorem runC_take (snaps : List Int) (l : List PC.S44) (k : Nat) (hk : k < l.length) : runC snaps (l.take (k + 1)) = stepC snaps (runC snaps (l.take k)) (l.getD k PC.z44) := by
  have : l.take (k + 1) = l.take k ++ [l.getD k PC.z44] := by
    rw [List.take_add_one, List.getElem?_eq_getElem hk]
    simp [List.getD_eq_getElem?_getD, List.getElem?_eq_getElem hk]
  rw [this]
  simp [runC]
theorem runC_len (snaps : List Int) : ∀ (l : List PC.S44) (st : CSt), (l.foldl (stepC snaps) st).1.length ≤ st.1.length + l.length
  | [], st => by simp
  | a :: t, st => by
    have ih := runC_len snaps t (stepC snaps st a)
    have : (stepC snaps st a).1.length ≤ st.1.length + 1 := by
      simp only [stepC]
      split <;> simp
    simp only [List.foldl_cons, List.length_cons]
    omega
theorem countedL_len (snaps : List Int) (l : List PC.S44) : (countedL snaps l).length ≤ l.length := by
  simpa [countedL, runC] using runC_len snaps l ([], topU, true)

theorem grown_cell {W W' : World} {row : Option Nat} (hg : W.grownBy W' row) {b j : Nat} {v : Value} (h : W.cell? ⟨b, j, none⟩ = some v) (hne : some b ≠ row) : W'.cell? ⟨b, j, none⟩ = some v := by
  have := hg.block b (World.block_lt_of_cell? _ _ h) hne
  unfold World.cell? at h ⊢
  rw [this]
  exact h
theorem k44_ne37 : ∀ q, q ∈ 44 :: PC.k44.E → q ≠ 37 := by decide

/-- Where the walk stands behind k entries. -/
def CInv (w : World) (snaps : List Int) (l : List PC.S44) (k : Nat) (v5 v7 : Value) (wr : World) : Prop :=
  ∃ ys ab ob, v7 = .bool ob ∧ runC snaps (l.take k) = (ys, ab, ob) ∧ Kd.R PC.k44 44 wr w.heap.size (fun _ => True) v5 ys ∧ Boxed wr w.heap.size 37 (.int .u64 ab) ∧ Below w.heap.size w wr

set_option maxHeartbeats 8000000 in
theorem counted_w (A : Option Addr) (c : Nat) (l : List PC.S44) (A2 : Option Addr) (c2 : Nat) (snaps : List Int) (w : World) (hr : Kd.C PC.k44 w A l.length l) (hc : l.length ≤ c) (hr2 : Kd.C (Kd.int .u64) w A2 snaps.length snaps)
    (hbig : l.length * 48 ≤ 140737488355328) :
    Calls Try.prog 66 #[.slice A l.length c, .slice A2 snaps.length c2] w fun e w' => ∃ v, e = .returned v ∧ Kd.R PC.k44 44 w' w.heap.size (fun _ => True) v (countedL snaps l) ∧ Below w.heap.size w w' := by
  have hlen := hr.2.1
  have HR := Lib.hid hr
  have HS := Lib.hid hr2
  clear hr hr2
  go_enter Try.func66, Try.ntmps66
  go_wp2
  go_loopw [5, 7, 13] (fun v5 v7 t wr => ∃ k : Nat, k ≤ l.length ∧ t = .int .i64 (k : Int) ∧ Hid (CInv w snaps l k v5 v7 wr)) (fun _ _ t _ => l.length - (intOf t).toNat)
  case atStart => exact ⟨0, by omega, rfl, Lib.hid ⟨[], topU, true, rfl, rfl, Kd.R_nil _ _ _ _ _, Boxed.new _ _ _, (Below.refl _ w).alloc (Nat.le_refl _) _⟩⟩
  case round =>
    obtain ⟨k, hk, rfl, H⟩ := hrel
    by_cases hlt : k < l.length
    · obtain ⟨ys, ab, ob, rfl, hrun, hR, hbx, hB⟩ := H.out
      obtain ⟨Av, cv, hv, hlv, _⟩ := Kd.R_reads hR
      subst hv
      obtain ⟨ad, e, X⟩ := at44 (keepC HR.out (Nat.le_refl _) hB) k hlt
      subst e
      obtain ⟨kv, hkv⟩ : ∃ kv, l.getD k PC.z44 = kv := ⟨_, rfl⟩
      rw [hkv] at X
      have hst := runC_take snaps l k hlt
      rw [hrun, hkv] at hst
      have hyl : ys.length ≤ k := by
        have := countedL_len snaps (l.take k)
        rw [countedL, hrun, List.length_take] at this
        show ys.length ≤ k
        simp only at this
        omega
      obtain ⟨x0, x1, x2, x3⟩ := X
      obtain ⟨W1, hW1⟩ : ∃ W1, wr.alloc (.cells #[.string kv.f0.f0, .int .u64 kv.f0.f1, .int .i64 kv.f0.f2, .string kv.f1] 44) = W1 := ⟨_, rfl⟩
      have q0 : W1.cell? ⟨wr.heap.size, 0, none⟩ = some (.string kv.f0.f0) := by rw [← hW1]; exact cell_top rfl rfl
      have q1 : W1.cell? ⟨wr.heap.size, 1, none⟩ = some (.int .u64 kv.f0.f1) := by rw [← hW1]; exact cell_top rfl rfl
      have q2 : W1.cell? ⟨wr.heap.size, 2, none⟩ = some (.int .i64 kv.f0.f2) := by rw [← hW1]; exact cell_top rfl rfl
      have q3 : W1.cell? ⟨wr.heap.size, 3, none⟩ = some (.string kv.f1) := by rw [← hW1]; exact cell_top rfl rfl
      have hbx1 : Boxed W1 w.heap.size 37 (.int .u64 ab) := by rw [← hW1]; exact hbx.alloc _
      have hB1 : Below w.heap.size w W1 := by rw [← hW1]; exact hB.alloc hB.size _
      have hR1 : Kd.R PC.k44 44 W1 w.heap.size (fun _ => True) (.slice Av ys.length cv) ys := by rw [← hW1]; exact Kd.R_alloc hR _
      have hs1 : W1.heap.size = wr.heap.size + 1 := by rw [← hW1]; simp
      have hc6 := hbx1.cell
      have hf6 := hbx1.frozen
      have H5 := Lib.hid (And.intro hR1 (And.intro hbx1 (And.intro hB1 (And.intro hst (And.intro hs1 hbx.lt)))))
      have hown := Lib.hid (fun b (h : (Value.slice Av ys.length cv).ownBlock = some b) => own_lt (Kd.R_own hR).choose_spec b h)
      clear hR hbx hB hst hrun H hkv hR1 hbx1 hB1 hs1
      have p0 : (k < l.length) = True := eq_true hlt
      have hw1 : IntKind.i64.wrap ((k : Int) + 1) = (k : Int) + 1 := by rw [IntWalk.i64_in _ (by omega)]
      cases ob with
      | false =>
        by_cases c1 : kv.f0.f1 ≤ ab
        · have d1 : decide (kv.f0.f1 ≤ ab) = true := decide_eq_true c1
          go_wp2_with fail
          exact ⟨⟨k + 1, by omega, by simp, Lib.hid ⟨ys, IntKind.u64.wrap (kv.f0.f1 - 1), false, rfl, by rw [H5.out.2.2.2.1]; simp [stepC, seenC, c1], (Kd.R_set H5.out.1 H5.out.2.1 k44_ne37 0 _), (H5.out.2.1.set _), (H5.out.2.2.1.setCell (p := ⟨w.heap.size, 0, none⟩) (Nat.le_refl _) _)⟩⟩, by simp [intOf]; omega⟩
        · have d1 : decide (kv.f0.f1 ≤ ab) = false := decide_eq_false c1
          go_wp2_with fail
          exact ⟨⟨k + 1, by omega, by simp, Lib.hid ⟨ys, ab, false, rfl, by rw [H5.out.2.2.2.1]; simp [stepC, seenC, c1], H5.out.1, H5.out.2.1, H5.out.2.2.1⟩⟩, by simp [intOf]; omega⟩
      | true =>
        by_cases c1 : kv.f0.f1 ≤ ab
        · have d1 : decide (kv.f0.f1 ≤ ab) = true := decide_eq_true c1
          cases ys with
          | nil =>
            by_cases c0 : 0 < kv.f0.f1
            · have d0 : decide (0 < kv.f0.f1) = true := decide_eq_true c0
              go_wp2_with (at_builtin; refine Kd.R_append PC.k44 (w0 := w) w.heap.size rfl (.tmp 35) (.tmp 37) 22 44 (.agg #[(.string ⟨#[]⟩), (.int .u64 0), (.int .i64 0), (.string ⟨#[]⟩)]) 48 rfl Try.underlying22 PC.info44 rfl (by decide) (by omega) _ [] kv [.string kv.f0.f0, .int .u64 kv.f0.f1, .int .i64 kv.f0.f2, .string kv.f1] (fun _ => True) (fun _ => False) rfl rfl (PC.k44_mkM _ _ _ kv) (fun _ hk => hk.elim) (fun _ _ => trivial) H5.out.1 H5.out.2.2.1 H5.out.2.2.1.size (by omega) ?_; intro v1 w1 hR2 hB2 hg2 hat2; have n1 : some wr.heap.size ≠ (Value.slice Av 0 cv).ownBlock := (fun e => Nat.lt_irrefl _ (hown.out _ e.symm)); have n2 : some w.heap.size ≠ (Value.slice Av 0 cv).ownBlock := Kd.R_ne H5.out.1 H5.out.2.1 (by decide); have r1 := grown_cell hg2 q1 n1; have hb2 : Boxed w1 w.heap.size 37 (.int .u64 ab) := H5.out.2.1.kept hg2 n2; have hc7 := hb2.cell; have hf7 := hb2.frozen; have G := Lib.hid (And.intro hR2 (And.intro hb2 hB2)); clear hR2 hb2 hB2 hg2 hat2 n1 n2)
              exact ⟨⟨k + 1, by omega, by simp, Lib.hid ⟨[kv], IntKind.u64.wrap (kv.f0.f1 - 1), true, rfl, by rw [H5.out.2.2.2.1]; simp [stepC, seenC, c1, c0], (Kd.R_set G.out.1 G.out.2.1 k44_ne37 0 _), (G.out.2.1.set _), (G.out.2.2.setCell (p := ⟨w.heap.size, 0, none⟩) (Nat.le_refl _) _)⟩⟩, by simp [intOf]; omega⟩
            · have d0 : decide (0 < kv.f0.f1) = false := decide_eq_false c0
              go_wp2_with (at_builtin; refine Kd.R_append PC.k44 (w0 := w) w.heap.size rfl (.tmp 35) (.tmp 37) 22 44 (.agg #[(.string ⟨#[]⟩), (.int .u64 0), (.int .i64 0), (.string ⟨#[]⟩)]) 48 rfl Try.underlying22 PC.info44 rfl (by decide) (by omega) _ [] kv [.string kv.f0.f0, .int .u64 kv.f0.f1, .int .i64 kv.f0.f2, .string kv.f1] (fun _ => True) (fun _ => False) rfl rfl (PC.k44_mkM _ _ _ kv) (fun _ hk => hk.elim) (fun _ _ => trivial) H5.out.1 H5.out.2.2.1 H5.out.2.2.1.size (by omega) ?_; intro v1 w1 hR2 hB2 hg2 hat2; have n1 : some wr.heap.size ≠ (Value.slice Av 0 cv).ownBlock := (fun e => Nat.lt_irrefl _ (hown.out _ e.symm)); have n2 : some w.heap.size ≠ (Value.slice Av 0 cv).ownBlock := Kd.R_ne H5.out.1 H5.out.2.1 (by decide); have r1 := grown_cell hg2 q1 n1; have hb2 : Boxed w1 w.heap.size 37 (.int .u64 ab) := H5.out.2.1.kept hg2 n2; have hc7 := hb2.cell; have hf7 := hb2.frozen; have G := Lib.hid (And.intro hR2 (And.intro hb2 hB2)); clear hR2 hb2 hB2 hg2 hat2 n1 n2)
              exact ⟨⟨k + 1, by omega, by simp, Lib.hid ⟨[kv], IntKind.u64.wrap (kv.f0.f1 - 1), false, rfl, by rw [H5.out.2.2.2.1]; simp [stepC, seenC, c1, c0], (Kd.R_set G.out.1 G.out.2.1 k44_ne37 0 _), (G.out.2.1.set _), (G.out.2.2.setCell (p := ⟨w.heap.size, 0, none⟩) (Nat.le_refl _) _)⟩⟩, by simp [intOf]; omega⟩
          | cons y0 yt =>
            obtain ⟨ys, hys⟩ : ∃ ys, y0 :: yt = ys := ⟨_, rfl⟩
            have hne : ys ≠ [] := by rw [← hys]; simp
            have hyp : 0 < ys.length := by rw [← hys]; simp
            rw [hys] at H5 hown hyl
            simp only [hys]
            clear hys
            have dy : decide ((0 : Int) < (ys.length : Int)) = true := decide_eq_true (by omega)
            have dz : decide (0 < ys.length) = true := decide_eq_true hyp
            have HA := Lib.hid (any_w A2 c2 snaps wr.heap.size w.heap.size kv.f0.f1 ab W1 (keepC HS.out (Nat.le_refl _) H5.out.2.2.1) q1 hc6)
            by_cases ca : snaps.any (within kv.f0.f1 ab) = true
            · by_cases c0 : 0 < kv.f0.f1
              · have d0 : decide (0 < kv.f0.f1) = true := decide_eq_true c0
                go_wp2_with (first | (go_at_call 85; refine HA.out.mono ?_; rintro e w' ⟨rfl, rfl⟩) | (at_builtin; refine Kd.R_append PC.k44 (w0 := w) w.heap.size rfl (.tmp 35) (.tmp 37) 22 44 (.agg #[(.string ⟨#[]⟩), (.int .u64 0), (.int .i64 0), (.string ⟨#[]⟩)]) 48 rfl Try.underlying22 PC.info44 rfl (by decide) (by omega) _ ys kv [.string kv.f0.f0, .int .u64 kv.f0.f1, .int .i64 kv.f0.f2, .string kv.f1] (fun _ => True) (fun _ => False) rfl rfl (PC.k44_mkM _ _ _ kv) (fun _ hk => hk.elim) (fun _ _ => trivial) H5.out.1 H5.out.2.2.1 H5.out.2.2.1.size (by omega) ?_; intro v1 w1 hR2 hB2 hg2 hat2; have n1 : some wr.heap.size ≠ (Value.slice Av ys.length cv).ownBlock := (fun e => Nat.lt_irrefl _ (hown.out _ e.symm)); have n2 : some w.heap.size ≠ (Value.slice Av ys.length cv).ownBlock := Kd.R_ne H5.out.1 H5.out.2.1 (by decide); have r1 := grown_cell hg2 q1 n1; have hb2 : Boxed w1 w.heap.size 37 (.int .u64 ab) := H5.out.2.1.kept hg2 n2; have hc7 := hb2.cell; have hf7 := hb2.frozen; have G := Lib.hid (And.intro hR2 (And.intro hb2 hB2)); clear hR2 hb2 hB2 hg2 hat2 n1 n2))
                exact ⟨⟨k + 1, by omega, by simp, Lib.hid ⟨(ys ++ [kv]), IntKind.u64.wrap (kv.f0.f1 - 1), true, rfl, by rw [H5.out.2.2.2.1]; simp [stepC, seenC, c1, c0, ca], (Kd.R_set G.out.1 G.out.2.1 k44_ne37 0 _), (G.out.2.1.set _), (G.out.2.2.setCell (p := ⟨w.heap.size, 0, none⟩) (Nat.le_refl _) _)⟩⟩, by simp [intOf]; omega⟩
              · have d0 : decide (0 < kv.f0.f1) = false := decide_eq_false c0
                go_wp2_with (first | (go_at_call 85; refine HA.out.mono ?_; rintro e w' ⟨rfl, rfl⟩) | (at_builtin; refine Kd.R_append PC.k44 (w0 := w) w.heap.size rfl (.tmp 35) (.tmp 37) 22 44 (.agg #[(.string ⟨#[]⟩), (.int .u64 0), (.int .i64 0), (.string ⟨#[]⟩)]) 48 rfl Try.underlying22 PC.info44 rfl (by decide) (by omega) _ ys kv [.string kv.f0.f0, .int .u64 kv.f0.f1, .int .i64 kv.f0.f2, .string kv.f1] (fun _ => True) (fun _ => False) rfl rfl (PC.k44_mkM _ _ _ kv) (fun _ hk => hk.elim) (fun _ _ => trivial) H5.out.1 H5.out.2.2.1 H5.out.2.2.1.size (by omega) ?_; intro v1 w1 hR2 hB2 hg2 hat2; have n1 : some wr.heap.size ≠ (Value.slice Av ys.length cv).ownBlock := (fun e => Nat.lt_irrefl _ (hown.out _ e.symm)); have n2 : some w.heap.size ≠ (Value.slice Av ys.length cv).ownBlock := Kd.R_ne H5.out.1 H5.out.2.1 (by decide); have r1 := grown_cell hg2 q1 n1; have hb2 : Boxed w1 w.heap.size 37 (.int .u64 ab) := H5.out.2.1.kept hg2 n2; have hc7 := hb2.cell; have hf7 := hb2.frozen; have G := Lib.hid (And.intro hR2 (And.intro hb2 hB2)); clear hR2 hb2 hB2 hg2 hat2 n1 n2))
                exact ⟨⟨k + 1, by omega, by simp, Lib.hid ⟨(ys ++ [kv]), IntKind.u64.wrap (kv.f0.f1 - 1), false, rfl, by rw [H5.out.2.2.2.1]; simp [stepC, seenC, c1, c0, ca], (Kd.R_set G.out.1 G.out.2.1 k44_ne37 0 _), (G.out.2.1.set _), (G.out.2.2.setCell (p := ⟨w.heap.size, 0, none⟩) (Nat.le_refl _) _)⟩⟩, by simp [intOf]; omega⟩
            · have ca : snaps.any (within kv.f0.f1 ab) = false := by simpa using ca
              by_cases c0 : 0 < kv.f0.f1
              · have d0 : decide (0 < kv.f0.f1) = true := decide_eq_true c0
                go_wp2_with (first | (go_at_call 85; refine HA.out.mono ?_; rintro e w' ⟨rfl, rfl⟩) | (at_builtin; refine Kd.R_append PC.k44 (w0 := w) w.heap.size rfl (.tmp 35) (.tmp 37) 22 44 (.agg #[(.string ⟨#[]⟩), (.int .u64 0), (.int .i64 0), (.string ⟨#[]⟩)]) 48 rfl Try.underlying22 PC.info44 rfl (by decide) (by omega) _ ys kv [.string kv.f0.f0, .int .u64 kv.f0.f1, .int .i64 kv.f0.f2, .string kv.f1] (fun _ => True) (fun _ => False) rfl rfl (PC.k44_mkM _ _ _ kv) (fun _ hk => hk.elim) (fun _ _ => trivial) H5.out.1 H5.out.2.2.1 H5.out.2.2.1.size (by omega) ?_; intro v1 w1 hR2 hB2 hg2 hat2; have n1 : some wr.heap.size ≠ (Value.slice Av ys.length cv).ownBlock := (fun e => Nat.lt_irrefl _ (hown.out _ e.symm)); have n2 : some w.heap.size ≠ (Value.slice Av ys.length cv).ownBlock := Kd.R_ne H5.out.1 H5.out.2.1 (by decide); have r1 := grown_cell hg2 q1 n1; have hb2 : Boxed w1 w.heap.size 37 (.int .u64 ab) := H5.out.2.1.kept hg2 n2; have hc7 := hb2.cell; have hf7 := hb2.frozen; have G := Lib.hid (And.intro hR2 (And.intro hb2 hB2)); clear hR2 hb2 hB2 hg2 hat2 n1 n2))
                exact ⟨⟨k + 1, by omega, by simp, Lib.hid ⟨ys, IntKind.u64.wrap (kv.f0.f1 - 1), true, rfl, by rw [H5.out.2.2.2.1]; simp [stepC, seenC, c1, c0, ca, hne], (Kd.R_set H5.out.1 H5.out.2.1 k44_ne37 0 _), (H5.out.2.1.set _), (H5.out.2.2.1.setCell (p := ⟨w.heap.size, 0, none⟩) (Nat.le_refl _) _)⟩⟩, by simp [intOf]; omega⟩
              · have d0 : decide (0 < kv.f0.f1) = false := decide_eq_false c0
                go_wp2_with (first | (go_at_call 85; refine HA.out.mono ?_; rintro e w' ⟨rfl, rfl⟩) | (at_builtin; refine Kd.R_append PC.k44 (w0 := w) w.heap.size rfl (.tmp 35) (.tmp 37) 22 44 (.agg #[(.string ⟨#[]⟩), (.int .u64 0), (.int .i64 0), (.string ⟨#[]⟩)]) 48 rfl Try.underlying22 PC.info44 rfl (by decide) (by omega) _ ys kv [.string kv.f0.f0, .int .u64 kv.f0.f1, .int .i64 kv.f0.f2, .string kv.f1] (fun _ => True) (fun _ => False) rfl rfl (PC.k44_mkM _ _ _ kv) (fun _ hk => hk.elim) (fun _ _ => trivial) H5.out.1 H5.out.2.2.1 H5.out.2.2.1.size (by omega) ?_; intro v1 w1 hR2 hB2 hg2 hat2; have n1 : some wr.heap.size ≠ (Value.slice Av ys.length cv).ownBlock := (fun e => Nat.lt_irrefl _ (hown.out _ e.symm)); have n2 : some w.heap.size ≠ (Value.slice Av ys.length cv).ownBlock := Kd.R_ne H5.out.1 H5.out.2.1 (by decide); have r1 := grown_cell hg2 q1 n1; have hb2 : Boxed w1 w.heap.size 37 (.int .u64 ab) := H5.out.2.1.kept hg2 n2; have hc7 := hb2.cell; have hf7 := hb2.frozen; have G := Lib.hid (And.intro hR2 (And.intro hb2 hB2)); clear hR2 hb2 hB2 hg2 hat2 n1 n2))
                exact ⟨⟨k + 1, by omega, by simp, Lib.hid ⟨ys, IntKind.u64.wrap (kv.f0.f1 - 1), false, rfl, by rw [H5.out.2.2.2.1]; simp [stepC, seenC, c1, c0, ca, hne], (Kd.R_set H5.out.1 H5.out.2.1 k44_ne37 0 _), (H5.out.2.1.set _), (H5.out.2.2.1.setCell (p := ⟨w.heap.size, 0, none⟩) (Nat.le_refl _) _)⟩⟩, by simp [intOf]; omega⟩
        · have d1 : decide (kv.f0.f1 ≤ ab) = false := decide_eq_false c1
          go_wp2_with fail
          exact ⟨⟨k + 1, by omega, by simp, Lib.hid ⟨ys, ab, true, rfl, by rw [H5.out.2.2.2.1]; simp [stepC, seenC, c1], H5.out.1, H5.out.2.1, H5.out.2.2.1⟩⟩, by simp [intOf]; omega⟩
    · go_wp2
      go_ret
      obtain ⟨ys, ab, ob, rfl, hrun, hR, hbx, hB⟩ := H.out
      rw [List.take_of_length_le (by omega)] at hrun
      exact ⟨_, rfl, by rw [countedL, hrun]; exact hR, hB⟩

end Go.Proofs.Ytehoojmalhloeaa.CM

/-! Entries that delete nothing are left out (compact.settled): what the program computes. Its conditions are that what it reads can be read and is not too long for memory. -/
namespace Go.Proofs.Ytehoojmalhloeaa.CM
open Go.RowKit Go.Proofs.YtehoojmalhloeaaW.PrintWords
set_option linter.unusedVariables false
set_option linter.unusedSimpArgs false
set_option maxRecDepth 100000

/-- The value of an entry. -/
def kv44 (a : PC.S44) : Value := .agg #[.string a.f0.f0, .int .u64 a.f0.f1, .int .i64 a.f0.f2, .string a.f1]
def stepM (st : Bool × List PC.S44) (kv : PC.S44) : Bool × List PC.S44 :=
  (st.1 || kv.f0.f2 == 1, if (st.1 || kv.f0.f2 == 1) = true then st.2 ++ [kv] else st.2)
def runM (l : List PC.S44) : Bool × List PC.S44 := l.foldl stepM (false, [])

/-- Two variables and the row that one of them holds. -/
def MInv (w0 : World) (base gp go : Nat) (st : Bool × List PC.S44) (W : World) : Prop :=
  ∃ v, Boxed W gp 4 (.bool st.1) ∧ Boxed W go 22 v ∧ Kd.R PC.k44 44 W base (fun _ => True) v st.2 ∧ Below base w0 W ∧ base ≤ W.heap.size

theorem k44_ne4 : ∀ q, q ∈ 44 :: PC.k44.E → q ≠ 4 := by decide
theorem k44_ne22 : ∀ q, q ∈ 44 :: PC.k44.E → q ≠ 22 := by decide

set_option maxHeartbeats 8000000 in
theorem mark_d (kv : PC.S44) (w0 : World) (base gp go : Nat) (st : Bool × List PC.S44) (hne : gp ≠ go) (hgp : base ≤ gp) (hgo : base ≤ go) (u : FrameMode) (w : World) (h : MInv w0 base gp go st w) (hl : (st.2.length + 1) * 48 ≤ 140737488355328) :
    CallsD Try.prog 87 #[kv44 kv, .pointer (some ⟨gp, 0, none⟩), .pointer (some ⟨go, 0, none⟩)] u w fun e u' w' => u' = u ∧ (e = .returned (.tuple #[]) ∧ MInv w0 base gp go (stepM st kv) w') := by
  obtain ⟨put, ys⟩ := st
  obtain ⟨v, h1, h2, h3, h4, h5⟩ := h
  unfold kv44
  obtain ⟨Av, cv, hv, hlv, _⟩ := Kd.R_reads h3
  subst hv
  obtain ⟨W1, hW1⟩ : ∃ W1, w.alloc (.cells #[.string kv.f0.f0, .int .u64 kv.f0.f1, .int .i64 kv.f0.f2, .string kv.f1] 44) = W1 := ⟨_, rfl⟩
  have q0 : W1.cell? ⟨w.heap.size, 0, none⟩ = some (.string kv.f0.f0) := by rw [← hW1]; exact cell_top rfl rfl
  have q1 : W1.cell? ⟨w.heap.size, 1, none⟩ = some (.int .u64 kv.f0.f1) := by rw [← hW1]; exact cell_top rfl rfl
  have q2 : W1.cell? ⟨w.heap.size, 2, none⟩ = some (.int .i64 kv.f0.f2) := by rw [← hW1]; exact cell_top rfl rfl
  have q3 : W1.cell? ⟨w.heap.size, 3, none⟩ = some (.string kv.f1) := by rw [← hW1]; exact cell_top rfl rfl
  have b1 : Boxed W1 gp 4 (.bool put) := by rw [← hW1]; exact h1.alloc _
  have b2 : Boxed W1 go 22 (.slice Av ys.length cv) := by rw [← hW1]; exact h2.alloc _
  have b3 : Kd.R PC.k44 44 W1 base (fun _ => True) (.slice Av ys.length cv) ys := by rw [← hW1]; exact Kd.R_alloc h3 _
  have b4 : Below base w0 W1 := by rw [← hW1]; exact h4.alloc h5 _
  have b5 : W1.heap.size = w.heap.size + 1 := by rw [← hW1]; simp
  have e1 : gp < w.heap.size := h1.lt
  have e2 : go < w.heap.size := h2.lt
  have B := Lib.hid (And.intro b1 (And.intro b2 (And.intro b3 (And.intro b4 (And.intro b5 (And.intro e1 e2))))))
  have c1 := b1.cell
  have f1 := b1.frozen
  clear h1 h2 h3 h4 b1 b2 b3 b4 b5 e1 e2
  go_enter_d Try.func87, Try.ntmps87
  cases put with
  | true =>
    obtain ⟨W2, hW2⟩ : ∃ W2, W1.setCell ⟨gp, 0, none⟩ (.bool true) = W2 := ⟨_, rfl⟩
    have m1 : some w.heap.size ≠ some gp := (fun e => by have := B.out.2.2.2.2.2.1; injection e with e; omega)
    have r0 : W2.cell? ⟨w.heap.size, 0, none⟩ = some (.string kv.f0.f0) := by rw [← hW2]; exact grown_cell (grownBy_setCell' W1 gp _) q0 m1
    have r1 : W2.cell? ⟨w.heap.size, 1, none⟩ = some (.int .u64 kv.f0.f1) := by rw [← hW2]; exact grown_cell (grownBy_setCell' W1 gp _) q1 m1
    have r2 : W2.cell? ⟨w.heap.size, 2, none⟩ = some (.int .i64 kv.f0.f2) := by rw [← hW2]; exact grown_cell (grownBy_setCell' W1 gp _) q2 m1
    have r3 : W2.cell? ⟨w.heap.size, 3, none⟩ = some (.string kv.f1) := by rw [← hW2]; exact grown_cell (grownBy_setCell' W1 gp _) q3 m1
    have d1 : Boxed W2 gp 4 (.bool true) := by rw [← hW2]; exact B.out.1.set _
    have d2 : Boxed W2 go 22 (.slice Av ys.length cv) := by rw [← hW2]; exact B.out.2.1.other (Ne.symm hne) _
    have d3 : Kd.R PC.k44 44 W2 base (fun _ => True) (.slice Av ys.length cv) ys := by rw [← hW2]; exact Kd.R_set B.out.2.2.1 B.out.1 k44_ne4 0 _
    have d4 : Below base w0 W2 := by rw [← hW2]; exact B.out.2.2.2.1.setCell (p := ⟨gp, 0, none⟩) hgp _
    have d5 : base ≤ W2.heap.size := by rw [← hW2]; simp; have := B.out.2.2.2.2.1; omega
    have g1 := d1.cell
    have g2 := d2.cell
    have g3 := d2.frozen
    have D := Lib.hid (And.intro d1 (And.intro d2 (And.intro d3 (And.intro d4 d5))))
    clear d1 d2 d3 d4 d5 m1
    go_wp2_with (at_builtin; refine Kd.R_append PC.k44 (w0 := w0) base rfl (.tmp 12) (.tmp 14) 22 44 (.agg #[(.string ⟨#[]⟩), (.int .u64 0), (.int .i64 0), (.string ⟨#[]⟩)]) 48 rfl Try.underlying22 PC.info44 rfl (by decide) (by omega) _ ys kv [.string kv.f0.f0, .int .u64 kv.f0.f1, .int .i64 kv.f0.f2, .string kv.f1] (fun _ => True) (fun _ => False) rfl rfl (PC.k44_mkM _ _ _ kv) (fun _ hk => hk.elim) (fun _ _ => trivial) D.out.2.2.1 D.out.2.2.2.1 D.out.2.2.2.2 hl ?_; intro v1 w1 hR2 hB2 hg2 hat2; obtain ⟨A1, k1, hv1⟩ := Kd.R_slice hR2; subst hv1; have n1 : some gp ≠ (Value.slice Av ys.length cv).ownBlock := Kd.R_ne D.out.2.2.1 D.out.1 (by decide); have n2 : some go ≠ (Value.slice Av ys.length cv).ownBlock := Kd.R_ne D.out.2.2.1 D.out.2.1 (by decide); have hb1 : Boxed w1 gp 4 (.bool true) := D.out.1.kept hg2 n1; have hb2 : Boxed w1 go 22 (.slice Av ys.length cv) := D.out.2.1.kept hg2 n2; have hc7 := hb2.cell; have hf7 := hb2.frozen; have hz2 := Nat.le_trans D.out.2.2.2.2 hg2.size; have G := Lib.hid (And.intro hR2 (And.intro hb1 (And.intro hb2 (And.intro hB2 hz2)))); clear hR2 hb1 hb2 hB2 hg2 hat2 n1 n2 hz2)
    go_end0
    refine ⟨rfl, _, ?_, G.out.2.2.1.set _, ?_, G.out.2.2.2.1.setCell (p := ⟨go, 0, none⟩) hgo _, by simp; exact G.out.2.2.2.2⟩
    · simpa [stepM] using G.out.2.1.other hne _
    · simpa [stepM] using Kd.R_set G.out.1 G.out.2.2.1 k44_ne22 0 _
  | false =>
    by_cases ck : kv.f0.f2 = 1
    · have e1 : (kv.f0.f2 == 1) = true := by simp [ck]
      clear ck
      obtain ⟨W2, hW2⟩ : ∃ W2, W1.setCell ⟨gp, 0, none⟩ (.bool true) = W2 := ⟨_, rfl⟩
      have m1 : some w.heap.size ≠ some gp := (fun e => by have := B.out.2.2.2.2.2.1; injection e with e; omega)
      have r0 : W2.cell? ⟨w.heap.size, 0, none⟩ = some (.string kv.f0.f0) := by rw [← hW2]; exact grown_cell (grownBy_setCell' W1 gp _) q0 m1
      have r1 : W2.cell? ⟨w.heap.size, 1, none⟩ = some (.int .u64 kv.f0.f1) := by rw [← hW2]; exact grown_cell (grownBy_setCell' W1 gp _) q1 m1
      have r2 : W2.cell? ⟨w.heap.size, 2, none⟩ = some (.int .i64 kv.f0.f2) := by rw [← hW2]; exact grown_cell (grownBy_setCell' W1 gp _) q2 m1
      have r3 : W2.cell? ⟨w.heap.size, 3, none⟩ = some (.string kv.f1) := by rw [← hW2]; exact grown_cell (grownBy_setCell' W1 gp _) q3 m1
      have d1 : Boxed W2 gp 4 (.bool true) := by rw [← hW2]; exact B.out.1.set _
      have d2 : Boxed W2 go 22 (.slice Av ys.length cv) := by rw [← hW2]; exact B.out.2.1.other (Ne.symm hne) _
      have d3 : Kd.R PC.k44 44 W2 base (fun _ => True) (.slice Av ys.length cv) ys := by rw [← hW2]; exact Kd.R_set B.out.2.2.1 B.out.1 k44_ne4 0 _
      have d4 : Below base w0 W2 := by rw [← hW2]; exact B.out.2.2.2.1.setCell (p := ⟨gp, 0, none⟩) hgp _
      have d5 : base ≤ W2.heap.size := by rw [← hW2]; simp; have := B.out.2.2.2.2.1; omega
      have g1 := d1.cell
      have g2 := d2.cell
      have g3 := d2.frozen
      have D := Lib.hid (And.intro d1 (And.intro d2 (And.intro d3 (And.intro d4 d5))))
      clear d1 d2 d3 d4 d5 m1
      go_wp2_with (at_builtin; refine Kd.R_append PC.k44 (w0 := w0) base rfl (.tmp 12) (.tmp 14) 22 44 (.agg #[(.string ⟨#[]⟩), (.int .u64 0), (.int .i64 0), (.string ⟨#[]⟩)]) 48 rfl Try.underlying22 PC.info44 rfl (by decide) (by omega) _ ys kv [.string kv.f0.f0, .int .u64 kv.f0.f1, .int .i64 kv.f0.f2, .string kv.f1] (fun _ => True) (fun _ => False) rfl rfl (PC.k44_mkM _ _ _ kv) (fun _ hk => hk.elim) (fun _ _ => trivial) D.out.2.2.1 D.out.2.2.2.1 D.out.2.2.2.2 hl ?_; intro v1 w1 hR2 hB2 hg2 hat2; obtain ⟨A1, k1, hv1⟩ := Kd.R_slice hR2; subst hv1; have n1 : some gp ≠ (Value.slice Av ys.length cv).ownBlock := Kd.R_ne D.out.2.2.1 D.out.1 (by decide); have n2 : some go ≠ (Value.slice Av ys.length cv).ownBlock := Kd.R_ne D.out.2.2.1 D.out.2.1 (by decide); have hb1 : Boxed w1 gp 4 (.bool true) := D.out.1.kept hg2 n1; have hb2 : Boxed w1 go 22 (.slice Av ys.length cv) := D.out.2.1.kept hg2 n2; have hc7 := hb2.cell; have hf7 := hb2.frozen; have hz2 := Nat.le_trans D.out.2.2.2.2 hg2.size; have G := Lib.hid (And.intro hR2 (And.intro hb1 (And.intro hb2 (And.intro hB2 hz2)))); clear hR2 hb1 hb2 hB2 hg2 hat2 n1 n2 hz2)
      go_end0
      refine ⟨rfl, _, ?_, G.out.2.2.1.set _, ?_, G.out.2.2.2.1.setCell (p := ⟨go, 0, none⟩) hgo _, by simp; exact G.out.2.2.2.2⟩
      · simpa [stepM, e1] using G.out.2.1.other hne _
      · simpa [stepM, e1] using Kd.R_set G.out.1 G.out.2.2.1 k44_ne22 0 _
    · have e1 : (kv.f0.f2 == 1) = false := by simp [ck]
      clear ck
      obtain ⟨W2, hW2⟩ : ∃ W2, W1.setCell ⟨gp, 0, none⟩ (.bool false) = W2 := ⟨_, rfl⟩
      have m1 : some w.heap.size ≠ some gp := (fun e => by have := B.out.2.2.2.2.2.1; injection e with e; omega)
      have r0 : W2.cell? ⟨w.heap.size, 0, none⟩ = some (.string kv.f0.f0) := by rw [← hW2]; exact grown_cell (grownBy_setCell' W1 gp _) q0 m1
      have r1 : W2.cell? ⟨w.heap.size, 1, none⟩ = some (.int .u64 kv.f0.f1) := by rw [← hW2]; exact grown_cell (grownBy_setCell' W1 gp _) q1 m1
      have r2 : W2.cell? ⟨w.heap.size, 2, none⟩ = some (.int .i64 kv.f0.f2) := by rw [← hW2]; exact grown_cell (grownBy_setCell' W1 gp _) q2 m1
      have r3 : W2.cell? ⟨w.heap.size, 3, none⟩ = some (.string kv.f1) := by rw [← hW2]; exact grown_cell (grownBy_setCell' W1 gp _) q3 m1
      have d1 : Boxed W2 gp 4 (.bool false) := by rw [← hW2]; exact B.out.1.set _
      have d2 : Boxed W2 go 22 (.slice Av ys.length cv) := by rw [← hW2]; exact B.out.2.1.other (Ne.symm hne) _
      have d3 : Kd.R PC.k44 44 W2 base (fun _ => True) (.slice Av ys.length cv) ys := by rw [← hW2]; exact Kd.R_set B.out.2.2.1 B.out.1 k44_ne4 0 _
      have d4 : Below base w0 W2 := by rw [← hW2]; exact B.out.2.2.2.1.setCell (p := ⟨gp, 0, none⟩) hgp _
      have d5 : base ≤ W2.heap.size := by rw [← hW2]; simp; have := B.out.2.2.2.2.1; omega
      have g1 := d1.cell
      have g2 := d2.cell
      have g3 := d2.frozen
      have D := Lib.hid (And.intro d1 (And.intro d2 (And.intro d3 (And.intro d4 d5))))
      clear d1 d2 d3 d4 d5 m1
      go_wp2_with fail
      go_end0
      exact ⟨rfl, _, by simpa [stepM, e1] using D.out.1, D.out.2.1, by simpa [stepM, e1] using D.out.2.2.1, D.out.2.2.2.1, D.out.2.2.2.2⟩

end Go.Proofs.Ytehoojmalhloeaa.CM

/-! Calls that are put off in a loop (compact.settled's inner function): what they leave. Its conditions are that what it reads can be read and is not too long for memory. -/
namespace Go.Proofs.Ytehoojmalhloeaa.CM
open Go.RowKit Go.Proofs.YtehoojmalhloeaaW.PrintWords
set_option linter.unusedVariables false
set_option linter.unusedSimpArgs false
set_option maxRecDepth 100000

/-- The calls that are put off, for entries. -/
def dls (gp go : Nat) (l : List PC.S44) : List Deferred := l.map fun kv => { target := .fn (.func 87) #[.pointer (some ⟨gp, 0, none⟩), .pointer (some ⟨go, 0, none⟩)], args := #[kv44 kv] }

theorem stepM_len (st : Bool × List PC.S44) (kv : PC.S44) : (stepM st kv).2.length ≤ st.2.length + 1 := by
  unfold stepM
  simp only
  split <;> simp

theorem leaves_all (w0 : World) (base gp go : Nat) (hne : gp ≠ go) (hgp : base ≤ gp) (hgo : base ≤ go) (tmps : Array Value) (R : Ending → World → Prop) : ∀ (l : List PC.S44) (st : Bool × List PC.S44) (W : World), MInv w0 base gp go st W → (st.2.length + l.length) * 48 ≤ 140737488355328 →
    (∀ W', MInv w0 base gp go (l.foldl stepM st) W' → R (.returned (.tuple #[])) W') → Leaves Try.prog Try.f88 tmps R (dls gp go l) .returning W
  | [], st, W, h, _, hR => ⟨_, results_none rfl _ _ _, hR W h⟩
  | kv :: t, st, W, h, hl, hR => by
    simp only [List.length_cons] at hl
    refine leaves_cons (f := 87) (args := #[kv44 kv, .pointer (some ⟨gp, 0, none⟩), .pointer (some ⟨go, 0, none⟩)]) (by simp) (by simp [go_sem]) ?_
    refine (mark_d kv w0 base gp go st hne hgp hgo .returning W h (by omega)).mono ?_
    rintro e u' w' ⟨rfl, rfl, h'⟩
    have := stepM_len st kv
    exact leaves_all w0 base gp go hne hgp hgo tmps R t (stepM st kv) w' h' (by omega) hR

theorem MInv.alloc {w0 : World} {base gp go : Nat} {st : Bool × List PC.S44} {W : World} (h : MInv w0 base gp go st W) (o : Obj) : MInv w0 base gp go st (W.alloc o) := by
  obtain ⟨v, h1, h2, h3, h4, h5⟩ := h
  exact ⟨v, h1.alloc _, h2.alloc _, Kd.R_alloc h3 _, h4.alloc h5 _, by simp; omega⟩

set_option maxHeartbeats 8000000 in
theorem lit_w (w0 : World) (base gp go b1 b4 : Nat) (hne : gp ≠ go) (hgp : base ≤ gp) (hgo : base ≤ go) (A : Option Addr) (c : Nat) (l : List PC.S44) (w : World) (hr : Kd.C PC.k44 w A l.length l) (hc : l.length ≤ c)
    (h1 : Boxed w b1 22 (.slice A l.length c)) (h4 : Boxed w b4 130 (.func (.func 87) #[] #[.pointer (some ⟨gp, 0, none⟩), .pointer (some ⟨go, 0, none⟩)])) (hM : MInv w0 base gp go (false, []) w) (hbig : l.length * 48 ≤ 140737488355328) :
    Calls Try.prog 88 #[.pointer (some ⟨b1, 0, none⟩), .pointer (some ⟨b4, 0, none⟩)] w fun e w' => e = .returned (.tuple #[]) ∧ MInv w0 base gp go (runM l.reverse) w' := by
  have hlen := hr.2.1
  have HR := Lib.hid hr
  clear hr
  have c1 := h1.cell
  go_enter_defers Try.func88, Try.ntmps88
  go_wp2
  refine wp_loop (fun a W => ∃ (k : Nat) (u3 u7 u8 u9 u10 u11 u12 : Value), k ≤ l.length ∧ a = { tmps := #[.pointer (some ⟨b1, 0, none⟩), .pointer (some ⟨b4, 0, none⟩), undef, u3, .slice A l.length c, .int .i64 (l.length : Int), .int .i64 (k : Int), u7, u8, u9, u10, u11, u12], defers := dls gp go (l.take k).reverse } ∧ MInv w0 base gp go (false, []) W ∧ Below w.heap.size w W) (fun a _ => l.length - (intOf (a.tmps.getD 6 undef)).toNat) ?_ ?_
  · exact ⟨0, _, _, _, _, _, _, _, by omega, rfl, hM, Below.refl _ _⟩
  · rintro a W ⟨k, u3, u7, u8, u9, u10, u11, u12, hk, rfl, hM', hB⟩
    have H := Lib.hid (And.intro hM' hB)
    clear hM' hB
    by_cases hlt : k < l.length
    · obtain ⟨ad, e, X⟩ := at44 (keepC HR.out (Nat.le_refl _) H.out.2) k hlt
      subst e
      obtain ⟨kv, hkv⟩ : ∃ kv, l.getD k PC.z44 = kv := ⟨_, rfl⟩
      rw [hkv] at X
      have HK := Lib.hid hkv
      clear hkv
      obtain ⟨x0, x1, x2, x3⟩ := X
      obtain ⟨W1, hW1⟩ : ∃ W1, W.alloc (.cells #[.string kv.f0.f0, .int .u64 kv.f0.f1, .int .i64 kv.f0.f2, .string kv.f1] 44) = W1 := ⟨_, rfl⟩
      have q0 : W1.cell? ⟨W.heap.size, 0, none⟩ = some (.string kv.f0.f0) := by rw [← hW1]; exact cell_top rfl rfl
      have q1 : W1.cell? ⟨W.heap.size, 1, none⟩ = some (.int .u64 kv.f0.f1) := by rw [← hW1]; exact cell_top rfl rfl
      have q2 : W1.cell? ⟨W.heap.size, 2, none⟩ = some (.int .i64 kv.f0.f2) := by rw [← hW1]; exact cell_top rfl rfl
      have q3 : W1.cell? ⟨W.heap.size, 3, none⟩ = some (.string kv.f1) := by rw [← hW1]; exact cell_top rfl rfl
      have q4 : W1.cell? ⟨b4, 0, none⟩ = some (.func (.func 87) #[] #[.pointer (some ⟨gp, 0, none⟩), .pointer (some ⟨go, 0, none⟩)]) := by
        rw [← hW1]; exact cell_up ((H.out.2.cell (World.block_lt_of_cell? _ _ h4.cell)).trans h4.cell)
      have p0 : (k < l.length) = True := eq_true hlt
      have hw1 : IntKind.i64.wrap ((k : Int) + 1) = (k : Int) + 1 := by rw [IntWalk.i64_in _ (by omega)]
      go_wp2
      refine ⟨⟨k + 1, .pointer (some ⟨W.heap.size, 0, none⟩), .bool true, .pointer (some (ad.add (k * 4))), kv44 kv, .func (.func 87) #[] #[.pointer (some ⟨gp, 0, none⟩), .pointer (some ⟨go, 0, none⟩)], kv44 kv, .int .i64 ((k : Int) + 1), by omega, ?_, ?_, ?_⟩, by simp [intOf]; omega⟩
      · have ht : l.take (k + 1) = l.take k ++ [kv] := by
          rw [List.take_add_one, List.getElem?_eq_getElem hlt, ← HK.out]
          simp [List.getD_eq_getElem?_getD, List.getElem?_eq_getElem hlt]
        rw [ht, List.reverse_append]
        rfl
      · rw [← hW1]; exact H.out.1.alloc _
      · rw [← hW1]; exact H.out.2.alloc H.out.2.size _
    · have hn : decide ((k : Int) < (l.length : Int)) = false := decide_eq_false (by omega)
      go_wp2
      rw [List.take_of_length_le (by omega)]
      exact leaves_all w0 base gp go hne hgp hgo _ _ l.reverse (false, []) W H.out.1 (by simpa using hbig) (fun W' h => ⟨rfl, h⟩)

end Go.Proofs.Ytehoojmalhloeaa.CM

/-! A row of entries is turned round (slices.Reverse): what it leaves. Its condition is that the row is the caller's own. -/
namespace Go.Proofs.Ytehoojmalhloeaa.CM
open Go.RowKit Go.Proofs.YtehoojmalhloeaaW.PrintWords
set_option linter.unusedVariables false
set_option linter.unusedSimpArgs false
set_option maxRecDepth 100000

/-- Two entries change places. -/
def swp (ys : List PC.S44) (i j : Nat) : List PC.S44 := (ys.set i (ys.getD j PC.z44)).set j (ys.getD i PC.z44)
/-- How far the row has been turned. -/
def Turned (xs ys : List PC.S44) (i : Nat) : Prop := ys.length = xs.length ∧ ∀ m, m < xs.length → ys[m]? = if m < i ∨ xs.length ≤ m + i then xs[xs.length - 1 - m]? else xs[m]?
theorem Turned.step {xs ys : List PC.S44} {i : Nat} (h : Turned xs ys i) (hi : i + i + 1 < xs.length) : Turned xs (swp ys i (xs.length - 1 - i)) (i + 1) := by
  obtain ⟨hl, h⟩ := h
  refine ⟨by simp [swp, hl], fun m hm => ?_⟩
  have hgi := h i (by omega)
  have hgj := h (xs.length - 1 - i) (by omega)
  rw [if_neg (by omega)] at hgi hgj
  have ei : ys.getD i PC.z44 = xs.getD i PC.z44 := by simp [List.getD_eq_getElem?_getD, hgi]
  have ej : ys.getD (xs.length - 1 - i) PC.z44 = xs.getD (xs.length - 1 - i) PC.z44 := by simp [List.getD_eq_getElem?_getD, hgj]
  unfold swp
  rw [ei, ej]
  by_cases c1 : m = xs.length - 1 - i
  · subst c1
    rw [List.getElem?_set_self (by simp [hl]; omega), if_pos (by omega)]
    rw [show xs.length - 1 - (xs.length - 1 - i) = i by omega]
    simp [List.getD_eq_getElem?_getD, List.getElem?_eq_getElem (show i < xs.length by omega)]
  · rw [List.getElem?_set_ne (by omega)]
    by_cases c2 : m = i
    · subst c2
      rw [List.getElem?_set_self (by omega), if_pos (by omega)]
      simp [List.getD_eq_getElem?_getD, List.getElem?_eq_getElem (show xs.length - 1 - m < xs.length by omega)]
    · rw [List.getElem?_set_ne (by omega), h m hm]
      by_cases c3 : m < i ∨ xs.length ≤ m + i
      · rw [if_pos c3, if_pos (by omega)]
      · rw [if_neg c3, if_neg (by omega)]
theorem Turned.done {xs ys : List PC.S44} {i : Nat} (h : Turned xs ys i) (hi : xs.length ≤ i + i + 1) : ys = xs.reverse := by
  obtain ⟨hl, h⟩ := h
  apply List.ext_getElem?
  intro m
  by_cases hm : m < xs.length
  · rw [h m hm, List.getElem?_reverse hm]
    split
    · rfl
    · rw [show xs.length - 1 - m = m by omega]
  · rw [List.getElem?_eq_none (by omega), List.getElem?_eq_none (by simp; omega)]

/-- Facts on two places that are apart. -/
theorem apart4 {p q : Nat} (h : p + 4 ≤ q) : (p = q) = False ∧ (p + 1 = q) = False ∧ (p + 2 = q) = False ∧ (p + 3 = q) = False ∧ (p = q + 1) = False ∧ (p = q + 2) = False ∧ (p = q + 3) = False ∧ (q = p) = False ∧ (q + 1 = p) = False ∧ (q + 2 = p) = False ∧ (q + 3 = p) = False ∧ (q = p + 1) = False ∧ (q = p + 2) = False ∧ (q = p + 3) = False := by
  refine ⟨?_, ?_, ?_, ?_, ?_, ?_, ?_, ?_, ?_, ?_, ?_, ?_, ?_, ?_⟩ <;> exact eq_false (by omega)

/-- An entry of one's own row is written. -/
theorem put44 {base g n cap : Nat} {W : World} {xs : List PC.S44} (h : Kd.R PC.k44 44 W base (fun _ => True) (.slice (some ⟨g, 0, none⟩) n cap) xs) (i : Nat) (hi : i < n) (x : PC.S44) :
    Kd.R PC.k44 44 (W.setCells g (i * 4) [.string x.f0.f0, .int .u64 x.f0.f1, .int .i64 x.f0.f2, .string x.f1]) base (fun _ => True) (.slice (some ⟨g, 0, none⟩) n cap) (xs.set i x) ∧
      W.grownBy (W.setCells g (i * 4) [.string x.f0.f0, .int .u64 x.f0.f1, .int .i64 x.f0.f2, .string x.f1]) (some g) := by
  obtain ⟨c, hcl, _, hcc, _⟩ := Kd.R_elem h PC.z44 (i : Int) (by omega) (by omega)
  have hsz : PC.k44.sz = 4 := rfl
  have := Kd.R_seg h (i : Int) (by omega) (by omega) (c := c) (seg := [.string x.f0.f0, .int .u64 x.f0.f1, .int .i64 x.f0.f2, .string x.f1]) (j := 0) (okp := fun _ => False) (x' := x) hcl hcc (by rw [hsz]; simp) (by
    have e1 : c.drop (0 + 4) = [] := List.drop_eq_nil_of_le (by rw [hcl, hsz]; omega)
    have e2 : c.take 0 ++ [Value.string x.f0.f0, .int .u64 x.f0.f1, .int .i64 x.f0.f2, .string x.f1] ++ c.drop (0 + 4) = [.string x.f0.f0, .int .u64 x.f0.f1, .int .i64 x.f0.f2, .string x.f1] := by rw [e1]; rfl
    show PC.k44.M W base (fun _ => False) x (c.take 0 ++ [Value.string x.f0.f0, .int .u64 x.f0.f1, .int .i64 x.f0.f2, .string x.f1] ++ c.drop (0 + 4))
    rw [e2]
    exact PC.k44_mkM W base _ x) (fun _ h => h.elim)
  rw [hsz] at this
  simpa using this

set_option maxHeartbeats 8000000 in
theorem reverse_w (w0 : World) (base : Nat) (v : Value) (xs : List PC.S44) (w : World) (hR : Kd.R PC.k44 44 w base (fun _ => True) v xs) (hB : Below base w0 w) :
    Calls Try.prog 89 #[v] w fun e w' => e = .returned (.tuple #[]) ∧ Kd.R PC.k44 44 w' base (fun _ => True) v xs.reverse ∧ Below base w0 w' ∧ (∀ b, some b ≠ v.ownBlock → w'.heap[b]? = w.heap[b]?) := by
  obtain ⟨Av, cv, hv, hlv, hread⟩ := Kd.R_reads hR
  have hlen := hread.2.1
  subst hv
  have H0 := Lib.hid (And.intro hR hB)
  clear hR hB hread
  go_enter Try.func89, Try.ntmps89
  go_wp2
  go_loopw [2, 3] (fun a b wr => ∃ (i : Nat) (jz : Int) (ys : List PC.S44), (i : Int) ≤ xs.length ∧ a = .int .i64 (i : Int) ∧ b = .int .i64 jz ∧ jz = (xs.length : Int) - 1 - i ∧ Hid (Turned xs ys i ∧ Kd.R PC.k44 44 wr base (fun _ => True) (.slice Av xs.length cv) ys ∧ Below base w0 wr ∧ ∀ b, some b ≠ (Value.slice Av xs.length cv).ownBlock → wr.heap[b]? = w.heap[b]?)) (fun a _ _ => xs.length - (intOf a).toNat)
  case atStart =>
    exact ⟨0, _, xs, by omega, rfl, rfl, by simp, Lib.hid ⟨⟨rfl, fun m hm => by rw [if_neg (by omega)]⟩, H0.out.1, H0.out.2, fun _ _ => rfl⟩⟩
  case round =>
    obtain ⟨i, jz, ys, hi, rfl, rfl, hjz, H⟩ := hrel
    by_cases hlt : (i : Int) < jz
    · obtain ⟨j, rfl⟩ : ∃ j : Nat, jz = (j : Int) := ⟨jz.toNat, by omega⟩
      obtain ⟨hT, hR, hB, hK⟩ := H.out
      have hyl := hT.1
      obtain ⟨g, hg⟩ : ∃ g, Av = some ⟨g, 0, none⟩ := by
        obtain ⟨inner, ho⟩ := Kd.R_own hR
        rcases ho.2 with ⟨h, _⟩ | ⟨g, cap, cur, h, _⟩
        · injection h with _ h _; omega
        · injection h with h _ _; exact ⟨g, h⟩
      subst hg
      obtain ⟨ca, hcal, hMa, hca, hfz⟩ := Kd.R_elem hR PC.z44 (i : Int) (by omega) (by omega)
      obtain ⟨cb, hcbl, hMb, hcb, _⟩ := Kd.R_elem hR PC.z44 (j : Int) (by omega) (by omega)
      have hfr : ∀ o, wr.frozen? ⟨g, o, none⟩ = false := by
        obtain ⟨inner, ho⟩ := Kd.R_own hR
        obtain ⟨cells, hc⟩ := own_typed ho g (by simp [Value.ownBlock])
        exact fun o => blk_frozen hc o
      simp only [Int.toNat_natCast] at hMa hca hMb hcb
      obtain ⟨a, ha⟩ : ∃ a, ys.getD i PC.z44 = a := ⟨_, rfl⟩
      obtain ⟨b, hb⟩ : ∃ b, ys.getD j PC.z44 = b := ⟨_, rfl⟩
      rw [ha] at hMa
      rw [hb] at hMb
      obtain rfl := PC.k44_openM hMa
      obtain rfl := PC.k44_openM hMb
      have hsz : PC.k44.sz = 4 := rfl
      rw [hsz] at hca hcb
      have a0 : wr.cell? ⟨g, i * 4, none⟩ = some (.string a.f0.f0) := hca 0 (.string a.f0.f0) rfl
      have a1 : wr.cell? ⟨g, i * 4 + 1, none⟩ = some (.int .u64 a.f0.f1) := hca 1 (.int .u64 a.f0.f1) rfl
      have a2 : wr.cell? ⟨g, i * 4 + 2, none⟩ = some (.int .i64 a.f0.f2) := hca 2 (.int .i64 a.f0.f2) rfl
      have a3 : wr.cell? ⟨g, i * 4 + 3, none⟩ = some (.string a.f1) := hca 3 (.string a.f1) rfl
      have b0 : wr.cell? ⟨g, j * 4, none⟩ = some (.string b.f0.f0) := hcb 0 (.string b.f0.f0) rfl
      have b1 : wr.cell? ⟨g, j * 4 + 1, none⟩ = some (.int .u64 b.f0.f1) := hcb 1 (.int .u64 b.f0.f1) rfl
      have b2 : wr.cell? ⟨g, j * 4 + 2, none⟩ = some (.int .i64 b.f0.f2) := hcb 2 (.int .i64 b.f0.f2) rfl
      have b3 : wr.cell? ⟨g, j * 4 + 3, none⟩ = some (.string b.f1) := hcb 3 (.string b.f1) rfl
      have H2 := Lib.hid (And.intro H.out (And.intro ha (And.intro hb (And.intro hca (And.intro hcb hjz)))))
      obtain ⟨n1, n2, n3, n4, n5, n6, n7, n8, n9, n10, n11, n12, n13, n14⟩ := apart4 (p := i * 4) (q := j * 4) (by omega)
      have p1 : (i < xs.length) = True := eq_true (by omega)
      have p2 : (j < xs.length) = True := eq_true (by omega)
      have p3 : decide ((i : Int) < (j : Int)) = true := decide_eq_true hlt
      have p4 : decide (i < j) = true := decide_eq_true (by omega)
      have p5 : (i < j) = True := eq_true (by omega)
      have hw1 : IntKind.i64.wrap ((i : Int) + 1) = (i : Int) + 1 := by rw [IntWalk.i64_in _ (by omega)]
      have hw2 : IntKind.i64.wrap ((j : Int) - 1) = (j : Int) - 1 := by rw [IntWalk.i64_in _ (by omega)]
      clear H hT hR hB hK hMa hMb hca hcb hfz ha hb hcal hcbl hsz hyl hlt hjz
      go_wp2_with fail
      go_region
      go_wp2_with fail
      go_roundw
      case rel =>
        have hij : i < j := of_eq_true p5
        obtain ⟨⟨hT, hR, hB, hK⟩, ha, hb, _, _, hjz⟩ := H2.out
        obtain ⟨r1, g1⟩ := put44 hR i (by omega) b
        obtain ⟨r2, g2⟩ := put44 r1 j (by omega) a
        have hbg : base ≤ g := own_base (Kd.R_own hR).choose_spec g (by simp [Value.ownBlock])
        have hsw : (ys.set i b).set j a = swp ys i (xs.length - 1 - i) := by
          rw [show xs.length - 1 - i = j by omega]
          unfold swp
          rw [ha, hb]
        have e1 : Below base w0 (wr.setCells g (i * 4) [.string b.f0.f0, .int .u64 b.f0.f1, .int .i64 b.f0.f2, .string b.f1]) := hB.grown g1 (Nat.le_trans (by omega) (Nat.le_of_lt (own_lt (Kd.R_own hR).choose_spec g (by simp [Value.ownBlock])))) (fun k e => by cases e; exact hbg)
        have e2 : Below base w0 ((wr.setCells g (i * 4) [.string b.f0.f0, .int .u64 b.f0.f1, .int .i64 b.f0.f2, .string b.f1]).setCells g (j * 4) [.string a.f0.f0, .int .u64 a.f0.f1, .int .i64 a.f0.f2, .string a.f1]) := e1.grown g2 (Nat.le_trans (by omega) (Nat.le_of_lt (own_lt (Kd.R_own r1).choose_spec g (by simp [Value.ownBlock])))) (fun k e => by cases e; exact hbg)
        have hk2 : ∀ q, some q ≠ (Value.slice (some ⟨g, 0, none⟩) xs.length cv).ownBlock → ((wr.setCells g (i * 4) [.string b.f0.f0, .int .u64 b.f0.f1, .int .i64 b.f0.f2, .string b.f1]).setCells g (j * 4) [.string a.f0.f0, .int .u64 a.f0.f1, .int .i64 a.f0.f2, .string a.f1]).heap[q]? = w.heap[q]? := fun q hq => by
          have hq2 : q ≠ g := fun e => hq (by rw [e]; simp [Value.ownBlock])
          exact (setCells_far _ _ q hq2).trans ((setCells_far _ _ q hq2).trans (hK q hq))
        rw [hsw] at r2
        simp only [World.setCells, Nat.add_assoc, Nat.reduceAdd] at r2 e2 hk2
        have Q1 := Lib.hid (Kd.R_drew r2)
        have Q2 := Lib.hid e2.drew
        have Q3 := Lib.hid hk2
        refine ⟨i + 1, (j : Int) - 1, swp ys i (xs.length - 1 - i), ?_, ?_, ?_, ?_, ?_⟩
        · omega
        · simp [hw1]
        · rfl
        · omega
        · refine Lib.hid ⟨hT.step (by omega), ?_, ?_, ?_⟩
          · exact Q1.out
          · exact Q2.out
          · intro q hq
            rw [World.drew_is_drewN, World.heap_drewN]
            exact Q3.out q hq
      case measure =>
        have h1 : i < xs.length := of_eq_true p1
        simp [intOf, hw1]
        omega
    · have hn : decide ((i : Int) < jz) = false := decide_eq_false hlt
      go_wp2_with fail
      go_end0
      rw [← H.out.1.done (by omega)]
      exact ⟨rfl, H.out.2⟩

end Go.Proofs.Ytehoojmalhloeaa.CM
