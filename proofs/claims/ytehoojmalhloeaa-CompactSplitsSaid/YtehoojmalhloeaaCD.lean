/- A loop over an iterator that changes memory of its own between two rounds: a law for such a loop. Its conditions are the iterator's contract and what the caller's own facts abide. -/
import Derived.RangeFuncNested
import Derived.RangeFuncBound
import Derived.RangeFuncCalls
import Derived.RangeFuncLeaves
namespace Go.Proofs.Ytehoojmalhloeaa.CM
open Go.RowKit
set_option linter.unusedVariables false
set_option linter.unusedSimpArgs false
variable {F : Fence} {n : Nat} {P : Program}

/-- What is said of each state abides every step of a kind. -/
def Stays {β : Type} (Rel : World → World → Prop) (J : β → World → Prop) : Prop := ∀ s A B, J s A → Rel A B → J s B

/-- The contract of an iterator whose own steps are of a kind Rel: for every loop body that keeps Kp from round to round. -/
def Iter {α : Type} (F : Fence) (n : Nat) (P : Program) (g : Nat) (lb : Array Value) (encs : α → Array Value) (Rel Kp : World → World → Prop) (S Sp : List α → Prop) (w : World) : Prop :=
  ∀ (l : Nat) (J Jx : List α → World → Prop) (W : World), Below w.heap.size w W → Stays Rel J → Stays Rel Jx →
    (∀ pre x W1, J pre W1 → Sp (pre ++ [x]) → YieldAt F (n - 1) P l (encs x) W1 fun e W' =>
      (e = .returned (.bool true) ∧ J (pre ++ [x]) W' ∧ Kp W1 W') ∨ (e = .returned (.bool false) ∧ Jx (pre ++ [x]) W')) →
    J [] W →
    CallsIn F n P g (#[.func (.yield l) #[] #[]] ++ lb) W fun e W' => (∃ v, e = .returned v) ∧ ((∃ xs, S xs ∧ J xs W') ∨ (∃ pre, Sp pre ∧ Jx pre W'))

/-- The record of a loop. -/
def recOf (fn : FuncId) (a : Act) (ps : Array Tmp) (assign body : Code) (D : Nat) (st : LoopState) (pe : Option Code) : Loop :=
  { state := st, pending := pe, fn := fn, tmps := a.tmps, params := ps, assign := assign, body := body, defers := D }

/-- Where a loop's two blocks lie. -/
def Books (W : World) (D : Nat) (r : Loop) : Prop := W.heap[D + 1]? = some (.loop r) ∧ W.heap[D]? = some (.deferred (some []))
theorem Books.keeps {W W' : World} {D : Nat} {r : Loop} (h : Books W D r) (hk : KeepsFrom D W W') : Books W' D r :=
  ⟨hk.same _ _ (by omega) h.1 rfl, hk.same _ _ (Nat.le_refl _) h.2 rfl⟩
theorem Books.put {W : World} {D : Nat} {r : Loop} (r' : Loop) (h : Books W D r) : Books (W.putObj (D + 1) (.loop r')) D r' :=
  ⟨World.putObj_heap_same (Array.getElem?_eq_some_iff.1 h.1).1, (World.putObj_heap_other (by omega)).trans h.2⟩

theorem range_rel {α : Type} {g : Operand} {ps : Array Tmp} {assign body : Code} {Q : Exit → Act → World → Prop} {a : Act} {w : World}
    (hro : F.round = none) (h1 : 1 ≤ n) {gf : Nat} {lb : Array Value} (hg : a.eval g = .func (.func gf) #[] lb) (hFg : F.fn gf) (eg : ∀ args w, (callFunc gf args).run P w = .ok (.enter gf args) w)
    {encs : α → Array Value} {Rel Kp : World → World → Prop} {S Sp : List α → Prop} (hseq : Iter F (n - 1) P gf lb encs Rel Kp S Sp w) (hps : ∀ x, (encs x).size = ps.size)
    (hRel : ∀ A B, Rel A B → KeepsFrom w.heap.size A B)
    (hKt : ∀ {A B C : World}, Kp A B → Kp B C → Kp A C) (hKb : ∀ (W : World) (l : Nat) (o o' : Obj), w.heap.size ≤ l → W.heap[l]? = some o → o.isCells = false → o.isWalk = false → Kp W (W.putObj l o'))
    (I : List α → World → Prop) (Ix : Code → List α → World → Prop) (hI : OwnFrom w.heap.size I) (hIx : ∀ c, OwnFrom w.heap.size (Ix c)) (hIr : Stays Rel I) (hIxr : ∀ c, Stays Rel (Ix c)) (h0 : I [] w) (a₁ : α → Act)
    (hassign : ∀ (l : Nat) (x : α) (W : World) (K : Act → World → Prop), K (a₁ x) W →
      assign.wpIn (F.inRound l) (n - 1 - 1) P (Exit.then K (fun _ _ _ => False)) { tmps := (ps.zip (encs x)).foldl (fun t (p, v) => t.setIfInBounds p v) a.tmps, defers := [] } W)
    (hbody : ∀ (l : Nat) (pre : List α) (x : α) (W : World), I pre W → Sp (pre ++ [x]) → body.wpIn (F.inRound l) (n - 1 - 1) P (ownPostG w.heap.size Kp I Ix (pre ++ [x]) W) (a₁ x) W)
    (hdone : ∀ (D : Nat) (xs : List α) (W : World), w.heap.size ≤ D → S xs → I xs W → W.heap[D]? = some (.deferred (some [])) → Q .normal { a with defers := { target := .collected D, args := #[] } :: a.defers } W)
    (hstop : ∀ (D : Nat) (c : Code) (pre : List α) (W : World), w.heap.size ≤ D → Sp pre → Ix c pre W → W.heap[D]? = some (.deferred (some [])) → c.wpIn F n P Q { a with defers := { target := .collected D, args := #[] } :: a.defers } W) :
    (Code.rangeFunc g ps assign body).wpIn F n P Q a w := by
  refine wpIn_rangeFunc fun fn hfn => ?_
  rw [hro]
  obtain ⟨D, hD⟩ : ∃ D, D = w.heap.size := ⟨_, rfl⟩
  obtain ⟨R, hR⟩ : ∃ R, R = recOf fn a ps assign body D := ⟨_, rfl⟩
  obtain ⟨W1, hW1⟩ : ∃ W1, (w.alloc (.deferred (some []))).alloc (.loop (R .ready none)) = W1 := ⟨_, rfl⟩
  have hbk : Books W1 D (R .ready none) := by
    subst hD
    rw [← hW1]
    refine ⟨?_, (Below.heap_alloc _ _ _ (by simp)).trans (World.alloc_heap_new w _)⟩
    have := World.alloc_heap_new (w.alloc (.deferred (some []))) (.loop (R .ready none))
    rwa [World.size_alloc] at this
  have hI1 : I [] W1 := by rw [← hW1]; exact hI.alloc _ (hI.alloc _ h0)
  have hb1 : Below w.heap.size w W1 := by
    rw [← hW1]; exact ((Below.refl _ w).alloc (Nat.le_refl _) _).alloc (by simp) _
  refine ⟨D + 1, [{ target := .collected D, args := #[] }], W1, { target := .fn (.func gf) lb, args := #[.func (.yield (D + 1)) #[] #[]] }, W1, gf,
    #[.func (.yield (D + 1)) #[] #[]] ++ lb, W1, ?_, ?_, ?_, ?_, fun _ => h1, ?_⟩
  · rw [← hW1, hR, hD]; exact run_enterLoop_outer _ _ _ _ _
  · simp only [resolve, hg]
    simp [go_sem]
  · intro f' hf'; simp [Target.leads] at hf'; subst hf'; exact hFg
  · simp [invoke, go_sem, eg]
  refine (hseq (D + 1) (fun pre W => I pre W ∧ Books W D (R .ready none)) (fun pre W => ∃ c, Ix c pre W ∧ Books W D (R .done (some c))) W1 hb1
    (fun s A B h hr => ⟨hIr s A B h.1 hr, h.2.keeps (hD ▸ hRel A B hr)⟩)
    (fun s A B ⟨c, hc, hk⟩ hr => ⟨c, hIxr c s A B hc hr, hk.keeps (hD ▸ hRel A B hr)⟩) ?_ ⟨hI1, hbk⟩).mono ?_
  · -- one round
    rintro pre x W ⟨hi, hk⟩ hsp
    have hle : w.heap.size ≤ D + 1 := by omega
    have hy := run_yield (P := P) (args := encs x) hk.1 (by rw [hR]; exact hps x)
    rw [hR] at hy
    refine ⟨fn, _, assign, body, hy, roundIn_of_wpIn hfn (hassign _ x W _ ⟨_, run_beginRound hk.1 (by rw [hR]; rfl), ?_⟩)⟩
    obtain ⟨Wb, hWb⟩ : ∃ Wb, W.putObj (D + 1) (.loop { R .ready none with state := .busy }) = Wb := ⟨_, rfl⟩
    rw [hWb]
    have hkb : Books Wb D { R .ready none with state := .busy } := hWb ▸ hk.put _
    have hib : I pre Wb := hWb ▸ hI.putObj _ hi hle hk.1 rfl
    have hwb : Kp W Wb := hWb ▸ hKb _ _ _ _ hle hk.1 rfl rfl
    refine wpIn_mono (hbody _ pre x Wb hib hsp) ?_
    have fin : ∀ (jump : Option Code) (W3 : World), KeepsFrom w.heap.size Wb W3 →
        (Instr.endRound (D + 1) jump).run P W3 = .ok (.bool jump.isNone) (W3.putObj (D + 1) (.loop (R (if jump.isNone then .ready else .done) jump))) ∧ Books W3 D { R .ready none with state := .busy } := fun jump W3 hk3 => by
      have h3 := hkb.keeps (hD ▸ hk3)
      have := run_endRound (P := P) jump h3.1
      rw [hR] at this ⊢
      exact ⟨this, by rw [hR] at h3; exact h3⟩
    rintro e a3 W3 hp
    cases e with
    | normal =>
      obtain ⟨hk3, hkp3, hi3⟩ := hp
      obtain ⟨hr, h3⟩ := fin none W3 hk3
      exact ⟨_, _, hr, .inl ⟨rfl, ⟨hI.putObj _ hi3 hle h3.1 rfl, h3.put _⟩, hKt (hKt hwb hkp3) (hKb _ _ _ _ hle h3.1 rfl rfl)⟩⟩
    | ret =>
      obtain ⟨hk3, hi3⟩ := hp
      obtain ⟨hr, h3⟩ := fin (some .ret) W3 hk3
      exact ⟨_, _, hr, .inr ⟨rfl, .ret, (hIx _).putObj _ hi3 hle h3.1 rfl, h3.put _⟩⟩
    | exit id =>
      obtain ⟨hk3, hi3⟩ := hp
      obtain ⟨hr, h3⟩ := fin (some (.exit id)) W3 hk3
      exact ⟨_, _, hr, .inr ⟨rfl, .exit id, (hIx _).putObj _ hi3 hle h3.1 rfl, h3.put _⟩⟩
    | goto t =>
      obtain ⟨hk3, hi3⟩ := hp
      obtain ⟨hr, h3⟩ := fin (some (.goto t)) W3 hk3
      exact ⟨_, _, hr, .inr ⟨rfl, .goto t, (hIx _).putObj _ hi3 hle h3.1 rfl, h3.put _⟩⟩
    | panic ch => exact hp.elim
    | outgrown => exact hp.elim
  · -- behind the iterator
    have hle : w.heap.size ≤ D + 1 := by omega
    rintro e W2 ⟨⟨v, rfl⟩, (⟨xs, hS, hi, hk⟩ | ⟨pre, hSp, c, hi, hk⟩)⟩
    · refine ⟨none, W2.putObj (D + 1) (.loop { R .ready none with state := .exhausted }), by have := run_endLoop (P := P) hk.1 (by rw [hR]; simp [recOf]); rw [hR] at this ⊢; exact this, hdone D xs _ (Nat.le_of_eq hD.symm) hS (hI.putObj _ hi hle hk.1 rfl) (hk.put _).2⟩
    · refine ⟨some c, W2.putObj (D + 1) (.loop { R .done (some c) with state := .exhausted }), by have := run_endLoop (P := P) hk.1 (by rw [hR]; simp [recOf]); rw [hR] at this ⊢; exact this, hstop D c pre _ (Nat.le_of_eq hD.symm) hSp ((hIx c).putObj _ hi hle hk.1 rfl) (hk.put _).2⟩

end Go.Proofs.Ytehoojmalhloeaa.CM
