/- A loop over an iterator that goes through memory of its own (and of others), and whose variable is laid anew in every round: a law for such a loop. Its conditions are the iterator's contract and what the caller's own facts abide. -/
import Derived.Test.YtehoojmalhloeaaCX1
namespace Go.Proofs.Ytehoojmalhloeaa.CM
open Go.RowKit
set_option linter.unusedVariables false
set_option linter.unusedSimpArgs false
variable {F : Fence} {n : Nat} {P : Program}

/-- The loop's two blocks stay. -/
def KD (D : Nat) (A B : World) : Prop := B.heap[D]? = A.heap[D]? ∧ B.heap[D + 1]? = A.heap[D + 1]?
theorem KD.refl (D : Nat) (A : World) : KD D A A := ⟨rfl, rfl⟩
theorem KD.trans {D : Nat} {A B C : World} (h : KD D A B) (k : KD D B C) : KD D A C := ⟨k.1.trans h.1, k.2.trans h.2⟩
theorem Books.kd {W W' : World} {D : Nat} {r : Loop} (h : Books W D r) (hk : KD D W W') : Books W' D r := ⟨hk.2.trans h.1, hk.1.trans h.2⟩
/-- What a round leaves. -/
def postD {α : Type} (D : Nat) (Kp : World → World → Prop) (I : List α → World → Prop) (Ix : Code → List α → World → Prop) (xs : List α) (W : World) : Exit → Act → World → Prop
  | .normal, _, W' => KD D W W' ∧ Kp W W' ∧ I xs W'
  | .ret, _, W' => KD D W W' ∧ Ix .ret xs W'
  | .exit id, _, W' => KD D W W' ∧ Ix (.exit id) xs W'
  | .goto t, _, W' => KD D W W' ∧ Ix (.goto t) xs W'
  | .panic _, _, _ => False
  | .outgrown, _, _ => False

/-- The contract of an iterator whose own steps are of a kind Rel, for a loop whose two blocks lie at D: for every loop body that keeps Kp from round to round. -/
def Iter2 {α : Type} (F : Fence) (n : Nat) (P : Program) (g : Nat) (lb : Array Value) (encs : α → Array Value) (Rel Kp : World → World → Prop) (S Sp : List α → Prop) (w : World) : Prop :=
  ∀ (l : Nat) (J Jx : List α → World → Prop) (W : World), Below w.heap.size w W → w.heap.size + 2 ≤ W.heap.size → Stays Rel J → Stays Rel Jx →
    (∀ pre x W1, J pre W1 → Sp (pre ++ [x]) → YieldAt F (n - 1) P l (encs x) W1 fun e W' =>
      (e = .returned (.bool true) ∧ J (pre ++ [x]) W' ∧ Kp W1 W') ∨ (e = .returned (.bool false) ∧ Jx (pre ++ [x]) W')) →
    J [] W →
    CallsIn F n P g (#[.func (.yield l) #[] #[]] ++ lb) W fun e W' => (∃ v, e = .returned v) ∧ ((∃ xs, S xs ∧ J xs W') ∨ (∃ pre, Sp pre ∧ Jx pre W'))

theorem range_rel2 {α : Type} {g : Operand} {ps : Array Tmp} {assign body : Code} {Q : Exit → Act → World → Prop} {a : Act} {w : World}
    (hro : F.round = none) (h1 : 1 ≤ n) {gf : Nat} {lb : Array Value} (hg : a.eval g = .func (.func gf) #[] lb) (hFg : F.fn gf) (eg : ∀ args w, (callFunc gf args).run P w = .ok (.enter gf args) w)
    {encs : α → Array Value} {Rel Kp : World → World → Prop} {S Sp : List α → Prop} (hseq : Iter2 F (n - 1) P gf lb encs Rel Kp S Sp w) (hps : ∀ x, (encs x).size = ps.size)
    (hRel : ∀ A B, Rel A B → KD w.heap.size A B)
    (hKt : ∀ {A B C : World}, Kp A B → Kp B C → Kp A C) (hKb : ∀ (W : World) (o o' : Obj), W.heap[w.heap.size + 1]? = some o → o.isCells = false → Kp W (W.putObj (w.heap.size + 1) o'))
    (I : List α → World → Prop) (Ix : Code → List α → World → Prop) (Ax : List α → α → Act → World → Prop)
    (hIp : ∀ pre W o o', I pre W → W.heap[w.heap.size + 1]? = some o → o.isCells = false → I pre (W.putObj (w.heap.size + 1) o'))
    (hIxp : ∀ c pre W o o', Ix c pre W → W.heap[w.heap.size + 1]? = some o → o.isCells = false → Ix c pre (W.putObj (w.heap.size + 1) o'))
    (hAp : ∀ pre x a' W o o', Ax pre x a' W → W.heap[w.heap.size + 1]? = some o → o.isCells = false → Ax pre x a' (W.putObj (w.heap.size + 1) o'))
    (hIr : Stays Rel I) (hIxr : ∀ c, Stays Rel (Ix c))
    (h0 : ∀ o, I [] ((w.alloc (.deferred (some []))).alloc o))
    (hassign : ∀ (l : Nat) (pre : List α) (x : α) (W : World) (K : Act → World → Prop), I pre W → Sp (pre ++ [x]) → (∀ a' W', KD w.heap.size W W' → Kp W W' → I pre W' → Ax pre x a' W' → K a' W') →
      assign.wpIn (F.inRound l) (n - 1 - 1) P (Exit.then K (fun _ _ _ => False)) { tmps := (ps.zip (encs x)).foldl (fun t (p, v) => t.setIfInBounds p v) a.tmps, defers := [] } W)
    (hbody : ∀ (l : Nat) (pre : List α) (x : α) (a' : Act) (W : World), I pre W → Ax pre x a' W → Sp (pre ++ [x]) → body.wpIn (F.inRound l) (n - 1 - 1) P (postD w.heap.size Kp I Ix (pre ++ [x]) W) a' W)
    (hdone : ∀ (D : Nat) (xs : List α) (W : World), D = w.heap.size → S xs → I xs W → W.heap[D]? = some (.deferred (some [])) → Q .normal { a with defers := { target := .collected D, args := #[] } :: a.defers } W)
    (hstop : ∀ (D : Nat) (c : Code) (pre : List α) (W : World), D = w.heap.size → Sp pre → Ix c pre W → W.heap[D]? = some (.deferred (some [])) → c.wpIn F n P Q { a with defers := { target := .collected D, args := #[] } :: a.defers } W) :
    (Code.rangeFunc g ps assign body).wpIn F n P Q a w := by
  refine wpIn_rangeFunc fun fn hfn => ?_
  rw [hro]
  obtain ⟨D, hD⟩ : ∃ D, D = w.heap.size := ⟨_, rfl⟩
  obtain ⟨R, hR⟩ : ∃ R, R = recOf fn a ps assign body D := ⟨_, rfl⟩
  obtain ⟨W1, hW1⟩ : ∃ W1, (w.alloc (.deferred (some []))).alloc (.loop (R .ready none)) = W1 := ⟨_, rfl⟩
  have hbk : Books W1 D (R .ready none) := by
    subst hD
    rw [← hW1]
    refine ⟨?_, (Below.heap_alloc _ _ _ (by simp)).trans (World.alloc_heap_new w _)⟩
    have := World.alloc_heap_new (w.alloc (.deferred (some []))) (.loop (R .ready none))
    rwa [World.size_alloc] at this
  have hI1 : I [] W1 := by rw [← hW1]; exact h0 _
  have hb1 : Below w.heap.size w W1 := by
    rw [← hW1]; exact ((Below.refl _ w).alloc (Nat.le_refl _) _).alloc (by simp) _
  have hs1 : w.heap.size + 2 ≤ W1.heap.size := by rw [← hW1]; simp
  refine ⟨D + 1, [{ target := .collected D, args := #[] }], W1, { target := .fn (.func gf) lb, args := #[.func (.yield (D + 1)) #[] #[]] }, W1, gf,
    #[.func (.yield (D + 1)) #[] #[]] ++ lb, W1, ?_, ?_, ?_, ?_, fun _ => h1, ?_⟩
  · rw [← hW1, hR, hD]; exact run_enterLoop_outer _ _ _ _ _
  · simp only [resolve, hg]
    simp [go_sem]
  · intro f' hf'; simp [Target.leads] at hf'; subst hf'; exact hFg
  · simp [invoke, go_sem, eg]
  refine (hseq (D + 1) (fun pre W => I pre W ∧ Books W D (R .ready none)) (fun pre W => ∃ c, Ix c pre W ∧ Books W D (R .done (some c))) W1 hb1 hs1
    (fun s A B h hr => ⟨hIr s A B h.1 hr, h.2.kd (hD ▸ hRel A B hr)⟩)
    (fun s A B ⟨c, hc, hk⟩ hr => ⟨c, hIxr c s A B hc hr, hk.kd (hD ▸ hRel A B hr)⟩) ?_ ⟨hI1, hbk⟩).mono ?_
  · -- one round
    rintro pre x W ⟨hi, hk⟩ hsp
    have hy := run_yield (P := P) (args := encs x) hk.1 (by rw [hR]; exact hps x)
    rw [hR] at hy
    refine ⟨fn, _, assign, body, hy, roundIn_of_wpIn hfn (hassign _ pre x W _ hi hsp (fun a' W' hkd hkp hi' hax => ?_))⟩
    have hk' : Books W' D (R .ready none) := hk.kd (hD ▸ hkd)
    refine ⟨_, run_beginRound hk'.1 (by rw [hR]; rfl), ?_⟩
    obtain ⟨Wb, hWb⟩ : ∃ Wb, W'.putObj (D + 1) (.loop { R .ready none with state := .busy }) = Wb := ⟨_, rfl⟩
    rw [hWb]
    have hkb : Books Wb D { R .ready none with state := .busy } := hWb ▸ hk'.put _
    have hib : I pre Wb := by subst hD; exact hWb ▸ hIp _ _ _ _ hi' hk'.1 rfl
    have hab : Ax pre x a' Wb := by subst hD; exact hWb ▸ hAp _ _ _ _ _ _ hax hk'.1 rfl
    have hwb : Kp W' Wb := by subst hD; exact hWb ▸ hKb _ _ _ hk'.1 rfl
    refine wpIn_mono (hbody _ pre x a' Wb hib hab hsp) ?_
    have fin : ∀ (jump : Option Code) (W3 : World), KD w.heap.size Wb W3 →
        (Instr.endRound (D + 1) jump).run P W3 = .ok (.bool jump.isNone) (W3.putObj (D + 1) (.loop (R (if jump.isNone then .ready else .done) jump))) ∧ Books W3 D { R .ready none with state := .busy } := fun jump W3 hk3 => by
      have h3 := hkb.kd (hD ▸ hk3)
      have := run_endRound (P := P) jump h3.1
      rw [hR] at this ⊢
      exact ⟨this, by rw [hR] at h3; exact h3⟩
    rintro e a3 W3 hp
    cases e with
    | normal =>
      obtain ⟨hk3, hkp3, hi3⟩ := hp
      obtain ⟨hr, h3⟩ := fin none W3 hk3
      exact ⟨_, _, hr, .inl ⟨rfl, ⟨by subst hD; exact hIp _ _ _ _ hi3 h3.1 rfl, h3.put _⟩, hKt (hKt hkp (hKt hwb hkp3)) (by subst hD; exact hKb _ _ _ h3.1 rfl)⟩⟩
    | ret =>
      obtain ⟨hk3, hi3⟩ := hp
      obtain ⟨hr, h3⟩ := fin (some .ret) W3 hk3
      exact ⟨_, _, hr, .inr ⟨rfl, .ret, by subst hD; exact hIxp _ _ _ _ _ hi3 h3.1 rfl, h3.put _⟩⟩
    | exit id =>
      obtain ⟨hk3, hi3⟩ := hp
      obtain ⟨hr, h3⟩ := fin (some (.exit id)) W3 hk3
      exact ⟨_, _, hr, .inr ⟨rfl, .exit id, by subst hD; exact hIxp _ _ _ _ _ hi3 h3.1 rfl, h3.put _⟩⟩
    | goto t =>
      obtain ⟨hk3, hi3⟩ := hp
      obtain ⟨hr, h3⟩ := fin (some (.goto t)) W3 hk3
      exact ⟨_, _, hr, .inr ⟨rfl, .goto t, by subst hD; exact hIxp _ _ _ _ _ hi3 h3.1 rfl, h3.put _⟩⟩
    | panic ch => exact hp.elim
    | outgrown => exact hp.elim
  · -- behind the iterator
    rintro e W2 ⟨⟨v, rfl⟩, (⟨xs, hS, hi, hk⟩ | ⟨pre, hSp, c, hi, hk⟩)⟩
    · refine ⟨none, W2.putObj (D + 1) (.loop { R .ready none with state := .exhausted }), by have := run_endLoop (P := P) hk.1 (by rw [hR]; simp [recOf]); rw [hR] at this ⊢; exact this, hdone D xs _ hD hS (by subst hD; exact hIp _ _ _ _ hi hk.1 rfl) (hk.put _).2⟩
    · refine ⟨some c, W2.putObj (D + 1) (.loop { R .done (some c) with state := .exhausted }), by have := run_endLoop (P := P) hk.1 (by rw [hR]; simp [recOf]); rw [hR] at this ⊢; exact this, hstop D c pre _ hD hSp (by subst hD; exact hIxp _ _ _ _ _ hi hk.1 rfl) (hk.put _).2⟩
end Go.Proofs.Ytehoojmalhloeaa.CM
