/- A region that draws its order and only reads, inside a round of a loop over an iterator: one walk serves every order. Its condition: no operation is a defer statement. -/
import Derived.Sort.QuietIn
namespace Go.Proofs.Ytehoojmalhloeaa.CM
open Go.RowKit
set_option linter.unusedVariables false
set_option linter.unusedSimpArgs false
variable {F : Fence} {n : Nat} {P : Program}
def ndB (o : Oper) : Bool := match o.op with
  | .defer _ => false
  | _ => true
theorem ndB_of {o : Oper} (h : ndB o = true) : ∀ c, o.op ≠ .defer c := fun c e => by
  unfold ndB at h
  rw [e] at h
  cases h
theorem operIn_round {o : Oper} {a : Act} {w : World} {K K' : Act → World → Prop} {Q : Exit → Act → World → Prop} (l : Nat) (hro : F.round = none) (hn : ndB o = true) (hK : ∀ a w, K a w → K' a w) (h : o.wpIn F n P a w K Q) : o.wpIn (F.inRound l) n P a w K' Q := by
  have h2 : o.wpIn F n P a w K' Q := Oper.wpIn_mono hK h
  refine ⟨h2.1, ?_⟩
  have h3 := h2.2
  rw [Oper.semAt_eq F.round _ _ (ndB_of hn)] at h3
  rw [Oper.semAt_eq (F.inRound l).round _ _ (ndB_of hn)]
  exact h3
theorem anyIn_round {md : Region.Mode} {ops : Array Oper} {Q : Exit → Act → World → Prop} (l : Nat) (hro : F.round = none) (hn : ops.toList.all ndB = true) : ∀ (fuel : Nat) (listed : Array Bool) (a : Act) (w : World), wpAnyIn F n P md ops Q fuel listed a w → wpAnyIn (F.inRound l) n P md ops Q fuel listed a w
  | 0, _, _, _, h => h
  | fuel + 1, listed, a, w, ⟨h1, h2⟩ => by
    refine ⟨h1, fun i hi => ?_⟩
    have h := h2 i hi
    have ih := fun a w => anyIn_round (md := md) (ops := ops) (Q := Q) l hro hn fuel (listed.setIfInBounds i true) a w
    unfold wpOpIn at h ⊢
    cases ho : ops[i]? with
    | none => rw [ho] at h; exact ih _ _ h
    | some o =>
      rw [ho] at h
      have hno : ndB o = true := List.all_eq_true.1 hn o (by
        rw [← Array.getElem?_toList] at ho
        exact List.mem_of_getElem? ho)
      simp only at h ⊢
      by_cases hw : Region.wanted o (yielded ops a.tmps) = true
      · rw [if_pos hw] at h ⊢
        exact operIn_round l hro hno ih h
      · rw [if_neg hw] at h ⊢
        exact ⟨h.1, ih _ _ h.2⟩
theorem region_quiet_round {id : Nat} {Q : Exit → Act → World → Prop} {a : Act} {w : World} {ops : List Oper} {l : Nat} (hro : F.round = none) (hn : ops.all ndB = true) (hm : P.follows .mixedOrders = true) (hB : Region.lexB .any ops.toArray = true)
    (h : wpQuietIn F n P ops.toArray (fun w' => ∃ n, w' = w.drewN n) (fun a' => ∀ w', (∃ n, w' = w.drewN n) → Q .normal a' w') ops a) : (Code.region id ops.toArray true).wpIn (F.inRound l) n P Q a w := by
  simp only [Region.lexB, Bool.and_eq_true] at hB
  refine wpIn_region_any hm (anyIn_round l hro (by simpa using hn) _ _ _ _ (wpAnyIn_of_quiet (C := fun w' => ∃ n, w' = w.drewN n) (Q := fun a' => ∀ w', (∃ n, w' = w.drewN n) → Q .normal a' w') hro (fun _ w' hw' h => h w' hw') _ _ _ _ ⟨1, rfl⟩ ?_))
  have := wpAnyQIn_lex (F := F) (n := n) (P := P) (C := fun w' => ∃ n, w' = w.drewN n) (md := .any) (ops := ops.toArray) hB.1 ops 0 (Array.replicate ops.toArray.size false) a (by simp) (by simpa using hB.2) h
  simpa using this
end Go.Proofs.Ytehoojmalhloeaa.CM
