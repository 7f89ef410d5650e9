/-
  An arena and three rows of whole numbers in one world; what BumpApart keeps. No condition.
-/
import Derived.Test.YtcdcladefccifaaO
set_option linter.unusedVariables false
set_option linter.unusedSimpArgs false
namespace Go.Proofs
open Go.RowKit BU
namespace BU
/-- two rows lie apart -/
def Dj (v u : Value) : Prop := ∀ k, v.ownBlock = some k → u.ownBlock ≠ some k
theorem Dj.symm {v u : Value} (h : Dj v u) : Dj u v := fun k hk hv => h k hv hk
def Nxt (sz : Nat) (v v' : Value) : Prop := ∀ k, v'.ownBlock = some k → v.ownBlock = some k ∨ sz ≤ k
theorem Dj.next {v v' u : Value} {sz : Nat} (h : Dj v u) (hn : Nxt sz v v') (hu : ∀ k, u.ownBlock = some k → k < sz) : Dj v' u := by
  intro k hk hku
  rcases hn k hk with e | e
  · exact h k e hku
  · have := hu k hku; omega
structure Ap (w0 w : World) (b : Nat) (cv : Value) (S : St) (va vo vi : Value) (As Ns Is : List Int) : Prop where
  ar : Ar w b cv S
  below : Below w0.heap.size w0 w
  hb : w0.heap.size ≤ b
  hc : ∀ k, cv.ownBlock = some k → w0.heap.size ≤ k
  oa : w.ownsRow w0.heap.size 3 1 va As.length (nums As)
  oo : w.ownsRow w0.heap.size 3 1 vo Ns.length (nums Ns)
  oi : w.ownsRow w0.heap.size 3 1 vi Is.length (nums Is)
  ba : va.ownBlock ≠ some b
  bo : vo.ownBlock ≠ some b
  bi : vi.ownBlock ≠ some b
  ca : Dj cv va
  co : Dj cv vo
  ci : Dj cv vi
  ao : Dj va vo
  ai : Dj va vi
  oi' : Dj vo vi
section
variable {w0 w : World} {b : Nat} {cv : Value} {S : St} {va vo vi : Value} {As Ns Is : List Int} (h : Ap w0 w b cv S va vo vi As Ns Is)
include h
theorem Ap.arena {w' : World} {cvn : Value} {S' : St} (ha : Ar w' b cvn S') (hs : Stp b cv cvn w w') : Ap w0 w' b cvn S' va vo vi As Ns Is := by
  have hl := hs.lift h.below h.hb h.hc
  have la := fun k hk => (h.oa.lt k hk).2
  have lo := fun k hk => (h.oo.lt k hk).2
  have li := fun k hk => (h.oi.lt k hk).2
  exact ⟨ha, hl.1, h.hb, hl.2, own_moved h.oa (fun k hk => hs.block k (la k hk) (fun e => h.ba (e ▸ hk)) (fun e => h.ca k e hk)), own_moved h.oo (fun k hk => hs.block k (lo k hk) (fun e => h.bo (e ▸ hk)) (fun e => h.co k e hk)),
    own_moved h.oi (fun k hk => hs.block k (li k hk) (fun e => h.bi (e ▸ hk)) (fun e => h.ci k e hk)), h.ba, h.bo, h.bi, h.ca.next hs.own la, h.co.next hs.own lo, h.ci.next hs.own li, h.ao, h.ai, h.oi'⟩
theorem Ap.grow {w' : World} (hb : Below w.heap.size w w') : Ap w0 w' b cv S va vo vi As Ns Is :=
  ⟨h.ar.below hb, h.below.trans (hb.mono h.below.size), h.hb, h.hc, own_moved h.oa (fun k hk => hb.block k (h.oa.lt k hk).2), own_moved h.oo (fun k hk => hb.block k (h.oo.lt k hk).2), own_moved h.oi (fun k hk => hb.block k (h.oi.lt k hk).2), h.ba, h.bo, h.bi, h.ca, h.co, h.ci, h.ao, h.ai, h.oi'⟩
theorem Ap.growA {w' : World} {v' : Value} {xs : List Int} (ho : w'.ownsRow w0.heap.size 3 1 v' xs.length (nums xs)) (hg : w.grownBy w' va.ownBlock) (hn : Nxt w.heap.size va v') : Ap w0 w' b cv S v' vo vi xs Ns Is := by
  have hk : ∀ k, k < w.heap.size → va.ownBlock ≠ some k → w'.heap[k]? = w.heap[k]? := fun k hk hne => hg.block k hk (fun e => hne e.symm)
  refine ⟨h.ar.kept (hk b h.ar.lt h.ba) (fun k e => hk k (h.ar.own.lt k e).2 (h.ca k e)), h.below.grown hg h.below.size (fun k e => (h.oa.lt k e).1), h.hb, h.hc, ho, own_moved h.oo (fun k e => hk k (h.oo.lt k e).2 (h.ao.symm k e)),
    own_moved h.oi (fun k e => hk k (h.oi.lt k e).2 (h.ai.symm k e)), ?_, h.bo, h.bi, (h.ca.symm.next hn (fun k e => (h.ar.own.lt k e).2)).symm, h.co, h.ci, h.ao.next hn (fun k e => (h.oo.lt k e).2), h.ai.next hn (fun k e => (h.oi.lt k e).2), h.oi'⟩
  intro e
  rcases hn b e with e' | e'
  · exact h.ba e'
  · have := h.ar.lt; omega
theorem Ap.growO {w' : World} {v' : Value} {xs : List Int} (ho : w'.ownsRow w0.heap.size 3 1 v' xs.length (nums xs)) (hg : w.grownBy w' vo.ownBlock) (hn : Nxt w.heap.size vo v') : Ap w0 w' b cv S va v' vi As xs Is := by
  have hk : ∀ k, k < w.heap.size → vo.ownBlock ≠ some k → w'.heap[k]? = w.heap[k]? := fun k hk hne => hg.block k hk (fun e => hne e.symm)
  refine ⟨h.ar.kept (hk b h.ar.lt h.bo) (fun k e => hk k (h.ar.own.lt k e).2 (h.co k e)), h.below.grown hg h.below.size (fun k e => (h.oo.lt k e).1), h.hb, h.hc, own_moved h.oa (fun k e => hk k (h.oa.lt k e).2 (h.ao k e)), ho,
    own_moved h.oi (fun k e => hk k (h.oi.lt k e).2 (h.oi'.symm k e)), h.ba, ?_, h.bi, h.ca, (h.co.symm.next hn (fun k e => (h.ar.own.lt k e).2)).symm, h.ci, (h.ao.symm.next hn (fun k e => (h.oa.lt k e).2)).symm, h.ai, h.oi'.next hn (fun k e => (h.oi.lt k e).2)⟩
  intro e
  rcases hn b e with e' | e'
  · exact h.bo e'
  · have := h.ar.lt; omega
theorem Ap.growI {w' : World} {v' : Value} {xs : List Int} (ho : w'.ownsRow w0.heap.size 3 1 v' xs.length (nums xs)) (hg : w.grownBy w' vi.ownBlock) (hn : Nxt w.heap.size vi v') : Ap w0 w' b cv S va vo v' As Ns xs := by
  have hk : ∀ k, k < w.heap.size → vi.ownBlock ≠ some k → w'.heap[k]? = w.heap[k]? := fun k hk hne => hg.block k hk (fun e => hne e.symm)
  refine ⟨h.ar.kept (hk b h.ar.lt h.bi) (fun k e => hk k (h.ar.own.lt k e).2 (h.ci k e)), h.below.grown hg h.below.size (fun k e => (h.oi.lt k e).1), h.hb, h.hc, own_moved h.oa (fun k e => hk k (h.oa.lt k e).2 (h.ai k e)), own_moved h.oo (fun k e => hk k (h.oo.lt k e).2 (h.oi' k e)), ho,
    h.ba, h.bo, ?_, h.ca, h.co, (h.ci.symm.next hn (fun k e => (h.ar.own.lt k e).2)).symm, h.ao, (h.ai.symm.next hn (fun k e => (h.oa.lt k e).2)).symm, (h.oi'.symm.next hn (fun k e => (h.oo.lt k e).2)).symm⟩
  intro e
  rcases hn b e with e' | e'
  · exact h.bi e'
  · have := h.ar.lt; omega
end
/-- a number of a row -/
theorem nums_row {w : World} {base n : Nat} {v : Value} {xs : List Int} (h : w.ownsRow base 3 1 v n (nums xs)) (hn : 0 < n) : ∃ q cap, v = .slice (some ⟨q, 0, none⟩) n cap ∧ ∀ j, j < n → w.cell? ⟨q, j, none⟩ = some (.int .i64 (xs.getD j 0)) := by
  have hl : xs.length = n := by have := h.1; simp [nums] at this; exact this
  rcases h.2 with ⟨_, hz⟩ | ⟨q, cap, cur, hv, _⟩
  · omega
  · refine ⟨q, cap, hv, fun j hj => ?_⟩
    rw [hv] at h
    rw [h.cellAt j (by omega)]
    exact BU.nums_getD (by omega)
theorem own_form3 {w : World} {base e n : Nat} {v : Value} {xs : List Value} (h : w.ownsRow base e 1 v n xs) : ∃ A cap, v = .slice A n cap := by
  rcases h.2 with ⟨rfl, rfl⟩ | ⟨g, cap, cur, rfl, _⟩
  · exact ⟨none, 0, rfl⟩
  · exact ⟨_, cap, rfl⟩

/-! ### the plain side -/
def nOf (s : Int) : Int := 1 + (if s < 0 then -(s + 1) else s) % 300
theorem nOf_range (s : Int) : 1 ≤ nOf s ∧ nOf s ≤ 300 := by unfold nOf; omega
/-- parts, one behind the other, below a limit -/
structure Lay (As Ns : List Int) (U : Int) : Prop where
  len : As.length = Ns.length
  lo : ∀ j, j < As.length → 0 ≤ As.getD j 0 ∧ 1 ≤ Ns.getD j 0 ∧ Ns.getD j 0 ≤ 300 ∧ As.getD j 0 + Ns.getD j 0 ≤ U
  up : ∀ i j, i < j → j < As.length → As.getD i 0 + Ns.getD i 0 ≤ As.getD j 0
theorem Lay.nil : Lay [] [] 0 := ⟨rfl, fun j hj => absurd hj (by simp), fun i j _ hj => absurd hj (by simp)⟩
theorem getD_snoc (l : List Int) (x : Int) (j : Nat) : (l ++ [x]).getD j 0 = if j < l.length then l.getD j 0 else if j = l.length then x else 0 := by
  simp only [List.getD_eq_getElem?_getD, List.getElem?_append]
  split
  · rfl
  · split
    · rename_i h1 h2; rw [h2]; simp
    · rename_i h1 h2
      rw [List.getElem?_eq_none (by simp; omega)]; rfl
theorem Lay.snoc {As Ns : List Int} {U n : Int} (h : Lay As Ns U) (hU : 0 ≤ U) (h1 : 1 ≤ n) (h2 : n ≤ 300) : Lay (As ++ [U]) (Ns ++ [n]) (U + n) := by
  refine ⟨by simp [h.len], fun j hj => ?_, fun i j hij hj => ?_⟩
  · rw [getD_snoc, getD_snoc, ← h.len]
    simp only [List.length_append, List.length_cons, List.length_nil] at hj
    by_cases e : j < As.length
    · rw [if_pos e, if_pos e]
      have := h.lo j e
      omega
    · rw [if_neg e, if_neg e, if_pos (by omega), if_pos (by omega)]
      omega
  · rw [getD_snoc, getD_snoc, getD_snoc, ← h.len]
    simp only [List.length_append, List.length_cons, List.length_nil] at hj
    rw [if_pos (show i < As.length by omega), if_pos (show i < As.length by omega)]
    by_cases e : j < As.length
    · rw [if_pos e]
      exact h.up i j hij e
    · rw [if_neg e, if_pos (by omega)]
      have := h.lo i (by omega)
      omega
theorem Lay.more {As Ns : List Int} {U V : Int} (h : Lay As Ns U) (hV : U ≤ V) : Lay As Ns V := ⟨h.len, fun j hj => by have := h.lo j hj; omega, h.up⟩
/-- part j holds j + 1, for the first parts -/
def Filled (As Ns : List Int) (m : List Int) (t : Nat) : Prop := ∀ j, j < t → ∀ q : Nat, (q : Int) < Ns.getD j 0 → m.getD ((As.getD j 0).toNat + q) 0 = ((j : Int) + 1)
theorem spl_getD (m : List Int) (i : Nat) (z : List Int) (h : i + z.length ≤ m.length) (q : Nat) : (spl m i z).getD q 0 = if i ≤ q ∧ q < i + z.length then z.getD (q - i) 0 else m.getD q 0 := by
  unfold spl
  simp only [List.getD_eq_getElem?_getD]
  rw [List.getElem?_append, List.length_take, Nat.min_eq_left (by omega)]
  by_cases h1 : q < i
  · rw [if_pos h1, if_neg (by omega), List.getElem?_take, if_pos h1]
  · rw [if_neg h1, List.getElem?_append]
    by_cases h2 : q - i < z.length
    · rw [if_pos h2, if_pos (by omega)]
    · rw [if_neg h2, if_neg (by omega), List.getElem?_drop]
      congr 2
      omega
theorem rep_getD (n q : Nat) (x : Int) (h : q < n) : (List.replicate n x).getD q 0 = x := by
  rw [List.getD_eq_getElem?_getD, List.getElem?_replicate, if_pos h]; rfl
theorem Filled.more {As Ns m : List Int} {U : Int} {t : Nat} (hl : Lay As Ns U) (h : Filled As Ns m t) (ht : t < As.length) (hm : U ≤ (m.length : Int)) :
    Filled As Ns (spl m (As.getD t 0).toNat (List.replicate (Ns.getD t 0).toNat ((t : Int) + 1))) (t + 1) := by
  intro j hj q hq
  have l1 := hl.lo t ht
  have l2 := hl.lo j (by omega)
  rw [spl_getD _ _ _ (by rw [List.length_replicate]; omega)]
  rw [List.length_replicate]
  by_cases e : j = t
  · subst e
    rw [if_pos (by omega)]
    rw [show (As.getD j 0).toNat + q - (As.getD j 0).toNat = q by omega]
    exact rep_getD _ _ _ (by omega)
  · have := hl.up j t (by omega) ht
    rw [if_neg (by omega)]
    exact h j (by omega) q hq
end BU
end Go.Proofs
