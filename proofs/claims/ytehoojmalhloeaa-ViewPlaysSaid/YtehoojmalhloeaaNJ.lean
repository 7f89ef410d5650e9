/- merge: an iterator beside a row that the walk gathers; all entries, as a list. -/
import Derived.Test.YtehoojmalhloeaaMZ
import Derived.Deep.LoopGhost
namespace Go.Proofs.Ytehoojmalhloeaa.CM
open Go.RowKit Go.Proofs.YtehoojmalhloeaaW.PrintWords
set_option linter.unusedVariables false
set_option linter.unusedSimpArgs false
set_option maxRecDepth 100000

def upto (s : Sh) (i : Nat) : List PC.S44 := (List.range i).map (itm s)
theorem upto_len (s : Sh) (i : Nat) : (upto s i).length = i := by simp [upto]
theorem upto_succ (s : Sh) (i : Nat) : upto s (i + 1) = upto s i ++ [itm s i] := by simp [upto, List.range_succ]
theorem upto_get (s : Sh) {i j : Nat} (h : j < i) : (upto s i).getD j PC.z44 = itm s j := by
  simp [upto, List.getD_eq_getElem?_getD, h]
theorem itm_le {s : Sh} (hr : Ris s) {p : Nat} (hp : p + 1 < s.N) : cmpK (itm s p).f0 (itm s (p + 1)).f0 ≤ 0 := by
  obtain ⟨i, hi⟩ := who_lt (show p < s.N by omega)
  obtain ⟨j, hj⟩ := who_lt hp
  rw [itm_some hi, itm_some hj]
  rcases itm_lt hr hi hj (Nat.lt_succ_self p) with h | ⟨h, _⟩
  · unfold R at h; omega
  · have := E_cmp.2 h; omega

/-- A place among N. -/
def plc (s : Sh) (i : Nat) : Option Nat := if i < s.N then some i else none
theorem plc_lt {s : Sh} {i : Nat} (h : i < s.N) : plc s i = some i := if_pos h
theorem plc_end (s : Sh) : plc s s.N = none := if_neg (Nat.lt_irrefl _)
theorem nxt_plc {s : Sh} {i : Nat} : nxtQ s (some i) = plc s (i + 1) := rfl
theorem prv_some (i : Nat) : prvQ (some (i + 1)) = some i := rfl

section
variable {w0 w w1 : World} {X : Nat} {s : Sh} {q q' : Option Nat} {F : Nat → Prop}
theorem Nw.grown {row : Option Nat} (h : Nw w0 w X s q F) (hg : w.grownBy w1 row) (hr : ∀ k, row = some k → ¬ F k ∧ w0.heap.size ≤ k) : Nw w0 w1 X s q F := by
  have hf : Fr (fun b => row = some b) w w1 := ⟨hg.os, hg.tape, hg.output, hg.size, fun b hb hn => hg.block b hb (fun e => hn e.symm)⟩
  exact ⟨h.it.fr hf (fun b _ hP hF => (hr b hP).1 hF), h.lo, h.bel.grown hg h.bel.size (fun k hk => (hr k hk).2)⟩
/-- A row of the walk's own that is not the iterator's. -/
structure Row (w : World) (F : Nat → Prop) (base : Nat) (v : Value) (xs : List PC.S44) : Prop where
  r : Kd.R PC.k44 44 w base (fun _ => True) v xs
  nf : ∀ k, v.ownBlock = some k → ¬ F k
theorem Row.nil (w : World) (F : Nat → Prop) (base : Nat) : Row w F base (.slice none 0 0) [] := ⟨Kd.R_nil _ _ _ _ _, fun k hk => by simp [Value.ownBlock] at hk⟩
variable {base : Nat} {v : Value} {xs : List PC.S44} {F' : Nat → Prop}
theorem Row.fr (h : Row w F base v xs) (hf : Fr F w w1) (hn : ∀ b, F' b → F b ∨ (w.heap.size ≤ b ∧ b < w1.heap.size)) : Row w1 F' base v xs := by
  have hlt := Kd.R_lt h.r
  refine ⟨R_of44 (own_move (own44 h.r) (fun k hk => hf.block k (hlt k hk) (h.nf k hk))), fun k hk hF => ?_⟩
  rcases hn k hF with h1 | h1
  · exact h.nf k hk h1
  · have := hlt k hk; omega
theorem Row.below (h : Row w F base v xs) (hb : Below w.heap.size w w1) : Row w1 F base v xs := ⟨Kd.R_below h.r hb, h.nf⟩
theorem Row.app (h : Row w F base v xs) (hN : Nw w0 w X s q F) (y : PC.S44) (hl : xs.length ≤ 2932031007317) (hb1 : w0.heap.size ≤ base) (hb : base ≤ w.heap.size) :
    ∃ v1 w1, (Builtin.append_ #[22, 22] 22 #[v, .slice (some ⟨w.heap.size, 0, none⟩) 1 1]).run Try.prog (w.alloc (.cells #[.string y.f0.f0, .int .u64 y.f0.f1, .int .i64 y.f0.f2, .string y.f1] 44)) = .ok v1 w1 ∧ Row w1 F base v1 (xs ++ [y]) ∧ Nw w0 w1 X s q F := by
  obtain ⟨W, hW⟩ : ∃ W, w.alloc (.cells #[.string y.f0.f0, .int .u64 y.f0.f1, .int .i64 y.f0.f2, .string y.f1] 44) = W := ⟨_, rfl⟩
  have bl : Below w.heap.size w W := by rw [← hW]; exact (Below.refl _ _).alloc (Nat.le_refl _) _
  have hs : w.heap.size < W.heap.size := by rw [← hW]; simp
  have hC : Kd.C PC.k44 W (some ⟨w.heap.size, 0, none⟩) 1 [y] := by rw [← hW]; exact C44_block (W := w.alloc _) (xs := [y]) (World.alloc_heap_new w _) (by simp)
  have hR := (h.below bl)
  obtain ⟨v1, w1, hrun, hR1, hg, hat⟩ := run_append44 (c := 1) 22 hR.r hC (by omega) (by omega)
  rw [hW]
  have hlt := Kd.R_lt h.r
  refine ⟨v1, w1, hrun, ⟨hR1, fun k hk hF => ?_⟩, (hN.below bl).grown hg (fun k hk => ⟨hR.nf k hk, by have := Kd.R_base hR.r k hk; omega⟩)⟩
  have hFl := (hN.below bl).it.lt hF
  rcases hat with e | e
  · rw [e] at hk; exact hR.nf k hk hF
  · rw [hk] at e; injection e with e; omega
/-- An iterator and a row. -/
structure St (w0 w : World) (X : Nat) (s : Sh) (q : Option Nat) (F : Nat → Prop) (v : Value) (xs : List PC.S44) : Prop where
  nw : Nw w0 w X s q F
  row : Row w F w0.heap.size v xs
theorem St.goes (h : St w0 w X s q F v xs) (g : Goes w X s F q' w1) : ∃ F', St w0 w1 X s q' F' v xs ∧ ∀ b o, Kp w F b o → Kp w1 F' b o := by
  obtain ⟨F', h1, h2, h3⟩ := h.nw.goes g
  exact ⟨F', ⟨h1, h.row.fr h2 h3⟩, fun b o hk => hk.fr h2 h3⟩
theorem St.below (h : St w0 w X s q F v xs) (hb : Below w.heap.size w w1) : St w0 w1 X s q F v xs := ⟨h.nw.below hb, h.row.below hb⟩
theorem St.app (h : St w0 w X s q F v xs) (y : PC.S44) (hl : xs.length ≤ 2932031007317) :
    ∃ v1 w1, (Builtin.append_ #[22, 22] 22 #[v, .slice (some ⟨w.heap.size, 0, none⟩) 1 1]).run Try.prog (w.alloc (.cells #[.string y.f0.f0, .int .u64 y.f0.f1, .int .i64 y.f0.f2, .string y.f1] 44)) = .ok v1 w1 ∧ St w0 w1 X s q F v1 (xs ++ [y]) := by
  obtain ⟨v1, w1, hrun, h1, h2⟩ := h.row.app h.nw y hl (Nat.le_refl _) h.nw.bel.size
  exact ⟨v1, w1, hrun, h2, h1⟩
def obj (y : PC.S44) : Obj := .cells #[.string y.f0.f0, .int .u64 y.f0.f1, .int .i64 y.f0.f2, .string y.f1] 44
theorem obj_cells {w : World} {b : Nat} {y : PC.S44} (h : w.heap[b]? = some (obj y)) : w.cell? ⟨b, 0, none⟩ = some (.string y.f0.f0) ∧ w.cell? ⟨b, 1, none⟩ = some (.int .u64 y.f0.f1) ∧ w.cell? ⟨b, 2, none⟩ = some (.int .i64 y.f0.f2) ∧ w.cell? ⟨b, 3, none⟩ = some (.string y.f1) := by
  unfold obj at h
  refine ⟨?_, ?_, ?_, ?_⟩ <;> simp [World.cell?, h]
end
theorem ris_of {s : Sh} {w : World} {X : Nat} {q : Option Nat} {F : Nat → Prop} (h : It w X s q F) : Ris s := by
  obtain ⟨_, _, _, _, _, h, _⟩ := h
  exact h
theorem N_of {s : Sh} {D : List (List PC.S44)} (h : s.L = D) : s.N = tot (fun j => (D.getD j []).length) D.length := by subst h; rfl
theorem tot_bound (f : Nat → Nat) (b : Nat) : ∀ k, (∀ j, j < k → f j ≤ b) → tot f k ≤ k * b
  | 0, _ => by simp [tot]
  | k + 1, h => by
    have h1 := tot_bound f b k (fun j hj => h j (by omega))
    have h2 := h k (by omega)
    show tot f k + f k ≤ (k + 1) * b
    rw [Nat.add_mul]
    omega
end Go.Proofs.Ytehoojmalhloeaa.CM
