/- merge: two iterators at once; two rows beside an iterator. -/
import Derived.Test.YtehoojmalhloeaaNM
namespace Go.Proofs.Ytehoojmalhloeaa.CM
open Go.RowKit Go.Proofs.YtehoojmalhloeaaW.PrintWords
set_option linter.unusedVariables false
set_option linter.unusedSimpArgs false
set_option maxRecDepth 100000
section
variable {w0 w w1 : World} {X Y : Nat} {s t : Sh} {q q' r r' : Option Nat} {F G : Nat → Prop}
/-- Two iterators that share nothing. -/
structure Both (w0 w : World) (X : Nat) (s : Sh) (q : Option Nat) (F : Nat → Prop) (Y : Nat) (t : Sh) (r : Option Nat) (G : Nat → Prop) : Prop where
  x : It w X s q F
  y : It w Y t r G
  dis : ∀ b, F b → ¬ G b
  lo : ∀ b, F b → w0.heap.size ≤ b
  lo' : ∀ b, G b → w0.heap.size ≤ b
  bel : Below w0.heap.size w0 w
theorem Both.swap (h : Both w0 w X s q F Y t r G) : Both w0 w Y t r G X s q F := ⟨h.y, h.x, fun b h1 h2 => h.dis b h2 h1, h.lo', h.lo, h.bel⟩
theorem Both.go (h : Both w0 w X s q F Y t r G) (g : Goes w X s F q' w1) : ∃ F', Both w0 w1 X s q' F' Y t r G := by
  obtain ⟨F', h1, h2, h3⟩ := g
  refine ⟨F', h1, h.y.fr h2 (fun b _ hF hG => h.dis b hF hG), fun b hF hG => ?_, fun b hF => ?_, h.lo', h.bel.trans (h2.to_below h.bel.size h.lo)⟩
  · rcases h3 b hF with h4 | h4
    · exact h.dis b h4 hG
    · have := h.y.lt hG; omega
  · rcases h3 b hF with h4 | h4
    · exact h.lo b h4
    · have := h.bel.size; omega
theorem Both.go2 (h : Both w0 w X s q F Y t r G) (g : Goes w Y t G r' w1) : ∃ G', Both w0 w1 X s q F Y t r' G' := by
  obtain ⟨G', h1⟩ := h.swap.go g
  exact ⟨G', h1.swap⟩
theorem Both.below (h : Both w0 w X s q F Y t r G) (hb : Below w.heap.size w w1) : Both w0 w1 X s q F Y t r G :=
  ⟨h.x.below hb, h.y.below hb, h.dis, h.lo, h.lo', h.bel.trans (hb.mono h.bel.size)⟩
theorem Both.mk' (h : Nw w0 w X s q F) (hb : Below w.heap.size w w1) (h2 : Nw w w1 Y t r G) : Both w0 w1 X s q F Y t r G :=
  ⟨h.it.below hb, h2.it, fun b h3 h4 => by have := h.it.lt h3; have := h2.lo b h4; omega, h.lo, fun b h4 => by have := h2.lo b h4; have := h.bel.size; omega, h.bel.trans (hb.mono h.bel.size)⟩

/-- Two rows of the walk's own beside an iterator. -/
structure Two (w0 w : World) (X : Nat) (s : Sh) (q : Option Nat) (F : Nat → Prop) (v : Value) (xs : List PC.S44) (u : Value) (ys : List PC.S44) : Prop where
  nw : Nw w0 w X s q F
  a : Row w F w0.heap.size v xs
  b : Row w F w0.heap.size u ys
  ne : ∀ k, v.ownBlock = some k → u.ownBlock ≠ some k
variable {v u : Value} {xs ys : List PC.S44}
theorem Two.swap (h : Two w0 w X s q F v xs u ys) : Two w0 w X s q F u ys v xs := ⟨h.nw, h.b, h.a, fun k h1 h2 => h.ne k h2 h1⟩
theorem Two.below (h : Two w0 w X s q F v xs u ys) (hb : Below w.heap.size w w1) : Two w0 w1 X s q F v xs u ys := ⟨h.nw.below hb, h.a.below hb, h.b.below hb, h.ne⟩
theorem Two.app (h : Two w0 w X s q F v xs u ys) (y : PC.S44) (hl : xs.length ≤ 2932031007317) :
    ∃ v1 w1, (Builtin.append_ #[22, 22] 22 #[v, .slice (some ⟨w.heap.size, 0, none⟩) 1 1]).run Try.prog (w.alloc (.cells #[.string y.f0.f0, .int .u64 y.f0.f1, .int .i64 y.f0.f2, .string y.f1] 44)) = .ok v1 w1 ∧ Two w0 w1 X s q F v1 (xs ++ [y]) u ys := by
  obtain ⟨W, hW⟩ : ∃ W, w.alloc (.cells #[.string y.f0.f0, .int .u64 y.f0.f1, .int .i64 y.f0.f2, .string y.f1] 44) = W := ⟨_, rfl⟩
  have bl : Below w.heap.size w W := by rw [← hW]; exact (Below.refl _ _).alloc (Nat.le_refl _) _
  have hs : w.heap.size < W.heap.size := by rw [← hW]; simp
  have hC : Kd.C PC.k44 W (some ⟨w.heap.size, 0, none⟩) 1 [y] := by rw [← hW]; exact C44_block (W := w.alloc _) (xs := [y]) (World.alloc_heap_new w _) (by simp)
  have h' := h.below bl
  obtain ⟨v1, w1, hrun, hR1, hg, hat⟩ := run_append44 (c := 1) 22 h'.a.r hC (by omega) (by have := h'.nw.bel.size; omega)
  rw [hW]
  have hlu := Kd.R_lt h'.b.r
  refine ⟨v1, w1, hrun, h'.nw.grown hg (fun k hk => ⟨h'.a.nf k hk, Kd.R_base h'.a.r k hk⟩), ⟨hR1, fun k hk hF => ?_⟩, ⟨R_of44 (own_move (own44 h'.b.r) (fun k hk => hg.block k (hlu k hk) (fun e => h.ne k e.symm hk))), h'.b.nf⟩, fun k hk hu => ?_⟩
  · have hFl := h'.nw.it.lt hF
    rcases hat with e | e
    · rw [e] at hk; exact h'.a.nf k hk hF
    · rw [hk] at e; injection e with e; omega
  · rcases hat with e | e
    · rw [e] at hk; exact h.ne k hk hu
    · rw [hk] at e
      injection e with e
      have := hlu k hu
      omega
end
theorem C_three {W : World} {A : Option Addr} {n c : Nat} {x : List PC.S44} (h : Kd.C PC.k44 W A x.length x) (hc : x.length ≤ c) (e : n = x.length) :
    Kd.C (Kd.slice 44 PC.k44) (W.alloc (.cells #[.slice none 0 0, .slice A n c, .slice none 0 0] 22)) (some ⟨W.heap.size, 0, none⟩) 3 [[], x, []] := by
  subst e
  have hb : Below W.heap.size W (W.alloc (.cells #[.slice none 0 0, .slice A x.length c, .slice none 0 0] 22)) := (Below.refl _ W).alloc (Nat.le_refl _) _
  have hn := World.news_of_block (cs := #[.slice none 0 0, .slice A x.length c, .slice none 0 0]) (t := 22) (fr := (0, 0)) (World.alloc_heap_new W _)
  have nil : ∀ W', Kd.C PC.k44 W' none 0 [] := fun W' => ⟨rfl, by decide, fun h => absurd h (by decide)⟩
  refine ⟨rfl, by decide, fun _ => ⟨_, rfl, fun j p hj => ?_⟩⟩
  rcases j with _ | _ | _ | j
  · obtain rfl : [] = p := by simpa using hj
    refine ⟨[.slice none 0 0], rfl, ⟨none, 0, rfl, Nat.le_refl _, nil _⟩, fun i u hu => ?_⟩
    rcases i with _ | i
    · obtain rfl : Value.slice none 0 0 = u := by simpa using hu
      exact hn 0 _ rfl
    · simp at hu
  · obtain rfl : x = p := by simpa using hj
    refine ⟨[.slice A x.length c], rfl, ⟨A, c, rfl, hc, keepC h (Nat.le_refl _) hb⟩, fun i u hu => ?_⟩
    rcases i with _ | i
    · obtain rfl : Value.slice A x.length c = u := by simpa using hu
      exact hn 1 _ rfl
    · simp at hu
  · obtain rfl : [] = p := by simpa using hj
    refine ⟨[.slice none 0 0], rfl, ⟨none, 0, rfl, Nat.le_refl _, nil _⟩, fun i u hu => ?_⟩
    rcases i with _ | i
    · obtain rfl : Value.slice none 0 0 = u := by simpa using hu
      exact hn 2 _ rfl
    · simp at hu
  · simp at hj
end Go.Proofs.Ytehoojmalhloeaa.CM
