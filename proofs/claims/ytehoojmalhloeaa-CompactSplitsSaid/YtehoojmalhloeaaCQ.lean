/- The calls at the head of the statements of chapter 19 (awake): they answer true. No condition of their own. -/
import Derived.Test.YtehoojmalhloeaaCO
import Derived.Test.YtehoojmalhloeaaPCx1
namespace Go.Proofs.Ytehoojmalhloeaa.CM
open Go.RowKit Go.Proofs.YtehoojmalhloeaaW.PrintWords
set_option linter.unusedVariables false
set_option linter.unusedSimpArgs false
set_option maxRecDepth 100000

theorem C44_block {W : World} {b t : Nat} {fr : Nat × Nat} {xs : List PC.S44} (h : W.heap[b]? = some (.cells (cells44 xs).toArray t fr)) (hn : xs.length ≤ 9223372036854775807) : Kd.C PC.k44 W (some ⟨b, 0, none⟩) xs.length xs := by
  refine ⟨rfl, hn, fun _ => ⟨_, rfl, fun j p hj => ?_⟩⟩
  obtain ⟨hl, hr⟩ := cells44_reps (R := PC.k44.K W) (fun x => PC.k44_mk W x) xs
  refine ⟨_, PC.k44.K_len (hr j p hj), hr j p hj, fun i u hu => ?_⟩
  rw [List.getElem?_take] at hu
  split at hu
  · rw [List.getElem?_drop] at hu
    exact World.news_of_block h (j * 4 + i) u (by simpa using hu)
  · cases hu

def kA (n k : Int) : PC.S44 := ⟨⟨⟨#[97]⟩, n, k⟩, ⟨#[]⟩⟩
def lA : List PC.S44 := [kA 9 1, kA 7 0, kA 5 1, kA 3 0]
theorem lA_rises : risesB lA = true := by decide +kernel
theorem lA_drop1 : dropL [5, 7] true lA = [kA 9 1, kA 7 0, kA 5 1] := by kernel_rfl
theorem lA_drop2 : dropL [] false lA = [kA 9 1] := by kernel_rfl
theorem lA_split : splitL 1 lA = [lA] := by kernel_rfl

/-- An entry lies in a block, from a cell on. -/
def ElB (W : World) (g o : Nat) (x : PC.S44) : Prop :=
  W.cell? ⟨g, o, none⟩ = some (.string x.f0.f0) ∧ W.cell? ⟨g, o + 1, none⟩ = some (.int .u64 x.f0.f1) ∧ W.cell? ⟨g, o + 2, none⟩ = some (.int .i64 x.f0.f2) ∧ W.cell? ⟨g, o + 3, none⟩ = some (.string x.f1)
theorem ElB.below {W W1 : World} {g o : Nat} {x : PC.S44} (h : ElB W g o x) (hb : Below W.heap.size W W1) : ElB W1 g o x :=
  ⟨(hb.cell (World.block_lt_of_cell? _ _ h.1)).trans h.1, (hb.cell (World.block_lt_of_cell? _ _ h.2.1)).trans h.2.1, (hb.cell (World.block_lt_of_cell? _ _ h.2.2.1)).trans h.2.2.1, (hb.cell (World.block_lt_of_cell? _ _ h.2.2.2)).trans h.2.2.2⟩
theorem ElB.ofC {W : World} {g n : Nat} {xs : List PC.S44} (h : Kd.C PC.k44 W (some ⟨g, 0, none⟩) n xs) (j : Nat) (hj : j < n) : ElB W g (j * 4) (xs.getD j PC.z44) := by
  obtain ⟨ad, e, h0, h1, h2, h3⟩ := at44 h j hj
  cases e
  have e : (Addr.add ⟨g, 0, none⟩ (j * 4)) = ⟨g, j * 4, none⟩ := by
    by_cases h0 : j = 0
    · subst h0; rfl
    · unfold Addr.add
      rw [if_neg (by omega)]
      simp
  rw [e] at h0 h1 h2 h3
  exact ⟨h0, h1, h2, h3⟩

theorem awake19_w (w : World) : Calls Try.prog 22 #[] w fun e w' => e = .returned (.bool true) ∧ Below w.heap.size w w' := by
  obtain ⟨W1, hW1⟩ : ∃ W1, w.alloc (.cells #[.string ⟨#[97]⟩, .int .u64 9, .int .i64 1, .string ⟨#[]⟩, .string ⟨#[97]⟩, .int .u64 7, .int .i64 0, .string ⟨#[]⟩, .string ⟨#[97]⟩, .int .u64 5, .int .i64 1, .string ⟨#[]⟩, .string ⟨#[97]⟩, .int .u64 3, .int .i64 0, .string ⟨#[]⟩] 44) = W1 := ⟨_, rfl⟩
  have hs1 : w.heap.size < W1.heap.size := by rw [← hW1]; simp
  have B1 : Below w.heap.size w W1 := by rw [← hW1]; exact (Below.refl _ _).alloc (Nat.le_refl _) _
  have C1 : Kd.C PC.k44 W1 (some ⟨w.heap.size, 0, none⟩) 4 lA := by
    rw [← hW1]
    exact C44_block (W := w.alloc _) (xs := lA) (World.alloc_heap_new w _) (by decide)
  obtain ⟨W2, hW2⟩ : ∃ W2, W1.alloc (.cells #[.int .u64 5, .int .u64 7] 37) = W2 := ⟨_, rfl⟩
  have B2 : Below W1.heap.size W1 W2 := by rw [← hW2]; exact (Below.refl _ _).alloc (Nat.le_refl _) _
  have C2 : Kd.C (Kd.int .u64) W2 (some ⟨W1.heap.size, 0, none⟩) 2 [5, 7] := by
    rw [← hW2]
    refine ⟨rfl, by decide, fun _ => ⟨_, rfl, fun j p hj => ⟨[.int .u64 p], rfl, rfl, fun i u hu => ?_⟩⟩⟩
    have hi : i = 0 := by
      rcases i with _ | i
      · rfl
      · simp at hu
    subst hi
    obtain rfl : Value.int .u64 p = u := by simpa using hu
    refine World.news_of_block (cs := #[.int .u64 5, .int .u64 7]) (t := 37) (fr := (0, 0)) (World.alloc_heap_new W1 _) (j * 1 + 0) _ ?_
    rcases j with _ | _ | j
    · have : (5 : Int) = p := by simpa using hj
      subst this
      rfl
    · have : (7 : Int) = p := by simpa using hj
      subst this
      rfl
    · simp at hj
  have D1 : Calls Try.prog 24 #[.slice (some ⟨w.heap.size, 0, none⟩) 4 4, .slice (some ⟨W1.heap.size, 0, none⟩) 2 2, .bool true] W2 _ := drop_w (some ⟨w.heap.size, 0, none⟩) 4 lA (some ⟨W1.heap.size, 0, none⟩) 2 [5, 7] true W2 (keepC C1 (Nat.le_refl _) B2) (by decide) C2 (by decide) lA_rises
  have D2 : ∀ X : World, Below W1.heap.size W1 X → Calls Try.prog 24 #[.slice (some ⟨w.heap.size, 0, none⟩) 4 4, .slice none 0 0, .bool false] X _ := fun X hX => drop_w (some ⟨w.heap.size, 0, none⟩) 4 lA none 0 [] false X (keepC C1 (Nat.le_refl _) hX) (by decide) ⟨rfl, by decide, fun h => absurd h (by decide)⟩ (by decide) lA_rises
  have D3 : ∀ X : World, Below W1.heap.size W1 X → Calls Try.prog 27 #[.slice (some ⟨w.heap.size, 0, none⟩) 4 4, .int .i64 1] X _ := fun X hX => split_w (some ⟨w.heap.size, 0, none⟩) 4 lA 1 X (keepC C1 (Nat.le_refl _) hX) (by decide) (by decide) (by decide) lA_rises
  rw [lA_drop1] at D1
  rw [lA_drop2] at D2
  rw [lA_split] at D3
  have H1 := Lib.hid (And.intro hs1 (And.intro B1 (And.intro B2 C1)))
  have HD1 := Lib.hid D1
  have HD2 := Lib.hid D2
  have HD3 := Lib.hid D3
  clear D1 D2 D3 hs1 B1 B2 C1 C2
  go_enter Try.func22, Try.ntmps22
  go_wp2_with fail
  refine HD1.out.mono ?_
  rintro e w3 ⟨v1, rfl, R1, b3⟩
  have B3 := H1.out.2.2.1.trans (b3.mono H1.out.2.2.1.size)
  obtain ⟨g1, k1, hv1, _⟩ := Kd.R_form R1 (by decide)
  subst hv1
  have Ca := (Kd.R_reads' R1).2.2
  have G1 := Lib.hid (And.intro B3 Ca)
  clear B3 Ca R1 b3
  go_wp2_with fail
  refine (HD2.out _ G1.out.1).mono ?_
  rintro e w4 ⟨v2, rfl, R1, b3⟩
  have B4 := G1.out.1.trans (b3.mono G1.out.1.size)
  obtain ⟨g2, k2, hv1, _⟩ := Kd.R_form R1 (by decide)
  subst hv1
  have Cb := (Kd.R_reads' R1).2.2
  have G2 := Lib.hid (And.intro B4 (And.intro (keepC G1.out.2 (Nat.le_refl _) b3) Cb))
  clear B4 Cb R1 b3
  go_wp2_with fail
  refine (HD3.out _ G2.out.1).mono ?_
  rintro e w5 ⟨v3, rfl, R1, b3⟩
  have B5 := G2.out.1.trans (b3.mono G2.out.1.size)
  obtain ⟨g3, k3, hv1, _⟩ := Kd.S_form R1 (by decide)
  subst hv1
  have Cc := (Kd.S_reads' R1).2.2
  have C5 := keepC H1.out.2.2.2 (Nat.le_refl _) B5
  have E1 := ElB.ofC (keepC G2.out.2.1 (Nat.le_refl _) b3) 2 (by decide)
  have E2 := ElB.ofC C5 2 (by decide)
  have E3 := ElB.ofC (keepC G2.out.2.2 (Nat.le_refl _) b3) 0 (by decide)
  have E4 := ElB.ofC C5 0 (by decide)
  obtain ⟨ad, A0, c0, had, E5, _⟩ := PC.at_L6 Cc 0 (by decide) (by decide)
  cases had
  have E5 : w5.cell? ⟨g3, 0, none⟩ = some (.slice A0 4 c0) := E5
  obtain ⟨e10, e11, e12, e13⟩ : w5.cell? ⟨g1, 8, none⟩ = some (.string ⟨#[97]⟩) ∧ w5.cell? ⟨g1, 9, none⟩ = some (.int .u64 5) ∧ w5.cell? ⟨g1, 10, none⟩ = some (.int .i64 1) ∧ w5.cell? ⟨g1, 11, none⟩ = some (.string ⟨#[]⟩) := E1
  obtain ⟨e20, e21, e22, e23⟩ : w5.cell? ⟨w.heap.size, 8, none⟩ = some (.string ⟨#[97]⟩) ∧ w5.cell? ⟨w.heap.size, 9, none⟩ = some (.int .u64 5) ∧ w5.cell? ⟨w.heap.size, 10, none⟩ = some (.int .i64 1) ∧ w5.cell? ⟨w.heap.size, 11, none⟩ = some (.string ⟨#[]⟩) := E2
  obtain ⟨e30, e31, e32, e33⟩ : w5.cell? ⟨g2, 0, none⟩ = some (.string ⟨#[97]⟩) ∧ w5.cell? ⟨g2, 1, none⟩ = some (.int .u64 9) ∧ w5.cell? ⟨g2, 2, none⟩ = some (.int .i64 1) ∧ w5.cell? ⟨g2, 3, none⟩ = some (.string ⟨#[]⟩) := E3
  obtain ⟨e40, e41, e42, e43⟩ : w5.cell? ⟨w.heap.size, 0, none⟩ = some (.string ⟨#[97]⟩) ∧ w5.cell? ⟨w.heap.size, 1, none⟩ = some (.int .u64 9) ∧ w5.cell? ⟨w.heap.size, 2, none⟩ = some (.int .i64 1) ∧ w5.cell? ⟨w.heap.size, 3, none⟩ = some (.string ⟨#[]⟩) := E4
  have G3 := Lib.hid (H1.out.2.1.trans (B5.mono H1.out.2.1.size))
  clear C5 Cc R1 B5 b3
  go_wp2_with fail
  go_quiet (fail)
  go_wp2
  go_ret
  exact ⟨rfl, below_drewN G3.out _⟩

end Go.Proofs.Ytehoojmalhloeaa.CM
