/- merge: ways to go, as they are given; lists that are lent. -/
import Derived.Test.YtehoojmalhloeaaNJ
import Derived.Test.YtehoojmalhloeaaDR
namespace Go.Proofs.Ytehoojmalhloeaa.CM
open Go.RowKit Go.ChangeShapes Go.WideShapes Go.Proofs.YtehoojmalhloeaaW.PrintWords
set_option linter.unusedVariables false
set_option linter.unusedSimpArgs false
set_option maxRecDepth 100000

structure S63 where
  kind : Int
  k : PC.S42
def z63 : S63 := ⟨0, PC.z42⟩
def k63 : Kd S63 := Kd.iso (Kd.pair (Kd.int .i64) PC.k42) (fun x : S63 => (x.kind, x.k))
theorem k63_open {w : World} {x : S63} {cs : List Value} (h : k63.K w x cs) : cs = [.int .i64 x.kind, .string x.k.f0, .int .u64 x.k.f1, .int .i64 x.k.f2] := by
  obtain ⟨_, _, rfl, rfl, s0⟩ := h
  obtain rfl := PC.k42_open s0
  exact rfl
theorem k63_mk (w : World) (x : S63) : k63.K w x [.int .i64 x.kind, .string x.k.f0, .int .u64 x.k.f1, .int .i64 x.k.f2] := ⟨[.int .i64 x.kind], [.string x.k.f0, .int .u64 x.k.f1, .int .i64 x.k.f2], rfl, rfl, PC.k42_mk w x.k⟩
theorem at63 {w : World} {A : Option Addr} {n : Nat} {xs : List S63} (h : Kd.C k63 w A n xs) (i : Nat) (hi : i < n) : ∃ ad, A = some ad ∧ w.cell? (ad.add (i * 4)) = some (.int .i64 (xs.getD i z63).kind) ∧ w.cell? ⟨(ad.add (i * 4)).block, (ad.add (i * 4)).off + 1, none⟩ = some (.string (xs.getD i z63).k.f0) ∧ w.cell? ⟨(ad.add (i * 4)).block, (ad.add (i * 4)).off + 2, none⟩ = some (.int .u64 (xs.getD i z63).k.f1) ∧ w.cell? ⟨(ad.add (i * 4)).block, (ad.add (i * 4)).off + 3, none⟩ = some (.int .i64 (xs.getD i z63).k.f2) := by
  obtain ⟨ad, c, e, _, hK, hc0⟩ := Kd.C_get h z63 (i : Int) (by omega) (by omega)
  have hc : ∀ j u, c[j]? = some u → w.cell? (ad.add (i * 4 + j)) = some u := hc0
  obtain rfl := k63_open hK
  exact ⟨ad, e, hc 0 _ rfl, by rw [← add_field _ _ 1 (by omega)]; exact hc 1 _ rfl, by rw [← add_field _ _ 2 (by omega)]; exact hc 2 _ rfl, by rw [← add_field _ _ 3 (by omega)]; exact hc 3 _ rfl⟩
section
variable {H : Type} {enc : TypeId × Value → H} {w : World} {base : Nat} {spare : Nat → Bool} {held : Bool}
theorem way_form {fuel : Nat} {cs : List Value} {x : DataW H × List MemPlace} (h : DataW.trod enc Try.prog w base spare held fuel 63 cs = some x) (hl : Light 63 x.1) : ∃ y : S63, k63.K w y cs ∧ True := by
  obtain ⟨xs, n, _, hx, hcl, hlen, hf⟩ := DataW.trod_struct Try.underlying63 h
  have e63 : Try.prog.cellsOf 63 = 4 := by kernel_rfl
  have e42 : Try.prog.cellsOf 42 = 3 := by kernel_rfl
  have e3 : Try.prog.cellsOf 3 = 1 := by kernel_rfl
  rw [e63] at hcl
  match cs, hcl, xs, hlen with
  | [c0, c1, c2, c3], _, [y0, y1], _ =>
    have h0 := field_at hf 0 3 0 1 rfl e3
    have h1 := field_at hf 1 42 1 3 rfl e42
    simp only [List.drop, List.take, List.getElem?_cons_zero, List.getElem?_cons_succ] at h0 h1
    have hl' : ∀ n ∈ x.1.weights Try.prog 63, n ≤ reachBytes := hl
    rw [hx] at hl'
    simp only [DataW.weights, Try.underlying63] at hl'
    obtain ⟨y, hy, f1, f2, f3⟩ := key_form h1 (weights_part hl' (j := 1) rfl rfl)
    obtain ⟨b, hb, _, wb⟩ := DataW.trod_int Try.underlying3 h0
    simp only [List.cons.injEq, and_true] at hy hb
    obtain ⟨rfl, rfl, rfl⟩ := hy
    subst hb
    exact ⟨⟨b, y⟩, k63_mk w ⟨b, y⟩, trivial⟩
theorem ways_form {fuel : Nat} {v : Value} {x : DataW H × List MemPlace} (h : DataW.trod enc Try.prog w base spare held fuel 57 [v] = some x) (hl : Light 57 x.1) :
    ∃ A len cap xs, v = .slice A len cap ∧ Kd.C k63 w A len xs ∧ len ≤ cap ∧ len * 40 ≤ 140737488351232 ∧ (∀ p ∈ xs, True) ∧ (A = none → cap = 0) :=
  slice_form z63 k63 (fun _ => True) Try.underlying57 (by kernel_rfl) (by kernel_rfl) (fun _ _ _ hy hl => way_form hy hl) h hl
end

theorem run_append22 {W : World} {base n : Nat} {v vp : Value} {xs : List Value} (hR : W.ownsRow base 22 1 v n xs) (hp : vp.oneCell' = true) (hbase : base ≤ W.heap.size) (hl : (n + 1) * 24 ≤ 140737488355328) :
    ∃ v1 w1, (Builtin.append_ #[32, 32] 32 #[v, .slice (some ⟨W.heap.size, 0, none⟩) 1 1]).run Try.prog (W.alloc (.cells #[vp] 22)) = .ok v1 w1 ∧ w1.ownsRow base 22 1 v1 (n + 1) (xs ++ [vp]) ∧ W.grownBy w1 v.ownBlock := by
  obtain ⟨i0, hi, hzz⟩ := Option.map_eq_some_iff.1 PC.info22
  simp only [Prod.mk.injEq] at hzz
  obtain ⟨hz0, hz1, hz2⟩ := hzz
  obtain ⟨v1, w1, hrun, hown1, hg, _, hat⟩ := run_append_own_at (P := Try.prog) (W.alloc (.cells #[vp] 22)) base 32 32 22 i0 _ 1 24 (by kernel_rfl) hi hz0 hz1 hz2 rfl (by decide) v n xs (hR.alloc _) ⟨W.heap.size, 0, none⟩ 1 1 [vp] rfl
    (by simpa using World.news_of_block (cs := #[vp]) (t := 22) (fr := (0, 0)) (heap_alloc_new W (.cells #[vp] 22))) (by
      intro u hu
      rw [List.mem_singleton.1 hu]
      exact hp) (by simp only [maxLen]; omega) hl (by simp; omega)
  exact ⟨v1, w1, hrun, hown1, World.grownBy.trans (World.grownBy_alloc W _ _) hg⟩

/-- Lists that are lent: each a row of its own. -/
def Lent (w0 : World) (D : List (List PC.S44)) (i : Nat) (v : Value) (w : World) : Prop :=
  Below w0.heap.size w0 w ∧ ∃ vs, w.ownsRow w0.heap.size 22 1 v i vs ∧ ∀ j, j < i → ∃ u, vs[j]? = some u ∧ Kd.R PC.k44 44 w w0.heap.size (fun _ => True) u (D.getD j [])
theorem Lent.nil (w0 : World) (D : List (List PC.S44)) (w : World) (h : Below w0.heap.size w0 w) : Lent w0 D 0 (.slice none 0 0) w :=
  ⟨h, [], ⟨rfl, .inl ⟨rfl, rfl⟩⟩, fun j h => absurd h (Nat.not_lt_zero j)⟩
theorem Lent.below {w0 w w1 : World} {D : List (List PC.S44)} {i : Nat} {v : Value} (h : Lent w0 D i v w) (hb : Below w.heap.size w w1) : Lent w0 D i v w1 := by
  obtain ⟨h1, vs, h2, h3⟩ := h
  refine ⟨h1.trans (hb.mono h1.size), vs, own_move h2 (fun k hk => hb.block k (own_lt h2 k hk)), fun j hj => ?_⟩
  obtain ⟨u, hu, hR⟩ := h3 j hj
  exact ⟨u, hu, Kd.R_below hR hb⟩
theorem Lent.push {w0 w : World} {D : List (List PC.S44)} {i : Nat} {v : Value} (h : Lent w0 D i v w) {A0 : Option Addr} {c0 : Nat} {l : List PC.S44} (hl : D.getD i [] = l) (hC : Kd.C PC.k44 w A0 l.length l) (hll : l.length ≤ 200) (hi : i ≤ 40) :
    ∃ A1 k1 w1, (Builtin.append_ #[22, 22] 22 #[.slice (some ⟨w.heap.size, 0, none⟩) 0 0, .slice A0 l.length c0]).run Try.prog (w.alloc (.cells #[] 44)) = .ok (.slice A1 l.length k1) w1 ∧ ∃ v2 w2, (Builtin.append_ #[32, 32] 32 #[v, .slice (some ⟨w1.heap.size, 0, none⟩) 1 1]).run Try.prog (w1.alloc (.cells #[.slice A1 l.length k1] 22)) = .ok v2 w2 ∧ Lent w0 D (i + 1) v2 w2 := by
  obtain ⟨h1, vs, h2, h3⟩ := h
  have hsz := h1.size
  have bl : Below w.heap.size w (w.alloc (.cells #[] 44)) := (Below.refl _ _).alloc (Nat.le_refl _) _
  obtain ⟨v1, w1, hrun, hR, hg, hat⟩ := run_append44 (c := c0) 22 (R_empty44 w w0.heap.size hsz) (keepC hC (Nat.le_refl _) bl) (by simp; omega) (by simp; omega)
  simp only [List.nil_append] at hR
  have b1 : Below w.heap.size w w1 := bl.grown hg (by simp) (fun k hk => by simp [Value.ownBlock] at hk; omega)
  have h2' : w1.ownsRow w0.heap.size 22 1 v i vs := own_move h2 (fun k hk => b1.block k (own_lt h2 k hk))
  obtain ⟨A1, k1, hv, _⟩ := Kd.R_reads hR
  subst hv
  have hone : (Value.slice A1 l.length k1).oneCell' = true := rfl
  obtain ⟨v2, w2, hrun2, h4, hg2⟩ := run_append22 h2' hone (by have := b1.size; omega) (by omega)
  refine ⟨A1, k1, w1, hrun, v2, w2, hrun2, (h1.trans (b1.mono hsz)).grown hg2 (by have := b1.size; omega) (fun k hk => own_base h2' k hk), vs ++ [.slice A1 l.length k1], h4, fun j hj => ?_⟩
  have hvl : vs.length = i := by have := h2.1; omega
  have keep : ∀ u l', Kd.R PC.k44 44 w1 w0.heap.size (fun _ => True) u l' → Kd.R PC.k44 44 w2 w0.heap.size (fun _ => True) u l' := fun u l' hr => by
    have ht := own44 hr
    refine R_of44 (own_move ht (fun k hk => hg2.block k (own_lt ht k hk) (fun e => ?_)))
    obtain ⟨cl, hcl⟩ := own_typed ht k hk
    obtain ⟨cl2, hcl2⟩ := own_typed h2' k e.symm
    rw [hcl] at hcl2
    cases hcl2
  rcases Nat.lt_succ_iff_lt_or_eq.1 hj with hj | rfl
  · obtain ⟨u, hu, hr⟩ := h3 j hj
    exact ⟨u, by rw [List.getElem?_append_left (by omega)]; exact hu, keep _ _ (Kd.R_below hr b1)⟩
  · exact ⟨.slice A1 l.length k1, by rw [List.getElem?_append_right (by omega)]; simp [hvl], by rw [hl]; exact keep _ _ hR⟩
theorem Lent.reads {w0 w : World} {D : List (List PC.S44)} {v : Value} (h : Lent w0 D D.length v w) (hn : D.length ≤ 40) : ∃ A c, v = .slice A D.length c ∧ D.length ≤ c ∧ Kd.C (Kd.slice 44 PC.k44) w A D.length D := by
  obtain ⟨h1, vs, ⟨h2, h2'⟩, h3⟩ := h
  rcases h2' with ⟨rfl, h0⟩ | ⟨g, cap, cur, rfl, hg, hh, hc1, hc2, hc3, hc4⟩
  · rw [h0]
    exact ⟨none, 0, rfl, Nat.le_refl _, h0, by omega, fun hp => absurd hp (by omega)⟩
  · refine ⟨_, cap, rfl, hc1, rfl, by omega, fun hp => ⟨_, rfl, fun j p hj => ?_⟩⟩
    obtain ⟨hjl, hjp⟩ := List.getElem?_eq_some_iff.1 hj
    obtain ⟨u, hu, hR⟩ := h3 j hjl
    have hgd : D.getD j [] = p := by rw [List.getD_eq_getElem?_getD, hj]; rfl
    rw [hgd] at hR
    obtain ⟨A1, k1, hv, hl1, hC1⟩ := Kd.R_reads hR
    subst hv
    refine ⟨[.slice A1 p.length k1], rfl, ⟨A1, k1, rfl, hl1, hC1⟩, fun m u' hu' => ?_⟩
    rcases m with _ | m
    · obtain rfl : Value.slice A1 p.length k1 = u' := by simpa using hu'
      have hcj : cur[j]? = some (.slice A1 p.length k1) := by
        rw [← hc4, List.getElem?_take] at hu
        split at hu
        · rw [← Array.getElem?_toList]; exact hu
        · cases hu
      show w.cell? ((⟨g, 0, none⟩ : Addr).add (j * 1 + 0)) = _
      have ea : (⟨g, 0, none⟩ : Addr).add (j * 1 + 0) = ⟨g, j, none⟩ := by
        unfold Addr.add
        split
        · have : j = 0 := by omega
          subst this; rfl
        · simp
      rw [ea]
      simp [World.cell?, hh, hcj]
    · simp at hu'
end Go.Proofs.Ytehoojmalhloeaa.CM
