/- A row of entries is laid behind rows: what the built-in append leaves. Its conditions are that they are the caller's own and not too long for memory. -/
import Derived.Test.YtehoojmalhloeaaCL
namespace Go.Proofs.Ytehoojmalhloeaa.CM
open Go.RowKit Go.Proofs.YtehoojmalhloeaaW.PrintWords
set_option linter.unusedVariables false
set_option linter.unusedSimpArgs false
set_option maxRecDepth 100000

theorem R44_ok {W : World} {base : Nat} {ok : Nat → Prop} {v : Value} {xs : List PC.S44} (h : Kd.R PC.k44 44 W base (fun _ => True) v xs) (hok : ∀ k, v.ownBlock = some k → ok k) : Kd.R PC.k44 44 W base ok v xs :=
  ⟨hok, cells44 xs, own44 h, cells44_reps (fun x => PC.k44_mkM _ _ _ x) xs⟩

theorem run_append32 {W : World} {base : Nat} {v vp : Value} {xss : List (List PC.S44)} {xs : List PC.S44} (ty : TypeId)
    (hS : Kd.S (Kd.slice 44 PC.k44) 22 W base (fun k => some k ≠ vp.ownBlock) v xss) (hR : Kd.R PC.k44 44 W base (fun _ => True) vp xs) (hbase : base ≤ W.heap.size) (hl : (xss.length + 1) * 24 ≤ 140737488355328) :
    ∃ v1 w1, (Builtin.append_ #[32, 32] ty #[v, .slice (some ⟨W.heap.size, 0, none⟩) 1 1]).run Try.prog (W.alloc (.cells #[vp] 22)) = .ok v1 w1 ∧ Kd.S (Kd.slice 44 PC.k44) 22 w1 base (fun _ => True) v1 (xss ++ [xs]) ∧ W.grownBy w1 v.ownBlock := by
  obtain ⟨i0, hi, hzz⟩ := Option.map_eq_some_iff.1 PC.info22
  simp only [Prod.mk.injEq] at hzz
  obtain ⟨hz0, hz1, hz2⟩ := hzz
  have HO : Kd.S (Kd.slice 44 PC.k44) 22 W base (fun k => True ∧ ¬ (vp.ownBlock = some k)) v xss := Kd.S_mono hS (fun k hk => ⟨trivial, fun e => hk e.symm⟩)
  obtain ⟨f, hf, hT⟩ := Kd.S_tag HO xss.length (fun k => vp.ownBlock = some k) (fun _ hk h2 => h2.2 hk)
  obtain ⟨h0, inner, hown, hr⟩ := hT
  have hne : ∀ k, vp.ownBlock = some k → some k ≠ v.ownBlock := fun k hk => by
    obtain ⟨cells, hc⟩ := Kd.R_typed hR k hk
    exact Kd.R_ne (Kd.S_R hS) hc (by decide)
  have hl0 : xss.zipIdx.length = xss.length := List.length_zipIdx
  obtain ⟨v1, w1, hrun, hown1, hg, _, hat⟩ := run_append_own_at (P := Try.prog) (W.alloc (.cells #[vp] 22)) base 32 ty 22 i0 _ 1 24 (by kernel_rfl) hi hz0 hz1 hz2 rfl (by decide) v xss.zipIdx.length inner (hown.alloc _) ⟨W.heap.size, 0, none⟩ 1 1 [vp] rfl
    (by simpa using World.news_of_block (cs := #[vp]) (t := 22) (fr := (0, 0)) (heap_alloc_new W (.cells #[vp] 22))) (by
      intro u hu
      obtain ⟨A, c, hv, _⟩ := Kd.R_reads hR
      rw [List.mem_singleton.1 hu, hv]
      rfl) (by simp only [maxLen]; omega) (by rw [hl0]; exact hl) (by simp; omega)
  have hg2 : W.grownBy w1 v.ownBlock := World.grownBy.trans (World.grownBy_alloc W _ _) hg
  have hat2 : v1.ownBlock = v.ownBlock ∨ ∃ b, v1.ownBlock = some b ∧ W.heap.size ≤ b := by
    rcases hat with hat | hat
    · exact .inl hat
    · exact .inr ⟨_, hat, by simp⟩
  refine ⟨v1, w1, hrun, ⟨f, ?_⟩, hg2⟩
  have hp : (Kd.tag f (Kd.slice 44 PC.k44)).M W base (fun k => vp.ownBlock = some k) (xs, xss.length) [vp] := by
    refine (Kd.slice 44 PC.k44).M_mono (fun k hk => ⟨hk, hf k hk⟩) ?_
    exact ⟨vp, rfl, R44_ok hR (fun k hk => hk)⟩
  rw [Kd.zip_snoc]
  exact Kd.R_appended (d := Kd.tag f (Kd.slice 44 PC.k44)) (ok := fun _ => True) (fun _ _ => trivial) (Reps.imp_ hr (fun _ _ hp => (Kd.tag f (Kd.slice 44 PC.k44)).M_mono (fun k hk => ⟨trivial, hk.2⟩) hp)) hp (fun k hk => ⟨trivial, hne k hk⟩) (fun _ _ => trivial) hown1 hg2 hat2

end Go.Proofs.Ytehoojmalhloeaa.CM
