/- view: one more entry in its place (With); what lies above one's number. No program in sight, but for the contract of With. -/
import Derived.Test.YtehoojmalhloeaaVQ
import Derived.Test.YtehoojmalhloeaaPCx11
namespace Go.Proofs.Ytehoojmalhloeaa.CM
open Go.RowKit Go.Proofs.YtehoojmalhloeaaW.PrintWords
set_option linter.unusedVariables false
set_option linter.unusedSimpArgs false
set_option maxRecDepth 100000

theorem refCompare_g (k : Nat) (a b : PC.S42) : PC.staddleref02_Compare.f (k + 1) a.f0 a.f1 a.f2 b.f0 b.f1 b.f2 = some (cmpK a b) := by
  rw [← refK_eq]
  unfold PC.staddleref02_Compare.f refK
  simp only [PC.staddleref02_Compare.j0]
  repeat' split
  all_goals first | rfl | (exfalso; simp_all; done) | (exfalso; simp_all; omega) | (exfalso; omega)
def withL (x : PC.S44) : List PC.S44 → List PC.S44
  | [] => [x]
  | y :: t => if cmpK x.f0 y.f0 < 0 then x :: y :: t else y :: withL x t
theorem withL_perm (x : PC.S44) : ∀ l : List PC.S44, (withL x l).Perm (x :: l)
  | [] => List.Perm.refl _
  | y :: t => by
    unfold withL
    split
    · exact List.Perm.refl _
    · exact ((withL_perm x t).cons y).trans (List.Perm.swap x y t)
theorem withL_len (x : PC.S44) (l : List PC.S44) : (withL x l).length = l.length + 1 := (withL_perm x l).length_eq
theorem withL_pw {x : PC.S44} : ∀ l : List PC.S44, l.Pairwise R → (∀ y ∈ l, ¬ E x y) → (withL x l).Pairwise R
  | [], _, _ => List.pairwise_singleton _ _
  | y :: t, h, hE => by
    obtain ⟨h1, h2⟩ := List.pairwise_cons.1 h
    unfold withL
    split
    · rename_i hlt
      refine List.pairwise_cons.2 ⟨fun z hz => ?_, h⟩
      rcases List.mem_cons.1 hz with rfl | hz
      · exact hlt
      · exact R_trans (show R x y from hlt) (h1 z hz)
    · rename_i hlt
      have hyx : R y x := by
        rcases R_total x y with g | g | g
        · exact absurd g hlt
        · exact g
        · exact absurd g (hE y (by simp))
      refine List.pairwise_cons.2 ⟨fun z hz => ?_, withL_pw t h2 (fun z hz => hE z (List.mem_cons_of_mem _ hz))⟩
      rcases List.mem_cons.1 ((withL_perm x t).mem_iff.1 hz) with rfl | hz
      · exact hyx
      · exact h1 z hz
theorem with_l0 (l : List PC.S44) (hl : l.length ≤ 1000000) (x : PC.S44) : ∀ (n k i : Nat) (o : List PC.S44) (d : Bool), l.length - i ≤ n → n + 2 ≤ k → i ≤ l.length → o.length ≤ 2 * i + 1 →
    PC.staddleref08_With.l0 k l o d (i : Int) x.f0.f0 x.f0.f1 x.f0.f2 x.f1 = some (o ++ if d = true then l.drop i else withL x (l.drop i))
  | n, 0, i, o, d, _, hk, _, _ => by omega
  | n, 1, i, o, d, _, hk, _, _ => by omega
  | n, k + 2, i, o, d, hn, hk, hi, ho => by
    unfold PC.staddleref08_With.l0
    by_cases h : i < l.length
    · have e : PC.rd_T44 l (i : Int) = l[i] := by simp [PC.rd_T44, h]
      have ed : l.drop i = l[i] :: l.drop (i + 1) := List.drop_eq_getElem_cons h
      have ih : ∀ (o' : List PC.S44) (d' : Bool), o'.length ≤ 2 * i + 3 → PC.staddleref08_With.l0 (k + 1) l o' d' ((i : Int) + 1) x.f0.f0 x.f0.f1 x.f0.f2 x.f1 = some (o' ++ if d' = true then l.drop (i + 1) else withL x (l.drop (i + 1))) := fun o' d' ho' => by
        have := with_l0 l hl x (n - 1) (k + 1) (i + 1) o' d' (by omega) (by omega) (by omega) (by omega)
        rw [show (((i + 1 : Nat) : Int)) = (i : Int) + 1 by omega] at this
        exact this
      rw [if_pos (by omega), w64z ((i : Int) + 1) (by omega), e, ed]
      cases d
      · rw [if_neg (by decide), if_pos (by omega), refCompare_g k x.f0 l[i].f0]
        simp only [Option.bind_some, Bool.false_eq_true, if_false]
        by_cases hc : cmpK x.f0 l[i].f0 < 0
        · rw [if_pos hc, if_pos (by omega), if_pos (by simp; omega), ih _ _ (by simp; omega)]
          unfold withL
          rw [if_pos hc, if_pos rfl, List.append_assoc, List.append_assoc]
          rfl
        · rw [if_neg hc, if_pos (by omega), ih _ _ (by simp; omega)]
          conv => rhs; unfold withL
          rw [if_neg hc, if_neg (by decide), List.append_assoc]
          rfl
      · rw [if_pos rfl, if_pos (by omega), if_pos (by omega), ih _ _ (by simp; omega), if_pos rfl, if_pos rfl, List.append_assoc]
        rfl
    · rw [if_neg (by omega), List.drop_eq_nil_of_le (by omega)]
      cases d
      · rw [if_neg (by decide), if_pos (by omega), if_neg (by decide)]
        rfl
      · rw [if_pos rfl, if_pos rfl, List.append_nil]
theorem with_f (l : List PC.S44) (hl : l.length ≤ 1000000) (x : PC.S44) : PC.staddleref08_With.f (l.length + 2) l x.f0.f0 x.f0.f1 x.f0.f2 x.f1 = some (withL x l) := by
  have := with_l0 l hl x l.length (l.length + 2) 0 [] false (by omega) (by omega) (by omega) (by simp)
  unfold PC.staddleref08_With.f
  simpa using this
theorem with_w (A : Option Addr) (c : Nat) (l : List PC.S44) (x : PC.S44) (w : World) (hr : Kd.C PC.k44 w A l.length l) (hc : l.length ≤ c) (hl : l.length ≤ 1000000) :
    Calls Try.prog 49 #[.slice A l.length c, .agg #[.string x.f0.f0, .int .u64 x.f0.f1, .int .i64 x.f0.f2, .string x.f1]] w fun e w' => ∃ A' c', e = .returned (.slice A' (withL x l).length c') ∧ (withL x l).length ≤ c' ∧ Kd.C PC.k44 w' A' (withL x l).length (withL x l) ∧ Below w.heap.size w w' := by
  refine (PC.staddleref08_With.calls (l.length + 2) A c l x.f0.f0 x.f0.f1 x.f0.f2 x.f1 (withL x l) w hr hc (with_f l hl x)).mono ?_
  rintro e w' ⟨v, rfl, hR, hb⟩
  obtain ⟨A', c', rfl, h1, h2⟩ := Kd.R_reads hR
  exact ⟨A', c', rfl, h1, h2, hb⟩

/-- What lies above one's number is not seen. -/
theorem vs_low (seq : Int) : ∀ (l : List PC.S44) (d : Option ByteArray), vsS seq d (l.filter (fun x => decide (x.f0.f1 ≤ seq))) = vsS seq d l
  | [], _ => rfl
  | x :: t, d => by
    by_cases h : x.f0.f1 ≤ seq
    · rw [List.filter_cons_of_pos (by simpa using h), vsS_cons, vsS_cons, vs_low seq t, vs_low seq t]
    · have hs : skp seq d x = true := by unfold skp; simp; right; omega
      rw [List.filter_cons_of_neg (by simpa using h), vsS_cons, if_pos hs, vs_low seq t]
theorem seen_low {s t : Sh} {a : List PC.S44} {seq : Int} (hs : Ris s) (ht : Ris t) (hr : a.Pairwise R) (hL : s.L = [a]) (hM : t.L = [a.filter (fun x => decide (x.f0.f1 ≤ seq))]) : seen s seq = seen t seq := by
  unfold seen
  rw [upto_one hs (l := a) (by rw [hL]; simp) hr, upto_one ht (l := a.filter (fun x => decide (x.f0.f1 ≤ seq))) (by rw [hM]; simp) (hr.sublist List.filter_sublist), vs_low]
theorem seen_join {s t : Sh} {a b j : List PC.S44} {seq : Int} (hs : Ris s) (ht : Ris t) (hj : j.Pairwise R) (hp : j.Perm (a ++ b)) (hL : s.L = [a, b]) (hM : t.L = [j]) : seen s seq = seen t seq := by
  unfold seen
  rw [upto_one hs (l := j) (by rw [hL]; simpa using hp.symm) hj, upto_one ht (l := j) (by rw [hM]; simp) hj]
end Go.Proofs.Ytehoojmalhloeaa.CM
