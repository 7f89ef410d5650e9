/- CompactSplits: its contract answers true. Its condition is that the entries can be read. -/
import Derived.Test.YtehoojmalhloeaaPE1
import Derived.Test.YtehoojmalhloeaaDF
import Derived.Test.YtehoojmalhloeaaDR
namespace Go.Proofs.Ytehoojmalhloeaa.CM
open Go.RowKit Go.Proofs.YtehoojmalhloeaaW.PrintWords
set_option linter.unusedVariables false
set_option linter.unusedSimpArgs false

theorem Same_mono (l : List PC.S44) (n k : Nat) (hl : l.length ≤ n) (hn : n ≤ 9223372036854775806) (hk : n + 1 ≤ k) : PC.staddleref08_Same.f k l l = some true := Same_f_refl l k (by omega) (by omega)
theorem splits_l0 (xss : List (List PC.S44)) (N : Nat) (hN : N ≤ 9223372036854775806) (hx : ∀ x ∈ xss, x.length ≤ N) (hl : xss.length ≤ 9223372036854775806) : ∀ (m k i : Nat), xss.length - i ≤ m → m + N + 2 ≤ k → i ≤ xss.length → PC.staddlelaw19_CompactSplits.l0 k true xss xss (i : Int) = some true
  | m, 0, i, _, hk, _ => by omega
  | m, k + 1, i, hm, hk, hi => by
    unfold PC.staddlelaw19_CompactSplits.l0
    by_cases h : i < xss.length
    · have hmem : PC.rd_L6 xss (i : Int) ∈ xss := by
        unfold PC.rd_L6
        simp only [Int.toNat_natCast]
        rw [List.getD_eq_getElem?_getD, List.getElem?_eq_getElem h]
        exact List.getElem_mem h
      rw [if_pos (by omega), if_pos (by omega), if_pos (by omega), Same_mono _ N k (hx _ hmem) hN (by omega), Option.bind_some, if_pos rfl, w64 ((i : Int) + 1) (by omega)]
      exact splits_l0 xss N hN hx hl (m - 1) k (i + 1) (by omega) (by omega) (by omega)
    · rw [if_neg (by omega)]
theorem splitA_flat (size : Int) (l : List PC.S44) : (splitA size l).1.flatten.length ≤ l.length ∧ (splitA size l).1.length ≤ l.length + 1 := by
  unfold splitA
  split
  · simp
  · split
    · simp only
      unfold splitL
      have h1 := runS_flat size (groups l) ([], [], 0)
      have h2 := runS_len size (groups l) ([], [], 0)
      have h3 := groups_len l
      rw [groups_flat] at h1
      obtain ⟨st, hst⟩ : ∃ st, runS size (groups l) = st := ⟨_, rfl⟩
      rw [show (groups l).foldl (stepS size) ([], [], 0) = st from hst] at h1 h2
      rw [hst]
      have h4 := congrArg List.length h1
      simp only [List.flatten_nil, List.nil_append, List.length_append, List.length_nil] at h4 h2
      split
      · omega
      · simp only [List.flatten_append, List.flatten_cons, List.flatten_nil, List.append_nil, List.length_append, List.length_cons, List.length_nil]
        omega
    · simp
theorem mem_flat_len {α : Type} : ∀ (xss : List (List α)) (x : List α), x ∈ xss → x.length ≤ xss.flatten.length
  | y :: t, x, h => by
    simp only [List.flatten_cons, List.length_append]
    rcases List.mem_cons.1 h with rfl | h
    · omega
    · have := mem_flat_len t x h
      omega
theorem splits_f (l : List PC.S44) (size : Int) (hl : l.length * 48 ≤ 140737488351232) : PC.staddlelaw19_CompactSplits.f (3 * l.length + 10) l size = some true := by
  obtain ⟨h1, h2⟩ := splitA_flat size l
  unfold PC.staddlelaw19_CompactSplits.f
  rw [show PC.staddlelaw19_awake.f = some true from rfl, Option.bind_some]
  rw [show PC.compact_Split.f (3 * l.length + 10) l size = some (splitA size l) from if_pos (by omega), Option.bind_some, refSplitA l size _ (by omega) (by omega), Option.bind_some, if_pos rfl]
  show PC.staddlelaw19_CompactSplits.j0 ((3 * l.length + 9) + 1) true (splitA size l).1 (splitA size l).1 ((splitA size l).2 != (splitA size l).2) = some true
  simp only [PC.staddlelaw19_CompactSplits.j0, bne_self_eq_false, Bool.false_eq_true, if_false]
  exact splits_l0 (splitA size l).1 l.length (by omega) (fun x hx => Nat.le_trans (mem_flat_len _ x hx) h1) (by omega) (l.length + 1) _ 0 (by omega) (by omega) (by omega)
theorem compactSplits_row (a0 : Option Addr) (len0 cap0 : Nat) (a1 : Int) (w : World)
    (F0 : ∃ A len cap xs, Value.slice a0 len0 cap0 = .slice A len cap ∧ Kd.C PC.k44 w A len xs ∧ len ≤ cap ∧ len * 48 ≤ 140737488351232 ∧ (∀ p ∈ xs, Fits p) ∧ (A = none → cap = 0)) (w1 : (Lit.int .i64 a1).wf = true) :
    Calls Try.prog 4 #[.slice a0 len0 cap0, .int .i64 a1] w fun e w' => e = .returned (.bool true) ∧ Below w.heap.size w w' := by
  obtain ⟨A, len, cap, xs, h0, h1, h2, h3, _⟩ := F0
  cases h0
  obtain rfl : xs.length = len0 := h1.1
  exact PC.staddlelaw19_CompactSplits.calls _ a0 cap0 xs a1 true w h1 h2 (splits_f xs a1 h3)

end Go.Proofs.Ytehoojmalhloeaa.CM
