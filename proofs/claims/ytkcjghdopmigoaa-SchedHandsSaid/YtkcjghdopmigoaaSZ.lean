/- sched: rows of instructions, of numbers and of programs that a statement builds: how they grow, how they read. -/
import Derived.Test.YtkcjghdopmigoaaSU
import Derived.Deep.DeepAppendWide
namespace Go.Proofs.Ytkcjghdopmigoaa.SC
open Go.RowKit Go.Proofs.YtkcjghdopmigoaaW.PrintWords
set_option linter.unusedVariables false
set_option linter.unusedSimpArgs false
set_option maxRecDepth 100000

theorem cellsI_app : ∀ xs ys : List I, cellsI (xs ++ ys) = cellsI xs ++ cellsI ys
  | [], ys => rfl
  | x :: t, ys => by
    show [_, _, _, _] ++ cellsI (t ++ ys) = [_, _, _, _] ++ cellsI t ++ cellsI ys
    rw [cellsI_app t ys, List.append_assoc]
theorem cellsI_at : ∀ (ys : List I) (j : Nat) (u : Value), (cellsI ys)[j]? = some u → ∃ p, ys[j / 4]? = some p ∧ [Value.int .i64 p.f0, .int .i64 p.f1, .int .i64 p.f2, .int .i64 p.f3][j % 4]? = some u
  | [], j, u, h => by simp [cellsI] at h
  | x :: t, j, u, h => by
    have h : ([Value.int .i64 x.f0, .int .i64 x.f1, .int .i64 x.f2, .int .i64 x.f3] ++ cellsI t)[j]? = some u := h
    by_cases hj : j < 4
    · rw [List.getElem?_append_left (by simpa using hj)] at h
      refine ⟨x, ?_, ?_⟩
      · rw [show j / 4 = 0 by omega]; rfl
      · rw [show j % 4 = j by omega]; exact h
    · rw [List.getElem?_append_right (by simp; omega)] at h
      obtain ⟨p, h1, h2⟩ := cellsI_at t (j - 4) u h
      refine ⟨p, ?_, ?_⟩
      · rw [show j / 4 = (j - 4) / 4 + 1 by omega]; exact h1
      · rw [show j % 4 = (j - 4) % 4 by omega]; exact h2
theorem C_cellsI {W : World} {a : Addr} {m : Nat} {ys : List I} (h : Kd.C kI W (some a) m ys) : ∀ (j : Nat) (u : Value), (cellsI ys)[j]? = some u → W.cell? (a.add j) = some u := fun j u hj => by
  obtain ⟨p, h1, h2⟩ := cellsI_at ys j u hj
  have hl : 0 < m := by
    have := (List.getElem?_eq_some_iff.1 h1).1
    have := h.1
    omega
  obtain ⟨b, e, hb⟩ := h.2.2 hl
  injection e with e
  subst e
  obtain ⟨cs, _, hK, hc⟩ := hb _ p h1
  obtain rfl := PSchedLocks.k35_open hK
  have := hc _ u h2
  rw [show j / 4 * kI.sz + j % 4 = j by show j / 4 * 4 + j % 4 = j; omega] at this
  exact this
theorem cellsI_one : ∀ (xs : List I) (u : Value), u ∈ cellsI xs → u.oneCell' = true
  | [], u, h => by simp [cellsI] at h
  | x :: t, u, h => by
    rcases List.mem_append.1 (show u ∈ [Value.int .i64 x.f0, .int .i64 x.f1, .int .i64 x.f2, .int .i64 x.f3] ++ cellsI t from h) with h | h
    · simp at h
      rcases h with rfl | rfl | rfl | rfl <;> rfl
    · exact cellsI_one t u h
theorem info35 : (Try.prog.info? 35).map (fun i => (i.zero, i.size, i.bytes)) = some (some (.agg #[.int .i64 0, .int .i64 0, .int .i64 0, .int .i64 0]), 4, 32) := by kernel_rfl
theorem info36 : (Try.prog.info? 36).map (fun i => (i.zero, i.size, i.bytes)) = some (some (.slice none 0 0), 1, 24) := by kernel_rfl
theorem und23 : Try.prog.underlying 23 = some (.slice 36) := by kernel_rfl
/-- Instructions. -/
theorem run_apI {W : World} {base : Nat} {v : Value} {xs ys : List I} {a : Addr} {c : Nat} (hR : W.ownsRow base 35 4 v xs.length (cellsI xs)) (hY : Kd.C kI W (some a) ys.length ys) (hl : xs.length + ys.length ≤ 1000000) (hbase : base ≤ W.heap.size) :
    ∃ v1 w1, (Builtin.append_ #[36, 36] 36 #[v, .slice (some a) ys.length c]).run Try.prog W = .ok v1 w1 ∧ w1.ownsRow base 35 4 v1 (xs ++ ys).length (cellsI (xs ++ ys)) ∧ W.grownBy w1 v.ownBlock := by
  obtain ⟨i0, hi, hzz⟩ := Option.map_eq_some_iff.1 info35
  simp only [Prod.mk.injEq] at hzz
  obtain ⟨hz0, hz1, hz2⟩ := hzz
  obtain ⟨v1, w1, hrun, h2, hg, _⟩ := run_append_own_wide (P := Try.prog) W base 36 36 35 i0 _ 4 32 (by kernel_rfl) hi hz0 hz1 hz2 rfl (by omega) v xs.length (cellsI xs) hR a ys.length c (cellsI ys) (cellsI_len ys)
    (C_cellsI hY) (cellsI_one ys) (by simp only [maxLen]; omega) (by omega) hbase
  refine ⟨v1, w1, hrun, ?_, hg⟩
  rw [List.length_append, cellsI_app]
  exact h2
theorem nums_one (xs : List Int) (u : Value) (h : u ∈ nums xs) : u.oneCell' = true := by
  unfold nums at h
  obtain ⟨x, _, rfl⟩ := List.mem_map.1 h
  rfl
theorem C_numsA {W : World} {a : Addr} {m : Nat} {ys : List Int} (h : Kd.C (Kd.int .i64) W (some a) m ys) : ∀ (j : Nat) (u : Value), (nums ys)[j]? = some u → W.cell? (a.add j) = some u := fun j u hj => by
  unfold nums at hj
  rw [List.getElem?_map] at hj
  obtain ⟨p, h1, rfl⟩ := Option.map_eq_some_iff.1 hj
  have hl : 0 < m := by
    have := (List.getElem?_eq_some_iff.1 h1).1
    have := h.1
    omega
  obtain ⟨b, e, hb⟩ := h.2.2 hl
  injection e with e
  subst e
  obtain ⟨cs, _, hK, hc⟩ := hb _ p h1
  obtain rfl : cs = [.int .i64 p] := hK
  have := hc 0 _ rfl
  rw [show j * (Kd.int .i64).sz + 0 = j by show j * 1 + 0 = j; omega] at this
  exact this
/-- Numbers. -/
theorem run_apN {W : World} {base : Nat} {v : Value} {xs ys : List Int} {a : Addr} {c : Nat} (hR : W.ownsRow base 3 1 v xs.length (nums xs)) (hY : Kd.C (Kd.int .i64) W (some a) ys.length ys) (hl : xs.length + ys.length ≤ 20000000000000) (hbase : base ≤ W.heap.size) :
    ∃ v1 w1, (Builtin.append_ #[24, 24] 24 #[v, .slice (some a) ys.length c]).run Try.prog W = .ok v1 w1 ∧ w1.ownsRow base 3 1 v1 (xs ++ ys).length (nums (xs ++ ys)) ∧ W.grownBy w1 v.ownBlock := by
  obtain ⟨i0, hi, hzz⟩ := Option.map_eq_some_iff.1 info3
  simp only [Prod.mk.injEq] at hzz
  obtain ⟨hz0, hz1, hz2⟩ := hzz
  obtain ⟨v1, w1, hrun, h2, hg, _⟩ := run_append_own_wide (P := Try.prog) W base 24 24 3 i0 _ 1 8 und24 hi hz0 hz1 hz2 rfl (by omega) v xs.length (nums xs) hR a ys.length c (nums ys) (by simp [nums])
    (C_numsA hY) (nums_one ys) (by simp only [maxLen]; omega) (by omega) hbase
  refine ⟨v1, w1, hrun, ?_, hg⟩
  rw [List.length_append, show nums (xs ++ ys) = nums xs ++ nums ys from List.map_append]
  exact h2
theorem run_apN1 {W : World} {base : Nat} {v : Value} {xs : List Int} {B : Addr} {x : Int} (hR : W.ownsRow base 3 1 v xs.length (nums xs)) (hB : W.cell? B = some (.int .i64 x)) (hl : xs.length + 1 ≤ 20000000000000) (hbase : base ≤ W.heap.size) :
    ∃ v1 w1, (Builtin.append_ #[24, 24] 24 #[v, .slice (some B) 1 1]).run Try.prog W = .ok v1 w1 ∧ w1.ownsRow base 3 1 v1 (xs ++ [x]).length (nums (xs ++ [x])) ∧ W.grownBy w1 v.ownBlock := by
  obtain ⟨i0, hi, hzz⟩ := Option.map_eq_some_iff.1 info3
  simp only [Prod.mk.injEq] at hzz
  obtain ⟨hz0, hz1, hz2⟩ := hzz
  obtain ⟨v1, w1, hrun, h2, hg, _⟩ := run_append_own_wide (P := Try.prog) W base 24 24 3 i0 _ 1 8 und24 hi hz0 hz1 hz2 rfl (by omega) v xs.length (nums xs) hR B 1 1 [.int .i64 x] rfl
    (fun j u hj => by
      rcases j with _ | j
      · obtain rfl : Value.int .i64 x = u := by simpa using hj
        have e : B.add 0 = B := by simp [Addr.add]
        rw [e]; exact hB
      · simp at hj) (fun u hu => by rw [List.mem_singleton.1 hu]; rfl) (by simp only [maxLen]; omega) (by omega) hbase
  refine ⟨v1, w1, hrun, ?_, hg⟩
  rw [List.length_append, show nums (xs ++ [x]) = nums xs ++ [.int .i64 x] from List.map_append]
  exact h2
/-- Programs: one more. -/
theorem run_apC {W : World} {base n : Nat} {v : Value} {xs : List Value} {B : Addr} {A : Option Addr} {l c : Nat} (hR : W.ownsRow base 36 1 v n xs) (hB : W.cell? B = some (.slice A l c)) (hl : n + 1 ≤ 1000000) (hbase : base ≤ W.heap.size) :
    ∃ v1 w1, (Builtin.append_ #[23, 23] 23 #[v, .slice (some B) 1 1]).run Try.prog W = .ok v1 w1 ∧ w1.ownsRow base 36 1 v1 (n + 1) (xs ++ [.slice A l c]) ∧ W.grownBy w1 v.ownBlock := by
  obtain ⟨i0, hi, hzz⟩ := Option.map_eq_some_iff.1 info36
  simp only [Prod.mk.injEq] at hzz
  obtain ⟨hz0, hz1, hz2⟩ := hzz
  obtain ⟨v1, w1, hrun, h2, hg, _⟩ := run_append_own_wide (P := Try.prog) W base 23 23 36 i0 _ 1 24 und23 hi hz0 hz1 hz2 rfl (by omega) v n xs hR B 1 1 [.slice A l c] rfl
    (fun j u hj => by
      rcases j with _ | j
      · obtain rfl : Value.slice A l c = u := by simpa using hj
        have e : B.add 0 = B := by simp [Addr.add]
        rw [e]; exact hB
      · simp at hj) (fun u hu => by rw [List.mem_singleton.1 hu]; rfl) (by simp only [maxLen]; omega) (by omega) hbase
  exact ⟨v1, w1, hrun, h2, hg⟩
/-- A literal is a row. -/
theorem own_lit {W : World} {base e size n g : Nat} {cs : Array Value} {xs : List Value} (hg : W.heap[g]? = some (.cells cs e (0, 0))) (hb : base ≤ g) (hc : cs.toList = xs) (hl : xs.length = n * size) (hn : n ≤ maxLen) : W.ownsRow base e size (.slice (some ⟨g, 0, none⟩) n n) n xs := by
  subst hc
  refine ⟨hl, .inr ⟨g, n, cs, rfl, hb, hg, Nat.le_refl _, hn, by simpa using hl, ?_⟩⟩
  rw [← hl, List.take_length]
/-- A row reads as the list of what its cells stand for. -/
theorem own_reads {α : Type} {d : Kd α} {W : World} {base e : Nat} {v : Value} {xs : List α} {cs : List Value} {n : Nat} (h : W.ownsRow base e d.sz v n cs) (hr : Reps (d.K W) d.sz xs cs) (hn : xs.length = n) : ∃ A c, v = .slice A n c ∧ n ≤ c ∧ Kd.C d W A n xs := by
  subst hn
  rcases h.2 with ⟨rfl, h0⟩ | ⟨g, cap, cur, rfl, _, hh, h1, h2, h3, h4⟩
  · refine ⟨none, 0, by rw [h0], by omega, rfl, by omega, fun h => absurd h (by omega)⟩
  · refine ⟨_, _, rfl, h1, rfl, by simp only [maxLen] at h2; omega, fun _ => ⟨_, rfl, fun j p hj => ⟨_, d.K_len (hr.2 j p hj), hr.2 j p hj, fun i u hu => ?_⟩⟩⟩
    rw [List.getElem?_take] at hu
    split at hu
    · rw [List.getElem?_drop, ← h4, List.getElem?_take] at hu
      split at hu
      · rw [add_off]
        simp only [World.cell?, hh, Nat.zero_add]
        simpa using hu
      · cases hu
    · cases hu
theorem own_readsI {W : World} {base : Nat} {v : Value} {xs : List I} (h : W.ownsRow base 35 4 v xs.length (cellsI xs)) : ∃ A c, v = .slice A xs.length c ∧ xs.length ≤ c ∧ Kd.C kI W A xs.length xs := own_reads h (cellsI_reps (R := kI.K W) (kI_mk W) xs) rfl
theorem own_readsN {W : World} {base : Nat} {v : Value} {xs : List Int} (h : W.ownsRow base 3 1 v xs.length (nums xs)) : ∃ A c, v = .slice A xs.length c ∧ xs.length ≤ c ∧ Kd.C (Kd.int .i64) W A xs.length xs := own_reads (d := Kd.int .i64) h (nums_reps (R := (Kd.int .i64).K W) (fun x => rfl) xs) rfl
/-- The same program, again and again. -/
theorem own_readsC {W : World} {base n : Nat} {v : Value} {A : Option Addr} {c : Nat} {l : List I} (h : W.ownsRow base 36 1 v n (List.replicate n (.slice A l.length c))) (hA : Kd.C kI W A l.length l) (hc : l.length ≤ c) : ∃ B d, v = .slice B n d ∧ n ≤ d ∧ Kd.C (Kd.slice 35 kI) W B n (List.replicate n l) :=
  own_reads (d := Kd.slice 35 kI) h ⟨by show _ = _ * 1; simp, fun j p hj => by
    rw [List.getElem?_replicate] at hj
    split at hj
    · cases hj
      refine ⟨A, c, ?_, hc, hA⟩
      show ((List.replicate n (Value.slice A l.length c)).drop (j * 1)).take 1 = _
      rw [Nat.mul_one, List.drop_replicate, List.take_replicate, show min 1 (n - j) = 1 by omega]
      rfl
    · cases hj⟩ (by simp)
end Go.Proofs.Ytkcjghdopmigoaa.SC
