/- merge: few lists of few entries; that one list's entries are found among all. -/
import Derived.Test.YtehoojmalhloeaaMY
import Derived.Test.YtehoojmalhloeaaPCx10
namespace Go.Proofs.Ytehoojmalhloeaa.CM
open Go.RowKit Go.Proofs.YtehoojmalhloeaaW.PrintWords
set_option linter.unusedVariables false
set_option linter.unusedSimpArgs false
set_option maxRecDepth 100000

def cut16 (L : List (List PC.S44)) : List (List PC.S44) := (L.take 40).map (fun l => l.take 200)
theorem cut16_len (L : List (List PC.S44)) : (cut16 L).length ≤ 40 := by simp [cut16]; omega
theorem cut16_row (L : List (List PC.S44)) (j : Nat) : ((cut16 L).getD j []).length ≤ 200 := by
  rw [List.getD_eq_getElem?_getD]
  cases h : (cut16 L)[j]? with
  | none => simp
  | some l =>
    have := List.mem_of_getElem? h
    simp only [cut16, List.mem_map] at this
    obtain ⟨l', _, rfl⟩ := this
    simp
    omega
theorem w64z (n : Int) (h : -9223372036854775808 ≤ n ∧ n ≤ 9223372036854775807) : wrap64 n = n := by unfold wrap64; omega
theorem few16_l0 (L : List (List PC.S44)) (hL : L.length ≤ 40) : ∀ (n k i : Nat) (o : List (List PC.S44)), L.length - i ≤ n → n + 1 ≤ k → i ≤ L.length → o.length = i → PC.staddlelaw16_few.l0 k L o (i : Int) = some (o ++ (L.drop i).map (fun l => l.take 200))
  | n, 0, i, o, _, hk, _, _ => by omega
  | n, k + 1, i, o, hn, hk, hi, ho => by
    unfold PC.staddlelaw16_few.l0
    by_cases h : i < L.length
    · have e : PC.rd_L6 L (i : Int) = L[i] := by simp [PC.rd_L6, h]
      have ed : L.drop i = L[i] :: L.drop (i + 1) := List.drop_eq_getElem_cons h
      rw [if_pos (by omega), if_pos (by omega), e, w64z ((i : Int) + 1) (by omega), ed, List.map_cons]
      have ih : ∀ x, PC.staddlelaw16_few.l0 k L (o ++ [x]) ((i : Int) + 1) = some (o ++ x :: (L.drop (i + 1)).map (fun l => l.take 200)) := fun x => by
        have := few16_l0 L hL (n - 1) k (i + 1) (o ++ [x]) (by omega) (by omega) (by omega) (by simp [ho])
        rw [show (((i + 1 : Nat) : Int)) = (i : Int) + 1 by omega] at this
        rw [this, List.append_assoc]
        rfl
      by_cases hl : ((L[i].length : Nat) : Int) > 200
      · rw [if_pos hl, if_pos (by omega), if_pos (by omega), ih]
      · rw [if_neg hl, if_pos (by omega), ih, List.take_of_length_le (by omega)]
    · rw [if_neg (by omega), List.drop_eq_nil_of_le (by omega)]
      simp
theorem few16_f (L : List (List PC.S44)) : PC.staddlelaw16_few.f 60 L = some (cut16 L) := by
  have key : ∀ L : List (List PC.S44), L.length ≤ 40 → PC.staddlelaw16_few.j0 60 L = some (L.map (fun l => l.take 200)) := fun L hL => by
    show PC.staddlelaw16_few.l0 59 L [] 0 = _
    have := few16_l0 L hL 40 59 0 [] (by omega) (by omega) (by omega) rfl
    simpa using this
  unfold PC.staddlelaw16_few.f cut16
  by_cases h : (L.length : Int) > 40
  · rw [if_pos h, if_pos (by omega), key _ (by simp; omega)]
  · rw [if_neg h, key _ (by omega), List.take_of_length_le (by omega)]
theorem heap44 : Kd.Heap PC.k44 := ⟨fun _ h => by obtain rfl := PC.k44_open h; exact PC.k44_mk _ _⟩
theorem few16_w (A : Option Addr) (c : Nat) (L : List (List PC.S44)) (w : World) (hr : Kd.C (Kd.slice 44 PC.k44) w A L.length L) (hc : L.length ≤ c) :
    Calls Try.prog 35 #[.slice A L.length c] w fun e w' => ∃ A' c', e = .returned (.slice A' (cut16 L).length c') ∧ (cut16 L).length ≤ c' ∧ Kd.C (Kd.slice 44 PC.k44) w' A' (cut16 L).length (cut16 L) ∧ Below w.heap.size w w' := by
  refine (PC.staddlelaw16_few.calls 60 _ A c L (cut16 L) w (Kd.V_mk hc (Kd.C_F (Kd.heap_slice 44 heap44) hr)) (few16_f L)).mono ?_
  rintro e w' ⟨v, rfl, hN, hb⟩
  obtain ⟨A', c', rfl, h1, h2⟩ := Kd.N_reads hN
  exact ⟨A', c', rfl, h1, h2, hb⟩

/-- Are two entries one? -/
def eqB (x y : PC.S44) : Bool := (x.f0.f0.toList == y.f0.f0.toList && (x.f0.f1 == y.f0.f1 && (x.f0.f2 == y.f0.f2))) && (x.f1.toList == y.f1.toList)
theorem eqV44 (d : Nat) (w : World) (x y : PC.S44) :
    (Op.equalIn (d + 3) 44 (.agg #[.string x.f0.f0, .int .u64 x.f0.f1, .int .i64 x.f0.f2, .string x.f1]) (.agg #[.string y.f0.f0, .int .u64 y.f0.f1, .int .i64 y.f0.f2, .string y.f1])).run Try.prog w = .ok (eqB x y) w := PC.eqA44 d w _ _ _ _ _ _ _ _
theorem bytes_eq {a b : ByteArray} (h : a.toList = b.toList) : a = b := by
  rw [ByteArray.toList_eq, ByteArray.toList_eq] at h
  exact ByteArray.ext (Array.toList_inj.mp h)
theorem eqB_iff {x y : PC.S44} : eqB x y = true ↔ x = y := by
  constructor
  · intro h
    simp only [eqB, Bool.and_eq_true, beq_iff_eq] at h
    obtain ⟨⟨h1, h2, h3⟩, h4⟩ := h
    obtain ⟨⟨a, b, c⟩, d⟩ := x
    obtain ⟨⟨a', b', c'⟩, d'⟩ := y
    simp only at h1 h2 h3 h4
    rw [bytes_eq h1, bytes_eq h4, h2, h3]
  · rintro rfl
    simp [eqB]
theorem eqB_self (x : PC.S44) : eqB x x = true := eqB_iff.2 rfl

/-- The first that the list n's next one is found at. -/
theorem greedy {s : Sh} {n p a : Nat} (hp : p < s.N) (ha : ats s p n ≤ a) (hl : a ≤ (s.l n).length) :
    (a < (s.l n).length ∧ itm s p = (s.l n).getD a PC.z44 → ats s (p + 1) n ≤ a + 1) ∧ (¬ (a < (s.l n).length ∧ itm s p = (s.l n).getD a PC.z44) → ats s (p + 1) n ≤ a) := by
  obtain ⟨i, hi⟩ := who_lt hp
  rw [ats_some hi]
  by_cases e : i = n
  · subst e
    rw [upd_same]
    refine ⟨fun _ => by omega, fun h => ?_⟩
    rcases Nat.lt_or_eq_of_le ha with h1 | h1
    · omega
    · exfalso
      refine h ⟨by rw [← h1]; exact (who_some hi).2.1, ?_⟩
      rw [itm_some hi, ← h1]
      rfl
  · have : upd (ats s p) i (ats s p i + 1) n = ats s p n := by unfold upd; rw [if_neg (by omega)]
    rw [this]
    exact ⟨fun _ => by omega, fun _ => ha⟩
end Go.Proofs.Ytehoojmalhloeaa.CM
