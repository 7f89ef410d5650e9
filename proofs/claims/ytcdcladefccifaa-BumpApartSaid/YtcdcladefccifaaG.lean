/-
  Walks of part, Put, slices.Clone and Get; each states its own conditions on the world's cells.
-/
import Derived.Test.YtcdcladefccifaaE
import Derived.Laws.CopyOwn
set_option linter.unusedVariables false
set_option linter.unusedSimpArgs false
namespace Go.Proofs
open Go.RowKit BU
/-! ### part -/
set_option maxRecDepth 100000 in
theorem part_nil (w : World) (at_ n : Int) : Calls Try.prog 28 #[.pointer none, .int .i64 at_, .int .i64 n] w (fun e w' => e = .returned (.tuple #[.slice none 0 0, .bool false]) ∧ w' = w) := by
  go_enter Try.func28, Try.ntmps28
  go_wp2
  go_ret2
  exact ⟨rfl, rfl⟩
/-- what may not be read or written -/
def BU.Out (used at_ n : Int) : Prop := n < 0 ∨ at_ < 0 ∨ used < at_ ∨ used - at_ < n
set_option maxRecDepth 100000 in
theorem part_out (w : World) (b : Nat) (used at_ n : Int) (hu : w.cell? ⟨b, 65537, none⟩ = some (.int .i64 used)) (h0 : 0 ≤ used) (h1 : used ≤ 65536) (h : Out used at_ n) :
    Calls Try.prog 28 #[.pointer (some ⟨b, 0, none⟩), .int .i64 at_, .int .i64 n] w (fun e w' => e = .returned (.tuple #[.slice none 0 0, .bool false]) ∧ w' = w) := by
  unfold BU.Out at h
  by_cases a1 : n < 0
  · clear h
    go_enter Try.func28, Try.ntmps28
    go_wp2
    go_ret2
    exact ⟨rfl, rfl⟩
  · by_cases a2 : at_ < 0
    · clear h
      go_enter Try.func28, Try.ntmps28
      go_wp2
      go_ret2
      exact ⟨rfl, rfl⟩
    · by_cases a3 : used < at_
      · clear h
        go_enter Try.func28, Try.ntmps28
        go_wp2
        go_ret2
        exact ⟨rfl, rfl⟩
      · have a4 : used - at_ < n := by omega
        clear h
        go_enter Try.func28, Try.ntmps28
        go_wp2
        go_ret2
        exact ⟨rfl, rfl⟩
theorem alen52 : Try.prog.arrayLen 52 = 65536 := by kernel_rfl
theorem elem52 : Try.prog.elem 52 = 5 := by kernel_rfl
theorem slice52 (b i k : Nat) (h : i + k ≤ 65536) (w : World) : (Instr.sliceAt 52 (.pointer (some ⟨b, 0, none⟩)) (some (.int .i64 (i : Int))) (some (.int .i64 ((i : Int) + (k : Int)))) (some (.int .i64 ((i : Int) + (k : Int))))).run Try.prog w = .ok (.slice (some ⟨b, if k = 0 then 0 else i, none⟩) k k) w := by
  rw [run_sliceAt_array_lhm (P := Try.prog) w 52 ⟨b, 0, none⟩ (by kernel_rfl) .i64 .i64 .i64 _ _ _ (by omega) (by omega) (by omega) (by rw [alen52]; omega), elem52, Try.sizeOf5, Result.andThen_ok]
  have e1 : ((i : Int)).toNat = i := by omega
  have e2 : ((i : Int) + (k : Int)).toNat = i + k := by omega
  rw [e1, e2]
  unfold slicedAt
  have e3 : i + k - i = k := by omega
  rw [e3]
  by_cases hk : k = 0
  · rw [if_pos (by omega), if_pos hk]
  · rw [if_neg (by omega), if_neg hk]
    unfold Addr.add
    split <;> simp_all
set_option maxRecDepth 100000 in
theorem part_walk (w : World) (b : Nat) (used at_ n : Int) (hu : w.cell? ⟨b, 65537, none⟩ = some (.int .i64 used)) (h0 : 0 ≤ used) (h1 : used ≤ 65536) (a1 : ¬ n < 0) (a2 : ¬ at_ < 0) (a3 : ¬ used < at_) (a4 : ¬ used - at_ < n) :
    Calls Try.prog 28 #[.pointer (some ⟨b, 0, none⟩), .int .i64 at_, .int .i64 n] w (fun e w' => e = .returned (.tuple #[.slice (some ⟨b, if n.toNat = 0 then 0 else at_.toNat, none⟩) n.toNat n.toNat, .bool true]) ∧ w' = w) := by
  obtain ⟨k, rfl⟩ := Int.eq_ofNat_of_zero_le (show 0 ≤ n by omega)
  obtain ⟨i, rfl⟩ := Int.eq_ofNat_of_zero_le (show 0 ≤ at_ by omega)
  simp only [Int.toNat_natCast]
  have hsl := slice52 b i k (by omega)
  generalize (if k = 0 then 0 else i) = q at *
  go_enter Try.func28, Try.ntmps28
  go_wp2
  go_ret2
  exact ⟨rfl, rfl⟩

/-! ### bytes -/
def BU.byts (z : List Int) : List Value := z.map fun x => .int .u8 x
/-- a slice of bytes that is read -/
def BU.RdB (w : World) (a : Option Addr) (len : Nat) (z : List Int) : Prop :=
  z.length = len ∧ (0 < len → ∃ ad, a = some ad ∧ ∀ j, j < len → w.cell? (ad.add j) = some (.int .u8 (z.getD j 0)))
theorem BU.byts_at {z : List Int} {j : Nat} (h : j < z.length) : (byts z)[j]? = some (.int .u8 (z.getD j 0)) := by
  simp [byts, List.getElem?_eq_getElem h, List.getD_eq_getElem?_getD]
theorem BU.byts_get {z : List Int} {j : Nat} {v : Value} (h : (byts z)[j]? = some v) : j < z.length ∧ v = .int .u8 (z.getD j 0) := by
  have hj : j < z.length := by have := (List.getElem?_eq_some_iff.1 h).1; simpa [byts] using this
  exact ⟨hj, by rw [BU.byts_at hj] at h; injection h with h; exact h.symm⟩
def BU.spl (m : List Int) (i : Nat) (z : List Int) : List Int := m.take i ++ (z ++ m.drop (i + z.length))
theorem BU.spl_length (m : List Int) (i : Nat) (z : List Int) (h : i + z.length ≤ m.length) : (BU.spl m i z).length = m.length := by
  simp only [BU.spl, List.length_append, List.length_take, List.length_drop]; omega
theorem BU.cs_splice (m : List Int) (hm : m.length = 65536) (s u : Int) (cv : Value) (i : Nat) (z : List Int) (h : i + z.length ≤ 65536) :
    (ZZ.cs m s u cv).take i ++ (byts z ++ (ZZ.cs m s u cv).drop (i + z.length)) = ZZ.cs (BU.spl m i z) s u cv := by
  unfold ZZ.cs BU.spl BU.byts
  rw [List.take_append_of_le_length (by rw [List.length_map, hm]; omega), List.drop_append_of_le_length (by rw [List.length_map, hm]; omega)]
  simp only [List.map_append, List.map_take, List.map_drop, List.append_assoc]
/-! ### Put -/
theorem size5 : (Try.prog.info? 5).map (·.size) = some 1 := by kernel_rfl
set_option maxRecDepth 100000 in
theorem put_nil (w : World) (at_ : Int) (A : Option Addr) (len cap : Nat) : Calls Try.prog 19 #[.pointer none, .int .i64 at_, .slice A len cap] w (fun e w' => e = .returned (.int .i64 1) ∧ w' = w) := by
  go_enter Try.func19, Try.ntmps19
  go_wp2_with (go_at_call 28; refine (part_nil _ _ _).mono ?_; rintro e w' ⟨rfl, rfl⟩)
  go_ret
  exact ⟨rfl, rfl⟩
set_option maxRecDepth 100000 in
theorem put_out (w : World) (b : Nat) (used at_ : Int) (A : Option Addr) (len cap : Nat) (hu : w.cell? ⟨b, 65537, none⟩ = some (.int .i64 used)) (h0 : 0 ≤ used) (h1 : used ≤ 65536) (h : Out used at_ len) :
    Calls Try.prog 19 #[.pointer (some ⟨b, 0, none⟩), .int .i64 at_, .slice A len cap] w (fun e w' => e = .returned (.int .i64 1) ∧ w' = w) := by
  go_enter Try.func19, Try.ntmps19
  go_wp2_with (go_at_call 28; refine (part_out _ _ _ _ _ hu h0 h1 h).mono ?_; rintro e w' ⟨rfl, rfl⟩)
  go_ret
  exact ⟨rfl, rfl⟩
theorem BU.Ar.wrote {w : World} {b : Nat} {cv : Value} {S : St} (h : Ar w b cv S) (i : Nat) (z : List Int) (hi : i + z.length ≤ 65536) :
    Ar (w.setRow b (ZZ.cs (BU.spl S.m i z) S.size S.used cv).toArray) b cv { S with m := BU.spl S.m i z } ∧ Stp b cv cv w (w.setRow b (ZZ.cs (BU.spl S.m i z) S.size S.used cv).toArray) := by
  constructor
  · refine ⟨by rw [← h.hm]; exact BU.spl_length _ _ _ (by rw [h.hm]; exact hi), h.h0, h.h1, h.h2, h.hx, setRow_heap w b _ _ 54 _ h.blk, ?_, h.ne⟩
    exact h.own.kept (row := some b) ⟨rfl, rfl, rfl, by simp, fun k _ hk => setRow_other _ _ _ _ (fun e => hk (by rw [e]))⟩ (.inr h.ne)
  · exact ⟨rfl, rfl, rfl, by simp, fun k _ hb _ => setRow_other _ _ _ _ hb, fun k hk => .inl hk⟩
set_option maxRecDepth 100000 in
theorem put_walk (w : World) (b : Nat) (cv : Value) (S : St) (hA : Ar w b cv S) (at_ : Int) (A : Option Addr) (len cap : Nat) (z : List Int) (hz : RdB w A len z) (a2 : ¬ at_ < 0) (a3 : ¬ S.used < at_) (a4 : ¬ S.used - at_ < len) :
    Calls Try.prog 19 #[.pointer (some ⟨b, 0, none⟩), .int .i64 at_, .slice A len cap] w (fun e w' => e = .returned (.int .i64 0) ∧ Ar w' b cv { S with m := BU.spl S.m at_.toNat z } ∧ Stp b cv cv w w') := by
  obtain ⟨i, rfl⟩ := Int.eq_ofNat_of_zero_le (show 0 ≤ at_ by omega)
  have q1 := hA.h0
  have q2 := hA.h1
  have q3 := hA.h2
  have HA := Lib.hid hA
  have HZ := Lib.hid hz
  have hzl := hz.1
  have Hzl := Lib.hid hzl
  clear hA hz hzl
  by_cases h0 : len = 0
  · subst h0
    go_enter Try.func19, Try.ntmps19
    go_wp2_with (first | (go_at_call 28; refine (part_walk _ _ _ _ _ HA.out.usedCell q1 (by omega) (by omega) a2 a3 a4).mono ?_; rintro e w' ⟨rfl, rfl⟩) | (refine wpList_copy_nothing rfl _ _ 40 40 rfl 5 Try.underlying40 size5 _ A _ _ _ cap rfl rfl (by simp) ?_))
    go_ret
    have hz0 : z = [] := List.eq_nil_of_length_eq_zero Hzl.out
    subst hz0
    refine ⟨rfl, ?_, Stp.refl _ _ _⟩
    simpa [BU.spl] using HA.out
  · obtain ⟨ad, rfl, hc⟩ := HZ.out.2 (by omega)
    have Hc := Lib.hid hc
    have hpos : 0 < len := by omega
    clear h0 hc
    have hne : (len : Int).toNat ≠ 0 := by omega
    have hq : (if ((len : Int)).toNat = 0 then 0 else ((i : Int)).toNat) = i := by rw [if_neg hne]; omega
    have Hq := Lib.hid hq
    clear hq hne
    go_enter Try.func19, Try.ntmps19
    go_wp2_with (first | (go_at_call 28; refine (part_walk _ _ _ _ _ HA.out.usedCell q1 (by omega) (by omega) a2 a3 a4).mono ?_; rw [Hq.out, Int.toNat_natCast]; rintro e w' ⟨rfl, rfl⟩) | (refine wpList_copy_own rfl _ _ 40 40 rfl 5 Try.underlying40 (by kernel_rfl) b i len len ad len cap rfl rfl _ 54 HA.out.blk (byts z) ?c0 ?c1 ?c2 ?c3 ?_))
    case c0 =>
      have h2 := Hzl.out
      simp [byts, h2]
    case c1 =>
      intro j v hv
      obtain ⟨hj, rfl⟩ := BU.byts_get hv
      exact Hc.out j (by have := Hzl.out; omega)
    case c2 =>
      have h1 : (ZZ.cs S.m S.size S.used cv).length = 65539 := size_cs _ HA.out.hm _ _ _
      have h2 := Hzl.out
      simp only [byts, List.length_map, List.size_toArray, h1]
      omega
    case c3 =>
      intro v hv
      simp only [byts, List.mem_map] at hv
      obtain ⟨x, _, rfl⟩ := hv
      rfl
    have hzl := Hzl.out
    have hb : i + z.length ≤ 65536 := by omega
    rw [show ((ZZ.cs S.m S.size S.used cv).toArray.toList.take i ++ (byts z ++ (ZZ.cs S.m S.size S.used cv).toArray.toList.drop (i + (byts z).length))).toArray = (ZZ.cs (BU.spl S.m i z) S.size S.used cv).toArray from by
      rw [show (byts z).length = z.length from by simp [byts]]
      show (List.take i (ZZ.cs S.m S.size S.used cv) ++ _).toArray = _
      rw [BU.cs_splice _ HA.out.hm _ _ _ _ _ hb]]
    have hfin := Lib.hid (HA.out.wrote i z hb)
    clear hzl hb
    generalize (ZZ.cs (BU.spl S.m i z) S.size S.used cv).toArray = R at *
    go_wp2_with fail
    go_ret
    exact ⟨rfl, hfin.out.1, hfin.out.2⟩
end Go.Proofs
