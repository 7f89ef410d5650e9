/-
  Walks of slices.Clone over bytes and of Get; each states its own conditions on the world's cells.
-/
import Derived.Test.YtcdcladefccifaaG
set_option linter.unusedVariables false
set_option linter.unusedSimpArgs false
namespace Go.Proofs
open Go.RowKit BU
theorem info5 : (Try.prog.info? 5).map (fun i => (i.zero, i.size, i.bytes)) = some (some (.int .u8 0), 1, 1) := by kernel_rfl
def BU.CloneEnd (w : World) (n : Nat) (z : List Int) (e : Ending) (w' : World) : Prop :=
  ∃ v, e = .returned v ∧ w'.ownsRow w.heap.size 5 1 v n (byts z) ∧ Below w.heap.size w w'
set_option maxRecDepth 100000 in
theorem clone_walk (w : World) (ad : Addr) (n c : Nat) (z : List Int) (hz : RdB w (some ad) n z) (hn : n ≤ 140737488355328) :
    Calls Try.prog 29 #[.slice (some ad) n c] w (BU.CloneEnd w n z) := by
  obtain ⟨i0, hi, hq0, hq1, hq2⟩ := info_parts info5
  have Hi := Lib.hid hi
  have Hq0 := Lib.hid hq0
  have Hq1 := Lib.hid hq1
  have Hq2 := Lib.hid hq2
  clear hi hq0 hq1 hq2
  have Hz := Lib.hid hz
  clear hz
  have heq := fun W => Lib.run_eql_slice_nil (P := Try.prog) W 40 5 (some ad) n c 0 0 Try.underlying40
  go_enter Try.func29, Try.ntmps29
  go_wp2_with (at_builtin; refine wpList_append_own_at _ rfl _ _ 40 rfl w.heap.size 5 i0 (.int .u8 0) 1 1 Try.underlying40 Hi.out Hq0.out Hq1.out Hq2.out rfl (by decide) (.slice (some ⟨w.heap.size, 0, none⟩) 0 0) 0 [] rfl (World.ownsRow_made w #[] 0 (Nat.le_refl _) (Nat.zero_le _) rfl) ad n c (byts z) rfl ?c1 ?c2 ?c3 ?c4 ?c5 ?c6 ?_)
  case c1 => have h := Hz.out.1; simp [byts, h]
  case c2 =>
    intro j u hu
    obtain ⟨hj, rfl⟩ := BU.byts_get hu
    have h := Hz.out.1
    obtain ⟨ad', e, hc⟩ := Hz.out.2 (by omega)
    injection e with e
    subst e
    have := hc j (by omega)
    rw [World.cell?_alloc_lt _ _ _ (World.block_lt_of_cell? w _ this)]
    exact this
  case c3 =>
    intro v hv
    simp only [byts, List.mem_map] at hv
    obtain ⟨x, _, rfl⟩ := hv
    rfl
  case c4 => unfold maxLen; omega
  case c5 => omega
  case c6 => simp
  intro v' w2 ho2 hg2 _ hat
  have hb : Below w.heap.size w w2 := ((Below.refl _ _).alloc (Nat.le_refl _) _).grown hg2 (by simp) (by intro k hk; simp [Value.ownBlock] at hk; omega)
  have ho := Lib.hid (show w2.ownsRow w.heap.size 5 1 v' n (byts z) by simpa using ho2)
  have HB := Lib.hid hb
  clear ho2 hg2 hat hb
  go_wp2_with fail
  go_ret
  exact ⟨v', rfl, ho.out, HB.out⟩
/-! ### Get -/
set_option maxRecDepth 100000 in
theorem get_nil (w : World) (at_ n : Int) : Calls Try.prog 17 #[.pointer none, .int .i64 at_, .int .i64 n] w (fun e w' => e = .returned (.tuple #[.slice none 0 0, .int .i64 1]) ∧ w' = w) := by
  go_enter Try.func17, Try.ntmps17
  go_wp2_with (go_at_call 28; refine (part_nil _ _ _).mono ?_; rintro e w' ⟨rfl, rfl⟩)
  go_ret2
  exact ⟨rfl, rfl⟩
set_option maxRecDepth 100000 in
theorem get_out (w : World) (b : Nat) (used at_ n : Int) (hu : w.cell? ⟨b, 65537, none⟩ = some (.int .i64 used)) (h0 : 0 ≤ used) (h1 : used ≤ 65536) (h : Out used at_ n) :
    Calls Try.prog 17 #[.pointer (some ⟨b, 0, none⟩), .int .i64 at_, .int .i64 n] w (fun e w' => e = .returned (.tuple #[.slice none 0 0, .int .i64 1]) ∧ w' = w) := by
  go_enter Try.func17, Try.ntmps17
  go_wp2_with (go_at_call 28; refine (part_out _ _ _ _ _ hu h0 h1 h).mono ?_; rintro e w' ⟨rfl, rfl⟩)
  go_ret2
  exact ⟨rfl, rfl⟩
def BU.GetEnd (w : World) (b : Nat) (cv : Value) (S : St) (n : Nat) (z : List Int) (e : Ending) (w' : World) : Prop :=
  ∃ v, e = .returned (.tuple #[v, .int .i64 0]) ∧ w'.ownsRow w.heap.size 5 1 v n (byts z) ∧ Ar w' b cv S ∧ Below w.heap.size w w'
theorem BU.Ar.below {w w' : World} {b : Nat} {cv : Value} {S : St} (h : Ar w b cv S) (hb : Below w.heap.size w w') : Ar w' b cv S :=
  h.kept (hb.block b h.lt) (fun g hg => hb.block g ((h.own.lt g hg).2))
set_option maxRecDepth 100000 in
theorem get_walk (w : World) (b : Nat) (cv : Value) (S : St) (hA : Ar w b cv S) (at_ n : Int) (a1 : ¬ n < 0) (a2 : ¬ at_ < 0) (a3 : ¬ S.used < at_) (a4 : ¬ S.used - at_ < n) :
    Calls Try.prog 17 #[.pointer (some ⟨b, 0, none⟩), .int .i64 at_, .int .i64 n] w (BU.GetEnd w b cv S n.toNat ((S.m.drop at_.toNat).take n.toNat)) := by
  have q1 := hA.h0
  have q2 := hA.h1
  have q3 := hA.h2
  have hm := hA.hm
  have hz : RdB w (some ⟨b, if n.toNat = 0 then 0 else at_.toNat, none⟩) n.toNat ((S.m.drop at_.toNat).take n.toNat) := by
    refine ⟨by rw [List.length_take, List.length_drop, hm]; omega, fun h => ⟨_, rfl, fun j hj => ?_⟩⟩
    rw [if_neg (by omega)]
    have ea : (⟨b, at_.toNat, none⟩ : Addr).add j = ⟨b, at_.toNat + j, none⟩ := by unfold Addr.add; split <;> simp_all
    rw [ea, cellOf hA, cs_byte _ hm _ _ _ _ (by omega)]
    simp [List.getD_eq_getElem?_getD, List.getElem?_take, hj]
  have HA := Lib.hid hA
  have HZ := Lib.hid hz
  clear hA hz hm
  have hn : n.toNat ≤ 140737488355328 := by omega
  generalize (S.m.drop at_.toNat).take n.toNat = z at *
  have hu := HA.out.usedCell
  generalize ha : (⟨b, if n.toNat = 0 then 0 else at_.toNat, none⟩ : Addr) = ad at *
  have Ha := Lib.hid ha
  clear ha
  go_enter Try.func17, Try.ntmps17
  go_wp2_with (first | (go_at_call 28; refine (part_walk _ _ _ _ _ hu q1 (by omega) a1 a2 a3 a4).mono ?_; rw [Ha.out]; rintro e w' ⟨rfl, rfl⟩) | (go_at_call 29; refine (clone_walk _ _ _ _ _ HZ.out hn).mono ?_; rintro e w' ⟨v, rfl, ho, hb⟩; have Ho := Lib.hid ho; have Hb := Lib.hid hb; clear ho hb))
  go_ret2
  exact ⟨v, rfl, Ho.out, HA.out.below Hb.out, Hb.out⟩
end Go.Proofs
