/-
  The walk of BumpApart: it returns true in any world. No condition but that the arguments read as slices of int64 numbers.
-/
import Derived.Test.YtcdcladefccifaaS
set_option linter.unusedVariables false
set_option linter.unusedSimpArgs false
namespace Go.Proofs
open Go.RowKit BU
namespace BU
/-- behind k rounds of the first loop -/
def ApInv (w0 : World) (b : Nat) (zc : List Int) (k : Nat) (va vo vi : Value) (w : World) : Prop :=
  ∃ cv S As Ns Is, Ap w0 w b cv S va vo vi As Ns Is ∧ S.size = 65536 ∧ As.length = k ∧ Lay As Ns S.used ∧ S.used ≤ 308 * (k : Int) ∧ S.xs = zc.take k ∧ Is = (List.range (zc.take k).length).map (fun (j : Nat) => (j : Int))
def RdZ (w : World) (a : Option Addr) (len : Nat) (z : List Int) : Prop :=
  z.length = len ∧ len ≤ 9223372036854775807 ∧ ∀ j, j < len → ∃ ad, a = some ad ∧ (-9223372036854775808 ≤ z.getD j 0 ∧ z.getD j 0 ≤ 9223372036854775807) ∧ ∀ w1, Below w.heap.size w w1 → w1.cell? (ad.add j) = some (.int .i64 (z.getD j 0))
end BU
namespace BU
theorem nOf_neg (s : Int) (h : s < 0) : wrap64 (1 + -(s + 1).tmod 300) = nOf s := by
  have e : -((s + 1).tmod 300) = (-(s + 1)) % 300 := by
    rw [← Int.neg_tmod, Int.tmod_eq_emod_of_nonneg (by omega)]
  rw [e]
  unfold nOf wrap64
  rw [if_pos h]
  omega
/-- a part more -/
def ApMid (w0 : World) (b : Nat) (zc : List Int) (k : Nat) (cv : Value) (S : St) (va vo vi : Value) (w : World) : Prop :=
  ∃ As Ns Is, Ap w0 w b cv S va vo vi As Ns Is ∧ S.size = 65536 ∧ As.length = k + 1 ∧ Lay As Ns S.used ∧ S.used ≤ 308 * (k : Int) + 300 ∧ S.xs = zc.take k ∧ Is = (List.range (zc.take k).length).map (fun (j : Nat) => (j : Int))
theorem ApMid.skip {w0 w : World} {b : Nat} {zc : List Int} {k : Nat} {cv : Value} {S : St} {va vo vi : Value} (h : ApMid w0 b zc k cv S va vo vi w) (hk : zc.length ≤ k) : ApInv w0 b zc (k + 1) va vo vi w := by
  obtain ⟨As, Ns, Is, h1, h2, h3, h4, h5, h6, h7⟩ := h
  have e : zc.take (k + 1) = zc.take k := by rw [List.take_of_length_le hk, List.take_of_length_le (by omega)]
  exact ⟨cv, S, As, Ns, Is, h1, h2, h3, h4, by omega, by rw [e]; exact h6, by rw [e]; exact h7⟩
/-- .. and a cell -/
def ApCell (w0 : World) (b : Nat) (zc : List Int) (k : Nat) (cv : Value) (S : St) (va vo vi : Value) (w : World) : Prop :=
  ∃ As Ns Is, Ap w0 w b cv S va vo vi As Ns Is ∧ S.size = 65536 ∧ As.length = k + 1 ∧ Lay As Ns S.used ∧ S.used ≤ 308 * (k : Int) + 308 ∧ S.xs = zc.take (k + 1) ∧ Is = (List.range (zc.take k).length).map (fun (j : Nat) => (j : Int))
theorem ApMid.cell {w0 w w1 w2 : World} {b : Nat} {zc : List Int} {k : Nat} {cv cv1 cv2 : Value} {S : St} {va vo vi : Value} (h : ApMid w0 b zc k cv S va vo vi w) (hk : k < zc.length)
    (a1 : Ar w1 b cv1 { S with xs := S.xs ++ [0], used := S.used + 8 }) (s1 : Stp b cv cv1 w w1) (a2 : Ar w2 b cv2 { S with xs := (S.xs ++ [0]).set S.xs.length (zc.getD k 0), used := S.used + 8 }) (s2 : Stp b cv1 cv2 w1 w2) :
    ApCell w0 b zc k cv2 { S with xs := (S.xs ++ [0]).set S.xs.length (zc.getD k 0), used := S.used + 8 } va vo vi w2 := by
  obtain ⟨As, Ns, Is, h1, h2, h3, h4, h5, h6, h7⟩ := h
  refine ⟨As, Ns, Is, (h1.arena a1 s1).arena a2 s2, h2, h3, h4.more (by show S.used ≤ S.used + 8; omega), by show S.used + 8 ≤ _; omega, ?_, h7⟩
  show (S.xs ++ [0]).set S.xs.length (zc.getD k 0) = _
  rw [List.set_append_right _ _ (by omega), Nat.sub_self, h6, List.take_succ_eq_append_getElem hk]
  simp [List.getD_eq_getElem?_getD, List.getElem?_eq_getElem hk]
theorem ApCell.done {w0 w w' : World} {b : Nat} {zc : List Int} {k : Nat} {cv : Value} {S : St} {va vo vi v' : Value} {Is : List Int} {As Ns : List Int} (hk : k < zc.length) (hAp : Ap w0 w b cv S va vo vi As Ns Is) (h2 : S.size = 65536) (h3 : As.length = k + 1) (h4 : Lay As Ns S.used) (h5 : S.used ≤ 308 * (k : Int) + 308) (h6 : S.xs = zc.take (k + 1)) (h7 : Is = (List.range (zc.take k).length).map (fun (j : Nat) => (j : Int)))
    (x : Int) (hx : x = ((zc.take k).length : Int)) (ho : w'.ownsRow w0.heap.size 3 1 v' (Is ++ [x]).length (nums (Is ++ [x]))) (hg : w.grownBy w' vi.ownBlock) (hn : Nxt w.heap.size vi v') : ApInv w0 b zc (k + 1) va vo v' w' := by
  subst hx
  refine ⟨cv, S, As, Ns, _, hAp.growI ho hg hn, h2, h3, h4, by omega, h6, ?_⟩
  have e : (zc.take (k + 1)).length = (zc.take k).length + 1 := by simp; omega
  rw [e, List.range_succ, List.map_append, h7]
  rfl
/-- behind i rounds of the second loop -/
def ApF (w0 : World) (b : Nat) (zc : List Int) (k : Nat) (va vo vi : Value) (i : Nat) (w : World) : Prop :=
  ∃ cv S As Ns Is, Ap w0 w b cv S va vo vi As Ns Is ∧ As.length = k ∧ Lay As Ns S.used ∧ Filled As Ns S.m i ∧ S.xs = zc.take k ∧ Is = (List.range (zc.take k).length).map (fun (j : Nat) => (j : Int))
theorem ApInv.fill {w0 w : World} {b : Nat} {zc : List Int} {k : Nat} {va vo vi : Value} (h : ApInv w0 b zc k va vo vi w) : ApF w0 b zc k va vo vi 0 w := by
  obtain ⟨cv, S, As, Ns, Is, h1, h2, h3, h4, h5, h6, h7⟩ := h
  exact ⟨cv, S, As, Ns, Is, h1, h3, h4, fun j hj => absurd hj (by omega), h6, h7⟩
/-- what one round of the second loop meets: part i's place and size -/
def FillAt (w0 : World) (b : Nat) (zc : List Int) (k : Nat) (va vo vi : Value) (i : Nat) (x : Int) (nn : Nat) (w : World) : Prop :=
  ∃ cv S As Ns Is, Ap w0 w b cv S va vo vi As Ns Is ∧ As.length = k ∧ Lay As Ns S.used ∧ Filled As Ns S.m i ∧ S.xs = zc.take k ∧ Is = (List.range (zc.take k).length).map (fun (j : Nat) => (j : Int)) ∧ x = As.getD i 0 ∧ (nn : Int) = Ns.getD i 0
theorem FillAt.grow {w0 w w' : World} {b : Nat} {zc : List Int} {k : Nat} {va vo vi : Value} {i : Nat} {x : Int} {nn : Nat} (h : FillAt w0 b zc k va vo vi i x nn w) (hb : Below w.heap.size w w') : FillAt w0 b zc k va vo vi i x nn w' := by
  obtain ⟨cv, S, As, Ns, Is, h1, h2, h3, h4, h5, h6, h7, h8⟩ := h
  exact ⟨cv, S, As, Ns, Is, h1.grow hb, h2, h3, h4, h5, h6, h7, h8⟩
theorem ApF.at_ {w0 w : World} {b : Nat} {zc : List Int} {k : Nat} {va vo vi : Value} {i : Nat} (h : ApF w0 b zc k va vo vi i w) (hi : i < k) : ∃ (x : Int) (nn : Nat), FillAt w0 b zc k va vo vi i x nn w := by
  obtain ⟨cv, S, As, Ns, Is, h1, h2, h3, h4, h5, h6⟩ := h
  have := h3.lo i (by omega)
  exact ⟨As.getD i 0, (Ns.getD i 0).toNat, cv, S, As, Ns, Is, h1, h2, h3, h4, h5, h6, rfl, by omega⟩
/-- the two cells of part i, and that it is in the arena -/
theorem FillAt.cells {w0 w : World} {b : Nat} {zc : List Int} {k : Nat} {va vo vi : Value} {i : Nat} {x : Int} {nn : Nat} (h : FillAt w0 b zc k va vo vi i x nn w) (hi : i < k) : ∃ qa ca qo co, va = .slice (some ⟨qa, 0, none⟩) k ca ∧ vo = .slice (some ⟨qo, 0, none⟩) k co ∧ 1 ≤ nn ∧ nn ≤ 300 ∧ 0 ≤ x ∧
    qa < w.heap.size ∧ qo < w.heap.size ∧ ∀ w', Below w.heap.size w w' → w'.cell? ⟨qa, i, none⟩ = some (.int .i64 x) ∧ w'.cell? ⟨qo, i, none⟩ = some (.int .i64 (nn : Int)) := by
  obtain ⟨cv, S, As, Ns, Is, h1, h2, h3, h4, h5, h6, h7, h8⟩ := h
  have hl := h3.len
  have hlo := h3.lo i (by omega)
  obtain ⟨qa, ca, ea, ha⟩ := nums_row h1.oa (by omega)
  obtain ⟨qo, co, eo, ho⟩ := nums_row h1.oo (by omega)
  have ga := ha i (by omega)
  have go := ho i (by omega)
  have la := World.block_lt_of_cell? w _ ga
  have lo := World.block_lt_of_cell? w _ go
  refine ⟨qa, ca, qo, co, by rw [ea, h2], by rw [eo, ← hl, h2], by omega, by omega, by omega, la, lo, fun w' hb => ⟨?_, ?_⟩⟩
  · rw [hb.cell la, ga, h7]
  · rw [hb.cell lo, go, h8]
/-- part i is put -/
theorem FillAt.put {w0 w : World} {b : Nat} {zc : List Int} {k : Nat} {va vo vi : Value} {i : Nat} {x : Int} {nn : Nat} (h : FillAt w0 b zc k va vo vi i x nn w) (hi : i < k) (A : Option Addr) (cap : Nat) (hz : RdB w A nn (List.replicate nn ((i : Int) + 1))) :
    Calls Try.prog 19 #[.pointer (some ⟨b, 0, none⟩), .int .i64 x, .slice A nn cap] w fun e w' => e = .returned (.int .i64 0) ∧ ApF w0 b zc k va vo vi (i + 1) w' := by
  obtain ⟨cv, S, As, Ns, Is, h1, h2, h3, h4, h5, h6, h7, h8⟩ := h
  have hlo := h3.lo i (by omega)
  have q1 := h1.ar.h1
  have q2 := h1.ar.h2
  have q3 := h1.ar.hm
  refine (put_walk w b cv S h1.ar x A nn cap _ hz (by omega) (by omega) (by omega)).mono ?_
  rintro e w' ⟨rfl, x1, x2⟩
  refine ⟨rfl, cv, _, As, Ns, Is, h1.arena x1 x2, h2, h3, ?_, h5, h6⟩
  have := h4.more h3 (by omega) (by omega)
  rw [h7]
  rw [show (Ns.getD i 0).toNat = nn by omega] at this
  exact this
/-- a new row of bytes, filled so far -/
def Buf (W : World) (nn : Nat) (v : Int) (q : Nat) (w : World) : Prop :=
  Below W.heap.size W w ∧ w.ownsRow W.heap.size 5 1 (.slice (some ⟨W.heap.size, 0, none⟩) nn nn) nn (byts (List.replicate q v ++ List.replicate (nn - q) 0))
theorem Buf.new (W : World) (nn : Nat) (v : Int) (h : nn ≤ 300) : Buf W nn v 0 (W.alloc (.cells (madeCells #[.int .u8 0] nn) 5)) := by
  have ho := World.ownsRow_lit (base := W.heap.size) (e := 5) (size := 1) W (madeCells #[Value.int .u8 0] nn) nn (Nat.le_refl _) (by unfold maxLen; omega) (by simp [size_madeCells])
  have hl : (madeCells #[Value.int .u8 0] nn).toList = byts (List.replicate 0 v ++ List.replicate (nn - 0) 0) := by
    apply List.ext_getElem
    · simp [byts, madeCells]
    · intro i h1 h2
      simp [byts, madeCells, Nat.mod_one]
  rw [hl] at ho
  exact ⟨(Below.refl _ _).alloc (Nat.le_refl _) _, ho⟩
theorem Buf.put {W w : World} {nn : Nat} {v : Int} {q : Nat} (h : Buf W nn v q w) (hq : q < nn) : w.cell? ⟨W.heap.size, q, none⟩ = some (.int .u8 0) ∧ w.frozen? ⟨W.heap.size, q, none⟩ = false ∧ Buf W nn v (q + 1) (w.setCell ⟨W.heap.size, q, none⟩ (.int .u8 v)) := by
  have e : (byts (List.replicate q v ++ List.replicate (nn - q) 0)).set q (.int .u8 v) = byts (List.replicate (q + 1) v ++ List.replicate (nn - (q + 1)) 0) := by
    unfold byts
    rw [show nn - q = (nn - (q + 1)) + 1 by omega, List.replicate_succ, List.replicate_succ', List.map_append, List.map_append, List.map_cons, List.map_append, List.set_append_right _ _ (by simp)]
    simp
  have hs := h.2.stored q (.int .u8 v)
  rw [e] at hs
  refine ⟨?_, h.2.frozenAt q, h.1.setCell (Nat.le_refl _) _, hs.1⟩
  rw [h.2.cellAt q (by omega), BU.byts_at (by simp; omega)]
  have e0 : (List.replicate q v ++ List.replicate (nn - q) 0).getD q 0 = 0 := by
    rw [List.getD_eq_getElem?_getD, List.getElem?_append_right (by simp), List.length_replicate, Nat.sub_self, List.getElem?_replicate, if_pos (by omega)]
    rfl
  rw [e0]
theorem Buf.full {W w : World} {nn : Nat} {v : Int} (h : Buf W nn v nn w) : RdB w (some ⟨W.heap.size, 0, none⟩) nn (List.replicate nn v) := by
  have h2 := h.2
  rw [Nat.sub_self, List.replicate_zero, List.append_nil] at h2
  refine ⟨by simp, fun hp => ⟨_, rfl, fun j hj => ?_⟩⟩
  exact h2.cells (g := W.heap.size) rfl j (.int .u8 ((List.replicate nn v).getD j 0)) (BU.byts_at (by simpa using hj))
theorem ApF.grow {w0 w w' : World} {b : Nat} {zc : List Int} {k : Nat} {va vo vi : Value} {i : Nat} (h : ApF w0 b zc k va vo vi i w) (hb : Below w.heap.size w w') : ApF w0 b zc k va vo vi i w' := by
  obtain ⟨cv, S, As, Ns, Is, h1, h2⟩ := h
  exact ⟨cv, S, As, Ns, Is, h1.grow hb, h2⟩
/-- what a Get of part j gives -/
def GotEnd (w0 : World) (b : Nat) (zc : List Int) (k : Nat) (va vo vi : Value) (j nn : Nat) (w' : World) (e : Ending) (w'' : World) : Prop :=
  ∃ v, e = .returned (.tuple #[v, .int .i64 0]) ∧ ApF w0 b zc k va vo vi k w'' ∧ w''.ownsRow w'.heap.size 5 1 v nn (byts (List.replicate nn ((j : Int) + 1))) ∧ Below w'.heap.size w' w''
theorem ApF.getc {w0 w : World} {b : Nat} {zc : List Int} {k : Nat} {va vo vi : Value} (h : ApF w0 b zc k va vo vi k w) {j : Nat} (hj : j < k) :
    ∃ (x : Int) (nn : Nat), FillAt w0 b zc k va vo vi j x nn w ∧ ∀ w', Below w.heap.size w w' → Calls Try.prog 17 #[.pointer (some ⟨b, 0, none⟩), .int .i64 x, .int .i64 (nn : Int)] w' (GotEnd w0 b zc k va vo vi j nn w') := by
  obtain ⟨cv, S, As, Ns, Is, h1, h2, h3, h4, h5, h6⟩ := h
  have hlo := h3.lo j (by omega)
  have q1 := h1.ar.h1
  have q2 := h1.ar.h2
  have q3 := h1.ar.hm
  refine ⟨As.getD j 0, (Ns.getD j 0).toNat, ⟨cv, S, As, Ns, Is, h1, h2, h3, fun t ht => h4 t (by omega), h5, h6, rfl, by omega⟩, fun w' hb => ?_⟩
  refine (get_walk w' b cv S (h1.ar.below hb) (As.getD j 0) ((Ns.getD j 0).toNat : Int) (by omega) (by omega) (by omega) (by omega)).mono ?_
  rintro e w'' ⟨v, rfl, ho, ha, hb'⟩
  have hz : (S.m.drop (As.getD j 0).toNat).take ((Ns.getD j 0).toNat : Int).toNat = List.replicate (Ns.getD j 0).toNat ((j : Int) + 1) := by
    apply List.ext_getElem
    · rw [List.length_take, List.length_drop, List.length_replicate]; omega
    · intro q g1 g2
      rw [List.length_replicate] at g2
      rw [List.getElem_replicate, List.getElem_take, List.getElem_drop]
      have := h4 j hj q (by omega)
      rw [List.getD_eq_getElem?_getD, List.getElem?_eq_getElem (by omega)] at this
      exact this
  rw [hz] at ho
  rw [Int.toNat_natCast] at ho
  exact ⟨v, rfl, ⟨cv, S, As, Ns, Is, (h1.grow hb).grow hb', h2, h3, h4, h5, h6⟩, ho, hb'⟩
theorem got_row {w : World} {base nn : Nat} {v : Value} {x : Int} (h : w.ownsRow base 5 1 v nn (byts (List.replicate nn x))) (hn : 0 < nn) : ∃ Q cap, v = .slice (some ⟨Q, 0, none⟩) nn cap ∧ ∀ q, q < nn → w.cell? ⟨Q, q, none⟩ = some (.int .u8 x) := by
  rcases h.2 with ⟨_, hz⟩ | ⟨q, cap, cur, hv, _⟩
  · omega
  · refine ⟨q, cap, hv, fun j hj => ?_⟩
    rw [hv] at h
    rw [h.cellAt j (by omega), BU.byts_at (by simpa using hj), rep_getD _ _ _ hj]
theorem ApF.below {w0 w : World} {b : Nat} {zc : List Int} {k : Nat} {va vo vi : Value} {i : Nat} (h : ApF w0 b zc k va vo vi i w) : Below w0.heap.size w0 w := by
  obtain ⟨cv, S, As, Ns, Is, h1, _⟩ := h
  exact h1.below
theorem ApF.ids {w0 w : World} {b : Nat} {zc : List Int} {k : Nat} {va vo vi : Value} {ql : Nat} (h : ApF w0 b zc k va vo vi k w) (hq : (zc.take k).length = ql) {p : Nat} (hp : p < ql) :
    ∃ qi ci, vi = .slice (some ⟨qi, 0, none⟩) ql ci ∧ w.cell? ⟨qi, p, none⟩ = some (.int .i64 (p : Int)) ∧ Calls Try.prog 13 #[.pointer (some ⟨b, 0, none⟩), .int .i64 (p : Int)] w fun e w' => e = .returned (.tuple #[.int .i64 (zc.getD p 0), .int .i64 0]) ∧ ApF w0 b zc k va vo vi k w' := by
  obtain ⟨cv, S, As, Ns, Is, h1, h2, h3, h4, h5, h6⟩ := h
  have hIl : Is.length = ql := by rw [h6, List.length_map, List.length_range, hq]
  obtain ⟨qi, ci, ei, hi⟩ := nums_row h1.oi (by omega)
  have hpi := hi p (by omega)
  have hg : Is.getD p 0 = (p : Int) := by
    rw [h6, List.getD_eq_getElem?_getD, List.getElem?_map, List.getElem?_range (by omega)]
    rfl
  rw [hg] at hpi
  refine ⟨qi, ci, by rw [ei, hIl], hpi, ?_⟩
  refine (load_any w b cv S h1.ar (p : Int) (by omega) (by rw [h5, hq]; omega)).mono ?_
  rintro e w' ⟨rfl, x1, x2⟩
  refine ⟨?_, cv, S, As, Ns, Is, h1.arena x1 x2, h2, h3, h4, h5, h6⟩
  have hk : p < k := by rw [List.length_take] at hq; omega
  rw [Int.toNat_natCast, h5]
  simp only [List.getD_eq_getElem?_getD, List.getElem?_take, hk, if_true]
end BU
/-- append(v, x) to a row of whole numbers -/
theorem BU.wpList_append_int {w : World} {ops : Array Oper} {rest : List Oper} {o : Oper} {a : Act} {Q : Exit → Act → World → Prop} (hgd : o.guard = none) (s x : Operand)
    (ho : o.op = .call { callee := .builtin .append, args := #[s, x], argTypes := #[23, 23] }) (base : Nat) (v : Value) (xs : List Int) (y : Int) (hs : a.eval s = v) (hown : w.ownsRow base 3 1 v xs.length (nums xs))
    (hx : a.eval x = .slice (some ⟨w.heap.size, 0, none⟩) 1 1) (hl : xs.length ≤ 1000) (hbase : base ≤ w.heap.size)
    (h : ∀ v' w', w'.ownsRow base 3 1 v' (xs ++ [y]).length (nums (xs ++ [y])) → w.grownBy w' v.ownBlock → Nxt w.heap.size v v' → wpList Try.prog ops Q rest (a.put o.dst v') w') :
    wpList Try.prog ops Q (o :: rest) a (w.alloc (.cells #[.int .i64 y] 3)) := by
  obtain ⟨i0, hi, hq0, hq1, hq2⟩ := info_parts info3
  refine wpList_append_own_at _ hgd s x 23 ho base 3 i0 (.int .i64 0) 1 8 Try.underlying23 hi hq0 hq1 hq2 rfl (by decide) v xs.length (nums xs) hs (hown.alloc _) ⟨w.heap.size, 0, none⟩ 1 1 [.int .i64 y] hx rfl (cell_one_new _ _ _) ?_ (by unfold maxLen; omega) (by omega) (by simp; omega) ?_
  · intro u hu; simp at hu; subst hu; rfl
  · intro v' w' h1 h2 _ hat
    refine h v' w' (by simpa [nums] using h1) (World.grownBy.trans (World.grownBy_alloc w _ _) h2) ?_
    intro k hk
    rcases hat with e | e
    · exact .inl (e ▸ hk)
    · rw [e] at hk; injection hk with hk; exact .inr (by simp at hk; omega)
set_option maxRecDepth 100000 in
set_option maxHeartbeats 1600000 in
theorem apart_walk (a : Option Addr) (len cap : Nat) (z : List Int) (a2 : Option Addr) (len2 cap2 : Nat) (zc : List Int) (w : World) (hr : RdZ w a len z) (hr2 : RdZ w a2 len2 zc) :
    Calls Try.prog 6 #[.slice a len cap, .slice a2 len2 cap2] w (fun e w' => e = .returned (.bool true) ∧ Below w.heap.size w w') := by
  have hm := hr.2.1
  have hm2 := hr2.2.1
  have Hr := Lib.hid hr
  have Hr2 := Lib.hid hr2
  clear hr hr2
  go_enter Try.func6, Try.ntmps6
  go_wp2_with fail
  refine (awake_any w).mono ?_
  rintro e w1 ⟨rfl, b1⟩
  have B1 := Lib.hid b1
  clear b1
  go_wp2_with fail
  refine (new_any w1 65536 (by omega) (by omega)).mono ?_
  rintro e w2 ⟨rfl, ar2, b2⟩
  have hinv : ApInv w w1.heap.size zc 0 (.slice none 0 0) (.slice none 0 0) (.slice none 0 0) w2 := by
    have nn : ∀ k, (Value.slice none 0 0).ownBlock ≠ some k := fun k hk => by cases hk
    exact ⟨_, _, [], [], [], ⟨ar2, B1.out.trans (b2.mono B1.out.size), B1.out.size, fun k hk => (nn k hk).elim, World.ownsRow_nil _ _ 3 1, World.ownsRow_nil _ _ 3 1, World.ownsRow_nil _ _ 3 1, nn _, nn _, nn _, fun k hk => (nn k hk).elim, fun k hk => (nn k hk).elim, fun k hk => (nn k hk).elim, fun k hk => (nn k hk).elim, fun k hk => (nn k hk).elim, fun k hk => (nn k hk).elim⟩,
      rfl, rfl, Lay.nil, by simp, by simp, by simp⟩
  have Hinv := Lib.hid hinv
  clear hinv ar2 b2 B1
  generalize w1.heap.size = b at *
  go_wp2_with fail
  go_loopw [8, 9, 10, 11] (fun va vo vi i wr => ∃ k : Nat, k ≤ len ∧ k ≤ 50 ∧ i = .int .i64 k ∧ ApInv w b zc k va vo vi wr) (fun _ _ _ i _ => len - (intOf i).toNat)
  case atStart => exact ⟨0, by omega, by omega, rfl, Hinv.out⟩
  case round =>
    obtain ⟨k, hk, hk50, rfl, hinv⟩ := hrel
    obtain ⟨cv, S, As, Ns, Is, hap, hsz, hlen, hlay, hused, hxs, hIs⟩ := hinv
    by_cases hlt : k < len ∧ k < 50
    · obtain ⟨h1, h2⟩ := hlt
      obtain ⟨ad, ha, ⟨hs1, hs2⟩, hc⟩ := Hr.out.2.2 k h1
      subst ha
      have hc := hc wr hap.below
      generalize z.getD k 0 = s at *
      have q0 := hap.ar.h0
      have hn := nOf_range s
      have hroom : 400 ≤ S.size - S.used := by omega
      have hla : As.length ≤ 1000 := by omega
      have hln : Ns.length ≤ 1000 := by rw [← hlay.len]; omega
      have e1 := Lib.hid (nOf_neg s)
      have e2 := Lib.hid (show 0 ≤ s → 1 + s % 300 = nOf s from fun h => by unfold nOf; rw [if_neg (by omega)])
      have hmid : ∀ w2 w3 w4 u8' u9', Ar w2 b cv { S with used := S.used + nOf s } → Stp b cv cv wr w2 → w3.ownsRow w.heap.size 3 1 u8' (As ++ [S.used]).length (nums (As ++ [S.used])) → w2.grownBy w3 u8.ownBlock → Nxt w2.heap.size u8 u8' →
          w4.ownsRow w.heap.size 3 1 u9' (Ns ++ [nOf s]).length (nums (Ns ++ [nOf s])) → w3.grownBy w4 u9.ownBlock → Nxt w3.heap.size u9 u9' → ApMid w b zc k cv { S with used := S.used + nOf s } u8' u9' u10 w4 := by
        intro w2 w3 w4 u8' u9' x1 x2 x3 x4 x5 x6 x7 x8
        exact ⟨_, _, Is, ((hap.arena x1 x2).growA x3 x4 x5).growO x6 x7 x8, hsz, by simp [hlen], hlay.snoc q0 hn.1 hn.2, by show S.used + nOf s ≤ _; omega, hxs, hIs⟩
      have hoA : ∀ w2, Ar w2 b cv { S with used := S.used + nOf s } → Stp b cv cv wr w2 → w2.ownsRow w.heap.size 3 1 u8 As.length (nums As) ∧ w.heap.size ≤ w2.heap.size := fun w2 x1 x2 => ⟨(hap.arena x1 x2).oa, (hap.arena x1 x2).below.size⟩
      have hoN : ∀ w2 w3 u8', Ar w2 b cv { S with used := S.used + nOf s } → Stp b cv cv wr w2 → w3.ownsRow w.heap.size 3 1 u8' (As ++ [S.used]).length (nums (As ++ [S.used])) → w2.grownBy w3 u8.ownBlock → Nxt w2.heap.size u8 u8' → w3.ownsRow w.heap.size 3 1 u9 Ns.length (nums Ns) ∧ w.heap.size ≤ w3.heap.size :=
        fun w2 w3 u8' x1 x2 x3 x4 x5 => ⟨((hap.arena x1 x2).growA x3 x4 x5).oo, ((hap.arena x1 x2).growA x3 x4 x5).below.size⟩
      have Hmid := Lib.hid hmid
      have HoA := Lib.hid hoA
      have HoN := Lib.hid hoN
      have Har := Lib.hid hap.ar
      clear hap hlay hxs hIs hlen hmid hoA hoN Hinv hsz
      by_cases hneg : s < 0
      all_goals
        go_wp2_with fail
        first | rw [e1.out hneg] | rw [e2.out (by omega)]
        refine (alloc_any _ _ _ _ Har.out (nOf s) hn.1 (by omega)).mono ?_
        rintro e w2 ⟨rfl, x1, x2⟩
        have X1 := Lib.hid x1
        have X2 := Lib.hid x2
        clear x1 x2
        generalize nOf s = n at *
        go_wp2_with (first | (at_builtin; refine BU.wpList_append_int rfl _ _ rfl w.heap.size u8 As S.used rfl (HoA.out _ X1.out X2.out).1 rfl hla (HoA.out _ X1.out X2.out).2 ?_; intro u8' w3 x3 x4 x5; have X3 := Lib.hid x3; have X4 := Lib.hid x4; have X5 := Lib.hid x5; clear x3 x4 x5) | (at_builtin; refine BU.wpList_append_int rfl _ _ rfl w.heap.size u9 Ns n rfl (HoN.out _ _ _ X1.out X2.out X3.out X4.out X5.out).1 rfl hln (HoN.out _ _ _ X1.out X2.out X3.out X4.out X5.out).2 ?_; intro u9' w4 x6 x7 x8; have HM := Lib.hid (Hmid.out _ _ _ _ _ X1.out X2.out X3.out X4.out X5.out x6 x7 x8); clear x6 x7 x8))
        · have hk2 : k < len2 := by omega
          obtain ⟨As', Ns', Is', m1, m2, m3, m4, m5, m6, m7⟩ := HM.out
          have hxl : S.xs.length = (zc.take k).length := congrArg List.length m6
          have hr8 : 8 ≤ S.size - (S.used + n) := by omega
          have hIl : Is'.length ≤ 1000 := by rw [m7]; simp; omega
          obtain ⟨ad2, ha2, _, hc2⟩ := Hr2.out.2.2 k hk2
          subst ha2
          have hzl := Hr2.out.1
          have M1 := Lib.hid m1
          have M2 := Lib.hid m2
          have M3 := Lib.hid m3
          have M4 := Lib.hid m4
          have M6 := Lib.hid m6
          have M7 := Lib.hid m7
          have Hc2 := Lib.hid hc2
          have Hxl := Lib.hid hxl
          have Hzl := Lib.hid hzl
          clear m1 m2 m3 m4 m5 m6 m7 hc2 hxl hzl
          refine (newcell_walk _ _ _ _ M1.out.ar hr8).mono ?_
          rintro e w5 ⟨rfl, cv5, y1, y2⟩
          have hc5 := Hc2.out w5 (M1.out.arena y1 y2).below
          have Y1 := Lib.hid y1
          have Y2 := Lib.hid y2
          clear y1 y2
          generalize hy : zc.getD k 0 = y at *
          have Hy := Lib.hid hy
          clear hy
          go_wp2_with fail
          refine (store_any _ _ _ _ Y1.out _ y (by omega) (by show (S.xs.length : Int) < ((S.xs ++ [0]).length : Int); rw [List.length_append]; simp; omega)).mono ?_
          rintro e w6 ⟨rfl, y3, y4⟩
          have hcell := HM.out.cell (by have := Hzl.out; omega) Y1.out Y2.out (by rw [Hy.out]; simpa using y3) y4
          clear y3 y4
          obtain ⟨As6, Ns6, Is6, p1, p2, p3, p4, p5, p6, p7⟩ := hcell
          have hI6 : Is6.length ≤ 1000 := by rw [p7]; simp; omega
          have P1 := Lib.hid p1
          have hfin := Lib.hid (fun (w7 : World) (v' : Value) (ho : w7.ownsRow w.heap.size 3 1 v' (Is6 ++ [(S.xs.length : Int)]).length (nums (Is6 ++ [(S.xs.length : Int)]))) (hg : w6.grownBy w7 u10.ownBlock) (hn : Nxt w6.heap.size u10 v') => ApCell.done (by have := Hzl.out; omega) P1.out p2 p3 p4 p5 p6 p7 _ (by rw [Hxl.out]) ho hg hn)
          clear p1 p2 p3 p4 p5 p6 p7 HM M1 M2 M3 M4 M6 M7 Y1 Y2 Hy Hc2 hc5 X1 X2 X3 X4 X5
          go_wp2_with (at_builtin; refine BU.wpList_append_int rfl _ _ rfl w.heap.size u10 Is6 (S.xs.length : Int) rfl P1.out.oi rfl hI6 P1.out.below.size ?_; intro ui' w7 x6 x7 x8; have HF := Lib.hid (hfin.out _ _ x6 x7 x8); clear x6 x7 x8)
          go_roundw
          case rel => exact ⟨k + 1, by omega, by omega, by go_num, HF.out⟩
          case measure => simp [intOf]; omega
        · go_roundw
          case rel => exact ⟨k + 1, by omega, by omega, by go_num, HM.out.skip (by have := Hr2.out.1; omega)⟩
          case measure => simp [intOf]; omega
    · have hf0 := Lib.hid (ApInv.fill ⟨cv, S, As, Ns, Is, hap, hsz, hlen, hlay, hused, hxs, hIs⟩)
      obtain ⟨A8, c8, rfl⟩ := own_form3 (show wr.ownsRow w.heap.size 3 1 u8 k (nums As) by rw [← hlen]; exact hap.oa)
      obtain ⟨ql, hql⟩ : ∃ ql, (zc.take k).length = ql := ⟨_, rfl⟩
      obtain ⟨A10, c10, rfl⟩ := own_form3 (show wr.ownsRow w.heap.size 3 1 u10 ql (nums Is) by
        have := hap.oi
        rw [hIs] at this ⊢
        rw [List.length_map, List.length_range] at this
        rw [hql] at this ⊢
        exact this)
      have Hql := Lib.hid hql
      clear hql
      clear hap hsz hlen hlay hused hxs hIs Hinv
      have hend : k < len → ¬ k < 50 := fun h1 h2 => hlt ⟨h1, h2⟩
      have Hend := Lib.hid hend
      clear hlt hend
      by_cases hl : k < len
      all_goals
        try have hl2 := Hend.out hl
        clear Hend
        go_wp2_with fail
        go_loopw [17] (fun t wr => ∃ i : Nat, i ≤ k ∧ t = .int .i64 i ∧ ApF w b zc k (.slice A8 k c8) u9 (.slice A10 ql c10) i wr) (fun t _ => k - (intOf t).toNat)
        case atStart => exact ⟨0, by omega, rfl, hf0.out⟩
        case round =>
          obtain ⟨i, hi, rfl, hfi⟩ := hrel
          by_cases hik : i < k
          · obtain ⟨x, nn, hfa⟩ := hfi.at_ hik
            obtain ⟨qa, ca, qo, co, ea, eo, n1, n2, x0, la, lo, hc⟩ := hfa.cells hik
            injection ea with ea _ ec
            subst ea ec eo
            have c1 := (hc _ (Below.refl _ _)).1
            have c2 := (hc _ (Below.refl _ _)).2
            have hmk := fun W => Go.run_make_row' (P := Try.prog) 40 5 (.int .u8 0) 1 Try.underlying40 info5 rfl .i64 .i64 nn (by omega) (by omega) W
            have Hfa := Lib.hid hfa
            have Hc := Lib.hid hc
            clear hfa hfi hf0 hc
            have hbuf := Lib.hid (Buf.new wr nn ((i : Int) + 1) n2)
            go_wp2_with fail
            go_loopw [19] (fun t wq => ∃ q : Nat, q ≤ nn ∧ t = .int .i64 q ∧ Buf wr nn ((i : Int) + 1) q wq) (fun t _ => nn - (intOf t).toNat)
            case atStart => exact ⟨0, by omega, rfl, hbuf.out⟩
            case round =>
              obtain ⟨q, hq, rfl, hbf⟩ := hrel
              have d2 := (Hc.out _ hbf.1).2
              have d1 := (Hc.out _ hbf.1).1
              have HBf := Lib.hid hbf
              clear hbf hbuf c1 c2 hmk
              by_cases hqn : q < nn
              · obtain ⟨g1, g2, g3⟩ := HBf.out.put hqn
                have G3 := Lib.hid g3
                clear g3
                go_wp2_with fail
                go_roundw
                case rel => exact ⟨q + 1, by omega, by go_num, G3.out⟩
                case measure => simp [intOf]; omega
              · obtain rfl : q = nn := by omega
                go_wp2_with fail
                refine ((Hfa.out.grow HBf.out.1).put hik (some ⟨_, 0, none⟩) q HBf.out.full).mono ?_
                rintro e w9 ⟨rfl, hf9⟩
                have HF9 := Lib.hid hf9
                clear hf9 d1 d2 HBf Hfa Hc
                go_wp2_with fail
                go_roundw
                case rel => exact ⟨i + 1, by omega, by go_num, HF9.out⟩
                case measure => simp [intOf]; omega
          · obtain rfl : i = k := by omega
            have hf0 := Lib.hid hfi
            clear hfi
            go_wp2_with fail
            go_loopw [20] (fun t wr => ∃ j : Nat, j ≤ i ∧ t = .int .i64 j ∧ ApF w b zc i (.slice A8 i c8) u9 (.slice A10 ql c10) i wr) (fun t _ => i - (intOf t).toNat)
            case atStart => exact ⟨0, by omega, rfl, hf0.out⟩
            case round =>
              obtain ⟨j, hj, rfl, hfj⟩ := hrel
              by_cases hji : j < i
              · obtain ⟨x, nn, hfa, hget⟩ := hfj.getc hji
                have Hget := Lib.hid hget
                clear hget
                obtain ⟨qa, ca, qo, co, ea, eo, n1, n2, x0, la, lo, hc⟩ := hfa.cells hji
                injection ea with ea _ ec
                subst ea ec eo
                have c1 := (hc _ (Below.refl _ _)).1
                have c2 := (hc _ (Below.refl _ _)).2
                have Hfa := Lib.hid hfa
                have Hc := Lib.hid hc
                clear hfa hfj hf0 hc
                go_wp2_with fail
                have d1 := (Hc.out wr.drew (Below.refl _ _).drew).1
                have d2 := (Hc.out wr.drew (Below.refl _ _).drew).2
                go_region_held3 (fun w' => w'.cell? ⟨qa, j, none⟩ = some (.int .i64 x) ∧ w'.cell? ⟨qo, j, none⟩ = some (.int .i64 (nn : Int))) (go_keep) (first | (go_at_call 17; refine Calls.mono (Hget.out _ ?_) ?_; (exact (Below.refl _ _).drew); rintro e w9 ⟨v, rfl, hgf, hgo, hgb⟩; have HGf := Lib.hid hgf; have HGo := Lib.hid hgo; have hgb2 := (Below.refl wr.heap.size wr).drew.trans (hgb.mono (Nat.le_refl _)); have e1 := (Hc.out w9 hgb2).1; have e2 := (Hc.out w9 hgb2).2; clear hgf hgo hgb hgb2))
                all_goals
                  obtain ⟨Q, capv, rfl, hrow⟩ := got_row HGo.out (by omega)
                  have Hrow := Lib.hid hrow
                  clear hrow d1 d2 c1 c2 Hfa Hc Hget
                  go_wp2_with fail
                  go_loop [23] (fun t => ∃ q : Nat, q ≤ nn ∧ t = .int .i64 q) (fun t => nn - (intOf t).toNat)
                  case atStart => exact ⟨0, by omega, rfl⟩
                  case round =>
                    obtain ⟨q, hq, rfl⟩ := hrel
                    by_cases hqn : q < nn
                    · have hcq := Hrow.out q hqn
                      go_wp2_with fail
                      go_round
                      case rel => exact ⟨q + 1, by omega, by go_num⟩
                      case measure => simp [intOf]; omega
                    · go_wp2_with fail
                      go_roundw
                      case rel => exact ⟨j + 1, by omega, by go_num, HGf.out⟩
                      case measure => simp [intOf]; omega
              · have hf6 := Lib.hid hfj
                clear hfj hf0
                go_wp2_with fail
                go_loopw [24] (fun t wr => ∃ p : Nat, p ≤ ql ∧ t = .int .i64 p ∧ ApF w b zc i (.slice A8 i c8) u9 (.slice A10 ql c10) i wr) (fun t _ => ql - (intOf t).toNat)
                case atStart => exact ⟨0, by omega, rfl, hf6.out⟩
                case round =>
                  obtain ⟨p, hp, rfl, hfp⟩ := hrel
                  have hql := Hql.out
                  have hzl := Hr2.out.1
                  have hle : ql ≤ len2 := by rw [← hql, List.length_take]; omega
                  clear hql hzl
                  by_cases hpq : p < ql
                  · obtain ⟨qi, ci, ei, hci, hld⟩ := hfp.ids Hql.out hpq
                    injection ei with ei _ ec
                    subst ei ec
                    obtain ⟨ad2, ha2, _, hc2⟩ := Hr2.out.2.2 p (by omega)
                    subst ha2
                    have hbel := hfp.below
                    have Hld := Lib.hid hld
                    have Hc2 := Lib.hid hc2
                    generalize zc.getD p 0 = y at *
                    clear hld hc2 hfp hf6
                    go_wp2_with fail
                    refine Hld.out.mono ?_
                    rintro e w9 ⟨rfl, hf9⟩
                    have HF9 := Lib.hid hf9
                    have hc9 := Hc2.out w9 hf9.below
                    clear hf9 hci Hld Hc2
                    go_wp2_with fail
                    go_roundw
                    case rel => exact ⟨p + 1, by omega, by go_num, HF9.out⟩
                    case measure => simp [intOf]; omega
                  · have hb := Lib.hid hfp.below
                    clear hfp hf6
                    go_wp2_with fail
                    go_ret
                    exact ⟨rfl, hb.out⟩
theorem BU.RdZ.ofRow {w : World} {a : Option Addr} {len cap : Nat} {zs : List Int} (h : (a = none ∧ len = 0 ∧ cap = 0 ∧ zs = []) ∨ ∃ x, a = some x ∧ len ≤ cap ∧ cap ≤ maxLen ∧ zs.length = cap ∧ (∀ i, i < zs.length → w.cell? (x.add i) = some (.int .i64 (zs.getD i 0))) ∧ ∀ n ∈ zs, (Lit.int .i64 n).wf = true) : RdZ w a len (zs.take len) := by
  rcases h with ⟨rfl, rfl, rfl, rfl⟩ | ⟨x, rfl, hl, hm, hz, hc, hwf⟩
  · exact ⟨rfl, by omega, fun j hj => absurd hj (by omega)⟩
  · unfold maxLen at hm
    refine ⟨by rw [List.length_take]; omega, by omega, fun j hj => ⟨x, rfl, ?_, fun w1 hb => ?_⟩⟩
    · have hmem : (zs.take len).getD j 0 ∈ zs := by
        rw [List.getD_eq_getElem?_getD, List.getElem?_take, if_pos hj, List.getElem?_eq_getElem (by omega)]
        exact List.getElem_mem _
      have h0 := hwf _ hmem
      have e1 : IntKind.i64.min = -9223372036854775808 := by decide
      have e2 : IntKind.i64.max = 9223372036854775807 := by decide
      simp only [Lit.wf, Bool.and_eq_true, decide_eq_true_eq, e1, e2] at h0
      exact h0
    · have h0 := hc j (by omega)
      rw [hb.cell (World.block_lt_of_cell? w _ h0), h0]
      simp [List.getD_eq_getElem?_getD, List.getElem?_take, hj]
end Go.Proofs
