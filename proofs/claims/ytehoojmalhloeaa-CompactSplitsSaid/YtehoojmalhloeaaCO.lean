/- Entries in parts (compact.Split): the walk. Its conditions are that what it reads can be read and is not too long for memory. -/
import Derived.Test.YtehoojmalhloeaaCN
namespace Go.Proofs.Ytehoojmalhloeaa.CM
open Go.RowKit Go.Proofs.YtehoojmalhloeaaW.PrintWords
set_option linter.unusedVariables false
set_option linter.unusedSimpArgs false
set_option maxRecDepth 100000
attribute [local go_sem] Oper.semAt_some

set_option maxHeartbeats 8000000 in
theorem split_w (A : Option Addr) (c : Nat) (l : List PC.S44) (size : Int) (w : World) (hr : Kd.C PC.k44 w A l.length l) (hc : l.length ≤ c)
    (hbig : l.length * 48 ≤ 140737488355328 - 4096) (hsize : 1 ≤ size) (hup : risesB l = true) :
    Calls Try.prog 27 #[.slice A l.length c, .int .i64 size] w fun e w' => ∃ v, e = .returned (.tuple #[v, .int .i64 0]) ∧ Kd.S (Kd.slice 44 PC.k44) 22 w' w.heap.size (fun _ => True) v (splitL size l) ∧ Below w.heap.size w w' := by
  refine (callsIn_wide (n := 3)).1 ?_
  refine callsIn_of_wp_marks Try.func27 rfl trivial ?_ rfl
  refine wpIn_wide.2 ?_
  simp only [Try.ntmps27, List.size_toArray, List.length_cons, List.length_nil, Nat.reduceAdd, Nat.reduceSub, Array.replicate_succ, Array.replicate_zero, List.push_toArray, List.append_toArray, List.nil_append, List.cons_append]
  have HR := Lib.hid hr
  have HU := Lib.hid hup
  have dz : decide (size < 1) = false := decide_eq_false (by omega)
  clear hr hup
  go_wp2_with (first | (go_at_call 64; refine (rises_w A c l _ (keepC HR.out (Nat.le_refl _) ((Below.refl w.heap.size w).alloc (Nat.le_refl _) _)) hc).mono ?_; rintro e w1 ⟨rfl, hb1⟩; rw [HU.out]) | (go_at_call 65; refine (users_w _ A l.length c rfl _).mono ?_; rintro e w2 ⟨rfl, rfl⟩))
  have hs1 : w.heap.size + 1 ≤ w1.heap.size := by have := hb1.size; simp at this; omega
  obtain ⟨W3, hW3, hs3, hB3, x1, x2, x3, x4, x5⟩ : ∃ W3, (((w1.alloc (Obj.cells #[Value.slice none 0 0] 32)).alloc (Obj.cells #[Value.slice none 0 0] 22)).alloc (Obj.cells #[Value.int IntKind.i64 0] 3)).alloc (Obj.cells #[Value.slice A l.length c] 22) = W3 ∧ W3.heap.size = w1.heap.size + 4 ∧ Below w.heap.size w W3
      ∧ Boxed W3 w.heap.size 3 (.int .i64 size) ∧ Boxed W3 w1.heap.size 32 (.slice none 0 0) ∧ Boxed W3 (w1.heap.size + 1) 22 (.slice none 0 0) ∧ Boxed W3 (w1.heap.size + 1 + 1) 3 (.int .i64 0) ∧ Boxed W3 (w1.heap.size + 1 + 1 + 1) 22 (.slice A l.length c) := by
    have bn : ∀ (W : World) (n t : Nat) (v : Value), W.heap.size = n → Boxed (W.alloc (.cells #[v] t)) n t v := fun W n t v h => h ▸ Boxed.new W t v
    have y1 : Boxed (w.alloc (.cells #[.int .i64 size] 3)) w.heap.size 3 (.int .i64 size) := bn _ _ _ _ rfl
    have z1 : Boxed w1 w.heap.size 3 (.int .i64 size) := (hb1.block _ (by simp)).trans y1
    refine ⟨_, rfl, by simp, ((((((Below.refl w.heap.size w).alloc (Nat.le_refl _) _).trans (hb1.mono (by simp))).alloc (by omega) _).alloc (by simp; omega) _).alloc (by simp; omega) _).alloc (by simp; omega) _, ?_, ?_, ?_, ?_, ?_⟩
    · exact (((z1.alloc _).alloc _).alloc _).alloc _
    · exact (((bn _ _ _ _ rfl).alloc _).alloc _).alloc _
    · exact ((bn _ _ _ _ (by simp)).alloc _).alloc _
    · exact (bn _ _ _ _ (by simp)).alloc _
    · exact bn _ _ _ _ (by simp)
  rw [hW3]
  clear hW3 hb1
  have hs4 : W3.heap.size ≤ w1.heap.size + 4 := by omega
  have hs5 : w1.heap.size + 4 ≤ W3.heap.size := by omega
  clear hs3
  have hsz : w.heap.size ≤ W3.heap.size := by omega
  have lay : Lies w W3.heap.size w.heap.size w1.heap.size (w1.heap.size + 1) (w1.heap.size + 1 + 1) (w1.heap.size + 1 + 1 + 1) := ⟨Nat.le_refl _, by omega, by omega, by omega, by omega, by omega⟩
  have HI := users1_w 2 (by omega) w W3 (w1.heap.size + 1 + 1 + 1) (by omega) (by omega) hB3 A c l HR.out hc x5
  have Lay := Lib.hid lay
  clear lay
  refine wpIn_wide.1 (range_rel (n := 3) rfl (by omega) (gf := 84) (lb := #[.pointer (some ⟨w1.heap.size + 1 + 1 + 1, 0, none⟩)]) rfl trivial (enters_of Try.func84 (by kernel_rfl) rfl) HI (fun x => rfl)
    ?hRel ?hKt ?hKb (fun pre W => SInv w W3.heap.size w.heap.size w1.heap.size (w1.heap.size + 1) (w1.heap.size + 1 + 1) (w1.heap.size + 1 + 1 + 1) size (runS size (pre.map Part.kvs)) W) (fun _ _ _ => False)
    (SInv.own _ hsz) (fun _ _ _ _ _ hs _ _ => hs) (SInv.stays _ (by omega) (by omega) (by omega) (by omega) (by omega) (by omega)) (fun _ _ _ _ h _ => h)
    ⟨_, _, x2, Kd.S_nil _ _ _ _ _, x3, Kd.R_nil _ _ _ _ _, x4, x1, ⟨_, x5⟩, hB3, Nat.le_refl _⟩
    (fun x => { tmps := #[.slice A l.length c, .int .i64 size, undef, .pointer (some ⟨w.heap.size, 0, none⟩), .slice none 0 0, .int .i64 0, .pointer (some ⟨w1.heap.size, 0, none⟩), .pointer (some ⟨w1.heap.size + 1, 0, none⟩), .pointer (some ⟨w1.heap.size + 1 + 1, 0, none⟩), .slice x.1.1 x.1.2.2.length x.1.2.1, undef, undef, .bool false, .int .i64 size, .bool false, .bool false, .slice A l.length c, .bool true, .bool false, .slice A l.length c, .func (.func 84) #[] #[.pointer (some ⟨w1.heap.size + 1 + 1 + 1, 0, none⟩)], .slice x.1.1 x.1.2.2.length x.1.2.1, undef, undef, undef, undef, undef, undef, undef, undef, undef, undef, undef, undef, undef, undef, undef, undef, undef, undef, undef, undef, undef, undef, undef, undef, undef, undef, undef, undef, undef, undef, undef, undef, undef, undef, undef, undef], defers := [] }) ?assign ?body ?done ?stop)
  case hRel =>
    rintro X Y (⟨k, rfl⟩ | ⟨u, rfl⟩)
    · exact ⟨Nat.le_refl _, fun _ _ _ h _ => h⟩
    · exact (KeepsOthers.setCell _ _ _).from _
  case hKt => exact fun h k => ⟨h.1.trans k.1, k.2.trans h.2⟩
  case hKb => exact fun X k o o' hk ho hc hw => ⟨belowK_b hsz X k o o' hk ho hc hw, World.putObj_heap_other (by omega)⟩
  case assign =>
    intro l x W K hK
    simp only [Part.encs]
    gi_wp2
    exact hK
  case body =>
    rintro k pre ⟨⟨A1, c1, xs⟩, hC, hc1, hpos⟩ W hI hsp
    dsimp only at hC hc1 hpos
    obtain ⟨st, hst⟩ : ∃ st, runS size (pre.map Part.kvs) = st := ⟨_, rfl⟩
    have hlen : st.2.1.length + xs.length ≤ l.length ∧ st.1.length + 1 ≤ l.length := by
      have e1 := pre_len l _ hsp
      have e2 := runS_flat size (pre.map Part.kvs) ([], [], 0)
      have e3 := runS_len size (pre.map Part.kvs) ([], [], 0)
      rw [show (List.map Part.kvs pre).foldl (stepS size) ([], [], 0) = st from hst] at e2 e3
      have e4 := congrArg List.length e2
      have e5 : (List.map Part.kvs pre).length + 1 ≤ (groups l).length := by
        have := hsp.length_le
        simpa using this
      have e6 := groups_len l
      simp only [List.map_append, List.map_cons, List.map_nil, List.flatten_append, List.length_append, List.flatten_cons, List.flatten_nil, List.append_nil, List.length_nil, List.nil_append] at e1 e3 e4
      have e7 : (Part.kvs (⟨(A1, c1, xs), hC, hc1, hpos⟩ : Part w)) = xs := rfl
      rw [e7] at e1
      constructor <;> omega
    simp only [hst] at hI
    have HI0 : SAll w W3.heap.size w.heap.size w1.heap.size (w1.heap.size + 1) (w1.heap.size + 1 + 1) (w1.heap.size + 1 + 1 + 1) size W (st.1, st.2.1, st.2.2) W := ⟨hI, KeepsFrom.refl _ _, Below.refl _ _, rfl⟩
    obtain ⟨v, vp, h1, h2, h3, h4, h5, h6, ⟨vb, h7⟩, h8, h9⟩ := hI
    obtain ⟨Ao, co, hvo, _⟩ := Kd.S_reads h2
    subst hvo
    obtain ⟨Ap, cp, hvp, _⟩ := Kd.R_reads h4
    subst hvp
    have q5 := h5.cell
    have q6 := h6.cell
    have HC := Lib.hid hC
    have HL := Lib.hid hlen
    have hxl : xs.length ≤ 2932031007402 := by omega
    have hst := Lib.hid hst
    have Hc := Lib.hid hc1
    have Hp := Lib.hid hpos
    dsimp only
    by_cases hfl : size ≤ st.2.2
    · have dfl : decide (size ≤ st.2.2) = true := decide_eq_true hfl
      have hF := Lib.hid (show stepF size st = (st.1 ++ [st.2.1], [], 0) from if_pos hfl)
      obtain ⟨v1, w3, hrun, hS1, hg⟩ := run_append32 32 h2 h4 h9 (by omega)
      obtain ⟨A4, k4, hv4⟩ := Kd.S_slice hS1
      rw [show (st.1 ++ [st.2.1]).length = st.1.length + 1 by simp] at hv4
      subst hv4
      obtain ⟨Z1, Z2, Z3, Z4⟩ := flush_close Lay.out ⟨h1, h2, h3, h4, h5, h6, h7, h8, h9, KeepsFrom.refl _ _, Below.refl _ _, rfl⟩ hS1 hg
      have q1 := h1.cell
      have q3 := h3.cell
      have al1 : (W.alloc (.cells #[Value.slice Ap st.2.1.length cp] 22)).cell? ⟨w1.heap.size, 0, none⟩ = some (.slice Ao st.1.length co) := (h1.alloc _).cell
      have r1 := Z1.cell
      have r2 := Z1.frozen
      have r3 := Z2.cell
      have r4 := Z2.frozen
      have r5 := Z3.cell
      have r6 := Z3.frozen
      have G := Lib.hid Z4
      clear h1 h2 h3 h4 h5 h6 h7 h8 h9 HI0 HI x1 x2 x3 x4 x5 hlen hg hS1 Z1 Z2 Z3 Z4 hsp
      gi_wp2_with (gi_at_builtin; refine wpListIn_append_run _ rfl (.tmp 25) (.tmp 27) 32 rfl _ _ _ _ rfl rfl hrun ?_; clear hrun)

      gi_loopw [31] (fun t wr => ∃ j : Nat, j ≤ xs.length ∧ t = .int .i64 (j : Int) ∧ Hid (SAll w W3.heap.size w.heap.size w1.heap.size (w1.heap.size + 1) (w1.heap.size + 1 + 1) (w1.heap.size + 1 + 1 + 1) size W ((st.1 ++ [st.2.1]), ([] : List PC.S44), sumP (0 : Int) (xs.take j)) wr)) (fun t _ => xs.length - (intOf t).toNat)
      case atStart => exact ⟨0, by omega, rfl, Lib.hid G.out⟩
      case round =>
        obtain ⟨j, hj, rfl, HA⟩ := hrel
        by_cases hlt : j < xs.length
        · obtain ⟨⟨u, up, i1, i2, i3, i4, i5, i6, ⟨ub, i7⟩, i8, i9⟩, j1, j2⟩ := HA.out
          obtain ⟨ad, e, X⟩ := at44 (keepC HC.out (Nat.le_refl _) i8) j hlt
          subst e
          obtain ⟨kv, hkv⟩ : ∃ kv, xs.getD j PC.z44 = kv := ⟨_, rfl⟩
          rw [hkv] at X
          obtain ⟨x0, x1, x2, x3⟩ := X
          have hsum := sumP_take (0 : Int) xs j hlt
          rw [hkv] at hsum
          have hA1 := SAll.alloc (by omega) HA.out (.cells #[.string kv.f0.f0, .int .u64 kv.f0.f1, .int .i64 kv.f0.f2, .string kv.f1] 44)
          obtain ⟨Wk, hWk⟩ : ∃ Wk, wr.alloc (.cells #[.string kv.f0.f0, .int .u64 kv.f0.f1, .int .i64 kv.f0.f2, .string kv.f1] 44) = Wk := ⟨_, rfl⟩
          have q0 : Wk.cell? ⟨wr.heap.size, 0, none⟩ = some (.string kv.f0.f0) := by rw [← hWk]; exact cell_top rfl rfl
          have q1 : Wk.cell? ⟨wr.heap.size, 1, none⟩ = some (.int .u64 kv.f0.f1) := by rw [← hWk]; exact cell_top rfl rfl
          have q2 : Wk.cell? ⟨wr.heap.size, 2, none⟩ = some (.int .i64 kv.f0.f2) := by rw [← hWk]; exact cell_top rfl rfl
          have q3 : Wk.cell? ⟨wr.heap.size, 3, none⟩ = some (.string kv.f1) := by rw [← hWk]; exact cell_top rfl rfl
          rw [hWk] at hA1
          have i5b := i5.alloc (.cells #[.string kv.f0.f0, .int .u64 kv.f0.f1, .int .i64 kv.f0.f2, .string kv.f1] 44)
          rw [hWk] at i5b
          have q5 := i5b.cell
          have q6 := i5b.frozen
          have hw1 : IntKind.i64.wrap ((j : Int) + 1) = (j : Int) + 1 := by rw [IntWalk.i64_in _ (by omega)]
          have p0 : (j < xs.length) = True := eq_true hlt
          have HA1 := Lib.hid (And.intro hA1 hsum)
          clear i1 i2 i3 i4 i5 i6 i7 i8 i9 j1 j2 i5b hA1 hsum hkv
          gi_wp2_with fail
          refine ⟨⟨j + 1, by omega, by simp, Lib.hid ?_⟩, by simp [intOf]; omega⟩
          have Z := SAll.setN Lay.out HA1.out.1 (wrap64 (sumP (0 : Int) (xs.take j) + szP kv))
          rw [HA1.out.2]
          simpa [szP] using Z
        · have htk : xs.take j = xs := List.take_of_length_le (by omega)
          obtain ⟨⟨u, up, i1, i2, i3, i4, i5, i6, ⟨ub, i7⟩, i8, i9⟩, j1, j2⟩ := HA.out
          obtain ⟨v2, w3, hrun, hR3, hg3, hat3⟩ := run_append44 (c := c1) 22 i4 (keepC HC.out (Nat.le_refl _) i8) (by have := HL.out.1; show (([] : List PC.S44).length + xs.length) * 48 ≤ _; simp; omega) i9
          obtain ⟨Z1, Z2⟩ := append_close Lay.out ⟨i1, i2, i3, i4, i5, i6, i7, i8, i9, j1, j2⟩ hR3 hg3 hat3
          obtain ⟨Ap, cp, hup⟩ := Kd.R_slice i4
          subst hup
          obtain ⟨A2, k2, hv2⟩ := Kd.R_slice hR3
          subst hv2
          have q3 := i3.cell
          have r1 := Z1.cell
          have r2 := Z1.frozen
          rw [htk] at Z2
          simp only [List.length_append, List.length_nil, Nat.zero_add] at Z2
          have HZ := Lib.hid Z2
          clear i1 i2 i3 i4 i5 i6 i7 i8 i9 j1 j2 Z1 Z2 hR3 hg3 hat3 htk
          gi_wp2_with (gi_at_builtin; refine wpListIn_append_run _ rfl (.tmp 47) (.tmp 48) 22 rfl _ _ _ _ rfl rfl hrun ?_; clear hrun)
          obtain ⟨y1, y2, y3⟩ := HZ.out
          refine ⟨y2, y3, ?_⟩
          show SInv _ _ _ _ _ _ _ _ (runS size (List.map Part.kvs (pre ++ [_]))) _
          rw [List.map_append, List.map_cons, List.map_nil, runS_snoc, hst.out]
          show SInv _ _ _ _ _ _ _ _ (stepS size st xs) _
          rw [show stepS size st xs = (st.1 ++ [st.2.1], [] ++ xs, sumP 0 xs) by unfold stepS; rw [hF.out]]
          simpa using y1

    · have dfl : decide (size ≤ st.2.2) = false := decide_eq_false hfl
      have hF := Lib.hid (show stepF size st = st from if_neg hfl)
      have HI := Lib.hid HI0
      clear h1 h2 h3 h4 h5 h6 h7 h8 h9 HI0 x1 x2 x3 x4 x5 hlen hsp
      gi_wp2_with fail

      gi_loopw [31] (fun t wr => ∃ j : Nat, j ≤ xs.length ∧ t = .int .i64 (j : Int) ∧ Hid (SAll w W3.heap.size w.heap.size w1.heap.size (w1.heap.size + 1) (w1.heap.size + 1 + 1) (w1.heap.size + 1 + 1 + 1) size W (st.1, st.2.1, sumP st.2.2 (xs.take j)) wr)) (fun t _ => xs.length - (intOf t).toNat)
      case atStart => exact ⟨0, by omega, rfl, Lib.hid HI.out⟩
      case round =>
        obtain ⟨j, hj, rfl, HA⟩ := hrel
        by_cases hlt : j < xs.length
        · obtain ⟨⟨u, up, i1, i2, i3, i4, i5, i6, ⟨ub, i7⟩, i8, i9⟩, j1, j2⟩ := HA.out
          obtain ⟨ad, e, X⟩ := at44 (keepC HC.out (Nat.le_refl _) i8) j hlt
          subst e
          obtain ⟨kv, hkv⟩ : ∃ kv, xs.getD j PC.z44 = kv := ⟨_, rfl⟩
          rw [hkv] at X
          obtain ⟨x0, x1, x2, x3⟩ := X
          have hsum := sumP_take st.2.2 xs j hlt
          rw [hkv] at hsum
          have hA1 := SAll.alloc (by omega) HA.out (.cells #[.string kv.f0.f0, .int .u64 kv.f0.f1, .int .i64 kv.f0.f2, .string kv.f1] 44)
          obtain ⟨Wk, hWk⟩ : ∃ Wk, wr.alloc (.cells #[.string kv.f0.f0, .int .u64 kv.f0.f1, .int .i64 kv.f0.f2, .string kv.f1] 44) = Wk := ⟨_, rfl⟩
          have q0 : Wk.cell? ⟨wr.heap.size, 0, none⟩ = some (.string kv.f0.f0) := by rw [← hWk]; exact cell_top rfl rfl
          have q1 : Wk.cell? ⟨wr.heap.size, 1, none⟩ = some (.int .u64 kv.f0.f1) := by rw [← hWk]; exact cell_top rfl rfl
          have q2 : Wk.cell? ⟨wr.heap.size, 2, none⟩ = some (.int .i64 kv.f0.f2) := by rw [← hWk]; exact cell_top rfl rfl
          have q3 : Wk.cell? ⟨wr.heap.size, 3, none⟩ = some (.string kv.f1) := by rw [← hWk]; exact cell_top rfl rfl
          rw [hWk] at hA1
          have i5b := i5.alloc (.cells #[.string kv.f0.f0, .int .u64 kv.f0.f1, .int .i64 kv.f0.f2, .string kv.f1] 44)
          rw [hWk] at i5b
          have q5 := i5b.cell
          have q6 := i5b.frozen
          have hw1 : IntKind.i64.wrap ((j : Int) + 1) = (j : Int) + 1 := by rw [IntWalk.i64_in _ (by omega)]
          have p0 : (j < xs.length) = True := eq_true hlt
          have HA1 := Lib.hid (And.intro hA1 hsum)
          clear i1 i2 i3 i4 i5 i6 i7 i8 i9 j1 j2 i5b hA1 hsum hkv
          gi_wp2_with fail
          refine ⟨⟨j + 1, by omega, by simp, Lib.hid ?_⟩, by simp [intOf]; omega⟩
          have Z := SAll.setN Lay.out HA1.out.1 (wrap64 (sumP st.2.2 (xs.take j) + szP kv))
          rw [HA1.out.2]
          simpa [szP] using Z
        · have htk : xs.take j = xs := List.take_of_length_le (by omega)
          obtain ⟨⟨u, up, i1, i2, i3, i4, i5, i6, ⟨ub, i7⟩, i8, i9⟩, j1, j2⟩ := HA.out
          obtain ⟨v2, w3, hrun, hR3, hg3, hat3⟩ := run_append44 (c := c1) 22 i4 (keepC HC.out (Nat.le_refl _) i8) (by have := HL.out.1; show (st.2.1.length + xs.length) * 48 ≤ _; skip; omega) i9
          obtain ⟨Z1, Z2⟩ := append_close Lay.out ⟨i1, i2, i3, i4, i5, i6, i7, i8, i9, j1, j2⟩ hR3 hg3 hat3
          obtain ⟨Ap, cp, hup⟩ := Kd.R_slice i4
          subst hup
          obtain ⟨A2, k2, hv2⟩ := Kd.R_slice hR3
          subst hv2
          have q3 := i3.cell
          have r1 := Z1.cell
          have r2 := Z1.frozen
          rw [htk] at Z2
          simp only [List.length_append, List.length_nil, Nat.zero_add] at Z2
          have HZ := Lib.hid Z2
          clear i1 i2 i3 i4 i5 i6 i7 i8 i9 j1 j2 Z1 Z2 hR3 hg3 hat3 htk
          gi_wp2_with (gi_at_builtin; refine wpListIn_append_run _ rfl (.tmp 47) (.tmp 48) 22 rfl _ _ _ _ rfl rfl hrun ?_; clear hrun)
          obtain ⟨y1, y2, y3⟩ := HZ.out
          refine ⟨y2, y3, ?_⟩
          show SInv _ _ _ _ _ _ _ _ (runS size (List.map Part.kvs (pre ++ [_]))) _
          rw [List.map_append, List.map_cons, List.map_nil, runS_snoc, hst.out]
          show SInv _ _ _ _ _ _ _ _ (stepS size st xs) _
          rw [show stepS size st xs = (st.1, st.2.1 ++ xs, sumP st.2.2 xs) by unfold stepS; rw [hF.out]]
          simpa using y1

  case done =>
    rintro D ys W hD hS ⟨v, vp, h1, h2, h3, h4, h5, h6, ⟨vb, h7⟩, h8, h9⟩ hK
    obtain ⟨st, hst⟩ : ∃ st, runS size (groups l) = st := ⟨_, rfl⟩
    rw [hS, hst] at h2 h4 h5
    have hsp : splitL size l = if st.2.1 = [] then st.1 else st.1 ++ [st.2.1] := by
      unfold splitL
      rw [hst]
    have hlen : st.1.length ≤ l.length := by
      have e3 := runS_len size (groups l) ([], [], 0)
      rw [show (groups l).foldl (stepS size) ([], [], 0) = st from hst] at e3
      have e6 := groups_len l
      simp only [List.length_nil] at e3
      omega
    obtain ⟨Ao, co, hvo, _⟩ := Kd.S_reads h2
    subst hvo
    obtain ⟨Ap, cp, hvp, _⟩ := Kd.R_reads h4
    subst hvp
    have q1 := h1.cell
    have q3 := h3.cell
    by_cases hp : st.2.1 = []
    · have dp : decide (0 < st.2.1.length) = false := by rw [hp]; rfl
      have hm : Kd.S (Kd.slice 44 PC.k44) 22 (W.putObj D (.deferred none)) w.heap.size (fun _ => True) (.slice Ao st.1.length co) (splitL size l) := by
        rw [hsp, if_pos hp]
        exact Kd.S_mono (Kd.S_lower (S_rowed h2 (grownBy_putObj' W D (.deferred none)) (fun r e => by cases e; exact ⟨_, hK, rfl⟩)) hsz) (fun _ _ => trivial)
      have HH := Lib.hid (And.intro hm (And.intro h8 (And.intro hD hK)))
      clear h1 h2 h3 h4 h5 h6 h7 h8 h9 hS hD hK x1 x2 x3 x4 x5 hm hsp hst HI hp
      gi_wp2
      go_wp2_with fail
      refine ⟨by simp, .inl ⟨_, _, rfl, run_takeDeferred HH.out.2.2.2, ?_⟩⟩
      refine ⟨_, results_tmp2 rfl _ _ _, ?_⟩
      exact ⟨_, rfl, HH.out.1, HH.out.2.1.trans (belowK_b (w := W3) hsz W D _ _ HH.out.2.2.1 HH.out.2.2.2 rfl rfl)⟩
    · have dp : decide (0 < st.2.1.length) = true := by
        cases hq : st.2.1 with
        | nil => exact absurd hq hp
        | cons a t => rfl
      obtain ⟨v1, w3, hrun, hS1, hg⟩ := run_append32 32 h2 h4 h9 (by omega)
      obtain ⟨A4, k4, hv4⟩ := Kd.S_slice hS1
      rw [show (st.1 ++ [st.2.1]).length = st.1.length + 1 by simp] at hv4
      subst hv4
      have ne : some w1.heap.size ≠ (Value.slice Ao st.1.length co).ownBlock := fun e => by have := Kd.S_base h2 _ e.symm; omega
      have Z1 := h1.kept hg ne
      have r1 := Z1.cell
      have r2 := Z1.frozen
      have al1 : (W.alloc (.cells #[Value.slice Ap st.2.1.length cp] 22)).cell? ⟨w1.heap.size, 0, none⟩ = some (.slice Ao st.1.length co) := (h1.alloc _).cell
      have hb8 : Below w.heap.size w w3 := h8.grown hg h8.size (fun j e => by have := Kd.S_base h2 j e; omega)
      have hD2 : ∀ X : World, W.heap[D]? = some (.deferred (some [])) → w3.heap[D]? = some (.deferred (some [])) := fun X h => (hg.block D (Array.getElem?_eq_some_iff.1 h).1 (fun e => by
        obtain ⟨cells, hc⟩ := Kd.S_typed h2 D e.symm
        rw [hc] at h
        cases h)).trans h
      have hDK := hD2 W hK
      have hDne : w1.heap.size ≠ D := by omega
      have hDK2 : (w3.setCell ⟨w1.heap.size, 0, none⟩ (.slice A4 (st.1.length + 1) k4)).heap[D]? = some (.deferred (some [])) := (Below.heap_setCell w3 ⟨w1.heap.size, 0, none⟩ _ D (fun e => hDne e.symm)).trans hDK
      have hm0 := S_box (b := w1.heap.size) hS1 (by omega) (.slice A4 (st.1.length + 1) k4)
      have hm : Kd.S (Kd.slice 44 PC.k44) 22 ((w3.setCell ⟨w1.heap.size, 0, none⟩ (.slice A4 (st.1.length + 1) k4)).putObj D (.deferred none)) w.heap.size (fun _ => True) (.slice A4 (st.1.length + 1) k4) (splitL size l) := by
        rw [hsp, if_neg hp]
        exact Kd.S_lower (S_rowed hm0 (grownBy_putObj' _ D (.deferred none)) (fun r e => by cases e; exact ⟨_, hDK2, rfl⟩)) hsz
      have hb9 : Below w.heap.size w (w3.setCell ⟨w1.heap.size, 0, none⟩ (.slice A4 (st.1.length + 1) k4)) := hb8.setCell (p := ⟨w1.heap.size, 0, none⟩) (by show w.heap.size ≤ w1.heap.size; omega) _
      have hc9 := (Z1.set (.slice A4 (st.1.length + 1) k4)).cell
      have HH := Lib.hid (And.intro hm (And.intro hb9 (And.intro hD hDK2)))
      clear h1 h2 h3 h4 h5 h6 h7 h8 h9 hS hD hK x1 x2 x3 x4 x5 hm hsp hst HI hp hm0 hb9 hDK hDK2 hb8 hg hS1 Z1 hD2 ne
      gi_wp2
      have HT := Lib.hid hrun
      go_wp2_with (at_builtin; refine wpList_append_run _ rfl (.tmp 53) (.tmp 55) 32 rfl _ _ _ _ rfl rfl HT.out ?_; clear hrun)
      refine ⟨by simp, .inl ⟨_, _, rfl, run_takeDeferred HH.out.2.2.2, ?_⟩⟩
      refine ⟨_, results_tmp2 rfl _ _ _, ?_⟩
      exact ⟨_, rfl, HH.out.1, HH.out.2.1.trans (belowK_b (w := W3) hsz _ D _ _ HH.out.2.2.1 HH.out.2.2.2 rfl rfl)⟩
  case stop =>
    rintro D c pre W _ _ h _
    exact h.elim

set_option maxHeartbeats 8000000 in
theorem split_no (A : Option Addr) (c : Nat) (l : List PC.S44) (size : Int) (w : World) (hr : Kd.C PC.k44 w A l.length l) (hc : l.length ≤ c) (hsize : 1 ≤ size) (hup : risesB l = false) :
    Calls Try.prog 27 #[.slice A l.length c, .int .i64 size] w fun e w' => e = .returned (.tuple #[.slice none 0 0, .int .i64 160]) ∧ Below w.heap.size w w' := by
  have HR := Lib.hid hr
  have HU := Lib.hid hup
  have dz : decide (size < 1) = false := decide_eq_false (by omega)
  clear hr hup
  go_enter Try.func27, Try.ntmps27
  go_wp2_with (go_at_call 64; refine (rises_w A c l _ (keepC HR.out (Nat.le_refl _) ((Below.refl w.heap.size w).alloc (Nat.le_refl _) _)) hc).mono ?_; rintro e w1 ⟨rfl, hb1⟩; rw [HU.out])
  go_ret2
  exact ⟨rfl, ((Below.refl w.heap.size w).alloc (Nat.le_refl _) _).trans (hb1.mono (by simp))⟩
set_option maxHeartbeats 8000000 in
theorem split_arg (A : Option Addr) (n c : Nat) (size : Int) (w : World) (hsize : size < 1) :
    Calls Try.prog 27 #[.slice A n c, .int .i64 size] w fun e w' => e = .returned (.tuple #[.slice none 0 0, .int .i64 1]) ∧ Below w.heap.size w w' := by
  have dz : decide (size < 1) = true := decide_eq_true hsize
  go_enter Try.func27, Try.ntmps27
  go_wp2
  go_ret2
  exact ⟨rfl, (Below.refl w.heap.size w).alloc (Nat.le_refl _) _⟩

end Go.Proofs.Ytehoojmalhloeaa.CM
