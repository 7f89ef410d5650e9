/-
  Walks of one asked call, kind by kind: both arenas answer alike. No condition.
-/
import Derived.Test.YtcdcladefccifaaL
import Derived.Deep.RegionHeld3
set_option linter.unusedVariables false
set_option linter.unusedSimpArgs false
namespace Go.Proofs
open Go.RowKit BU
namespace BU
def rOf (S : St) : RS := ⟨S.m.take S.size.toNat, S.xs, S.used⟩
def AskEnd (w0 : World) (b g : Nat) (bv : Value) (e : Ending) (w' : World) : Prop := e = .returned (.bool true) ∧ ∃ cv rv S, Two (fun _ => False) w0 w' b cv S g bv rv (rOf S)
/-- the call's own five cells -/
def Box (w : World) (P : Nat) (k at_ n m : Int) (sl : Value) : Prop := w.heap[P]? = some (.cells #[.int .i64 k, .int .i64 at_, .int .i64 n, .int .i64 m, sl] 42 (0, 0))
section
variable {w : World} {P : Nat} {k at_ n m : Int} {sl : Value} (h : Box w P k at_ n m sl)
include h
theorem Box.c1 : w.cell? ⟨P, 1, none⟩ = some (.int .i64 at_) := cell_of_row w P 1 _ 42 (0, 0) h
theorem Box.c2 : w.cell? ⟨P, 2, none⟩ = some (.int .i64 n) := cell_of_row w P 2 _ 42 (0, 0) h
theorem Box.c3 : w.cell? ⟨P, 3, none⟩ = some (.int .i64 m) := cell_of_row w P 3 _ 42 (0, 0) h
theorem Box.c4 : w.cell? ⟨P, 4, none⟩ = some sl := cell_of_row w P 4 _ 42 (0, 0) h
end
theorem Box.new (w : World) (k at_ n m : Int) (sl : Value) : Box (w.alloc (.cells #[.int .i64 k, .int .i64 at_, .int .i64 n, .int .i64 m, sl] 42)) w.heap.size k at_ n m sl := heap_alloc_new w _
theorem Two.box {w0 w : World} {b : Nat} {cv : Value} {S : St} {g : Nat} {bv rv : Value} {R : RS} (h : Two (fun _ => False) w0 w b cv S g bv rv R) (c : Array Value) :
    Two (fun k => k = w.heap.size) w0 (w.alloc (.cells c 42)) b cv S g bv rv R :=
  h.grow ((Below.refl _ _).alloc (Nat.le_refl _) _) (fun k hk => .inr (by subst hk; exact ⟨Nat.le_refl _, by simp⟩))
theorem Two.unbox {X : Nat → Prop} {w0 w : World} {b : Nat} {cv : Value} {S : St} {g : Nat} {bv rv : Value} {R : RS} (h : Two X w0 w b cv S g bv rv R) : Two (fun _ => False) w0 w b cv S g bv rv R :=
  h.grow (Below.refl _ _) (fun k hk => hk.elim)
theorem Two.drew {X : Nat → Prop} {w0 w : World} {b : Nat} {cv : Value} {S : St} {g : Nat} {bv rv : Value} {R : RS} (h : Two X w0 w b cv S g bv rv R) : Two X w0 w.drew b cv S g bv rv R :=
  h.grow (Below.refl _ _).drew (fun k hk => .inl hk)
theorem rOf_len {w : World} {b : Nat} {cv : Value} {S : St} (h : Ar w b cv S) : ((rOf S).B.length : Int) = S.size := by
  have := h.hm; have := h.h0; have := h.h1; have := h.h2
  show ((S.m.take S.size.toNat).length : Int) = S.size
  rw [List.length_take]; omega
end BU
section
variable (w0 w : World) (b : Nat) (cv : Value) (S : St) (g : Nat) (bv rv : Value) (h : Two (fun _ => False) w0 w b cv S g bv rv (rOf S)) (at_ n m : Int) (sl : Value)
include h
set_option maxRecDepth 100000 in
set_option maxHeartbeats 400000 in
theorem asked_alloc : Calls Try.prog 15 #[.pointer (some ⟨b, 0, none⟩), .pointer (some ⟨g, 0, none⟩), .agg #[.int .i64 1, .int .i64 at_, .int .i64 n, .int .i64 m, sl]] w (AskEnd w0 b g bv) := by
  have H0 := Lib.hid (h.box #[.int .i64 1, .int .i64 at_, .int .i64 n, .int .i64 m, sl])
  have B0 := Lib.hid (Box.new w 1 at_ n m sl)
  clear h
  go_enter Try.func15, Try.ntmps15
  go_wp2_with fail
  refine (allocA _ _ _ _ H0.out.a n).mono ?_
  rintro e w1 ⟨rfl, a1, s1⟩
  have t1 := H0.out.stepA a1 s1
  have H1 := Lib.hid t1.1
  have B1 : Hid (Box w1 w.heap.size 1 at_ n m sl) := Lib.hid ((t1.2 _ rfl).trans B0.out)
  clear t1 a1 s1
  have c2 := B1.out.c2
  go_wp2_with fail
  refine (allocB _ _ _ _ ⟨S.m.take S.size.toNat, S.xs, S.used⟩ H1.out.r S.size (rOf_len H0.out.a) n).mono ?_
  rintro e w2 ⟨rfl, a2, s2⟩
  have H2 := Lib.hid (H1.out.stepR a2 s2).1.unbox
  clear a2 s2 c2
  go_wp2_with fail
  go_ret
  exact ⟨by simp, _, _, _, H2.out⟩
set_option maxRecDepth 100000 in
set_option maxHeartbeats 400000 in
theorem asked_cell : Calls Try.prog 15 #[.pointer (some ⟨b, 0, none⟩), .pointer (some ⟨g, 0, none⟩), .agg #[.int .i64 4, .int .i64 at_, .int .i64 n, .int .i64 m, sl]] w (AskEnd w0 b g bv) := by
  have H0 := Lib.hid (h.box #[.int .i64 4, .int .i64 at_, .int .i64 n, .int .i64 m, sl])
  clear h
  go_enter Try.func15, Try.ntmps15
  go_wp2_with fail
  refine (cellA _ _ _ _ H0.out.a).mono ?_
  rintro e w1 ⟨rfl, cv1, a1, s1⟩
  have H1 := Lib.hid (H0.out.stepA a1 s1).1
  clear a1 s1
  go_wp2_with fail
  refine (cellB _ _ _ _ ⟨S.m.take S.size.toNat, S.xs, S.used⟩ H1.out.r S.size (rOf_len H0.out.a)).mono ?_
  rintro e w2 ⟨rfl, rv1, a2, s2⟩
  have H2 := Lib.hid (H1.out.stepR a2 s2).1.unbox
  clear a2 s2
  go_wp2_with fail
  go_ret
  exact ⟨by simp, _, _, _, H2.out⟩
set_option maxRecDepth 100000 in
set_option maxHeartbeats 400000 in
theorem asked_load : Calls Try.prog 15 #[.pointer (some ⟨b, 0, none⟩), .pointer (some ⟨g, 0, none⟩), .agg #[.int .i64 5, .int .i64 at_, .int .i64 n, .int .i64 m, sl]] w (AskEnd w0 b g bv) := by
  have H0 := Lib.hid (h.box #[.int .i64 5, .int .i64 at_, .int .i64 n, .int .i64 m, sl])
  have B0 := Lib.hid (Box.new w 5 at_ n m sl)
  clear h
  go_enter Try.func15, Try.ntmps15
  go_wp2_with fail
  refine (loadA _ _ _ _ H0.out.a at_).mono ?_
  rintro e w1 ⟨rfl, a1, s1⟩
  have t1 := H0.out.stepA a1 s1
  have H1 := Lib.hid t1.1
  have B1 : Hid (Box w1 w.heap.size 5 at_ n m sl) := Lib.hid ((t1.2 _ rfl).trans B0.out)
  clear t1 a1 s1
  have c1 := B1.out.c1
  go_wp2_with fail
  refine (loadB _ _ _ _ ⟨S.m.take S.size.toNat, S.xs, S.used⟩ H1.out.r at_).mono ?_
  rintro e w2 ⟨rfl, a2, s2⟩
  have H2 := Lib.hid (H1.out.stepR a2 s2).1.unbox
  clear a2 s2 c1
  go_wp2_with fail
  go_ret
  exact ⟨by simp, _, _, _, H2.out⟩
set_option maxRecDepth 100000 in
set_option maxHeartbeats 400000 in
theorem asked_cas : Calls Try.prog 15 #[.pointer (some ⟨b, 0, none⟩), .pointer (some ⟨g, 0, none⟩), .agg #[.int .i64 7, .int .i64 at_, .int .i64 n, .int .i64 m, sl]] w (AskEnd w0 b g bv) := by
  have H0 := Lib.hid (h.box #[.int .i64 7, .int .i64 at_, .int .i64 n, .int .i64 m, sl])
  have B0 := Lib.hid (Box.new w 7 at_ n m sl)
  clear h
  go_enter Try.func15, Try.ntmps15
  go_wp2_with fail
  refine (casA _ _ _ _ H0.out.a at_ n m).mono ?_
  rintro e w1 ⟨rfl, a1, s1⟩
  have t1 := H0.out.stepA a1 s1
  have H1 := Lib.hid t1.1
  have B1 : Hid (Box w1 w.heap.size 7 at_ n m sl) := Lib.hid ((t1.2 _ rfl).trans B0.out)
  clear t1 a1 s1
  have c1 := B1.out.c1
  have c2 := B1.out.c2
  have c3 := B1.out.c3
  go_wp2_with fail
  refine (casB _ _ _ _ ⟨S.m.take S.size.toNat, S.xs, S.used⟩ H1.out.r at_ n m).mono ?_
  rintro e w2 ⟨rfl, a2, s2⟩
  have H2 := Lib.hid (H1.out.stepR a2 s2).1.unbox
  clear a2 s2 c1 c2 c3
  go_wp2_with fail
  go_ret
  exact ⟨by simp, _, _, _, H2.out⟩
set_option maxRecDepth 100000 in
set_option maxHeartbeats 400000 in
theorem asked_other (k : Int) (hk : k < 1 ∨ 7 < k) : Calls Try.prog 15 #[.pointer (some ⟨b, 0, none⟩), .pointer (some ⟨g, 0, none⟩), .agg #[.int .i64 k, .int .i64 at_, .int .i64 n, .int .i64 m, sl]] w (AskEnd w0 b g bv) := by
  have H0 := Lib.hid (h.box #[.int .i64 k, .int .i64 at_, .int .i64 n, .int .i64 m, sl]).unbox
  clear h
  have e1 : (k == 1) = false := by rw [beq_eq_false_iff_ne]; omega
  have e2 : (k == 2) = false := by rw [beq_eq_false_iff_ne]; omega
  have e3 : (k == 3) = false := by rw [beq_eq_false_iff_ne]; omega
  have e4 : (k == 4) = false := by rw [beq_eq_false_iff_ne]; omega
  have e5 : (k == 5) = false := by rw [beq_eq_false_iff_ne]; omega
  have e6 : (k == 6) = false := by rw [beq_eq_false_iff_ne]; omega
  have e7 : (k == 7) = false := by rw [beq_eq_false_iff_ne]; omega
  clear hk
  go_enter Try.func15, Try.ntmps15
  go_wp2_with fail
  go_ret
  exact ⟨rfl, _, _, _, H0.out⟩
set_option maxRecDepth 100000 in
set_option maxHeartbeats 400000 in
theorem asked_store : Calls Try.prog 15 #[.pointer (some ⟨b, 0, none⟩), .pointer (some ⟨g, 0, none⟩), .agg #[.int .i64 6, .int .i64 at_, .int .i64 n, .int .i64 m, sl]] w (AskEnd w0 b g bv) := by
  have H0 := Lib.hid (h.box #[.int .i64 6, .int .i64 at_, .int .i64 n, .int .i64 m, sl])
  have B0 := Lib.hid (Box.new w 6 at_ n m sl)
  clear h
  go_enter Try.func15, Try.ntmps15
  go_wp2_with fail
  have HD := Lib.hid H0.out.drew
  have b1 := B0.out.c1
  have b2 := B0.out.c2
  go_region_held3 (fun w' => w'.cell? ⟨w.heap.size, 1, none⟩ = some (.int .i64 at_) ∧ w'.cell? ⟨w.heap.size, 2, none⟩ = some (.int .i64 n)) (go_keep) (first | (go_at_call 11; refine Calls.mono (storeA _ b cv S ?_ at_ n) ?_; (first | exact HD.out.a | exact KR.out.a); rintro e w1 ⟨rfl, a1, s1⟩; (first | (have t1 := KR.out.stepA a1 s1; have KF := Lib.hid t1.1.unbox; have BF : Hid (Box w1 w.heap.size 6 at_ n m sl) := Lib.hid ((t1.2 _ rfl).trans BA.out); have f1 := BF.out.c1; have f2 := BF.out.c2; clear KR t1 a1 s1) | (have t1 := HD.out.stepA a1 s1; have KA := Lib.hid t1.1; have BA : Hid (Box w1 w.heap.size 6 at_ n m sl) := Lib.hid ((t1.2 _ rfl).trans B0.out); have d1 := BA.out.c1; have d2 := BA.out.c2; clear t1 a1 s1))) | (go_at_call 26; refine Calls.mono (storeB _ g bv rv ⟨S.m.take S.size.toNat, S.xs, S.used⟩ ?_ at_ n) ?_; (first | exact HD.out.r | exact KA.out.r); rintro e w1 ⟨rfl, a1, s1⟩; (first | (have t1 := KA.out.stepR a1 s1; have KF := Lib.hid t1.1.unbox; have BF : Hid (Box w1 w.heap.size 6 at_ n m sl) := Lib.hid ((t1.2 _ rfl).trans BA.out); have f1 := BF.out.c1; have f2 := BF.out.c2; clear KA t1 a1 s1) | (have t1 := HD.out.stepR a1 s1; have KR := Lib.hid t1.1; have BA : Hid (Box w1 w.heap.size 6 at_ n m sl) := Lib.hid ((t1.2 _ rfl).trans B0.out); have d1 := BA.out.c1; have d2 := BA.out.c2; clear t1 a1 s1))))
  all_goals
    go_wp2_with fail
    go_ret
    exact ⟨rfl, _, _, _, KF.out⟩
end
end Go.Proofs
