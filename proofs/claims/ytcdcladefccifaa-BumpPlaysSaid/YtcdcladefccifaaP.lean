/-
  The walk of BumpPlays: it returns true in any world. No condition but that the arguments read as they do.
-/
import Derived.Test.YtcdcladefccifaaO
set_option linter.unusedVariables false
set_option linter.unusedSimpArgs false
namespace Go.Proofs
open Go.RowKit BU
theorem BU.RdB.below {w w' : World} {A : Option Addr} {len : Nat} {z : List Int} (h : RdB w A len z) (hb : Below w.heap.size w w') : RdB w' A len z := by
  refine ⟨h.1, fun hp => ?_⟩
  obtain ⟨ad, e, hc⟩ := h.2 hp
  refine ⟨ad, e, fun j hj => ?_⟩
  have := hc j hj
  rw [hb.cell (World.block_lt_of_cell? w _ this)]
  exact this
theorem BU.Two.drewN {X : Nat → Prop} {w0 w : World} {b : Nat} {cv : Value} {S : St} {g : Nat} {bv rv : Value} {R : RS} (h : Two X w0 w b cv S g bv rv R) (q : Nat) : Two X w0 (w.drewN q) b cv S g bv rv R :=
  h.grow (w' := w.drewN q) ⟨rfl, rfl, rfl, Nat.le_refl _, fun _ _ => rfl⟩ (fun k hk => .inl hk)
theorem asked_any (w0 w : World) (b : Nat) (cv : Value) (S : St) (g : Nat) (bv rv : Value) (h : Two (fun _ => False) w0 w b cv S g bv rv (rOf S)) (k at_ n m : Int)
    (A : Option Addr) (len cap : Nat) (z : List Int) (hB : ∀ w', Below w0.heap.size w0 w' → RdB w' A len z) (hlen : len ≤ 140737488351232) (hnil : A = none → cap = 0) :
    Calls Try.prog 15 #[.pointer (some ⟨b, 0, none⟩), .pointer (some ⟨g, 0, none⟩), .agg #[.int .i64 k, .int .i64 at_, .int .i64 n, .int .i64 m, .slice A len cap]] w (AskEnd w0 b g bv) := by
  by_cases h0 : k < 1 ∨ 7 < k
  · exact asked_other w0 w b cv S g bv rv h at_ n m _ k h0
  · by_cases h1 : k = 1
    · subst h1; exact asked_alloc w0 w b cv S g bv rv h at_ n m _
    · by_cases h2 : k = 2
      · subst h2; exact asked_put w0 w b cv S g bv rv h at_ n m A len cap z hB hlen hnil
      · by_cases h3 : k = 3
        · subst h3; exact asked_get w0 w b cv S g bv rv h at_ n m _
        · by_cases h4 : k = 4
          · subst h4; exact asked_cell w0 w b cv S g bv rv h at_ n m _
          · by_cases h5 : k = 5
            · subst h5; exact asked_load w0 w b cv S g bv rv h at_ n m _
            · by_cases h6 : k = 6
              · subst h6; exact asked_store w0 w b cv S g bv rv h at_ n m _
              · obtain rfl : k = 7 := by omega
                exact asked_cas w0 w b cv S g bv rv h at_ n m _
/-- A slice of Calls, as it is read. -/
def BU.RdCalls (w : World) (a : Option Addr) (len : Nat) : Prop :=
  len ≤ 9223372036854775807 ∧ ∀ i, i < len → ∃ (ad : Addr) (k at_ n m : Int) (A : Option Addr) (l c : Nat) (z : List Int), a = some ad ∧
    (∀ w', Below w.heap.size w w' → w'.cell? (ad.add (i * 5)) = some (.int .i64 k) ∧ w'.cell? ⟨(ad.add (i * 5)).block, (ad.add (i * 5)).off + 1, none⟩ = some (.int .i64 at_) ∧ w'.cell? ⟨(ad.add (i * 5)).block, (ad.add (i * 5)).off + 2, none⟩ = some (.int .i64 n) ∧
      w'.cell? ⟨(ad.add (i * 5)).block, (ad.add (i * 5)).off + 3, none⟩ = some (.int .i64 m) ∧ w'.cell? ⟨(ad.add (i * 5)).block, (ad.add (i * 5)).off + 4, none⟩ = some (.slice A l c) ∧ RdB w' A l z) ∧ l ≤ 140737488351232 ∧ (A = none → c = 0)
def BU.PlayInv (w0 : World) (b g : Nat) (bv : Value) (w : World) : Prop := ∃ cv rv S, Two (fun _ => False) w0 w b cv S g bv rv (rOf S)
theorem BU.play_start {w w1 w2 w3 : World} (sz : Nat) (hs : sz ≤ 65536) (b1 : Below w.heap.size w w1) (a2 : Ar w2 w1.heap.size (.slice none 0 0) ⟨ZZ.zb, [], sz, 0⟩) (b2 : Below w1.heap.size w1 w2)
    (r3 : Rf w3 (w2.heap.size + 1) (.slice (some ⟨w2.heap.size, 0, none⟩) sz sz) (.slice none 0 0) ⟨List.replicate sz 0, [], 0⟩) (b3 : Below w2.heap.size w2 w3) :
    PlayInv w w1.heap.size (w2.heap.size + 1) (.slice (some ⟨w2.heap.size, 0, none⟩) sz sz) w3 := by
  have h1 := b1.size
  have h2 := b2.size
  have h3 := a2.lt
  have e : rOf ⟨ZZ.zb, [], (sz : Int), 0⟩ = ⟨List.replicate sz 0, [], 0⟩ := by
    unfold rOf ZZ.zb
    simp only [Int.toNat_natCast]
    rw [List.take_replicate, show min sz 65536 = sz by omega]
  have ob : ∀ k, (Value.slice (some ⟨w2.heap.size, 0, none⟩) sz sz).ownBlock = some k → k = w2.heap.size := by
    intro k hk
    simp only [Value.ownBlock, Option.some.injEq] at hk
    exact hk.symm
  have nn : ∀ k, (Value.slice none 0 0).ownBlock ≠ some k := fun k hk => by cases hk
  refine ⟨_, _, ⟨ZZ.zb, [], sz, 0⟩, ⟨a2.below b3, by rw [e]; exact r3, (b1.trans (b2.mono h1)).trans (b3.mono (by omega)), h1, by omega, fun k hk => (nn k hk).elim, (fun k hk => by have := ob k hk; omega), fun k hk => (nn k hk).elim, by omega, (fun hk => by have := ob _ hk; omega), nn _, nn _, fun k hk => (nn k hk).elim, fun k hk => (nn k hk).elim, fun k hk => hk.elim⟩⟩
set_option maxRecDepth 100000 in
theorem plays_bad (size : Int) (a : Option Addr) (len cap : Nat) (w : World) (hs : size < 0 ∨ 65536 < size) : Calls Try.prog 5 #[.int .i64 size, .slice a len cap] w (fun e w' => e = .returned (.bool true) ∧ Below w.heap.size w w') := by
  go_enter Try.func5, Try.ntmps5
  go_wp2_with fail
  refine (awake_any w).mono ?_
  rintro e w1 ⟨rfl, b1⟩
  have B1 := Lib.hid b1
  clear b1
  go_wp2_with fail
  refine (new_bad w1 size hs).mono ?_
  rintro e w2 ⟨rfl, rfl⟩
  go_wp2_with fail
  refine (rnew_bad w2 size hs).mono ?_
  rintro e w3 ⟨rfl, rfl⟩
  go_wp2_with fail
  go_ret
  exact ⟨rfl, B1.out⟩
/-- what the last Get leaves -/
def BU.LastEnd (w0 : World) (g : Nat) (u : Nat) (e : Ending) (w' : World) : Prop :=
  ∃ (v : Value) (st : ByteArray) (q L cap : Nat), e = .returned (.tuple #[v, .int .i64 0]) ∧ w'.cell? ⟨g, 0, none⟩ = some (.slice (some ⟨q, 0, none⟩) L cap) ∧ w'.cell? ⟨g, 1, none⟩ = some (.int .i64 (u : Int)) ∧
    (∀ n, (convert 40 9 v).run Try.prog (w'.drewN n) = .ok (.string st) (w'.drewN n)) ∧ (∀ n, (convert 40 9 (.slice (some ⟨q, 0, none⟩) u cap)).run Try.prog (w'.drewN n) = .ok (.string st) (w'.drewN n)) ∧ u ≤ cap ∧ Below w0.heap.size w0 w'
theorem BU.play_end {w0 w : World} {b : Nat} {cv : Value} {S : St} {g : Nat} {bv rv : Value} (h : Two (fun _ => False) w0 w b cv S g bv rv (rOf S)) :
    ∃ u : Nat, S.used = (u : Int) ∧ w.cell? ⟨g, 1, none⟩ = some (.int .i64 (u : Int)) ∧ Calls Try.prog 17 #[.pointer (some ⟨b, 0, none⟩), .int .i64 0, .int .i64 (u : Int)] w (LastEnd w0 g u) := by
  have q0 := h.a.h0
  have q1 := h.a.h1
  have q2 := h.a.h2
  have hm := h.a.hm
  obtain ⟨u, hu⟩ := Int.eq_ofNat_of_zero_le q0
  refine ⟨u, hu, by rw [← hu]; exact h.r.c1, ?_⟩
  refine (getA _ _ _ _ h.a 0 (u : Int)).mono ?_
  rintro e w4 ⟨v, rfl, ho, _, hb⟩
  have hno : ¬ Out S.used 0 (u : Int) := by unfold Out; omega
  have hput : putR S.used 0 (u : Int) = 0 := by
    unfold putR
    rw [if_neg hno]
  have hget : getZ S.m S.used 0 (u : Int) = S.m.take u := by
    unfold getZ
    rw [if_neg hno]
    simp
  rw [hget] at ho
  have hr4 := h.r.below hb
  obtain ⟨q, hq⟩ := hr4.bn
  have hob := hr4.ob
  have hBl : (rOf S).B.length = S.size.toNat := by have := rOf_len h.a; omega
  rcases hob.2 with ⟨h1, _⟩ | ⟨q', cap', cur, hv, _, _, hn, _⟩
  · rw [h1] at hq; cases hq
  · subst hv
    refine ⟨v, strOfNums (S.m.take u), q', (rOf S).B.length, cap', by rw [hput], hr4.c0, by rw [← hu]; exact hr4.c1, fun n => ?_, fun n => ?_, by omega, h.below.trans (hb.mono h.below.size)⟩
    · exact own_str (w := w4.drewN n) ho
    · have hl : (S.m.take u).length = u := by rw [List.length_take]; omega
      refine run_convert_bytes_arg (w4.drewN n) 40 5 Try.underlying40 Try.underlying5 q' 0 u cap' (S.m.take u) hl (fun i hi => ?_) 9 Try.underlying9
      have hc := hob.cells (g := q') rfl i (.int .u8 ((rOf S).B.getD i 0)) (BU.byts_at (by omega))
      have ha : (⟨q', 0, none⟩ : Addr).add i = ⟨q', 0 + i, none⟩ := by unfold Addr.add; split <;> simp_all
      rw [ha] at hc
      have he : (S.m.take u).getD i 0 = (rOf S).B.getD i 0 := by
        unfold rOf
        simp only [List.getD_eq_getElem?_getD, List.getElem?_take]
        rw [if_pos (by omega), if_pos (by omega)]
      rw [he]
      exact hc
set_option maxRecDepth 100000 in
set_option maxHeartbeats 800000 in
theorem plays_walk (sz : Nat) (a : Option Addr) (len cap : Nat) (w : World) (hs : sz ≤ 65536) (hr : RdCalls w a len) : Calls Try.prog 5 #[.int .i64 (sz : Int), .slice a len cap] w (fun e w' => e = .returned (.bool true) ∧ Below w.heap.size w w') := by
  have hm := hr.1
  have Hr := Lib.hid hr
  clear hr
  go_enter Try.func5, Try.ntmps5
  go_wp2_with fail
  refine (awake_any w).mono ?_
  rintro e w1 ⟨rfl, b1⟩
  have B1 := Lib.hid b1
  clear b1
  go_wp2_with fail
  refine (new_any w1 sz (by omega) (by omega)).mono ?_
  rintro e w2 ⟨rfl, a2, b2⟩
  have A2 := Lib.hid a2
  have B2 := Lib.hid b2
  clear a2 b2
  go_wp2_with fail
  refine (rnew_any w2 sz hs).mono ?_
  rintro e w3 ⟨rfl, r3, b3⟩
  have hinv := play_start sz hs B1.out A2.out B2.out r3 b3
  have Hinv := Lib.hid hinv
  clear hinv r3 b3 B1 A2 B2
  generalize w1.heap.size = b at *
  generalize (Value.slice (some ⟨w2.heap.size, 0, none⟩) sz sz) = bv at *
  generalize w2.heap.size + 1 = g at *
  go_wp2_with fail
  go_loopw [10] (fun i wr => ∃ k : Nat, k ≤ len ∧ i = .int .i64 k ∧ PlayInv w b g bv wr) (fun i _ => len - (intOf i).toNat)
  case atStart => exact ⟨0, by omega, rfl, Hinv.out⟩
  case round =>
    obtain ⟨k, hk, rfl, hinv⟩ := hrel
    obtain ⟨cv, rv, S, ht⟩ := hinv
    have HT := Lib.hid ht
    clear ht Hinv
    by_cases hlt : k < len
    · obtain ⟨ad, k', at_, n, m, A, l, c, z, ha, hc, hl, hn⟩ := Hr.out.2 k hlt
      subst ha
      have HC := Lib.hid hc
      obtain ⟨d0, d1, d2, d3, d4, _⟩ := hc wr HT.out.below
      clear hc
      go_wp2_with fail
      refine (asked_any w wr b cv S g bv rv HT.out k' at_ n m A l c z (fun w' hb => (HC.out w' hb).2.2.2.2.2) hl hn).mono ?_
      rintro e w4 ⟨rfl, cv4, rv4, S4, t4⟩
      have T4 := Lib.hid t4
      have cu : w4.cell? ⟨g, 1, none⟩ = some (.int .i64 S4.used) := T4.out.r.c1
      clear t4 d0 d1 d2 d3 d4 HC HT
      go_wp2_with fail
      go_quiet ((go_at_call 16; exact Calls.quiet_of_same (used_any _ _ _ _ (T4.out.a.drewN _))))
      go_wp2_with fail
      go_roundw
      case rel => exact ⟨k + 1, by omega, by go_num, _, _, _, Two.drewN T4.out _⟩
      case measure => simp [intOf]; omega
    · have hfin := play_end HT.out
      obtain ⟨u, hu, cu, hgo⟩ := hfin
      have HG := Lib.hid hgo
      clear hgo HT
      go_wp2_with fail
      refine HG.out.mono ?_
      rintro e w4 ⟨v, st, q, L, cap', rfl, c0, c1, k1, k2, hL, hbel⟩
      have HBel := Lib.hid hbel
      clear hbel HG
      go_wp2_with fail
      go_quiet (fail)
      go_wp2_with fail
      go_ret
      exact ⟨by simp, ⟨HBel.out.os, HBel.out.tape, HBel.out.output, HBel.out.size, HBel.out.block⟩⟩
namespace BU
section
variable {H : Type} {enc : TypeId × Value → H} {w : World} {base : Nat} {spare : Nat → Bool} {held : Bool}
theorem weights_elem {H : Type} {e : TypeId} : ∀ {ds : List (DataW H)} {i : Nat} {d : DataW H}, ds[i]? = some d → ∀ n ∈ d.weights Try.prog e, n ∈ DataW.weightsAll Try.prog e ds
  | d0 :: ds, 0, d, hd, n, hn => by
    simp only [List.getElem?_cons_zero, Option.some.injEq] at hd
    subst hd
    simp only [DataW.weightsAll, List.mem_append]
    exact .inl hn
  | d0 :: ds, i + 1, d, hd, n, hn => by
    simp only [List.getElem?_cons_succ] at hd
    simp only [DataW.weightsAll, List.mem_append]
    exact .inr (weights_elem hd n hn)
  | [], _, _, hd, _, _ => by simp at hd
theorem calls_form {fuel : Nat} {a : Option Addr} {len cap : Nat} {x : DataW H × List MemPlace} (h : DataW.trod enc Try.prog w base spare held fuel 35 [.slice a len cap] = some x) (hl : Light 35 x.1) : RdCalls w a len := by
  have e42 : Try.prog.cellsOf 42 = 5 := by kernel_rfl
  rcases Go.Deep.open_slice Try.underlying35 h with ⟨hcs, _⟩ | ⟨ad, len', cap', m, n, D, Pl, hcs, _, hlc, hm, hmm, hx, hi⟩
  · simp at hcs
    obtain ⟨rfl, rfl, rfl⟩ := hcs
    exact ⟨by omega, fun i hi => absurd hi (by omega)⟩
  · simp at hcs
    obtain ⟨rfl, rfl, rfl⟩ := hcs
    unfold maxLen at hm
    refine ⟨by omega, fun i hlt => ?_⟩
    have him : i < m := by rw [hmm]; split <;> omega
    obtain ⟨cs', hc, ht⟩ := hi i him
    rw [e42] at hc
    have hld : Light 42 (D i) := by
      have hl' : ∀ n ∈ x.1.weights Try.prog 35, n ≤ reachBytes := hl
      rw [hx] at hl'
      simp only [DataW.weights, Try.underlying35, List.mem_cons, List.mem_append] at hl'
      exact fun n hn => hl' n (.inr (.inl (weights_elem (i := i) (by rw [List.getElem?_map, List.getElem?_range hlt]; rfl) n hn)))
    obtain ⟨k, at_, nn, mm, A, l, c, z, he, _, _, _, _, hr, hll, _, hnil⟩ := call_form ht hld
    obtain ⟨_, hcl, hat⟩ := World.cells?_some hc
    subst he
    have g0 := hat 0 (by omega)
    have g1 := hat 1 (by omega)
    have g2 := hat 2 (by omega)
    have g3 := hat 3 (by omega)
    have g4 := hat 4 (by omega)
    have ha : ∀ j, 0 < j → (ad.add (i * 5)).add j = ⟨(ad.add (i * 5)).block, (ad.add (i * 5)).off + j, none⟩ := by
      intro j hj
      unfold Addr.add
      split <;> simp_all
    have ha0 : (ad.add (i * 5)).add 0 = ad.add (i * 5) := by
      generalize ad.add (i * 5) = q
      simp [Addr.add]
    rw [ha0] at g0
    rw [ha 1 (by omega)] at g1
    rw [ha 2 (by omega)] at g2
    rw [ha 3 (by omega)] at g3
    rw [ha 4 (by omega)] at g4
    refine ⟨ad, k, at_, nn, mm, A, l, c, z, rfl, fun w' hb => ?_, hll, hnil⟩
    have keep : ∀ q v, w.cell? q = some v → w'.cell? q = some v := fun q v hq => by rw [hb.cell (World.block_lt_of_cell? w _ hq)]; exact hq
    exact ⟨keep _ _ g0, keep _ _ g1, keep _ _ g2, keep _ _ g3, keep _ _ g4, hr.below hb⟩
end
end BU
theorem plays_row (size : Int) (a : Option Addr) (len cap : Nat) (w : World) (_ : (Lit.int .i64 size).wf = true) (hr : RdCalls w a len) : Calls Try.prog 5 #[.int .i64 size, .slice a len cap] w (fun e w' => e = .returned (.bool true) ∧ Below w.heap.size w w') := by
  by_cases hs : size < 0 ∨ 65536 < size
  · exact plays_bad size a len cap w hs
  · obtain ⟨sz, rfl⟩ := Int.eq_ofNat_of_zero_le (show 0 ≤ size by omega)
    exact plays_walk sz a len cap w (by omega) hr
end Go.Proofs
