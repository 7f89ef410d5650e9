/-
  Walks of one asked call, the kinds Put and Get: both arenas answer alike. No condition but that the bytes to be put are read in older memory.
-/
import Derived.Test.YtcdcladefccifaaM
import Derived.Laws.AppendOwnNone
set_option linter.unusedVariables false
set_option linter.unusedSimpArgs false
namespace Go.Proofs
open Go.RowKit BU
namespace BU
/-- append(v, ys...): v a row of the call's own, ys bytes that are read, nil let in -/
theorem wpList_append_rd {w : World} {ops : Array Oper} {rest : List Oper} {o : Oper} {a : Act} {Q : Exit → Act → World → Prop} (hgd : o.guard = none) (s x : Operand)
    (ho : o.op = .call { callee := .builtin .append, args := #[s, x], argTypes := #[40, 40] }) (base : Nat) (v : Value) (n : Nat) (xs : List Value) (hs : a.eval s = v) (hown : w.ownsRow base 5 1 v n xs)
    (A : Option Addr) (m c : Nat) (z : List Int) (hx : a.eval x = .slice A m c) (hz : RdB w A m z) (hnil : A = none → c = 0) (hl : n + m ≤ 140737488355328) (hbase : base ≤ w.heap.size)
    (h : ∀ v' w', w'.ownsRow base 5 1 v' (n + m) (xs ++ byts z) → w.grownBy w' v.ownBlock → wpList Try.prog ops Q rest (a.put o.dst v') w') : wpList Try.prog ops Q (o :: rest) a w := by
  obtain ⟨i0, hi, hq0, hq1, hq2⟩ := info_parts info5
  rcases A with _ | ad
  · have hm : m = 0 := by
      rcases Nat.eq_zero_or_pos m with h0 | h0
      · exact h0
      · obtain ⟨ad, e, _⟩ := hz.2 h0
        cases e
    subst hm
    have hz0 : z = [] := List.eq_nil_of_length_eq_zero hz.1
    subst hz0
    have hc := hnil rfl
    subst hc
    refine wpList_append_own_none hgd s x 40 ho base 5 i0 1 Try.underlying40 hi v n xs hs hown hx ?_
    refine h v w ?_ ⟨rfl, rfl, rfl, Nat.le_refl _, fun _ _ _ => rfl⟩
    simpa [byts] using hown
  · refine wpList_append_own_at w hgd s x 40 ho base 5 i0 (.int .u8 0) 1 1 Try.underlying40 hi hq0 hq1 hq2 rfl (by decide) v n xs hs hown ad m c (byts z) hx (by simpa [byts] using hz.1) ?_ ?_ (by unfold maxLen; omega) (by omega) hbase ?_
    · intro j u hu
      obtain ⟨hj, rfl⟩ := BU.byts_get hu
      have hl := hz.1
      obtain ⟨ad', e, hc⟩ := hz.2 (by omega)
      injection e with e
      subst e
      exact hc j (by omega)
    · intro u hu
      simp only [byts, List.mem_map] at hu
      obtain ⟨y, _, rfl⟩ := hu
      rfl
    · intro v' w' h1 h2 _ _
      exact h v' w' h1 h2
theorem spl_take (m : List Int) (i s : Nat) (z : List Int) (h : i + z.length ≤ s) (hs : s ≤ m.length) : (spl m i z).take s = spl (m.take s) i z := by
  unfold spl
  rw [List.take_append, List.take_append, List.length_take, List.take_take, List.take_take, List.drop_take]
  rw [show min s i = i by omega, show min i s = i by omega, show min i m.length = i by omega, show List.take (s - i) z = z from List.take_of_length_le (by omega)]
  rw [show s - i - z.length = s - (i + z.length) by omega]
theorem putM_take (m : List Int) (used at_ : Int) (s : Nat) (z : List Int) (h1 : used ≤ (s : Int)) (hs : s ≤ m.length) : (putM m used at_ z).take s = putM (m.take s) used at_ z := by
  unfold putM
  split
  · rfl
  · rename_i ho
    unfold Out at ho
    exact spl_take m at_.toNat s z (by omega) hs
theorem getZ_take (m : List Int) (used at_ n : Int) (s : Nat) (h1 : used ≤ (s : Int)) : getZ m used at_ n = getZ (m.take s) used at_ n := by
  unfold getZ
  split
  · rfl
  · rename_i ho
    unfold Out at ho
    rw [List.drop_take, List.take_take, show min n.toNat (s - at_.toNat) = n.toNat by omega]
theorem own_str {w : World} {base n : Nat} {v : Value} {xs : List Int} (h : w.ownsRow base 5 1 v n (byts xs)) : (convert 40 9 v).run Try.prog w = .ok (.string (strOfNums xs)) w := by
  have hl : xs.length = n := by have := h.1; simp [byts] at this; exact this
  rcases h.2 with ⟨rfl, rfl⟩ | ⟨g, cap, cur, rfl, _⟩
  · obtain rfl : xs = [] := List.eq_nil_of_length_eq_zero hl
    exact run_convert_bytes_nil w 40 5 Try.underlying40 Try.underlying5 0 0 9 Try.underlying9
  · refine run_convert_bytes_arg w 40 5 Try.underlying40 Try.underlying5 g 0 n cap xs hl (fun i hi => ?_) 9 Try.underlying9
    have hc := h.cells (g := g) rfl i (.int .u8 (xs.getD i 0)) (BU.byts_at (by omega))
    have ha : (⟨g, 0, none⟩ : Addr).add i = ⟨g, 0 + i, none⟩ := by unfold Addr.add; split <;> simp_all
    rwa [ha] at hc
/-- a row that is owned reads -/
theorem own_rdb {w : World} {base n : Nat} {v : Value} {xs : List Int} (h : w.ownsRow base 5 1 v n (byts xs)) : ∃ A cap, v = .slice A n cap ∧ RdB w A n xs := by
  have hl : xs.length = n := by have := h.1; simp [byts] at this; exact this
  rcases h.2 with ⟨rfl, rfl⟩ | ⟨g, cap, cur, rfl, _⟩
  · exact ⟨none, 0, rfl, hl, fun hh => absurd hh (by omega)⟩
  · refine ⟨_, cap, rfl, hl, fun _ => ⟨_, rfl, fun j hj => ?_⟩⟩
    exact h.cells (g := g) rfl j (.int .u8 (xs.getD j 0)) (BU.byts_at (by omega))
theorem own_moved {w w' : World} {base e n : Nat} {v : Value} {xs : List Value} (h : w.ownsRow base e 1 v n xs) (hr : ∀ k, v.ownBlock = some k → w'.heap[k]? = w.heap[k]?) : w'.ownsRow base e 1 v n xs := by
  obtain ⟨h1, h2⟩ := h
  refine ⟨h1, ?_⟩
  rcases h2 with h2 | ⟨g, cap, cur, hv, hg, hh, r⟩
  · exact .inl h2
  · exact .inr ⟨g, cap, cur, hv, hg, by rw [hr g (by rw [hv]; rfl)]; exact hh, r⟩
/-- a row of bytes that is the call's own, whatever it holds, and nothing older touched -/
def Scrap (W : World) (B : Nat) (v : Value) (n : Nat) (w : World) : Prop := (∃ ys, w.ownsRow B 5 1 v n ys) ∧ Below B W w
theorem Scrap.at_ {W w : World} {B : Nat} {v : Value} {n : Nat} (h : Scrap W B v n w) (hn : 0 < n) : ∃ q cap, v = .slice (some ⟨q, 0, none⟩) n cap ∧ B ≤ q ∧ q < w.heap.size ∧
    ∀ j, j < n → (∃ u, w.cell? ⟨q, j, none⟩ = some u) ∧ w.frozen? ⟨q, j, none⟩ = false ∧ ∀ y, Scrap W B v n (w.setCell ⟨q, j, none⟩ y) := by
  obtain ⟨⟨ys, ho⟩, hb⟩ := h
  obtain ⟨q, cap, rfl, hB, hlt⟩ : ∃ q cap, v = .slice (some ⟨q, 0, none⟩) n cap ∧ B ≤ q ∧ q < w.heap.size := by
    rcases ho.2 with ⟨_, h0⟩ | ⟨q, cap, cur, hv, hB, hh, _⟩
    · omega
    · exact ⟨q, cap, hv, hB, (Array.getElem?_eq_some_iff.1 hh).1⟩
  refine ⟨q, cap, rfl, hB, hlt, fun j hj => ⟨?_, ho.frozenAt j, fun y => ?_⟩⟩
  · have := ho.1
    rw [ho.cellAt j (by omega)]
    exact ⟨_, List.getElem?_eq_getElem (by omega)⟩
  · have hs := ho.stored j y
    exact ⟨⟨_, hs.1⟩, hb.setCell hB y⟩
end BU
section
variable (w0 w : World) (b : Nat) (cv : Value) (S : St) (g : Nat) (bv rv : Value) (h : Two (fun _ => False) w0 w b cv S g bv rv (rOf S)) (at_ n m : Int)
include h
set_option maxRecDepth 100000 in
set_option maxHeartbeats 800000 in
theorem asked_get (sl : Value) : Calls Try.prog 15 #[.pointer (some ⟨b, 0, none⟩), .pointer (some ⟨g, 0, none⟩), .agg #[.int .i64 3, .int .i64 at_, .int .i64 n, .int .i64 m, sl]] w (AskEnd w0 b g bv) := by
  have H0 := Lib.hid (h.box #[.int .i64 3, .int .i64 at_, .int .i64 n, .int .i64 m, sl])
  have B0 := Lib.hid (Box.new w 3 at_ n m sl)
  have q1 := h.a.h1
  have q0 := h.a.h0
  have q2 := h.a.h2
  have hzl : (getZ S.m S.used at_ n).length ≤ 65536 := by
    unfold getZ
    split
    · simp
    · rename_i hO
      unfold Out at hO
      rw [List.length_take]; omega
  have Hzl := Lib.hid hzl
  clear hzl
  have hz := getZ_take S.m S.used at_ n S.size.toNat (by omega)
  have Hz := Lib.hid hz
  clear hz h
  go_enter Try.func15, Try.ntmps15
  go_wp2_with fail
  refine (getA _ _ _ _ H0.out.a at_ n).mono ?_
  rintro e w1 ⟨v, rfl, ho, _, hb⟩
  have H1 := Lib.hid (H0.out.grow (Y := fun k => k = w.heap.size) hb (fun k hk => .inl hk))
  have B1 : Hid (Box w1 w.heap.size 3 at_ n m sl) := Lib.hid ((hb.block _ (by simp)).trans B0.out)
  have HO := Lib.hid ho
  have c1 := B1.out.c1
  have c2 := B1.out.c2
  have hbs := hb.size
  have HBo := Lib.hid hb
  clear ho hb
  go_wp2_with fail
  refine (getB _ _ _ _ ⟨S.m.take S.size.toNat, S.xs, S.used⟩ H1.out.r at_ n).mono ?_
  rintro e w2 ⟨v2, rfl, ho, _, hb⟩
  simp only [← Hz.out] at ho
  generalize getZ S.m S.used at_ n = z at *
  have H2 := Lib.hid (H1.out.grow (Y := fun k => k = w.heap.size) hb (fun k hk => .inl hk))
  have HO1 := Lib.hid (own_moved HO.out (fun k hk => hb.block k (HO.out.lt k hk).2))
  have HO2 := Lib.hid ho
  have k1 := own_str HO1.out
  have k2 := own_str HO2.out
  have HB : Hid (Below (w.heap.size + 1) (w.alloc (.cells #[.int .i64 3, .int .i64 at_, .int .i64 n, .int .i64 m, sl] 42)) w2) := Lib.hid ((by simpa using HBo.out : Below (w.heap.size + 1) _ w1).trans (hb.mono (by simpa using hbs)))
  have HO3 : Hid (w2.ownsRow (w.heap.size + 1) 5 1 v z.length (byts z)) := Lib.hid (by simpa using HO1.out)
  have hzl := Hzl.out
  have hw2 : w.heap.size + 1 ≤ w2.heap.size := Nat.le_trans (by simpa using hbs) hb.size
  clear ho hb c1 c2 Hzl HBo
  obtain ⟨i0, hi, hq0, hq1, hq2⟩ := info_parts info5
  have Hi := Lib.hid hi
  have Hq0 := Lib.hid hq0
  have Hq1 := Lib.hid hq1
  have Hq2 := Lib.hid hq2
  clear hi hq0 hq1 hq2
  go_wp2_with (at_builtin; refine wpList_append_own_at _ rfl _ _ 40 rfl (w.heap.size + 1) 5 i0 (.int .u8 0) 1 1 Try.underlying40 Hi.out Hq0.out Hq1.out Hq2.out rfl (by decide) v z.length (byts z) rfl (HO3.out.alloc _) ⟨w2.heap.size, 0, none⟩ 1 1 [.int .u8 99] rfl rfl ?c1 ?c2 ?c3 ?c4 ?c5 ?_)
  case c1 => exact cell_one_new _ _ _
  case c2 => intro u hu; simp at hu; subst hu; rfl
  case c3 => unfold maxLen; omega
  case c4 => omega
  case c5 => simp; omega
  intro v' w3 ho3 hg3 _ hat
  have hS : Scrap (w.alloc (.cells #[.int .i64 3, .int .i64 at_, .int .i64 n, .int .i64 m, sl] 42)) (w.heap.size + 1) v' (z.length + 1) w3 :=
    ⟨⟨_, ho3⟩, (HB.out.alloc hw2 _).grown hg3 (by simp; omega) (fun k hk => (HO3.out.lt k hk).1)⟩
  obtain ⟨q, cap, rfl, _⟩ := hS.at_ (by omega)
  have HS := Lib.hid hS
  clear hS ho3 hg3 hat k1 k2
  go_wp2_with fail
  go_loopw [19] (fun t wr => ∃ k : Nat, k ≤ z.length + 1 ∧ t = .int .i64 k ∧ Scrap (w.alloc (.cells #[.int .i64 3, .int .i64 at_, .int .i64 n, .int .i64 m, sl] 42)) (w.heap.size + 1) (.slice (some ⟨q, 0, none⟩) (z.length + 1) cap) (z.length + 1) wr) (fun t _ => z.length + 1 - (intOf t).toNat)
  case atStart => exact ⟨0, by omega, rfl, HS.out⟩
  case round =>
    obtain ⟨k, hk, rfl, hsc⟩ := hrel
    have Hsc := Lib.hid hsc
    clear hsc
    by_cases hlt : k < z.length + 1
    · obtain ⟨q', cap', hv, _, _, hat⟩ := Hsc.out.at_ (by omega)
      injection hv with hv _ _
      injection hv with hv
      injection hv with hv _ _
      subst hv
      obtain ⟨⟨u, hu⟩, hf, hn⟩ := hat k hlt
      have Hn := Lib.hid hn
      clear hn hat
      go_wp2_with fail
      go_roundw
      case rel => exact ⟨k + 1, by omega, by go_num, Hn.out _⟩
      case measure => simp [intOf]; omega
    · go_wp2_with fail
      go_ret
      exact ⟨rfl, _, _, _, H0.out.grow (X := fun k => k = w.heap.size) (Y := fun _ => False) (by simpa using Hsc.out.2) (fun k hk => hk.elim)⟩
end
namespace BU
theorem Two.belowR {X : Nat → Prop} {w0 w w' : World} {b : Nat} {cv : Value} {S : St} {g : Nat} {bv rv rvn : Value} {R : RS} (h : Two X w0 w b cv S g bv rv R) (hs : RStp g bv rv rvn w w') : Below w0.heap.size w0 w' :=
  h.below.trans ⟨hs.os, hs.tape, hs.output, hs.size, fun k hk => hs.block k (Nat.lt_of_lt_of_le hk h.below.size) (by have := h.hg; omega) (fun e => by have := h.hbv k e; omega) (fun e => by have := h.hrv k e; omega)⟩
/-- what the loop over the lent bytes keeps -/
def PutLoop (w0 : World) (P : Nat) (at_ n m : Int) (sl : Value) (B : Nat) (v : Value) (len : Nat) (b : Nat) (cv : Value) (S : St) (g : Nat) (bv rv : Value) (R : RS) (wr : World) : Prop :=
  Two (fun k => k = P ∨ v.ownBlock = some k) w0 wr b cv S g bv rv R ∧ Box wr P 2 at_ n m sl ∧ ∃ ys, wr.ownsRow B 5 1 v len ys
theorem PutLoop.at_ {w0 : World} {P : Nat} {at_ n m : Int} {sl : Value} {B : Nat} {v : Value} {len : Nat} {b : Nat} {cv : Value} {S : St} {g : Nat} {bv rv : Value} {R : RS} {wr : World} (h : PutLoop w0 P at_ n m sl B v len b cv S g bv rv R wr) (hB : w0.heap.size ≤ B) (hP : P < B) (hn : 0 < len) :
    ∃ q cap, v = .slice (some ⟨q, 0, none⟩) len cap ∧ ∀ j, j < len → (∃ u, wr.cell? ⟨q, j, none⟩ = some u) ∧ wr.frozen? ⟨q, j, none⟩ = false ∧ ∀ y, PutLoop w0 P at_ n m sl B v len b cv S g bv rv R (wr.setCell ⟨q, j, none⟩ y) := by
  obtain ⟨ht, hb, ys, ho⟩ := h
  obtain ⟨q, cap, rfl, hq⟩ : ∃ q cap, v = .slice (some ⟨q, 0, none⟩) len cap ∧ B ≤ q := by
    rcases ho.2 with ⟨_, h0⟩ | ⟨q, cap, cur, hv, hB, _⟩
    · omega
    · exact ⟨q, cap, hv, hB⟩
  refine ⟨q, cap, rfl, fun j hj => ⟨?_, ho.frozenAt j, fun y => ?_⟩⟩
  · have := ho.1
    rw [ho.cellAt j (by omega)]
    exact ⟨_, List.getElem?_eq_getElem (by omega)⟩
  · have hs := ho.stored j y
    refine ⟨ht.touch (q := q) (.inr rfl) (by omega) hs.2, ?_, _, hs.1⟩
    unfold Box
    rw [heap_setCell_other _ _ _ _ (by show P ≠ q; omega)]
    exact hb
end BU
section
variable (w0 w : World) (b : Nat) (cv : Value) (S : St) (g : Nat) (bv rv : Value) (h : Two (fun _ => False) w0 w b cv S g bv rv (rOf S)) (at_ n m : Int)
include h
/-- behind the copy -/
def BU.Lent (w0 w1 : World) (P : Nat) (at_ n m : Int) (sl : Value) (B : Nat) (v : Value) (z : List Int) (b : Nat) (cv : Value) (S : St) (g : Nat) (bv rv : Value) : Prop :=
  Two (fun k => k = P ∨ v.ownBlock = some k) w0 w1 b cv S g bv rv (rOf S) ∧ Box w1 P 2 at_ n m sl ∧ w1.ownsRow B 5 1 v z.length (byts z)
set_option maxRecDepth 100000 in
set_option maxHeartbeats 800000 in
theorem asked_put (A : Option Addr) (len cap : Nat) (z : List Int) (hB : ∀ w', Below w0.heap.size w0 w' → RdB w' A len z) (hlen : len ≤ 140737488351232) (hnil : A = none → cap = 0) : Calls Try.prog 15 #[.pointer (some ⟨b, 0, none⟩), .pointer (some ⟨g, 0, none⟩), .agg #[.int .i64 2, .int .i64 at_, .int .i64 n, .int .i64 m, .slice A len cap]] w (AskEnd w0 b g bv) := by
  have hbelow := h.below
  have H0 := Lib.hid (h.box #[.int .i64 2, .int .i64 at_, .int .i64 n, .int .i64 m, .slice A len cap])
  have B0 := Lib.hid (Box.new w 2 at_ n m (.slice A len cap))
  have hw0 : w0.heap.size ≤ w.heap.size := hbelow.size
  have HB := Lib.hid hB
  have hzl := (hB w0 (Below.refl _ _)).1
  have Hzl := Lib.hid hzl
  have q0 := h.a.h0
  have q1 := h.a.h1
  have q2 := h.a.h2
  have Hm := Lib.hid h.a.hm
  have HBel := Lib.hid hbelow
  clear hbelow hB hzl h
  go_enter Try.func15, Try.ntmps15
  go_wp2_with (at_builtin; refine BU.wpList_append_rd rfl _ _ rfl (w.heap.size + 1) (.slice (some ⟨w.heap.size + 1, 0, none⟩) 0 0) 0 [] rfl ?c0 A len cap z rfl ?c1 hnil ?c2 ?c3 ?_)
  case c0 => simpa using World.ownsRow_made (base := w.heap.size + 1) (e := 5) (size := 1) (w.alloc (.cells #[.int .i64 2, .int .i64 at_, .int .i64 n, .int .i64 m, .slice A len cap] 42)) #[] 0 (by simp) (Nat.zero_le _) rfl
  case c1 => exact HB.out _ ((HBel.out.alloc hw0 _).alloc (by simp; omega) _)
  case c2 => omega
  case c3 => simp
  intro v' w1 ho1 hg1
  have hbl1 : Below (w.heap.size + 1) (w.alloc (.cells #[.int .i64 2, .int .i64 at_, .int .i64 n, .int .i64 m, .slice A len cap] 42)) w1 :=
    ((Below.refl _ _).alloc (by simp) _).grown hg1 (by simp) (by intro k hk; simp [Value.ownBlock] at hk; omega)
  have hlent : Lent w0 w1 w.heap.size at_ n m (.slice A len cap) (w.heap.size + 1) v' z b cv S g bv rv := by
    have ho : w1.ownsRow (w.heap.size + 1) 5 1 v' z.length (byts z) := by have := Hzl.out; simpa [this] using ho1
    refine ⟨H0.out.grow (by simpa using hbl1) (fun k hk => ?_), ((hbl1.block _ (by omega)).trans B0.out), ho⟩
    rcases hk with hk | hk
    · exact .inl hk
    · have := ho.lt k hk
      exact .inr ⟨by simpa using this.1, this.2⟩
  have HL := Lib.hid hlent
  have B1 := Lib.hid hlent.2.1
  have c1 := B1.out.c1
  obtain ⟨A', cap', hv, hrd⟩ := own_rdb hlent.2.2
  subst hv
  have HR := Lib.hid hrd
  have hB1 : w0.heap.size ≤ w.heap.size + 1 := by omega
  clear hbl1 ho1 hg1 hlent hrd H0 B0 HBel
  go_wp2_with fail
  refine (putA _ _ _ _ HL.out.1.a at_ A' z.length cap' z HR.out).mono ?_
  rintro e w2 ⟨rfl, a2, s2⟩
  have t2 := HL.out.1.stepA a2 s2
  have H2 : Hid (PutLoop w0 w.heap.size at_ n m (.slice A len cap) (w.heap.size + 1) (.slice A' z.length cap') z.length b cv { S with m := putM S.m S.used at_ z } g bv rv (rOf S) w2) :=
    Lib.hid ⟨t2.1, (t2.2 _ (.inl rfl)).trans B1.out, _, own_moved HL.out.2.2 (fun k hk => t2.2 k (.inr hk))⟩
  have hlz : z.length ≤ 140737488351232 := by have := Hzl.out; omega
  clear t2 a2 s2 HL HR c1 B1
  go_wp2_with fail
  go_loopw [13] (fun t wr => ∃ k : Nat, k ≤ z.length ∧ t = .int .i64 k ∧ PutLoop w0 w.heap.size at_ n m (.slice A len cap) (w.heap.size + 1) (.slice A' z.length cap') z.length b cv { S with m := putM S.m S.used at_ z } g bv rv (rOf S) wr) (fun t _ => z.length - (intOf t).toNat)
  case atStart => exact ⟨0, by omega, rfl, H2.out⟩
  case round =>
    obtain ⟨k, hk, rfl, hsc⟩ := hrel
    have Hsc := Lib.hid hsc
    clear hsc H2
    by_cases hlt : k < z.length
    · obtain ⟨q', cap'', hv, hat⟩ := Hsc.out.at_ hB1 (by omega) (by omega)
      injection hv with hv _ _
      subst hv
      obtain ⟨⟨u, hu⟩, hf, hn⟩ := hat k hlt
      have Hn := Lib.hid hn
      clear hn hat
      go_wp2_with fail
      go_roundw
      case rel => exact ⟨k + 1, by omega, by go_num, Hn.out _⟩
      case measure => simp [intOf]; omega
    · have BX := Lib.hid Hsc.out.2.1
      have c1 := BX.out.c1
      have c4 := BX.out.c4
      go_wp2_with fail
      refine (putB _ _ _ _ ⟨S.m.take S.size.toNat, S.xs, S.used⟩ Hsc.out.1.r at_ A len cap z (fun w' hs => HB.out w' (Hsc.out.1.belowR hs))).mono ?_
      rintro e w3 ⟨rfl, a3, s3⟩
      have t3 := (Hsc.out.1.stepR a3 s3).1.unbox
      have hm := Hm.out
      have e3 : (⟨putM (S.m.take S.size.toNat) S.used at_ z, S.xs, S.used⟩ : RS) = rOf { S with m := putM S.m S.used at_ z } := by
        unfold rOf
        rw [putM_take S.m S.used at_ S.size.toNat z (by omega) (by omega)]
      have T3 : Hid (Two (fun _ => False) w0 w3 b cv { S with m := putM S.m S.used at_ z } g bv rv (rOf { S with m := putM S.m S.used at_ z })) := Lib.hid (e3 ▸ t3)
      clear t3 e3 a3 s3 c1 c4 hm
      go_wp2_with fail
      go_ret
      exact ⟨by simp, _, _, _, T3.out⟩
end
end Go.Proofs
