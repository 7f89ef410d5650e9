/-
  Contracts of Cell, Put and Get of the document's arena. Conditions: as each states.
-/
import Derived.Test.YtcdcladefccifaaJ
set_option linter.unusedVariables false
set_option linter.unusedSimpArgs false
namespace Go.Proofs
open Go.RowKit BU
/-! ### Cell -/
set_option maxRecDepth 100000 in
theorem rnewcell_full (w : World) (g : Nat) (bv cv : Value) (R : RS) (h : Rf w g bv cv R) (hf : (R.B.length : Int) - R.used < 8) :
    Calls Try.prog 24 #[.pointer (some ⟨g, 0, none⟩)] w (fun e w' => e = .returned (.tuple #[.int .i64 0, .int .i64 60]) ∧ Rf w' g bv cv R ∧ RStp g bv cv cv w w') := by
  obtain ⟨A, cap, rfl⟩ := BU.own_form' h.ob
  have c0 := h.c0
  have c1 := h.c1
  have q0 := h.h0
  have q1 := h.h1
  have q2 := h.hB
  have H := Lib.hid h
  clear h
  go_enter Try.func24, Try.ntmps24
  go_wp2
  go_quiet (fail)
  go_wp2
  go_ret2
  exact ⟨rfl, H.out.drewN _, (RStp.refl _ _ _ _).drewN _⟩
theorem BU.Rf.appended {w w1 : World} {g : Nat} {bv cv cv' : Value} {R : RS} (h : Rf w g bv cv R) (ho : w1.ownsRow 0 3 1 cv' (R.xs.length + 1) (nums R.xs ++ [.int .i64 0])) (hg : w.grownBy w1 cv.ownBlock)
    (ha : cv'.ownBlock = cv.ownBlock ∨ ∃ q, cv'.ownBlock = some q ∧ w.heap.size ≤ q) (hx : 8 * (R.xs.length : Int) + 8 ≤ R.used) :
    Rf (w1.setCell ⟨g, 2, none⟩ cv') g bv cv' { R with xs := R.xs ++ [0] } ∧ RStp g bv cv cv' w (w1.setCell ⟨g, 2, none⟩ cv') := by
  have hb1 : w1.heap[g]? = w.heap[g]? := hg.block g h.lt (fun e => h.cg e.symm)
  have hlt : ∀ k, bv.ownBlock = some k → k < w.heap.size := fun k hk => (h.ob.lt k hk).2
  have hne : cv'.ownBlock ≠ some g := by
    rcases ha with ha | ⟨q, ha, hl⟩
    · rw [ha]; exact h.cg
    · rw [ha]; intro e; injection e with e; have := h.lt; omega
  have hbc : ∀ k, bv.ownBlock = some k → cv'.ownBlock ≠ some k := by
    intro k hk
    rcases ha with ha | ⟨q, ha, hl⟩
    · rw [ha]; exact h.bc k hk
    · rw [ha]; intro e; injection e with e; have := hlt k hk; omega
  constructor
  · refine ⟨h.hB, h.h0, h.h1, by simp only [List.length_append, List.length_cons, List.length_nil]; omega, ?_, ?_, ?_, h.bg, hne, hbc, h.bn⟩
    · rw [heap_setCell_same w1 g 2 _ 45 _ (hb1.trans h.blk)]; rfl
    · refine BU.own_kept h.ob fun k hk => ?_
      rw [heap_setCell_other _ _ _ _ (fun e => h.bg (by rw [show g = k from e.symm]; exact hk))]
      exact hg.block k (hlt k hk) (fun e => h.bc k hk e.symm)
    · have := BU.own_kept (w' := w1.setCell ⟨g, 2, none⟩ cv') ho fun k hk => heap_setCell_other _ _ _ _ (fun e => hne (by rw [show g = k from e.symm]; exact hk))
      simpa [nums] using this
  · refine ⟨hg.os, hg.tape, hg.output, by simpa [World.setCell] using hg.size, fun k hk hkg _ hc => ?_, fun k hk => ?_⟩
    · rw [heap_setCell_other _ _ _ _ hkg]
      exact hg.block k hk (fun e => hc e.symm)
    · rcases ha with ha | ⟨q, ha, hl⟩
      · exact .inl (ha ▸ hk)
      · rw [ha] at hk; injection hk with hk; exact .inr (by omega)
def BU.RCellEnd (w : World) (g : Nat) (bv cv : Value) (R : RS) (e : Ending) (w' : World) : Prop :=
  e = .returned (.tuple #[.int .i64 R.xs.length, .int .i64 0]) ∧ ∃ cv', Rf w' g bv cv' { R with xs := R.xs ++ [0], used := R.used + 8 } ∧ RStp g bv cv cv' w w'
set_option maxRecDepth 100000 in
set_option maxHeartbeats 400000 in
theorem rnewcell_walk (w : World) (g : Nat) (bv cv : Value) (R : RS) (h : Rf w g bv cv R) (hf : 8 ≤ (R.B.length : Int) - R.used) :
    Calls Try.prog 24 #[.pointer (some ⟨g, 0, none⟩)] w (BU.RCellEnd w g bv cv R) := by
  obtain ⟨A, cap, rfl⟩ := BU.own_form' h.ob
  obtain ⟨A2, cap2, rfl⟩ := BU.own_form' h.oc
  have c0 := h.c0
  have c1 := h.c1
  have c2 := h.c2
  have f1 := h.free 1
  have f2 := h.free 2
  have q0 := h.h0
  have q1 := h.h1
  have q2 := h.hB
  have hxx := h.hx
  have hset := Lib.hid (fun nq => (h.drewN nq).setUsed (R.used + 8) (by omega) (by omega))
  have hlt := h.lt
  clear h
  obtain ⟨i0, hi, hq0, hq1, hq2⟩ := info_parts info3
  have Hi := Lib.hid hi
  have Hq0 := Lib.hid hq0
  have Hq1 := Lib.hid hq1
  have Hq2 := Lib.hid hq2
  clear hi hq0 hq1 hq2
  go_enter Try.func24, Try.ntmps24
  go_wp2_with fail
  go_quiet (fail)
  go_wp2_with (at_builtin; refine wpList_append_own_at _ rfl _ _ 23 rfl 0 3 i0 (.int .i64 0) 1 8 Try.underlying23 Hi.out Hq0.out Hq1.out Hq2.out rfl (by decide) (.slice A2 R.xs.length cap2) R.xs.length (nums R.xs) rfl ?c0 ⟨w.heap.size, 0, none⟩ 1 1 [.int .i64 0] rfl rfl ?c1 ?c2 ?c3 ?c4 (Nat.zero_le _) ?_)
  case c0 => exact (hset.out _).1.oc.alloc _
  case c1 =>
    have hs : ((w.drewN nq).setCell ⟨g, 1, none⟩ (.int .i64 (R.used + 8))).heap.size = w.heap.size := by simp [World.setCell]
    rw [← hs]
    exact cell_one_new _ _ _
  case c2 => intro u hu; simp at hu; subst hu; rfl
  case c3 => unfold maxLen; omega
  case c4 => omega
  intro v' w2 ho2 hg2 _ hat
  have h1 := (hset.out nq).1
  have s1 := (hset.out nq).2
  generalize hw1 : (w.drewN nq).setCell ⟨g, 1, none⟩ (.int .i64 (R.used + 8)) = w1 at *
  have hsz : w1.heap.size = w.heap.size := by rw [← hw1]; simp [World.setCell]
  have Hw1 := Lib.hid hw1
  clear hw1
  have g2 : w1.grownBy w2 (Value.slice A2 R.xs.length cap2).ownBlock := World.grownBy.trans (World.grownBy_alloc w1 _ _) hg2
  have hfin := h1.appended ho2 g2 (by rcases hat with hat | hat; exact .inl hat; exact .inr ⟨_, hat, by omega⟩) (by show 8 * (R.xs.length : Int) + 8 ≤ R.used + 8; omega)
  have hb2 : w2.heap[g]? = w1.heap[g]? := g2.block g h1.lt (fun e => h1.cg e.symm)
  have d2 : w2.cell? ⟨g, 2, none⟩ = some (.slice A2 R.xs.length cap2) := (World.cell?_of_block hb2).trans h1.c2
  have e2 : w2.frozen? ⟨g, 2, none⟩ = false := (World.frozen?_of_block hb2).trans (h1.free 2)
  obtain ⟨A3, cap3, rfl⟩ := BU.own_form' ho2
  have HF := Lib.hid hfin
  have S1 := Lib.hid s1
  clear hfin hb2 g2 ho2 hg2 hat h1 s1 hset
  go_wp2
  go_ret2
  exact ⟨by simp, _, HF.out.1, RStp.trans ⟨S1.out.os, S1.out.tape, S1.out.output, S1.out.size, S1.out.block, S1.out.own⟩ HF.out.2⟩
/-! ### Put -/
set_option maxRecDepth 100000 in
theorem rput_out (w : World) (g : Nat) (bv cv : Value) (R : RS) (h : Rf w g bv cv R) (at_ : Int) (A : Option Addr) (len cap : Nat) (ho : Out R.used at_ len) :
    Calls Try.prog 22 #[.pointer (some ⟨g, 0, none⟩), .int .i64 at_, .slice A len cap] w (fun e w' => e = .returned (.int .i64 1) ∧ w' = w) := by
  have c1 := h.c1
  have q0 := h.h0
  have q1 := h.h1
  have q2 := h.hB
  clear h
  unfold BU.Out at ho
  have a1 : ¬ (len : Int) < 0 := by omega
  by_cases a2 : at_ < 0
  · clear ho
    go_enter Try.func22, Try.ntmps22
    go_wp2
    go_ret
    exact ⟨rfl, rfl⟩
  · by_cases a3 : R.used < at_
    · clear ho
      go_enter Try.func22, Try.ntmps22
      go_wp2
      go_ret
      exact ⟨rfl, rfl⟩
    · have a4 : R.used - at_ < (len : Int) := by omega
      clear ho
      go_enter Try.func22, Try.ntmps22
      go_wp2
      go_ret
      exact ⟨rfl, rfl⟩
/-- one byte more -/
theorem BU.spl_snoc (m : List Int) (i k : Nat) (z : List Int) (hk : k < z.length) (hi : i + z.length ≤ m.length) : (BU.spl m i (z.take k)).set (i + k) (z.getD k 0) = BU.spl m i (z.take (k + 1)) := by
  unfold BU.spl
  rw [List.take_succ_eq_append_getElem hk]
  have hl : (m.take i ++ z.take k).length = i + k := by simp; omega
  have hd : m.drop (i + (z.take k).length) = m[i + k] :: m.drop (i + k + 1) := by
    rw [List.length_take, Nat.min_eq_left (by omega)]
    exact List.drop_eq_getElem_cons (by omega)
  rw [hd, ← List.append_assoc, List.set_append_right _ _ (by omega), hl, Nat.sub_self]
  have hg : z.getD k 0 = z[k] := by simp [List.getD_eq_getElem?_getD, List.getElem?_eq_getElem hk]
  rw [hg]
  have hl2 : (z.take k ++ [z[k]]).length = k + 1 := by simp; omega
  rw [hl2]
  simp only [List.set_cons_zero, List.append_assoc, List.cons_append, List.nil_append]
  rfl
theorem BU.Rf.wrote {w : World} {g : Nat} {bv cv : Value} {R : RS} (h : Rf w g bv cv R) (q n cap : Nat) (hv : bv = .slice (some ⟨q, 0, none⟩) R.B.length cap) (hn : n < R.B.length) (y : Int) :
    Rf (w.setCell ⟨q, n, none⟩ (.int .u8 y)) g bv cv { R with B := R.B.set n y } ∧ RStp g bv cv cv w (w.setCell ⟨q, n, none⟩ (.int .u8 y)) := by
  have hgb : g ≠ q := fun e => h.bg (by rw [hv, e]; rfl)
  have ho := h.ob
  rw [hv] at ho
  have hs := ho.stored n (.int .u8 y)
  have he : (byts R.B).set n (.int .u8 y) = byts (R.B.set n y) := by simp [byts, List.map_set]
  constructor
  · refine ⟨by simpa using h.hB, h.h0, by simpa using h.h1, h.hx, ?_, ?_, ?_, h.bg, h.cg, h.bc, h.bn⟩
    · rw [heap_setCell_other _ _ _ _ hgb]; exact h.blk
    · have := hs.1
      rw [he] at this
      rw [hv]
      simpa using this
    · exact own_kept h.oc fun k hk => heap_setCell_other _ _ _ _ (fun e => h.bc k (by rw [hv, e]; rfl) hk)
  · have hg := hs.2
    exact ⟨hg.os, hg.tape, hg.output, hg.size, fun k hk _ hb _ => hg.block k hk (fun e => hb (by rw [hv]; exact e.symm)), fun k hk => .inl hk⟩
theorem BU.Rf.brow {w : World} {g : Nat} {bv cv : Value} {R : RS} (h : Rf w g bv cv R) (h1 : 0 < R.B.length) :
    ∃ q cap, bv = .slice (some ⟨q, 0, none⟩) R.B.length cap ∧ ∀ n, n < R.B.length → w.cell? ⟨q, n, none⟩ = some (.int .u8 (R.B.getD n 0)) ∧ w.frozen? ⟨q, n, none⟩ = false := by
  have ho := h.ob
  rcases ho.2 with ⟨_, hz⟩ | ⟨q, cap, cur, hv, _⟩
  · omega
  · refine ⟨q, cap, hv, fun n hn => ⟨?_, ?_⟩⟩
    · rw [hv] at ho
      rw [ho.cellAt n (by omega)]
      exact BU.byts_at hn
    · rw [hv] at ho
      exact ho.frozenAt _
/-- the arena behind k bytes -/
def BU.PutInv (w : World) (g : Nat) (bv cv : Value) (R : RS) (i k : Nat) (z : List Int) (w' : World) : Prop := Rf w' g bv cv { R with B := BU.spl R.B i (z.take k) } ∧ RStp g bv cv cv w w'
set_option maxRecDepth 100000 in
set_option maxHeartbeats 400000 in
theorem rput_walk (w : World) (g : Nat) (bv cv : Value) (R : RS) (h : Rf w g bv cv R) (at_ : Int) (A : Option Addr) (len cap : Nat) (z : List Int) (hz : ∀ w', RStp g bv cv cv w w' → RdB w' A len z) (a2 : ¬ at_ < 0) (a3 : ¬ R.used < at_) (a4 : ¬ R.used - at_ < len) :
    Calls Try.prog 22 #[.pointer (some ⟨g, 0, none⟩), .int .i64 at_, .slice A len cap] w (fun e w' => e = .returned (.int .i64 0) ∧ Rf w' g bv cv { R with B := BU.spl R.B at_.toNat z } ∧ RStp g bv cv cv w w') := by
  obtain ⟨i, rfl⟩ := Int.eq_ofNat_of_zero_le (show 0 ≤ at_ by omega)
  rw [Int.toNat_natCast]
  have q0 := h.h0
  have q1 := h.h1
  have q2 := h.hB
  have c1 := h.c1
  have hzl := (hz w (RStp.refl _ _ _ _)).1
  have h0 : PutInv w g bv cv R i 0 z w := ⟨by simpa [BU.spl] using h, RStp.refl _ _ _ _⟩
  have H0 := Lib.hid h0
  have HZ := Lib.hid hz
  have Hzl := Lib.hid hzl
  have hBl : i + len ≤ R.B.length := by omega
  clear h0 hz hzl h
  go_enter Try.func22, Try.ntmps22
  go_wp2_with fail
  go_loopw [7] (fun t wr => ∃ k : Nat, k ≤ len ∧ t = .int .i64 k ∧ PutInv w g bv cv R i k z wr) (fun t _ => len - (intOf t).toNat)
  case atStart => exact ⟨0, by omega, rfl, H0.out⟩
  case round =>
    obtain ⟨k, hk, rfl, hinv⟩ := hrel
    have Hinv := Lib.hid hinv
    clear hinv
    by_cases hlt : k < len
    · obtain ⟨ad, hA, hcA⟩ := (HZ.out wr Hinv.out.2).2 (by omega)
      have hc := hcA k hlt
      clear hcA
      have hs := BU.spl_snoc R.B i k z (by have := Hzl.out; omega) (by have := Hzl.out; omega)
      obtain ⟨y, hy⟩ : ∃ y, z.getD k 0 = y := ⟨_, rfl⟩
      rw [hy] at hc hs
      clear hy
      subst hA
      have hlen : (BU.spl R.B i (z.take k)).length = R.B.length := BU.spl_length _ _ _ (by rw [List.length_take]; omega)
      obtain ⟨q, cap', hbv, hrow⟩ := Hinv.out.1.brow (by show 0 < (BU.spl R.B i (z.take k)).length; omega)
      have hr := hrow (i + k) (by show i + k < (BU.spl R.B i (z.take k)).length; omega)
      have c0 := Hinv.out.1.c0
      have hw := Hinv.out.1.wrote q (i + k) cap' hbv (by show i + k < (BU.spl R.B i (z.take k)).length; omega) y
      have hn : PutInv w g bv cv R i (k + 1) z (wr.setCell ⟨q, i + k, none⟩ (.int .u8 y)) := ⟨by
        have := hw.1
        simp only [hs] at this
        exact this, Hinv.out.2.trans hw.2⟩
      have Hn := Lib.hid hn
      have r1 := hr.1
      have r2 := hr.2
      rw [hbv] at c0
      simp only [hlen] at c0
      generalize (BU.spl R.B i (z.take k)).getD (i + k) 0 = y0 at *
      clear hn hw hs hrow hr hlen hbv Hinv HZ c1
      go_wp2_with fail
      go_region
      go_wp2_with fail
      go_roundw
      case rel => exact ⟨k + 1, by omega, by go_num, BU.Rf.drewN Hn.out.1 1, RStp.drewN Hn.out.2 1⟩
      case measure => simp [intOf]; omega
    · have : k = len := by omega
      subst this
      have ht : z.take k = z := List.take_of_length_le (by have := Hzl.out; omega)
      have Ht := Lib.hid ht
      clear ht
      go_wp2_with fail
      go_ret
      have := Hinv.out
      unfold BU.PutInv at this
      rw [Ht.out] at this
      exact ⟨rfl, this.1, this.2⟩
/-! ### Get -/
set_option maxRecDepth 100000 in
theorem rget_out (w : World) (g : Nat) (bv cv : Value) (R : RS) (h : Rf w g bv cv R) (at_ n : Int) (ho : Out R.used at_ n) :
    Calls Try.prog 23 #[.pointer (some ⟨g, 0, none⟩), .int .i64 at_, .int .i64 n] w (fun e w' => e = .returned (.tuple #[.slice none 0 0, .int .i64 1]) ∧ w' = w) := by
  have c1 := h.c1
  have q0 := h.h0
  have q1 := h.h1
  have q2 := h.hB
  clear h
  unfold BU.Out at ho
  by_cases a1 : n < 0
  · clear ho
    go_enter Try.func23, Try.ntmps23
    go_wp2
    go_ret2
    exact ⟨rfl, rfl⟩
  · by_cases a2 : at_ < 0
    · clear ho
      go_enter Try.func23, Try.ntmps23
      go_wp2
      go_ret2
      exact ⟨rfl, rfl⟩
    · by_cases a3 : R.used < at_
      · clear ho
        go_enter Try.func23, Try.ntmps23
        go_wp2
        go_ret2
        exact ⟨rfl, rfl⟩
      · have a4 : R.used - at_ < n := by omega
        clear ho
        go_enter Try.func23, Try.ntmps23
        go_wp2
        go_ret2
        exact ⟨rfl, rfl⟩
def BU.RGetEnd (w : World) (g : Nat) (bv cv : Value) (R : RS) (n : Nat) (z : List Int) (e : Ending) (w' : World) : Prop :=
  ∃ v, e = .returned (.tuple #[v, .int .i64 0]) ∧ w'.ownsRow w.heap.size 5 1 v n (byts z) ∧ Rf w' g bv cv R ∧ Below w.heap.size w w'
theorem BU.Rf.below {w w' : World} {g : Nat} {bv cv : Value} {R : RS} (h : Rf w g bv cv R) (hb : Below w.heap.size w w') : Rf w' g bv cv R :=
  h.kept (hb.block g h.lt) (fun k hk => hb.block k (h.ob.lt k hk).2) (fun k hk => hb.block k (h.oc.lt k hk).2)
set_option maxRecDepth 100000 in
set_option maxHeartbeats 400000 in
theorem rget_walk (w : World) (g : Nat) (bv cv : Value) (R : RS) (h : Rf w g bv cv R) (at_ n : Int) (a1 : ¬ n < 0) (a2 : ¬ at_ < 0) (a3 : ¬ R.used < at_) (a4 : ¬ R.used - at_ < n) :
    Calls Try.prog 23 #[.pointer (some ⟨g, 0, none⟩), .int .i64 at_, .int .i64 n] w (BU.RGetEnd w g bv cv R n.toNat ((R.B.drop at_.toNat).take n.toNat)) := by
  obtain ⟨k, rfl⟩ := Int.eq_ofNat_of_zero_le (show 0 ≤ n by omega)
  obtain ⟨i, rfl⟩ := Int.eq_ofNat_of_zero_le (show 0 ≤ at_ by omega)
  simp only [Int.toNat_natCast]
  have q0 := h.h0
  have q1 := h.h1
  have q2 := h.hB
  have c0 := h.c0
  have c1 := h.c1
  have hb1 : i + k ≤ R.B.length := by omega
  obtain ⟨i0, hi, hq0, hq1, hq2⟩ := info_parts info5
  have Hi := Lib.hid hi
  have Hq0 := Lib.hid hq0
  have Hq1 := Lib.hid hq1
  have Hq2 := Lib.hid hq2
  clear hi hq0 hq1 hq2
  obtain ⟨q, cap, hbv, hcap⟩ : ∃ q cap, bv = .slice (some ⟨q, 0, none⟩) R.B.length cap ∧ R.B.length ≤ cap := by
    obtain ⟨q, hq⟩ := h.bn
    rcases h.ob.2 with ⟨h1, _⟩ | ⟨q', cap, cur, hv, _, _, hn, _⟩
    · rw [h1] at hq; simp [Value.ownBlock] at hq
    · exact ⟨q', cap, hv, hn⟩
  have hrd : ∀ j, j < k → w.cell? ⟨q, i + j, none⟩ = some (.int .u8 (R.B.getD (i + j) 0)) ∧ q < w.heap.size := by
    intro j hj
    obtain ⟨q', cap', hv, hc⟩ := h.brow (by omega)
    rw [hbv] at hv
    injection hv with hv _ _
    injection hv with hv
    injection hv with hv _ _
    subst hv
    have := (hc (i + j) (by omega)).1
    exact ⟨this, World.block_lt_of_cell? w _ this⟩
  have H := Lib.hid h
  rw [hbv] at c0
  have Hrd := Lib.hid hrd
  have hglt := h.lt
  clear h hrd
  by_cases hk : k = 0
  · subst hk
    go_enter Try.func23, Try.ntmps23
    go_wp2_with fail
    all_goals
      go_ret2
      refine ⟨_, rfl, ?_, H.out.below ((Below.refl _ _).alloc (Nat.le_refl _) _), (Below.refl _ _).alloc (Nat.le_refl _) _⟩
      simpa [byts] using World.ownsRow_lit (base := w.heap.size) (e := 5) (size := 1) w #[] 0 (Nat.le_refl _) (Nat.zero_le _) rfl
  · have hcap2 : i < cap := by omega
    have hzl : ((R.B.drop i).take k).length = k := by rw [List.length_take, List.length_drop]; omega
    have hzg : ∀ j, j < k → ((R.B.drop i).take k).getD j 0 = R.B.getD (i + j) 0 := by
      intro j hj
      simp [List.getD_eq_getElem?_getD, List.getElem?_take, hj]
    have Hzl := Lib.hid hzl
    have Hzg := Lib.hid hzg
    clear hzl hzg
    generalize (R.B.drop i).take k = z at *
    go_enter Try.func23, Try.ntmps23
    go_wp2_with (at_builtin; refine wpList_append_own_at _ rfl _ _ 40 rfl w.heap.size 5 i0 (.int .u8 0) 1 1 Try.underlying40 Hi.out Hq0.out Hq1.out Hq2.out rfl (by decide) (.slice (some ⟨w.heap.size, 0, none⟩) 0 0) 0 [] rfl (World.ownsRow_made w #[] 0 (Nat.le_refl _) (Nat.zero_le _) rfl) ⟨q, i, none⟩ k (cap - i) (byts z) ?c0 ?c1 ?c2 ?c3 ?c4 ?c5 ?c6 ?_)
    case c0 =>
      intro e
      omega
    case c1 => have h := Hzl.out; simp [byts, h]
    case c2 =>
      intro j u hu
      obtain ⟨hj, rfl⟩ := BU.byts_get hu
      have hj' : j < k := by have := Hzl.out; omega
      have := (Hrd.out j hj')
      rw [World.cell?_alloc_lt _ _ _ this.2, Hzg.out j hj']
      exact this.1
    case c3 =>
      intro v hv
      simp only [byts, List.mem_map] at hv
      obtain ⟨x, _, rfl⟩ := hv
      rfl
    case c4 => unfold maxLen; omega
    case c5 => omega
    intro v' w2 ho2 hg2 _ hat
    have hb : Below w.heap.size w w2 := ((Below.refl _ _).alloc (Nat.le_refl _) _).grown hg2 (by simp) (by intro k hk; simp [Value.ownBlock] at hk; omega)
    have ho := Lib.hid (show w2.ownsRow w.heap.size 5 1 v' k (byts z) by simpa using ho2)
    have HB := Lib.hid hb
    clear ho2 hg2 hat hb
    go_wp2_with fail
    go_ret2
    exact ⟨v', rfl, ho.out, H.out.below HB.out, HB.out⟩
end Go.Proofs
