/-
  Contracts of the arena's calls over an arena in the world (Ar). Conditions: as each states.
-/
import Derived.Test.YtcdcladefccifaaC
set_option linter.unusedVariables false
set_option linter.unusedSimpArgs false
namespace Go.Proofs
open Go.RowKit BU
theorem BU.own_form {w : World} {cv : Value} {n : Nat} {xs : List Value} (h : w.ownsRow 0 3 1 cv n xs) : ∃ A cap, cv = .slice A n cap := by
  rcases h.2 with ⟨rfl, rfl⟩ | ⟨g, cap, cur, rfl, _⟩
  · exact ⟨none, 0, rfl⟩
  · exact ⟨_, cap, rfl⟩
/-- The cells' row, as one fact that the walk does not look into. -/
def BU.CellEnd (w : World) (b : Nat) (cv : Value) (S : St) (e : Ending) (w' : World) : Prop :=
  e = .returned (.tuple #[.int .i64 S.xs.length, .int .i64 0]) ∧ ∃ cv', Ar w' b cv' { S with xs := S.xs ++ [0], used := S.used + 8 } ∧ Stp b cv cv' w w'
set_option maxRecDepth 100000 in
theorem newcell_walk (w : World) (b : Nat) (cv : Value) (S : St) (h : Ar w b cv S) (hf : 8 ≤ S.size - S.used) :
    Calls Try.prog 10 #[.pointer (some ⟨b, 0, none⟩)] w (BU.CellEnd w b cv S) := by
  have hx := h.hx
  have hz1 := h.h1
  have hz2 := h.h2
  have hn := h.ne
  have hn' := Lib.hid hn
  clear hn
  have hlen : 0 ≤ S.xs.length := Nat.zero_le _
  obtain ⟨i0, hi, hq0, hq1, hq2⟩ := info_parts info3
  have Hi := Lib.hid hi
  have Hq0 := Lib.hid hq0
  have Hq1 := Lib.hid hq1
  have Hq2 := Lib.hid hq2
  clear hi hq0 hq1 hq2
  go_enter Try.func10, Try.ntmps10
  go_wp2_with (first | (go_at_call 18; refine (alloc_any w b cv S h 8 (by omega) hf).mono ?_; rintro e w1 ⟨rfl, h1, hs1⟩; have c1 := h1.cellsCell; have f1 := h1.free 65538; have o1 := Lib.hid h1.own; have l1 := h1.lt) | (at_builtin; refine wpList_append_own_at _ rfl _ _ 23 rfl 0 3 i0 (.int .i64 0) 1 8 Try.underlying23 Hi.out Hq0.out Hq1.out Hq2.out rfl (by decide) cv S.xs.length (nums S.xs) rfl (o1.out.alloc _) ⟨w1.heap.size, 0, none⟩ 1 1 [.int .i64 0] rfl rfl ?c1 ?c2 ?c3 ?c4 (Nat.zero_le _) ?_))
  case c1 => exact cell_one_new _ _ _
  case c2 => intro u hu; simp at hu; subst hu; rfl
  case c3 => unfold maxLen; omega
  case c4 => omega
  intro v' w2 ho2 hg2 _ hat
  have g2 : w1.grownBy w2 cv.ownBlock := World.grownBy.trans (World.grownBy_alloc w1 _ _) hg2
  have hfin := h1.appended (by show S.used + 8 + 0 ≤ S.used + 8; omega) ho2 g2 (by rcases hat with hat | hat; exact .inl hat; exact .inr ⟨_, hat, by simp⟩) (by show 8 * (S.xs.length : Int) + 8 ≤ S.used + 8; omega)
  have hb2 : w2.heap[b]? = w1.heap[b]? := g2.block b h1.lt (fun e => h1.ne e.symm)
  have c2 : w2.cell? ⟨b, 65538, none⟩ = some cv := (World.cell?_of_block hb2).trans c1
  have f2 : w2.frozen? ⟨b, 65538, none⟩ = false := (World.frozen?_of_block hb2).trans f1
  obtain ⟨A, cap, rfl⟩ := BU.own_form ho2
  have HF := Lib.hid hfin
  clear hfin hb2 g2 ho2 hg2 hat o1 h1 c1 f1
  go_wp2
  go_ret2
  exact ⟨by simp, _, HF.out.1, hs1.trans HF.out.2⟩
theorem newcellfull_any (w : World) (b : Nat) (cv : Value) (S : St) (h : Ar w b cv S) (hf : S.size - S.used < 8) :
    Calls Try.prog 10 #[.pointer (some ⟨b, 0, none⟩)] w (fun e w' => e = .returned (.tuple #[.int .i64 0, .int .i64 60]) ∧ Ar w' b cv S ∧ Stp b cv cv w w') := by
  refine (newcell_full w b S.size S.used h.sizeCell h.usedCell h.h0 h.h1 h.h2 hf).mono ?_
  rintro e w' ⟨rfl, k, rfl⟩
  exact ⟨rfl, h.drewN k, (Stp.refl b cv w).drewN k⟩
theorem used_any (w : World) (b : Nat) (cv : Value) (S : St) (h : Ar w b cv S) : Calls Try.prog 16 #[.pointer (some ⟨b, 0, none⟩)] w (fun e w' => e = .returned (.int .i64 S.used) ∧ w' = w) :=
  used_walk w b _ h.usedCell

/-! ### the cells -/
theorem BU.Ar.nocell {w : World} {b : Nat} {cv : Value} {S : St} (h : Ar w b cv S) (n : Int) (hn : n < 0 ∨ (S.xs.length : Int) ≤ n) : NoCell w b n := by
  obtain ⟨A, cap, hv⟩ := BU.own_form h.own
  by_cases h0 : n < 0
  · exact .inl h0
  · exact .inr ⟨A, S.xs.length, cap, hv ▸ h.cellsCell, by omega, by omega⟩
theorem loadno_any (w : World) (b : Nat) (cv : Value) (S : St) (h : Ar w b cv S) (n : Int) (hn : n < 0 ∨ (S.xs.length : Int) ≤ n) :
    Calls Try.prog 13 #[.pointer (some ⟨b, 0, none⟩), .int .i64 n] w (fun e w' => e = .returned (.tuple #[.int .i64 0, .int .i64 1]) ∧ Ar w' b cv S ∧ Stp b cv cv w w') := by
  refine (load_no w b n (h.nocell n hn)).mono ?_
  rintro e w' ⟨rfl, k, rfl⟩
  exact ⟨rfl, h.drewN k, (Stp.refl b cv w).drewN k⟩
theorem BU.nums_getD {xs : List Int} {i : Nat} (h : i < xs.length) : (nums xs)[i]? = some (.int .i64 (xs.getD i 0)) := by
  simp [nums, List.getElem?_eq_getElem h, List.getD_eq_getElem?_getD]
theorem BU.Ar.row {w : World} {b : Nat} {cv : Value} {S : St} (h : Ar w b cv S) (n : Int) (h0 : 0 ≤ n) (h1 : n < (S.xs.length : Int)) :
    ∃ g cap, cv = .slice (some ⟨g, 0, none⟩) S.xs.length cap ∧ w.cell? ⟨g, n.toNat, none⟩ = some (.int .i64 (S.xs.getD n.toNat 0)) ∧ w.frozen? ⟨g, n.toNat, none⟩ = false := by
  have ho := h.own
  rcases ho.2 with ⟨_, hz⟩ | ⟨g, cap, cur, hv, _⟩
  · omega
  · refine ⟨g, cap, hv, ?_, ?_⟩
    · rw [hv] at ho
      rw [ho.cellAt n.toNat (by omega)]
      exact BU.nums_getD (by omega)
    · rw [hv] at ho
      exact ho.frozenAt _
theorem load_any (w : World) (b : Nat) (cv : Value) (S : St) (h : Ar w b cv S) (n : Int) (h0 : 0 ≤ n) (h1 : n < (S.xs.length : Int)) :
    Calls Try.prog 13 #[.pointer (some ⟨b, 0, none⟩), .int .i64 n] w (fun e w' => e = .returned (.tuple #[.int .i64 (S.xs.getD n.toNat 0), .int .i64 0]) ∧ Ar w' b cv S ∧ Stp b cv cv w w') := by
  obtain ⟨g, cap, hv, hc, hf⟩ := h.row n h0 h1
  refine (load_walk w b g n _ _ cap (hv ▸ h.cellsCell) h0 h1 hc).mono ?_
  rintro e w' ⟨rfl, k, rfl⟩
  exact ⟨rfl, h.drewN k, (Stp.refl b cv w).drewN k⟩
theorem storeno_any (w : World) (b : Nat) (cv : Value) (S : St) (h : Ar w b cv S) (n x : Int) (hn : n < 0 ∨ (S.xs.length : Int) ≤ n) :
    Calls Try.prog 11 #[.pointer (some ⟨b, 0, none⟩), .int .i64 n, .int .i64 x] w (fun e w' => e = .returned (.int .i64 1) ∧ Ar w' b cv S ∧ Stp b cv cv w w') := by
  refine (store_no w b n x (h.nocell n hn)).mono ?_
  rintro e w' ⟨rfl, k, rfl⟩
  exact ⟨rfl, h.drewN k, (Stp.refl b cv w).drewN k⟩
theorem BU.Ar.put {w : World} {b : Nat} {cv : Value} {S : St} (h : Ar w b cv S) (g n cap : Nat) (hv : cv = .slice (some ⟨g, 0, none⟩) S.xs.length cap) (hn : n < S.xs.length) (y : Int) :
    Ar (w.setCell ⟨g, n, none⟩ (.int .i64 y)) b cv { S with xs := S.xs.set n y } ∧ Stp b cv cv w (w.setCell ⟨g, n, none⟩ (.int .i64 y)) := by
  have hgb : b ≠ g := fun e => h.ne (by rw [hv, e]; rfl)
  have ho := h.own
  rw [hv] at ho
  have hs := ho.stored n (.int .i64 y)
  constructor
  · refine ⟨h.hm, h.h0, h.h1, h.h2, by simpa using h.hx, ?_, ?_, h.ne⟩
    · rw [heap_setCell_other _ _ _ _ hgb]; exact h.blk
    · have he : (nums S.xs).set n (.int .i64 y) = nums (S.xs.set n y) := by simp [nums, List.map_set]
      have := hs.1
      rw [he] at this
      rw [hv]
      simpa using this
  · have hg := hs.2
    refine ⟨hg.os, hg.tape, hg.output, hg.size, fun k hk _ hc => hg.block k hk (fun e => hc (by rw [hv]; exact e.symm)), fun k hk => .inl hk⟩
theorem store_any (w : World) (b : Nat) (cv : Value) (S : St) (h : Ar w b cv S) (n y : Int) (h0 : 0 ≤ n) (h1 : n < (S.xs.length : Int)) :
    Calls Try.prog 11 #[.pointer (some ⟨b, 0, none⟩), .int .i64 n, .int .i64 y] w (fun e w' => e = .returned (.int .i64 0) ∧ Ar w' b cv { S with xs := S.xs.set n.toNat y } ∧ Stp b cv cv w w') := by
  obtain ⟨g, cap, hv, hc, hf⟩ := h.row n h0 h1
  refine (store_walk w b g n _ y _ cap (hv ▸ h.cellsCell) h0 h1 hc hf).mono ?_
  rintro e w' ⟨rfl, k, rfl⟩
  have := h.put g n.toNat cap hv (by omega) y
  exact ⟨rfl, this.1.drewN k, this.2.drewN k⟩
theorem casno_any (w : World) (b : Nat) (cv : Value) (S : St) (h : Ar w b cv S) (n x y : Int) (hn : n < 0 ∨ (S.xs.length : Int) ≤ n) :
    Calls Try.prog 12 #[.pointer (some ⟨b, 0, none⟩), .int .i64 n, .int .i64 x, .int .i64 y] w (fun e w' => e = .returned (.tuple #[.bool false, .int .i64 1]) ∧ Ar w' b cv S ∧ Stp b cv cv w w') := by
  refine (cas_no w b n x y (h.nocell n hn)).mono ?_
  rintro e w' ⟨rfl, k, rfl⟩
  exact ⟨rfl, h.drewN k, (Stp.refl b cv w).drewN k⟩
theorem casne_any (w : World) (b : Nat) (cv : Value) (S : St) (h : Ar w b cv S) (n old y : Int) (h0 : 0 ≤ n) (h1 : n < (S.xs.length : Int)) (hne : S.xs.getD n.toNat 0 ≠ old) :
    Calls Try.prog 12 #[.pointer (some ⟨b, 0, none⟩), .int .i64 n, .int .i64 old, .int .i64 y] w (fun e w' => e = .returned (.tuple #[.bool false, .int .i64 0]) ∧ Ar w' b cv S ∧ Stp b cv cv w w') := by
  obtain ⟨g, cap, hv, hc, hf⟩ := h.row n h0 h1
  refine (cas_ne w b g n _ old y _ cap (hv ▸ h.cellsCell) h0 h1 hc hne).mono ?_
  rintro e w' ⟨rfl, k, rfl⟩
  exact ⟨rfl, h.drewN k, (Stp.refl b cv w).drewN k⟩
theorem caseq_any (w : World) (b : Nat) (cv : Value) (S : St) (h : Ar w b cv S) (n old y : Int) (h0 : 0 ≤ n) (h1 : n < (S.xs.length : Int)) (heq : S.xs.getD n.toNat 0 = old) :
    Calls Try.prog 12 #[.pointer (some ⟨b, 0, none⟩), .int .i64 n, .int .i64 old, .int .i64 y] w (fun e w' => e = .returned (.tuple #[.bool true, .int .i64 0]) ∧ Ar w' b cv { S with xs := S.xs.set n.toNat y } ∧ Stp b cv cv w w') := by
  obtain ⟨g, cap, hv, hc, hf⟩ := h.row n h0 h1
  subst heq
  refine (cas_eq w b g n _ y _ cap (hv ▸ h.cellsCell) h0 h1 hc hf).mono ?_
  rintro e w' ⟨rfl, k, rfl⟩
  have := h.put g n.toNat cap hv (by omega) y
  exact ⟨rfl, this.1.drewN k, this.2.drewN k⟩

/-! ### a new one -/
theorem BU.hid_build (n : Int) : Hid (∀ w, (Instr.build 54 #[(1, .int .i64 n)]).run Try.prog w = .ok (.agg (ZZ.cs ZZ.zb n 0 (.slice none 0 0)).toArray) w) := build54 n
theorem new_any (w : World) (n : Int) (h0 : 0 ≤ n) (h1 : n ≤ 65536) :
    Calls Try.prog 9 #[.int .i64 n] w (fun e w' => e = .returned (.tuple #[.pointer (some ⟨w.heap.size, 0, none⟩), .int .i64 0]) ∧ Ar w' w.heap.size (.slice none 0 0) ⟨ZZ.zb, [], n, 0⟩ ∧ Below w.heap.size w w') := by
  refine (new_walk w n _ h0 h1 (BU.hid_build n)).mono ?_
  rintro e w' ⟨rfl, rfl⟩
  refine ⟨rfl, ⟨zb_length, Int.le_refl 0, h0, h1, by simp, heap_alloc_new w _, World.ownsRow_nil _ 0 3 1, by simp [Value.ownBlock]⟩, (Below.refl _ _).alloc (Nat.le_refl _) _⟩
end Go.Proofs
