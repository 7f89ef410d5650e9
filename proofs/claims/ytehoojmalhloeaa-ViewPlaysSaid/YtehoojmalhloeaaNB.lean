/- merge: on, set, behind, At, First, Next, back, Prev, Last, Clone. -/
import Derived.Test.YtehoojmalhloeaaNA
import Derived.Shelf.Abstract
import Derived.Lib.SliceRun

/-! merge: the next entry is taken: what stands in memory then. -/
namespace Go.Proofs.Ytehoojmalhloeaa.CM
open Go.RowKit Go.Proofs.YtehoojmalhloeaaW.PrintWords
set_option linter.unusedVariables false
set_option linter.unusedSimpArgs false
set_option maxRecDepth 100000

/-- One list's place is another. -/
def upd (at_ : Nat → Nat) (i v : Nat) : Nat → Nat := fun j => if j = i then v else at_ j
theorem upd_same (at_ : Nat → Nat) (i v : Nat) : upd at_ i v i = v := by simp [upd]
theorem upd_ne {at_ : Nat → Nat} {i v j : Nat} (h : j ≠ i) : upd at_ i v j = at_ j := by simp [upd, h]
section
variable {w w1 : World} {X : Nat} {s : Sh} {at_ : Nat → Nat} {lv gv2 : Value} {here : Option Nat}
theorem Cs.upd (h : Cs w s at_) (hf : Fix s) {i : Nat} (hi : i < s.n) (v : Nat) : Cs (w.setCell ⟨s.C i, 1, none⟩ (.int .i64 v)) s (upd at_ i v) := by
  have ho := hf.offC i hi
  have hc : (⟨s.C i, 1, none⟩ : Addr).block = s.C i := rfl
  refine ⟨fun j hj => ⟨(h.gl j hj).1, ?_⟩, fun j hj => ?_, fun j hj => ?_⟩
  · rw [World.cell?_of_block (heap_setCell_other _ _ _ _ (fun e => ho.1 e.symm))]
    exact (h.gl j hj).2
  · by_cases e : j = i
    · subst e
      rw [heap_setCell_same w (s.C j) 1 _ 112 _ (h.cur j hj), upd_same]
      rfl
    · rw [heap_setCell_other _ _ _ _ (fun e1 => e (hf.inj _ _ hj hi e1)), upd_ne e]
      exact h.cur j hj
  · rcases Nat.eq_zero_or_pos (s.l j).length with h0 | h0
    · intro k hk; omega
    · exact (h.ents j hj).moved (fun a ea => heap_setCell_other _ _ _ _ (fun e => ho.2 j hj h0 a ea e.symm))
theorem Bk.upd (h : Bk w X s at_ lv gv2 here) (hf : Fix s) {i : Nat} (hi : i < s.n) (v : Nat) : Bk (w.setCell ⟨s.C i, 1, none⟩ (.int .i64 v)) X s (upd at_ i v) lv gv2 here :=
  ⟨by rw [heap_setCell_other _ _ _ _ (h.off.c i hi)]; exact h.x, h.cs.upd hf hi v, h.off⟩
theorem Hq.set3 {H m q cap : Nat} {gv hv : Value} {r : List Value} {d : List Nat} (h : Hq X H m q cap gv hv r s at_ w d) (ho : Off s X) (v : Value) : Hq X H m q cap gv v r s at_ (w.setCell ⟨X, 3, none⟩ v) d := by
  refine ⟨?_, h.ne, ?_, h.len, h.cs.fr (O := fun b => b = X) ((Fr.refl _ w).set _ _ rfl) (fun b e => e ▸ ho), h.off, h.lt, h.at'⟩
  · rw [heap_setCell_same w X 3 _ 110 _ h.x]; rfl
  · rw [heap_setCell_other _ _ _ _ (fun e => h.ne e.symm)]; exact h.row
theorem Hq.upd {H m q cap : Nat} {gv hv : Value} {r : List Value} {d : List Nat} (h : Hq X H m q cap gv hv r s at_ w d) (ho : Off s X) (hf : Fix s) {i : Nat} (hi : i < s.n) (v q2 : Nat) (ha : ∀ x ∈ d.take q2, CM.upd at_ i v x < (s.l x).length) :
    Hq X H m q2 cap gv hv r s (CM.upd at_ i v) (w.setCell ⟨s.C i, 1, none⟩ (.int .i64 v)) d :=
  ⟨by rw [heap_setCell_other _ _ _ _ (ho.c i hi)]; exact h.x, h.ne, by rw [heap_setCell_other _ _ _ _ (h.off.c i hi)]; exact h.row, h.len, h.cs.upd hf hi v, h.off, h.lt, ha⟩
end
/-- The blocks that an iterator writes. -/
def Own (X : Nat) (s : Sh) (lv : Value) (b : Nat) : Prop := b = X ∨ (∃ i, i < s.n ∧ b = s.C i) ∨ lv.ownBlock = some b

theorem openL_nodup (s : Sh) (at_ : Nat → Nat) (k : Nat) : (openL s at_ k).Nodup := List.Nodup.sublist List.filter_sublist List.nodup_range
theorem openL_same {s : Sh} {at_ : Nat → Nat} {i v k : Nat} (h1 : at_ i < (s.l i).length) (h2 : v < (s.l i).length) : openL s (upd at_ i v) k = openL s at_ k := by
  unfold openL
  refine List.filter_congr (fun x _ => ?_)
  by_cases e : x = i
  · subst e; rw [upd_same]; exact decide_eq_decide.2 ⟨fun _ => h1, fun _ => h2⟩
  · rw [upd_ne e]
theorem openL_less {s : Sh} {at_ : Nat → Nat} {i v k : Nat} (hi : i < k) (h1 : at_ i < (s.l i).length) (h2 : (s.l i).length ≤ v) : (openL s at_ k).Perm (i :: openL s (upd at_ i v) k) := by
  have hm : i ∈ openL s at_ k := openL_mem.2 ⟨hi, h1⟩
  have e : openL s (upd at_ i v) k = (openL s at_ k).erase i := by
    rw [(openL_nodup s at_ k).erase_eq_filter]
    unfold openL
    rw [List.filter_filter]
    refine List.filter_congr (fun x _ => ?_)
    by_cases e : x = i
    · subst e
      rw [upd_same, decide_eq_false (by omega : ¬ v < (s.l x).length)]
      simp
    · rw [upd_ne e]
      simp [e]
  rw [e]
  exact List.perm_cons_erase hm
/-- The root's list is ahead of all. -/
theorem root_min {s : Sh} {at_ : Nat → Nat} {d : List Nat} {k : Nat} (hp : d.Perm (openL s at_ k)) (hu : Up (s.less at_) d.length d 0) (j : Nat) (hj : j ∈ openL s at_ k) : s.less at_ j (d.getD 0 0) = false := by
  have hj := hp.mem_iff.2 hj
  obtain ⟨c, hc, rfl⟩ := List.getElem_of_mem hj
  have := up_min (less_ord s at_) hu c hc
  simpa [hc] using this
theorem nodup_getD {d : List Nat} (h : d.Nodup) {a b : Nat} (ha : a < d.length) (hb : b < d.length) (hab : a ≠ b) : d.getD a 0 ≠ d.getD b 0 := by
  intro e
  have e1 : d[a] = d[b] := by simpa [ha, hb] using e
  have := List.pairwise_iff_getElem.1 h
  rcases Nat.lt_or_gt_of_ne hab with h1 | h1
  · exact this a b ha hb h1 e1
  · exact this b a hb ha h1 e1.symm
theorem less_upd {s : Sh} {at_ : Nat → Nat} {i v a b : Nat} (ha : a ≠ i) (hb : b ≠ i) : s.less (upd at_ i v) a b = s.less at_ a b := by
  unfold Sh.less Sh.key
  rw [upd_ne ha, upd_ne hb]
theorem fix_up {s : Sh} {at_ : Nat → Nat} {d : List Nat} {v : Nat} (hd : d.Nodup) (h0 : 0 < d.length) (hu : Up (s.less at_) d.length d 0) : Up (s.less (upd at_ (d.getD 0 0) v)) d.length (sift (s.less (upd at_ (d.getD 0 0) v)) d.length d.length d 0).1 0 := by
  refine sift_up (less_ord _ _) d.length 0 d.length d 0 (Nat.le_refl _) (by omega) (Nat.le_refl _) (fun c hc h1 h2 h3 => ?_) (fun h => absurd rfl h) h0
  rw [less_upd (nodup_getD hd hc h0 (by omega)) (nodup_getD hd (by omega) h0 h3)]
  exact hu c hc h1 (Nat.zero_le _)
theorem pop_up {s : Sh} {at_ : Nat → Nat} {d : List Nat} {v n : Nat} (hd : d.Nodup) (hn : d.length = n + 1) (hu : Up (s.less at_) d.length d 0) :
    Up (s.less (upd at_ (d.getD 0 0) v)) n ((sift (s.less (upd at_ (d.getD 0 0) v)) n n (swapL d 0 n) 0).1.take n) 0 := by
  intro c hc h1 h2
  have e : ∀ a, a < n → ∀ l : List Nat, (l.take n).getD a 0 = l.getD a 0 := fun a ha l => by simp [List.getElem?_take, ha]
  rw [e c hc, e _ (by omega)]
  refine sift_up (less_ord _ _) n 0 n (swapL d 0 n) 0 (by rw [swapL_length]; omega) (by omega) (Nat.le_refl _) (fun c hc h1 h2 h3 => ?_) (fun h => absurd rfl h) (by omega) c hc h1 h2
  rw [swapL_get _ _ _ _ (by omega) (by omega), swapL_get _ _ _ _ (by omega) (by omega), if_neg (by omega), if_neg (by omega), if_neg (by omega), if_neg h3]
  rw [less_upd (nodup_getD hd (by omega) (by omega) (by omega)) (nodup_getD hd (by omega) (by omega) h3)]
  exact hu c (by omega) h1 (Nat.zero_le _)
theorem pop_perm {ls : Nat → Nat → Bool} {d : List Nat} {n : Nat} (hn : d.length = n + 1) : ((sift ls n n (swapL d 0 n) 0).1.take n ++ [d.getD 0 0]).Perm d := by
  have hl : (sift ls n n (swapL d 0 n) 0).1.length = n + 1 := by rw [sift_length, swapL_length, hn]
  have e : (sift ls n n (swapL d 0 n) 0).1.getD n 0 = d.getD 0 0 := by
    rw [sift_tail _ _ _ _ _ n (by rw [swapL_length]; omega) (by omega) (Nat.le_refl _), swapL_get _ _ _ _ (by omega) (by omega), if_pos rfl]
  have e2 : (sift ls n n (swapL d 0 n) 0).1.take n ++ [d.getD 0 0] = (sift ls n n (swapL d 0 n) 0).1 := by
    rw [← e]
    conv => rhs; rw [← List.take_append_drop n (sift ls n n (swapL d 0 n) 0).1]
    rw [List.drop_eq_getElem_cons (by omega), List.drop_of_length_le (by omega)]
    simp [hl]
  rw [e2]
  exact (sift_perm _ _ _ _ _ (by rw [swapL_length]; omega) (by omega)).trans (swapL_perm _ _ _ (by omega) (by omega))
end Go.Proofs.Ytehoojmalhloeaa.CM

/-! merge: the next entry is taken (on). -/
namespace Go.Proofs.Ytehoojmalhloeaa.CM
open Go.RowKit Go.Proofs.YtehoojmalhloeaaW.PrintWords
set_option linter.unusedVariables false
set_option linter.unusedSimpArgs false
set_option maxRecDepth 100000

/-- What on leaves. -/
def OnEnd (w : World) (X : Nat) (s : Sh) (at_ : Nat → Nat) (lv : Value) (w' : World) : Prop :=
  ∃ lv' at' here', Bk w' X s at' lv' (.slice s.ga s.n s.gc) here' ∧ Line w' X s at' lv' (hereV s here') ∧ Fr (Own X s lv) w w' ∧ (∀ k, lv'.ownBlock = some k → lv.ownBlock = some k) ∧
    ((openL s at_ s.n = [] ∧ here' = none ∧ at' = at_) ∨ ∃ i, i ∈ openL s at_ s.n ∧ (∀ j ∈ openL s at_ s.n, s.less at_ j i = false) ∧ here' = some i ∧ at' = upd at_ i (at_ i + 1))

theorem nil_ne {α : Type} {d l : List α} (hp : d.Perm l) (h : 0 < d.length) : l ≠ [] := fun e => by
  have := hp.length_eq
  rw [e, List.length_nil] at this
  omega

theorem Fr.tn {H : Nat} {w w1 w2 : World} {c : Array Value} (h : Fr (fun b => b = H) w w1) (t : Tn H w1 w2 c) : Tn H w w2 c :=
  have k := h.trans (Fr.of_tn t) (fun _ _ e => e)
  ⟨k.os, k.tape, k.output, k.size, k.block, t.row⟩
theorem cut_last (l : List Nat) (n : Nat) (hl : l.length = n + 1) : l.take n ++ [l.getD n 0] = l := by
  conv => rhs; rw [← List.take_append_drop n l]
  rw [List.drop_eq_getElem_cons (by omega), List.drop_of_length_le (by omega)]
  simp [hl]
theorem swap_rest {d : List Nat} {n x : Nat} (hd : d.Nodup) (hn : d.length = n + 1) (hx : x ∈ (swapL d 0 n).take n) : x ∈ d ∧ x ≠ d.getD 0 0 := by
  have e := cut_last (swapL d 0 n) n (by rw [swapL_length]; exact hn)
  have hp := swapL_perm d 0 n (by omega) (by omega)
  have hnd : (swapL d 0 n).Nodup := hp.nodup_iff.2 hd
  rw [swapL_get _ _ _ _ (by omega) (by omega), if_pos rfl] at e
  rw [← e] at hnd hp
  refine ⟨hp.mem_iff.1 (List.mem_append_left _ hx), fun h => ?_⟩
  have := (List.nodup_append.1 hnd).2.2 x hx (d.getD 0 0) (List.mem_singleton.2 rfl)
  exact this h

set_option maxHeartbeats 8000000 in
/-- (*Iter).on. -/
theorem on_w (X : Nat) (s : Sh) (at_ : Nat → Nat) (lv : Value) (here : Option Nat) (w : World) (hb : Bk w X s at_ lv (.slice s.ga s.n s.gc) here) (hf : Fix s) (hl : Line w X s at_ lv (hereV s here)) :
    Calls Try.prog 74 #[.pointer (some ⟨X, 0, none⟩)] w (fun e w' => e = .returned (.tuple #[]) ∧ OnEnd w X s at_ lv w') := by
  have x3 := hb.cell.2.2.2.1
  have xf3 := hb.cell.2.2.2.2 3
  have B0 := hb.set3 none
  have F0 : Fr (Own X s lv) w (w.setCell ⟨X, 3, none⟩ (hereV s none)) := (Fr.refl _ w).set _ _ (.inl rfl)
  obtain ⟨W0, hW0⟩ : ∃ W0, w.setCell ⟨X, 3, none⟩ (hereV s none) = W0 := ⟨_, rfl⟩
  have hW0' : w.setCell ⟨X, 3, none⟩ (.pointer none) = W0 := hW0
  rcases hl with ⟨A, c, rfl, hnil⟩ | ⟨H, m, cap, d, r, rfl, hq, hp, hu, hmc, hcm, hm0⟩
  · rw [hW0] at B0 F0
    have c1 := B0.cell.2.1
    have HB := Lib.hid (And.intro B0 (And.intro F0 hnil))
    clear hb B0 F0 hnil hW0
    go_enter Try.func74, Try.ntmps74
    go_wp2_with (first | rw [hW0'] | (go_at_call 94; refine (len_w _ _ _ _).mono ?_; rintro e W0 ⟨rfl, rfl⟩))
    (try simp only [Exit.inBlock, Exit.then]); refine bodyPost_ret (results_none rfl _ _ _) rfl ?_
    exact ⟨rfl, .slice A 0 c, at_, none, HB.out.1, .inl ⟨_, _, rfl, HB.out.2.2⟩, HB.out.2.1, fun k h => h, .inl ⟨HB.out.2.2, rfl, rfl⟩⟩
  · have Q0 := hq.set3 hb.off (hereV s none)
    rw [hW0] at B0 F0 Q0
    obtain ⟨i, hi⟩ : ∃ i, d.getD 0 0 = i := ⟨_, rfl⟩
    have hdl : 0 < d.length := by rw [← hq.len]; exact hm0
    have him : i ∈ d := by rw [← hi]; exact mem_getD d 0 hdl
    have hin : i < s.n := hq.lt i him
    have hio := (openL_mem.1 (hp.mem_iff.1 him)).2
    have hmin := root_min hp (by rw [← hq.len]; exact hu)
    rw [hi] at hmin
    have c0 := B0.cell.1
    have c1 := B0.cell.2.1
    have c3 : W0.cell? ⟨X, 3, none⟩ = some (.pointer none) := B0.cell.2.2.2.1
    have cf3 := B0.cell.2.2.2.2 3
    have h0 : W0.cell? ⟨H, 0, none⟩ = some (.int .i64 (i : Nat)) := by rw [← hi]; simp only [World.cell?, Q0.row]; exact row_get d r 0 hdl
    obtain ⟨g1, g2, g3, g4, g5, g6⟩ := B0.cs.cell hin
    rw [g1] at c0
    have m1 : IntKind.i64.wrap ((at_ i : Int) + 1) = (at_ i : Int) + 1 := by rw [IntWalk.i64_in _ (by have := hf.l i hin; omega)]
    have hq_small : m ≤ 2932031007317 := by have h1 := hp.length_eq; have h2 := openL_len s at_ s.n; have h3 := hf.n; have h4 := hq.len; omega
    have p1 : ((i : Int) < s.n) = True := eq_true (by omega)
    have p2 : ((0 : Int) < m) = True := eq_true (by omega)
    have p3 : ((m : Int) = 0) = False := eq_false (by omega)
    have HB := Lib.hid (And.intro B0 (And.intro F0 Q0))
    have HL := Lib.hid (And.intro hp (And.intro hu (And.intro hmc (And.intro hcm (And.intro hm0 (And.intro hi (And.intro him (And.intro hmin hio))))))))
    clear hb B0 F0 Q0 hq hp hu hW0 hmin him hi hdl g3 g5
    go_enter Try.func74, Try.ntmps74
    go_wp2_with (first | rw [hW0'] | (go_at_call 94; refine (len_w _ _ _ _).mono ?_; rintro e W0 ⟨rfl, rfl⟩))
    go_region
    go_wp2_with fail
    obtain ⟨B0, F0, Q0⟩ := HB.out
    obtain ⟨hp, hu, hmc, hcm, hm0, hi, him, hmin, hio⟩ := HL.out
    obtain ⟨W3, hW3⟩ : ∃ W3, ((W0.setCell ⟨X, 3, none⟩ (.pointer (some ⟨s.C i, 0, none⟩))).setCell ⟨s.C i, 1, none⟩ (.int .i64 ((at_ i : Int) + 1))).drew = W3 := ⟨_, rfl⟩
    rw [hW3]
    have B3 : Bk W3 X s (upd at_ i (at_ i + 1)) (.slice (some ⟨H, 0, none⟩) m cap) (.slice s.ga s.n s.gc) (some i) := by
      rw [← hW3]; exact ((B0.set3 (some i)).upd hf hin (at_ i + 1)).below (Below.refl _ _).drew
    have F3 : Fr (Own X s (.slice (some ⟨H, 0, none⟩) m cap)) w W3 := by
      rw [← hW3]; exact ((F0.set _ _ (.inl rfl)).set _ _ (.inr (.inl ⟨i, hin, rfl⟩))).drew
    have Q3 : ∀ q2, (∀ x ∈ d.take q2, upd at_ i (at_ i + 1) x < (s.l x).length) → Hq X H m q2 cap (.slice s.ga s.n s.gc) (hereV s (some i)) r s (upd at_ i (at_ i + 1)) W3 d := fun q2 h => by
      rw [← hW3]
      exact ((Q0.set3 B0.off (hereV s (some i))).upd B0.off hf hin (at_ i + 1) q2 h).drew
    obtain ⟨z1, z2, z3, z4, z5, z6⟩ := B3.cs.cell hin
    have z7 : W3.cell? ⟨X, 3, none⟩ = some (.pointer (some ⟨s.C i, 0, none⟩)) := B3.cell.2.2.2.1
    rw [upd_same] at z4
    obtain ⟨la, hla⟩ : ∃ m, (s.l i).length = m := ⟨_, rfl⟩
    rw [hla] at z3
    have hnd : d.Nodup := hp.nodup_iff.2 (openL_nodup s at_ s.n)
    have hcur : ((at_ i + 1 : Nat) : Int) = (at_ i : Int) + 1 := by omega
    rw [hcur] at z4
    by_cases hop : at_ i + 1 < la
    · have hoz : decide ((at_ i : Int) + 1 < la) = true := decide_eq_true (by omega)
      have Q := Q3 m (fun x hx => by
        have hx := List.mem_of_mem_take hx
        by_cases e : x = i
        · subst e; rw [upd_same, hla]; exact hop
        · rw [upd_ne e]; exact (openL_mem.1 (hp.mem_iff.1 hx)).2)
      have HX := Lib.hid (fun n => fix_w X H m cap _ _ d r s _ (W3.drewN n) (Q.below ⟨rfl, rfl, rfl, Nat.le_refl _, fun _ _ => rfl⟩) (by have := hq_small; omega) hm0)
      have HZ := Lib.hid (And.intro B3 (And.intro F3 (And.intro Q (And.intro hnd hla))))
      clear B0 F0 Q0 hp hu hi him hmin hio hW3 B3 F3 Q3 z1 z2 z5 z6 Q hnd hcur hla h0 c0 c1 c3 cf3 g1 g2 g4 g6 m1 x3 xf3 p1 p2 hW0'
      go_quiet (fail)
      go_wp2_with (first | (go_at_call 95; refine (HX.out nq).mono ?_; rintro e w2 ⟨rfl, t2⟩))
      (try simp only [Exit.inBlock, Exit.then]); refine bodyPost_end (results_none rfl _ _ _) rfl ?_
      obtain ⟨B3, F3, Q, hnd, hla⟩ := HZ.out
      obtain ⟨hp, hu, hmc, hcm, hm0, hi, him, hmin, hio⟩ := HL.out
      have hmd := Q.len
      subst hmd
      have t3 : Tn H W3 w2 (row (sift (s.less (upd at_ i (at_ i + 1))) d.length d.length d 0).1 r) := (Fr.refl (fun b => b = H) W3).drewN nq |>.tn t2
      have hpm := sift_perm (s.less (upd at_ i (at_ i + 1))) d.length d.length d 0 (Nat.le_refl _) (.inl hm0)
      have Q2 := Q.tn t3 hpm.length_eq (fun x hx => hpm.mem_iff.1 hx) (fun x hx => by rw [List.take_length]; exact hpm.mem_iff.1 (List.mem_of_mem_take hx))
      refine ⟨rfl, .slice (some ⟨H, 0, none⟩) d.length cap, upd at_ i (at_ i + 1), some i, ⟨Q2.x, Q2.cs, B3.off⟩, .inr ⟨H, d.length, cap, _, r, rfl, Q2, ?_, ?_, hmc, hcm, hm0⟩, ?_, fun k h => h, .inr ⟨i, hp.mem_iff.1 him, hmin, rfl, rfl⟩⟩
      · rw [openL_same hio (by omega)]
        exact hpm.trans hp
      · have := fix_up (v := at_ i + 1) hnd hm0 hu
        rw [hi] at this
        exact this
      · exact F3.trans (Fr.of_tn t3) (fun b _ e => .inr (.inr (by rw [e]; rfl)))
    · have hoz : decide ((at_ i : Int) + 1 < la) = false := decide_eq_false (by omega)
      obtain ⟨n, rfl⟩ : ∃ n, m = n + 1 := ⟨m - 1, by omega⟩
      have Q := Q3 0 (fun x hx => by simp at hx)
      have hA : ∀ x ∈ (swapL d 0 n).take n, upd at_ i (at_ i + 1) x < (s.l x).length := fun x hx => by
        have := swap_rest hnd Q.len.symm hx
        rw [hi] at this
        rw [upd_ne this.2]
        exact (openL_mem.1 (hp.mem_iff.1 this.1)).2
      have HX := Lib.hid (fun k => hpop_w X H n cap _ _ d r s _ (W3.drewN k) (Q.below ⟨rfl, rfl, rfl, Nat.le_refl _, fun _ _ => rfl⟩) hA B3.off (by have := hq_small; omega) hmc hcm)
      have HZ := Lib.hid (And.intro B3 (And.intro F3 (And.intro Q (And.intro hnd hla))))
      clear B0 F0 Q0 hp hu hi him hmin hio hW3 B3 F3 Q3 z1 z2 z5 z6 Q hnd hcur hla h0 c0 c1 c3 cf3 g1 g2 g4 g6 m1 x3 xf3 p1 p2 hW0' hA
      go_quiet (fail)
      go_wp2_with (first | (go_at_call 96; refine (HX.out nq).mono ?_; rintro e w2 ⟨⟨v, rfl⟩, t2⟩))
      (try simp only [Exit.inBlock, Exit.then]); refine bodyPost_end (results_none rfl _ _ _) rfl ?_
      obtain ⟨B3, F3, Q, hnd, hla⟩ := HZ.out
      obtain ⟨hp, hu, hmc, hcm, hm0, hi, him, hmin, hio⟩ := HL.out
      obtain ⟨t2, r', Q2⟩ := t2
      have hdl := Q.len
      have hpp := pop_perm (ls := s.less (upd at_ i (at_ i + 1))) hdl.symm
      have hol := openL_less (s := s) (at_ := at_) (v := at_ i + 1) hin hio (by omega)
      rw [hi] at hpp
      have hpe : ((sift (s.less (upd at_ i (at_ i + 1))) n n (swapL d 0 n) 0).1.take n).Perm (openL s (upd at_ i (at_ i + 1)) s.n) :=
        List.Perm.cons_inv (a := i) ((List.perm_append_comm (l₁ := [i])).trans (hpp.trans (hp.trans hol)))
      have hup := pop_up (v := at_ i + 1) hnd hdl.symm (by rw [← hdl]; exact hu)
      rw [hi] at hup
      refine ⟨rfl, .slice (some ⟨H, 0, none⟩) n cap, upd at_ i (at_ i + 1), some i, ⟨Q2.x, Q2.cs, B3.off⟩, ?_, ?_, fun k h => h, .inr ⟨i, hp.mem_iff.1 him, hmin, rfl, rfl⟩⟩
      · rcases Nat.eq_zero_or_pos n with h0 | h0
        · refine .inl ⟨_, cap, by rw [h0], ?_⟩
          have := hpe.length_eq
          rw [List.length_take, h0, Nat.zero_min] at this
          rw [h0] at hpe
          exact List.eq_nil_of_length_eq_zero (by omega)
        · exact .inr ⟨H, n, cap, _, r', rfl, Q2, hpe, hup, by omega, hcm, h0⟩
      · refine (F3.drewN nq).trans t2 (fun b _ e => ?_)
        rcases e with e | e
        · exact .inl e
        · exact .inr (.inr (by rw [e]; rfl))
end Go.Proofs.Ytehoojmalhloeaa.CM

/-! merge: all lists are laid to a place (set). -/
namespace Go.Proofs.Ytehoojmalhloeaa.CM
open Go.RowKit Go.Proofs.YtehoojmalhloeaaW.PrintWords
set_option linter.unusedVariables false
set_option linter.unusedSimpArgs false
set_option maxRecDepth 100000

theorem Cs.congr {w : World} {s : Sh} {a b : Nat → Nat} (h : Cs w s a) (he : ∀ i, i < s.n → b i = a i) : Cs w s b :=
  ⟨h.gl, fun i hi => by rw [he i hi]; exact h.cur i hi, h.ents⟩
theorem Bk.congr {w : World} {X : Nat} {s : Sh} {a b : Nat → Nat} {lv gv2 : Value} {here : Option Nat} (h : Bk w X s a lv gv2 here) (he : ∀ i, i < s.n → b i = a i) : Bk w X s b lv gv2 here := ⟨h.x, h.cs.congr he, h.off⟩
/-- What is behind set. -/
def SetEnd (w : World) (X : Nat) (s : Sh) (pl : Nat → Nat) (lv : Value) (w' : World) : Prop :=
  ∃ lv' at' here', Bk w' X s at' lv' (.slice s.ga s.n s.gc) here' ∧ Line w' X s at' lv' (hereV s here') ∧ Fr (Own X s lv) w w' ∧ (∀ k, lv'.ownBlock = some k → lv.ownBlock = some k ∨ (w.heap.size ≤ k ∧ k < w'.heap.size)) ∧
    ((openL s pl s.n = [] ∧ here' = none ∧ at' = pl) ∨ ∃ i, i ∈ openL s pl s.n ∧ (∀ j ∈ openL s pl s.n, s.less pl j i = false) ∧ here' = some i ∧ at' = upd pl i (pl i + 1))

set_option maxHeartbeats 8000000 in
/-- (*Iter).set. -/
theorem set_w (X : Nat) (s : Sh) (at_ pl : Nat → Nat) (lv gv2 : Value) (here : Option Nat) (g : Nat) (lb : Array Value) (w : World) (hb : Bk w X s at_ lv gv2 here) (hf : Fix s)
    (hg : ∀ i W at', i < s.n → Fr (Own X s lv) w W → Cs W s at' → Calls Try.prog g (#[.pointer (some ⟨s.C i, 0, none⟩)] ++ lb) W fun e w' => e = .returned (.int .i64 (pl i : Nat)) ∧ Below W.heap.size W w')
    (eg : ∀ args W, (callFunc g args).run Try.prog W = .ok (.enter g args) W) :
    Calls Try.prog 71 #[.pointer (some ⟨X, 0, none⟩), .func (.func g) #[] lb] w (fun e w' => e = .returned (.tuple #[]) ∧ SetEnd w X s pl lv w') := by
  have x0 := hb.cell.1
  have HB := Lib.hid hb
  have HG := Lib.hid hg
  have hn := hf.n
  clear hb hg
  go_enter Try.func71, Try.ntmps71
  go_wp2_with fail
  go_loopw [13] (fun t wr => ∃ (k : Nat), k ≤ s.n ∧ t = .int .i64 (k : Int) ∧ Hid (Bk wr X s (fun j => if j < k then pl j else at_ j) lv gv2 here ∧ Fr (Own X s lv) w wr)) (fun t _ => s.n - (intOf t).toNat)
  case atStart => exact ⟨0, by omega, rfl, Lib.hid ⟨HB.out.congr (fun i _ => by simp), Fr.refl _ _⟩⟩
  case round =>
    obtain ⟨k, hk, rfl, HI⟩ := hrel
    have m1 : IntKind.i64.wrap ((k : Int) + 1) = (k : Int) + 1 := by rw [IntWalk.i64_in _ (by omega)]
    by_cases hlt : k < s.n
    · have hltz : (k : Int) < s.n := by omega
      obtain ⟨g1, g2, g3, g4, g5, g6⟩ := HI.out.1.cs.cell hlt
      have HC := Lib.hid (HG.out k wr _ hlt HI.out.2 HI.out.1.cs)
      rw [g1]
      clear g3 g4 g5 g6
      go_wp2_with (first | (go_at_fn g; refine HC.out.mono ?_; rintro e w1 ⟨rfl, b1⟩; have B1 := HI.out.1.below b1; have z4 := (B1.cs.cell hlt).2.2.2.1; have zf := (B1.cs.cell hlt).2.2.2.2.2 1; have HB1 := Lib.hid (And.intro B1 (HI.out.2.below b1)); clear B1 b1))
      obtain ⟨B1, F1⟩ := HB1.out
      refine ⟨⟨k + 1, by omega, by simp, Lib.hid ⟨?_, F1.set _ _ (.inr (.inl ⟨k, hlt, rfl⟩))⟩⟩, by simp [intOf]; omega⟩
      refine (B1.upd hf hlt (pl k)).congr (fun j hj => ?_)
      by_cases e : j = k
      · subst e; rw [upd_same, if_pos (by omega)]
      · rw [upd_ne e]
        by_cases h2 : j < k
        · rw [if_pos h2, if_pos (by omega)]
        · rw [if_neg h2, if_neg (by omega)]
    · obtain rfl : k = s.n := by omega
      have hltz : decide ((s.n : Int) < (s.n : Int)) = false := decide_eq_false (by omega)
      have HB2 : Hid (Bk wr X s pl lv gv2 here) := HI.out.1.congr (fun i hi => by rw [if_pos hi])
      have HU := Lib.hid (lineUp_w X s pl lv gv2 here wr HB2.out hf (less_ord _ _))
      go_wp2_with (first | (go_at_call 77; refine HU.out.mono ?_; rintro e w1 ⟨rfl, lv1, b1, l1, f1, o1⟩; have HX := Lib.hid (on_w X s pl lv1 here w1 b1 hf l1); have HY := Lib.hid (And.intro f1 o1); clear b1 l1 f1 o1) | (go_at_call 74; refine HX.out.mono ?_; rintro e w2 ⟨rfl, t2⟩))
      (try simp only [Exit.inBlock, Exit.then]); refine bodyPost_end (results_none rfl _ _ _) rfl ?_
      obtain ⟨lv2, at2, here2, q1, q2, q3, q4, q5⟩ := t2
      obtain ⟨f1, o1⟩ := HY.out
      refine ⟨rfl, lv2, at2, here2, q1, q2, ?_, fun b hb => ?_, q5⟩
      · refine (HI.out.2.trans f1 (fun b _ e => .inl e)).trans q3 (fun b hb e => ?_)
        rcases e with e | e | e
        · exact .inl e
        · exact .inr (.inl e)
        · have := (o1 b e).1
          have := HI.out.2.size
          omega
      · have := o1 b (q4 b hb)
        have := HI.out.2.size
        have := q3.size
        exact .inr (by omega)
end Go.Proofs.Ytehoojmalhloeaa.CM

/-! merge: behind; At, First, Next. -/
namespace Go.Proofs.Ytehoojmalhloeaa.CM
open Go.RowKit Go.Proofs.YtehoojmalhloeaaW.PrintWords
set_option linter.unusedVariables false
set_option linter.unusedSimpArgs false
set_option maxRecDepth 100000

/-- Is a list's last entry behind another one's? -/
def Sh.more (s : Sh) (at_ : Nat → Nat) (a b : Nat) : Bool := decide (0 < cmpK (s.e a (at_ a - 1)).f0 (s.e b (at_ b - 1)).f0) || (decide (cmpK (s.e a (at_ a - 1)).f0 (s.e b (at_ b - 1)).f0 = 0) && decide (b < a))
theorem more_iff (s : Sh) (at_ : Nat → Nat) (a b : Nat) : s.more at_ a b = true ↔ T (s.e b (at_ b - 1)) (s.e a (at_ a - 1)) b a := by
  unfold Sh.more T
  simp only [Bool.or_eq_true, Bool.and_eq_true, decide_eq_true_eq]
  rw [E_cmp, cmpK_pos]
  constructor
  · rintro (h | ⟨h, h2⟩)
    · exact .inl h
    · exact .inr ⟨E_symm h, h2⟩
  · rintro (h | ⟨h, h2⟩)
    · exact .inl h
    · exact .inr ⟨E_symm h, h2⟩

set_option maxHeartbeats 4000000 in
/-- behind. -/
theorem behind_w (s : Sh) (at_ : Nat → Nat) (a b : Nat) (w : World) (hc : Cs w s at_) (hf : Fix s) (ha : a < s.n) (hb : b < s.n) (ha1 : 1 ≤ at_ a) (ha2 : at_ a ≤ (s.l a).length) (hb1 : 1 ≤ at_ b) (hb2 : at_ b ≤ (s.l b).length) :
    Calls Try.prog 76 #[.pointer (some ⟨s.C a, 0, none⟩), .pointer (some ⟨s.C b, 0, none⟩)] w (fun e w' => e = .returned (.bool (s.more at_ a b)) ∧ Below w.heap.size w w') := by
  obtain ⟨_, _, k10, k11, k12, _⟩ := hc.cell ha
  obtain ⟨_, _, k20, k21, k22, _⟩ := hc.cell hb
  obtain ⟨ka, hka⟩ : ∃ k, at_ a = k + 1 := ⟨at_ a - 1, by omega⟩
  obtain ⟨kb, hkb⟩ : ∃ k, at_ b = k + 1 := ⟨at_ b - 1, by omega⟩
  obtain ⟨pa, ea, X⟩ := hc.ents a ha ka (by omega)
  obtain ⟨pb, eb, Y⟩ := hc.ents b hb kb (by omega)
  have hans : s.more at_ a b = (decide (0 < cmpK (s.e a ka).f0 (s.e b kb).f0) || (decide (cmpK (s.e a ka).f0 (s.e b kb).f0 = 0) && decide (b < a))) := by
    unfold Sh.more
    rw [hka, hkb]
    rfl
  have hla' := hf.l a ha
  have hlb' := hf.l b hb
  obtain ⟨la, hLa⟩ : ∃ m, (s.l a).length = m := ⟨_, rfl⟩
  obtain ⟨lb, hLb⟩ : ∃ m, (s.l b).length = m := ⟨_, rfl⟩
  rw [hka] at k11
  rw [hkb] at k21
  rw [hLa] at k10 ha2 hla'
  rw [hLb] at k20 hb2 hlb'
  rw [ea] at k10
  rw [eb] at k20
  have c1 : ((ka + 1 : Nat) : Int) = (ka : Int) + 1 := by omega
  have c2 : ((kb + 1 : Nat) : Int) = (kb : Int) + 1 := by omega
  rw [c1] at k11
  rw [c2] at k21
  obtain ⟨x, hx⟩ : ∃ x, s.e a ka = x := ⟨_, rfl⟩
  obtain ⟨y, hy⟩ : ∃ y, s.e b kb = y := ⟨_, rfl⟩
  have X : El w (pa.add (ka * 4)) x := by rw [← hx]; exact X
  have Y : El w (pb.add (kb * 4)) y := by rw [← hy]; exact Y
  rw [hx, hy] at hans
  have p1 : ((ka : Int) < la) = True := eq_true (by omega)
  have p2 : ((kb : Int) < lb) = True := eq_true (by omega)
  have q1 : IntKind.i64.wrap (ka : Int) = (ka : Int) := by rw [IntWalk.i64_in _ (by omega)]
  have q2 : IntKind.i64.wrap (kb : Int) = (kb : Int) := by rw [IntWalk.i64_in _ (by omega)]
  obtain ⟨x0, x1, x2, x3⟩ := X
  obtain ⟨y0, y1, y2, y3⟩ := Y
  have HA := Lib.hid hans
  have HX : Hid (w.cell? ⟨s.C a, 0, none⟩ = some (.slice (some pa) la (s.cp a)) ∧ w.cell? ⟨s.C a, 1, none⟩ = some (.int .i64 ((ka : Int) + 1)) ∧ w.cell? ⟨s.C b, 0, none⟩ = some (.slice (some pb) lb (s.cp b)) ∧ w.cell? ⟨s.C b, 1, none⟩ = some (.int .i64 ((kb : Int) + 1)) ∧ w.cell? (pa.add ((ka) * 4)) = some (.string x.f0.f0) ∧ w.cell? ⟨(pa.add ((ka) * 4)).block, (pa.add ((ka) * 4)).off + 1, none⟩ = some (.int .u64 x.f0.f1) ∧ w.cell? ⟨(pa.add ((ka) * 4)).block, (pa.add ((ka) * 4)).off + 2, none⟩ = some (.int .i64 x.f0.f2) ∧ w.cell? (pb.add ((kb) * 4)) = some (.string y.f0.f0) ∧ w.cell? ⟨(pb.add ((kb) * 4)).block, (pb.add ((kb) * 4)).off + 1, none⟩ = some (.int .u64 y.f0.f1) ∧ w.cell? ⟨(pb.add ((kb) * 4)).block, (pb.add ((kb) * 4)).off + 2, none⟩ = some (.int .i64 y.f0.f2) ∧ w.cell? ⟨s.C a, 2, none⟩ = some (.int .i64 a) ∧ w.cell? ⟨s.C b, 2, none⟩ = some (.int .i64 b)) := Lib.hid ⟨k10, k11, k20, k21, x0, x1, x2, y0, y1, y2, k12, k22⟩
  clear hans hc hf hka hkb hLa hLb ea eb c1 c2 hx hy ha1 ha2 hb1 hb2 hla' hlb' k10 k11 k12 k20 k21 k22 x0 x1 x2 x3 y0 y1 y2 y3
  have C := compare_w x.f0 y.f0
  unfold kv42 at C
  have HC := Lib.hid C
  clear C
  go_enter Try.func76, Try.ntmps76
  go_wp2_with fail
  go_region_held3 (fun w' => w'.cell? ⟨s.C a, 0, none⟩ = some (.slice (some pa) la (s.cp a)) ∧ w'.cell? ⟨s.C a, 1, none⟩ = some (.int .i64 ((ka : Int) + 1)) ∧ w'.cell? ⟨s.C b, 0, none⟩ = some (.slice (some pb) lb (s.cp b)) ∧ w'.cell? ⟨s.C b, 1, none⟩ = some (.int .i64 ((kb : Int) + 1)) ∧ w'.cell? (pa.add ((ka) * 4)) = some (.string x.f0.f0) ∧ w'.cell? ⟨(pa.add ((ka) * 4)).block, (pa.add ((ka) * 4)).off + 1, none⟩ = some (.int .u64 x.f0.f1) ∧ w'.cell? ⟨(pa.add ((ka) * 4)).block, (pa.add ((ka) * 4)).off + 2, none⟩ = some (.int .i64 x.f0.f2) ∧ w'.cell? (pb.add ((kb) * 4)) = some (.string y.f0.f0) ∧ w'.cell? ⟨(pb.add ((kb) * 4)).block, (pb.add ((kb) * 4)).off + 1, none⟩ = some (.int .u64 y.f0.f1) ∧ w'.cell? ⟨(pb.add ((kb) * 4)).block, (pb.add ((kb) * 4)).off + 2, none⟩ = some (.int .i64 y.f0.f2) ∧ w'.cell? ⟨s.C a, 2, none⟩ = some (.int .i64 a) ∧ w'.cell? ⟨s.C b, 2, none⟩ = some (.int .i64 b)) (first | exact HX.out | exact HB2.out) (first | (go_at_call 69; refine Calls.mono (HC.out _) ?_; rintro e w1 ⟨rfl, hb1⟩; have HB2 : Hid (w1.cell? ⟨s.C a, 0, none⟩ = some (.slice (some pa) la (s.cp a)) ∧ w1.cell? ⟨s.C a, 1, none⟩ = some (.int .i64 ((ka : Int) + 1)) ∧ w1.cell? ⟨s.C b, 0, none⟩ = some (.slice (some pb) lb (s.cp b)) ∧ w1.cell? ⟨s.C b, 1, none⟩ = some (.int .i64 ((kb : Int) + 1)) ∧ w1.cell? (pa.add ((ka) * 4)) = some (.string x.f0.f0) ∧ w1.cell? ⟨(pa.add ((ka) * 4)).block, (pa.add ((ka) * 4)).off + 1, none⟩ = some (.int .u64 x.f0.f1) ∧ w1.cell? ⟨(pa.add ((ka) * 4)).block, (pa.add ((ka) * 4)).off + 2, none⟩ = some (.int .i64 x.f0.f2) ∧ w1.cell? (pb.add ((kb) * 4)) = some (.string y.f0.f0) ∧ w1.cell? ⟨(pb.add ((kb) * 4)).block, (pb.add ((kb) * 4)).off + 1, none⟩ = some (.int .u64 y.f0.f1) ∧ w1.cell? ⟨(pb.add ((kb) * 4)).block, (pb.add ((kb) * 4)).off + 2, none⟩ = some (.int .i64 y.f0.f2) ∧ w1.cell? ⟨s.C a, 2, none⟩ = some (.int .i64 a) ∧ w1.cell? ⟨s.C b, 2, none⟩ = some (.int .i64 b)) := Lib.hid ⟨(hb1.cell (World.block_lt_of_cell? _ _ (HX.out.1))).trans (HX.out.1), (hb1.cell (World.block_lt_of_cell? _ _ (HX.out.2.1))).trans (HX.out.2.1), (hb1.cell (World.block_lt_of_cell? _ _ (HX.out.2.2.1))).trans (HX.out.2.2.1), (hb1.cell (World.block_lt_of_cell? _ _ (HX.out.2.2.2.1))).trans (HX.out.2.2.2.1), (hb1.cell (World.block_lt_of_cell? _ _ (HX.out.2.2.2.2.1))).trans (HX.out.2.2.2.2.1), (hb1.cell (World.block_lt_of_cell? _ _ (HX.out.2.2.2.2.2.1))).trans (HX.out.2.2.2.2.2.1), (hb1.cell (World.block_lt_of_cell? _ _ (HX.out.2.2.2.2.2.2.1))).trans (HX.out.2.2.2.2.2.2.1), (hb1.cell (World.block_lt_of_cell? _ _ (HX.out.2.2.2.2.2.2.2.1))).trans (HX.out.2.2.2.2.2.2.2.1), (hb1.cell (World.block_lt_of_cell? _ _ (HX.out.2.2.2.2.2.2.2.2.1))).trans (HX.out.2.2.2.2.2.2.2.2.1), (hb1.cell (World.block_lt_of_cell? _ _ (HX.out.2.2.2.2.2.2.2.2.2.1))).trans (HX.out.2.2.2.2.2.2.2.2.2.1), (hb1.cell (World.block_lt_of_cell? _ _ (HX.out.2.2.2.2.2.2.2.2.2.2.1))).trans (HX.out.2.2.2.2.2.2.2.2.2.2.1), (hb1.cell (World.block_lt_of_cell? _ _ (HX.out.2.2.2.2.2.2.2.2.2.2.2))).trans (HX.out.2.2.2.2.2.2.2.2.2.2.2)⟩; have HB1 := Lib.hid ((Below.refl w.heap.size w).drew.trans hb1); clear hb1))
  all_goals
    have q1 : w1.cell? ⟨s.C a, 2, none⟩ = some (.int .i64 a) := HB2.out.2.2.2.2.2.2.2.2.2.2.1
    have q2 : w1.cell? ⟨s.C b, 2, none⟩ = some (.int .i64 b) := HB2.out.2.2.2.2.2.2.2.2.2.2.2
    clear HB2 HX HC
    go_wp2_with fail
    by_cases hc : 0 < cmpK x.f0 y.f0
    · have t1 : decide (0 < cmpK x.f0 y.f0) = true := decide_eq_true hc
      go_quiet (fail)
      go_wp2_with fail
      go_ret
      exact ⟨by rw [HA.out]; simp [hc], HB1.out.os, HB1.out.tape, HB1.out.output, HB1.out.size, HB1.out.block⟩
    · have t1 : decide (0 < cmpK x.f0 y.f0) = false := decide_eq_false hc
      by_cases hz : cmpK x.f0 y.f0 = 0
      · have t2 : decide (cmpK x.f0 y.f0 = 0) = true := decide_eq_true hz
        go_quiet (fail)
        go_wp2_with fail
        go_ret
        exact ⟨by rw [HA.out]; simp [hz], HB1.out.os, HB1.out.tape, HB1.out.output, HB1.out.size, HB1.out.block⟩
      · have t2 : decide (cmpK x.f0 y.f0 = 0) = false := decide_eq_false hz
        go_quiet (fail)
        go_wp2_with fail
        go_ret
        exact ⟨by rw [HA.out]; simp [hc, hz], HB1.out.os, HB1.out.tape, HB1.out.output, HB1.out.size, HB1.out.block⟩

/-- First$1. -/
theorem zero_w (v : Value) (w : World) : Calls Try.prog 72 #[v] w (fun e w' => e = .returned (.int .i64 0) ∧ w' = w) := by
  go_enter Try.func72, Try.ntmps72
  go_wp2
  go_ret
  exact ⟨rfl, rfl⟩
theorem enters72 : ∀ args W, (callFunc 72 args).run Try.prog W = .ok (.enter 72 args) W := fun _ _ => by kernel_rfl
theorem first_w (X : Nat) (s : Sh) (at_ : Nat → Nat) (lv gv2 : Value) (here : Option Nat) (w : World) (hb : Bk w X s at_ lv gv2 here) (hf : Fix s) :
    Calls Try.prog 37 #[.pointer (some ⟨X, 0, none⟩)] w (fun e w' => e = .returned (.tuple #[]) ∧ SetEnd w X s (fun _ => 0) lv w') := by
  have HS := Lib.hid (set_w X s at_ (fun _ => 0) lv gv2 here 72 #[] w hb hf (fun i W at' _ _ _ => (zero_w _ W).mono (by rintro e w' ⟨rfl, rfl⟩; exact ⟨rfl, Below.refl _ _⟩)) enters72)
  clear hb
  go_enter Try.func37, Try.ntmps37
  go_wp2_with (first | (go_at_call 71; refine HS.out.mono ?_; rintro e w1 ⟨rfl, t⟩))
  go_end0
  exact ⟨rfl, t⟩
end Go.Proofs.Ytehoojmalhloeaa.CM

/-! merge: At, Next; of none. -/
namespace Go.Proofs.Ytehoojmalhloeaa.CM
open Go.RowKit Go.Proofs.YtehoojmalhloeaaW.PrintWords
set_option linter.unusedVariables false
set_option linter.unusedSimpArgs false
set_option maxRecDepth 100000

def val44 (x : PC.S44) : Value := .agg #[.string x.f0.f0, .int .u64 x.f0.f1, .int .i64 x.f0.f2, .string x.f1]
theorem first_nil (w : World) : Calls Try.prog 37 #[.pointer none] w (fun e w' => e = .returned (.tuple #[]) ∧ w' = w) := by
  have HS : ∀ v W, Calls Try.prog 71 #[.pointer none, v] W (fun e w' => e = .returned (.tuple #[]) ∧ w' = W) := fun v W => by
    go_enter Try.func71, Try.ntmps71
    go_wp2
    (try simp only [Exit.inBlock, Exit.then]); refine bodyPost_ret (results_none rfl _ _ _) rfl ?_
    exact ⟨rfl, rfl⟩
  go_enter Try.func37, Try.ntmps37
  go_wp2_with (first | (go_at_call 71; refine (HS _ _).mono ?_; rintro e w1 ⟨rfl, rfl⟩))
  go_end0
  exact ⟨rfl, rfl⟩
theorem next_nil (w : World) : Calls Try.prog 39 #[.pointer none] w (fun e w' => e = .returned (.tuple #[]) ∧ w' = w) := by
  go_enter Try.func39, Try.ntmps39
  go_wp2
  go_end0
  exact ⟨rfl, rfl⟩
theorem prev_nil (w : World) : Calls Try.prog 40 #[.pointer none] w (fun e w' => e = .returned (.tuple #[]) ∧ w' = w) := by
  go_enter Try.func40, Try.ntmps40
  go_wp2
  go_end0
  exact ⟨rfl, rfl⟩
theorem last_nil (w : World) : Calls Try.prog 42 #[.pointer none] w (fun e w' => e = .returned (.tuple #[]) ∧ w' = w) := by
  go_enter Try.func42, Try.ntmps42
  go_wp2
  (try simp only [Exit.inBlock, Exit.then]); refine bodyPost_ret (results_none rfl _ _ _) rfl ?_
  exact ⟨rfl, rfl⟩
theorem move_none (X : Nat) (v : Value) (w : World) (h : w.cell? ⟨X, 3, none⟩ = some (.pointer none)) : Calls Try.prog 73 #[.pointer (some ⟨X, 0, none⟩), v] w (fun e w' => e = .returned (.tuple #[]) ∧ w' = w) := by
  go_enter Try.func73, Try.ntmps73
  go_wp2
  go_end0
  exact ⟨rfl, rfl⟩
theorem next_none (X : Nat) (w : World) (h : w.cell? ⟨X, 3, none⟩ = some (.pointer none)) : Calls Try.prog 39 #[.pointer (some ⟨X, 0, none⟩)] w (fun e w' => e = .returned (.tuple #[]) ∧ w' = w) := by
  go_enter Try.func39, Try.ntmps39
  go_wp2_with (first | (go_at_call 73; refine (move_none X _ _ h).mono ?_; rintro e w1 ⟨rfl, rfl⟩))
  go_end0
  exact ⟨rfl, rfl⟩
theorem prev_none (X : Nat) (w : World) (h : w.cell? ⟨X, 3, none⟩ = some (.pointer none)) : Calls Try.prog 40 #[.pointer (some ⟨X, 0, none⟩)] w (fun e w' => e = .returned (.tuple #[]) ∧ w' = w) := by
  go_enter Try.func40, Try.ntmps40
  go_wp2_with (first | (go_at_call 73; refine (move_none X _ _ h).mono ?_; rintro e w1 ⟨rfl, rfl⟩))
  go_end0
  exact ⟨rfl, rfl⟩
theorem next_w (X i : Nat) (s : Sh) (at_ : Nat → Nat) (lv : Value) (w : World) (hb : Bk w X s at_ lv (.slice s.ga s.n s.gc) (some i)) (hf : Fix s) (hl : Line w X s at_ lv (hereV s (some i))) :
    Calls Try.prog 39 #[.pointer (some ⟨X, 0, none⟩)] w (fun e w' => e = .returned (.tuple #[]) ∧ OnEnd w X s at_ lv w') := by
  have h3 : w.cell? ⟨X, 3, none⟩ = some (.pointer (some ⟨s.C i, 0, none⟩)) := hb.cell.2.2.2.1
  have HO := Lib.hid (on_w X s at_ lv (some i) w hb hf hl)
  clear hb hl
  have HM : Calls Try.prog 73 #[.pointer (some ⟨X, 0, none⟩), .func (.func 74) #[.pointer (some ⟨X, 0, none⟩)] #[]] w (fun e w' => e = .returned (.tuple #[]) ∧ OnEnd w X s at_ lv w') := by
    go_enter Try.func73, Try.ntmps73
    go_wp2_with (first | (go_at_call 74; refine HO.out.mono ?_; rintro e w1 ⟨rfl, t⟩))
    go_end0
    exact ⟨rfl, t⟩
  go_enter Try.func39, Try.ntmps39
  go_wp2_with (first | (go_at_call 73; refine HM.mono ?_; rintro e w1 ⟨rfl, t⟩))
  go_end0
  exact ⟨rfl, t⟩
/-- At, of none. -/
theorem at_nil (w : World) : Calls Try.prog 38 #[.pointer none] w (fun e w' => e = .returned (.tuple #[val44 PC.z44, .bool false]) ∧ Below w.heap.size w w') := by
  go_enter Try.func38, Try.ntmps38
  go_wp2
  (try simp only [Exit.inBlock, Exit.then])
  refine bodyPost_ret (results_ct rfl _ _ w.heap.size 44 #[.string ⟨#[]⟩, .int .u64 0, .int .i64 0, .string ⟨#[]⟩] (0, 0) _ rfl (World.alloc_heap_new w _) Try.underlying44 rfl (by kernel_rfl)) rfl ?_
  exact ⟨rfl, (Below.refl _ w).alloc (Nat.le_refl _) _⟩
theorem at_none (X : Nat) (w : World) (h : w.cell? ⟨X, 3, none⟩ = some (.pointer none)) : Calls Try.prog 38 #[.pointer (some ⟨X, 0, none⟩)] w (fun e w' => e = .returned (.tuple #[val44 PC.z44, .bool false]) ∧ Below w.heap.size w w') := by
  have hx : (w.alloc (.cells #[.string ⟨#[]⟩, .int .u64 0, .int .i64 0, .string ⟨#[]⟩] 44)).cell? ⟨X, 3, none⟩ = some (.pointer none) := cell_up h
  go_enter Try.func38, Try.ntmps38
  go_wp2
  (try simp only [Exit.inBlock, Exit.then])
  refine bodyPost_ret (results_ct rfl _ _ w.heap.size 44 #[.string ⟨#[]⟩, .int .u64 0, .int .i64 0, .string ⟨#[]⟩] (0, 0) _ rfl (World.alloc_heap_new w _) Try.underlying44 rfl (by kernel_rfl)) rfl ?_
  exact ⟨rfl, (Below.refl _ w).alloc (Nat.le_refl _) _⟩

set_option maxHeartbeats 4000000 in
/-- At. -/
theorem at_w (X i : Nat) (s : Sh) (at_ : Nat → Nat) (lv gv2 : Value) (w : World) (hb : Bk w X s at_ lv gv2 (some i)) (hf : Fix s) (hi : i < s.n) (h1 : 1 ≤ at_ i) (h2 : at_ i ≤ (s.l i).length) :
    Calls Try.prog 38 #[.pointer (some ⟨X, 0, none⟩)] w (fun e w' => e = .returned (.tuple #[val44 (s.e i (at_ i - 1)), .bool true]) ∧ Below w.heap.size w w') := by
  obtain ⟨ka, hka⟩ : ∃ k, at_ i = k + 1 := ⟨at_ i - 1, by omega⟩
  have c3 : w.cell? ⟨X, 3, none⟩ = some (.pointer (some ⟨s.C i, 0, none⟩)) := hb.cell.2.2.2.1
  obtain ⟨_, _, k10, k11, k12, _⟩ := hb.cs.cell hi
  obtain ⟨pa, ea, Z⟩ := hb.cs.ents i hi ka (by omega)
  have hla' := hf.l i hi
  obtain ⟨la, hLa⟩ : ∃ m, (s.l i).length = m := ⟨_, rfl⟩
  have c1 : ((ka + 1 : Nat) : Int) = (ka : Int) + 1 := by omega
  have he : s.e i (at_ i - 1) = s.e i ka := by rw [hka]; rfl
  obtain ⟨x, hx⟩ : ∃ x, s.e i ka = x := ⟨_, rfl⟩
  have Z : El w (pa.add (ka * 4)) x := by rw [← hx]; exact Z
  rw [he, hx]
  rw [hka, c1] at k11
  rw [hLa, ea] at k10
  rw [hLa] at h2 hla'
  have p1 : ((ka : Int) < la) = True := eq_true (by omega)
  have q1 : IntKind.i64.wrap (ka : Int) = (ka : Int) := by rw [IntWalk.i64_in _ (by omega)]
  obtain ⟨W, hW⟩ : ∃ W, w.alloc (.cells #[.string ⟨#[]⟩, .int .u64 0, .int .i64 0, .string ⟨#[]⟩] 44) = W := ⟨_, rfl⟩
  have bl : Below w.heap.size w W := by rw [← hW]; exact (Below.refl _ _).alloc (Nat.le_refl _) _
  have hn := World.alloc_heap_new w (.cells #[.string ⟨#[]⟩, .int .u64 0, .int .i64 0, .string ⟨#[]⟩] 44)
  obtain ⟨B, hB⟩ : ∃ B, w.heap.size = B := ⟨_, rfl⟩
  rw [hW, hB] at hn
  replace c3 := (bl.cell (World.block_lt_of_cell? _ _ c3)).trans c3
  replace k10 := (bl.cell (World.block_lt_of_cell? _ _ k10)).trans k10
  replace k11 := (bl.cell (World.block_lt_of_cell? _ _ k11)).trans k11
  obtain ⟨x0, x1, x2, x3⟩ := Z.below bl
  have b0 : W.cell? ⟨B, 0, none⟩ = some (.string ⟨#[]⟩) := by simp [World.cell?, hn]
  have b1 : W.cell? ⟨B, 1, none⟩ = some (.int .u64 0) := by simp [World.cell?, hn]
  have b2 : W.cell? ⟨B, 2, none⟩ = some (.int .i64 0) := by simp [World.cell?, hn]
  have b3 : W.cell? ⟨B, 3, none⟩ = some (.string ⟨#[]⟩) := by simp [World.cell?, hn]
  have f0 : W.frozen? ⟨B, 0, none⟩ = false := by simp [World.frozen?, hn]
  have f1 : W.frozen? ⟨B, 1, none⟩ = false := by simp [World.frozen?, hn]
  have f2 : W.frozen? ⟨B, 2, none⟩ = false := by simp [World.frozen?, hn]
  have f3 : W.frozen? ⟨B, 3, none⟩ = false := by simp [World.frozen?, hn]
  have HN := Lib.hid (And.intro hn bl)
  clear hb hf hka hx he hLa ea c1 h1 h2 hla' hn bl Z k12
  go_enter Try.func38, Try.ntmps38
  go_wp2_with (first | rw [hW, hB])
  go_region
  go_wp2_with fail
  (try simp only [Exit.inBlock, Exit.then])
  obtain ⟨hn, bl⟩ := HN.out
  have hp : ((((W.setCell ⟨B, 0, none⟩ (.string x.f0.f0)).setCell ⟨B, 1, none⟩ (.int .u64 x.f0.f1)).setCell ⟨B, 2, none⟩ (.int .i64 x.f0.f2)).setCell ⟨B, 3, none⟩ (.string x.f1)).drew.heap[B]? = some (.cells #[.string x.f0.f0, .int .u64 x.f0.f1, .int .i64 x.f0.f2, .string x.f1] 44 (0, 0)) :=
    (heap_setCell_same _ B 3 _ 44 _ (heap_setCell_same _ B 2 _ 44 _ (heap_setCell_same _ B 1 _ 44 _ (heap_setCell_same W B 0 _ 44 _ hn))))
  refine bodyPost_ret (results_ct rfl _ _ B 44 _ (0, 0) _ rfl hp Try.underlying44 rfl (by kernel_rfl)) rfl ?_
  refine ⟨rfl, ?_⟩
  have F : Fr (fun b => b = B) w W := Fr.of_below bl
  exact (((((F.set _ _ rfl).set _ _ rfl).set _ _ rfl).set _ _ rfl).drew).to_below (Nat.le_refl _ |> fun _ => by omega) (fun b e => by omega)
end Go.Proofs.Ytehoojmalhloeaa.CM

/-! merge: a step back (back); Prev. -/
namespace Go.Proofs.Ytehoojmalhloeaa.CM
open Go.RowKit Go.Proofs.YtehoojmalhloeaaW.PrintWords
set_option linter.unusedVariables false
set_option linter.unusedSimpArgs false
set_option maxRecDepth 100000

/-- Whose last entry is behind all others', of the first k lists. -/
def bestK (s : Sh) (at_ : Nat → Nat) : Nat → Option Nat
  | 0 => none
  | k + 1 => if 0 < at_ k then (match bestK s at_ k with
    | none => some k
    | some b => if s.more at_ k b = true then some k else some b) else bestK s at_ k
theorem bestK_some (s : Sh) (at_ : Nat → Nat) : ∀ (k b : Nat), bestK s at_ k = some b → b < k ∧ 0 < at_ b
  | 0, b, h => by simp [bestK] at h
  | k + 1, b, h => by
    unfold bestK at h
    split at h
    · split at h
      · injection h with h; subst h; exact ⟨by omega, by assumption⟩
      · rename_i b' hb
        split at h
        · injection h with h; subst h; exact ⟨by omega, by assumption⟩
        · injection h with h
          subst h
          have := bestK_some s at_ k b' hb
          exact ⟨by omega, this.2⟩
    · have := bestK_some s at_ k b h
      exact ⟨by omega, this.2⟩
theorem bestK_step_no {s : Sh} {at_ : Nat → Nat} {k : Nat} (h : at_ k = 0) : bestK s at_ (k + 1) = bestK s at_ k := by
  unfold bestK
  rw [if_neg (by omega)]
  cases k <;> rfl
theorem bestK_step_none {s : Sh} {at_ : Nat → Nat} {k : Nat} (h : 0 < at_ k) (hb : bestK s at_ k = none) : bestK s at_ (k + 1) = some k := by
  show (if 0 < at_ k then _ else _) = _
  rw [if_pos h, hb]
theorem bestK_step_some {s : Sh} {at_ : Nat → Nat} {k b : Nat} (h : 0 < at_ k) (hb : bestK s at_ k = some b) : bestK s at_ (k + 1) = if s.more at_ k b = true then some k else some b := by
  show (if 0 < at_ k then _ else _) = _
  rw [if_pos h, hb]
/-- What is behind back, and behind Last. -/
def BackEnd (w : World) (X : Nat) (s : Sh) (at' : Nat → Nat) (lv : Value) (w' : World) : Prop :=
  ∃ lv', Bk w' X s at' lv' (.slice s.ga s.n s.gc) (bestK s at' s.n) ∧ Line w' X s at' lv' (hereV s (bestK s at' s.n)) ∧ Fr (Own X s lv) w w' ∧ ∀ k, lv'.ownBlock = some k → w.heap.size ≤ k ∧ k < w'.heap.size

set_option maxHeartbeats 8000000 in
/-- (*Iter).back. -/
theorem back_w (X i : Nat) (s : Sh) (at_ : Nat → Nat) (lv gv2 : Value) (w : World) (hb : Bk w X s at_ lv gv2 (some i)) (hf : Fix s) (hi : i < s.n) (h1 : 1 ≤ at_ i) (hle : ∀ j, j < s.n → at_ j ≤ (s.l j).length) :
    Calls Try.prog 75 #[.pointer (some ⟨X, 0, none⟩)] w (fun e w' => e = .returned (.tuple #[]) ∧ BackEnd w X s (upd at_ i (at_ i - 1)) lv w') := by
  obtain ⟨ka, hka⟩ : ∃ k, at_ i = k + 1 := ⟨at_ i - 1, by omega⟩
  have c0 := hb.cell.1
  have c3 : w.cell? ⟨X, 3, none⟩ = some (.pointer (some ⟨s.C i, 0, none⟩)) := hb.cell.2.2.2.1
  have cf3 := hb.cell.2.2.2.2 3
  obtain ⟨g1, g2, k10, k11, k12, kf⟩ := hb.cs.cell hi
  have kf1 := kf 1
  have hl0 := hle i hi
  have hn := hf.n
  have hl1 := hf.l i hi
  have c1 : ((ka + 1 : Nat) : Int) = (ka : Int) + 1 := by omega
  rw [hka, c1] at k11
  rw [hka] at hl0
  have q1 : IntKind.i64.wrap (ka : Int) = (ka : Int) := by rw [IntWalk.i64_in _ (by omega)]
  have hsub : at_ i - 1 = ka := by omega
  rw [hsub]
  obtain ⟨at', hat⟩ : ∃ a, upd at_ i ka = a := ⟨_, rfl⟩
  have hle' : ∀ j, j < s.n → at' j ≤ (s.l j).length := fun j hj => by
    rw [← hat]
    by_cases e : j = i
    · subst e; rw [upd_same]; omega
    · rw [upd_ne e]; exact hle j hj
  have hXC : ¬ X = s.C i := hb.off.c i hi
  have B1 : Bk ((w.setCell ⟨s.C i, 1, none⟩ (.int .i64 (ka : Nat))).setCell ⟨X, 3, none⟩ (.pointer none)) X s at' lv gv2 none := by rw [← hat]; exact (hb.upd hf hi ka).set3 none
  have F1 : Fr (Own X s lv) w ((w.setCell ⟨s.C i, 1, none⟩ (.int .i64 (ka : Nat))).setCell ⟨X, 3, none⟩ (.pointer none)) := ((Fr.refl _ w).set _ _ (.inr (.inl ⟨i, hi, rfl⟩))).set _ _ (.inl rfl)
  have z3 : (w.setCell ⟨s.C i, 1, none⟩ (.int .i64 (ka : Int))).cell? ⟨X, 3, none⟩ = some (.pointer (some ⟨s.C i, 0, none⟩)) := (hb.upd hf hi ka).cell.2.2.2.1
  have zf3 : (w.setCell ⟨s.C i, 1, none⟩ (.int .i64 (ka : Int))).frozen? ⟨X, 3, none⟩ = false := (hb.upd hf hi ka).cell.2.2.2.2 3
  obtain ⟨W1, hW1⟩ : ∃ W1, (w.setCell ⟨s.C i, 1, none⟩ (.int .i64 (ka : Int))).setCell ⟨X, 3, none⟩ (.pointer none) = W1 := ⟨_, rfl⟩
  rw [hW1] at B1 F1
  have y0 := B1.cell.1
  rw [g1] at y0
  have HB := Lib.hid (And.intro B1 (And.intro F1 hle'))
  rw [hat]
  clear hb hle hka hat B1 F1 hle' kf k10 k12 hsub c1 h1 g2
  go_enter Try.func75, Try.ntmps75
  go_wp2_with (first | rw [hW1])
  clear c0 c3 cf3 kf1 z3 zf3 k11 y0 hW1 hXC hl0 hl1 q1
  go_loopw [22] (fun t wr => ∃ (k : Nat), k ≤ s.n ∧ t = .int .i64 (k : Int) ∧ Hid (Bk wr X s at' lv gv2 (bestK s at' k) ∧ Fr (Own X s lv) w wr)) (fun t _ => s.n - (intOf t).toNat)
  case atStart => exact ⟨0, by omega, rfl, Lib.hid ⟨HB.out.1, HB.out.2.1⟩⟩
  case round =>
    obtain ⟨k, hk, rfl, HI⟩ := hrel
    have m1 : IntKind.i64.wrap ((k : Int) + 1) = (k : Int) + 1 := by rw [IntWalk.i64_in _ (by omega)]
    by_cases hlt : k < s.n
    · have hltz : (k : Int) < s.n := by omega
      obtain ⟨_, e2, e3, e4, e5, e6⟩ := HI.out.1.cs.cell hlt
      have x3 := HI.out.1.cell.2.2.2.1
      have xf3 := HI.out.1.cell.2.2.2.2 3
      clear e3 e5 e6
      rcases Nat.eq_zero_or_pos (at' k) with h0 | h0
      · have HE := Lib.hid (bestK_step_no (s := s) h0)
        have t0 : decide (0 < (at' k : Int)) = false := decide_eq_false (by omega)
        have t1 : (at' k : Int) ≤ 0 := by omega
        clear x3 xf3 h0
        go_wp2_with fail
        refine ⟨⟨k + 1, by omega, by simp, Lib.hid ⟨?_, HI.out.2⟩⟩, by simp [intOf]; omega⟩
        rw [HE.out]
        exact HI.out.1
      · have t1 : (0 < (at' k : Int)) = True := eq_true (by omega)
        have H0 := Lib.hid h0
        clear h0
        cases hbk : bestK s at' k with
        | none =>
          have HE := Lib.hid (bestK_step_none H0.out hbk)
          rw [hbk] at x3
          replace x3 : wr.cell? ⟨X, 3, none⟩ = some (.pointer none) := x3
          clear hbk
          go_wp2_with fail
          refine ⟨⟨k + 1, by omega, by simp, Lib.hid ⟨?_, HI.out.2.set _ _ (.inl rfl)⟩⟩, by simp [intOf]; omega⟩
          rw [HE.out]
          exact HI.out.1.set3 (some k)
        | some b =>
          have hbs := bestK_some s at' k b hbk
          have HE := Lib.hid (bestK_step_some H0.out hbk)
          rw [hbk] at x3
          replace x3 : wr.cell? ⟨X, 3, none⟩ = some (.pointer (some ⟨s.C b, 0, none⟩)) := x3
          have HW := Lib.hid (behind_w s at' k b wr HI.out.1.cs hf hlt (by omega) H0.out (HB.out.2.2 k hlt) hbs.2 (HB.out.2.2 b (by omega)))
          have HI2 := HI
          rw [hbk] at HI2
          clear hbk hbs
          obtain ⟨c, hc⟩ : ∃ c, s.more at' k b = c := ⟨_, rfl⟩
          rw [hc] at HE HW
          clear hc HI
          cases c with
          | false =>
            go_wp2_with (first | (go_at_call 76; refine HW.out.mono ?_; rintro e w1 ⟨rfl, b1⟩; have HB1 := Lib.hid b1; clear b1))
            refine ⟨⟨k + 1, by omega, by simp, Lib.hid ⟨?_, HI2.out.2.below HB1.out⟩⟩, by simp [intOf]; omega⟩
            rw [HE.out]
            exact HI2.out.1.below HB1.out
          | true =>
            go_wp2_with (first | (go_at_call 76; refine HW.out.mono ?_; rintro e w1 ⟨rfl, b1⟩; have HB1 := Lib.hid b1; have x3' := (HI2.out.1.below b1).cell.2.2.2.1; have xf3' := (HI2.out.1.below b1).cell.2.2.2.2 3; clear b1))
            refine ⟨⟨k + 1, by omega, by simp, Lib.hid ⟨?_, (HI2.out.2.below HB1.out).set _ _ (.inl rfl)⟩⟩, by simp [intOf]; omega⟩
            rw [HE.out]
            exact (HI2.out.1.below HB1.out).set3 (some k)
    · obtain rfl : k = s.n := by omega
      have hltz : decide ((s.n : Int) < (s.n : Int)) = false := decide_eq_false (by omega)
      have HU := Lib.hid (lineUp_w X s at' lv gv2 _ wr HI.out.1 hf (less_ord _ _))
      go_wp2_with (first | (go_at_call 77; refine HU.out.mono ?_; rintro e w1 ⟨rfl, lv1, b1, l1, f1, o1⟩))
      (try simp only [Exit.inBlock, Exit.then]); refine bodyPost_end (results_none rfl _ _ _) rfl ?_
      refine ⟨rfl, lv1, b1, l1, HI.out.2.trans f1 (fun b _ e => .inl e), fun b e => ?_⟩
      have := o1 b e
      have := HI.out.2.size
      omega
end Go.Proofs.Ytehoojmalhloeaa.CM

/-! merge: Prev, Last. -/
namespace Go.Proofs.Ytehoojmalhloeaa.CM
open Go.RowKit Go.Proofs.YtehoojmalhloeaaW.PrintWords
set_option linter.unusedVariables false
set_option linter.unusedSimpArgs false
set_option maxRecDepth 100000

theorem prev_w (X i : Nat) (s : Sh) (at_ : Nat → Nat) (lv gv2 : Value) (w : World) (hb : Bk w X s at_ lv gv2 (some i)) (hf : Fix s) (hi : i < s.n) (h1 : 1 ≤ at_ i) (hle : ∀ j, j < s.n → at_ j ≤ (s.l j).length) :
    Calls Try.prog 40 #[.pointer (some ⟨X, 0, none⟩)] w (fun e w' => e = .returned (.tuple #[]) ∧ BackEnd w X s (upd at_ i (at_ i - 1)) lv w') := by
  have h3 : w.cell? ⟨X, 3, none⟩ = some (.pointer (some ⟨s.C i, 0, none⟩)) := hb.cell.2.2.2.1
  have HO := Lib.hid (back_w X i s at_ lv gv2 w hb hf hi h1 hle)
  clear hb hle h1
  have HM : Calls Try.prog 73 #[.pointer (some ⟨X, 0, none⟩), .func (.func 75) #[.pointer (some ⟨X, 0, none⟩)] #[]] w (fun e w' => e = .returned (.tuple #[]) ∧ BackEnd w X s (upd at_ i (at_ i - 1)) lv w') := by
    go_enter Try.func73, Try.ntmps73
    go_wp2_with (first | (go_at_call 75; refine HO.out.mono ?_; rintro e w1 ⟨rfl, t⟩))
    go_end0
    exact ⟨rfl, t⟩
  go_enter Try.func40, Try.ntmps40
  go_wp2_with (first | (go_at_call 73; refine HM.mono ?_; rintro e w1 ⟨rfl, t⟩))
  go_end0
  exact ⟨rfl, t⟩

theorem more_congr {s : Sh} {a b : Nat → Nat} {i j : Nat} (hi : a i = b i) (hj : a j = b j) : s.more a i j = s.more b i j := by
  unfold Sh.more
  rw [hi, hj]

set_option maxHeartbeats 8000000 in
/-- (*Iter).Last. -/
theorem last_w (X : Nat) (s : Sh) (at_ : Nat → Nat) (lv gv2 : Value) (here : Option Nat) (w : World) (hb : Bk w X s at_ lv gv2 here) (hf : Fix s) :
    Calls Try.prog 42 #[.pointer (some ⟨X, 0, none⟩)] w (fun e w' => e = .returned (.tuple #[]) ∧ BackEnd w X s (fun j => (s.l j).length) lv w') := by
  obtain ⟨at', hat⟩ : ∃ a : Nat → Nat, (fun j => (s.l j).length) = a := ⟨_, rfl⟩
  have hat' : ∀ j, at' j = (s.l j).length := fun j => by rw [← hat]
  rw [hat]
  clear hat
  have c0 := hb.cell.1
  have c3 := hb.cell.2.2.2.1
  have cf3 := hb.cell.2.2.2.2 3
  have hn := hf.n
  have B1 : Bk (w.setCell ⟨X, 3, none⟩ (.pointer none)) X s at_ lv gv2 none := hb.set3 none
  have F1 : Fr (Own X s lv) w (w.setCell ⟨X, 3, none⟩ (.pointer none)) := (Fr.refl _ w).set _ _ (.inl rfl)
  obtain ⟨W1, hW1⟩ : ∃ W1, w.setCell ⟨X, 3, none⟩ (.pointer none) = W1 := ⟨_, rfl⟩
  rw [hW1] at B1 F1
  have y0 := B1.cell.1
  have HB := Lib.hid (And.intro B1 (And.intro F1 hat'))
  clear hb B1 F1 hat'
  go_enter Try.func42, Try.ntmps42
  go_wp2_with (first | rw [hW1])
  clear c0 c3 cf3 y0 hW1
  go_loopw [14] (fun t wr => ∃ (k : Nat), k ≤ s.n ∧ t = .int .i64 (k : Int) ∧ Hid (Bk wr X s (fun j => if j < k then at' j else at_ j) lv gv2 (bestK s at' k) ∧ Fr (Own X s lv) w wr)) (fun t _ => s.n - (intOf t).toNat)
  case atStart => exact ⟨0, by omega, rfl, Lib.hid ⟨HB.out.1.congr (fun j _ => by simp), HB.out.2.1⟩⟩
  case round =>
    obtain ⟨k, hk, rfl, HI0⟩ := hrel
    have m1 : IntKind.i64.wrap ((k : Int) + 1) = (k : Int) + 1 := by rw [IntWalk.i64_in _ (by omega)]
    by_cases hlt : k < s.n
    · have hltz : (k : Int) < s.n := by omega
      obtain ⟨e1, e2, e3, e4, e5, e6⟩ := HI0.out.1.cs.cell hlt
      have ef := e6 1
      clear e5 e6
      obtain ⟨la, hla⟩ : ∃ m, (s.l k).length = m := ⟨_, rfl⟩
      have hak : at' k = la := by rw [HB.out.2.2 k, hla]
      rw [hla] at e3
      obtain ⟨W2, hW2⟩ : ∃ W2, wr.setCell ⟨s.C k, 1, none⟩ (.int .i64 (la : Nat)) = W2 := ⟨_, rfl⟩
      have B2 : Bk W2 X s (fun j => if j < k + 1 then at' j else at_ j) lv gv2 (bestK s at' k) := by
        rw [← hW2]
        refine (HI0.out.1.upd hf hlt la).congr (fun j hj => ?_)
        by_cases e : j = k
        · subst e; rw [upd_same, if_pos (by omega), hak]
        · rw [upd_ne e]
          by_cases h2 : j < k
          · rw [if_pos h2, if_pos (by omega)]
          · rw [if_neg h2, if_neg (by omega)]
      have F2 : Fr (Own X s lv) w W2 := by rw [← hW2]; exact HI0.out.2.set _ _ (.inr (.inl ⟨k, hlt, rfl⟩))
      have HI := Lib.hid (And.intro B2 F2)
      have e44 := (B2.cs.cell hlt).2.2.2.1
      rw [if_pos (by omega), hak] at e44
      have x3 := B2.cell.2.2.2.1
      have xf3 := B2.cell.2.2.2.2 3
      clear B2 F2 HI0
      rw [e1]
      rcases Nat.eq_zero_or_pos (at' k) with h0 | h0
      · have HE := Lib.hid (bestK_step_no (s := s) h0)
        have hla0 : la = 0 := by omega
        have t0 : decide (0 < (la : Int)) = false := decide_eq_false (by omega)
        have t1 : (la : Int) ≤ 0 := by omega
        clear x3 xf3 h0 hak hla hla0
        go_wp2_with (first | rw [hW2])
        refine ⟨⟨k + 1, by omega, by simp, Lib.hid ⟨?_, HI.out.2⟩⟩, by simp [intOf]; omega⟩
        rw [HE.out]
        exact HI.out.1
      · have hlp : 0 < la := by omega
        have t1 : (0 < (la : Int)) = True := eq_true (by omega)
        have H0 := Lib.hid (And.intro h0 hak)
        clear h0 hak
        cases hbk : bestK s at' k with
        | none =>
          have HE := Lib.hid (bestK_step_none H0.out.1 hbk)
          rw [hbk] at x3
          replace x3 : W2.cell? ⟨X, 3, none⟩ = some (.pointer none) := x3
          clear hbk
          go_wp2_with (first | rw [hW2])
          refine ⟨⟨k + 1, by omega, by simp, Lib.hid ⟨?_, HI.out.2.set _ _ (.inl rfl)⟩⟩, by simp [intOf]; omega⟩
          rw [HE.out]
          exact HI.out.1.set3 (some k)
        | some b =>
          have hbs := bestK_some s at' k b hbk
          have HE := Lib.hid (bestK_step_some H0.out.1 hbk)
          rw [hbk] at x3
          replace x3 : W2.cell? ⟨X, 3, none⟩ = some (.pointer (some ⟨s.C b, 0, none⟩)) := x3
          have v1 : (fun j => if j < k + 1 then at' j else at_ j) k = at' k := if_pos (by omega)
          have v2 : (fun j => if j < k + 1 then at' j else at_ j) b = at' b := if_pos (by omega)
          have HW := Lib.hid (behind_w s _ k b W2 HI.out.1.cs hf hlt (by omega) (Nat.le_trans H0.out.1 (Nat.le_of_eq v1.symm)) (Nat.le_of_eq (v1.trans (HB.out.2.2 k))) (Nat.le_trans hbs.2 (Nat.le_of_eq v2.symm)) (Nat.le_of_eq (v2.trans (HB.out.2.2 b))))
          rw [more_congr v1 v2] at HW
          have HI2 := HI
          rw [hbk] at HI2
          clear hbk hbs v1 v2
          obtain ⟨c, hc⟩ : ∃ c, s.more at' k b = c := ⟨_, rfl⟩
          rw [hc] at HE HW
          clear hc HI
          cases c with
          | false =>
            go_wp2_with (first | rw [hW2] | (go_at_call 76; refine HW.out.mono ?_; rintro e w1 ⟨rfl, b1⟩; have HB1 := Lib.hid b1; clear b1))
            refine ⟨⟨k + 1, by omega, by simp, Lib.hid ⟨?_, HI2.out.2.below HB1.out⟩⟩, by simp [intOf]; omega⟩
            rw [HE.out]
            exact HI2.out.1.below HB1.out
          | true =>
            go_wp2_with (first | rw [hW2] | (go_at_call 76; refine HW.out.mono ?_; rintro e w1 ⟨rfl, b1⟩; have HB1 := Lib.hid b1; have x3' := (HI2.out.1.below b1).cell.2.2.2.1; have xf3' := (HI2.out.1.below b1).cell.2.2.2.2 3; clear b1))
            refine ⟨⟨k + 1, by omega, by simp, Lib.hid ⟨?_, (HI2.out.2.below HB1.out).set _ _ (.inl rfl)⟩⟩, by simp [intOf]; omega⟩
            rw [HE.out]
            exact (HI2.out.1.below HB1.out).set3 (some k)
    · obtain rfl : k = s.n := by omega
      have hltz : decide ((s.n : Int) < (s.n : Int)) = false := decide_eq_false (by omega)
      have HI2 : Hid (Bk wr X s at' lv gv2 (bestK s at' s.n)) := HI0.out.1.congr (fun j hj => by rw [if_pos hj])
      have HU := Lib.hid (lineUp_w X s at' lv gv2 _ wr HI2.out hf (less_ord _ _))
      go_wp2_with (first | (go_at_call 77; refine HU.out.mono ?_; rintro e w1 ⟨rfl, lv1, b1, l1, f1, o1⟩))
      (try simp only [Exit.inBlock, Exit.then]); refine bodyPost_end (results_none rfl _ _ _) rfl ?_
      refine ⟨rfl, lv1, b1, l1, HI0.out.2.trans f1 (fun b _ e => .inl e), fun b e => ?_⟩
      have := o1 b e
      have := HI0.out.2.size
      omega
end Go.Proofs.Ytehoojmalhloeaa.CM

/-! merge: a list is cloned. -/
namespace Go.Proofs.Ytehoojmalhloeaa.CM
open Go.RowKit Go.Proofs.YtehoojmalhloeaaW.PrintWords
set_option linter.unusedVariables false
set_option linter.unusedSimpArgs false
set_option maxRecDepth 100000

theorem Ents.of_C {w : World} {A : Option Addr} {n : Nat} {xs : List PC.S44} (h : Kd.C PC.k44 w A n xs) : Ents w A xs := fun j hj => at44 h j (by rw [← h.1]; exact hj)
theorem R_empty44 (w : World) (base : Nat) (hb : base ≤ w.heap.size) : Kd.R PC.k44 44 (w.alloc (.cells #[] 44)) base (fun _ => True) (.slice (some ⟨w.heap.size, 0, none⟩) 0 0) [] :=
  R_of44 ⟨rfl, .inr ⟨_, 0, _, rfl, hb, World.alloc_heap_new w _, Nat.le_refl _, by decide, rfl, rfl⟩⟩
set_option maxHeartbeats 4000000 in
theorem clone_w (A : Option Addr) (n c : Nat) (xs : List PC.S44) (w : World) (hr : Kd.C PC.k44 w A n xs) (hn : n ≤ 2932031007317) :
    Calls Try.prog 70 #[.slice A n c] w (fun e w' => ∃ A' c', e = .returned (.slice A' n c') ∧ Ents w' A' xs ∧ n ≤ c' ∧ (∀ a, A' = some a → w.heap.size ≤ a.block) ∧ Below w.heap.size w w') := by
  have hl : xs.length = n := hr.1
  have q22 : ∀ (w : World) (a : Option Addr) (n c n' c' : Nat), (binOp .eql 22 (.slice a n c) (.slice none n' c')).run Try.prog w = .ok (.bool a.isNone) w := fun w a n c n' c' => Lib.run_eql_slice_nil w _ _ a n c n' c' Try.underlying22
  rcases A with _ | ad
  · have h0 : n = 0 := by
      rcases Nat.eq_zero_or_pos n with h0 | h0
      · exact h0
      · obtain ⟨ad, h, _⟩ := hr.2.2 h0
        cases h
    subst h0
    obtain rfl : xs = [] := List.eq_nil_of_length_eq_zero hl
    clear hr
    go_enter Try.func70, Try.ntmps70
    go_wp2_with fail
    go_ret
    exact ⟨none, 0, rfl, fun j hj => by simp at hj, Nat.le_refl _, fun a e => (by cases e), Below.refl _ _⟩
  · have hC : Kd.C PC.k44 (w.alloc (.cells #[] 44)) (some ad) n xs := keepC hr (Nat.le_refl _) ((Below.refl _ w).alloc (Nat.le_refl _) _)
    obtain ⟨v1, w1, hrun, hR, hg, _⟩ := run_append44 (c := c) 22 (R_empty44 w w.heap.size (Nat.le_refl _)) hC (by simp; omega) (by simp)
    have hB : Below w.heap.size w w1 := ((Below.refl _ w).alloc (Nat.le_refl _) _).grown hg (by simp) (fun j e => by simp [Value.ownBlock] at e; omega)
    obtain ⟨A1, k1, hv1, hl1, hC1⟩ := Kd.R_reads hR
    have hbase := fun j e => Kd.R_base hR j e
    subst hv1
    have HZ := Lib.hid (And.intro hC1 (And.intro hB (And.intro hbase hl1)))
    clear hR hg hC1 hbase hB hC hr hl1
    simp only [List.nil_append] at HZ
    go_enter Try.func70, Try.ntmps70
    go_wp2_with (at_builtin; refine wpList_append_run _ rfl (.tmp 5) (.tmp 6) 22 rfl _ _ _ _ rfl rfl hrun ?_; clear hrun)
    go_ret
    obtain ⟨hC1, hB, hbase, hl1⟩ := HZ.out
    refine ⟨A1, k1, by rw [← hl]; rfl, Ents.of_C hC1, by rw [← hl]; exact hl1, fun a e => hbase a.block (by rw [e]; rfl), hB⟩
end Go.Proofs.Ytehoojmalhloeaa.CM
