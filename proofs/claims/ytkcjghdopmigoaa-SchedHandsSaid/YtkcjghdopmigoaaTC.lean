/- sched: who counts behind a mutex: the walk. -/
import Derived.Test.YtkcjghdopmigoaaTA
import Derived.Test.YtkcjghdopmigoaaSV
import Derived.Deep.Upon
namespace Go.Proofs.Ytkcjghdopmigoaa.SC
open Go.RowKit Go.Proofs.YtkcjghdopmigoaaW.PrintWords
set_option linter.unusedVariables false
set_option linter.unusedSimpArgs false
set_option maxRecDepth 100000

def hiL (k : Int) : List I := [⟨9, 0, 0, 0⟩, ⟨5, 1, -1, 0⟩, ⟨6, 1, 9, 0⟩, ⟨7, 0, 1, 0⟩, ⟨14, 0, 0, 0⟩]
theorem own_upto {w w1 : World} {base e size n : Nat} {v : Value} {xs : List Value} (h : w.ownsRow base e size v n xs) (hb : Below w.heap.size w w1) : w1.ownsRow base e size v n xs :=
  own_move h (fun k hk => hb.block k (own_lt h k hk))
theorem abs_mod {t : Int} (ht : In64 t) (m : Nat) (hm : 0 < m) : ∃ n : Nat, 1 + absP t % (m : Int) = n ∧ 1 ≤ n ∧ n ≤ m ∧ 0 ≤ absP t ∧ absP t ≤ 9223372036854775807 := by
  obtain ⟨h1, h2⟩ := ht
  have ha0 : 0 ≤ absP t ∧ absP t ≤ 9223372036854775807 := by unfold absP; split <;> omega
  have h3 := Int.emod_nonneg (absP t) (show (m : Int) ≠ 0 by omega)
  have h4 := Int.emod_lt_of_pos (absP t) (show (0 : Int) < m by omega)
  exact ⟨(1 + absP t % (m : Int)).toNat, by omega, by omega, by omega, ha0.1, ha0.2⟩
def upL (i : Nat) : List Int := (List.range i).map (fun j : Nat => (j : Int))
theorem upL_succ (i : Nat) : upL (i + 1) = upL i ++ [(i : Int)] := by
  unfold upL
  rw [List.range_succ, List.map_append]
  rfl
theorem upL_len (i : Nat) : (upL i).length = i := by simp [upL]
theorem upL_in {i : Nat} (hi : i ≤ 1000) : ∀ x ∈ upL i, -9223372036854775808 ≤ x ∧ x < 9223372036854775808 := fun x hx => by
  unfold upL at hx
  obtain ⟨j, hj, rfl⟩ := List.mem_map.1 hx
  have := List.mem_range.1 hj
  omega
/-- a row of numbers, of a length with a name -/
def OwnN (w : World) (base q : Nat) (v : Value) (xs : List Int) : Prop := q = xs.length ∧ w.ownsRow base 3 1 v q (nums xs)
theorem OwnN.push {W : World} {base q : Nat} {v : Value} {xs : List Int} {B : Addr} {x : Int} (h : OwnN W base q v xs) (hB : W.cell? B = some (.int .i64 x)) (hl : q + 1 ≤ 20000000000000) (hbase : base ≤ W.heap.size) :
    ∃ q1 A1 c1 w1, (Builtin.append_ #[24, 24] 24 #[v, .slice (some B) 1 1]).run Try.prog W = .ok (.slice A1 q1 c1) w1 ∧ OwnN w1 base q1 (.slice A1 q1 c1) (xs ++ [x]) ∧ W.grownBy w1 v.ownBlock := by
  obtain ⟨rfl, h⟩ := h
  obtain ⟨v1, w1, h1, h2, h3⟩ := run_apN1 h hB hl hbase
  obtain ⟨A1, c1, rfl⟩ := own_form' h2
  exact ⟨_, A1, c1, w1, h1, ⟨rfl, h2⟩, h3⟩
theorem OwnN.reads {W : World} {base q : Nat} {A : Option Addr} {c : Nat} {xs : List Int} (h : OwnN W base q (.slice A q c) xs) : q ≤ c ∧ Kd.C (Kd.int .i64) W A q xs := by
  obtain ⟨rfl, h⟩ := h
  obtain ⟨A1, c1, e, h1, h2⟩ := own_readsN h
  injection e with e1 e2 e3
  subst e1 e3
  exact ⟨h1, h2⟩
theorem OwnN.upto {w w1 : World} {base q : Nat} {v : Value} {xs : List Int} (h : OwnN w base q v xs) (hb : Below w.heap.size w w1) : OwnN w1 base q v xs := ⟨h.1, own_upto h.2 hb⟩
/-- append([]int{}, picks...) -/
theorem run_copyN {W : World} {base g p : Nat} {P : Option Addr} {xs : List Int} (hR : W.ownsRow base 3 1 (.slice (some ⟨g, 0, none⟩) 0 0) 0 []) (hP : Kd.C (Kd.int .i64) W P xs.length xs) (hl : xs.length ≤ 20000000000000) (hbase : base ≤ W.heap.size) (hPn : P = none → p = 0) :
    ∃ v1 w1, (Builtin.append_ #[24, 24] 24 #[.slice (some ⟨g, 0, none⟩) 0 0, .slice P xs.length p]).run Try.prog W = .ok v1 w1 ∧ w1.ownsRow base 3 1 v1 xs.length (nums xs) ∧ W.grownBy w1 (some g) := by
  rcases P with _ | a
  · have h0 : xs.length = 0 := by
      rcases Nat.eq_zero_or_pos xs.length with h | h
      · exact h
      · obtain ⟨a, e, _⟩ := hP.2.2 h
        cases e
    obtain rfl := List.eq_nil_of_length_eq_zero h0
    obtain ⟨i0, hi, hzz⟩ := Option.map_eq_some_iff.1 info3
    have hr := run_append_nothing (P := Try.prog) W 24 24 24 3 i0 und24 hi (some ⟨g, 0, none⟩) 0 0 (Nat.le_refl _) (.slice none 0 p) (Src.ofNil W und24 p)
    exact ⟨_, _, hr, hR, ⟨rfl, rfl, rfl, Nat.le_refl _, fun _ _ _ => rfl⟩⟩
  · obtain ⟨v1, w1, h1, h2, h3⟩ := run_apN (xs := []) (ys := xs) (c := p) hR hP (by simpa using hl) hbase
    exact ⟨v1, w1, h1, by simpa using h2, h3⟩
theorem okB_rep {l : List I} (h : codeB l = true) {n : Nat} (hn : n ≤ 8) : okB (List.replicate n l) [] = true := by
  unfold okB
  rw [decide_eq_true (show (List.replicate n l).length ≤ 8 by simpa using hn), List.all_replicate, h]
  simp
theorem codeB_L (k : Int) : codeB (codeL k) = true := rfl
set_option maxHeartbeats 8000000 in
theorem locks_w (t r : Int) (P : Option Addr) (p : Nat) (picks : List Int) (w : World) (ht : In64 t) (hr : In64 r) (hP : Kd.C (Kd.int .i64) w P picks.length picks) (hp : picks.length ≤ p) (hs : picks.length * 8 ≤ 140737488351232) (hpr : ∀ x ∈ picks, In64 x) (hPn : P = none → p = 0) :
    Calls Try.prog 5 #[.int .i64 t, .int .i64 r, .slice P picks.length p] w (TrueEnd w) := by
  have HP := Lib.hid (And.intro hP (And.intro hp (And.intro hs hPn)))
  have HPR := Lib.hid hpr
  have hpl : picks.length ≤ 17592186043904 := by omega
  clear hP hp hpr hs hPn
  obtain ⟨n, hn, hn1, hn8, hn0, hnm⟩ := abs_mod ht 8 (by omega)
  obtain ⟨k, hk, hk1, hk9, hk0, hkm⟩ := abs_mod hr 9 (by omega)
  have Hn := Lib.hid (show 1 + absP t % 8 = (n : Int) from hn)
  have Hk := Lib.hid (show 1 + absP r % 9 = (k : Int) from hk)
  clear hn hk
  obtain ⟨ht1, ht2⟩ := ht
  obtain ⟨hr1, hr2⟩ := hr
  go_enter Try.func5, Try.ntmps5
  go_wp2_with fail
  refine (awake_w w).mono ?_
  rintro e w1 ⟨rfl, b1⟩
  have H1 := Lib.hid b1
  clear b1
  go_upto_if 18 with (fail)
  go_cut [0] from 17 to 21 (fun v wx => v = .int .i64 (absP t) ∧ w1 = wx)
  case first =>
    by_cases hpn : t < 0
    · have d1 : decide (t < 0) = true := decide_eq_true hpn
      have d2 : absP t = -t - 1 := if_pos hpn
      go_wp2_with fail
      go_meet
      case rel =>
        refine ⟨?_, rfl⟩
        rw [d2, show -(t + 1) = -t - 1 by omega]
    · have d1 : decide (t < 0) = false := decide_eq_false hpn
      have d2 : absP t = t := if_neg hpn
      go_wp2_with fail
      go_meet
      case rel => exact ⟨by rw [d2], rfl⟩
  case rest =>
  obtain ⟨hz, hw⟩ := hcut
  subst hz
  subst hw
  go_upto_if 23 with (fail)
  go_cut [1] from 22 to 26 (fun v wx => v = .int .i64 (absP r) ∧ w1 = wx)
  case first =>
    by_cases hpn : r < 0
    · have d1 : decide (r < 0) = true := decide_eq_true hpn
      have d2 : absP r = -r - 1 := if_pos hpn
      go_wp2_with fail
      go_meet
      case rel =>
        refine ⟨?_, rfl⟩
        rw [d2, show -(r + 1) = -r - 1 by omega]
    · have d1 : decide (r < 0) = false := decide_eq_false hpn
      have d2 : absP r = r := if_neg hpn
      go_wp2_with fail
      go_meet
      case rel => exact ⟨by rw [d2], rfl⟩
  case rest =>
  obtain ⟨hz, hw⟩ := hcut
  subst hz
  subst hw
  go_upto_region 8 with (fail)
  rw [Hn.out, Hk.out]
  go_wp2_with fail
  obtain ⟨g1, hg1⟩ : ∃ g1, w1.heap.size = g1 := ⟨_, rfl⟩
  generalize hW2 : w1.alloc _ = W2
  rw [hg1]
  have o2 : W2.ownsRow w.heap.size 35 4 (.slice (some ⟨g1, 0, none⟩) 2 2) ([⟨4, 1, k, 0⟩, ⟨8, 0, 0, 0⟩] : List I).length (cellsI [⟨4, 1, k, 0⟩, ⟨8, 0, 0, 0⟩]) := own_lit (by rw [← hW2, ← hg1]; exact heap_alloc_new w1 _) (by have := H1.out.size; omega) rfl rfl (by decide)
  have b2 : Below w.heap.size w W2 := by rw [← hW2]; exact H1.out.alloc H1.out.size _
  have H2 := Lib.hid (And.intro o2 b2)
  clear hW2 o2 b2 hg1 H1
  refine (counts_w W2).mono ?_
  rintro e w3 ⟨A3, c3, rfl, hc3, hC3, b3⟩
  obtain ⟨a3, rfl, _⟩ := hC3.2.2 (by omega)
  obtain ⟨v4, w4, hrun, o4, g4⟩ := run_apI (c := c3) (own_upto H2.out.1 b3) (ys := cnt) hC3 (by simp [cnt]) (by have := H2.out.2.size; have := b3.size; omega)
  have b4 := (H2.out.2.trans (b3.mono H2.out.2.size)).grown g4 (by have := H2.out.2.size; have := b3.size; omega) (fun k hk => own_base (own_upto H2.out.1 b3) k hk)
  obtain ⟨A4, k4, rfl⟩ := own_form' o4
  have H4 := Lib.hid (And.intro o4 b4)
  clear o4 b4 g4 hC3 b3 H2 hc3
  go_upto_region 10 with (at_builtin; refine wpList_append_run _ rfl (.tmp 37) (.tmp 38) 36 rfl _ _ _ _ rfl rfl hrun ?_; clear hrun)
  obtain ⟨g5, hg5⟩ : ∃ g5, w4.heap.size = g5 := ⟨_, rfl⟩
  obtain ⟨W5, hW5⟩ : ∃ W5, w4.alloc (.cells #[.int .i64 9, .int .i64 0, .int .i64 0, .int .i64 0, .int .i64 5, .int .i64 1, .int .i64 (-1), .int .i64 0, .int .i64 6, .int .i64 1, .int .i64 9, .int .i64 0, .int .i64 7, .int .i64 0, .int .i64 1, .int .i64 0, .int .i64 14, .int .i64 0, .int .i64 0, .int .i64 0] 35) = W5 := ⟨_, rfl⟩
  have b5 : Below w4.heap.size w4 W5 := by rw [← hW5]; exact (Below.refl _ w4).alloc (Nat.le_refl _) _
  have C5 : Kd.C kI W5 (some ⟨g5, 0, none⟩) (hiL k).length (hiL k) := C_insts (by rw [← hW5, ← hg5]; exact heap_alloc_new w4 _) rfl (by simp [hiL])
  obtain ⟨v6, w6, hrun, o6, g6⟩ := run_apI (c := 5) (own_upto H4.out.1 b5) C5 (by simp [hiL, cnt]) (by have := H4.out.2.size; have := b5.size; omega)
  have b6 := (H4.out.2.trans (b5.mono H4.out.2.size)).grown g6 (by have := H4.out.2.size; have := b5.size; omega) (fun k hk => own_base (own_upto H4.out.1 b5) k hk)
  obtain ⟨A6, k6, hk6, hk6', C6⟩ : ∃ A c, v6 = .slice A 10 c ∧ 10 ≤ c ∧ Kd.C kI w6 A 10 (codeL k) := own_readsI (xs := codeL k) o6
  subst hk6
  have H6 := Lib.hid (And.intro b6 (And.intro hk6' C6))
  have H5 := Lib.hid (And.intro hW5 hg5)
  clear o6 b6 g6 C5 b5 H4 hW5 hg5 hk6' C6
  go_upto_block 0 with (first | (rw [H5.out.1, H5.out.2]) | (at_builtin; refine wpList_append_run _ rfl (.tmp 40) (.tmp 46) 36 rfl _ _ _ _ rfl rfl hrun ?_; clear hrun))
  go_cut [9] from 48 to 56 (fun v wc => ∃ CB cd, v = .slice CB n cd ∧ Hid (n ≤ cd ∧ Kd.C (Kd.slice 35 kI) wc CB n (List.replicate n (codeL k)) ∧ Below w6.heap.size w6 wc))
  case first =>
    go_wp2_with fail
    go_loopw [9, 10] (fun v t wr => ∃ (i : Nat) (CB : Option Addr) (cd : Nat), i ≤ n ∧ t = .int .i64 (i : Int) ∧ v = .slice CB i cd ∧ Hid (wr.ownsRow w6.heap.size 36 1 (.slice CB i cd) i (List.replicate i (.slice A6 10 k6)) ∧ Below w6.heap.size w6 wr)) (fun _ t _ => n - (intOf t).toNat)
    case atStart => exact ⟨0, none, 0, by omega, rfl, rfl, Lib.hid ⟨World.ownsRow_nil _ _ _ _, Below.refl _ _⟩⟩
    case round =>
      rename World => wr
      obtain ⟨i, CB, cd, hi, rfl, rfl, HI⟩ := hrel
      have m1 : IntKind.i64.wrap ((i : Int) + 1) = (i : Int) + 1 := by rw [IntWalk.i64_in _ (by omega)]
      by_cases hin : i < n
      · have p3 : decide ((i : Int) < (n : Int)) = true := decide_eq_true (by omega)
        obtain ⟨v1, w3, hrun, hown, hg3⟩ := run_apC (W := wr.alloc (.cells #[.slice A6 10 k6] 36)) (B := ⟨wr.heap.size, 0, none⟩) (HI.out.1.alloc _) (cell_top rfl rfl) (by omega) (by have := HI.out.2.size; simp; omega)
        have b3 : Below w6.heap.size w6 w3 := (HI.out.2.alloc HI.out.2.size _).grown hg3 (by have := HI.out.2.size; simp; omega) (fun k hk => own_base HI.out.1 k hk)
        obtain ⟨CB1, cd1, rfl⟩ := own_form' hown
        rw [← List.replicate_succ'] at hown
        have H3 := Lib.hid (And.intro hown b3)
        clear hown b3 hg3
        go_wp2_with (at_builtin; refine wpList_append_run _ rfl (.tmp 53) (.tmp 55) 23 rfl _ _ _ _ rfl rfl hrun ?_; clear hrun)
        exact ⟨⟨i + 1, CB1, cd1, by omega, by simp, rfl, H3⟩, by simp [intOf]; omega⟩
      · obtain rfl : i = n := by omega
        have p3 : decide ((i : Int) < (i : Int)) = false := decide_eq_false (by omega)
        go_wp2_with fail
        go_meet
        case rel =>
          obtain ⟨CB1, cd1, e, h1, h2⟩ := own_readsC (l := codeL k) HI.out.1 (keepC H6.out.2.2 (Nat.le_refl _) HI.out.2) H6.out.2.1
          injection e with e1 e2 e3
          subst e1 e3
          exact ⟨CB, cd, rfl, Lib.hid ⟨h1, h2, HI.out.2⟩⟩
  case rest =>
  rename World => w7
  obtain ⟨CB, cd, rfl, H7⟩ := hcut
  go_upto_region 16 with (fail)
  obtain ⟨g8, hg8⟩ : ∃ g8, w7.heap.size = g8 := ⟨_, rfl⟩
  obtain ⟨W8, hW8⟩ : ∃ W8, w7.alloc (.cells #[] 3) = W8 := ⟨_, rfl⟩
  have b8 : Below w7.heap.size w7 W8 := by rw [← hW8]; exact (Below.refl _ w7).alloc (Nat.le_refl _) _
  have b7 := H6.out.1.trans (H7.out.2.2.mono H6.out.1.size)
  have b8w := b7.trans (b8.mono b7.size)
  have o8 : W8.ownsRow w7.heap.size 3 1 (.slice (some ⟨g8, 0, none⟩) 0 0) 0 [] := own_lit (cs := #[]) (by rw [← hW8, ← hg8]; exact heap_alloc_new w7 _) (by omega) rfl rfl (by decide)
  obtain ⟨v9, w9, hrun, o9, gr9⟩ := run_copyN (p := p) o8 (keepC HP.out.1 (Nat.le_refl _) b8w) (by omega) b8.size HP.out.2.2.2
  have b9 := b8.grown gr9 b8.size (fun k hk => by injection hk with hk; omega)
  obtain ⟨A9, k9, rfl⟩ := own_form' o9
  have H9 := Lib.hid (And.intro (show OwnN w9 w7.heap.size picks.length (.slice A9 picks.length k9) (picks ++ upL 0) from ⟨by simp [upL], by simpa [upL] using o9⟩) (And.intro b9 b7))
  have H8 := Lib.hid (And.intro hW8 hg8)
  clear hW8 hg8 b8 b7 b8w o8 o9 gr9 b9
  go_upto_block 2 with (first | (rw [H8.out.1, H8.out.2]) | (at_builtin; refine wpList_append_run _ rfl (.tmp 57) (.tmp 58) 24 rfl _ _ _ _ rfl rfl hrun ?_; clear hrun))
  go_cut [11] from 60 to 67 (fun v wc => ∃ PB q pd, v = .slice PB q pd ∧ Hid (OwnN wc w7.heap.size q v (picks ++ upL 700) ∧ Below w7.heap.size w7 wc))
  case first =>
    go_wp2_with fail
    go_loopw [11, 12] (fun v t wr => ∃ (i : Nat) (PB : Option Addr) (q pd : Nat), i ≤ 700 ∧ t = .int .i64 (i : Int) ∧ v = .slice PB q pd ∧ Hid (OwnN wr w7.heap.size q (.slice PB q pd) (picks ++ upL i) ∧ Below w7.heap.size w7 wr)) (fun _ t _ => 700 - (intOf t).toNat)
    case atStart => exact ⟨0, A9, _, k9, by omega, rfl, rfl, Lib.hid ⟨H9.out.1, H9.out.2.1⟩⟩
    case round =>
      rename World => wr
      obtain ⟨i, PB, q, pd, hi, rfl, rfl, HI⟩ := hrel
      have m1 : IntKind.i64.wrap ((i : Int) + 1) = (i : Int) + 1 := by rw [IntWalk.i64_in _ (by omega)]
      by_cases hin : i < 700
      · have p3 : decide ((i : Int) < 700) = true := decide_eq_true (by omega)
        obtain ⟨q1, PB1, pd1, w3, hrun, hown, hg3⟩ := OwnN.push (W := wr.alloc (.cells #[.int .i64 (i : Int)] 3)) (B := ⟨wr.heap.size, 0, none⟩) (x := (i : Int)) ⟨HI.out.1.1, HI.out.1.2.alloc _⟩ (cell_top rfl rfl) (by have := HI.out.1.1; rw [List.length_append, upL_len] at this; omega) (by have := HI.out.2.size; simp; omega)
        have b3 : Below w7.heap.size w7 w3 := (HI.out.2.alloc HI.out.2.size _).grown hg3 (by have := HI.out.2.size; simp; omega) (fun k hk => own_base HI.out.1.2 k hk)
        rw [List.append_assoc, ← upL_succ] at hown
        have H3 := Lib.hid (And.intro hown b3)
        clear hown b3 hg3
        go_wp2_with (at_builtin; refine wpList_append_run _ rfl (.tmp 64) (.tmp 66) 24 rfl _ _ _ _ rfl rfl hrun ?_; clear hrun)
        exact ⟨⟨i + 1, PB1, q1, pd1, by omega, by simp, rfl, H3⟩, by simp [intOf]; omega⟩
      · obtain rfl : i = 700 := by omega
        have p3 : decide (((700 : Nat) : Int) < 700) = false := decide_eq_false (by omega)
        go_wp2_with fail
        go_meet
        case rel => exact ⟨PB, q, pd, rfl, HI⟩
  case rest =>
  rename World => w11
  obtain ⟨PB, q, pd, rfl, H11⟩ := hcut
  have hq := H11.out.1.1
  have R11 := H11.out.1.reads
  have C7 := keepC H7.out.2.1 (Nat.le_refl _) H11.out.2
  have hem : ∀ kk, (loopW 0 (D0 (List.replicate n (codeL k)) []) ((picks ++ upL 700).take kk)).1.emits = [] := fun kk => locks_emits hn8 (by omega) _
  have hcall := run_w CB cd (List.replicate n (codeL k)) none 0 [] PB pd (picks ++ upL 700) w11 (by simpa using C7) (by simpa using H7.out.1) ⟨rfl, by decide, fun h => absurd h (by decide)⟩ (by decide) (hq ▸ R11.2) (hq ▸ R11.1) (fun kk => by rw [hem kk]; simp) (fun x hx => by
    rcases List.mem_append.1 hx with hx | hx
    · have := HPR.out x hx; unfold In64 at this; omega
    · exact upL_in (by omega) x hx)
  rw [List.length_replicate, ← hq] at hcall
  have HC := Lib.hid hcall
  have HQ := Lib.hid hq
  clear hcall hq R11 C7 hem
  go_wp2_with fail
  refine HC.out.mono ?_
  rintro e w12 HR
  obtain ⟨A0, l0, j0, A1, l1, j1, A2, l2, j2, sa, ea, rfl, b12, G1⟩ := run_got HR
  clear HR HC
  rcases G1 with ⟨h, _⟩ | ⟨_, rfl, R, kk, hl, rfl, g, Ae, ce, As, cs, e1, e2, e3, h1, h2, h3⟩
  · exact absurd ((okB_rep (codeB_L k) hn8).symm.trans h) (by decide)
  obtain ⟨l1', l2', l3', l4', l5'⟩ := locks hn1 hn8 (k := (k : Int)) (by omega) (by rw [List.length_append, upL_len]; omega) hl
  injection e1 with e11 e12 e13
  injection e2 with e21 e22 e23
  injection e3 with e31 e32 e33
  subst e11 e12 e13 e21 e22 e23 e31 e32 e33
  rw [l1'] at h3 ⊢
  rw [l5'] at ⊢
  rw [l4']
  have H12 := Lib.hid (And.intro b12 (And.intro h1 (And.intro h3 (And.intro l2' l3'))))
  clear l1' l2' l3' l4' l5' h1 h2 h3 hl b12
  obtain ⟨n2, hn2⟩ : ∃ n2, w12.heap.size = n2 := ⟨_, rfl⟩
  obtain ⟨W3, hW3⟩ : ∃ W3, w12.alloc (.cells #[.slice none 0 0, .slice none 0 0, .slice none 0 0, .int .i64 0] 27) = W3 := ⟨_, rfl⟩
  have r3 := (run_put (a := nilS) (b := nilS) (c := nilS) (s := 0) hn2 hW3 rfl).1
  have H3 := Lib.hid hn2
  have HW3 := Lib.hid hW3
  obtain ⟨x0, x1, x2, x3⟩ := r3.cells
  have f0 := r3.frozen 0
  have f1 := r3.frozen 1
  have f2 := r3.frozen 2
  have f3 := r3.frozen 3
  clear hn2 hW3 r3
  go_upto_region 22 with (first | rw [HW3.out, H3.out])
  generalize hW4 : World.setCell (World.setCell (World.setCell (World.setCell W3 _ _) _ _) _ _) _ _ = W4
  obtain ⟨_, q1, q2⟩ := run_put H3.out HW3.out hW4
  have c0 := keepC H12.out.2.1 (Nat.le_refl _) q2
  have c1 := keepC H12.out.2.2.1 (Nat.le_refl _) q2
  have bF := (H9.out.2.2.trans (H11.out.2.mono H9.out.2.2.size)).trans ((H12.out.1.trans (q2.mono H12.out.1.size)).mono (H9.out.2.2.trans (H11.out.2.mono H9.out.2.2.size)).size)
  have H4 := Lib.hid (And.intro q1 (And.intro c0 (And.intro c1 bF)))
  clear hW4 x0 x1 x2 x3 f0 f1 f2 f3 HW3 H3 q1 q2 c0 c1 bF
  obtain ⟨x0, x1, x2, x3⟩ := H4.out.1.cells
  go_upto_block 4 with fail
  have HX := Lib.hid (And.intro x0 (And.intro x2 x3))
  clear x0 x1 x2 x3
  go_cut [] from 89 to 99 (fun wc => Hid (Below W4.heap.size W4 wc))
  case first =>
    go_wp2_with fail
    go_loopw [15] (fun t wr => ∃ (i : Nat), i ≤ n ∧ t = .int .i64 (i : Int) ∧ Hid (Below W4.heap.size W4 wr)) (fun t _ => n - (intOf t).toNat)
    case atStart => exact ⟨0, by omega, rfl, Lib.hid (Below.refl _ _)⟩
    case round =>
      rename World => wr
      obtain ⟨i, hi, rfl, HI⟩ := hrel
      have m1 : IntKind.i64.wrap ((i : Int) + 1) = (i : Int) + 1 := by rw [IntWalk.i64_in _ (by omega)]
      by_cases hin : i < n
      · have p3 : decide ((i : Int) < (n : Int)) = true := decide_eq_true (by omega)
        obtain ⟨ad, rfl, c2⟩ := at_int (keepC H4.out.2.2.1 (Nat.le_refl _) HI.out) hin
        rw [H12.out.2.2.2.1 i hin] at c2
        have x2 := cell_up' HX.out.2.1 HI.out
        have p0 : (0 ≤ (i : Int)) = True := by simp
        have p4 : ((i : Int) < (n : Int)) = True := eq_true (by omega)
        have p5 : (i < n) = True := eq_true hin
        go_wp2_with (go_quiet (fail))
        exact ⟨⟨i + 1, by omega, by simp, HI⟩, by simp [intOf]; omega⟩
      · obtain rfl : i = n := by omega
        have p3 : decide ((i : Int) < (i : Int)) = false := decide_eq_false (by omega)
        go_wp2_with fail
        go_meet
        case rel => exact HI
  case rest =>
  rename World => w20
  have x0 := cell_up' HX.out.1 hcut.out
  have x3 := cell_up' HX.out.2.2 hcut.out
  obtain ⟨ad, e0, c0⟩ := at_int (keepC H4.out.2.1 (Nat.le_refl _) hcut.out) (i := 0) (by decide)
  injection e0 with e0
  subst e0
  rw [H12.out.2.2.2.2, add_off] at c0
  have hnk : (n : Int) * k ≤ 72 ∧ 0 ≤ (n : Int) * k := by
    have h1 : (n : Int) * k ≤ 8 * k := Int.mul_le_mul_of_nonneg_right (by omega) (by omega)
    have h2 : 0 ≤ (n : Int) * k := Int.mul_nonneg (by omega) (by omega)
    omega
  have hn8k : (n : Int) * (1 + 8 * k) ≤ 584 ∧ 0 ≤ (n : Int) * (1 + 8 * k) := by
    have h1 : (n : Int) * (1 + 8 * k) ≤ 8 * (1 + 8 * k) := Int.mul_le_mul_of_nonneg_right (by omega) (by omega)
    have h2 : 0 ≤ (n : Int) * (1 + 8 * k) := Int.mul_nonneg (by omega) (by omega)
    omega
  have m1 : IntKind.i64.wrap ((n : Int) * (k : Int)) = (n : Int) * k := by rw [IntWalk.i64_in _ (by omega)]
  have m2 : IntKind.i64.wrap ((n : Int) * (1 + 8 * (k : Int))) = (n : Int) * (1 + 8 * k) := by rw [IntWalk.i64_in _ (by omega)]
  have HF := Lib.hid (H4.out.2.2.2.trans (hcut.out.mono H4.out.2.2.2.size))
  clear hnk hn8k
  go_wp2_with (go_quiet (fail))
  go_ret
  exact ⟨rfl, HF.out⟩
end Go.Proofs.Ytkcjghdopmigoaa.SC
