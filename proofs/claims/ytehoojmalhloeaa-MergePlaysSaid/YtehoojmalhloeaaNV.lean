/- merge: all entries as the document lists them; its New. -/
import Derived.Test.YtehoojmalhloeaaNU
import Derived.Test.YtehoojmalhloeaaDP
namespace Go.Proofs.Ytehoojmalhloeaa.CM
open Go.RowKit Go.Proofs.YtehoojmalhloeaaW.PrintWords
set_option linter.unusedVariables false
set_option linter.unusedSimpArgs false
set_option maxRecDepth 100000

/-- The places, as a list. -/
def atsL (s : Sh) (p : Nat) : List Nat := (List.range s.n).map (ats s p)
theorem atsL_len (s : Sh) (p : Nat) : (atsL s p).length = s.L.length := by simp [atsL]
theorem atsL_get {s : Sh} {p j : Nat} (h : j < s.n) : (atsL s p).getD j 0 = ats s p j := by simp [atsL, List.getD_eq_getElem?_getD, h]
theorem rsOf_drop_end (ls : List (List PC.S44)) (a : List Nat) (h : a.length = ls.length) : (rsOf ls a).drop ls.length = [] := by
  rw [List.drop_eq_nil_iff, rsOf_len ls a h]
  exact Nat.le_refl _
/-- Both find the same list. -/
theorem bst_head (s : Sh) (p : Nat) : bst 0 none (rsOf s.L (atsL s p)) = (who s p).map (fun i => (i, s.e i (ats s p i))) := by
  have hl := atsL_len s p
  have key : ∀ k, k ≤ s.n → bst 0 none (rsOf s.L (atsL s p)) = bst k ((headK s (ats s p) k).map (fun i => (i, s.e i (ats s p i)))) ((rsOf s.L (atsL s p)).drop k) := by
    intro k
    induction k with
    | zero => intro _; rfl
    | succ k ih =>
      intro hk
      have hk' : k < s.L.length := hk
      rw [ih (by omega), rsOf_get _ _ hl k hk', atsL_get hk]
      have hsl : s.L.getD k [] = s.l k := rfl
      rw [hsl]
      obtain ⟨f, hf⟩ : ∃ f, ats s p = f := ⟨_, rfl⟩
      rw [hf]
      have eh : headK s f (k + 1) = if f k < (s.l k).length then (match headK s f k with
        | none => some k
        | some b => if s.less f k b = true then some k else some b) else headK s f k := rfl
      rw [eh]
      by_cases ho : f k < (s.l k).length
      · have hd : (s.l k).drop (f k) = s.e k (f k) :: (s.l k).drop (f k + 1) := getD_drop' _ _ ho
        rw [hd, if_pos ho]
        have hsp := headK_spec s f k
        cases hh : headK s f k with
        | none => rfl
        | some b =>
          rcases hsp with h | ⟨b', h1, h2, h3⟩
          · rw [hh] at h; cases h.1
          · rw [hh] at h1
            cases h1
            have hl2 : s.less f k b = decide (cmpK (s.e k (f k)).f0 (s.e b (f b)).f0 < 0) := by
              unfold Sh.less Sh.key
              rw [show decide (k < b) = false from decide_eq_false (by omega), Bool.and_false, Bool.or_false]
              rfl
            show bst (k + 1) (if cmpK (s.e k (f k)).f0 (s.e b (f b)).f0 < 0 then _ else _) _ = _
            simp only [hl2]
            by_cases hc : cmpK (s.e k (f k)).f0 (s.e b (f b)).f0 < 0
            · rw [if_pos hc]; simp only [decide_eq_true hc, if_true]; rfl
            · rw [if_neg hc]; simp only [decide_eq_false hc]; rfl
      · rw [if_neg ho, List.drop_eq_nil_of_le (by omega)]
        rfl
  rw [key s.n (Nat.le_refl _), rsOf_drop_end _ _ hl]
  unfold who
  cases headK s (ats s p) s.n <;> rfl
theorem rsOf_end (s : Sh) : bst 0 none (rsOf s.L (atsL s s.N)) = none := by rw [bst_head, who_end]; rfl
theorem atsL_succ {s : Sh} {p i : Nat} (h : who s p = some i) : atsL s (p + 1) = (atsL s p).set i ((atsL s p).getD i 0 + 1) := by
  have hi := (who_some h).1
  rw [atsL_get hi]
  apply List.ext_getElem?
  intro j
  rw [List.getElem?_set]
  by_cases hj : j < s.n
  · simp only [atsL, List.getElem?_map, List.getElem?_range, hj, List.length_map, List.length_range]
    rw [ats_some h]
    by_cases e : i = j
    · subst e; simp [upd_same, hj]
    · rw [if_neg e]; simp [upd_ne (Ne.symm e), hj]
  · by_cases e : i = j
    · omega
    · rw [if_neg e]; simp [atsL, hj]
theorem allS_upto (s : Sh) : ∀ m p, m + p = s.N → upto s p ++ allS m (rsOf s.L (atsL s p)) = upto s s.N
  | 0, p, h => by
    have : p = s.N := by omega
    subst this
    simp [allS]
  | m + 1, p, h => by
    obtain ⟨i, hi⟩ := who_lt (show p < s.N by omega)
    have ih := allS_upto s m (p + 1) (by omega)
    rw [upto_succ, atsL_succ hi, rsOf_set _ _ (atsL_len s p) i (who_some hi).1] at ih
    rw [← ih]
    have e : allS (m + 1) (rsOf s.L (atsL s p)) = s.e i (ats s p i) :: allS m ((rsOf s.L (atsL s p)).modify i List.tail) := by
      show (match bst 0 none (rsOf s.L (atsL s p)) with
        | none => []
        | some (j, x) => x :: allS m ((rsOf s.L (atsL s p)).modify j List.tail)) = _
      rw [bst_head, hi]
      rfl
    rw [e, itm_some hi]
    simp
theorem len_flat : ∀ L : List (List PC.S44), L.flatten.length = tot (fun j => (L.getD j []).length) L.length := by
  intro L
  have key : ∀ k, k ≤ L.length → (L.take k).flatten.length = tot (fun j => (L.getD j []).length) k := by
    intro k
    induction k with
    | zero => intro _; rfl
    | succ k ih =>
      intro hk
      have hk' : k < L.length := hk
      rw [List.take_add_one, List.getElem?_eq_getElem hk', List.flatten_append, List.length_append, ih (by omega)]
      show _ = _ + (L.getD k []).length
      simp [hk']
  have := key L.length (Nat.le_refl _)
  rwa [List.take_length] at this
theorem allL_upto (s : Sh) : allL s.L = upto s s.N := by
  have h0 : rsOf s.L (atsL s 0) = s.L := by
    have : atsL s 0 = List.replicate s.L.length 0 := by
      unfold atsL
      have : ats s 0 = fun _ => 0 := rfl
      rw [this]
      simp [List.map_const']
    rw [this, rsOf_zero]
  have hN : s.L.flatten.length = s.N := len_flat s.L
  have := allS_upto s s.N 0 rfl
  rw [h0] at this
  unfold allL
  rw [hN]
  simpa [upto] using this

def RefEnd (D : List (List PC.S44)) (w : World) (e : Ending) (w' : World) : Prop :=
  (e = .returned (.tuple #[.pointer none, .int .i64 160]) ∧ (∃ j, j < D.length ∧ risesB (D.getD j []) = false) ∧ Below w.heap.size w w') ∨
    ∃ Rb LA cp, e = .returned (.tuple #[.pointer (some ⟨Rb, 0, none⟩), .int .i64 0]) ∧ (∀ j, j < D.length → risesB (D.getD j []) = true) ∧ Rf w' Rb LA cp (allL D) (-1) ∧ Below w.heap.size w w' ∧ w.heap.size ≤ Rb ∧ ∀ a, LA = some a → w.heap.size ≤ a.block ∧ a.block < w'.heap.size
set_option maxHeartbeats 4000000 in
theorem refnew_w (A : Option Addr) (c : Nat) (D : List (List PC.S44)) (w : World) (hr : Kd.C (Kd.slice 44 PC.k44) w A D.length D) (hc : D.length ≤ c) (hn : D.length ≤ 40) (hl : ∀ j, (D.getD j []).length ≤ 200) :
    Calls Try.prog 43 #[.slice A D.length c] w (RefEnd D w) := by
  have HR := Lib.hid (And.intro hr hl)
  have hflat : D.flatten.length ≤ 8000 := by
    rw [len_flat]
    have := tot_bound (fun j => (D.getD j []).length) 200 D.length (fun j _ => hl j)
    omega
  have hAll := All_f D 1000000 (by omega) (by omega) (by
    have : (D.flatten.length + 1) * (D.length + 2) ≤ 8001 * 42 := Nat.mul_le_mul (by omega) (by omega)
    omega)
  have HAll := Lib.hid hAll
  have HF := Lib.hid hflat
  clear hr hl hAll hflat
  go_enter Try.func43, Try.ntmps43
  go_wp2_with fail
  go_loopw [4] (fun t wr => ∃ i : Nat, i ≤ D.length ∧ t = .int .i64 (i : Int) ∧ Hid ((∀ j, j < i → risesB (D.getD j []) = true) ∧ Below w.heap.size w wr)) (fun t _ => D.length - (intOf t).toNat)
  case atStart => exact ⟨0, by omega, rfl, Lib.hid ⟨fun j h => by omega, Below.refl _ _⟩⟩
  case round =>
    obtain ⟨i, hi, rfl, HI⟩ := hrel
    have m1 : IntKind.i64.wrap ((i : Int) + 1) = (i : Int) + 1 := by rw [IntWalk.i64_in _ (by omega)]
    by_cases hlt : i < D.length
    · have hltz : (i : Int) < D.length := by omega
      obtain ⟨ad, A0, c0, e0, g0, g1, g2⟩ := PC.at_L6 (keepC HR.out.1 (Nat.le_refl _) HI.out.2) (i : Int) (by omega) (by omega)
      subst e0
      obtain ⟨l, hlD⟩ : ∃ l, PC.rd_L6 D (i : Int) = l := ⟨_, rfl⟩
      rw [hlD] at g0 g1 g2
      simp only [Int.toNat_natCast] at g0
      have hlD' : D.getD i [] = l := by rw [← hlD]; simp [PC.rd_L6]
      have hll : l.length ≤ 200 := by rw [← hlD']; exact HR.out.2 i
      have HC := Lib.hid (And.intro hlD' (PC.staddleref16_Rises.calls 1000 A0 c0 l _ wr g2 g1 (Rises_f l 1000 (by omega) (by omega))))
      have p0 : ((i : Int) < D.length) = True := eq_true hltz
      have p1 : (0 ≤ (i : Int)) = True := by simp
      have p2 : (i < D.length) = True := eq_true hlt
      clear hlD hlD' hll g1 g2
      go_wp2_with fail
      refine HC.out.2.mono ?_
      rintro e w1 ⟨rfl, b⟩
      have HB := Lib.hid (HI.out.2.trans (b.mono HI.out.2.size))
      clear b
      cases hri : risesB l
      · go_wp2_with fail
        go_ret2
        exact .inl ⟨rfl, ⟨i, hlt, by rw [HC.out.1]; exact hri⟩, HB.out⟩
      · go_wp2_with fail
        go_roundw
        case rel => exact ⟨i + 1, by omega, by simp, Lib.hid ⟨fun j hj => by
          rcases Nat.lt_succ_iff_lt_or_eq.1 hj with h | rfl
          · exact HI.out.1 j h
          · rw [HC.out.1]; exact hri, HB.out⟩⟩
        case measure => simp [intOf]; omega
    · obtain rfl : i = D.length := by omega
      have hltz : decide ((D.length : Int) < (D.length : Int)) = false := decide_eq_false (by omega)
      go_wp2_with fail
      refine (PC.staddleref16_All.calls 1000000 A c D (allL D) wr (keepC HR.out.1 (Nat.le_refl _) HI.out.2) hc HAll.out).mono ?_
      rintro e w1 ⟨v, rfl, hR, b⟩
      obtain ⟨LA, cp, hv, hle, hC⟩ := Kd.R_reads hR
      have hlt1 := Kd.R_lt hR
      have hba1 := Kd.R_base hR
      subst hv
      have hlen : (allL D).length ≤ 8000 := by rw [(allL_perm D).length_eq]; exact HF.out
      obtain ⟨W2, hW2⟩ : ∃ W2, w1.alloc (.cells #[.slice LA (allL D).length cp, .int .i64 (-1)] 118) = W2 := ⟨_, rfl⟩
      have bl : Below w1.heap.size w1 W2 := by rw [← hW2]; exact (Below.refl _ _).alloc (Nat.le_refl _) _
      have bs : w1.heap.size < W2.heap.size := by rw [← hW2]; simp
      have kk : W2.heap[w1.heap.size]? = some (.cells #[.slice LA (allL D).length cp, .int .i64 (-1)] 118) := by rw [← hW2]; exact World.alloc_heap_new w1 _
      have HZ := Lib.hid (show Rf W2 w1.heap.size LA cp (allL D) (-1) ∧ Below w.heap.size w W2 ∧ w.heap.size ≤ w1.heap.size ∧ ∀ a, LA = some a → w.heap.size ≤ a.block ∧ a.block < W2.heap.size from by
        have hs1 := HI.out.2.size
        refine ⟨⟨kk, Ents.of_C (keepC hC (Nat.le_refl _) bl), fun a e h => ?_, by omega⟩, HI.out.2.trans ((b.trans (bl.mono b.size)).mono hs1), by have := b.size; omega, fun a e => ?_⟩
        · have := hlt1 a.block (by rw [e]; rfl); omega
        · have h1 := hlt1 a.block (by rw [e]; rfl)
          have h2 := hba1 a.block (by rw [e]; rfl)
          exact ⟨by omega, by omega⟩)
      clear hR hC hle hlt1 hba1 hlen bl bs kk b
      go_wp2_with (first | rw [hW2])
      go_ret2
      exact .inr ⟨w1.heap.size, LA, cp, rfl, HI.out.1, HZ.out⟩
end Go.Proofs.Ytehoojmalhloeaa.CM
