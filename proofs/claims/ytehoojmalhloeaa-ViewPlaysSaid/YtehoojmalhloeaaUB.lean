/- view: a way to go; where one is then, by both; ways as they are given. -/
import Derived.Test.YtehoojmalhloeaaUA
namespace Go.Proofs.Ytehoojmalhloeaa.CM
open Go.RowKit Go.ChangeShapes Go.WideShapes Go.Proofs.YtehoojmalhloeaaW.PrintWords
set_option linter.unusedVariables false
set_option linter.unusedSimpArgs false
set_option maxRecDepth 100000

structure S92 where
  kind : Int
  u : ByteArray
def z92 : S92 := ⟨0, ⟨#[]⟩⟩
def k92 : Kd S92 := Kd.iso (Kd.pair (Kd.int .i64) Kd.string) (fun x : S92 => (x.kind, x.u))
theorem k92_open {w : World} {x : S92} {cs : List Value} (h : k92.K w x cs) : cs = [.int .i64 x.kind, .string x.u] := by
  obtain ⟨_, _, rfl, rfl, rfl⟩ := h
  exact rfl
theorem k92_mk (w : World) (x : S92) : k92.K w x [.int .i64 x.kind, .string x.u] := ⟨[.int .i64 x.kind], [.string x.u], rfl, rfl, rfl⟩
theorem at92 {w : World} {A : Option Addr} {n : Nat} {xs : List S92} (h : Kd.C k92 w A n xs) (i : Nat) (hi : i < n) : ∃ ad, A = some ad ∧ w.cell? (ad.add (i * 2)) = some (.int .i64 (xs.getD i z92).kind) ∧ w.cell? ⟨(ad.add (i * 2)).block, (ad.add (i * 2)).off + 1, none⟩ = some (.string (xs.getD i z92).u) := by
  obtain ⟨ad, c, e, _, hK, hc0⟩ := Kd.C_get h z92 (i : Int) (by omega) (by omega)
  have hc : ∀ j u, c[j]? = some u → w.cell? (ad.add (i * 2 + j)) = some u := hc0
  obtain rfl := k92_open hK
  exact ⟨ad, e, hc 0 _ rfl, by rw [← add_field _ _ 1 (by omega)]; exact hc 1 _ rfl⟩
section
variable {H : Type} {enc : TypeId × Value → H} {w : World} {base : Nat} {spare : Nat → Bool} {held : Bool}
theorem way2_form {fuel : Nat} {cs : List Value} {x : DataW H × List MemPlace} (h : DataW.trod enc Try.prog w base spare held fuel 92 cs = some x) (hl : Light 92 x.1) : ∃ y : S92, k92.K w y cs ∧ True := by
  obtain ⟨xs, n, _, hx, hcl, hlen, hf⟩ := DataW.trod_struct Try.underlying92 h
  have e92 : Try.prog.cellsOf 92 = 2 := by kernel_rfl
  have e9 : Try.prog.cellsOf 9 = 1 := by kernel_rfl
  have e3 : Try.prog.cellsOf 3 = 1 := by kernel_rfl
  rw [e92] at hcl
  match cs, hcl, xs, hlen with
  | [c0, c1], _, [y0, y1], _ =>
    have h0 := field_at hf 0 3 0 1 rfl e3
    have h1 := field_at hf 1 9 1 1 rfl e9
    simp only [List.drop, List.take, List.getElem?_cons_zero, List.getElem?_cons_succ] at h0 h1
    obtain ⟨s, hs, hd⟩ := DataW.trod_string Try.underlying9 h1
    obtain ⟨b, hb, _, wb⟩ := DataW.trod_int Try.underlying3 h0
    simp only [List.cons.injEq, and_true] at hs hb
    subst hs hb
    exact ⟨⟨b, s⟩, k92_mk w ⟨b, s⟩, trivial⟩
theorem ways2_form {fuel : Nat} {v : Value} {x : DataW H × List MemPlace} (h : DataW.trod enc Try.prog w base spare held fuel 86 [v] = some x) (hl : Light 86 x.1) :
    ∃ A len cap xs, v = .slice A len cap ∧ Kd.C k92 w A len xs ∧ len ≤ cap ∧ len * 24 ≤ 140737488351232 ∧ (∀ p ∈ xs, True) ∧ (A = none → cap = 0) :=
  slice_form z92 k92 (fun _ => True) Try.underlying86 (by kernel_rfl) (by kernel_rfl) (fun _ _ _ hy hl => way2_form hy hl) h hl
end

/-- What is at a place. -/
def hereP (Q : List PC.S76) (p : Option Nat) : Option PC.S76 := p.bind (fun k => Q[k]?)
def plcP (Q : List PC.S76) (i : Nat) : Option Nat := if i < Q.length then some i else none
def prvP : Nat → Option Nat
  | 0 => none
  | k + 1 => some k
def goP (Q : List PC.S76) (kind : Int) (u : ByteArray) (p : Option Nat) : Option Nat :=
  if kind = 1 then plcP Q 0 else if kind = 2 then prvP Q.length else if kind = 3 then plcP Q (rnk Q u.toList) else if kind = 4 then p.bind (fun k => plcP Q (k + 1)) else if kind = 5 then p.bind prvP else p
def atP : Option Nat → Int
  | none => -1
  | some p => (p : Int)
theorem here_plc (Q : List PC.S76) (i : Nat) : hereP Q (plcP Q i) = Q[i]? := by
  unfold plcP hereP
  by_cases h : i < Q.length
  · rw [if_pos h]; rfl
  · rw [if_neg h, List.getElem?_eq_none (by omega)]; rfl
theorem here_prv (Q : List PC.S76) (k : Nat) : hereP Q (prvP k) = prvI Q k := by
  cases k <;> rfl
theorem plc_atP (Q : List PC.S76) (i : Nat) : atP (plcP Q i) = if (Q.length : Int) ≤ (i : Int) then -1 else (i : Int) := by
  unfold plcP
  by_cases h : i < Q.length
  · rw [if_pos h, if_neg (by omega)]; rfl
  · rw [if_neg h, if_pos (by omega)]; rfl
theorem refGo_atP {Q : List PC.S76} {kind : Int} {u : ByteArray} {p : Option Nat} (h1 : 1 ≤ kind) (h5 : kind ≤ 5) (hp : ∀ k, p = some k → k < Q.length) : refGo2 Q kind u (atP p) = atP (goP Q kind u p) := by
  have hk : kind = 1 ∨ kind = 2 ∨ kind = 3 ∨ kind = 4 ∨ kind = 5 := by omega
  unfold refGo2 refT2 goP
  rcases hk with rfl | rfl | rfl | rfl | rfl
  · simp only [if_true]
    exact (plc_atP Q 0).symm
  · simp only [if_true, show ((2 : Int) = 1) = False by simp, if_false]
    cases hN : Q.length with
    | zero => rfl
    | succ m =>
      rw [if_neg (by omega)]
      show ((m + 1 : Nat) : Int) - 1 = (m : Int)
      omega
  · simp only [if_true, show ((3 : Int) = 1) = False by simp, show ((3 : Int) = 2) = False by simp, if_false]
    exact (plc_atP Q _).symm
  · simp only [if_true, show ((4 : Int) = 1) = False by simp, show ((4 : Int) = 2) = False by simp, show ((4 : Int) = 3) = False by simp, if_false]
    cases p with
    | none =>
      rw [if_neg (show ¬ (0 ≤ atP none) from by decide), if_neg (show ¬ ((Q.length : Int) ≤ atP none) from by show ¬ ((Q.length : Int) ≤ -1); omega)]
      rfl
    | some p =>
      have := hp p rfl
      rw [if_pos (show 0 ≤ atP (some p) from by show (0 : Int) ≤ (p : Int); omega)]
      exact (plc_atP Q (p + 1)).symm
  · simp only [if_true, show ((5 : Int) = 1) = False by simp, show ((5 : Int) = 2) = False by simp, show ((5 : Int) = 3) = False by simp, show ((5 : Int) = 4) = False by simp, if_false]
    cases p with
    | none =>
      rw [if_neg (show ¬ (0 ≤ atP none) from by decide), if_neg (show ¬ ((Q.length : Int) ≤ atP none) from by show ¬ ((Q.length : Int) ≤ -1); omega)]
      rfl
    | some p =>
      have := hp p rfl
      rw [if_pos (show 0 ≤ atP (some p) from by show (0 : Int) ≤ (p : Int); omega)]
      rw [if_neg (show ¬ ((Q.length : Int) ≤ atP (some p) - 1) from by show ¬ ((Q.length : Int) ≤ (p : Int) - 1); omega)]
      cases p with
      | zero => rfl
      | succ p => show ((p + 1 : Nat) : Int) - 1 = (p : Int); omega
theorem goP_lt {Q : List PC.S76} {kind : Int} {u : ByteArray} {p : Option Nat} (hp : ∀ k, p = some k → k < Q.length) : ∀ k, goP Q kind u p = some k → k < Q.length := by
  have hpl : ∀ i k, plcP Q i = some k → k < Q.length := fun i k h => by
    unfold plcP at h
    split at h
    · cases h; assumption
    · cases h
  have hpr : ∀ m, m ≤ Q.length → ∀ k, prvP m = some k → k < Q.length := fun m hm k h => by
    cases m with
    | zero => cases h
    | succ m =>
      have h : some m = some k := h
      cases h
      omega
  intro k h
  unfold goP at h
  split at h
  · exact hpl _ _ h
  · split at h
    · exact hpr _ (Nat.le_refl _) _ h
    · split at h
      · exact hpl _ _ h
      · split at h
        · cases p with
          | none => cases h
          | some m => exact hpl _ _ h
        · split at h
          · cases p with
            | none => cases h
            | some m => exact hpr _ (Nat.le_of_lt (hp m rfl)) _ h
          · exact hp _ h
theorem VGo.back {w w0 w1 : World} {V X : Nat} {s : Sh} {seq : Int} {G : Nat → Prop} {here : Option PC.S76} (h : VGo w0 V X s seq G here w1) (hb : Below w.heap.size w w0) : VGo w V X s seq G here w1 := by
  obtain ⟨G', h1, h2, h3⟩ := h
  refine ⟨G', h1, (Fr.of_below (O := G) hb).trans h2 (fun _ _ h => h), fun b hF => ?_⟩
  rcases h3 b hF with h4 | h4
  · exact .inl h4
  · have := hb.size; exact .inr ⟨by omega, h4.2⟩
set_option maxHeartbeats 8000000 in
theorem vgone_w {w : World} {V X : Nat} {s : Sh} {seq : Int} {G : Nat → Prop} {p : Option Nat} (h : Vi w V X s seq (hereP (seen s seq) p) G) (hk : ∀ x ∈ upto s s.N, FK x) (hp : ∀ k, p = some k → k < (seen s seq).length) (kind : Int) (u : ByteArray) :
    Calls Try.prog 59 #[.pointer (some ⟨V, 0, none⟩), .agg #[.int .i64 kind, .string u]] w (fun e w' => e = .returned (.tuple #[]) ∧ VGo w V X s seq G (hereP (seen s seq) (goP (seen s seq) kind u p)) w') := by
  obtain ⟨W0, hW0⟩ : ∃ W0, w.alloc (.cells #[.int .i64 kind, .string u] 92) = W0 := ⟨_, rfl⟩
  have b0 : Below w.heap.size w W0 := by rw [← hW0]; exact (Below.refl _ _).alloc (Nat.le_refl _) _
  have k0 : W0.heap[w.heap.size]? = some (.cells #[.int .i64 kind, .string u] 92) := by rw [← hW0]; exact World.alloc_heap_new w _
  have e0 : W0.cell? ⟨w.heap.size, 0, none⟩ = some (.int .i64 kind) := by simp [World.cell?, k0]
  have e1 : W0.cell? ⟨w.heap.size, 1, none⟩ = some (.string u) := by simp [World.cell?, k0]
  have H0 := Lib.hid (And.intro b0 (h.below b0))
  have HK := Lib.hid hk
  obtain ⟨Q, hQ⟩ : ∃ Q, seen s seq = Q := ⟨_, rfl⟩
  have HQ := Lib.hid hQ
  have HP := Lib.hid hp
  rw [hQ] at H0 HP ⊢
  clear b0 k0 h hk hQ hp
  go_enter Try.func59, Try.ntmps59
  by_cases c1 : kind = 1
  · subst c1
    have he : hereP Q (goP Q 1 u p) = Q[0]? := here_plc Q 0
    rw [he]
    have HC := Lib.hid (pfirst_w H0.out.2)
    rw [HQ.out] at HC
    go_wp2_with (first | rw [hW0] | (go_at_call 62; refine HC.out.mono ?_; rintro e w1 ⟨rfl, t⟩))
    go_end0
    exact ⟨rfl, t.back H0.out.1⟩
  · by_cases c2 : kind = 2
    · subst c2
      have he : hereP Q (goP Q 2 u p) = Q.getLast? := by
        show hereP Q (prvP Q.length) = _
        rw [here_prv]
        cases Q with
        | nil => rfl
        | cons y t => rw [List.getLast?_eq_getElem?]; rfl
      rw [he]
      have HC := Lib.hid (plast_w H0.out.2)
      rw [HQ.out] at HC
      go_wp2_with (first | rw [hW0] | (go_at_call 57; refine HC.out.mono ?_; rintro e w1 ⟨rfl, t⟩))
      go_end0
      exact ⟨rfl, t.back H0.out.1⟩
    · by_cases c3 : kind = 3
      · subst c3
        have he : hereP Q (goP Q 3 u p) = Q[rnk Q u.toList]? := here_plc Q _
        rw [he]
        have HC := Lib.hid (pseek_w H0.out.2 HK.out u)
        rw [HQ.out] at HC
        go_wp2_with (first | rw [hW0] | (go_at_call 54; refine HC.out.mono ?_; rintro e w1 ⟨rfl, t⟩))
        go_end0
        exact ⟨rfl, t.back H0.out.1⟩
      · by_cases c4 : kind = 4
        · subst c4
          obtain ⟨k, hk1, hk2⟩ : ∃ k, hereP Q p = Q[k]? ∧ hereP Q (goP Q 4 u p) = Q[k + 1]? := by
            cases p with
            | none => exact ⟨Q.length, by rw [List.getElem?_eq_none (Nat.le_refl _)]; rfl, by rw [List.getElem?_eq_none (by omega)]; rfl⟩
            | some k => exact ⟨k, rfl, here_plc Q (k + 1)⟩
          rw [hk2]
          have hv := H0.out.2
          rw [hk1, ← HQ.out] at hv
          have HC := Lib.hid (pnext_w hv HK.out)
          rw [HQ.out] at HC
          clear hv hk1 hk2
          go_wp2_with (first | rw [hW0] | (go_at_call 63; refine HC.out.mono ?_; rintro e w1 ⟨rfl, t⟩))
          go_end0
          exact ⟨rfl, t.back H0.out.1⟩
        · by_cases c5 : kind = 5
          · subst c5
            have hC : Calls Try.prog 56 #[.pointer (some ⟨V, 0, none⟩)] W0 (fun e w' => e = .returned (.tuple #[]) ∧ VGo W0 V X s seq G (hereP Q (goP Q 5 u p)) w') := by
              cases p with
              | none => exact pprev_none H0.out.2
              | some k =>
                have hv := H0.out.2
                rw [← HQ.out] at hv
                have := pprev_w (k := k) hv HK.out (by rw [HQ.out]; exact HP.out k rfl)
                rw [HQ.out, ← here_prv] at this
                exact this
            have HC := Lib.hid hC
            clear hC
            go_wp2_with (first | rw [hW0] | (go_at_call 56; refine HC.out.mono ?_; rintro e w1 ⟨rfl, t⟩))
            go_end0
            exact ⟨rfl, t.back H0.out.1⟩
          · have d1 : (kind == 1) = false := by simpa using c1
            have d2 : (kind == 2) = false := by simpa using c2
            have d3 : (kind == 3) = false := by simpa using c3
            have d4 : (kind == 4) = false := by simpa using c4
            have d5 : (kind == 5) = false := by simpa using c5
            have hq : goP Q kind u p = p := by unfold goP; rw [if_neg c1, if_neg c2, if_neg c3, if_neg c4, if_neg c5]
            rw [hq]
            go_wp2_with (first | rw [hW0])
            go_end0
            exact ⟨rfl, (vgo_id H0.out.2).back H0.out.1⟩
end Go.Proofs.Ytehoojmalhloeaa.CM
