/- view: what is seen, by the document (Seen): what it computes; that this is what is seen. -/
import Derived.Test.YtehoojmalhloeaaVQ
namespace Go.Proofs.Ytehoojmalhloeaa.CM
open Go.RowKit Go.Proofs.YtehoojmalhloeaaW.PrintWords
set_option linter.unusedVariables false
set_option linter.unusedSimpArgs false
set_option maxRecDepth 100000

/-- Is one's user another one than the one ahead? -/
def turnD (p : Option ByteArray) (done : Bool) (x : PC.S44) : Bool :=
  match p with
  | none => done
  | some u => if x.f0.f0.toList == u.toList then done else false
def neqD (p : Option ByteArray) (x : PC.S44) : Bool :=
  match p with
  | none => false
  | some u => !(x.f0.f0.toList == u.toList)
theorem turnD_neq (p : Option ByteArray) (done : Bool) (x : PC.S44) : turnD p done x = if neqD p x = true then false else done := by
  cases p with
  | none => rfl
  | some u =>
    show (if (x.f0.f0.toList == u.toList) = true then done else false) = if (!(x.f0.f0.toList == u.toList)) = true then false else done
    cases (x.f0.f0.toList == u.toList) <;> rfl
def seenD (seq : Int) : Option ByteArray → Bool → List PC.S44 → List PC.S76
  | _, _, [] => []
  | p, done, x :: t => if turnD p done x = true ∨ seq < x.f0.f1 then seenD seq (some x.f0.f0) (turnD p done x) t
    else if x.f0.f2 = 1 then itemO x :: seenD seq (some x.f0.f0) true t else seenD seq (some x.f0.f0) true t
theorem seenD_len (seq : Int) : ∀ (l : List PC.S44) (p : Option ByteArray) (b : Bool), (seenD seq p b l).length ≤ l.length
  | [], _, _ => Nat.le_refl _
  | x :: t, p, b => by
    unfold seenD
    have h1 := seenD_len seq t (some x.f0.f0) (turnD p b x)
    have h2 := seenD_len seq t (some x.f0.f0) true
    split
    · simp; omega
    · split <;> simp <;> omega
/-- With users that do not fall both say the same. -/
theorem seenD_vs (seq : Int) : ∀ (l : List PC.S44) (p d : Option ByteArray) (done : Bool), SU l →
    (∀ u, p = some u → ∀ x ∈ l, lu u.toList (us x) ∨ us x = u.toList) → (∀ u, d = some u → ∃ v, p = some v ∧ (lu u.toList v.toList ∨ u.toList = v.toList)) → (done = true ↔ ∃ u v, d = some u ∧ p = some v ∧ u.toList = v.toList) →
    seenD seq p done l = vsS seq d l
  | [], _, _, _, _, _, _, _ => rfl
  | x :: t, p, d, done, hs, hp, hd, hb => by
    obtain ⟨h1, h2⟩ := List.pairwise_cons.1 hs
    have hp' : ∀ u, some x.f0.f0 = some u → ∀ y ∈ t, lu u.toList (us y) ∨ us y = u.toList := fun u e y hy => by
      cases e
      rcases h1 y hy with h | h
      · exact .inl h
      · exact .inr h.symm
    have hturn : turnD p done x = true ↔ ∃ u, d = some u ∧ u.toList = us x := by
      constructor
      · intro ht
        cases p with
        | none =>
          obtain ⟨u, v, _, hv, _⟩ := hb.1 ht
          cases hv
        | some v =>
          unfold turnD at ht
          by_cases hx : (x.f0.f0.toList == v.toList) = true
          · simp only [hx, if_true] at ht
            obtain ⟨u, v', hu, hv, he⟩ := hb.1 ht
            cases hv
            exact ⟨u, hu, he.trans (beq_iff_eq.1 hx).symm⟩
          · simp only [hx] at ht
            cases ht
      · rintro ⟨u, hu, he⟩
        obtain ⟨v, hv, hl⟩ := hd u hu
        subst hv
        have hx := hp v rfl x (by simp)
        have hvx : us x = v.toList := by
          rcases hx with hx | hx
          · rcases hl with hl | hl
            · exact (lu_irr _ (lu_tr hl (he ▸ hx))).elim
            · exact he.symm.trans hl
          · exact hx
        unfold turnD
        simp only [show (x.f0.f0.toList == v.toList) = true from beq_iff_eq.2 hvx, if_true]
        exact hb.2 ⟨u, v, hu, rfl, he.trans hvx⟩
    have hskp : skp seq d x = true ↔ turnD p done x = true ∨ seq < x.f0.f1 := by
      rw [hturn]
      unfold skp
      cases d with
      | none => simp
      | some u =>
        simp only [Bool.or_eq_true, beq_iff_eq, decide_eq_true_eq, Option.some.injEq, exists_eq_left']
        constructor
        · rintro (h | h)
          · exact .inl h.symm
          · exact .inr h
        · rintro (h | h)
          · exact .inl h.symm
          · exact .inr h
    have hgo : ∀ u, d = some u → lu u.toList (us x) ∨ u.toList = us x := fun u hu => by
      obtain ⟨v, hv, hl⟩ := hd u hu
      rcases hp v hv x (by simp) with h | h
      · rcases hl with hl | hl
        · exact .inl (lu_tr hl h)
        · exact .inl (hl ▸ h)
      · rcases hl with hl | hl
        · exact .inl (h ▸ hl)
        · exact .inr (hl.trans h.symm)
    unfold seenD
    rw [vsS_cons]
    by_cases hc : turnD p done x = true ∨ seq < x.f0.f1
    · rw [if_pos hc, if_pos (hskp.2 hc)]
      refine seenD_vs seq t _ d _ h2 hp' (fun u hu => ⟨_, rfl, hgo u hu⟩) ?_
      rw [hturn]
      constructor
      · rintro ⟨u, hu, he⟩; exact ⟨u, x.f0.f0, hu, rfl, he⟩
      · rintro ⟨u, v, hu, hv, he⟩; cases hv; exact ⟨u, hu, he⟩
    · rw [if_neg hc, if_neg (fun h => hc (hskp.1 h))]
      have ih := seenD_vs seq t (some x.f0.f0) (some x.f0.f0) true h2 hp' (fun u hu => ⟨_, rfl, by cases hu; exact .inr rfl⟩) ⟨fun _ => ⟨_, _, rfl, rfl, rfl⟩, fun _ => rfl⟩
      rw [ih]
theorem seenD_vs0 (seq : Int) (l : List PC.S44) (h : SU l) : seenD seq none false l = vsS seq none l :=
  seenD_vs seq l none none false h (fun u h => by cases h) (fun u h => by cases h) ⟨(fun h => by cases h), (fun h => by obtain ⟨u, v, h, _⟩ := h; cases h)⟩
/-- The user ahead. -/
def usrB (l : List PC.S44) : Nat → Option ByteArray
  | 0 => none
  | i + 1 => some (l.getD i PC.z44).f0.f0
set_option maxHeartbeats 8000000 in
theorem seen17_w (A : Option Addr) (c : Nat) (l : List PC.S44) (seq : Int) (w : World) (hr : Kd.C PC.k44 w A l.length l) (hl : l.length ≤ 1000000) :
    Calls Try.prog 31 #[.slice A l.length c, .int .u64 seq] w fun e w' => ∃ v, e = .returned v ∧ Kd.R PC.k76 76 w' w.heap.size (fun _ => True) v (seenD seq none false l) ∧ Below w.heap.size w w' := by
  have HR := Lib.hid hr
  clear hr
  go_enter Try.func31, Try.ntmps31
  go_wp2_with fail
  go_loopw [5, 6, 7] (fun v b t wr => ∃ (i : Nat) (done : Bool) (o : List PC.S76), i ≤ l.length ∧ o.length ≤ i ∧ t = .int .i64 (i : Int) ∧ b = .bool done ∧ Hid (o ++ seenD seq (usrB l i) done (l.drop i) = seenD seq none false l ∧ Kd.R PC.k76 76 wr w.heap.size (fun _ => True) v o ∧ Below w.heap.size w wr)) (fun _ _ t _ => l.length - (intOf t).toNat)
  case atStart => exact ⟨0, false, [], by omega, by simp, rfl, rfl, Lib.hid ⟨rfl, Kd.R_nil _ _ _ _ _, Below.refl _ _⟩⟩
  case round =>
    obtain ⟨i, done, o, hi, ho, rfl, rfl, HI⟩ := hrel
    have m1 : IntKind.i64.wrap ((i : Int) + 1) = (i : Int) + 1 := by rw [IntWalk.i64_in _ (by omega)]
    by_cases hlt : i < l.length
    · obtain ⟨x, hx⟩ : ∃ x, l.getD i PC.z44 = x := ⟨_, rfl⟩
      have Hx := Lib.hid (show l.drop i = x :: l.drop (i + 1) from by
        rw [← hx, List.getD_eq_getElem?_getD, List.getElem?_eq_getElem hlt]
        exact List.drop_eq_getElem_cons hlt)
      obtain ⟨ad, e, X0⟩ := at44 (keepC HR.out (Nat.le_refl _) HI.out.2.2) i (by omega)
      rw [hx] at X0
      have Hu := Lib.hid (show usrB l (i + 1) = some x.f0.f0 from by show some (l.getD i PC.z44).f0.f0 = _; rw [hx])
      subst e
      have HX := Lib.hid X0
      have Hxx := Lib.hid hx
      have p0 : (0 ≤ (i : Int)) = True := by simp
      have p1 : ((i : Int) < l.length) = True := eq_true (by omega)
      have p2 : (i < l.length) = True := eq_true hlt
      have p3 : decide ((i : Int) < (l.length : Int)) = true := decide_eq_true (by omega)
      clear hx X0
      go_upto_region 6 with (fail)
      go_cut [31] (fun v wc => ∃ b : Bool, v = .bool b ∧ Hid (b = neqD (usrB l i) x ∧ Below wr.heap.size wr wc))
      case first =>
        by_cases hi0 : i = 0
        · have d0 : decide ((0 : Int) < (i : Int)) = false := decide_eq_false (by omega)
          have d1 : decide (0 < i) = false := decide_eq_false (by omega)
          have Hi := Lib.hid hi0
          clear hi0
          go_wp2_with fail
          go_quiet (fail)
          go_wp2
          go_meet
          case rel => exact ⟨false, rfl, Lib.hid ⟨by rw [Hi.out]; rfl, rfl, rfl, rfl, Nat.le_refl _, fun _ _ => rfl⟩⟩
        · have d0 : decide ((0 : Int) < (i : Int)) = true := decide_eq_true (by omega)
          have d1 : decide (0 < i) = true := decide_eq_true (by omega)
          obtain ⟨y, hy⟩ : ∃ y, l.getD (i - 1) PC.z44 = y := ⟨_, rfl⟩
          obtain ⟨ad2, e, Y0⟩ := at44 (keepC HR.out (Nat.le_refl _) HI.out.2.2) (i - 1) (by omega)
          rw [hy] at Y0
          obtain rfl : ad = ad2 := by injection e
          have Hub := Lib.hid (show usrB l i = some y.f0.f0 from by
            obtain ⟨j, rfl⟩ : ∃ j, i = j + 1 := ⟨i - 1, by omega⟩
            show some (l.getD j PC.z44).f0.f0 = _
            rw [← hy]; rfl)
          have y0 := Y0.1
          have x0 := HX.out.1
          have m2 : IntKind.i64.wrap ((i : Int) - 1) = (i : Int) - 1 := by rw [IntWalk.i64_in _ (by omega)]
          have e4 : ((i : Int) - 1).toNat = i - 1 := by omega
          have q0 : (0 ≤ (i : Int) - 1) = True := eq_true (by omega)
          have q3 : (1 ≤ (i : Int)) = True := eq_true (by omega)
          have q1 : ((i : Int) - 1 < l.length) = True := eq_true (by omega)
          have q2 : (i - 1 < l.length) = True := eq_true (by omega)
          clear hi0 hy e Y0
          cases hE : (x.f0.f0.toList == y.f0.f0.toList)
          · have HE := Lib.hid hE
            go_wp2_with fail
            go_quiet (fail)
            clear hE
            go_wp2
            go_meet
            case rel => exact ⟨true, rfl, Lib.hid ⟨by rw [Hub.out]; unfold neqD; simp only [HE.out]; rfl, rfl, rfl, rfl, Nat.le_refl _, fun _ _ => rfl⟩⟩
          · have HE := Lib.hid hE
            go_wp2_with fail
            go_quiet (fail)
            clear hE
            go_wp2
            go_meet
            case rel => exact ⟨false, rfl, Lib.hid ⟨by rw [Hub.out]; unfold neqD; simp only [HE.out]; rfl, rfl, rfl, rfl, Nat.le_refl _, fun _ _ => rfl⟩⟩
      case rest =>
        obtain ⟨b0, rfl, HB0⟩ := hcut
        obtain ⟨w0, rfl⟩ : ∃ w0, w0 = wc := ⟨_, rfl⟩
        go_upto_if 31 with (fail)
        go_cut [6] (fun v wc => ∃ b : Bool, v = .bool b ∧ Hid (b = turnD (usrB l i) done x ∧ Below wr.heap.size wr wc))
        case first =>
          cases b0
          · go_wp2
            go_meet
            case rel => exact ⟨done, rfl, Lib.hid ⟨by rw [turnD_neq, ← HB0.out.1]; rfl, HB0.out.2⟩⟩
          · go_wp2
            go_meet
            case rel => exact ⟨false, rfl, Lib.hid ⟨by rw [turnD_neq, ← HB0.out.1]; rfl, HB0.out.2⟩⟩
        obtain ⟨b, rfl, HB⟩ := hcut
        have HI2 := Lib.hid (And.intro (Kd.R_below HI.out.2.1 HB.out.2) (HI.out.2.2.trans (HB.out.2.mono HI.out.2.2.size)))
        have HX2 := Lib.hid (HX.out.below HB.out.2)
        obtain ⟨x0, x1, x2, x3⟩ := HX2.out
        cases b
        · by_cases hq : seq < x.f0.f1
          · have d0 : decide (seq < x.f0.f1) = true := decide_eq_true hq
            have he : seenD seq (usrB l i) done (l.drop i) = seenD seq (usrB l (i + 1)) false (l.drop (i + 1)) := by
              rw [Hx.out, Hu.out]
              show (if turnD (usrB l i) done x = true ∨ seq < x.f0.f1 then _ else _) = _
              rw [if_pos (.inr hq), ← HB.out.1]
            have He := Lib.hid he
            clear he hq
            go_wp2_with fail
            go_roundw
            case rel => exact ⟨i + 1, false, o, by omega, by omega, by simp, rfl, Lib.hid ⟨by rw [← He.out]; exact HI.out.1, HI2.out.1, HI2.out.2⟩⟩
            case measure => simp [intOf]; omega
          · have d0 : decide (seq < x.f0.f1) = false := decide_eq_false hq
            by_cases hk : x.f0.f2 = 1
            · have he : seenD seq (usrB l i) done (l.drop i) = itemO x :: seenD seq (usrB l (i + 1)) true (l.drop (i + 1)) := by
                rw [Hx.out, Hu.out]
                show (if turnD (usrB l i) done x = true ∨ seq < x.f0.f1 then _ else if x.f0.f2 = 1 then _ else _) = _
                rw [if_neg (fun h => h.elim (fun h => by rw [← HB.out.1] at h; cases h) hq), if_pos hk]
              have He := Lib.hid he
              have z0 : (x.f0.f2 == 1) = true := by simpa using hk
              have Hk := Lib.hid hk
              rw [hk] at x2
              clear he hq hk
              have bd : Below wc.heap.size wc wc.drew := (Below.refl _ _).drew
              obtain ⟨v1, w5, hrun, hR5, hg5, _⟩ := run_append76 (w := wc.drew) (itemO x) (Kd.R_below HI2.out.1 bd) (by omega) HI2.out.2.size
              have x0 := HX2.out.1
              have x3 := HX2.out.2.2.2
              have H5 := Lib.hid (And.intro hR5 ((HI2.out.2.drew.alloc HI2.out.2.size _).grown hg5 (by have := HI2.out.2.size; simp; omega) (fun k hk => Kd.R_base HI2.out.1 k hk)))
              clear bd hR5 hg5
              have HX5 := Lib.hid (show w5.cell? (ad.add (i * 4)) = some (.string x.f0.f0) ∧ w5.cell? ⟨(ad.add (i * 4)).block, (ad.add (i * 4)).off + 3, none⟩ = some (.string x.f1) from by
                obtain ⟨ad2, e, Z⟩ := at44 (keepC HR.out (Nat.le_refl _) H5.out.2) i (by omega)
                obtain rfl : ad = ad2 := by injection e
                rw [Hxx.out] at Z
                exact ⟨Z.1, Z.2.2.2⟩)
              go_wp2_with fail
              go_region_held3 (fun w' => w'.cell? (ad.add (i * 4)) = some (.string x.f0.f0) ∧ w'.cell? ⟨(ad.add (i * 4)).block, (ad.add (i * 4)).off + 3, none⟩ = some (.string x.f1)) (first | go_keep | exact HX5.out) ((refine step_append_run (by rfl) (.tmp 50) (.tmp 63) 39 (by rfl) _ _ _ _ (by rfl) (by rfl) hrun ?_))
              clear hrun x0 x3
              go_wp2_with fail
              go_roundw
              case rel => exact ⟨i + 1, true, o ++ [itemO x], by omega, by simp; omega, by simp, rfl, Lib.hid ⟨by rw [List.append_assoc, List.singleton_append, ← He.out]; exact HI.out.1, H5.out.1, H5.out.2⟩⟩
              case measure => simp [intOf]; omega
            · have he : seenD seq (usrB l i) done (l.drop i) = seenD seq (usrB l (i + 1)) true (l.drop (i + 1)) := by
                rw [Hx.out, Hu.out]
                show (if turnD (usrB l i) done x = true ∨ seq < x.f0.f1 then _ else if x.f0.f2 = 1 then _ else _) = _
                rw [if_neg (fun h => h.elim (fun h => by rw [← HB.out.1] at h; cases h) hq), if_neg hk]
              have He := Lib.hid he
              have z0 : (x.f0.f2 == 1) = false := by simpa using hk
              clear he hq hk
              go_wp2_with fail
              go_roundw
              case rel => exact ⟨i + 1, true, o, by omega, by omega, by simp, rfl, Lib.hid ⟨by rw [← He.out]; exact HI.out.1, HI2.out.1, HI2.out.2⟩⟩
              case measure => simp [intOf]; omega
        · have he : seenD seq (usrB l i) done (l.drop i) = seenD seq (usrB l (i + 1)) true (l.drop (i + 1)) := by
            rw [Hx.out, Hu.out]
            show (if turnD (usrB l i) done x = true ∨ seq < x.f0.f1 then _ else _) = _
            rw [if_pos (.inl HB.out.1.symm), ← HB.out.1]
          have He := Lib.hid he
          clear he
          go_wp2_with fail
          go_roundw
          case rel => exact ⟨i + 1, true, o, by omega, by omega, by simp, rfl, Lib.hid ⟨by rw [← He.out]; exact HI.out.1, HI2.out.1, HI2.out.2⟩⟩
          case measure => simp [intOf]; omega
    · obtain rfl : i = l.length := by omega
      have p3 : decide ((l.length : Int) < (l.length : Int)) = false := decide_eq_false (by omega)
      go_wp2_with fail
      go_ret
      refine ⟨_, rfl, ?_, HI.out.2.2⟩
      have := HI.out.1
      rw [List.drop_eq_nil_of_le (Nat.le_refl _), show seenD seq (usrB l l.length) done [] = [] from rfl, List.append_nil] at this
      rw [← this]
      exact HI.out.2.1
end Go.Proofs.Ytehoojmalhloeaa.CM
