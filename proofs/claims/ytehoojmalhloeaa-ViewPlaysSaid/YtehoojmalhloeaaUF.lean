/- ViewPlays: the walk. No condition. -/
import Derived.Test.YtehoojmalhloeaaUE
namespace Go.Proofs.Ytehoojmalhloeaa.CM
open Go.RowKit Go.Proofs.YtehoojmalhloeaaW.PrintWords
set_option linter.unusedVariables false
set_option linter.unusedSimpArgs false
set_option maxRecDepth 100000

/-- The program's view and the document's, side by side. -/
structure Pv (w0 w : World) (V X : Nat) (s : Sh) (seq : Int) (p : Option Nat) (G : Nat → Prop) (Rb : Nat) (LA : Option Addr) (cp : Nat) (v : Int) : Prop where
  vi : Vi w V X s seq (hereP (seen s seq) p) G
  rv : Rv w Rb LA cp (seen s seq) v
  n1 : ¬ G Rb
  n2 : ∀ a, LA = some a → ¬ G a.block
  lt : ∀ a, LA = some a → a.block < w.heap.size
  lo : ∀ b, G b → w0.heap.size ≤ b
  lo2 : w0.heap.size ≤ Rb
  bel : Below w0.heap.size w0 w
section
variable {w0 w w1 : World} {V X Rb cp : Nat} {s : Sh} {seq : Int} {p p' : Option Nat} {G : Nat → Prop} {LA : Option Addr} {v v' : Int}
theorem Pv.goes (h : Pv w0 w V X s seq p G Rb LA cp v) (g : VGo w V X s seq G (hereP (seen s seq) p') w1) : ∃ G', Pv w0 w1 V X s seq p' G' Rb LA cp v := by
  obtain ⟨G', h1, h2, h3⟩ := g
  have hs := h2.size
  refine ⟨G', h1, h.rv.fr h2 h.n1 h.n2, fun hF => ?_, fun a e hF => ?_, fun a e => by have := h.lt a e; omega, fun b hF => ?_, h.lo2, h.bel.trans (h2.to_below h.bel.size h.lo)⟩
  · rcases h3 _ hF with h4 | h4
    · exact h.n1 h4
    · have := h.rv.lt; omega
  · rcases h3 _ hF with h4 | h4
    · exact h.n2 a e h4
    · have := h.lt a e; omega
  · rcases h3 b hF with h4 | h4
    · exact h.lo b h4
    · have := h.bel.size; omega
theorem Pv.below (h : Pv w0 w V X s seq p G Rb LA cp v) (hb : Below w.heap.size w w1) : Pv w0 w1 V X s seq p G Rb LA cp v :=
  ⟨h.vi.below hb, h.rv.below hb, h.n1, h.n2, fun a e => by have := h.lt a e; have := hb.size; omega, h.lo, h.lo2, h.bel.trans (hb.mono h.bel.size)⟩
theorem Pv.ref (h : Pv w0 w V X s seq p G Rb LA cp v) (hr : Rv w1 Rb LA cp (seen s seq) v') (hf : Fr (fun b => b = Rb) w w1) : Pv w0 w1 V X s seq p G Rb LA cp v' :=
  ⟨h.vi.fr hf (fun b hb hF => h.n1 (hb ▸ hF)), hr, h.n1, h.n2, fun a e => by have := h.lt a e; have := hf.size; omega, h.lo, h.lo2, h.bel.trans (hf.to_below h.bel.size (fun b hb => by have := h.lo2; omega))⟩
end
theorem vrefgo_w {w : World} {Rb cp : Nat} {LA : Option Addr} {L : List PC.S76} {at_ : Int} (h : Rv w Rb LA cp L at_) (kind : Int) (u : ByteArray) (h1 : 1 ≤ kind) (h5 : kind ≤ 5) (hat1 : -1 ≤ at_) (hat2 : at_ < L.length) :
    Calls Try.prog 60 #[.pointer (some ⟨Rb, 0, none⟩), .int .i64 kind, .string u] w (GoEnd2 w Rb cp LA L (refGo2 L kind u at_)) := by
  have hk : kind = 1 ∨ kind = 2 ∨ kind = 3 ∨ kind = 4 ∨ kind = 5 := by omega
  rcases hk with rfl | rfl | rfl | rfl | rfl
  · exact vrefgo1_w h u hat1 hat2
  · exact vrefgo2_w h u hat1 hat2
  · exact vrefgo3_w h u hat1 hat2
  · exact vrefgo4_w h u hat1 hat2
  · exact vrefgo5_w h u hat1 hat2
theorem atP_bounds {Q : List PC.S76} {p : Option Nat} (hp : ∀ k, p = some k → k < Q.length) : -1 ≤ atP p ∧ atP p < Q.length := by
  cases p with
  | none => exact ⟨by decide, by show (-1 : Int) < _; omega⟩
  | some k => have := hp k rfl; exact ⟨by show (-1 : Int) ≤ (k : Int); omega, by show (k : Int) < _; omega⟩
theorem vtold_w {w : World} {Rb cp : Nat} {LA : Option Addr} {Q : List PC.S76} {p : Option Nat} (h : Rv w Rb LA cp Q (atP p)) (hp : ∀ k, p = some k → k < Q.length) :
    Calls Try.prog 61 #[.pointer (some ⟨Rb, 0, none⟩)] w (fun e w' => e = .returned (.tuple #[val76 (toldV (hereP Q p)).1, .bool (toldV (hereP Q p)).2]) ∧ Below w.heap.size w w') := by
  cases p with
  | none => exact vtold_none h
  | some k =>
    have hk := hp k rfl
    have := vtold_some h hk
    rw [show hereP Q (some k) = some (Q.getD k zi) from by show Q[k]? = _; rw [List.getD_eq_getElem?_getD, List.getElem?_eq_getElem hk]; rfl]
    exact this
attribute [local go_sem high] eqV76
set_option maxHeartbeats 16000000 in
theorem viewPlays_w (A : Option Addr) (c : Nat) (L : List (List PC.S44)) (seq : Int) (B : Option Addr) (d : Nat) (ways : List S92) (w : World) (hr : Kd.C (Kd.slice 44 PC.k44) w A L.length L) (hc : L.length ≤ c) (hF : ∀ l ∈ L, ∀ x ∈ l, Fits x) (hw : Kd.C k92 w B ways.length ways) (hwl : ways.length ≤ 9223372036854775806) :
    Calls Try.prog 20 #[.slice A L.length c, .int .u64 seq, .slice B ways.length d] w fun e w' => e = .returned (.bool true) ∧ Below w.heap.size w w' := by
  have HA := Lib.hid (And.intro hr (And.intro hc hw))
  have HF := Lib.hid (fits_cut hF)
  clear hr hc hw hF
  go_enter Try.func20, Try.ntmps20
  go_wp2_with fail
  refine (awake17_w w).mono ?_
  rintro e w1 ⟨rfl, b⟩
  have H1 := Lib.hid (And.intro (keepC HA.out.1 (Nat.le_refl _) b) b)
  clear b
  go_wp2_with fail
  refine (few17_w A c L w1 H1.out.1 HA.out.2.1).mono ?_
  rintro e w2 ⟨A2, c2, rfl, h1, h2, h3⟩
  have hD1 := cut16_len L
  have hD2 := cut16_row L
  obtain ⟨D, hD⟩ : ∃ D, cut16 L = D := ⟨_, rfl⟩
  rw [hD] at h1 h2 hD1 hD2 HF ⊢
  have H2 := Lib.hid (And.intro h2 (And.intro hD2 (H1.out.2.trans (h3.mono H1.out.2.size))))
  have HN := Lib.hid (vnew_w A2 c2 D seq w2 h2 (by omega) (fun j _ => by have := hD2 j; omega))
  have hNb : ∀ s : Sh, s.L = D → s.N ≤ 8000 := fun s hL => by
    rw [N_of hL]
    have := tot_bound (fun j => (D.getD j []).length) 200 D.length (fun j _ => hD2 j)
    omega
  have HNb := Lib.hid hNb
  clear h1 h2 h3 hD2 hD hNb
  go_wp2_with fail
  refine HN.out.mono ?_
  rintro e w3 (⟨rfl, hbad, b⟩ | ⟨V, X, s, G, rfl, hris, hL, hV, hG, b⟩)
  · have HB := Lib.hid (And.intro hbad b)
    have hS := ref58_w ⟨D, 0, none, 0, fun _ => 0, fun _ => none, fun _ => 0⟩ seq A2 c2 w3 (keepC H2.out.1 (Nat.le_refl _) b) hD1 H2.out.2.1 (HNb.out _ rfl)
    have HS := Lib.hid hS
    clear hS hbad b HN
    go_wp2_with fail
    refine HS.out.mono ?_
    rintro e w4 (⟨rfl, _, b⟩ | ⟨Rb, LA, cp, rfl, hris, _⟩)
    · have HE := Lib.hid (H2.out.2.2.trans ((HB.out.2.trans (b.mono HB.out.2.size)).mono H2.out.2.2.size))
      clear b
      go_wp2_with fail
      go_ret
      exact ⟨rfl, HE.out⟩
    · exfalso
      obtain ⟨j, hj, hf⟩ := HB.out.1
      rw [hris j hj] at hf
      cases hf
  · have HK := Lib.hid (fk_upto hL HF.out)
    have hS := ref58_w s seq A2 c2 w3 (by rw [hL]; exact keepC H2.out.1 (Nat.le_refl _) b) (by rw [hL]; exact hD1) (by rw [hL]; exact H2.out.2.1) (HNb.out s hL)
    unfold Ref58 at hS
    rw [hL] at hS
    have HS := Lib.hid hS
    have HV := Lib.hid (And.intro hV (And.intro hG (And.intro b hris)))
    clear hS hV hG b hL hris HN
    go_wp2_with fail
    refine HS.out.mono ?_
    rintro e w4 (⟨rfl, ⟨j, hj, hf⟩, _⟩ | ⟨Rb, LA, cp, rfl, _, hRv, b, hRb, hLA⟩)
    · exfalso
      rw [HV.out.2.2.2 j hj] at hf
      cases hf
    · have hP : Pv w2 w4 V X s seq none G Rb LA cp (atP none) :=
        ⟨HV.out.1.below b, hRv, fun h => by have := HV.out.1.lt h; omega, fun a e h => by have := HV.out.1.lt h; have := (hLA a e).1; omega, fun a e => (hLA a e).2, HV.out.2.1, by have := HV.out.2.2.1.size; omega, HV.out.2.2.1.trans (b.mono HV.out.2.2.1.size)⟩
      have S4 := Lib.hid hP
      clear hP hRv b hRb hLA HS
      go_wp2_with fail
      refine (vat_w S4.out.vi).mono ?_
      rintro e w5 ⟨rfl, b⟩
      rw [show toldV (hereP (seen s seq) none) = (zi, false) from rfl]
      simp only [val76]
      obtain ⟨z, hz⟩ : ∃ z, zi = z := ⟨_, rfl⟩
      rw [hz]
      clear hz
      obtain ⟨W6, hW6⟩ : ∃ W6, w5.alloc (.cells #[.string z.f0, .string z.f1] 76) = W6 := ⟨_, rfl⟩
      have bl : Below w5.heap.size w5 W6 := by rw [← hW6]; exact (Below.refl _ _).alloc (Nat.le_refl _) _
      have S6 := Lib.hid ((S4.out.below b).below bl)
      clear b bl
      go_wp2_with (first | rw [hW6])
      go_loopw [14] (fun t wr => ∃ i : Nat, i ≤ ways.length ∧ t = .int .i64 (i : Int) ∧ Hid (∃ p G, Pv w2 wr V X s seq p G Rb LA cp (atP p) ∧ ∀ k, p = some k → k < (seen s seq).length)) (fun t _ => ways.length - (intOf t).toNat)
      case atStart => exact ⟨0, by omega, rfl, Lib.hid ⟨none, G, S6.out, fun p h => by cases h⟩⟩
      case round =>
        obtain ⟨i, hi, rfl, HI⟩ := hrel
        have m1 : IntKind.i64.wrap ((i : Int) + 1) = (i : Int) + 1 := by rw [IntWalk.i64_in _ (by omega)]
        obtain ⟨p, F1, hS, hq⟩ := HI.out
        have S1 := Lib.hid hS
        have HQ1 := Lib.hid hq
        clear hS hq HI
        by_cases hlt : i < ways.length
        · have hltz : decide ((i : Int) < ways.length) = true := decide_eq_true (by omega)
          obtain ⟨y, hy⟩ : ∃ y, ways.getD i z92 = y := ⟨_, rfl⟩
          have hrow : ∃ ad, B = some ad ∧ ∀ W : World, Below w.heap.size w W → W.cell? (ad.add (i * 2)) = some (.int .i64 y.kind) ∧ W.cell? ⟨(ad.add (i * 2)).block, (ad.add (i * 2)).off + 1, none⟩ = some (.string y.u) := by
            obtain ⟨ad, e, _⟩ := at92 HA.out.2.2 i hlt
            refine ⟨ad, e, fun W hb => ?_⟩
            obtain ⟨ad', e', h⟩ := at92 (keepC HA.out.2.2 (Nat.le_refl _) hb) i hlt
            rw [e] at e'
            obtain rfl : ad = ad' := by injection e'
            rw [hy] at h
            exact h
          obtain ⟨ad, rfl, hrow⟩ := hrow
          have HW := Lib.hid hrow
          clear hrow hy
          have hbw : ∀ W, Below w2.heap.size w2 W → Below w.heap.size w W := fun W hb => H2.out.2.2.trans (hb.mono H2.out.2.2.size)
          have HBW := Lib.hid hbw
          obtain ⟨z0, z1⟩ := HW.out _ (hbw _ S1.out.bel)
          have p0 : ((i : Int) < ways.length) = True := eq_true (by omega)
          have p1 : (0 ≤ (i : Int)) = True := by simp
          have p2 : (i < ways.length) = True := eq_true hlt
          clear hbw
          go_wp2_with fail
          refine (vgone_w S1.out.vi HK.out HQ1.out y.kind y.u).mono ?_
          rintro e w6b ⟨rfl, g⟩
          obtain ⟨F2, hP⟩ := S1.out.goes g
          have S2 := Lib.hid hP
          have HQ9 := Lib.hid (goP_lt (Q := seen s seq) (kind := y.kind) (u := y.u) HQ1.out)
          obtain ⟨p', hq'⟩ : ∃ p', goP (seen s seq) y.kind y.u p = p' := ⟨_, rfl⟩
          obtain ⟨x, tb, hxt⟩ : ∃ x tb, toldV (hereP (seen s seq) p') = (x, tb) := ⟨_, _, rfl⟩
          have HT := Lib.hid hxt
          have Hq' := Lib.hid hq'
          rw [hq'] at S2 HQ9
          clear z0 z1 g hP hxt hq'
          obtain ⟨z0, z1⟩ := HW.out _ (HBW.out _ S2.out.bel)
          obtain ⟨kd, hkd⟩ : ∃ kd, y.kind = kd := ⟨_, rfl⟩
          have Hkd := Lib.hid hkd
          rw [hkd] at z0
          clear hkd
          by_cases h1 : 1 ≤ kd
          · have d1 : decide (1 ≤ kd) = true := decide_eq_true h1
            by_cases h5 : kd ≤ 5
            · have d5 : decide (kd ≤ 5) = true := decide_eq_true h5
              have bdr : Below w6b.heap.size w6b w6b.drew := (Below.refl _ _).drew
              have SD := S2.out.below bdr
              have hat := atP_bounds HQ1.out
              have K := vrefgo_w SD.rv kd y.u h1 h5 hat.1 hat.2
              rw [← Hkd.out, refGo_atP (by rw [Hkd.out]; exact h1) (by rw [Hkd.out]; exact h5) HQ1.out, Hq'.out, Hkd.out] at K
              have HKK := Lib.hid K
              have HSD := Lib.hid SD
              have zd := HW.out _ (HBW.out _ SD.bel)
              rw [Hkd.out] at zd
              have HX2 := Lib.hid zd
              clear K SD bdr zd hat
              go_wp2_with fail
              go_region_held3 (fun w' => w'.cell? (ad.add (i * 2)) = some (.int .i64 kd) ∧ w'.cell? ⟨(ad.add (i * 2)).block, (ad.add (i * 2)).off + 1, none⟩ = some (.string y.u)) (first | exact HX2.out | exact HX3.out) (first | (go_at_call 60; refine Calls.mono HKK.out ?_; rintro e w7 ⟨rfl, hR7, hF7⟩; have hP7 := HSD.out.ref hR7 hF7; have zz := HW.out _ (HBW.out _ hP7.bel); rw [Hkd.out] at zz; have HX3 := Lib.hid zz; have S8 := Lib.hid hP7; clear hR7 hF7 hP7 zz))
              clear HX2 HX3 HKK
              go_wp2_with fail
              refine (vat_w S8.out.vi).mono ?_
              rintro e w8 ⟨rfl, b8⟩
              rw [HT.out]
              simp only [val76]
              obtain ⟨W9, hW9⟩ : ∃ W9, w8.alloc (.cells #[.string x.f0, .string x.f1] 76) = W9 := ⟨_, rfl⟩
              have bl9 : Below w8.heap.size w8 W9 := by rw [← hW9]; exact (Below.refl _ _).alloc (Nat.le_refl _) _
              have k9 : W9.heap[w8.heap.size]? = some (.cells #[.string x.f0, .string x.f1] 76) := by rw [← hW9]; exact World.alloc_heap_new w8 _
              have S9 := Lib.hid ((S8.out.below b8).below bl9)
              have K9 := Lib.hid k9
              clear b8 bl9 k9 z0 z1
              go_wp2_with (first | rw [hW9])
              refine (vtold_w S9.out.rv HQ9.out).mono ?_
              rintro e wa ⟨rfl, ba⟩
              rw [HT.out]
              simp only [val76]
              obtain ⟨Wb, hWb⟩ : ∃ Wb, wa.alloc (.cells #[.string x.f0, .string x.f1] 76) = Wb := ⟨_, rfl⟩
              have blb : Below wa.heap.size wa Wb := by rw [← hWb]; exact (Below.refl _ _).alloc (Nat.le_refl _) _
              have kb : Wb.heap[wa.heap.size]? = some (.cells #[.string x.f0, .string x.f1] 76) := by rw [← hWb]; exact World.alloc_heap_new wa _
              have ka := blk_below (blk_below K9.out ba) blb
              have a0 : Wb.cell? ⟨w8.heap.size, 0, none⟩ = some (.string x.f0) := by simp [World.cell?, ka]
              have a1 : Wb.cell? ⟨w8.heap.size, 1, none⟩ = some (.string x.f1) := by simp [World.cell?, ka]
              have b0 : Wb.cell? ⟨wa.heap.size, 0, none⟩ = some (.string x.f0) := by simp [World.cell?, kb]
              have b1 : Wb.cell? ⟨wa.heap.size, 1, none⟩ = some (.string x.f1) := by simp [World.cell?, kb]
              have Sb := Lib.hid ((S9.out.below ba).below blb)
              have hE := eqI_self x
              clear ba blb kb ka
              go_wp2_with (first | rw [hWb])
              exact ⟨⟨i + 1, by omega, by simp, Lib.hid ⟨_, _, Sb.out, HQ9.out⟩⟩, by simp [intOf]; omega⟩
            · have d5 : decide (kd ≤ 5) = false := decide_eq_false h5
              have S8' := S2.out
              rw [show p = p' from by rw [← Hq'.out]; unfold goP; rw [Hkd.out, if_neg (by omega), if_neg (by omega), if_neg (by omega), if_neg (by omega), if_neg (by omega)]] at S8'
              have S8 := Lib.hid S8'
              clear S8'
              go_wp2_with fail
              refine (vat_w S8.out.vi).mono ?_
              rintro e w8 ⟨rfl, b8⟩
              rw [HT.out]
              simp only [val76]
              obtain ⟨W9, hW9⟩ : ∃ W9, w8.alloc (.cells #[.string x.f0, .string x.f1] 76) = W9 := ⟨_, rfl⟩
              have bl9 : Below w8.heap.size w8 W9 := by rw [← hW9]; exact (Below.refl _ _).alloc (Nat.le_refl _) _
              have k9 : W9.heap[w8.heap.size]? = some (.cells #[.string x.f0, .string x.f1] 76) := by rw [← hW9]; exact World.alloc_heap_new w8 _
              have S9 := Lib.hid ((S8.out.below b8).below bl9)
              have K9 := Lib.hid k9
              clear b8 bl9 k9 z0 z1
              go_wp2_with (first | rw [hW9])
              refine (vtold_w S9.out.rv HQ9.out).mono ?_
              rintro e wa ⟨rfl, ba⟩
              rw [HT.out]
              simp only [val76]
              obtain ⟨Wb, hWb⟩ : ∃ Wb, wa.alloc (.cells #[.string x.f0, .string x.f1] 76) = Wb := ⟨_, rfl⟩
              have blb : Below wa.heap.size wa Wb := by rw [← hWb]; exact (Below.refl _ _).alloc (Nat.le_refl _) _
              have kb : Wb.heap[wa.heap.size]? = some (.cells #[.string x.f0, .string x.f1] 76) := by rw [← hWb]; exact World.alloc_heap_new wa _
              have ka := blk_below (blk_below K9.out ba) blb
              have a0 : Wb.cell? ⟨w8.heap.size, 0, none⟩ = some (.string x.f0) := by simp [World.cell?, ka]
              have a1 : Wb.cell? ⟨w8.heap.size, 1, none⟩ = some (.string x.f1) := by simp [World.cell?, ka]
              have b0 : Wb.cell? ⟨wa.heap.size, 0, none⟩ = some (.string x.f0) := by simp [World.cell?, kb]
              have b1 : Wb.cell? ⟨wa.heap.size, 1, none⟩ = some (.string x.f1) := by simp [World.cell?, kb]
              have Sb := Lib.hid ((S9.out.below ba).below blb)
              have hE := eqI_self x
              clear ba blb kb ka
              go_wp2_with (first | rw [hWb])
              exact ⟨⟨i + 1, by omega, by simp, Lib.hid ⟨_, _, Sb.out, HQ9.out⟩⟩, by simp [intOf]; omega⟩
          · have d1 : decide (1 ≤ kd) = false := decide_eq_false h1
            have S8' := S2.out
            rw [show p = p' from by rw [← Hq'.out]; unfold goP; rw [Hkd.out, if_neg (by omega), if_neg (by omega), if_neg (by omega), if_neg (by omega), if_neg (by omega)]] at S8'
            have S8 := Lib.hid S8'
            clear S8'
            go_wp2_with fail
            refine (vat_w S8.out.vi).mono ?_
            rintro e w8 ⟨rfl, b8⟩
            rw [HT.out]
            simp only [val76]
            obtain ⟨W9, hW9⟩ : ∃ W9, w8.alloc (.cells #[.string x.f0, .string x.f1] 76) = W9 := ⟨_, rfl⟩
            have bl9 : Below w8.heap.size w8 W9 := by rw [← hW9]; exact (Below.refl _ _).alloc (Nat.le_refl _) _
            have k9 : W9.heap[w8.heap.size]? = some (.cells #[.string x.f0, .string x.f1] 76) := by rw [← hW9]; exact World.alloc_heap_new w8 _
            have S9 := Lib.hid ((S8.out.below b8).below bl9)
            have K9 := Lib.hid k9
            clear b8 bl9 k9 z0 z1
            go_wp2_with (first | rw [hW9])
            refine (vtold_w S9.out.rv HQ9.out).mono ?_
            rintro e wa ⟨rfl, ba⟩
            rw [HT.out]
            simp only [val76]
            obtain ⟨Wb, hWb⟩ : ∃ Wb, wa.alloc (.cells #[.string x.f0, .string x.f1] 76) = Wb := ⟨_, rfl⟩
            have blb : Below wa.heap.size wa Wb := by rw [← hWb]; exact (Below.refl _ _).alloc (Nat.le_refl _) _
            have kb : Wb.heap[wa.heap.size]? = some (.cells #[.string x.f0, .string x.f1] 76) := by rw [← hWb]; exact World.alloc_heap_new wa _
            have ka := blk_below (blk_below K9.out ba) blb
            have a0 : Wb.cell? ⟨w8.heap.size, 0, none⟩ = some (.string x.f0) := by simp [World.cell?, ka]
            have a1 : Wb.cell? ⟨w8.heap.size, 1, none⟩ = some (.string x.f1) := by simp [World.cell?, ka]
            have b0 : Wb.cell? ⟨wa.heap.size, 0, none⟩ = some (.string x.f0) := by simp [World.cell?, kb]
            have b1 : Wb.cell? ⟨wa.heap.size, 1, none⟩ = some (.string x.f1) := by simp [World.cell?, kb]
            have Sb := Lib.hid ((S9.out.below ba).below blb)
            have hE := eqI_self x
            clear ba blb kb ka
            go_wp2_with (first | rw [hWb])
            exact ⟨⟨i + 1, by omega, by simp, Lib.hid ⟨_, _, Sb.out, HQ9.out⟩⟩, by simp [intOf]; omega⟩
        · obtain rfl : i = ways.length := by omega
          have hltz : decide ((ways.length : Int) < (ways.length : Int)) = false := decide_eq_false (by omega)
          go_wp2_with fail
          go_ret
          exact ⟨rfl, H2.out.2.2.trans (S1.out.bel.mono H2.out.2.2.size)⟩
theorem viewPlays_row (a0 : Option Addr) (len0 cap0 : Nat) (seq : Int) (a1 : Option Addr) (len1 cap1 : Nat) (w : World)
    (F0 : ∃ A len cap xs, Value.slice a0 len0 cap0 = .slice A len cap ∧ Kd.C (Kd.slice 44 PC.k44) w A len xs ∧ len ≤ cap ∧ len * 24 ≤ 140737488351232 ∧ (∀ p ∈ xs, p.length * 48 ≤ 140737488351232 ∧ ∀ y ∈ p, Fits y) ∧ (A = none → cap = 0))
    (hq : (Lit.int .u64 seq).wf = true)
    (F1 : ∃ A len cap xs, Value.slice a1 len1 cap1 = .slice A len cap ∧ Kd.C k92 w A len xs ∧ len ≤ cap ∧ len * 24 ≤ 140737488351232 ∧ (∀ p ∈ xs, True) ∧ (A = none → cap = 0)) :
    Calls Try.prog 20 #[.slice a0 len0 cap0, .int .u64 seq, .slice a1 len1 cap1] w fun e w' => e = .returned (.bool true) ∧ Below w.heap.size w w' := by
  obtain ⟨A, len, cap, xs, hv, h1, h2, _, h4, _⟩ := F0
  obtain ⟨B, n, d, ys, hu, k1, k2, k3, _⟩ := F1
  cases hv
  cases hu
  obtain rfl : len0 = xs.length := h1.1.symm
  obtain rfl : len1 = ys.length := k1.1.symm
  exact viewPlays_w _ _ xs seq _ _ ys w h1 h2 (fun l hl x hx => (h4 l hl).2 x hx) k1 (by omega)
end Go.Proofs.Ytehoojmalhloeaa.CM
