/- CompactOver: the plain law and the walk: the statement's function answers true. Its conditions are that its arguments can be read. -/
import Derived.Test.YtehoojmalhloeaaDP
import Derived.Test.YtehoojmalhloeaaDO
namespace Go.Proofs.Ytehoojmalhloeaa.CM
open Go.RowKit Go.Proofs.YtehoojmalhloeaaW.PrintWords
set_option linter.unusedVariables false
set_option linter.unusedSimpArgs false
set_option maxRecDepth 100000

/-- All of the elder list's entries are beneath those of their users. -/
def Beneath (l below : List PC.S44) : Prop := ∀ x ∈ l, ∀ y ∈ below, sameU x y = true → y.f0.f1 < x.f0.f1
theorem two_rise {l below : List PC.S44} (hl : l.Pairwise R) (hb : below.Pairwise R) (hd : Beneath l below) : (allL [l, below]).Pairwise R := by
  refine allL_rises _ (fun x hx => ?_) ?_
  · rcases List.mem_cons.1 hx with rfl | hx
    · exact hl
    · rw [List.mem_singleton.1 hx]; exact hb
  · simp only [List.flatten_cons, List.flatten_nil, List.append_nil]
    refine List.pairwise_append.2 ⟨hl.imp (fun h => .inl h), hb.imp (fun h => .inl h), fun x hx y hy => ?_⟩
    rcases R_total x y with h | h | ⟨hu, hs, _⟩
    · exact .inl h
    · exact .inr h
    · have := hd x hx y hy hu
      omega
theorem mem_two (l below : List PC.S44) (x : PC.S44) : x ∈ allL [l, below] ↔ x ∈ l ∨ x ∈ below := by
  rw [(allL_perm [l, below]).mem_iff]
  simp
theorem over_seen (snaps : List Int) (l below : List PC.S44) (hv : ∀ y ∈ l, okN y) (hp : l.Pairwise R) (hb : below.Pairwise R) (hd : Beneath l below) (s : Int) (hs : s ∈ snaps ∨ s = topU) : VS s [] (allL [dropL snaps false l, below]) = VS s [] (allL [l, below]) := by
  have hsub := dropL_sub snaps false l hv
  have hpa := two_rise (hp.sublist hsub) hb (fun x hx => hd x (hsub.subset hx))
  have hpl := two_rise hp hb hd
  -- of each entry of l's: the first of its user stays
  have first : ∀ x, x ∈ l → x.f0.f1 ≤ s → ∃ z, z ∈ dropL snaps false l ∧ sameU z x = true ∧ z.f0.f1 ≤ s ∧ (x = z ∨ R z x) := fun x hx hxs => by
    obtain ⟨z, hz1, hz2, hz3, hz4, hz5⟩ := first_counted snaps l hv hp s hs x hx hxs
    refine ⟨z, ?_, hz2, hz3, hz4 x hx (sameU_refl x) hxs⟩
    rw [mem_dropL snaps false l hv hp, filter_user l x z hz2]
    unfold stayU
    simpa using hz5
  refine VS_ext s _ _ hpa hpl (fun x => ⟨?_, ?_⟩)
  · rintro ⟨hx, h1, h2, h3⟩
    have hxl : x ∈ allL [l, below] := by
      rw [mem_two] at hx ⊢
      exact hx.imp (fun h => hsub.subset h) id
    refine ⟨hxl, h1, fun y hy hu hys hR => ?_, h3⟩
    rcases (mem_two l below y).1 hy with hy | hy
    · obtain ⟨z, hz1, hz2, hz3, hz4⟩ := first y hy hys
      have hzx : R z x := by
        rcases hz4 with rfl | h
        · exact hR
        · exact R_trans h hR
      refine h2 z ((mem_two _ _ z).2 (.inl hz1)) ?_ hz3 hzx
      rw [sameU_cong (sameU_symm hu)]
      exact hz2
    · exact h2 y ((mem_two _ _ y).2 (.inr hy)) hu hys hR
  · rintro ⟨hx, h1, h2, h3⟩
    have hxa : x ∈ allL [dropL snaps false l, below] := by
      rw [mem_two] at hx ⊢
      rcases hx with hx | hx
      · obtain ⟨z, hz1, hz2, hz3, hz4⟩ := first x hx h1
        rcases hz4 with rfl | h
        · exact .inl hz1
        · exact absurd h (h2 z ((mem_two _ _ z).2 (.inl (hsub.subset hz1))) hz2 hz3)
      · exact .inr hx
    refine ⟨hxa, h1, fun y hy hu hys hR => ?_, h3⟩
    refine h2 y ?_ hu hys hR
    rw [mem_two] at hy ⊢
    exact hy.imp (fun h => hsub.subset h) id

theorem C_two {W : World} {A1 A2 : Option Addr} {c1 c2 n1 n2 : Nat} {x1 x2 : List PC.S44} (h1 : Kd.C PC.k44 W A1 x1.length x1) (hc1 : x1.length ≤ c1) (h2 : Kd.C PC.k44 W A2 x2.length x2) (hc2 : x2.length ≤ c2) (e1 : n1 = x1.length) (e2 : n2 = x2.length) :
    Kd.C (Kd.slice 44 PC.k44) (W.alloc (.cells #[.slice A1 n1 c1, .slice A2 n2 c2] 22)) (some ⟨W.heap.size, 0, none⟩) 2 [x1, x2] := by
  subst e1 e2
  have hb : Below W.heap.size W (W.alloc (.cells #[.slice A1 x1.length c1, .slice A2 x2.length c2] 22)) := (Below.refl _ W).alloc (Nat.le_refl _) _
  have hn := World.news_of_block (cs := #[.slice A1 x1.length c1, .slice A2 x2.length c2]) (t := 22) (fr := (0, 0)) (World.alloc_heap_new W _)
  refine ⟨rfl, by decide, fun _ => ⟨_, rfl, fun j p hj => ?_⟩⟩
  rcases j with _ | _ | j
  · obtain rfl : x1 = p := by simpa using hj
    refine ⟨[.slice A1 x1.length c1], rfl, ⟨A1, c1, rfl, hc1, keepC h1 (Nat.le_refl _) hb⟩, fun i u hu => ?_⟩
    rcases i with _ | i
    · obtain rfl : Value.slice A1 x1.length c1 = u := by simpa using hu
      exact hn 0 _ rfl
    · simp at hu
  · obtain rfl : x2 = p := by simpa using hj
    refine ⟨[.slice A2 x2.length c2], rfl, ⟨A2, c2, rfl, hc2, keepC h2 (Nat.le_refl _) hb⟩, fun i u hu => ?_⟩
    rcases i with _ | i
    · obtain rfl : Value.slice A2 x2.length c2 = u := by simpa using hu
      exact hn 1 _ rfl
    · simp at hu
  · simp at hj
theorem all_w (A : Option Addr) (n c : Nat) (ls : List (List PC.S44)) (w : World) (hn : n = ls.length) (hr : Kd.C (Kd.slice 44 PC.k44) w A ls.length ls) (hc : ls.length ≤ c) (hb : ls.flatten.length < 2932031007402) (hl : ls.length ≤ 35184372088832) :
    Calls Try.prog 32 #[.slice A n c] w fun e w' => ∃ v, e = .returned v ∧ Kd.R PC.k44 44 w' w.heap.size (fun _ => True) v (allL ls) ∧ Below w.heap.size w w' := by
  subst hn
  exact PC.staddleref16_All.calls _ A c ls (allL ls) w hr hc (All_f ls _ hb hl (Nat.le_refl _))

set_option maxHeartbeats 16000000 in
theorem compactOver_w (A : Option Addr) (n c : Nat) (l : List PC.S44) (Ab : Option Addr) (nb cb : Nat) (below : List PC.S44) (A2 : Option Addr) (n2 c2 : Nat) (snaps : List Int) (w : World) (hr : Kd.C PC.k44 w A n l) (hc : n ≤ c) (hrb : Kd.C PC.k44 w Ab nb below) (hcb : nb ≤ cb)
    (hr2 : Kd.C (Kd.int .u64) w A2 n2 snaps) (hc2 : n2 ≤ c2) (hv : ∀ y ∈ l, okN y) :
    Calls Try.prog 6 #[.slice A n c, .slice Ab nb cb, .slice A2 n2 c2] w fun e w' => e = .returned (.bool true) ∧ Below w.heap.size w w' := by
  obtain rfl : l.length = n := hr.1
  obtain rfl : snaps.length = n2 := hr2.1
  obtain ⟨m, hm⟩ : ∃ m, m = if 200 < l.length then 200 else l.length := ⟨_, rfl⟩
  obtain ⟨m2, hm2⟩ : ∃ m2, m2 = if 50 < snaps.length then 50 else snaps.length := ⟨_, rfl⟩
  have few := few_w A l.length c A2 snaps.length c2 m m2
  have hml : m ≤ l.length ∧ m ≤ 200 := by rw [hm]; split <;> omega
  have hml2 : m2 ≤ snaps.length ∧ m2 ≤ 50 := by rw [hm2]; split <;> omega
  have hcl := Kd.C_take hr hml.1
  have hcl2 := Kd.C_take hr2 hml2.1
  obtain ⟨l1, hl1⟩ : ∃ l1, l.take m = l1 := ⟨_, rfl⟩
  obtain ⟨s1, hs1⟩ : ∃ s1, snaps.take m2 = s1 := ⟨_, rfl⟩
  have hlen1 : l1.length = m := by rw [← hl1, List.length_take]; omega
  have hlen2 : s1.length = m2 := by rw [← hs1, List.length_take]; omega
  have hv1 : ∀ y ∈ l1, okN y := fun y hy => hv y (by rw [← hl1] at hy; exact List.mem_of_mem_take hy)
  rw [hl1] at hcl
  rw [hs1] at hcl2
  have HF := Lib.hid (fun w => few w hm hm2 hc hc2)
  have HB := Lib.hid (And.intro hml hml2)
  have HC := Lib.hid (And.intro hcl hcl2)
  have HV := Lib.hid hv1
  have hmc : m ≤ c := by omega
  have hmc2 : m2 ≤ c2 := by omega
  have hm200 : m ≤ 200 := hml.2
  have hm50 : m2 ≤ 50 := hml2.2
  clear few hm hm2 hml hml2 hcl hcl2 hv1 hv hr hr2 hl1 hs1
  have H1 := Lib.hid hlen1
  have H2 := Lib.hid hlen2
  clear hlen1 hlen2
  obtain rfl : below.length = nb := hrb.1
  have HBl := Lib.hid hrb
  clear hrb
  by_cases hbig : 200 < below.length
  · have d0 : decide (200 < below.length) = true := decide_eq_true hbig
    have d0' : decide ((200 : Int) < (below.length : Int)) = true := decide_eq_true (by omega)
    go_enter Try.func6, Try.ntmps6
    go_wp2_with fail
    refine (awake19_w _).mono ?_
    rintro e w1 ⟨rfl, b1⟩
    have B1 := Lib.hid b1
    clear b1
    go_wp2_with fail
    refine (HF.out _).mono ?_
    rintro e w1 ⟨rfl, rfl⟩
    go_wp2_with fail
    go_ret
    exact ⟨rfl, B1.out⟩
  · have d0 : decide (200 < below.length) = false := decide_eq_false hbig
    have d0' : decide ((200 : Int) < (below.length : Int)) = false := decide_eq_false (by omega)
    have hb200 : below.length ≤ 200 := by omega
    clear hbig
    obtain ⟨X, E, hX⟩ : ∃ X E, dropA s1 false l1 = (X, E) := ⟨_, _, rfl⟩
    obtain ⟨rb, hrb⟩ : ∃ rb, risesB below = rb := ⟨_, rfl⟩
    have hXl : X.length ≤ m := by have := dropA_len s1 false l1; rw [hX, H1.out] at this; exact this
    have HX := Lib.hid (And.intro hX hrb)
    clear hX hrb
    go_enter Try.func6, Try.ntmps6
    go_wp2_with fail
    refine (awake19_w _).mono ?_
    rintro e w1 ⟨rfl, b1⟩
    have B1 := Lib.hid b1
    clear b1
    go_wp2_with fail
    refine (HF.out _).mono ?_
    rintro e w1 ⟨rfl, rfl⟩
    have D := drop_any A c l1 A2 m2 c2 s1 false w1 (keepC HC.out.1 (Nat.le_refl _) B1.out) (by rw [H1.out]; exact hmc) H2.out.symm (keepC HC.out.2 (Nat.le_refl _) B1.out) (by have := H1.out; omega)
    rw [H1.out, HX.out.1] at D
    have HD := Lib.hid D
    clear D
    go_wp2_with fail
    refine HD.out.mono ?_
    rintro e w4 ⟨va, rfl, ra, b4⟩
    obtain ⟨Aa, ca, hva, hla, hCa⟩ := Kd.R_reads ra
    try simp only at hva hla hCa
    subst hva
    have B4 := Lib.hid (B1.out.trans (b4.mono B1.out.size))
    have G4 := Lib.hid (And.intro hla hCa)
    clear ra b4 hla hCa HD
    have HD := Lib.hid (rises16_w Ab below.length cb below rb w4 rfl (keepC HBl.out (Nat.le_refl _) B4.out) hcb (by omega) HX.out.2)
    go_wp2_with fail
    refine HD.out.mono ?_
    rintro e w5 ⟨rfl, b5⟩
    have B5 := Lib.hid (And.intro b5 (B4.out.trans (b5.mono B4.out.size)))
    clear b5 HD
    by_cases hE : E = 0 ∧ rb = true
    · obtain ⟨rfl, rfl⟩ := hE
      have hup : risesB l1 = true := by
        by_cases h : risesB l1 = true
        · exact h
        · have h1 := HX.out.1
          unfold dropA at h1
          rw [if_neg h] at h1
          have := (Prod.mk.inj h1).2
          omega
      have hXX : dropL s1 false l1 = X := by
        have h1 := HX.out.1
        unfold dropA at h1
        rw [if_pos hup] at h1
        exact (Prod.mk.inj h1).1
      have HUP := Lib.hid (And.intro hup hXX)
      clear hup hXX
      go_wp2_with fail
      go_loopw [11] (fun t wr => ∃ i : Nat, i ≤ m ∧ t = .int .i64 (i : Int) ∧ Hid (∀ i', i' < i → ∀ y ∈ below, sameU (l1.getD i' PC.z44) y = true → y.f0.f1 < (l1.getD i' PC.z44).f0.f1) ∧ Hid (∃ q, wr = w5.drewN q)) (fun t _ => m - (intOf t).toNat)
      case atStart => exact ⟨0, by omega, rfl, Lib.hid (fun i' h => absurd h (by omega)), Lib.hid ⟨0, rfl⟩⟩
      case round =>
        obtain ⟨i, hi, rfl, HI, HW⟩ := hrel
        obtain ⟨q0, hq0⟩ := HW.out
        subst hq0
        have hw1 : IntKind.i64.wrap ((i : Int) + 1) = (i : Int) + 1 := by rw [IntWalk.i64_in _ (by omega)]
        by_cases hlt : i < m
        · have d1 : decide ((i : Int) < (m : Int)) = true := decide_eq_true (by omega)
          obtain ⟨ad, e, X0⟩ := at44 (keepC HC.out.1 (Nat.le_refl _) B5.out.2) i (by rw [H1.out]; exact hlt)
          subst e
          obtain ⟨x, hx⟩ : ∃ x, l1.getD i PC.z44 = x := ⟨_, rfl⟩
          rw [hx] at X0
          obtain ⟨x0, x1, x2, x3⟩ := X0
          have HX0 := Lib.hid hx
          clear hx
          have p0 : (i < m) = True := eq_true hlt
          go_wp2_with fail
          go_loopw [12] (fun t wi => ∃ k : Nat, k ≤ below.length ∧ t = .int .i64 (k : Int) ∧ Hid (∀ k', k' < k → sameU x (below.getD k' PC.z44) = true → (below.getD k' PC.z44).f0.f1 < x.f0.f1) ∧ Hid (∃ q, wi = w5.drewN q)) (fun t _ => below.length - (intOf t).toNat)
          case atStart => exact ⟨0, by omega, rfl, Lib.hid (fun k' h => absurd h (by omega)), Lib.hid ⟨_, rfl⟩⟩
          case round =>
            obtain ⟨k, hk, rfl, HK, HW2⟩ := hrel
            obtain ⟨q1, hq1⟩ := HW2.out
            subst hq1
            have hw2 : IntKind.i64.wrap ((k : Int) + 1) = (k : Int) + 1 := by rw [IntWalk.i64_in _ (by omega)]
            by_cases hlt2 : k < below.length
            · have d2 : decide ((k : Int) < (below.length : Int)) = true := decide_eq_true (by omega)
              obtain ⟨ad2, e2, Y0⟩ := at44 (keepC HBl.out (Nat.le_refl _) B5.out.2) k hlt2
              subst e2
              obtain ⟨y, hy⟩ : ∃ y, below.getD k PC.z44 = y := ⟨_, rfl⟩
              rw [hy] at Y0
              obtain ⟨y0, y1, y2, y3⟩ := Y0
              have HY0 := Lib.hid hy
              clear hy
              have p1 : (k < below.length) = True := eq_true hlt2
              have next : ¬ (sameU x y = true ∧ x.f0.f1 ≤ y.f0.f1) → Hid (∀ k', k' < k + 1 → sameU x (below.getD k' PC.z44) = true → (below.getD k' PC.z44).f0.f1 < x.f0.f1) := fun hn => Lib.hid (fun k' hk' hu => by
                rcases Nat.lt_succ_iff_lt_or_eq.1 hk' with h | rfl
                · exact HK.out k' h hu
                · rw [HY0.out] at hu ⊢
                  have : ¬ x.f0.f1 ≤ y.f0.f1 := fun h => hn ⟨hu, h⟩
                  omega)
              have HN := Lib.hid next
              clear next
              by_cases hu : (x.f0.f0.toList == y.f0.f0.toList) = true
              · by_cases hs : x.f0.f1 ≤ y.f0.f1
                · have d3 : decide (x.f0.f1 ≤ y.f0.f1) = true := decide_eq_true hs
                  go_wp2_with fail
                  go_quiet (fail)
                  go_wp2
                  go_ret
                  exact ⟨rfl, below_drewN (below_drewN B5.out.2 _) _⟩
                · have d3 : decide (x.f0.f1 ≤ y.f0.f1) = false := decide_eq_false hs
                  have hn := HN.out (fun h => hs h.2)
                  go_wp2_with fail
                  go_quiet (fail)
                  go_wp2
                  exact ⟨⟨k + 1, by omega, by simp, hn, Lib.hid ⟨_, rfl⟩⟩, by simp [intOf]; omega⟩
              · have hn := HN.out (fun h => hu h.1)
                rw [Bool.not_eq_true] at hu
                go_wp2_with fail
                go_quiet (fail)
                go_wp2
                exact ⟨⟨k + 1, by omega, by simp, hn, Lib.hid ⟨_, rfl⟩⟩, by simp [intOf]; omega⟩
            · have d2 : decide ((k : Int) < (below.length : Int)) = false := decide_eq_false (by omega)
              go_wp2_with fail
              refine ⟨⟨i + 1, by omega, by simp, Lib.hid (fun i' hi' y hy hu => ?_), Lib.hid ⟨_, rfl⟩⟩, by simp [intOf]; omega⟩
              rcases Nat.lt_succ_iff_lt_or_eq.1 hi' with h | rfl
              · exact HI.out i' h y hy hu
              · rw [HX0.out] at hu ⊢
                obtain ⟨k', hk', rfl⟩ := List.getElem_of_mem hy
                have e9 : below.getD k' PC.z44 = below[k'] := by rw [List.getD_eq_getElem?_getD, List.getElem?_eq_getElem hk']; rfl
                rw [← e9] at hu ⊢
                exact HK.out k' (by omega) hu
        · have d1 : decide ((i : Int) < (m : Int)) = false := decide_eq_false (by omega)
          have hbe : Beneath l1 below := fun x hx y hy hu => by
            obtain ⟨k', hk', rfl⟩ := List.getElem_of_mem hx
            have e9 : l1.getD k' PC.z44 = l1[k'] := by rw [List.getD_eq_getElem?_getD, List.getElem?_eq_getElem hk']; rfl
            rw [← e9] at hu ⊢
            exact HI.out k' (by have := H1.out; omega) y hy hu
          have hO : ∀ s, (s ∈ s1 ∨ s = topU) → VS s [] (allL [X, below]) = VS s [] (allL [l1, below]) := fun s hs => by
            have := over_seen s1 l1 below HV.out (pw_of_rises l1 HUP.out.1) (pw_of_rises below HX.out.2) hbe s hs
            rw [HUP.out.2] at this
            exact this
          have hLen : (allL [X, below]).length ≤ 400 ∧ (allL [l1, below]).length ≤ 400 := by
            have h1 := (allL_perm [X, below]).length_eq
            have h2 := (allL_perm [l1, below]).length_eq
            simp only [List.flatten_cons, List.flatten_nil, List.append_nil, List.length_append] at h1 h2
            have := H1.out
            omega
          have HO := Lib.hid hO
          have HLen := Lib.hid hLen
          clear hbe hO hLen HI
          go_wp2_with fail
          go_loopw [13] (fun t wr => ∃ j : Nat, j ≤ m2 + 1 ∧ t = .int .i64 (j : Int) ∧ Hid (Below w5.heap.size w5 wr)) (fun t _ => m2 + 1 - (intOf t).toNat)
          case atStart => exact ⟨0, by omega, rfl, Lib.hid (below_drewN (Below.refl _ _) _)⟩
          case round =>
            obtain ⟨j, hj, rfl, HR⟩ := hrel
            by_cases hle : j ≤ m2
            · have dle : decide ((j : Int) ≤ (m2 : Int)) = true := decide_eq_true (by omega)
              have hw1 : IntKind.i64.wrap ((j : Int) + 1) = (j : Int) + 1 := by rw [IntWalk.i64_in _ (by omega)]
              have BR := Lib.hid (And.intro (B5.out.1.trans (HR.out.mono B5.out.1.size)) (B5.out.2.trans (HR.out.mono B5.out.2.size)))
              by_cases hlt : j < m2
              · have dlt : decide ((j : Int) < (m2 : Int)) = true := decide_eq_true (by omega)
                obtain ⟨ad, e, hcell⟩ := kint_cell (keepC HC.out.2 (Nat.le_refl _) BR.out.2) j (by rw [H2.out]; exact hlt)
                subst e
                obtain ⟨s, hs⟩ : ∃ s, s1.getD j 0 = s := ⟨_, rfl⟩
                rw [hs] at hcell
                have hsm : s ∈ s1 := by
                  rw [← hs, List.getD_eq_getElem?_getD, List.getElem?_eq_getElem (by rw [H2.out]; exact hlt)]
                  exact List.getElem_mem _
                have HS := Lib.hid (HO.out s (.inl hsm))
                have p0 : (j < m2) = True := eq_true hlt
                clear hs hsm
                go_wp2_with fail
                have h2c := C_two (keepC G4.out.2 (Nat.le_refl _) BR.out.1) G4.out.1 (keepC HBl.out (Nat.le_refl _) BR.out.2) hcb rfl rfl
                obtain ⟨W6, hW6⟩ : ∃ W6, wr.alloc (.cells #[.slice Aa X.length ca, .slice Ab below.length cb] 22) = W6 := ⟨_, rfl⟩
                rw [hW6] at h2c
                have bA : Below wr.heap.size wr W6 := by rw [← hW6]; exact (Below.refl _ wr).alloc (Nat.le_refl _) _
                have HD := Lib.hid (all_w (some ⟨wr.heap.size, 0, none⟩) 2 2 [X, below] W6 rfl h2c (by simp) (by simp; omega) (by simp))
                have BA := Lib.hid bA
                clear h2c bA
                go_wp2_with fail
                try rw [hW6]
                refine HD.out.mono ?_
                rintro e w7 ⟨v7, rfl, r7, b7⟩
                obtain ⟨A7, k7, hv7, hl7, hC7⟩ := Kd.R_reads r7
                subst hv7
                have B7 := Lib.hid (HR.out.trans ((BA.out.trans (b7.mono BA.out.size)).mono HR.out.size))
                have HD := Lib.hid (seen_w A7 _ k7 (allL [X, below]) s w7 rfl hC7 hl7 (by have := HLen.out; omega))
                clear r7 b7 hl7 hC7
                go_wp2_with fail
                refine HD.out.mono ?_
                rintro e w8 ⟨v8, rfl, r8, b8⟩
                obtain ⟨A8, k8, hv8, hl8, hC8⟩ := Kd.R_reads r8
                subst hv8
                have B8 := Lib.hid (B7.out.trans (b8.mono B7.out.size))
                have G8 := Lib.hid (And.intro hl8 hC8)
                clear r8 b8 hl8 hC8 hW6
                have h2c := C_two (keepC HC.out.1 (Nat.le_refl _) (B5.out.2.trans (B8.out.mono B5.out.2.size))) (by rw [H1.out]; exact hmc) (keepC HBl.out (Nat.le_refl _) (B5.out.2.trans (B8.out.mono B5.out.2.size))) hcb H1.out.symm rfl
                obtain ⟨W6, hW6⟩ : ∃ W6, w8.alloc (.cells #[.slice A m c, .slice Ab below.length cb] 22) = W6 := ⟨_, rfl⟩
                rw [hW6] at h2c
                have bA : Below w8.heap.size w8 W6 := by rw [← hW6]; exact (Below.refl _ w8).alloc (Nat.le_refl _) _
                have HD := Lib.hid (all_w (some ⟨w8.heap.size, 0, none⟩) 2 2 [l1, below] W6 rfl h2c (by simp) (by have := H1.out; simp; omega) (by simp))
                have BA := Lib.hid bA
                clear h2c bA
                go_wp2_with fail
                try rw [hW6]
                refine HD.out.mono ?_
                rintro e w9 ⟨v9, rfl, r9, b9⟩
                obtain ⟨A9, k9, hv9, hl9, hC9⟩ := Kd.R_reads r9
                subst hv9
                have B9 := Lib.hid (And.intro (BA.out.trans (b9.mono BA.out.size)) (B8.out.trans ((BA.out.trans (b9.mono BA.out.size)).mono B8.out.size)))
                have HD := Lib.hid (seen_w A9 _ k9 (allL [l1, below]) s w9 rfl hC9 hl9 (by have := HLen.out; omega))
                clear r9 b9 hl9 hC9
                go_wp2_with fail
                refine HD.out.mono ?_
                rintro e w10 ⟨v10, rfl, r10, b10⟩
                rw [← HS.out] at r10
                obtain ⟨A10, k10, hv10, hl10, hC10⟩ := Kd.R_reads r10
                subst hv10
                have HD := Lib.hid (same17_w A8 _ k8 A10 _ k10 (VS s [] (allL [X, below])) w10 rfl rfl (keepC G8.out.2 (Nat.le_refl _) (B9.out.1.trans (b10.mono B9.out.1.size))) G8.out.1 hC10 hl10 (by have := VS_len s (allL [X, below]) []; have := HLen.out; omega))
                have B10 := Lib.hid (B9.out.2.trans (b10.mono B9.out.2.size))
                clear r10 b10 hl10 hC10 hW6
                go_wp2_with fail
                refine HD.out.mono ?_
                rintro e w11 ⟨rfl, b11⟩
                have B11 := Lib.hid (B10.out.trans (b11.mono B10.out.size))
                clear b11 HD
                go_wp2_with fail
                exact ⟨⟨j + 1, by omega, by simp, B11⟩, by simp [intOf]; omega⟩
              · have dlt : decide ((j : Int) < (m2 : Int)) = false := decide_eq_false (by omega)
                have HS := Lib.hid (HO.out 18446744073709551615 (.inr rfl))
                go_wp2_with fail
                have h2c := C_two (keepC G4.out.2 (Nat.le_refl _) BR.out.1) G4.out.1 (keepC HBl.out (Nat.le_refl _) BR.out.2) hcb rfl rfl
                obtain ⟨W6, hW6⟩ : ∃ W6, wr.alloc (.cells #[.slice Aa X.length ca, .slice Ab below.length cb] 22) = W6 := ⟨_, rfl⟩
                rw [hW6] at h2c
                have bA : Below wr.heap.size wr W6 := by rw [← hW6]; exact (Below.refl _ wr).alloc (Nat.le_refl _) _
                have HD := Lib.hid (all_w (some ⟨wr.heap.size, 0, none⟩) 2 2 [X, below] W6 rfl h2c (by simp) (by simp; omega) (by simp))
                have BA := Lib.hid bA
                clear h2c bA
                go_wp2_with fail
                try rw [hW6]
                refine HD.out.mono ?_
                rintro e w7 ⟨v7, rfl, r7, b7⟩
                obtain ⟨A7, k7, hv7, hl7, hC7⟩ := Kd.R_reads r7
                subst hv7
                have B7 := Lib.hid (HR.out.trans ((BA.out.trans (b7.mono BA.out.size)).mono HR.out.size))
                have HD := Lib.hid (seen_w A7 _ k7 (allL [X, below]) 18446744073709551615 w7 rfl hC7 hl7 (by have := HLen.out; omega))
                clear r7 b7 hl7 hC7
                go_wp2_with fail
                refine HD.out.mono ?_
                rintro e w8 ⟨v8, rfl, r8, b8⟩
                obtain ⟨A8, k8, hv8, hl8, hC8⟩ := Kd.R_reads r8
                subst hv8
                have B8 := Lib.hid (B7.out.trans (b8.mono B7.out.size))
                have G8 := Lib.hid (And.intro hl8 hC8)
                clear r8 b8 hl8 hC8 hW6
                have h2c := C_two (keepC HC.out.1 (Nat.le_refl _) (B5.out.2.trans (B8.out.mono B5.out.2.size))) (by rw [H1.out]; exact hmc) (keepC HBl.out (Nat.le_refl _) (B5.out.2.trans (B8.out.mono B5.out.2.size))) hcb H1.out.symm rfl
                obtain ⟨W6, hW6⟩ : ∃ W6, w8.alloc (.cells #[.slice A m c, .slice Ab below.length cb] 22) = W6 := ⟨_, rfl⟩
                rw [hW6] at h2c
                have bA : Below w8.heap.size w8 W6 := by rw [← hW6]; exact (Below.refl _ w8).alloc (Nat.le_refl _) _
                have HD := Lib.hid (all_w (some ⟨w8.heap.size, 0, none⟩) 2 2 [l1, below] W6 rfl h2c (by simp) (by have := H1.out; simp; omega) (by simp))
                have BA := Lib.hid bA
                clear h2c bA
                go_wp2_with fail
                try rw [hW6]
                refine HD.out.mono ?_
                rintro e w9 ⟨v9, rfl, r9, b9⟩
                obtain ⟨A9, k9, hv9, hl9, hC9⟩ := Kd.R_reads r9
                subst hv9
                have B9 := Lib.hid (And.intro (BA.out.trans (b9.mono BA.out.size)) (B8.out.trans ((BA.out.trans (b9.mono BA.out.size)).mono B8.out.size)))
                have HD := Lib.hid (seen_w A9 _ k9 (allL [l1, below]) 18446744073709551615 w9 rfl hC9 hl9 (by have := HLen.out; omega))
                clear r9 b9 hl9 hC9
                go_wp2_with fail
                refine HD.out.mono ?_
                rintro e w10 ⟨v10, rfl, r10, b10⟩
                rw [← HS.out] at r10
                obtain ⟨A10, k10, hv10, hl10, hC10⟩ := Kd.R_reads r10
                subst hv10
                have HD := Lib.hid (same17_w A8 _ k8 A10 _ k10 (VS 18446744073709551615 [] (allL [X, below])) w10 rfl rfl (keepC G8.out.2 (Nat.le_refl _) (B9.out.1.trans (b10.mono B9.out.1.size))) G8.out.1 hC10 hl10 (by have := VS_len 18446744073709551615 (allL [X, below]) []; have := HLen.out; omega))
                have B10 := Lib.hid (B9.out.2.trans (b10.mono B9.out.2.size))
                clear r10 b10 hl10 hC10 hW6
                go_wp2_with fail
                refine HD.out.mono ?_
                rintro e w11 ⟨rfl, b11⟩
                have B11 := Lib.hid (B10.out.trans (b11.mono B10.out.size))
                clear b11 HD
                go_wp2_with fail
                exact ⟨⟨j + 1, by omega, by simp, B11⟩, by simp [intOf]; omega⟩
            · have dle : decide ((j : Int) ≤ (m2 : Int)) = false := decide_eq_false (by omega)
              go_wp2_with fail
              go_ret
              exact ⟨rfl, B5.out.2.trans (HR.out.mono B5.out.2.size)⟩
    · have hE' : (E != 0) = true ∨ ((E != 0) = false ∧ rb = false) := by
        by_cases h : E = 0
        · subst h
          exact .inr ⟨rfl, by cases rb <;> simp_all⟩
        · exact .inl (by simp [h])
      rcases hE' with h | ⟨h, rfl⟩
      · go_wp2_with fail
        go_ret
        exact ⟨rfl, B5.out.2⟩
      · go_wp2_with fail
        go_ret
        exact ⟨rfl, B5.out.2⟩

theorem compactOver_row (a0 : Option Addr) (len0 cap0 : Nat) (a1 : Option Addr) (len1 cap1 : Nat) (a2 : Option Addr) (len2 cap2 : Nat) (w : World)
    (F0 : ∃ A len cap xs, Value.slice a0 len0 cap0 = .slice A len cap ∧ Kd.C PC.k44 w A len xs ∧ len ≤ cap ∧ len * 48 ≤ 140737488351232 ∧ (∀ p ∈ xs, Fits p) ∧ (A = none → cap = 0))
    (F1 : ∃ A len cap xs, Value.slice a1 len1 cap1 = .slice A len cap ∧ Kd.C PC.k44 w A len xs ∧ len ≤ cap ∧ len * 48 ≤ 140737488351232 ∧ (∀ p ∈ xs, Fits p) ∧ (A = none → cap = 0))
    (F2 : ∃ A len cap xs, Value.slice a2 len2 cap2 = .slice A len cap ∧ Kd.C (Kd.int .u64) w A len xs ∧ len ≤ cap ∧ len * 8 ≤ 140737488351232 ∧ (∀ p ∈ xs, 0 ≤ p ∧ p ≤ 18446744073709551615) ∧ (A = none → cap = 0)) :
    Calls Try.prog 6 #[.slice a0 len0 cap0, .slice a1 len1 cap1, .slice a2 len2 cap2] w fun e w' => e = .returned (.bool true) ∧ Below w.heap.size w w' := by
  obtain ⟨A, len, cap, xs, h0, h1, h2, _, h3, _⟩ := F0
  obtain ⟨A1, len1, cap1, xs1, j0, j1, j2, _, j3, _⟩ := F1
  obtain ⟨A2, len2, cap2, xs2, k0, k1, k2, _, k3, k4⟩ := F2
  cases h0
  cases j0
  cases k0
  exact compactOver_w _ _ _ xs _ _ _ xs1 _ _ _ xs2 w h1 h2 j1 j2 k1 k2 (fun y hy => (h3 y hy).okN)

end Go.Proofs.Ytehoojmalhloeaa.CM
