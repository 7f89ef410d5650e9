/- view: two views at once; the statements' awake; of none. -/
import Derived.Test.YtehoojmalhloeaaVE
import Derived.Test.YtehoojmalhloeaaNM
import Derived.Test.YtehoojmalhloeaaPCx2
namespace Go.Proofs.Ytehoojmalhloeaa.CM
open Go.RowKit Go.Proofs.YtehoojmalhloeaaW.PrintWords
set_option linter.unusedVariables false
set_option linter.unusedSimpArgs false
set_option maxRecDepth 100000
section
variable {w0 w w1 : World} {V X U Y : Nat} {s t : Sh} {c d : Int} {h1 h2 h3 : Option PC.S76} {G K : Nat → Prop}
/-- Two views that share nothing. -/
structure V2 (w0 w : World) (V X : Nat) (s : Sh) (c : Int) (h1 : Option PC.S76) (G : Nat → Prop) (U Y : Nat) (t : Sh) (d : Int) (h2 : Option PC.S76) (K : Nat → Prop) : Prop where
  v : Vi w V X s c h1 G
  u : Vi w U Y t d h2 K
  dis : ∀ b, G b → ¬ K b
  lo : ∀ b, G b → w0.heap.size ≤ b
  lo' : ∀ b, K b → w0.heap.size ≤ b
  bel : Below w0.heap.size w0 w
theorem V2.swap (h : V2 w0 w V X s c h1 G U Y t d h2 K) : V2 w0 w U Y t d h2 K V X s c h1 G := ⟨h.u, h.v, fun b a e => h.dis b e a, h.lo', h.lo, h.bel⟩
theorem V2.below (h : V2 w0 w V X s c h1 G U Y t d h2 K) (hb : Below w.heap.size w w1) : V2 w0 w1 V X s c h1 G U Y t d h2 K := ⟨h.v.below hb, h.u.below hb, h.dis, h.lo, h.lo', h.bel.trans (hb.mono h.bel.size)⟩
/-- A block that is neither's. -/
def B2 (w : World) (G K : Nat → Prop) (k : Nat) (o : Obj) : Prop := w.heap[k]? = some o ∧ ¬ G k ∧ ¬ K k
theorem B2.below {k : Nat} {o : Obj} (h : B2 w G K k o) (hb : Below w.heap.size w w1) : B2 w1 G K k o := ⟨blk_below h.1 hb, h.2⟩
theorem B2.swap {k : Nat} {o : Obj} (h : B2 w G K k o) : B2 w K G k o := ⟨h.1, h.2.2, h.2.1⟩
theorem V2.go (h : V2 w0 w V X s c h1 G U Y t d h2 K) (g : VGo w V X s c G h3 w1) : ∃ G', V2 w0 w1 V X s c h3 G' U Y t d h2 K ∧ ∀ k o, B2 w G K k o → B2 w1 G' K k o := by
  obtain ⟨G', hv, hf, hn⟩ := g
  refine ⟨G', ⟨hv, h.u.fr hf (fun b a => h.dis b a), fun b hb hk => ?_, fun b hb => ?_, h.lo', h.bel.trans (hf.to_below h.bel.size h.lo)⟩, fun k o hb => ?_⟩
  · rcases hn b hb with e | e
    · exact h.dis b e hk
    · have := h.u.lt hk; omega
  · rcases hn b hb with e | e
    · exact h.lo b e
    · have := h.bel.size; omega
  · have hl := (Array.getElem?_eq_some_iff.1 hb.1).1
    refine ⟨(hf.block _ hl hb.2.1).trans hb.1, fun hg => ?_, hb.2.2⟩
    rcases hn k hg with e | e
    · exact hb.2.1 e
    · omega
theorem V2.new (h : V2 w0 w V X s c h1 G U Y t d h2 K) (o : Obj) : B2 (w.alloc o) G K w.heap.size o :=
  ⟨World.alloc_heap_new w o, fun e => by have := h.v.lt e; omega, fun e => by have := h.u.lt e; omega⟩
theorem V2.mk' (hv : Vi w V X s c h1 G) (hlo : ∀ b, G b → w0.heap.size ≤ b) (hb0 : Below w0.heap.size w0 w) (hb : Below w.heap.size w w1) (hu : Vi w1 U Y t d h2 K) (hlo2 : ∀ b, K b → w.heap.size ≤ b) : V2 w0 w1 V X s c h1 G U Y t d h2 K :=
  ⟨hv.below hb, hu, fun b h3 h4 => by have := hv.lt h3; have := hlo2 b h4; omega, hlo, fun b h4 => by have := hlo2 b h4; have := hb0.size; omega, hb0.trans (hb.mono hb0.size)⟩
end
theorem C_one {W : World} {A : Option Addr} {n c : Nat} {x : List PC.S44} (h : Kd.C PC.k44 W A x.length x) (hc : x.length ≤ c) (e : n = x.length) :
    Kd.C (Kd.slice 44 PC.k44) (W.alloc (.cells #[.slice A n c] 22)) (some ⟨W.heap.size, 0, none⟩) 1 [x] := by
  subst e
  have hb : Below W.heap.size W (W.alloc (.cells #[.slice A x.length c] 22)) := (Below.refl _ W).alloc (Nat.le_refl _) _
  have hn := World.news_of_block (cs := #[.slice A x.length c]) (t := 22) (fr := (0, 0)) (World.alloc_heap_new W _)
  refine ⟨rfl, by decide, fun _ => ⟨_, rfl, fun j p hj => ?_⟩⟩
  rcases j with _ | j
  · obtain rfl : x = p := by simpa using hj
    refine ⟨[.slice A x.length c], rfl, ⟨A, c, rfl, hc, keepC h (Nat.le_refl _) hb⟩, fun i u hu => ?_⟩
    rcases i with _ | i
    · obtain rfl : Value.slice A x.length c = u := by simpa using hu
      exact hn 0 _ rfl
    · simp at hu
  · simp at hj
def vL : List PC.S44 := [⟨⟨⟨#[97]⟩, 5, 0⟩, ⟨#[]⟩⟩, ⟨⟨⟨#[97]⟩, 3, 1⟩, ⟨#[120]⟩⟩, ⟨⟨⟨#[98]⟩, 4, 1⟩, ⟨#[121]⟩⟩]
theorem vL_rises : risesB vL = true := by decide
def iA : PC.S76 := ⟨⟨#[97]⟩, ⟨#[120]⟩⟩
def iB : PC.S76 := ⟨⟨#[98]⟩, ⟨#[121]⟩⟩
theorem vL_1 : onS 4 none vL = some iA := by rfl
theorem vL_2 : onS 4 none (vL.drop (lowK vL (st (up0 iA.f0)))) = some iB := by rfl
theorem vL_3 : onS 5 none vL = some iB := by simp [onS, skp, vL, iB, ByteArray.toList_eq]
theorem vL_4 : lowK vL (st iB.f0) = 2 := by rfl
theorem vL_5 : finB (bkS 5 none (vL.take 2).reverse) = none := by simp [bkS, stp, nxF, oth, finB, vL, ByteArray.toList_eq]
theorem vL_upto {s : Sh} (hr : Ris s) (hL : s.L = [vL]) : upto s s.N = vL ∧ s.N = 3 := by
  have h := upto_one hr (l := vL) (by rw [hL]; simp) (pw_of_rises _ vL_rises)
  exact ⟨h, by rw [← upto_len s s.N, h]; rfl⟩
theorem vi_ris {w : World} {V X : Nat} {s : Sh} {c : Int} {h : Option PC.S76} {G : Nat → Prop} (hv : Vi w V X s c h G) : Ris s := by
  obtain ⟨q, F, hv, hb, hi, _⟩ := hv
  exact ris_of hi
attribute [local go_sem high] PC.eqA76
set_option maxHeartbeats 8000000 in
theorem awake17_w (w : World) : Calls Try.prog 48 #[] w fun e w' => e = .returned (.bool true) ∧ Below w.heap.size w w' := by
  obtain ⟨W1, hW1⟩ : ∃ W1, w.alloc (.cells #[.string ⟨#[97]⟩, .int .u64 5, .int .i64 0, .string ⟨#[]⟩, .string ⟨#[97]⟩, .int .u64 3, .int .i64 1, .string ⟨#[120]⟩, .string ⟨#[98]⟩, .int .u64 4, .int .i64 1, .string ⟨#[121]⟩] 44) = W1 := ⟨_, rfl⟩
  have B1 : Below w.heap.size w W1 := by rw [← hW1]; exact (Below.refl _ _).alloc (Nat.le_refl _) _
  have C1 : Kd.C PC.k44 W1 (some ⟨w.heap.size, 0, none⟩) 3 vL := by
    rw [← hW1]
    exact C44_block (W := w.alloc _) (xs := vL) (World.alloc_heap_new w _) (by decide)
  obtain ⟨W2, hW2⟩ : ∃ W2, W1.alloc (.cells #[.slice (some ⟨w.heap.size, 0, none⟩) 3 3] 22) = W2 := ⟨_, rfl⟩
  have B2' : Below W1.heap.size W1 W2 := by rw [← hW2]; exact (Below.refl _ _).alloc (Nat.le_refl _) _
  have C2 := C_one (c := 3) C1 (by decide) (show 3 = vL.length from rfl)
  rw [hW2] at C2
  have hlen : ∀ j, j < ([vL] : List (List PC.S44)).length → (([vL] : List (List PC.S44)).getD j []).length ≤ 2932031007317 := fun j hj => by
    rcases j with _ | j
    · decide
    · exact absurd (show j + 1 < 1 from hj) (by omega)
  have HN := Lib.hid (vnew_w _ 1 [vL] 4 W2 C2 (by decide) hlen)
  have HB := Lib.hid (B1.trans (B2'.mono B1.size))
  have HC := Lib.hid (keepC C1 (Nat.le_refl _) B2')
  have HL := Lib.hid hlen
  clear B1 B2' C1 C2 hlen
  go_enter Try.func48, Try.ntmps48
  go_wp2_with (first | rw [hW2] | rw [hW1])
  refine HN.out.mono ?_
  rintro e w3 (⟨_, ⟨j, hj, hf⟩, _⟩ | ⟨V, X, s, G, rfl, _, hs, hV, hG, hb3⟩)
  · exfalso
    rcases j with _ | j
    · exact absurd (hf.symm.trans vL_rises) (by decide)
    · exact absurd (show j + 1 < 1 from hj) (by omega)
  have hu := vL_upto (vi_ris hV) hs
  have Hs := Lib.hid hu
  have HV := Lib.hid (And.intro hV (And.intro hG hb3))
  have HC3 := Lib.hid (keepC HC.out (Nat.le_refl _) hb3)
  obtain ⟨W4, hW4⟩ : ∃ W4, w3.alloc (.cells #[.slice (some ⟨w.heap.size, 0, none⟩) 3 3] 22) = W4 := ⟨_, rfl⟩
  have b4 : Below w3.heap.size w3 W4 := by rw [← hW4]; exact (Below.refl _ _).alloc (Nat.le_refl _) _
  have C4 := C_one (c := 3) HC3.out (by decide) (show 3 = vL.length from rfl)
  rw [hW4] at C4
  have HN2 := Lib.hid (vnew_w _ 1 [vL] 5 W4 C4 (by decide) HL.out)
  have Hb4 := Lib.hid b4
  clear hu hs hV hG hb3 C4 b4 HN
  go_wp2_with (first | rw [hW4])
  refine HN2.out.mono ?_
  rintro e w5 (⟨_, ⟨j, hj, hf⟩, _⟩ | ⟨U, Y, t, K, rfl, _, ht, hU, hK, hb5⟩)
  · exfalso
    rcases j with _ | j
    · exact absurd (hf.symm.trans vL_rises) (by decide)
    · exact absurd (show j + 1 < 1 from hj) (by omega)
  have Ht := Lib.hid (vL_upto (vi_ris hU) ht)
  have S5 := Lib.hid (V2.mk' (w0 := W2) HV.out.1 HV.out.2.1 HV.out.2.2 (Hb4.out.trans (hb5.mono Hb4.out.size)) hU (fun b h => by have := hK b h; have := Hb4.out.size; omega))
  clear ht hU hK hb5 HN2 HV
  go_wp2_with fail
  refine (vfirst_w S5.out.v).mono ?_
  rintro e w6 ⟨rfl, g⟩
  rw [Hs.out.1, vL_1] at g
  obtain ⟨G6, S, _⟩ := S5.out.go g
  have S6 := Lib.hid S
  clear g S
  go_wp2_with fail
  refine (vat_w S6.out.v).mono ?_
  rintro e w7 ⟨rfl, b⟩
  simp only [toldV, val76]
  obtain ⟨W7, hW7⟩ : ∃ W7, w7.alloc (.cells #[.string iA.f0, .string iA.f1] 76) = W7 := ⟨_, rfl⟩
  have bl : Below w7.heap.size w7 W7 := by rw [← hW7]; exact (Below.refl _ _).alloc (Nat.le_refl _) _
  have nn := (S6.out.below b).new (obj76 iA)
  rw [show w7.alloc (obj76 iA) = W7 from hW7] at nn
  have S7 := Lib.hid ((S6.out.below b).below bl)
  have KA := Lib.hid nn
  clear b bl nn
  go_wp2_with (first | rw [hW7])
  refine (vnext_w S7.out.v (by decide)).mono ?_
  rintro e w8 ⟨rfl, g⟩
  have e2 : onS 4 none ((upto s s.N).drop (cntQ s (st (up0 iA.f0)))) = some iB := by unfold cntQ; rw [Hs.out.1]; exact vL_2
  rw [e2] at g
  obtain ⟨G8, S, kp⟩ := S7.out.go g
  have S8 := Lib.hid S
  have KA8 := Lib.hid (kp _ _ KA.out)
  clear g S kp KA e2
  go_wp2_with fail
  refine (vat_w S8.out.v).mono ?_
  rintro e w9 ⟨rfl, b⟩
  simp only [toldV, val76]
  obtain ⟨W9, hW9⟩ : ∃ W9, w9.alloc (.cells #[.string iB.f0, .string iB.f1] 76) = W9 := ⟨_, rfl⟩
  have bl : Below w9.heap.size w9 W9 := by rw [← hW9]; exact (Below.refl _ _).alloc (Nat.le_refl _) _
  have nn := (S8.out.below b).new (obj76 iB)
  rw [show w9.alloc (obj76 iB) = W9 from hW9] at nn
  have S9 := Lib.hid ((S8.out.below b).below bl)
  have KB := Lib.hid nn
  have KA8' := (KA8.out.below b).below bl
  have KA8 := Lib.hid KA8'
  clear KA8'
  clear b bl nn
  go_wp2_with (first | rw [hW9])
  refine (vfirst_w S9.out.u).mono ?_
  rintro e wa ⟨rfl, g⟩
  rw [Ht.out.1, vL_3] at g
  obtain ⟨Ka, S, kp⟩ := S9.out.swap.go g
  have Sa := Lib.hid S
  have KAa := Lib.hid (kp _ _ KA8.out.swap)
  have KBa := Lib.hid (kp _ _ KB.out.swap)
  clear g S kp KA8 KB
  go_wp2_with fail
  refine (vat_w Sa.out.v).mono ?_
  rintro e wb ⟨rfl, b⟩
  simp only [toldV, val76]
  obtain ⟨Wb, hWb⟩ : ∃ Wb, wb.alloc (.cells #[.string iB.f0, .string iB.f1] 76) = Wb := ⟨_, rfl⟩
  have bl : Below wb.heap.size wb Wb := by rw [← hWb]; exact (Below.refl _ _).alloc (Nat.le_refl _) _
  have nn := (Sa.out.below b).new (obj76 iB)
  rw [show wb.alloc (obj76 iB) = Wb from hWb] at nn
  have Sb := Lib.hid ((Sa.out.below b).below bl)
  have KC := Lib.hid nn
  have KAa' := (KAa.out.below b).below bl
  have KAa := Lib.hid KAa'
  clear KAa'
  have KBa' := (KBa.out.below b).below bl
  have KBa := Lib.hid KBa'
  clear KBa'
  clear b bl nn
  go_wp2_with (first | rw [hWb])
  refine (vprev_w Sb.out.v).mono ?_
  rintro e wc ⟨rfl, g⟩
  have e5 : finB (bkS 5 none ((upto t t.N).take (if cntQ t (st iB.f0) < t.N then cntQ t (st iB.f0) else 0)).reverse) = none := by
    unfold cntQ; rw [Ht.out.1, Ht.out.2, vL_4, if_pos (by decide)]; exact vL_5
  rw [e5] at g
  obtain ⟨Kc, S, kp⟩ := Sb.out.go g
  have Sc := Lib.hid S
  have KAc := Lib.hid (kp _ _ KAa.out)
  have KBc := Lib.hid (kp _ _ KBa.out)
  have KCc := Lib.hid (kp _ _ KC.out)
  clear g S kp KAa KBa KC e5
  go_wp2_with fail
  refine (vat_w Sc.out.v).mono ?_
  rintro e wd ⟨rfl, b⟩
  simp only [toldV, val76]
  obtain ⟨z, hz⟩ : ∃ z, zi = z := ⟨_, rfl⟩
  rw [hz]
  clear hz
  obtain ⟨Wd, hWd⟩ : ∃ Wd, wd.alloc (.cells #[.string z.f0, .string z.f1] 76) = Wd := ⟨_, rfl⟩
  have bl : Below wd.heap.size wd Wd := by rw [← hWd]; exact (Below.refl _ _).alloc (Nat.le_refl _) _
  have Sd := Lib.hid ((Sc.out.below b).below bl)
  have ka := ((KAc.out.below b).below bl).1
  have kb := ((KBc.out.below b).below bl).1
  have kc := ((KCc.out.below b).below bl).1
  unfold obj76 iA at ka
  unfold obj76 iB at kb kc
  have a0 : Wd.cell? ⟨w7.heap.size, 0, none⟩ = some (.string ⟨#[97]⟩) := by simp [World.cell?, ka]
  have a1 : Wd.cell? ⟨w7.heap.size, 1, none⟩ = some (.string ⟨#[120]⟩) := by simp [World.cell?, ka]
  have b0 : Wd.cell? ⟨w9.heap.size, 0, none⟩ = some (.string ⟨#[98]⟩) := by simp [World.cell?, kb]
  have b1 : Wd.cell? ⟨w9.heap.size, 1, none⟩ = some (.string ⟨#[121]⟩) := by simp [World.cell?, kb]
  have c0 : Wd.cell? ⟨wb.heap.size, 0, none⟩ = some (.string ⟨#[98]⟩) := by simp [World.cell?, kc]
  have c1 : Wd.cell? ⟨wb.heap.size, 1, none⟩ = some (.string ⟨#[121]⟩) := by simp [World.cell?, kc]
  clear ka kb kc b bl
  go_wp2_with (first | rw [hWd])
  go_ret
  exact ⟨rfl, HB.out.trans (Sd.out.bel.mono HB.out.size)⟩
theorem vnil_w (g : Nat) (hg : g = 62 ∨ g = 57 ∨ g = 63 ∨ g = 56) (w : World) : Calls Try.prog g #[.pointer none] w (fun e w' => e = .returned (.tuple #[]) ∧ w' = w) := by
  rcases hg with rfl | rfl | rfl | rfl
  · go_enter Try.func62, Try.ntmps62
    go_wp2
    go_end0
    exact ⟨rfl, rfl⟩
  · go_enter Try.func57, Try.ntmps57
    go_wp2
    go_end0
    exact ⟨rfl, rfl⟩
  · go_enter Try.func63, Try.ntmps63
    go_wp2
    (try simp only [Exit.inBlock, Exit.then]); refine bodyPost_ret (results_none rfl _ _ _) rfl ?_
    exact ⟨rfl, rfl⟩
  · go_enter Try.func56, Try.ntmps56
    go_wp2
    (try simp only [Exit.inBlock, Exit.then]); refine bodyPost_ret (results_none rfl _ _ _) rfl ?_
    exact ⟨rfl, rfl⟩
theorem vseek_nil (u : ByteArray) (w : World) : Calls Try.prog 54 #[.pointer none, .string u] w (fun e w' => e = .returned (.tuple #[]) ∧ w' = w) := by
  go_enter Try.func54, Try.ntmps54
  go_wp2
  go_end0
  exact ⟨rfl, rfl⟩
theorem vat_nil (w : World) : Calls Try.prog 55 #[.pointer none] w (fun e w' => e = .returned (.tuple #[val76 zi, .bool false]) ∧ Below w.heap.size w w') := by
  go_enter Try.func55, Try.ntmps55
  go_wp2
  (try simp only [Exit.inBlock, Exit.then])
  refine bodyPost_ret (results_ct rfl _ _ w.heap.size 76 #[.string ⟨#[]⟩, .string ⟨#[]⟩] (0, 0) _ rfl (World.alloc_heap_new w _) Try.underlying76 rfl (by kernel_rfl)) rfl ?_
  exact ⟨rfl, (Below.refl _ w).alloc (Nat.le_refl _) _⟩
set_option maxHeartbeats 4000000 in
theorem viewNil_w (u : ByteArray) (w : World) : Calls Try.prog 21 #[.string u] w fun e w' => e = .returned (.bool true) ∧ Below w.heap.size w w' := by
  go_enter Try.func21, Try.ntmps21
  go_wp2_with fail
  refine (awake17_w w).mono ?_
  rintro e w1 ⟨rfl, b⟩
  have H1 := Lib.hid b
  clear b
  go_wp2_with (first | (go_at_call 62; refine (vnil_w 62 (by simp) _).mono ?_; rintro e w2 ⟨rfl, rfl⟩) | (go_at_call 57; refine (vnil_w 57 (by simp) _).mono ?_; rintro e w2 ⟨rfl, rfl⟩))
  refine (vseek_nil u _).mono ?_
  rintro e w3 ⟨rfl, rfl⟩
  go_wp2_with (first | (go_at_call 63; refine (vnil_w 63 (by simp) _).mono ?_; rintro e w4 ⟨rfl, rfl⟩) | (go_at_call 56; refine (vnil_w 56 (by simp) _).mono ?_; rintro e w4 ⟨rfl, rfl⟩))
  refine (vat_nil _).mono ?_
  rintro e w5 ⟨rfl, b⟩
  have H5 := Lib.hid (H1.out.trans (b.mono H1.out.size))
  clear b
  simp only [val76, zi]
  go_wp2_with fail
  go_ret
  exact ⟨rfl, H5.out.trans (((Below.refl _ _).alloc (Nat.le_refl _) _).mono H5.out.size)⟩
end Go.Proofs.Ytehoojmalhloeaa.CM
