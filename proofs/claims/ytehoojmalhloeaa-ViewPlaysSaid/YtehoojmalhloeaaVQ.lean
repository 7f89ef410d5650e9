/- view: its calls by a place among what is seen; all that is seen; few lists. -/
import Derived.Test.YtehoojmalhloeaaVP
import Derived.Test.YtehoojmalhloeaaVF
import Derived.Test.YtehoojmalhloeaaNJ
import Derived.Test.YtehoojmalhloeaaMZ
import Derived.Test.YtehoojmalhloeaaDR
import Derived.Test.YtehoojmalhloeaaPCx12
import Derived.Test.YtehoojmalhloeaaPCx2

/-! view: its calls, by a place among what is seen; all that is seen. -/
namespace Go.Proofs.Ytehoojmalhloeaa.CM
open Go.RowKit Go.Proofs.YtehoojmalhloeaaW.PrintWords
set_option linter.unusedVariables false
set_option linter.unusedSimpArgs false
set_option maxRecDepth 100000
theorem vi_facts {w : World} {V X : Nat} {s : Sh} {seq : Int} {here : Option PC.S76} {G : Nat → Prop} (h : Vi w V X s seq here G) : Ris s := vi_ris h
section
variable {w : World} {V X : Nat} {s : Sh} {seq : Int} {here : Option PC.S76} {G : Nat → Prop} {k : Nat}
theorem pfirst_w (h : Vi w V X s seq here G) :
    Calls Try.prog 62 #[.pointer (some ⟨V, 0, none⟩)] w (fun e w' => e = .returned (.tuple #[]) ∧ VGo w V X s seq G (seen s seq)[0]? w') := by
  have := vfirst_w h
  rwa [first_seen] at this
theorem plast_w (h : Vi w V X s seq here G) :
    Calls Try.prog 57 #[.pointer (some ⟨V, 0, none⟩)] w (fun e w' => e = .returned (.tuple #[]) ∧ VGo w V X s seq G (seen s seq).getLast? w') := by
  have := vlast_w h
  rwa [last_seen (vi_ris h)] at this
theorem pseek_w (h : Vi w V X s seq here G) (hk : ∀ x ∈ upto s s.N, FK x) (u : ByteArray) :
    Calls Try.prog 54 #[.pointer (some ⟨V, 0, none⟩), .string u] w (fun e w' => e = .returned (.tuple #[]) ∧ VGo w V X s seq G (seen s seq)[rnk (seen s seq) u.toList]? w') := by
  have := vseek_w h u
  rwa [seek_seen (vi_ris h) hk] at this
theorem vgo_id (h : Vi w V X s seq here G) : VGo w V X s seq G here w := ⟨G, h, Fr.refl _ _, fun b hb => .inl hb⟩
theorem seen_fk (hk : ∀ x ∈ upto s s.N, FK x) {y : PC.S76} (hy : y ∈ seen s seq) : y.f0.size ≤ 140737488351232 := by
  obtain ⟨z, hz, rfl⟩ := vs_mem seq _ _ y hy
  exact (hk z hz).2.2
theorem pnext_w (h : Vi w V X s seq (seen s seq)[k]? G) (hk : ∀ x ∈ upto s s.N, FK x) :
    Calls Try.prog 63 #[.pointer (some ⟨V, 0, none⟩)] w (fun e w' => e = .returned (.tuple #[]) ∧ VGo w V X s seq G (seen s seq)[k + 1]? w') := by
  cases hy : (seen s seq)[k]? with
  | none =>
    rw [hy] at h
    have hl := List.getElem?_eq_none_iff.1 hy
    rw [List.getElem?_eq_none (by omega)]
    exact (vnext_none h 63 (.inl rfl)).mono (fun e w' hh => by obtain ⟨h1, rfl⟩ := hh; exact ⟨h1, vgo_id h⟩)
  | some y =>
    rw [hy] at h
    have := vnext_w h (seen_fk hk (List.mem_of_getElem? hy))
    rwa [seek_seen (vi_ris h) hk, rnk_next (seen_pw (vi_ris h) seq) hy] at this
/-- Where a step back leads. -/
def prvI (L : List PC.S76) : Nat → Option PC.S76
  | 0 => none
  | k + 1 => L[k]?
theorem pprev_w (h : Vi w V X s seq (seen s seq)[k]? G) (hk : ∀ x ∈ upto s s.N, FK x) (hkl : k < (seen s seq).length) :
    Calls Try.prog 56 #[.pointer (some ⟨V, 0, none⟩)] w (fun e w' => e = .returned (.tuple #[]) ∧ VGo w V X s seq G (prvI (seen s seq) k) w') := by
  have hy : (seen s seq)[k]? = some (seen s seq)[k] := List.getElem?_eq_getElem hkl
  obtain ⟨y, hyk⟩ : ∃ y, (seen s seq)[k] = y := ⟨_, rfl⟩
  rw [hyk] at hy
  have h' := h
  rw [hy] at h'
  have hc : cntQ s (st y.f0) < s.N := by
    obtain ⟨h1, h2, h3⟩ := split_at (vi_ris h) hk seq y.f0
    apply Classical.byContradiction
    intro hn
    have hd : (upto s s.N).drop (cntQ s (st y.f0)) = [] := List.drop_eq_nil_of_le (by rw [upto_len]; omega)
    rw [hd] at h1
    have hm : y ∈ seen s seq := List.mem_of_getElem? hy
    unfold seen at hm
    rw [h1, show vsS seq none ([] : List PC.S44) = [] from rfl, List.append_nil] at hm
    exact lu_irr _ (h2 y hm)
  have := vprev_w h'
  rw [if_pos hc, prev_seen (vi_ris h) hk, rnk_at (seen_pw (vi_ris h) seq) hy] at this
  refine this.mono (fun e w' ⟨h1, h2⟩ => ⟨h1, ?_⟩)
  cases k with
  | zero => exact h2
  | succ k =>
    have : ((seen s seq).take (k + 1)).getLast? = (seen s seq)[k]? := by
      rw [List.getLast?_eq_getElem?, List.length_take, show min (k + 1) (seen s seq).length = k + 1 by omega, List.getElem?_take]
      simp
    rw [this] at h2
    exact h2
theorem pprev_none (h : Vi w V X s seq none G) :
    Calls Try.prog 56 #[.pointer (some ⟨V, 0, none⟩)] w (fun e w' => e = .returned (.tuple #[]) ∧ VGo w V X s seq G none w') :=
  (vnext_none h 56 (.inr rfl)).mono (fun e w' hh => by obtain ⟨h1, rfl⟩ := hh; exact ⟨h1, vgo_id h⟩)
end
def cells76 : List PC.S76 → List Value
  | [] => []
  | x :: t => [.string x.f0, .string x.f1] ++ cells76 t
theorem cells76_app : ∀ xs ys : List PC.S76, cells76 (xs ++ ys) = cells76 xs ++ cells76 ys
  | [], _ => rfl
  | x :: t, ys => by show _ ++ cells76 (t ++ ys) = (_ ++ cells76 t) ++ _; rw [cells76_app t ys, List.append_assoc]
theorem cells76_len : ∀ xs : List PC.S76, (cells76 xs).length = xs.length * 2
  | [] => rfl
  | x :: t => by show ([_, _] ++ cells76 t).length = _; rw [List.length_append, cells76_len t]; simp; omega
theorem cells76_get : ∀ (xs : List PC.S76) (k : Nat) (y : PC.S76), xs[k]? = some y → (cells76 xs)[k * 2]? = some (.string y.f0) ∧ (cells76 xs)[k * 2 + 1]? = some (.string y.f1)
  | [], k, y, h => by simp at h
  | x :: t, 0, y, h => by
    have : x = y := by simpa using h
    subst this
    exact ⟨rfl, rfl⟩
  | x :: t, k + 1, y, h => by
    have ih := cells76_get t k y (by simpa using h)
    have e1 : (k + 1) * 2 = k * 2 + 2 := by omega
    rw [e1]
    exact ⟨ih.1, ih.2⟩
theorem und39 : Try.prog.underlying 39 = some (.slice 76) := by kernel_rfl
end Go.Proofs.Ytehoojmalhloeaa.CM

/-! view: all that is seen, gathered. -/
namespace Go.Proofs.Ytehoojmalhloeaa.CM
open Go.RowKit Go.Proofs.YtehoojmalhloeaaW.PrintWords
set_option linter.unusedVariables false
set_option linter.unusedSimpArgs false
set_option maxRecDepth 100000

theorem reps76 {R : PC.S76 → List Value → Prop} (hR : ∀ x cs, R x cs → cs = [.string x.f0, .string x.f1]) : ∀ (xs : List PC.S76) (inner : List Value), Reps R 2 xs inner → inner = cells76 xs
  | [], inner, h => List.eq_nil_of_length_eq_zero (by simpa using h.1)
  | x :: t, inner, h => by
    have h0 := hR _ _ (h.2 0 x rfl)
    simp only [Nat.zero_mul, List.drop_zero] at h0
    have ht : Reps R 2 t (inner.drop 2) := ⟨by have := h.1; simp only [List.length_cons, List.length_drop] at this ⊢; omega, fun j p hj => by
      have := h.2 (j + 1) p (by simpa using hj)
      rw [show (j + 1) * 2 = 2 + j * 2 by omega, ← List.drop_drop] at this
      exact this⟩
    have := reps76 hR t _ ht
    rw [← List.take_append_drop 2 inner, h0, this]
    rfl
theorem cells76_reps {R : PC.S76 → List Value → Prop} (hR : ∀ x, R x [.string x.f0, .string x.f1]) : ∀ (xs : List PC.S76), Reps R 2 xs (cells76 xs)
  | [] => ⟨rfl, fun j p h => by simp at h⟩
  | x :: t => ⟨cells76_len _, fun j p hj => by
    rcases j with _ | j
    · obtain rfl : x = p := by simpa using hj
      exact hR x
    · have := (cells76_reps hR t).2 j p (by simpa using hj)
      rw [show (j + 1) * 2 = 2 + j * 2 by omega, ← List.drop_drop]
      exact this⟩
theorem own76 {W : World} {base : Nat} {ok : Nat → Prop} {v : Value} {xs : List PC.S76} (h : Kd.R PC.k76 76 W base ok v xs) : W.ownsRow base 76 2 v xs.length (cells76 xs) := by
  obtain ⟨_, inner, ho, hr⟩ := h
  have e := reps76 (fun x cs h => PC.k76_openM h) xs inner hr
  subst e
  exact ho
theorem R_of76 {W : World} {base : Nat} {v : Value} {xs : List PC.S76} (h : W.ownsRow base 76 2 v xs.length (cells76 xs)) : Kd.R PC.k76 76 W base (fun _ => True) v xs :=
  ⟨fun _ _ => trivial, cells76 xs, h, cells76_reps (fun x => PC.k76_mkM _ _ _ x) xs⟩
theorem run_append76 {w : World} {base : Nat} {v : Value} {xs : List PC.S76} (y : PC.S76) (hR : Kd.R PC.k76 76 w base (fun _ => True) v xs) (hl : xs.length ≤ 1000000000) (hbase : base ≤ w.heap.size) :
    ∃ v1 w1, (Builtin.append_ #[39, 39] 39 #[v, .slice (some ⟨w.heap.size, 0, none⟩) 1 1]).run Try.prog (w.alloc (.cells #[.string y.f0, .string y.f1] 76)) = .ok v1 w1 ∧ Kd.R PC.k76 76 w1 base (fun _ => True) v1 (xs ++ [y]) ∧ (w.alloc (.cells #[.string y.f0, .string y.f1] 76)).grownBy w1 v.ownBlock ∧ (v1.ownBlock = v.ownBlock ∨ v1.ownBlock = some (w.heap.size + 1)) := by
  obtain ⟨i0, hi, hzz⟩ := Option.map_eq_some_iff.1 PC.info76
  simp only [Prod.mk.injEq] at hzz
  obtain ⟨hz0, hz1, hz2⟩ := hzz
  have hn := World.news_of_block (cs := #[.string y.f0, .string y.f1]) (t := 76) (fr := (0, 0)) (World.alloc_heap_new w _)
  obtain ⟨v1, w1, hrun, hown1, hg, _, hat⟩ := run_append_own_at (P := Try.prog) (w.alloc (.cells #[.string y.f0, .string y.f1] 76)) base 39 39 76 i0 _ 2 32 und39 hi hz0 hz1 hz2 rfl (by decide) v xs.length (cells76 xs) ((own76 hR).alloc _) ⟨w.heap.size, 0, none⟩ 1 1 [.string y.f0, .string y.f1] rfl
    (fun j u hu => by
      rcases j with _ | _ | j
      · exact hn 0 u (by simpa using hu)
      · exact hn 1 u (by simpa using hu)
      · simp at hu)
    (fun u hu => by
      simp only [List.mem_cons, List.not_mem_nil, or_false] at hu
      rcases hu with rfl | rfl <;> rfl) (by simp only [maxLen]; omega) (by omega) (by simp; omega)
  refine ⟨v1, w1, hrun, R_of76 ?_, hg, ?_⟩
  · rw [List.length_append, cells76_app]
    exact hown1
  · rcases hat with h | h
    · exact .inl h
    · exact .inr (by simpa using h)

/-- A row of items, of the walk's own, that is not the view's. -/
structure RowI (w : World) (G : Nat → Prop) (base : Nat) (v : Value) (xs : List PC.S76) : Prop where
  r : Kd.R PC.k76 76 w base (fun _ => True) v xs
  nf : ∀ k, v.ownBlock = some k → ¬ G k
section
variable {w w1 w2 : World} {V X : Nat} {s : Sh} {seq : Int} {here h2 : Option PC.S76} {G G' : Nat → Prop} {base : Nat} {v : Value} {xs : List PC.S76}
theorem RowI.nil (w : World) (G : Nat → Prop) (base : Nat) : RowI w G base (.slice none 0 0) [] := ⟨Kd.R_nil _ _ _ _ _, fun k hk => by simp [Value.ownBlock] at hk⟩
theorem RowI.fr (h : RowI w G base v xs) (hf : Fr G w w1) (hn : ∀ b, G' b → G b ∨ (w.heap.size ≤ b ∧ b < w1.heap.size)) : RowI w1 G' base v xs := by
  have hlt := Kd.R_lt h.r
  refine ⟨R_of76 (own_move (own76 h.r) (fun k hk => hf.block k (hlt k hk) (h.nf k hk))), fun k hk hF => ?_⟩
  rcases hn k hF with h1 | h1
  · exact h.nf k hk h1
  · have := hlt k hk; omega
theorem RowI.below (h : RowI w G base v xs) (hb : Below w.heap.size w w1) : RowI w1 G base v xs := ⟨Kd.R_below h.r hb, h.nf⟩
/-- A view that went on from w, and what was gathered since. -/
def AllS (w : World) (V X : Nat) (s : Sh) (seq : Int) (G : Nat → Prop) (here : Option PC.S76) (G' : Nat → Prop) (v : Value) (xs : List PC.S76) (w1 : World) : Prop :=
  Vi w1 V X s seq here G' ∧ Fr G w w1 ∧ (∀ b, G' b → G b ∨ (w.heap.size ≤ b ∧ b < w1.heap.size)) ∧ RowI w1 G' w.heap.size v xs
theorem AllS.go (h : AllS w V X s seq G here G' v xs w1) (g : VGo w1 V X s seq G' h2 w2) : ∃ G2, AllS w V X s seq G h2 G2 v xs w2 := by
  obtain ⟨hv, hf, hn, hr⟩ := h
  obtain ⟨G2, hv2, hf2, hn2⟩ := g
  have h1 := hf.size
  have h2 := hf2.size
  refine ⟨G2, hv2, hf.trans hf2 (fun b hb hg => ?_), fun b hb => ?_, hr.fr hf2 hn2⟩
  · rcases hn b hg with h | h
    · exact h
    · omega
  · rcases hn2 b hb with h | h
    · rcases hn b h with h | h
      · exact .inl h
      · exact .inr ⟨h.1, by omega⟩
    · exact .inr ⟨by omega, h.2⟩
theorem AllS.below (h : AllS w V X s seq G here G' v xs w1) (hb : Below w1.heap.size w1 w2) : AllS w V X s seq G here G' v xs w2 := by
  obtain ⟨hv, hf, hn, hr⟩ := h
  have h1 := hf.size
  have h2 := hb.size
  refine ⟨hv.below hb, hf.trans (Fr.of_below (O := fun _ => False) hb) (fun _ _ h => h.elim), fun b hg => ?_, hr.below hb⟩
  rcases hn b hg with h | h
  · exact .inl h
  · exact .inr ⟨h.1, by omega⟩
theorem AllS.app (h : AllS w V X s seq G here G' v xs w1) (y : PC.S76) (hl : xs.length ≤ 1000000000) :
    ∃ v1 w2, (Builtin.append_ #[39, 39] 39 #[v, .slice (some ⟨w1.heap.size, 0, none⟩) 1 1]).run Try.prog (w1.alloc (.cells #[.string y.f0, .string y.f1] 76)) = .ok v1 w2 ∧ AllS w V X s seq G here G' v1 (xs ++ [y]) w2 := by
  obtain ⟨hv, hf, hn, hr⟩ := h
  have h1 := hf.size
  obtain ⟨v1, w2, hrun, hR1, hg, hat⟩ := run_append76 y hr.r hl h1
  obtain ⟨W, hW⟩ : ∃ W, w1.alloc (.cells #[.string y.f0, .string y.f1] 76) = W := ⟨_, rfl⟩
  have bl : Below w1.heap.size w1 W := by rw [← hW]; exact (Below.refl _ _).alloc (Nat.le_refl _) _
  rw [hW] at hg
  have hff : Fr (fun b => v.ownBlock = some b) W w2 := ⟨hg.os, hg.tape, hg.output, hg.size, fun b hb hn => hg.block b hb (fun e => hn e.symm)⟩
  have hs := bl.size
  have hs2 := hg.size
  refine ⟨v1, w2, hrun, (hv.below bl).fr hff (fun b hb hG => hr.nf b hb hG), ?_, fun b hb => ?_, hR1, fun k hk hG => ?_⟩
  · exact (hf.trans (Fr.of_below (O := fun _ => False) bl) (fun _ _ h => h.elim)).trans hff (fun b hb e => by
      have := Kd.R_base hr.r b e; omega)
  · rcases hn b hb with h | h
    · exact .inl h
    · exact .inr ⟨h.1, by omega⟩
  · rcases hat with e | e
    · rw [e] at hk; exact hr.nf k hk hG
    · rw [hk] at e
      have := hv.lt hG
      injection e with e
      omega
end
set_option maxHeartbeats 16000000 in
theorem all_w {w : World} {V X : Nat} {s : Sh} {seq : Int} {here : Option PC.S76} {G : Nat → Prop} (h : Vi w V X s seq here G) (hk : ∀ x ∈ upto s s.N, FK x) (most : Nat) (hm : (seen s seq).length ≤ most) (hmb : most ≤ 1000000000) :
    Calls Try.prog 51 #[.pointer (some ⟨V, 0, none⟩), .int .i64 most] w (fun e w' => ∃ A c G', e = .returned (.tuple #[.slice A (seen s seq).length c, .bool true]) ∧ AllS w V X s seq G none G' (.slice A (seen s seq).length c) (seen s seq) w') := by
  have HP := Lib.hid (seen_pw (vi_ris h) seq)
  have HK := Lib.hid hk
  have HF := Lib.hid (pfirst_w h)
  obtain ⟨L, hL⟩ : ∃ L, seen s seq = L := ⟨_, rfl⟩
  rw [hL] at HP HF hm ⊢
  have HL := Lib.hid hL
  clear h hk hL
  go_enter Try.func51, Try.ntmps51
  go_wp2_with fail
  refine HF.out.mono ?_
  rintro e w1 ⟨rfl, ⟨G1, g1, g2, g3⟩⟩
  have S1 := Lib.hid (show AllS w V X s seq G L[0]? G1 (.slice none 0 0) (L.take 0) w1 from ⟨g1, g2, g3, RowI.nil _ _ _⟩)
  clear g1 g2 g3
  go_wp2_with fail
  go_loopw [6, 7] (fun v t wr => ∃ i : Nat, i ≤ L.length ∧ t = .int .i64 (i : Int) ∧ Hid (∃ G2, AllS w V X s seq G L[i]? G2 v (L.take i) wr)) (fun _ t _ => L.length + 1 - (intOf t).toNat)
  case atStart => exact ⟨0, by omega, rfl, Lib.hid ⟨G1, S1.out⟩⟩
  case round =>
    obtain ⟨i, hi, rfl, HI⟩ := hrel
    obtain ⟨G2, S⟩ := HI.out
    have S2 := Lib.hid S
    clear S HI
    have d0 : decide ((i : Int) ≤ (most : Int)) = true := decide_eq_true (by omega)
    have m3 : IntKind.i64.wrap ((i : Int) + 1) = (i : Int) + 1 := by rw [IntWalk.i64_in _ (by omega)]
    go_wp2_with fail
    refine (vat_w S2.out.1).mono ?_
    rintro e w3 ⟨rfl, b⟩
    have S3 := Lib.hid (S2.out.below b)
    clear b
    by_cases hiN : i < L.length
    · have hy : L[i]? = some L[i] := List.getElem?_eq_getElem hiN
      obtain ⟨y, hyy⟩ : ∃ y, L[i] = y := ⟨_, rfl⟩
      rw [hyy] at hy
      have Hy := Lib.hid hy
      rw [hy]
      simp only [toldV, val76]
      clear hyy hy
      obtain ⟨W4, hW4⟩ : ∃ W4, w3.alloc (.cells #[.string y.f0, .string y.f1] 76) = W4 := ⟨_, rfl⟩
      have bl : Below w3.heap.size w3 W4 := by rw [← hW4]; exact (Below.refl _ _).alloc (Nat.le_refl _) _
      have S4 := Lib.hid (S3.out.below bl)
      have kb : W4.heap[w3.heap.size]? = some (.cells #[.string y.f0, .string y.f1] 76 (0, 0)) := by rw [← hW4]; exact World.alloc_heap_new w3 _
      have HKb := Lib.hid kb
      have b0 : W4.cell? ⟨w3.heap.size, 0, none⟩ = some (.string y.f0) := by simp [World.cell?, kb]
      have b1 : W4.cell? ⟨w3.heap.size, 1, none⟩ = some (.string y.f1) := by simp [World.cell?, kb]
      clear kb bl
      by_cases hi0 : 0 < i
      · have d1 : decide (0 < (i : Int)) = true := decide_eq_true (by omega)
        obtain ⟨Al, cl, hvl, hle, hC⟩ := Kd.R_reads S4.out.2.2.2.r
        subst hvl
        rw [List.length_take, Nat.min_eq_left hi] at S4 hle hC ⊢
        obtain ⟨ad, e, x0, _⟩ := PC.at_T76 hC ((i : Int) - 1) (by omega) (by omega)
        subst e
        obtain ⟨z, hz⟩ : ∃ z, PC.rd_T76 (L.take i) ((i : Int) - 1) = z := ⟨_, rfl⟩
        rw [hz, show ((i : Int) - 1).toNat = i - 1 by omega] at x0
        have m4 : IntKind.i64.wrap ((i : Int) - 1) = (i : Int) - 1 := by rw [IntWalk.i64_in _ (by omega)]
        have hlt : Op.bytesLess z.f0.toList y.f0.toList = true := by
          have hz1 : L[i - 1]? = some z := by
            rw [← hz]
            unfold PC.rd_T76
            rw [show ((i : Int) - 1).toNat = i - 1 by omega, List.getD_eq_getElem?_getD, List.getElem?_take, if_pos (by omega), List.getElem?_eq_getElem (by omega)]
            rfl
          obtain ⟨l1, e1⟩ := List.getElem?_eq_some_iff.1 hz1
          obtain ⟨l2, e2⟩ := List.getElem?_eq_some_iff.1 Hy.out
          have := (List.pairwise_iff_getElem.1 HP.out) (i - 1) i l1 l2 (by omega)
          rw [e1, e2] at this
          exact this
        have p0 : (0 ≤ (i : Int) - 1) = True := eq_true (by omega)
        have p1 : ((i : Int) - 1 < (i : Int)) = True := eq_true (by omega)
        have p2 : (((i : Int) - 1).toNat < i) = True := eq_true (by omega)
        clear hz hle
        go_wp2_with (first | rw [hW4])
        go_quiet (fail)
        obtain ⟨W5, hW5⟩ : ∃ W5, W4.drewN nq = W5 := ⟨_, rfl⟩
        have bq : Below W4.heap.size W4 W5 := by rw [← hW5]; exact ⟨rfl, rfl, rfl, Nat.le_refl _, fun _ _ => rfl⟩
        have S5 := Lib.hid (S4.out.below bq)
        have kb5 := blk_below HKb.out bq
        have c0 : W5.cell? ⟨w3.heap.size, 0, none⟩ = some (.string y.f0) := by simp [World.cell?, kb5]
        have c1 : W5.cell? ⟨w3.heap.size, 1, none⟩ = some (.string y.f1) := by simp [World.cell?, kb5]
        rw [hW5]
        obtain ⟨v6, w6, hrun, hS⟩ := S5.out.app y (by rw [List.length_take]; omega)
        rw [show L.take i ++ [y] = L.take (i + 1) from by rw [List.take_add_one, Hy.out]; rfl] at hS
        have S6 := Lib.hid hS
        clear hW5 bq kb5 b0 b1 hS
        try clear x0
        go_wp2_with (first | (at_builtin; refine wpList_append_run _ rfl (.tmp 38) (.tmp 40) 39 rfl _ _ _ _ rfl rfl hrun ?_; clear hrun))
        have hn := S6.out.1
        rw [← HL.out] at hn
        refine (pnext_w hn HK.out).mono ?_
        rintro e w7 ⟨rfl, g⟩
        rw [HL.out] at g
        obtain ⟨G7, S⟩ := S6.out.go g
        have S7 := Lib.hid S
        clear hn g S
        go_wp2_with fail
        go_roundw
        case rel => exact ⟨i + 1, by omega, by simp, Lib.hid ⟨G7, S7.out⟩⟩
        case measure => simp [intOf]; omega
      · have d1 : decide (0 < (i : Int)) = false := decide_eq_false (by omega)
        go_wp2_with (first | rw [hW4])
        go_quiet (fail)
        obtain ⟨W5, hW5⟩ : ∃ W5, W4.drewN nq = W5 := ⟨_, rfl⟩
        have bq : Below W4.heap.size W4 W5 := by rw [← hW5]; exact ⟨rfl, rfl, rfl, Nat.le_refl _, fun _ _ => rfl⟩
        have S5 := Lib.hid (S4.out.below bq)
        have kb5 := blk_below HKb.out bq
        have c0 : W5.cell? ⟨w3.heap.size, 0, none⟩ = some (.string y.f0) := by simp [World.cell?, kb5]
        have c1 : W5.cell? ⟨w3.heap.size, 1, none⟩ = some (.string y.f1) := by simp [World.cell?, kb5]
        rw [hW5]
        obtain ⟨v6, w6, hrun, hS⟩ := S5.out.app y (by rw [List.length_take]; omega)
        rw [show L.take i ++ [y] = L.take (i + 1) from by rw [List.take_add_one, Hy.out]; rfl] at hS
        have S6 := Lib.hid hS
        clear hW5 bq kb5 b0 b1 hS
        try clear x0
        go_wp2_with (first | (at_builtin; refine wpList_append_run _ rfl (.tmp 38) (.tmp 40) 39 rfl _ _ _ _ rfl rfl hrun ?_; clear hrun))
        have hn := S6.out.1
        rw [← HL.out] at hn
        refine (pnext_w hn HK.out).mono ?_
        rintro e w7 ⟨rfl, g⟩
        rw [HL.out] at g
        obtain ⟨G7, S⟩ := S6.out.go g
        have S7 := Lib.hid S
        clear hn g S
        go_wp2_with fail
        go_roundw
        case rel => exact ⟨i + 1, by omega, by simp, Lib.hid ⟨G7, S7.out⟩⟩
        case measure => simp [intOf]; omega
    · obtain rfl : i = L.length := by omega
      rw [List.getElem?_eq_none (Nat.le_refl _)] at S3 ⊢
      simp only [toldV, val76]
      obtain ⟨z, hz⟩ : ∃ z, zi = z := ⟨_, rfl⟩
      rw [hz]
      clear hz
      obtain ⟨W4, hW4⟩ : ∃ W4, w3.alloc (.cells #[.string z.f0, .string z.f1] 76) = W4 := ⟨_, rfl⟩
      have bl : Below w3.heap.size w3 W4 := by rw [← hW4]; exact (Below.refl _ _).alloc (Nat.le_refl _) _
      have S4' := S3.out.below bl
      rw [List.take_of_length_le (Nat.le_refl _)] at S4'
      obtain ⟨Al, cl, hvl, hle, hC⟩ := Kd.R_reads S4'.2.2.2.r
      subst hvl
      have S4 := Lib.hid S4'
      clear bl S4' hle hC
      go_wp2_with (first | rw [hW4])
      go_ret2
      exact ⟨_, _, _, rfl, S4.out⟩
end Go.Proofs.Ytehoojmalhloeaa.CM

/-! view: few lists of few entries; what holds of their entries; how many are seen. -/
namespace Go.Proofs.Ytehoojmalhloeaa.CM
open Go.RowKit Go.Proofs.YtehoojmalhloeaaW.PrintWords
set_option linter.unusedVariables false
set_option linter.unusedSimpArgs false
set_option maxRecDepth 100000

theorem few17_l0 (L : List (List PC.S44)) (hL : L.length ≤ 40) : ∀ (n k i : Nat) (o : List (List PC.S44)), L.length - i ≤ n → n + 1 ≤ k → i ≤ L.length → o.length = i → PC.staddlelaw17_few.l0 k L o (i : Int) = some (o ++ (L.drop i).map (fun l => l.take 200))
  | n, 0, i, o, _, hk, _, _ => by omega
  | n, k + 1, i, o, hn, hk, hi, ho => by
    unfold PC.staddlelaw17_few.l0
    by_cases h : i < L.length
    · have e : PC.rd_L6 L (i : Int) = L[i] := by simp [PC.rd_L6, h]
      have ed : L.drop i = L[i] :: L.drop (i + 1) := List.drop_eq_getElem_cons h
      rw [if_pos (by omega), if_pos (by omega), e, w64z ((i : Int) + 1) (by omega), ed, List.map_cons]
      have ih : ∀ x, PC.staddlelaw17_few.l0 k L (o ++ [x]) ((i : Int) + 1) = some (o ++ x :: (L.drop (i + 1)).map (fun l => l.take 200)) := fun x => by
        have := few17_l0 L hL (n - 1) k (i + 1) (o ++ [x]) (by omega) (by omega) (by omega) (by simp [ho])
        rw [show (((i + 1 : Nat) : Int)) = (i : Int) + 1 by omega] at this
        rw [this, List.append_assoc]
        rfl
      by_cases hl : ((L[i].length : Nat) : Int) > 200
      · rw [if_pos hl, if_pos (by omega), if_pos (by omega), ih]
      · rw [if_neg hl, if_pos (by omega), ih, List.take_of_length_le (by omega)]
    · rw [if_neg (by omega), List.drop_eq_nil_of_le (by omega)]
      simp
theorem few17_f (L : List (List PC.S44)) : PC.staddlelaw17_few.f 60 L = some (cut16 L) := by
  have key : ∀ L : List (List PC.S44), L.length ≤ 40 → PC.staddlelaw17_few.j0 60 L = some (L.map (fun l => l.take 200)) := fun L hL => by
    show PC.staddlelaw17_few.l0 59 L [] 0 = _
    have := few17_l0 L hL 40 59 0 [] (by omega) (by omega) (by omega) rfl
    simpa using this
  unfold PC.staddlelaw17_few.f cut16
  by_cases h : (L.length : Int) > 40
  · rw [if_pos h, if_pos (by omega), key _ (by simp; omega)]
  · rw [if_neg h, key _ (by omega), List.take_of_length_le (by omega)]
theorem few17_w (A : Option Addr) (c : Nat) (L : List (List PC.S44)) (w : World) (hr : Kd.C (Kd.slice 44 PC.k44) w A L.length L) (hc : L.length ≤ c) :
    Calls Try.prog 52 #[.slice A L.length c] w fun e w' => ∃ A' c', e = .returned (.slice A' (cut16 L).length c') ∧ (cut16 L).length ≤ c' ∧ Kd.C (Kd.slice 44 PC.k44) w' A' (cut16 L).length (cut16 L) ∧ Below w.heap.size w w' := by
  refine (PC.staddlelaw17_few.calls 60 _ A c L (cut16 L) w (Kd.V_mk hc (Kd.C_F (Kd.heap_slice 44 heap44) hr)) (few17_f L)).mono ?_
  rintro e w' ⟨v, rfl, hN, hb⟩
  obtain ⟨A', c', rfl, h1, h2⟩ := Kd.N_reads hN
  exact ⟨A', c', rfl, h1, h2, hb⟩


theorem fk_of {x : PC.S44} (h : Fits x) : FK x := ⟨h.1.2, h.2.1.2, h.2.2.1⟩
theorem fk_upto {s : Sh} {L : List (List PC.S44)} (hL : s.L = L) (h : ∀ l ∈ L, ∀ x ∈ l, Fits x) : ∀ x ∈ upto s s.N, FK x := fun x hx => by
  have := (upto_perm s).mem_iff.1 hx
  rw [hL] at this
  obtain ⟨l, hl, hx⟩ := List.mem_flatten.1 this
  exact fk_of (h l hl x hx)
theorem fits_cut {L : List (List PC.S44)} (h : ∀ l ∈ L, ∀ x ∈ l, Fits x) : ∀ l ∈ cut16 L, ∀ x ∈ l, Fits x := fun l hl x hx => by
  simp only [cut16, List.mem_map] at hl
  obtain ⟨l', hl', rfl⟩ := hl
  exact h l' (List.mem_of_mem_take hl') x (List.mem_of_mem_take hx)
theorem vs_len (seq : Int) : ∀ (l : List PC.S44) (d : Option ByteArray), (vsS seq d l).length ≤ l.length
  | [], _ => Nat.le_refl _
  | x :: t, d => by
    rw [vsS_cons]
    have h1 := vs_len seq t d
    have h2 := vs_len seq t (some x.f0.f0)
    split
    · simp; omega
    · split <;> simp <;> omega
theorem seen_len (s : Sh) (seq : Int) : (seen s seq).length ≤ s.N := by
  have := vs_len seq (upto s s.N) none
  rw [upto_len] at this
  exact this
/-- Are two items one? -/
def eqI (x y : PC.S76) : Bool := x.f0.toList == y.f0.toList && x.f1.toList == y.f1.toList
theorem eqV76 (d : Nat) (w : World) (x y : PC.S76) :
    (Op.equalIn (d + 2) 76 (.agg #[.string x.f0, .string x.f1]) (.agg #[.string y.f0, .string y.f1])).run Try.prog w = .ok (eqI x y) w := PC.eqA76 d w _ _ _ _
theorem eqI_self (x : PC.S76) : eqI x x = true := by simp [eqI]
end Go.Proofs.Ytehoojmalhloeaa.CM
