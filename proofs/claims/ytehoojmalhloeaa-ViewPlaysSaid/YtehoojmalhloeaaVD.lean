/- view: the last user's key that is seen (back). -/
import Derived.Test.YtehoojmalhloeaaVC
namespace Go.Proofs.Ytehoojmalhloeaa.CM
open Go.RowKit Go.Proofs.YtehoojmalhloeaaW.PrintWords
set_option linter.unusedVariables false
set_option linter.unusedSimpArgs false
set_option maxRecDepth 100000

/-- Another user's than what was found? -/
def oth (f : Option PC.S44) (x : PC.S44) : Bool := match f with
  | none => false
  | some y => !(x.f0.f0.toList == y.f0.f0.toList)
/-- Is it found for good? -/
def stp (f : Option PC.S44) (x : PC.S44) : Bool := match f with
  | none => false
  | some y => !(x.f0.f0.toList == y.f0.f0.toList) && (y.f0.f2 == 1)
def nxF (seq : Int) (f : Option PC.S44) (x : PC.S44) : Option PC.S44 := if x.f0.f1 ≤ seq then some x else if oth f x = true then none else f
/-- What is found, of entries from behind. -/
def bkS (seq : Int) : Option PC.S44 → List PC.S44 → Option PC.S44
  | f, [] => f
  | f, x :: t => if stp f x = true then f else bkS seq (nxF seq f x) t
def goB (seq : Int) : Option PC.S44 → List PC.S44 → Option (Option PC.S44)
  | f, [] => some f
  | f, x :: t => if stp f x = true then none else goB seq (nxF seq f x) t
def finB : Option PC.S44 → Option PC.S76
  | none => none
  | some y => if y.f0.f2 = 1 then some ⟨y.f0.f0, y.f1⟩ else none
theorem goB_snoc (seq : Int) (x : PC.S44) : ∀ (xs : List PC.S44) (f f' : Option PC.S44), goB seq f xs = some f' → goB seq f (xs ++ [x]) = if stp f' x = true then none else some (nxF seq f' x)
  | [], f, f', h => by cases h; rfl
  | y :: t, f, f', h => by
    show (if stp f y = true then none else goB seq (nxF seq f y) (t ++ [x])) = _
    have h : (if stp f y = true then none else goB seq (nxF seq f y) t) = some f' := h
    by_cases h1 : stp f y = true
    · rw [if_pos h1] at h; cases h
    · rw [if_neg h1] at h ⊢; exact goB_snoc seq x t _ f' h
theorem bkS_go (seq : Int) (rest : List PC.S44) : ∀ (xs : List PC.S44) (f f' : Option PC.S44), goB seq f xs = some f' → bkS seq f (xs ++ rest) = bkS seq f' rest
  | [], f, f', h => by cases h; rfl
  | y :: t, f, f', h => by
    show (if stp f y = true then f else bkS seq (nxF seq f y) (t ++ rest)) = _
    have h : (if stp f y = true then none else goB seq (nxF seq f y) t) = some f' := h
    by_cases h1 : stp f y = true
    · rw [if_pos h1] at h; cases h
    · rw [if_neg h1] at h ⊢; exact bkS_go seq rest t _ f' h

theorem itq_prv (k : Nat) : ∀ j, itq prvQ (prvQ (some k)) j = prvQ (some (k - j))
  | 0 => rfl
  | j + 1 => by
    show prvQ (itq prvQ (prvQ (some k)) j) = _
    rw [itq_prv k j]
    cases h : k - j with
    | zero => rw [show k - (j + 1) = 0 by omega]; rfl
    | succ i => rw [show k - (j + 1) = i by omega]; rfl
theorem way_back {s : Sh} {k : Nat} (hk : k ≤ s.N) {pre : List PC.S44} (h : Way s prvQ (prvQ (some k)) pre) : pre = (((upto s s.N).take k).reverse).take pre.length := by
  have hl : ((upto s s.N).take k).length = k := by rw [List.length_take, upto_len]; omega
  apply List.ext_getElem?
  intro j
  by_cases hj : j < pre.length
  · obtain ⟨p', h1, h2⟩ := h j hj
    rw [itq_prv] at h1
    cases hi : k - j with
    | zero => rw [hi] at h1; cases h1
    | succ i =>
      rw [hi] at h1
      have h1 : some i = some p' := h1
      cases h1
      rw [h2, List.getElem?_take, if_pos hj, List.getElem?_reverse (by omega), hl, List.getElem?_take, if_pos (by omega), show k - 1 - j = p' by omega]
      simp [upto, show p' < s.N by omega]
  · rw [List.getElem?_eq_none (by omega), List.getElem?_eq_none (by rw [List.length_take]; omega)]
theorem way_ball {s : Sh} {k : Nat} (hk : k ≤ s.N) {xs : List PC.S44} (h : Way s prvQ (prvQ (some k)) xs) (he : itq prvQ (prvQ (some k)) xs.length = none) : xs = ((upto s s.N).take k).reverse := by
  have h1 := way_back hk h
  have hl : ((upto s s.N).take k).reverse.length = k := by rw [List.length_reverse, List.length_take, upto_len]; omega
  rw [itq_prv] at he
  cases hi : k - xs.length with
  | zero => rw [h1, List.take_of_length_le (by omega)]
  | succ i => rw [hi] at he; cases he
theorem way_bpre {s : Sh} {k : Nat} (hk : k ≤ s.N) {pre : List PC.S44} (h : Way s prvQ (prvQ (some k)) pre) : ∃ rest, ((upto s s.N).take k).reverse = pre ++ rest :=
  ⟨(((upto s s.N).take k).reverse).drop pre.length, by conv => rhs; lhs; rw [way_back hk h]
                                                       exact (List.take_append_drop _ _).symm⟩
def msB : Option Nat → Nat
  | none => 0
  | some p => p + 1
theorem msB_lt (p : Nat) : msB (prvQ (some p)) < msB (some p) := by
  cases p with
  | zero => show 0 < 1; omega
  | succ p => show p + 1 < p + 1 + 1; omega
theorem enters40 : ∀ args W, (callFunc 40 args).run Try.prog W = .ok (.enter 40 args) W := fun _ _ => by kernel_rfl

/-- What was found, where. -/
def FB (m : Nat) (f : Option PC.S44) (u : Value) (W : World) (F' : Nat → Prop) : Prop := match f with
  | none => u = .pointer none
  | some y => ∃ fb, u = .pointer (some ⟨fb, 0, none⟩) ∧ W.heap[fb]? = some (obj y) ∧ m + 6 ≤ fb ∧ ¬ F' fb
/-- What back's loop keeps: its boxes from m on; the view at V. -/
structure BkI (w : World) (m X V : Nat) (s : Sh) (F : Nat → Prop) (seq : Int) (f : Option PC.S44) (W : World) : Prop where
  bv : W.heap[m]? = some (box1 (.pointer (some ⟨V, 0, none⟩)) 69)
  kV : W.heap[V]? = some (.cells #[.pointer (some ⟨X, 0, none⟩), .int .u64 seq, .pointer none] 124 (0, 0))
  bx : ∃ q F' u, It W X s q F' ∧ (∀ b, F' b → F b ∨ m + 6 ≤ b) ∧ W.heap[m + 1]? = some (box1 u 148) ∧ FB m f u W F'
  fr : Fr (fun b => b = V ∨ F b) w W
section
variable {w W W1 : World} {m X V : Nat} {s : Sh} {F : Nat → Prop} {seq : Int} {f : Option PC.S44}
theorem FB.fr {P F' : Nat → Prop} {u : Value} (h : FB m f u W F') (hf : Fr P W W1) (hP : ∀ b, P b → b < m + 6 ∨ F' b) : FB m f u W1 F' := by
  cases f with
  | none => exact h
  | some y =>
    obtain ⟨fb, e, hk, hlo, hn⟩ := h
    refine ⟨fb, e, (hf.block _ (Array.getElem?_eq_some_iff.1 hk).1 (fun hp => ?_)).trans hk, hlo, hn⟩
    rcases hP _ hp with h | h
    · omega
    · exact hn h
/-- Other blocks have changed. -/
theorem BkI.fr' {P : Nat → Prop} (h : BkI w m X V s F seq f W) (hf : Fr P W W1) (hm : w.heap.size ≤ m) (hP : ∀ b, P b → ¬ F b ∧ b ≠ V ∧ b ≠ m ∧ b ≠ m + 1 ∧ m ≤ b ∧ b < m + 6) : BkI w m X V s F seq f W1 := by
  have keep : ∀ b o, W.heap[b]? = some o → ¬ P b → W1.heap[b]? = some o := fun b o h1 h2 => (hf.block b (Array.getElem?_eq_some_iff.1 h1).1 h2).trans h1
  obtain ⟨q, F', u, hi, hF, hu, hb⟩ := h.bx
  refine ⟨keep _ _ h.bv (fun h => (hP _ h).2.2.1 rfl), keep _ _ h.kV (fun h => (hP _ h).2.1 rfl), ⟨q, F', u, hi.fr hf (fun b _ hp hF' => ?_), hF, keep _ _ hu (fun h => (hP _ h).2.2.2.1 rfl), hb.fr hf (fun b hp => .inl (hP b hp).2.2.2.2.2)⟩, h.fr.trans hf (fun b hb h1 => by have := (hP b h1).2.2.2.2; omega)⟩
  rcases hF b hF' with h1 | h1
  · exact (hP b hp).1 h1
  · have := (hP b hp).2.2.2.2.2; omega
theorem BkI.rel {D : Nat} (h : BkI w m X V s F seq f W) (hr : RelX X s D W W1) (hm : w.heap.size ≤ m) (hD : D = m + 4) (hF : ∀ b, F b → b < m) (hV : V < m) (hFV : ¬ F V) : BkI w m X V s F seq f W1 := by
  obtain ⟨q, F', u, hi, hF', hu, hb⟩ := h.bx
  obtain ⟨q2, F2, q', hi2, ⟨F3, hi3, hf, hn⟩, h1, h2, h3⟩ := hr
  have hE : ∀ b, F2 b → F b ∨ m + 6 ≤ b := fun b hb => hF' b ((hi.uniq hi2 b).2 hb)
  have keep : ∀ b o, W.heap[b]? = some o → ¬ F b → b < m + 6 → W1.heap[b]? = some o := fun b o h1 h2 h3 => (hf.block b (Array.getElem?_eq_some_iff.1 h1).1 (fun h => by
    rcases hE b h with h | h
    · exact h2 h
    · omega)).trans h1
  refine ⟨keep _ _ h.bv (fun h => by have := hF _ h; omega) (by omega), keep _ _ h.kV hFV (by omega), ⟨q', F3, u, hi3, fun b hb => ?_, keep _ _ hu (fun h => by have := hF _ h; omega) (by omega), ?_⟩, h.fr.trans hf (fun b hb h1 => by
    rcases hE b h1 with h | h
    · exact .inr h
    · omega)⟩
  · rcases hn b hb with h | h
    · exact hE b h
    · exact .inr (by omega)
  · cases f with
    | none => exact hb
    | some y =>
      obtain ⟨fb, e, hk, hlo, hn'⟩ := hb
      have hl := (Array.getElem?_eq_some_iff.1 hk).1
      have hn2 : ¬ F2 fb := fun h => hn' ((hi.uniq hi2 _).2 h)
      refine ⟨fb, e, (hf.block _ hl hn2).trans hk, hlo, fun h => ?_⟩
      rcases hn _ h with h | h
      · exact hn2 h
      · omega
theorem BkI.below (h : BkI w m X V s F seq f W) (hb : Below W.heap.size W W1) : BkI w m X V s F seq f W1 := by
  obtain ⟨q, F', u, hi, hF', hu, hfb⟩ := h.bx
  exact ⟨blk_below h.bv hb, blk_below h.kV hb, ⟨q, F', u, hi.below hb, hF', blk_below hu hb, hfb.fr (P := fun _ => False) (Fr.of_below hb) (fun _ h => h.elim)⟩, h.fr.below hb⟩
theorem BkI.base (h : BkI w m X V s F seq f W) : W.cell? ⟨m, 0, none⟩ = some (.pointer (some ⟨V, 0, none⟩)) ∧ W.cell? ⟨V, 1, none⟩ = some (.int .u64 seq) ∧ W.frozen? ⟨m + 1, 0, none⟩ = false ∧ W.cell? ⟨V, 2, none⟩ = some (.pointer none) ∧ W.frozen? ⟨V, 2, none⟩ = false := by
  have h1 := h.bv
  obtain ⟨q, F', u, hi, hF', hu, hb⟩ := h.bx
  unfold box1 at h1 hu
  refine ⟨?_, ?_, ?_, ?_, ?_⟩ <;> simp [World.cell?, World.frozen?, h1, hu, h.kV]
theorem BkI.none_cell (h : BkI w m X V s F seq none W) : W.cell? ⟨m + 1, 0, none⟩ = some (.pointer none) := by
  obtain ⟨q, F', u, hi, hF', hu, hb⟩ := h.bx
  have hb : u = .pointer none := hb
  subst hb
  unfold box1 at hu
  simp [World.cell?, hu]
theorem BkI.some_cell {y : PC.S44} (h : BkI w m X V s F seq (some y) W) : ∃ fb, W.cell? ⟨m + 1, 0, none⟩ = some (.pointer (some ⟨fb, 0, none⟩)) ∧ W.heap[fb]? = some (obj y) := by
  obtain ⟨q, F', u, hi, hF', hu, hb⟩ := h.bx
  obtain ⟨fb, e, hk, _⟩ := hb
  subst e
  unfold box1 at hu
  exact ⟨fb, by simp [World.cell?, hu], hk⟩
/-- Something else is found. -/
theorem BkI.put (h : BkI w m X V s F seq f W) (hm : w.heap.size ≤ m) (hF : ∀ b, F b → b < m) (hV : V < m) {f' : Option PC.S44} {u' : Value} (hfb : ∀ q F', It W X s q F' → FB m f' u' W F') : BkI w m X V s F seq f' (W.setCell ⟨m + 1, 0, none⟩ u') ∧ Fr (fun b => b = m + 1) W (W.setCell ⟨m + 1, 0, none⟩ u') := by
  have fa : Fr (fun b => b = m + 1) W (W.setCell ⟨m + 1, 0, none⟩ u') := (Fr.refl (fun b => b = m + 1) W).set ⟨m + 1, 0, none⟩ _ rfl
  obtain ⟨q, F', u, hi, hF', hu, hb⟩ := h.bx
  have keep : ∀ b o, W.heap[b]? = some o → b ≠ m + 1 → (W.setCell ⟨m + 1, 0, none⟩ u').heap[b]? = some o := fun b o h1 h2 => (fa.block b (Array.getElem?_eq_some_iff.1 h1).1 h2).trans h1
  refine ⟨⟨keep _ _ h.bv (by omega), keep _ _ h.kV (by omega), ⟨q, F', u', hi.fr fa (fun b _ hb hF'' => ?_), hF', ?_, (hfb q F' hi).fr fa (fun b hb => .inl (by omega))⟩, h.fr.trans fa (fun b hb h1 => by omega)⟩, fa⟩
  · rcases hF' b hF'' with h1 | h1
    · have := hF b h1; omega
    · omega
  · unfold box1 at hu ⊢
    rw [heap_setCell_same W (m + 1) 0 _ 148 _ hu]
    rfl
end

/-- The loop's frame in a round: its variable's block, its value. -/
def actB (m X V kb : Nat) (x : PC.S44) : Act := { tmps := #[.pointer (some ⟨V, 0, none⟩), .pointer (some ⟨m, 0, none⟩), .pointer (some ⟨m + 1, 0, none⟩), .pointer (some ⟨kb, 0, none⟩), .pointer (some ⟨V, 0, none⟩), .pointer (some ⟨V, 0, none⟩), .pointer (some ⟨V, 2, none⟩), .pointer (some ⟨V, 0, none⟩), .pointer (some ⟨V, 0, none⟩), .pointer (some ⟨V, 0, none⟩), .pointer (some ⟨V, 0, none⟩), .pointer (some ⟨X, 0, none⟩), .func (.func 40) #[.pointer (some ⟨X, 0, none⟩)] #[], .agg #[.func (.func 40) #[.pointer (some ⟨X, 0, none⟩)] #[]], .func (.func 105) #[] #[.pointer (some ⟨m + 2, 0, none⟩), .pointer (some ⟨m + 2 + 1, 0, none⟩)], .agg #[.string x.f0.f0, .int .u64 x.f0.f1, .int .i64 x.f0.f2, .string x.f1], undef, undef, undef, undef, undef, undef, undef, undef, undef, undef, undef, undef, undef, undef, undef, undef, undef, undef, undef, undef, undef, undef, undef, undef, undef, undef, undef, undef, undef, undef, undef, undef, undef, undef, undef, undef, undef, undef, undef, undef, undef, undef, undef, undef, undef, undef, undef, undef, undef, undef, undef], defers := [] }
attribute [local go_sem] Oper.semAt_some
set_option maxHeartbeats 8000000 in
theorem vback_w (w : World) (X V : Nat) (s : Sh) (k : Nat) (F : Nat → Prop) (seq : Int) (hv : Value) (hkN : k ≤ s.N) (hIt : It w X s (prvQ (some k)) F) (hV : w.heap[V]? = some (.cells #[.pointer (some ⟨X, 0, none⟩), .int .u64 seq, hv] 124 (0, 0))) (hFV : ¬ F V) :
    Calls Try.prog 83 #[.pointer (some ⟨V, 0, none⟩)] w fun e w' => e = .returned (.tuple #[]) ∧ VEnd w X V s F seq (finB (bkS seq none (((upto s s.N).take k).reverse))) w' := by
  obtain ⟨q, hq⟩ : ∃ q, prvQ (some k) = q := ⟨_, rfl⟩
  have Hq := Lib.hid (And.intro hq hkN)
  rw [hq] at hIt
  clear hq hkN
  refine (callsIn_wide (n := 3)).1 ?_
  refine callsIn_of_wp_marks Try.func83 rfl trivial ?_ rfl
  refine wpIn_wide.2 ?_
  simp only [Try.ntmps83, List.size_toArray, List.length_cons, List.length_nil, Nat.reduceAdd, Nat.reduceSub, Array.replicate_succ, Array.replicate_zero, List.push_toArray, List.append_toArray, List.nil_append, List.cons_append]
  obtain ⟨m, hm⟩ : ∃ m, w.heap.size = m := ⟨_, rfl⟩
  have hlt : V < m := by rw [← hm]; exact (Array.getElem?_eq_some_iff.1 hV).1
  have hFl : ∀ b, F b → b < m := fun b hb => by rw [← hm]; exact hIt.lt hb
  obtain ⟨W0, hW0⟩ : ∃ W0, w.alloc (.cells #[.pointer (some ⟨V, 0, none⟩)] 69) = W0 := ⟨_, rfl⟩
  have b0 : Below w.heap.size w W0 := by rw [← hW0]; exact (Below.refl _ _).alloc (Nat.le_refl _) _
  have s0 : W0.heap.size = m + 1 := by rw [← hW0, ← hm]; simp
  have k0 : W0.heap[m]? = some (box1 (.pointer (some ⟨V, 0, none⟩)) 69) := by rw [← hW0, ← hm]; exact World.alloc_heap_new w _
  have c0 : W0.cell? ⟨m, 0, none⟩ = some (.pointer (some ⟨V, 0, none⟩)) := by unfold box1 at k0; simp [World.cell?, k0]
  have kV := blk_below hV b0
  have cV2 : W0.cell? ⟨V, 2, none⟩ = some hv := by simp [World.cell?, kV]
  have fV2 : W0.frozen? ⟨V, 2, none⟩ = false := by simp [World.frozen?, kV]
  obtain ⟨W3, hW3⟩ : ∃ W3, ((W0.setCell ⟨V, 2, none⟩ (.pointer none)).alloc (.cells #[.pointer none] 148)) = W3 := ⟨_, rfl⟩
  have f3 : Fr (fun b => b = V) w W3 ∧ W3.heap.size = m + 2 ∧ W3.heap[m]? = some (box1 (.pointer (some ⟨V, 0, none⟩)) 69) ∧ W3.heap[m + 1]? = some (box1 (.pointer none) 148) ∧ W3.heap[V]? = some (.cells #[.pointer (some ⟨X, 0, none⟩), .int .u64 seq, .pointer none] 124 (0, 0)) := by
    obtain ⟨Wa, hWa⟩ : ∃ Wa, W0.setCell ⟨V, 2, none⟩ (.pointer none) = Wa := ⟨_, rfl⟩
    have sa : Wa.heap.size = m + 1 := by rw [← hWa, ← s0]; simp
    have ka : Wa.heap[V]? = some (.cells #[.pointer (some ⟨X, 0, none⟩), .int .u64 seq, .pointer none] 124 (0, 0)) := by rw [← hWa, heap_setCell_same W0 V 2 _ 124 _ kV]; rfl
    have km : Wa.heap[m]? = some (box1 (.pointer (some ⟨V, 0, none⟩)) 69) := by rw [← hWa]; exact (heap_setCell_other _ _ _ _ (show m ≠ V by omega)).trans k0
    have fa : Fr (fun b => b = V) w Wa := by rw [← hWa]; exact (Fr.of_below (O := fun b => b = V) b0).set ⟨V, 2, none⟩ _ rfl
    rw [hWa] at hW3
    have bb : Below Wa.heap.size Wa W3 := by rw [← hW3]; exact (Below.refl _ _).alloc (Nat.le_refl _) _
    exact ⟨fa.below bb, by rw [← hW3]; simp [sa], blk_below km bb, by rw [← hW3, ← sa]; exact World.alloc_heap_new Wa _, blk_below ka bb⟩
  have HIt := Lib.hid (And.intro hIt (And.intro hFV hFl))
  have H3 := Lib.hid f3
  have cd0 : W3.drew.cell? ⟨m, 0, none⟩ = some (.pointer (some ⟨V, 0, none⟩)) := by have h1 := blk_below H3.out.2.2.1 ((Below.refl _ W3).drew); unfold box1 at h1; simp [World.cell?, h1]
  have cd1 : W3.drew.cell? ⟨V, 0, none⟩ = some (.pointer (some ⟨X, 0, none⟩)) := by simp [World.cell?, blk_below H3.out.2.2.2.2 ((Below.refl _ W3).drew)]
  have HX := Lib.hid (And.intro cd0 cd1)
  have HW3 := Lib.hid hW3
  clear f3 cd0 cd1 hIt hV hFV hFl k0 kV b0 hW3
  go_wp2_with (first | rw [hW0, hm])
  rw [HW3.out]
  go_region_held3 (fun w' => w'.cell? ⟨m, 0, none⟩ = some (.pointer (some ⟨V, 0, none⟩)) ∧ w'.cell? ⟨V, 0, none⟩ = some (.pointer (some ⟨X, 0, none⟩))) (first | exact HX.out | exact HB2.out) (first | (go_at_call 98; refine Calls.mono (entries98_w V X 40 _) ?_; rintro e w4 ⟨rfl, hw4⟩; have hb4 : Below W3.drew.heap.size W3.drew w4 := hw4 ▸ below_alloc (below_alloc (Below.refl W3.drew.heap.size W3.drew) _) _; have HB2 := Lib.hid (And.intro (cell_up' HX.out.1 hb4) (cell_up' HX.out.2 hb4)); have HB1 := Lib.hid (And.intro hw4 hb4); clear hw4 hb4))
  obtain ⟨W5, rfl⟩ : ∃ W5, W5 = w4 := ⟨_, rfl⟩
  have h5 : Below W3.heap.size W3 W5 ∧ W5.heap.size = m + 4 ∧ W5.heap[m + 2]? = some (.cells #[.pointer (some ⟨V, 0, none⟩)] 69 (0, 0)) ∧ W5.heap[m + 3]? = some (.cells #[.func (.func 40) #[.pointer (some ⟨X, 0, none⟩)] #[]] 147 (0, 0)) := by
    have hW5 := HB1.out.1.symm
    have b3 : Below W3.heap.size W3 W3.drew := (Below.refl _ _).drew
    obtain ⟨Wd, hWd⟩ : ∃ Wd, W3.drew = Wd := ⟨_, rfl⟩
    have s3 : Wd.heap.size = m + 2 := by rw [← hWd]; exact H3.out.2.1
    rw [hWd] at hW5 b3
    obtain ⟨Wa, hWa⟩ : ∃ Wa, Wd.alloc (.cells #[.pointer (some ⟨V, 0, none⟩)] 69) = Wa := ⟨_, rfl⟩
    have ba : Below Wd.heap.size Wd Wa := by rw [← hWa]; exact (Below.refl _ _).alloc (Nat.le_refl _) _
    have sa : Wa.heap.size = m + 3 := by rw [← hWa]; simp [s3]
    have ka : Wa.heap[m + 2]? = some (.cells #[.pointer (some ⟨V, 0, none⟩)] 69 (0, 0)) := by rw [← hWa, ← s3]; exact World.alloc_heap_new Wd _
    rw [hWa] at hW5
    have bb : Below Wa.heap.size Wa W5 := by rw [← hW5]; exact (Below.refl _ _).alloc (Nat.le_refl _) _
    have sb : W5.heap.size = m + 4 := by rw [← hW5]; simp [sa]
    have kb : W5.heap[m + 3]? = some (.cells #[.func (.func 40) #[.pointer (some ⟨X, 0, none⟩)] #[]] 147 (0, 0)) := by rw [← hW5, ← sa]; exact World.alloc_heap_new Wa _
    exact ⟨(b3.trans (ba.mono b3.size)).trans (bb.mono (by have := ba.size; have := b3.size; omega)), sb, blk_below ka bb, kb⟩
  have H5 := Lib.hid h5
  have s3 := H3.out.2.1
  clear h5 HB1 HX
  (try simp only [World.drew_size])
  (try simp only [s3])
  go_wp2_with fail
  have hD5 : W5.heap.size = m + 4 := H5.out.2.1
  have hI5 : It W5 X s q F := (HIt.out.1.fr H3.out.1 (fun b _ hb hF => HIt.out.2.1 (hb ▸ hF))).below H5.out.1
  have hseq := entries1_w 2 (by omega) W5 X V (m + 2) (m + 3) 40 s q F (fun b => b = m + 1) prvQ msB msB_lt (fun w q F h => prev_q h) enters40 hI5 (by simp [World.cell?, blk_below H3.out.2.2.2.2 H5.out.1]) H5.out.2.2.1 H5.out.2.2.2 HIt.out.2.1 (fun h => by have := HIt.out.2.2 _ h; omega) (fun h => by have := HIt.out.2.2 _ h; omega)
    (fun b hb => by
      subst hb
      exact ⟨by omega, fun h => by have := HIt.out.2.2 _ h; omega, by omega, by omega, by omega⟩)
  have hm' : w.heap.size ≤ m := Nat.le_of_eq hm
  have hI0 : BkI w m X V s F seq none W5 := ⟨blk_below H3.out.2.2.1 H5.out.1, blk_below H3.out.2.2.2.2 H5.out.1, ⟨q, F, _, hI5, fun b h => .inl h, blk_below H3.out.2.2.2.1 H5.out.1, rfl⟩, (H3.out.1.mono (fun b _ h => Or.inl h)).below H5.out.1⟩
  refine wpIn_wide.1 (range_rel2 (n := 3) rfl (by omega) (gf := 105) (lb := #[.pointer (some ⟨m + 2, 0, none⟩), .pointer (some ⟨m + 3, 0, none⟩)]) rfl trivial (enters_of Try.func105 (by kernel_rfl) rfl) hseq (fun x => rfl) (fun A B h => h.kd) ?hKt ?hKb
    (fun pre W => (∃ f, goB seq none pre = some f ∧ BkI w m X V s F seq f W) ∧ m + 6 ≤ W.heap.size) (fun c pre W => c = .exit 0 ∧ ∃ pre' x f, pre = pre' ++ [x] ∧ goB seq none pre' = some f ∧ stp f x = true ∧ BkI w m X V s F seq f W)
    (fun pre x a' W => ∃ kb, W.heap[kb]? = some (obj x) ∧ m + 6 ≤ kb ∧ (∃ q F', It W X s q F' ∧ (∀ b, F' b → F b ∨ m + 6 ≤ b) ∧ ¬ F' kb) ∧ a' = actB m X V kb x)
    ?hIp ?hIxp ?hAp ?hIr ?hIxr ?h0 ?hassign ?hbody ?hdone ?hstop)
  case hKt => exact fun h k => h.trans k
  case hKb => exact fun W o o' _ _ => (putObj_fr W _ o').mono (fun b _ hb => Or.inr (Or.inr hb))
  case hIp =>
    rintro pre W o o' ⟨⟨f, hf, hI⟩, hsz⟩ ho hc
    exact ⟨⟨f, hf, hI.fr' (putObj_fr W _ o') hm' (fun b hb => ⟨fun h => by have := HIt.out.2.2 _ h; omega, by omega, by omega, by omega, by omega, by omega⟩)⟩, by rw [World.putObj_size]; exact hsz⟩
  case hIxp =>
    rintro c pre W o o' ⟨rfl, pre', x, f, e, h1, h2, hI⟩ ho hc
    exact ⟨rfl, pre', x, f, e, h1, h2, hI.fr' (putObj_fr W _ o') hm' (fun b hb => ⟨fun h => by have := HIt.out.2.2 _ h; omega, by omega, by omega, by omega, by omega, by omega⟩)⟩
  case hAp =>
    rintro pre x a' W o o' ⟨kb, hk, hlo, ⟨q2, F2, hi2, hF2, hn2⟩, e⟩ ho hc
    refine ⟨kb, ((putObj_fr W _ o').block _ (Array.getElem?_eq_some_iff.1 hk).1 (show kb ≠ W5.heap.size + 1 by omega)).trans hk, hlo, ⟨q2, F2, hi2.fr (putObj_fr W _ o') (fun b _ hb hF => ?_), hF2, hn2⟩, e⟩
    rcases hF2 b hF with h | h
    · have := HIt.out.2.2 _ h; omega
    · omega
  case hIr =>
    rintro pre A B ⟨⟨f, hf, hI⟩, hsz⟩ hr
    refine ⟨⟨f, hf, hI.rel hr hm' hD5 HIt.out.2.2 hlt HIt.out.2.1⟩, ?_⟩
    obtain ⟨_, _, _, _, ⟨_, _, hf, _⟩, _⟩ := hr
    have := hf.size
    omega
  case hIxr =>
    rintro c pre A B ⟨rfl, pre', x, f, e, h1, h2, hI⟩ hr
    exact ⟨rfl, pre', x, f, e, h1, h2, hI.rel hr hm' hD5 HIt.out.2.2 hlt HIt.out.2.1⟩
  case h0 => exact fun o => ⟨⟨none, rfl, hI0.below (below_alloc (below_alloc (Below.refl _ _) _) _)⟩, by simp; omega⟩
  case hassign =>
    rintro l pre x W K ⟨⟨f, hf, hI⟩, hsz⟩ hsp hK
    unfold val44
    obtain ⟨W1, hW1⟩ : ∃ W1, W.alloc (.cells #[.string x.f0.f0, .int .u64 x.f0.f1, .int .i64 x.f0.f2, .string x.f1] 44) = W1 := ⟨_, rfl⟩
    have b1 : Below W.heap.size W W1 := by rw [← hW1]; exact (Below.refl _ _).alloc (Nat.le_refl _) _
    have k1 : W1.heap[W.heap.size]? = some (obj x) := by rw [← hW1]; exact World.alloc_heap_new W _
    have HW1 := Lib.hid hW1
    clear hW1
    gi_wp2
    rw [HW1.out]
    obtain ⟨q9, F9, u9, hi9, hF9, _, _⟩ := hI.bx
    exact hK (actB m X V W.heap.size x) W1 ⟨b1.block _ (by omega), b1.block _ (by omega)⟩ (Fr.of_below b1) ⟨⟨f, hf, hI.below b1⟩, by have := b1.size; omega⟩ ⟨W.heap.size, k1, hsz, ⟨q9, F9, hi9.below b1, hF9, fun h => by have := hi9.lt h; omega⟩, rfl⟩
  case hbody =>
    rintro l pre x a' W ⟨⟨f, hf, hI⟩, hsz⟩ ⟨kb, hk, hlo, ⟨q2, F2, hi2, hF2, hn2⟩, rfl⟩ hsp
    have HK := Lib.hid (show (∀ Wc, Fr (fun b => b = m + 1) W Wc → Wc.heap[kb]? = some (obj x)) ∧ m + 6 ≤ kb ∧ (∀ Wc, Fr (fun b => b = m + 1) W Wc → ∀ q F', It Wc X s q F' → ¬ F' kb) from
      ⟨fun Wc hc => (hc.block _ (Array.getElem?_eq_some_iff.1 hk).1 (by omega)).trans hk, hlo, fun Wc hc q F' hi h => hn2 (((hi2.fr hc (fun b _ hb hF => by
        rcases hF2 b hF with h | h
        · have := HIt.out.2.2 _ h; omega
        · omega)).uniq hi _).2 h)⟩)
    have HKD := Lib.hid (show ∀ Wc, Fr (fun b => b = m + 1) W Wc → KD W5.heap.size W Wc from fun Wc hc => ⟨hc.block _ (by omega) (by omega), hc.block _ (by omega) (by omega)⟩)
    have H := Lib.hid (And.intro hf (And.intro hI hsz))
    have HW := Lib.hid (And.intro hI (Fr.refl (fun b => b = m + 1) W))
    clear hf hI hsz hk hlo hi2 hF2 hn2 hsp
    unfold actB
    cases f with
    | none =>
      obtain ⟨c0, c1, c2, c3, c4⟩ := HW.out.1.base
      obtain ⟨a0, a1, a2, a3⟩ := obj_cells (HK.out.1 W HW.out.2)
      have c5 := HW.out.1.none_cell
      have HS := Lib.hid (show stp none x = false from rfl)
      gi_wp2_with fail
      refine region_quiet_round rfl (by kernel_rfl) (by kernel_rfl) (by kernel_rfl) ?_
      repeat (gi_big_quiet_step (fail))
      refine wpQuietIn_nil ?_
      rintro _ ⟨nq, rfl⟩
      obtain ⟨Wd, hWd⟩ : ∃ Wd, W.drewN nq = Wd := ⟨_, rfl⟩
      have bdWd : Below W.heap.size W Wd := by rw [← hWd]; exact ⟨rfl, rfl, rfl, Nat.le_refl _, fun _ _ => rfl⟩
      rw [hWd]
      have HWd := Lib.hid (And.intro (HW.out.1.below bdWd) (HW.out.2.below bdWd))
      clear hWd bdWd c0 c1 c2 c3 c4 a0 a1 a2 a3 c5
      by_cases hs : x.f0.f1 ≤ seq
      · have ds : decide (x.f0.f1 ≤ seq) = true := decide_eq_true hs
        obtain ⟨c0, c1, c2, c3, c4⟩ := HWd.out.1.base
        obtain ⟨a0, a1, a2, a3⟩ := obj_cells (HK.out.1 Wd HWd.out.2)
        have c5 := HWd.out.1.none_cell
        gi_wp2_with fail
        refine region_quiet_round rfl (by kernel_rfl) (by kernel_rfl) (by kernel_rfl) ?_
        repeat (gi_big_quiet_step (fail))
        refine wpQuietIn_nil ?_
        rintro _ ⟨nq, rfl⟩
        obtain ⟨We, hWe⟩ : ∃ We, Wd.drewN nq = We := ⟨_, rfl⟩
        have bdWe : Below Wd.heap.size Wd We := by rw [← hWe]; exact ⟨rfl, rfl, rfl, Nat.le_refl _, fun _ _ => rfl⟩
        rw [hWe]
        have HWe := Lib.hid (And.intro (HWd.out.1.below bdWe) (HWd.out.2.below bdWe))
        clear hWe bdWe c0 c1 c2 c3 c4 a0 a1 a2 a3 c5
        obtain ⟨c0, c1, c2, c3, c4⟩ := HWe.out.1.base
        obtain ⟨a0, a1, a2, a3⟩ := obj_cells (HK.out.1 We HWe.out.2)
        have c5 := HWe.out.1.none_cell
        obtain ⟨W2, hW2⟩ : ∃ W2, We.setCell ⟨m + 1, 0, none⟩ (.pointer (some ⟨kb, 0, none⟩)) = W2 := ⟨_, rfl⟩
        have hp := HWe.out.1.put hm' HIt.out.2.2 hlt (f' := some x) (u' := .pointer (some ⟨kb, 0, none⟩)) (fun q F' hi => ⟨kb, rfl, HK.out.1 We HWe.out.2, HK.out.2.1, HK.out.2.2 We HWe.out.2 q F' hi⟩)
        rw [hW2] at hp
        have HW2 := Lib.hid (And.intro hp.1 (HWe.out.2.trans hp.2 (fun _ _ h => h)))
        clear hp
        have HZ := Lib.hid (show KD W5.heap.size W W2 ∧ KpX (fun b => b = m + 1) W5.heap.size W W2 ∧ ((∃ f, goB seq none (pre ++ [x]) = some f ∧ BkI w m X V s F seq f W2) ∧ m + 6 ≤ W2.heap.size) from
          ⟨HKD.out W2 HW2.out.2, HW2.out.2.mono (fun _ _ h => Or.inl h), ⟨some x, by rw [goB_snoc seq x pre _ _ H.out.1, if_neg (by rw [HS.out]; decide)]; unfold nxF; rw [if_pos hs], HW2.out.1⟩, by have := HW2.out.2.size; have := H.out.2.2; omega⟩)
        gi_wp2_with (first | rw [hW2])
        exact HZ.out
      · have ds : decide (x.f0.f1 ≤ seq) = false := decide_eq_false hs
        obtain ⟨c0, c1, c2, c3, c4⟩ := HWd.out.1.base
        obtain ⟨a0, a1, a2, a3⟩ := obj_cells (HK.out.1 Wd HWd.out.2)
        have c5 := HWd.out.1.none_cell
        gi_wp2_with fail
        refine region_quiet_round rfl (by kernel_rfl) (by kernel_rfl) (by kernel_rfl) ?_
        repeat (gi_big_quiet_step (fail))
        refine wpQuietIn_nil ?_
        rintro _ ⟨nq, rfl⟩
        obtain ⟨We, hWe⟩ : ∃ We, Wd.drewN nq = We := ⟨_, rfl⟩
        have bdWe : Below Wd.heap.size Wd We := by rw [← hWe]; exact ⟨rfl, rfl, rfl, Nat.le_refl _, fun _ _ => rfl⟩
        rw [hWe]
        have HWe := Lib.hid (And.intro (HWd.out.1.below bdWe) (HWd.out.2.below bdWe))
        clear hWe bdWe c0 c1 c2 c3 c4 a0 a1 a2 a3 c5
        have HZ := Lib.hid (show KD W5.heap.size W We ∧ KpX (fun b => b = m + 1) W5.heap.size W We ∧ ((∃ f, goB seq none (pre ++ [x]) = some f ∧ BkI w m X V s F seq f We) ∧ m + 6 ≤ We.heap.size) from
          ⟨HKD.out We HWe.out.2, HWe.out.2.mono (fun _ _ h => Or.inl h), ⟨none, by rw [goB_snoc seq x pre _ _ H.out.1, if_neg (by rw [HS.out]; decide)]; unfold nxF; rw [if_neg (by omega)]; rfl, HWe.out.1⟩, by have := HWe.out.2.size; have := H.out.2.2; omega⟩)
        gi_wp2_with fail
        exact HZ.out
    | some y =>
      cases hu : (x.f0.f0.toList == y.f0.f0.toList) with
      | true =>
        have HS := Lib.hid (show stp (some y) x = false from by unfold stp; simp only [hu]; rfl)
        have HO := Lib.hid (show oth (some y) x = false from by unfold oth; simp only [hu]; rfl)
        obtain ⟨c0, c1, c2, c3, c4⟩ := HW.out.1.base
        obtain ⟨a0, a1, a2, a3⟩ := obj_cells (HK.out.1 W HW.out.2)
        obtain ⟨fb, c5, kfb⟩ := HW.out.1.some_cell
        obtain ⟨e0, e1, e2, e3⟩ := obj_cells kfb
        gi_wp2_with fail
        refine region_quiet_round rfl (by kernel_rfl) (by kernel_rfl) (by kernel_rfl) ?_
        repeat (gi_big_quiet_step (fail))
        refine wpQuietIn_nil ?_
        rintro _ ⟨nq, rfl⟩
        obtain ⟨Wd, hWd⟩ : ∃ Wd, W.drewN nq = Wd := ⟨_, rfl⟩
        have bdWd : Below W.heap.size W Wd := by rw [← hWd]; exact ⟨rfl, rfl, rfl, Nat.le_refl _, fun _ _ => rfl⟩
        rw [hWd]
        have HWd := Lib.hid (And.intro (HW.out.1.below bdWd) (HW.out.2.below bdWd))
        clear hWd bdWd c0 c1 c2 c3 c4 a0 a1 a2 a3 c5 e0 e1 e2 e3 kfb
        by_cases hs : x.f0.f1 ≤ seq
        · have ds : decide (x.f0.f1 ≤ seq) = true := decide_eq_true hs
          obtain ⟨c0, c1, c2, c3, c4⟩ := HWd.out.1.base
          obtain ⟨a0, a1, a2, a3⟩ := obj_cells (HK.out.1 Wd HWd.out.2)
          obtain ⟨fb, c5, kfb⟩ := HWd.out.1.some_cell
          obtain ⟨e0, e1, e2, e3⟩ := obj_cells kfb
          gi_wp2_with fail
          refine region_quiet_round rfl (by kernel_rfl) (by kernel_rfl) (by kernel_rfl) ?_
          repeat (gi_big_quiet_step (fail))
          refine wpQuietIn_nil ?_
          rintro _ ⟨nq, rfl⟩
          obtain ⟨We, hWe⟩ : ∃ We, Wd.drewN nq = We := ⟨_, rfl⟩
          have bdWe : Below Wd.heap.size Wd We := by rw [← hWe]; exact ⟨rfl, rfl, rfl, Nat.le_refl _, fun _ _ => rfl⟩
          rw [hWe]
          have HWe := Lib.hid (And.intro (HWd.out.1.below bdWe) (HWd.out.2.below bdWe))
          clear hWe bdWe c0 c1 c2 c3 c4 a0 a1 a2 a3 c5 e0 e1 e2 e3 kfb
          obtain ⟨c0, c1, c2, c3, c4⟩ := HWe.out.1.base
          obtain ⟨a0, a1, a2, a3⟩ := obj_cells (HK.out.1 We HWe.out.2)
          obtain ⟨fb, c5, kfb⟩ := HWe.out.1.some_cell
          obtain ⟨e0, e1, e2, e3⟩ := obj_cells kfb
          obtain ⟨W2, hW2⟩ : ∃ W2, We.setCell ⟨m + 1, 0, none⟩ (.pointer (some ⟨kb, 0, none⟩)) = W2 := ⟨_, rfl⟩
          have hp := HWe.out.1.put hm' HIt.out.2.2 hlt (f' := some x) (u' := .pointer (some ⟨kb, 0, none⟩)) (fun q F' hi => ⟨kb, rfl, HK.out.1 We HWe.out.2, HK.out.2.1, HK.out.2.2 We HWe.out.2 q F' hi⟩)
          rw [hW2] at hp
          have HW2 := Lib.hid (And.intro hp.1 (HWe.out.2.trans hp.2 (fun _ _ h => h)))
          clear hp
          have HZ := Lib.hid (show KD W5.heap.size W W2 ∧ KpX (fun b => b = m + 1) W5.heap.size W W2 ∧ ((∃ f, goB seq none (pre ++ [x]) = some f ∧ BkI w m X V s F seq f W2) ∧ m + 6 ≤ W2.heap.size) from
            ⟨HKD.out W2 HW2.out.2, HW2.out.2.mono (fun _ _ h => Or.inl h), ⟨some x, by rw [goB_snoc seq x pre _ _ H.out.1, if_neg (by rw [HS.out]; decide)]; unfold nxF; rw [if_pos hs], HW2.out.1⟩, by have := HW2.out.2.size; have := H.out.2.2; omega⟩)
          gi_wp2_with (first | rw [hW2])
          exact HZ.out
        · have ds : decide (x.f0.f1 ≤ seq) = false := decide_eq_false hs
          obtain ⟨c0, c1, c2, c3, c4⟩ := HWd.out.1.base
          obtain ⟨a0, a1, a2, a3⟩ := obj_cells (HK.out.1 Wd HWd.out.2)
          obtain ⟨fb, c5, kfb⟩ := HWd.out.1.some_cell
          obtain ⟨e0, e1, e2, e3⟩ := obj_cells kfb
          gi_wp2_with fail
          refine region_quiet_round rfl (by kernel_rfl) (by kernel_rfl) (by kernel_rfl) ?_
          repeat (gi_big_quiet_step (fail))
          refine wpQuietIn_nil ?_
          rintro _ ⟨nq, rfl⟩
          obtain ⟨We, hWe⟩ : ∃ We, Wd.drewN nq = We := ⟨_, rfl⟩
          have bdWe : Below Wd.heap.size Wd We := by rw [← hWe]; exact ⟨rfl, rfl, rfl, Nat.le_refl _, fun _ _ => rfl⟩
          rw [hWe]
          have HWe := Lib.hid (And.intro (HWd.out.1.below bdWe) (HWd.out.2.below bdWe))
          clear hWe bdWe c0 c1 c2 c3 c4 a0 a1 a2 a3 c5 e0 e1 e2 e3 kfb
          have HZ := Lib.hid (show KD W5.heap.size W We ∧ KpX (fun b => b = m + 1) W5.heap.size W We ∧ ((∃ f, goB seq none (pre ++ [x]) = some f ∧ BkI w m X V s F seq f We) ∧ m + 6 ≤ We.heap.size) from
            ⟨HKD.out We HWe.out.2, HWe.out.2.mono (fun _ _ h => Or.inl h), ⟨some y, by rw [goB_snoc seq x pre _ _ H.out.1, if_neg (by rw [HS.out]; decide)]; unfold nxF; rw [if_neg (by omega)]; rw [if_neg (by rw [HO.out]; decide)], HWe.out.1⟩, by have := HWe.out.2.size; have := H.out.2.2; omega⟩)
          gi_wp2_with fail
          exact HZ.out
      | false =>
        have HO := Lib.hid (show oth (some y) x = true from by unfold oth; simp only [hu]; rfl)
        by_cases hp : y.f0.f2 = 1
        · have dp : (y.f0.f2 == 1) = true := by simpa using hp
          have HS := Lib.hid (show stp (some y) x = true from by unfold stp; simp only [hu, dp]; rfl)
          obtain ⟨c0, c1, c2, c3, c4⟩ := HW.out.1.base
          obtain ⟨a0, a1, a2, a3⟩ := obj_cells (HK.out.1 W HW.out.2)
          obtain ⟨fb, c5, kfb⟩ := HW.out.1.some_cell
          obtain ⟨e0, e1, e2, e3⟩ := obj_cells kfb
          gi_wp2_with fail
          refine region_quiet_round rfl (by kernel_rfl) (by kernel_rfl) (by kernel_rfl) ?_
          repeat (gi_big_quiet_step (fail))
          refine wpQuietIn_nil ?_
          rintro _ ⟨nq, rfl⟩
          obtain ⟨Wd, hWd⟩ : ∃ Wd, W.drewN nq = Wd := ⟨_, rfl⟩
          have bdWd : Below W.heap.size W Wd := by rw [← hWd]; exact ⟨rfl, rfl, rfl, Nat.le_refl _, fun _ _ => rfl⟩
          rw [hWd]
          have HWd := Lib.hid (And.intro (HW.out.1.below bdWd) (HW.out.2.below bdWd))
          clear hWd bdWd c0 c1 c2 c3 c4 a0 a1 a2 a3 c5 e0 e1 e2 e3 kfb
          obtain ⟨c0, c1, c2, c3, c4⟩ := HWd.out.1.base
          obtain ⟨a0, a1, a2, a3⟩ := obj_cells (HK.out.1 Wd HWd.out.2)
          obtain ⟨fb, c5, kfb⟩ := HWd.out.1.some_cell
          obtain ⟨e0, e1, e2, e3⟩ := obj_cells kfb
          gi_wp2_with fail
          exact ⟨HKD.out Wd HWd.out.2, rfl, pre, x, some y, rfl, H.out.1, HS.out, HWd.out.1⟩
        · have dp : (y.f0.f2 == 1) = false := by simpa using hp
          have HS := Lib.hid (show stp (some y) x = false from by unfold stp; simp only [hu, dp]; rfl)
          obtain ⟨c0, c1, c2, c3, c4⟩ := HW.out.1.base
          obtain ⟨a0, a1, a2, a3⟩ := obj_cells (HK.out.1 W HW.out.2)
          obtain ⟨fb, c5, kfb⟩ := HW.out.1.some_cell
          obtain ⟨e0, e1, e2, e3⟩ := obj_cells kfb
          gi_wp2_with fail
          refine region_quiet_round rfl (by kernel_rfl) (by kernel_rfl) (by kernel_rfl) ?_
          repeat (gi_big_quiet_step (fail))
          refine wpQuietIn_nil ?_
          rintro _ ⟨nq, rfl⟩
          obtain ⟨Wd, hWd⟩ : ∃ Wd, W.drewN nq = Wd := ⟨_, rfl⟩
          have bdWd : Below W.heap.size W Wd := by rw [← hWd]; exact ⟨rfl, rfl, rfl, Nat.le_refl _, fun _ _ => rfl⟩
          rw [hWd]
          have HWd := Lib.hid (And.intro (HW.out.1.below bdWd) (HW.out.2.below bdWd))
          clear hWd bdWd c0 c1 c2 c3 c4 a0 a1 a2 a3 c5 e0 e1 e2 e3 kfb
          obtain ⟨c0, c1, c2, c3, c4⟩ := HWd.out.1.base
          obtain ⟨a0, a1, a2, a3⟩ := obj_cells (HK.out.1 Wd HWd.out.2)
          obtain ⟨fb, c5, kfb⟩ := HWd.out.1.some_cell
          obtain ⟨e0, e1, e2, e3⟩ := obj_cells kfb
          obtain ⟨W1, hW1⟩ : ∃ W1, Wd.setCell ⟨m + 1, 0, none⟩ (.pointer none) = W1 := ⟨_, rfl⟩
          have hq1 := HWd.out.1.put hm' HIt.out.2.2 hlt (f' := none) (u' := .pointer none) (fun q F' hi => rfl)
          rw [hW1] at hq1
          have HW1 := Lib.hid (And.intro hq1.1 (HWd.out.2.trans hq1.2 (fun _ _ h => h)))
          clear hq1
          gi_wp2_with (first | rw [hW1])
          clear c0 c1 c2 c3 c4 a0 a1 a2 a3 c5 e0 e1 e2 e3 kfb hW1
          by_cases hs : x.f0.f1 ≤ seq
          · have ds : decide (x.f0.f1 ≤ seq) = true := decide_eq_true hs
            obtain ⟨c0, c1, c2, c3, c4⟩ := HW1.out.1.base
            obtain ⟨a0, a1, a2, a3⟩ := obj_cells (HK.out.1 W1 HW1.out.2)
            have c5 := HW1.out.1.none_cell
            gi_wp2_with fail
            refine region_quiet_round rfl (by kernel_rfl) (by kernel_rfl) (by kernel_rfl) ?_
            repeat (gi_big_quiet_step (fail))
            refine wpQuietIn_nil ?_
            rintro _ ⟨nq, rfl⟩
            obtain ⟨We, hWe⟩ : ∃ We, W1.drewN nq = We := ⟨_, rfl⟩
            have bdWe : Below W1.heap.size W1 We := by rw [← hWe]; exact ⟨rfl, rfl, rfl, Nat.le_refl _, fun _ _ => rfl⟩
            rw [hWe]
            have HWe := Lib.hid (And.intro (HW1.out.1.below bdWe) (HW1.out.2.below bdWe))
            clear hWe bdWe c0 c1 c2 c3 c4 a0 a1 a2 a3 c5
            obtain ⟨c0, c1, c2, c3, c4⟩ := HWe.out.1.base
            obtain ⟨a0, a1, a2, a3⟩ := obj_cells (HK.out.1 We HWe.out.2)
            have c5 := HWe.out.1.none_cell
            obtain ⟨W2, hW2⟩ : ∃ W2, We.setCell ⟨m + 1, 0, none⟩ (.pointer (some ⟨kb, 0, none⟩)) = W2 := ⟨_, rfl⟩
            have hp := HWe.out.1.put hm' HIt.out.2.2 hlt (f' := some x) (u' := .pointer (some ⟨kb, 0, none⟩)) (fun q F' hi => ⟨kb, rfl, HK.out.1 We HWe.out.2, HK.out.2.1, HK.out.2.2 We HWe.out.2 q F' hi⟩)
            rw [hW2] at hp
            have HW2 := Lib.hid (And.intro hp.1 (HWe.out.2.trans hp.2 (fun _ _ h => h)))
            clear hp
            have HZ := Lib.hid (show KD W5.heap.size W W2 ∧ KpX (fun b => b = m + 1) W5.heap.size W W2 ∧ ((∃ f, goB seq none (pre ++ [x]) = some f ∧ BkI w m X V s F seq f W2) ∧ m + 6 ≤ W2.heap.size) from
              ⟨HKD.out W2 HW2.out.2, HW2.out.2.mono (fun _ _ h => Or.inl h), ⟨some x, by rw [goB_snoc seq x pre _ _ H.out.1, if_neg (by rw [HS.out]; decide)]; unfold nxF; rw [if_pos hs], HW2.out.1⟩, by have := HW2.out.2.size; have := H.out.2.2; omega⟩)
            gi_wp2_with (first | rw [hW2])
            exact HZ.out
          · have ds : decide (x.f0.f1 ≤ seq) = false := decide_eq_false hs
            obtain ⟨c0, c1, c2, c3, c4⟩ := HW1.out.1.base
            obtain ⟨a0, a1, a2, a3⟩ := obj_cells (HK.out.1 W1 HW1.out.2)
            have c5 := HW1.out.1.none_cell
            gi_wp2_with fail
            refine region_quiet_round rfl (by kernel_rfl) (by kernel_rfl) (by kernel_rfl) ?_
            repeat (gi_big_quiet_step (fail))
            refine wpQuietIn_nil ?_
            rintro _ ⟨nq, rfl⟩
            obtain ⟨We, hWe⟩ : ∃ We, W1.drewN nq = We := ⟨_, rfl⟩
            have bdWe : Below W1.heap.size W1 We := by rw [← hWe]; exact ⟨rfl, rfl, rfl, Nat.le_refl _, fun _ _ => rfl⟩
            rw [hWe]
            have HWe := Lib.hid (And.intro (HW1.out.1.below bdWe) (HW1.out.2.below bdWe))
            clear hWe bdWe c0 c1 c2 c3 c4 a0 a1 a2 a3 c5
            have HZ := Lib.hid (show KD W5.heap.size W We ∧ KpX (fun b => b = m + 1) W5.heap.size W We ∧ ((∃ f, goB seq none (pre ++ [x]) = some f ∧ BkI w m X V s F seq f We) ∧ m + 6 ≤ We.heap.size) from
              ⟨HKD.out We HWe.out.2, HWe.out.2.mono (fun _ _ h => Or.inl h), ⟨none, by rw [goB_snoc seq x pre _ _ H.out.1, if_neg (by rw [HS.out]; decide)]; unfold nxF; rw [if_neg (by omega)]; rw [if_pos HO.out], HWe.out.1⟩, by have := HWe.out.2.size; have := H.out.2.2; omega⟩)
            gi_wp2_with fail
            exact HZ.out
  case hdone =>
    rintro D xs W rfl ⟨hW, hn⟩ ⟨⟨f, hf, hI⟩, hsz⟩ hK
    have hL : bkS seq none (((upto s s.N).take k).reverse) = f := by
      rw [← Hq.out.1] at hW hn
      rw [← way_ball Hq.out.2 hW hn]
      have := bkS_go seq [] xs none f hf
      rw [List.append_nil] at this
      rw [this]
      rfl
    have HT := Lib.hid (And.intro hI (And.intro hK hL))
    clear hW hn hf hI hsz hK hL
    obtain ⟨c0, c1, c2, c3, c4⟩ := HT.out.1.base
    cases f with
    | none =>
      have c5 := HT.out.1.none_cell
      gi_wp2_with fail
      go_wp2_with fail
      refine ⟨by simp, .inl ⟨_, _, rfl, run_takeDeferred HT.out.2.1, ?_⟩⟩
      refine ⟨_, results_none rfl _ _ _, rfl, ?_⟩
      obtain ⟨hI, hK, hL⟩ := HT.out
      obtain ⟨q9, F9, u9, hi9, hn9, _, _⟩ := hI.bx
      have fD := putObj_fr W W5.heap.size (.deferred none)
      have hnD : ¬ F9 W5.heap.size := fun h => by
        rcases hn9 _ h with h | h
        · have := HIt.out.2.2 _ h; omega
        · omega
      rw [hL]
      refine ⟨q9, F9, .pointer none, hi9.fr fD (fun b _ hb hF => hnD (hb ▸ hF)), hI.fr.trans fD (fun b hb e => by omega), fun b hb => ?_, (fD.block _ (Array.getElem?_eq_some_iff.1 hI.kV).1 (by omega)).trans hI.kV, rfl⟩
      rw [World.putObj_size]
      have h1 := hi9.lt hb
      rcases hn9 b hb with h | h
      · exact .inl h
      · exact .inr ⟨by omega, h1⟩
    | some y =>
      obtain ⟨fb, c5, kfb⟩ := HT.out.1.some_cell
      obtain ⟨e0, e1, e2, e3⟩ := obj_cells kfb
      by_cases hp : y.f0.f2 = 1
      · have dp : (y.f0.f2 == 1) = true := by simpa using hp
        have bA : Below W.heap.size W (W.alloc (.cells #[.string y.f0.f0, .string y.f1] 76)) := (Below.refl _ _).alloc (Nat.le_refl _) _
        have IA := HT.out.1.below bA
        obtain ⟨g0, g1, g2, g3, g4⟩ := IA.base
        have kA : (W.alloc (.cells #[.string y.f0.f0, .string y.f1] 76)).heap[W.heap.size]? = some (.cells #[.string y.f0.f0, .string y.f1] 76 (0, 0)) := World.alloc_heap_new W _
        have sA : W.heap.size < (W.alloc (.cells #[.string y.f0.f0, .string y.f1] 76)).heap.size := by simp
        have HA := Lib.hid (And.intro IA (And.intro kA (And.intro bA sA)))
        clear IA kA bA sA
        gi_wp2_with fail
        go_wp2_with fail
        go_region
        go_wp2_with fail
        refine ⟨by simp, .inl ⟨_, _, rfl, run_takeDeferred ?_, ?_⟩⟩
        · have hlD := (Array.getElem?_eq_some_iff.1 HT.out.2.1).1
          have f9 := (Fr.refl (fun b => b = V) (W.alloc (.cells #[.string y.f0.f0, .string y.f1] 76))).set ⟨V, 2, none⟩ (.pointer (some ⟨W.heap.size, 0, none⟩)) rfl
          exact ((f9.block W5.heap.size (by have := HA.out.2.2.1.size; omega) (by omega)).trans (HA.out.2.2.1.block _ hlD)).trans HT.out.2.1
        · refine ⟨_, results_none rfl _ _ _, rfl, ?_⟩
          obtain ⟨hI, hK, hL⟩ := HT.out
          obtain ⟨IA, kA, bA, sA⟩ := HA.out
          obtain ⟨q9, F9, u9, hi9, hn9, _, _⟩ := hI.bx
          rw [hL, show finB (some y) = some ⟨y.f0.f0, y.f1⟩ from if_pos hp]
          obtain ⟨WA, hWA⟩ : ∃ WA, W.alloc (.cells #[.string y.f0.f0, .string y.f1] 76) = WA := ⟨_, rfl⟩
          rw [hWA] at IA kA bA sA ⊢
          obtain ⟨WB, hWB⟩ : ∃ WB, (WA.setCell ⟨V, 2, none⟩ (.pointer (some ⟨W.heap.size, 0, none⟩))).drew = WB := ⟨_, rfl⟩
          have fB : Fr (fun b => b = V) WA WB := by rw [← hWB]; exact ((Fr.refl (fun b => b = V) WA).set ⟨V, 2, none⟩ _ rfl).drew
          have kB : WB.heap[V]? = some (.cells #[.pointer (some ⟨X, 0, none⟩), .int .u64 seq, .pointer (some ⟨W.heap.size, 0, none⟩)] 124 (0, 0)) := by
            rw [← hWB]
            show (WA.setCell ⟨V, 2, none⟩ (.pointer (some ⟨W.heap.size, 0, none⟩))).heap[V]? = _
            rw [heap_setCell_same WA V 2 _ 124 _ IA.kV]
            rfl
          rw [hWB]
          have fD := putObj_fr WB W5.heap.size (.deferred none)
          have hnD : ¬ F9 W5.heap.size := fun h => by
            rcases hn9 _ h with h | h
            · have := HIt.out.2.2 _ h; omega
            · omega
          have hs := fB.size
          have hWm : m ≤ W.heap.size := by have := (Array.getElem?_eq_some_iff.1 hI.bv).1; omega
          have iB : It WB X s q9 F9 := (hi9.below bA).fr fB (fun b _ hb hF => by
            rcases hn9 b hF with h | h
            · exact HIt.out.2.1 (hb ▸ h)
            · omega)
          have hDW := (Array.getElem?_eq_some_iff.1 hK).1
          refine ⟨q9, F9, .pointer (some ⟨W.heap.size, 0, none⟩), iB.fr fD (fun b _ hb hF => hnD (hb ▸ hF)), ((hI.fr.below bA).trans fB (fun b _ hb => .inl hb)).trans fD (fun b hb e => by omega), fun b hb => ?_, (fD.block _ (Array.getElem?_eq_some_iff.1 kB).1 (by omega)).trans kB, W.heap.size, rfl, ?_, by omega, fun h => by have := hi9.lt h; omega⟩
          · rw [World.putObj_size]
            have h1 := iB.lt hb
            rcases hn9 b hb with h | h
            · exact .inl h
            · exact .inr ⟨by omega, h1⟩
          · refine (fD.block _ (by omega) (by omega)).trans ((fB.block _ sA (by omega)).trans kA)
      · have dp : (y.f0.f2 == 1) = false := by simpa using hp
        have hfin : finB (some y) = none := if_neg hp
        gi_wp2_with fail
        go_wp2_with fail
        refine ⟨by simp, .inl ⟨_, _, rfl, run_takeDeferred HT.out.2.1, ?_⟩⟩
        refine ⟨_, results_none rfl _ _ _, rfl, ?_⟩
        obtain ⟨hI, hK, hL⟩ := HT.out
        obtain ⟨q9, F9, u9, hi9, hn9, _, _⟩ := hI.bx
        have fD := putObj_fr W W5.heap.size (.deferred none)
        have hnD : ¬ F9 W5.heap.size := fun h => by
          rcases hn9 _ h with h | h
          · have := HIt.out.2.2 _ h; omega
          · omega
        rw [hL]
        rw [hfin]
        refine ⟨q9, F9, .pointer none, hi9.fr fD (fun b _ hb hF => hnD (hb ▸ hF)), hI.fr.trans fD (fun b hb e => by omega), fun b hb => ?_, (fD.block _ (Array.getElem?_eq_some_iff.1 hI.kV).1 (by omega)).trans hI.kV, rfl⟩
        rw [World.putObj_size]
        have h1 := hi9.lt hb
        rcases hn9 b hb with h | h
        · exact .inl h
        · exact .inr ⟨by omega, h1⟩
  case hstop =>
    rintro D c pre W rfl hsp ⟨rfl, pre', x, f, e, h1, h2, hI⟩ hK
    have hL : bkS seq none (((upto s s.N).take k).reverse) = f := by
      rw [← Hq.out.1] at hsp
      obtain ⟨rest, hr⟩ := way_bpre Hq.out.2 hsp
      rw [hr, e, List.append_assoc, bkS_go seq _ pre' none f h1]
      show (if stp f x = true then f else _) = f
      rw [if_pos h2]
    have HT := Lib.hid (And.intro hI (And.intro hK hL))
    clear hsp e h1 h2 hI hK hL
    obtain ⟨c0, c1, c2, c3, c4⟩ := HT.out.1.base
    cases f with
    | none =>
      have c5 := HT.out.1.none_cell
      gi_wp2_with fail
      go_wp2_with fail
      refine ⟨by simp, .inl ⟨_, _, rfl, run_takeDeferred HT.out.2.1, ?_⟩⟩
      refine ⟨_, results_none rfl _ _ _, rfl, ?_⟩
      obtain ⟨hI, hK, hL⟩ := HT.out
      obtain ⟨q9, F9, u9, hi9, hn9, _, _⟩ := hI.bx
      have fD := putObj_fr W W5.heap.size (.deferred none)
      have hnD : ¬ F9 W5.heap.size := fun h => by
        rcases hn9 _ h with h | h
        · have := HIt.out.2.2 _ h; omega
        · omega
      rw [hL]
      refine ⟨q9, F9, .pointer none, hi9.fr fD (fun b _ hb hF => hnD (hb ▸ hF)), hI.fr.trans fD (fun b hb e => by omega), fun b hb => ?_, (fD.block _ (Array.getElem?_eq_some_iff.1 hI.kV).1 (by omega)).trans hI.kV, rfl⟩
      rw [World.putObj_size]
      have h1 := hi9.lt hb
      rcases hn9 b hb with h | h
      · exact .inl h
      · exact .inr ⟨by omega, h1⟩
    | some y =>
      obtain ⟨fb, c5, kfb⟩ := HT.out.1.some_cell
      obtain ⟨e0, e1, e2, e3⟩ := obj_cells kfb
      by_cases hp : y.f0.f2 = 1
      · have dp : (y.f0.f2 == 1) = true := by simpa using hp
        have bA : Below W.heap.size W (W.alloc (.cells #[.string y.f0.f0, .string y.f1] 76)) := (Below.refl _ _).alloc (Nat.le_refl _) _
        have IA := HT.out.1.below bA
        obtain ⟨g0, g1, g2, g3, g4⟩ := IA.base
        have kA : (W.alloc (.cells #[.string y.f0.f0, .string y.f1] 76)).heap[W.heap.size]? = some (.cells #[.string y.f0.f0, .string y.f1] 76 (0, 0)) := World.alloc_heap_new W _
        have sA : W.heap.size < (W.alloc (.cells #[.string y.f0.f0, .string y.f1] 76)).heap.size := by simp
        have HA := Lib.hid (And.intro IA (And.intro kA (And.intro bA sA)))
        clear IA kA bA sA
        gi_wp2_with fail
        go_wp2_with fail
        go_region
        go_wp2_with fail
        refine ⟨by simp, .inl ⟨_, _, rfl, run_takeDeferred ?_, ?_⟩⟩
        · have hlD := (Array.getElem?_eq_some_iff.1 HT.out.2.1).1
          have f9 := (Fr.refl (fun b => b = V) (W.alloc (.cells #[.string y.f0.f0, .string y.f1] 76))).set ⟨V, 2, none⟩ (.pointer (some ⟨W.heap.size, 0, none⟩)) rfl
          exact ((f9.block W5.heap.size (by have := HA.out.2.2.1.size; omega) (by omega)).trans (HA.out.2.2.1.block _ hlD)).trans HT.out.2.1
        · refine ⟨_, results_none rfl _ _ _, rfl, ?_⟩
          obtain ⟨hI, hK, hL⟩ := HT.out
          obtain ⟨IA, kA, bA, sA⟩ := HA.out
          obtain ⟨q9, F9, u9, hi9, hn9, _, _⟩ := hI.bx
          rw [hL, show finB (some y) = some ⟨y.f0.f0, y.f1⟩ from if_pos hp]
          obtain ⟨WA, hWA⟩ : ∃ WA, W.alloc (.cells #[.string y.f0.f0, .string y.f1] 76) = WA := ⟨_, rfl⟩
          rw [hWA] at IA kA bA sA ⊢
          obtain ⟨WB, hWB⟩ : ∃ WB, (WA.setCell ⟨V, 2, none⟩ (.pointer (some ⟨W.heap.size, 0, none⟩))).drew = WB := ⟨_, rfl⟩
          have fB : Fr (fun b => b = V) WA WB := by rw [← hWB]; exact ((Fr.refl (fun b => b = V) WA).set ⟨V, 2, none⟩ _ rfl).drew
          have kB : WB.heap[V]? = some (.cells #[.pointer (some ⟨X, 0, none⟩), .int .u64 seq, .pointer (some ⟨W.heap.size, 0, none⟩)] 124 (0, 0)) := by
            rw [← hWB]
            show (WA.setCell ⟨V, 2, none⟩ (.pointer (some ⟨W.heap.size, 0, none⟩))).heap[V]? = _
            rw [heap_setCell_same WA V 2 _ 124 _ IA.kV]
            rfl
          rw [hWB]
          have fD := putObj_fr WB W5.heap.size (.deferred none)
          have hnD : ¬ F9 W5.heap.size := fun h => by
            rcases hn9 _ h with h | h
            · have := HIt.out.2.2 _ h; omega
            · omega
          have hs := fB.size
          have hWm : m ≤ W.heap.size := by have := (Array.getElem?_eq_some_iff.1 hI.bv).1; omega
          have iB : It WB X s q9 F9 := (hi9.below bA).fr fB (fun b _ hb hF => by
            rcases hn9 b hF with h | h
            · exact HIt.out.2.1 (hb ▸ h)
            · omega)
          have hDW := (Array.getElem?_eq_some_iff.1 hK).1
          refine ⟨q9, F9, .pointer (some ⟨W.heap.size, 0, none⟩), iB.fr fD (fun b _ hb hF => hnD (hb ▸ hF)), ((hI.fr.below bA).trans fB (fun b _ hb => .inl hb)).trans fD (fun b hb e => by omega), fun b hb => ?_, (fD.block _ (Array.getElem?_eq_some_iff.1 kB).1 (by omega)).trans kB, W.heap.size, rfl, ?_, by omega, fun h => by have := hi9.lt h; omega⟩
          · rw [World.putObj_size]
            have h1 := iB.lt hb
            rcases hn9 b hb with h | h
            · exact .inl h
            · exact .inr ⟨by omega, h1⟩
          · refine (fD.block _ (by omega) (by omega)).trans ((fB.block _ sA (by omega)).trans kA)
      · have dp : (y.f0.f2 == 1) = false := by simpa using hp
        have hfin : finB (some y) = none := if_neg hp
        gi_wp2_with fail
        go_wp2_with fail
        refine ⟨by simp, .inl ⟨_, _, rfl, run_takeDeferred HT.out.2.1, ?_⟩⟩
        refine ⟨_, results_none rfl _ _ _, rfl, ?_⟩
        obtain ⟨hI, hK, hL⟩ := HT.out
        obtain ⟨q9, F9, u9, hi9, hn9, _, _⟩ := hI.bx
        have fD := putObj_fr W W5.heap.size (.deferred none)
        have hnD : ¬ F9 W5.heap.size := fun h => by
          rcases hn9 _ h with h | h
          · have := HIt.out.2.2 _ h; omega
          · omega
        rw [hL]
        rw [hfin]
        refine ⟨q9, F9, .pointer none, hi9.fr fD (fun b _ hb hF => hnD (hb ▸ hF)), hI.fr.trans fD (fun b hb e => by omega), fun b hb => ?_, (fD.block _ (Array.getElem?_eq_some_iff.1 hI.kV).1 (by omega)).trans hI.kV, rfl⟩
        rw [World.putObj_size]
        have h1 := hi9.lt hb
        rcases hn9 b hb with h | h
        · exact .inl h
        · exact .inr ⟨by omega, h1⟩
end Go.Proofs.Ytehoojmalhloeaa.CM
