/- view: the next user's key that is seen (on). -/
import Derived.Test.YtehoojmalhloeaaVB
import Derived.Test.YtehoojmalhloeaaVR
namespace Go.Proofs.Ytehoojmalhloeaa.CM
open Go.RowKit Go.Proofs.YtehoojmalhloeaaW.PrintWords
set_option linter.unusedVariables false
set_option linter.unusedSimpArgs false
set_option maxRecDepth 100000

theorem entries98_w (V X g : Nat) (w : World) : Calls Try.prog 98 #[.pointer (some ⟨V, 0, none⟩), .agg #[.func (.func g) #[.pointer (some ⟨X, 0, none⟩)] #[]]] w fun e w' => e = .returned (.func (.func 105) #[] #[.pointer (some ⟨w.heap.size, 0, none⟩), .pointer (some ⟨w.heap.size + 1, 0, none⟩)]) ∧ w' = (w.alloc (.cells #[.pointer (some ⟨V, 0, none⟩)] 69)).alloc (.cells #[.func (.func g) #[.pointer (some ⟨X, 0, none⟩)] #[]] 147) := by
  go_enter Try.func98, Try.ntmps98
  go_wp2_with fail
  go_ret
  exact ⟨by simp, rfl⟩
def box1 (v : Value) (t : TypeId) : Obj := .cells #[v] t (0, 0)
/-- Is an entry passed over? -/
def skp (seq : Int) (d : Option ByteArray) (x : PC.S44) : Bool := (match d with | none => false | some u => x.f0.f0.toList == u.toList) || decide (seq < x.f0.f1)
/-- What is seen first, of entries in order. -/
def onS (seq : Int) : Option ByteArray → List PC.S44 → Option PC.S76
  | _, [] => none
  | d, x :: t => if skp seq d x = true then onS seq d t else if x.f0.f2 = 1 then some ⟨x.f0.f0, x.f1⟩ else onS seq (some x.f0.f0) t
/-- All are gone through: whose entries are passed over now. -/
def goO (seq : Int) : Option ByteArray → List PC.S44 → Option (Option ByteArray)
  | d, [] => some d
  | d, x :: t => if skp seq d x = true then goO seq d t else if x.f0.f2 = 1 then none else goO seq (some x.f0.f0) t
theorem goO_snoc (seq : Int) (x : PC.S44) : ∀ (xs : List PC.S44) (d d' : Option ByteArray), goO seq d xs = some d' → goO seq d (xs ++ [x]) = if skp seq d' x = true then some d' else if x.f0.f2 = 1 then none else some (some x.f0.f0)
  | [], d, d', h => by cases h; rfl
  | y :: t, d, d', h => by
    show (if skp seq d y = true then goO seq d (t ++ [x]) else if y.f0.f2 = 1 then none else goO seq (some y.f0.f0) (t ++ [x])) = _
    have h : (if skp seq d y = true then goO seq d t else if y.f0.f2 = 1 then none else goO seq (some y.f0.f0) t) = some d' := h
    by_cases h1 : skp seq d y = true
    · rw [if_pos h1] at h ⊢; exact goO_snoc seq x t d d' h
    · rw [if_neg h1] at h ⊢
      by_cases h2 : y.f0.f2 = 1
      · rw [if_pos h2] at h; cases h
      · rw [if_neg h2] at h ⊢; exact goO_snoc seq x t _ d' h
theorem onS_go (seq : Int) (rest : List PC.S44) : ∀ (xs : List PC.S44) (d d' : Option ByteArray), goO seq d xs = some d' → onS seq d (xs ++ rest) = onS seq d' rest
  | [], d, d', h => by cases h; rfl
  | y :: t, d, d', h => by
    have h : (if skp seq d y = true then goO seq d t else if y.f0.f2 = 1 then none else goO seq (some y.f0.f0) t) = some d' := h
    show (if skp seq d y = true then onS seq d (t ++ rest) else if y.f0.f2 = 1 then some ⟨y.f0.f0, y.f1⟩ else onS seq (some y.f0.f0) (t ++ rest)) = _
    by_cases h1 : skp seq d y = true
    · rw [if_pos h1] at h ⊢; exact onS_go seq rest t d d' h
    · rw [if_neg h1] at h ⊢
      by_cases h2 : y.f0.f2 = 1
      · rw [if_pos h2] at h; cases h
      · rw [if_neg h2] at h ⊢; exact onS_go seq rest t _ d' h
theorem putObj_fr (W : World) (l : Nat) (o : Obj) : Fr (fun b => b = l) W (W.putObj l o) := ⟨rfl, rfl, rfl, by simp, fun b _ hn => World.putObj_heap_other hn⟩
def dStr : Option ByteArray → ByteArray
  | none => ⟨#[]⟩
  | some u => u
/-- What on's loop keeps: its boxes from m on; the view at V. -/
structure OnI (w : World) (m X V : Nat) (s : Sh) (F : Nat → Prop) (seq : Int) (hv : Value) (d : Option ByteArray) (W : World) : Prop where
  bv : W.heap[m]? = some (box1 (.pointer (some ⟨V, 0, none⟩)) 69)
  bd : W.heap[m + 1]? = some (box1 (.string (dStr d)) 9)
  bs : W.heap[m + 2]? = some (box1 (.bool d.isSome) 4)
  kV : W.heap[V]? = some (.cells #[.pointer (some ⟨X, 0, none⟩), .int .u64 seq, hv] 124 (0, 0))
  bx : BX W X s F (m + 7)
  fr : Fr (fun b => b = V ∨ F b) w W
section
variable {w W W1 : World} {m X V : Nat} {s : Sh} {F : Nat → Prop} {seq : Int} {hv : Value} {d : Option ByteArray}
theorem OnI.cells (h : OnI w m X V s F seq hv d W) : W.cell? ⟨m, 0, none⟩ = some (.pointer (some ⟨V, 0, none⟩)) ∧ W.cell? ⟨m + 1, 0, none⟩ = some (.string (dStr d)) ∧ W.cell? ⟨m + 2, 0, none⟩ = some (.bool d.isSome) ∧ W.cell? ⟨V, 1, none⟩ = some (.int .u64 seq) ∧ W.cell? ⟨V, 2, none⟩ = some hv ∧ W.frozen? ⟨m + 1, 0, none⟩ = false ∧ W.frozen? ⟨m + 2, 0, none⟩ = false ∧ W.frozen? ⟨V, 2, none⟩ = false := by
  have h1 := h.bv
  have h2 := h.bd
  have h3 := h.bs
  unfold box1 at h1 h2 h3
  refine ⟨?_, ?_, ?_, ?_, ?_, ?_, ?_, ?_⟩ <;> simp [World.cell?, World.frozen?, h1, h2, h3, h.kV]
/-- Other blocks have changed. -/
theorem OnI.fr' {P : Nat → Prop} (h : OnI w m X V s F seq hv d W) (hf : Fr P W W1) (hm : w.heap.size ≤ m) (hP : ∀ b, P b → ¬ F b ∧ b ≠ V ∧ b ≠ m ∧ b ≠ m + 1 ∧ b ≠ m + 2 ∧ m ≤ b) (hb : BX W1 X s F (m + 7)) : OnI w m X V s F seq hv d W1 := by
  have keep : ∀ b o, W.heap[b]? = some o → ¬ P b → W1.heap[b]? = some o := fun b o h1 h2 => (hf.block b (Array.getElem?_eq_some_iff.1 h1).1 h2).trans h1
  refine ⟨keep _ _ h.bv (fun h => (hP _ h).2.2.1 rfl), keep _ _ h.bd (fun h => (hP _ h).2.2.2.1 rfl), keep _ _ h.bs (fun h => (hP _ h).2.2.2.2.1 rfl), keep _ _ h.kV (fun h => (hP _ h).2.1 rfl), hb, ?_⟩
  exact h.fr.trans hf (fun b hb h1 => by have := (hP b h1).2.2.2.2.2; omega)
theorem OnI.rel {D : Nat} (h : OnI w m X V s F seq hv d W) (hr : RelX X s D W W1) (hm : w.heap.size ≤ m) (hD : D = m + 5) (hF : ∀ b, F b → b < m) (hV : V < m) (hFV : ¬ F V) : OnI w m X V s F seq hv d W1 := by
  obtain ⟨b1, f1⟩ := h.bx.rel hr (by omega)
  have keep : ∀ b o, W.heap[b]? = some o → ¬ (F b ∨ m + 7 ≤ b) → W1.heap[b]? = some o := fun b o h1 h2 => (f1.block b (Array.getElem?_eq_some_iff.1 h1).1 h2).trans h1
  have n : ∀ b, b < m + 7 → ¬ F b → ¬ (F b ∨ m + 7 ≤ b) := fun b h1 h2 h3 => by
    rcases h3 with h3 | h3
    · exact h2 h3
    · omega
  refine ⟨keep _ _ h.bv (n _ (by omega) (fun h => by have := hF _ h; omega)), keep _ _ h.bd (n _ (by omega) (fun h => by have := hF _ h; omega)), keep _ _ h.bs (n _ (by omega) (fun h => by have := hF _ h; omega)), keep _ _ h.kV (n _ (by omega) hFV), b1, ?_⟩
  exact h.fr.trans f1 (fun b hb h1 => by
    rcases h1 with h1 | h1
    · exact .inr h1
    · omega)
theorem OnI.put (h : OnI w m X V s F seq hv d W) (hF : ∀ b, F b → b < m) (hV : V < m) (hFV : ¬ F V) (v : Value) : OnI w m X V s F seq v d (W.setCell ⟨V, 2, none⟩ v) := by
  have f : Fr (fun b => b = V) W (W.setCell ⟨V, 2, none⟩ v) := (Fr.refl (fun b => b = V) W).set ⟨V, 2, none⟩ _ rfl
  have keep : ∀ b o, W.heap[b]? = some o → b ≠ V → (W.setCell ⟨V, 2, none⟩ v).heap[b]? = some o := fun b o h1 h2 => (f.block b (Array.getElem?_eq_some_iff.1 h1).1 h2).trans h1
  refine ⟨keep _ _ h.bv (by omega), keep _ _ h.bd (by omega), keep _ _ h.bs (by omega), ?_, h.bx.fr f (fun b hb => ⟨fun h => hFV (hb ▸ h), by omega⟩), h.fr.trans f (fun b _ hb => .inl hb)⟩
  rw [heap_setCell_same W V 2 _ 124 _ h.kV]
  rfl
theorem OnI.mark (h : OnI w m X V s F seq hv d W) (hm : w.heap.size ≤ m) (hF : ∀ b, F b → b < m) (hV : V < m) (u : ByteArray) : OnI w m X V s F seq hv (some u) ((W.setCell ⟨m + 1, 0, none⟩ (.string u)).setCell ⟨m + 2, 0, none⟩ (.bool true)) ∧ Fr (fun b => b = m + 1 ∨ b = m + 2) W ((W.setCell ⟨m + 1, 0, none⟩ (.string u)).setCell ⟨m + 2, 0, none⟩ (.bool true)) := by
  obtain ⟨Wa, hWa⟩ : ∃ Wa, W.setCell ⟨m + 1, 0, none⟩ (.string u) = Wa := ⟨_, rfl⟩
  rw [hWa]
  have h2 := h.bd
  have h3 := h.bs
  unfold box1 at h2 h3
  have fa : Fr (fun b => b = m + 1 ∨ b = m + 2) W Wa := by rw [← hWa]; exact (Fr.refl (fun b => b = m + 1 ∨ b = m + 2) W).set ⟨m + 1, 0, none⟩ _ (.inl rfl)
  have fb : Fr (fun b => b = m + 1 ∨ b = m + 2) W (Wa.setCell ⟨m + 2, 0, none⟩ (.bool true)) := fa.set ⟨m + 2, 0, none⟩ _ (.inr rfl)
  have ka : Wa.heap[m + 1]? = some (box1 (.string u) 9) := by rw [← hWa, heap_setCell_same W (m + 1) 0 _ 9 _ h2]; rfl
  have kb : Wa.heap[m + 2]? = some (.cells #[.bool d.isSome] 4 (0, 0)) := by rw [← hWa]; exact (heap_setCell_other _ _ _ _ (show m + 2 ≠ m + 1 by omega)).trans h3
  have keep : ∀ b o, W.heap[b]? = some o → b ≠ m + 1 → b ≠ m + 2 → (Wa.setCell ⟨m + 2, 0, none⟩ (.bool true)).heap[b]? = some o := fun b o h1 h2 h3 => (fb.block b (Array.getElem?_eq_some_iff.1 h1).1 (by omega)).trans h1
  refine ⟨⟨keep _ _ h.bv (by omega) (by omega), ?_, ?_, keep _ _ h.kV (by omega) (by omega), h.bx.fr fb (fun b hb => ⟨fun hF' => by have := hF b hF'; omega, by omega⟩), h.fr.trans fb (fun b hb h1 => by omega)⟩, fb⟩
  · exact (heap_setCell_other _ _ _ _ (show m + 1 ≠ m + 2 by omega)).trans ka
  · rw [heap_setCell_same Wa (m + 2) 0 _ 4 _ kb]; rfl
theorem OnI.below (h : OnI w m X V s F seq hv d W) (hb : Below W.heap.size W W1) : OnI w m X V s F seq hv d W1 :=
  ⟨blk_below h.bv hb, blk_below h.bd hb, blk_below h.bs hb, blk_below h.kV hb, h.bx.below hb, h.fr.below hb⟩
end
/-- The loop's frame in a round: its variable's block, its value. -/
def actO (m X V kb : Nat) (x : PC.S44) : Act := { tmps := #[.pointer (some ⟨V, 0, none⟩), .pointer (some ⟨m, 0, none⟩), .pointer (some ⟨m + 1, 0, none⟩), .pointer (some ⟨m + 1 + 1, 0, none⟩), .pointer (some ⟨kb, 0, none⟩), .pointer (some ⟨V, 0, none⟩), .pointer (some ⟨V, 0, none⟩), .pointer (some ⟨V, 2, none⟩), .pointer (some ⟨V, 0, none⟩), .pointer (some ⟨V, 0, none⟩), .pointer (some ⟨V, 0, none⟩), .pointer (some ⟨V, 0, none⟩), .pointer (some ⟨X, 0, none⟩), .func (.func 39) #[.pointer (some ⟨X, 0, none⟩)] #[], .agg #[.func (.func 39) #[.pointer (some ⟨X, 0, none⟩)] #[]], .func (.func 105) #[] #[.pointer (some ⟨m + 3, 0, none⟩), .pointer (some ⟨m + 3 + 1, 0, none⟩)], .agg #[.string x.f0.f0, .int .u64 x.f0.f1, .int .i64 x.f0.f2, .string x.f1], undef, undef, undef, undef, undef, undef, undef, undef, undef, undef, undef, undef, undef, undef, undef, undef, undef, undef, undef, undef, undef, undef, undef, undef, undef, undef, undef, undef, undef, undef, undef, undef, undef, undef, undef], defers := [] }
def msN (s : Sh) : Option Nat → Nat
  | none => 0
  | some p => s.N - p + 1
theorem msN_lt (s : Sh) (p : Nat) : msN s (nxtQ s (some p)) < msN s (some p) := by
  show msN s (if p + 1 < s.N then some (p + 1) else none) < s.N - p + 1
  split
  · show s.N - (p + 1) + 1 < _; omega
  · show 0 < _; omega
theorem enters39 : ∀ args W, (callFunc 39 args).run Try.prog W = .ok (.enter 39 args) W := fun _ _ => by kernel_rfl
/-- How a loop of on stops: at an entry that puts. -/
def OnX (w : World) (m X V : Nat) (s : Sh) (F : Nat → Prop) (seq : Int) (pre : List PC.S44) (W : World) : Prop :=
  ∃ pre' x d hb, pre = pre' ++ [x] ∧ goO seq none pre' = some d ∧ skp seq d x = false ∧ x.f0.f2 = 1 ∧ OnI w m X V s F seq (.pointer (some ⟨hb, 0, none⟩)) (some x.f0.f0) W ∧ W.heap[hb]? = some (.cells #[.string x.f0.f0, .string x.f1] 76 (0, 0)) ∧ w.heap.size ≤ hb ∧ (∃ q F', It W X s q F' ∧ ¬ F' hb)
theorem itq_plc (s : Sh) (p : Nat) : ∀ j, itq (nxtQ s) (plc s p) j = plc s (p + j)
  | 0 => rfl
  | j + 1 => by
    show nxtQ s (itq (nxtQ s) (plc s p) j) = _
    rw [itq_plc s p j]
    unfold plc
    by_cases h : p + j < s.N
    · rw [if_pos h]; rfl
    · rw [if_neg h, if_neg (by omega)]; rfl
theorem way_on {s : Sh} {p : Nat} {pre : List PC.S44} (h : Way s (nxtQ s) (plc s p) pre) : pre = ((upto s s.N).drop p).take pre.length := by
  apply List.ext_getElem?
  intro j
  by_cases hj : j < pre.length
  · obtain ⟨p', h1, h2⟩ := h j hj
    rw [itq_plc] at h1
    unfold plc at h1
    split at h1
    · rename_i hlt
      cases h1
      rw [h2, List.getElem?_take, if_pos hj, List.getElem?_drop]
      simp [upto, hlt]
    · cases h1
  · rw [List.getElem?_eq_none (by omega), List.getElem?_eq_none (by rw [List.length_take]; omega)]
theorem way_all {s : Sh} {p : Nat} {xs : List PC.S44} (h : Way s (nxtQ s) (plc s p) xs) (he : itq (nxtQ s) (plc s p) xs.length = none) : xs = (upto s s.N).drop p := by
  have h1 := way_on h
  rw [itq_plc] at he
  unfold plc at he
  split at he
  · cases he
  · rw [h1, List.take_of_length_le (by rw [List.length_drop, upto_len]; omega)]
theorem way_pre {s : Sh} {p : Nat} {pre : List PC.S44} (h : Way s (nxtQ s) (plc s p) pre) : ∃ rest, (upto s s.N).drop p = pre ++ rest :=
  ⟨((upto s s.N).drop p).drop pre.length, by conv => rhs; lhs; rw [way_on h]
                                             exact (List.take_append_drop _ _).symm⟩
/-- What a call leaves that looks for a user's key: the view's memory, what it is at. -/
def VEnd (w : World) (X V : Nat) (s : Sh) (F : Nat → Prop) (seq : Int) (here : Option PC.S76) (w' : World) : Prop :=
  ∃ q' F' hv', It w' X s q' F' ∧ Fr (fun b => b = V ∨ F b) w w' ∧ (∀ b, F' b → F b ∨ (w.heap.size ≤ b ∧ b < w'.heap.size)) ∧ w'.heap[V]? = some (.cells #[.pointer (some ⟨X, 0, none⟩), .int .u64 seq, hv'] 124 (0, 0)) ∧
    match here with
    | none => hv' = .pointer none
    | some y => ∃ hb, hv' = .pointer (some ⟨hb, 0, none⟩) ∧ w'.heap[hb]? = some (.cells #[.string y.f0, .string y.f1] 76 (0, 0)) ∧ w.heap.size ≤ hb ∧ ¬ F' hb
attribute [local go_sem] Oper.semAt_some
set_option maxHeartbeats 8000000 in
theorem von_w (w : World) (X V : Nat) (s : Sh) (p : Nat) (F : Nat → Prop) (seq : Int) (hv : Value) (hIt : It w X s (plc s p) F) (hV : w.heap[V]? = some (.cells #[.pointer (some ⟨X, 0, none⟩), .int .u64 seq, hv] 124 (0, 0))) (hFV : ¬ F V) :
    Calls Try.prog 82 #[.pointer (some ⟨V, 0, none⟩)] w fun e w' => e = .returned (.tuple #[]) ∧ VEnd w X V s F seq (onS seq none ((upto s s.N).drop p)) w' := by
  obtain ⟨q, hq⟩ : ∃ q, plc s p = q := ⟨_, rfl⟩
  have Hq := Lib.hid hq
  rw [hq] at hIt
  clear hq
  refine (callsIn_wide (n := 3)).1 ?_
  refine callsIn_of_wp_marks Try.func82 rfl trivial ?_ rfl
  refine wpIn_wide.2 ?_
  simp only [Try.ntmps82, List.size_toArray, List.length_cons, List.length_nil, Nat.reduceAdd, Nat.reduceSub, Array.replicate_succ, Array.replicate_zero, List.push_toArray, List.append_toArray, List.nil_append, List.cons_append]
  obtain ⟨m, hm⟩ : ∃ m, w.heap.size = m := ⟨_, rfl⟩
  have hlt : V < m := by rw [← hm]; exact (Array.getElem?_eq_some_iff.1 hV).1
  have hFl : ∀ b, F b → b < m := fun b hb => by rw [← hm]; exact hIt.lt hb
  obtain ⟨W0, hW0⟩ : ∃ W0, w.alloc (.cells #[.pointer (some ⟨V, 0, none⟩)] 69) = W0 := ⟨_, rfl⟩
  have b0 : Below w.heap.size w W0 := by rw [← hW0]; exact (Below.refl _ _).alloc (Nat.le_refl _) _
  have s0 : W0.heap.size = m + 1 := by rw [← hW0, ← hm]; simp
  have k0 : W0.heap[m]? = some (box1 (.pointer (some ⟨V, 0, none⟩)) 69) := by rw [← hW0, ← hm]; exact World.alloc_heap_new w _
  have c0 : W0.cell? ⟨m, 0, none⟩ = some (.pointer (some ⟨V, 0, none⟩)) := by unfold box1 at k0; simp [World.cell?, k0]
  have kV := blk_below hV b0
  have cV2 : W0.cell? ⟨V, 2, none⟩ = some hv := by simp [World.cell?, kV]
  have fV2 : W0.frozen? ⟨V, 2, none⟩ = false := by simp [World.frozen?, kV]
  obtain ⟨W3, hW3⟩ : ∃ W3, (((W0.setCell ⟨V, 2, none⟩ (.pointer none)).alloc (.cells #[.string ⟨#[]⟩] 9)).alloc (.cells #[.bool false] 4)) = W3 := ⟨_, rfl⟩
  have f3 : Fr (fun b => b = V) w W3 ∧ W3.heap.size = m + 3 ∧ W3.heap[m]? = some (box1 (.pointer (some ⟨V, 0, none⟩)) 69) ∧ W3.heap[m + 1]? = some (box1 (.string ⟨#[]⟩) 9) ∧ W3.heap[m + 2]? = some (box1 (.bool false) 4) ∧ W3.heap[V]? = some (.cells #[.pointer (some ⟨X, 0, none⟩), .int .u64 seq, .pointer none] 124 (0, 0)) := by
    obtain ⟨Wa, hWa⟩ : ∃ Wa, W0.setCell ⟨V, 2, none⟩ (.pointer none) = Wa := ⟨_, rfl⟩
    have sa : Wa.heap.size = m + 1 := by rw [← hWa, ← s0]; simp
    have ka : Wa.heap[V]? = some (.cells #[.pointer (some ⟨X, 0, none⟩), .int .u64 seq, .pointer none] 124 (0, 0)) := by rw [← hWa, heap_setCell_same W0 V 2 _ 124 _ kV]; rfl
    have km : Wa.heap[m]? = some (box1 (.pointer (some ⟨V, 0, none⟩)) 69) := by rw [← hWa]; exact (heap_setCell_other _ _ _ _ (show m ≠ V by omega)).trans k0
    have fa : Fr (fun b => b = V) w Wa := by rw [← hWa]; exact (Fr.of_below (O := fun b => b = V) b0).set ⟨V, 2, none⟩ _ rfl
    rw [hWa] at hW3
    obtain ⟨Wb, hWb⟩ : ∃ Wb, Wa.alloc (.cells #[.string ⟨#[]⟩] 9) = Wb := ⟨_, rfl⟩
    have sb : Wb.heap.size = m + 2 := by rw [← hWb]; simp [sa]
    have bb : Below Wa.heap.size Wa Wb := by rw [← hWb]; exact (Below.refl _ _).alloc (Nat.le_refl _) _
    have kb : Wb.heap[m + 1]? = some (box1 (.string ⟨#[]⟩) 9) := by rw [← hWb, ← sa]; exact World.alloc_heap_new Wa _
    rw [hWb] at hW3
    have bc : Below Wb.heap.size Wb W3 := by rw [← hW3]; exact (Below.refl _ _).alloc (Nat.le_refl _) _
    refine ⟨(fa.below bb).below bc, by rw [← hW3]; simp [sb], blk_below (blk_below km bb) bc, blk_below kb bc, by rw [← hW3, ← sb]; exact World.alloc_heap_new Wb _, blk_below (blk_below ka bb) bc⟩
  have HIt := Lib.hid (And.intro hIt (And.intro hFV hFl))
  have H3 := Lib.hid f3
  have bdr : Below W3.heap.size W3 W3.drew := (Below.refl _ _).drew
  have cd0 : W3.drew.cell? ⟨m, 0, none⟩ = some (.pointer (some ⟨V, 0, none⟩)) := by have h1 := blk_below H3.out.2.2.1 bdr; unfold box1 at h1; simp [World.cell?, h1]
  have cd1 : W3.drew.cell? ⟨V, 0, none⟩ = some (.pointer (some ⟨X, 0, none⟩)) := by simp [World.cell?, blk_below H3.out.2.2.2.2.2 bdr]
  have HX := Lib.hid (And.intro cd0 cd1)
  have HW3 := Lib.hid hW3
  clear f3 bdr cd0 cd1 hIt hV hFV hFl k0 kV b0 hW3
  go_wp2_with (first | rw [hW0, hm])
  rw [HW3.out]
  go_region_held3 (fun w' => w'.cell? ⟨m, 0, none⟩ = some (.pointer (some ⟨V, 0, none⟩)) ∧ w'.cell? ⟨V, 0, none⟩ = some (.pointer (some ⟨X, 0, none⟩))) (first | exact HX.out | exact HB2.out) (first | (go_at_call 98; refine Calls.mono (entries98_w V X 39 _) ?_; rintro e w4 ⟨rfl, hw4⟩; have hb4 : Below W3.drew.heap.size W3.drew w4 := hw4 ▸ below_alloc (below_alloc (Below.refl W3.drew.heap.size W3.drew) _) _; have HB2 := Lib.hid (And.intro (cell_up' HX.out.1 hb4) (cell_up' HX.out.2 hb4)); have HB1 := Lib.hid (And.intro hw4 hb4); clear hw4 hb4))
  obtain ⟨W5, rfl⟩ : ∃ W5, W5 = w4 := ⟨_, rfl⟩
  have h5 : Below W3.heap.size W3 W5 ∧ W5.heap.size = m + 5 ∧ W5.heap[m + 3]? = some (.cells #[.pointer (some ⟨V, 0, none⟩)] 69 (0, 0)) ∧ W5.heap[m + 4]? = some (.cells #[.func (.func 39) #[.pointer (some ⟨X, 0, none⟩)] #[]] 147 (0, 0)) := by
    have hW5 := HB1.out.1.symm
    have b3 : Below W3.heap.size W3 W3.drew := (Below.refl _ _).drew
    obtain ⟨Wd, hWd⟩ : ∃ Wd, W3.drew = Wd := ⟨_, rfl⟩
    have s3 : Wd.heap.size = m + 3 := by rw [← hWd]; exact H3.out.2.1
    rw [hWd] at hW5 b3
    obtain ⟨Wa, hWa⟩ : ∃ Wa, Wd.alloc (.cells #[.pointer (some ⟨V, 0, none⟩)] 69) = Wa := ⟨_, rfl⟩
    have ba : Below Wd.heap.size Wd Wa := by rw [← hWa]; exact (Below.refl _ _).alloc (Nat.le_refl _) _
    have sa : Wa.heap.size = m + 4 := by rw [← hWa]; simp [s3]
    have ka : Wa.heap[m + 3]? = some (.cells #[.pointer (some ⟨V, 0, none⟩)] 69 (0, 0)) := by rw [← hWa, ← s3]; exact World.alloc_heap_new Wd _
    rw [hWa] at hW5
    have bb : Below Wa.heap.size Wa W5 := by rw [← hW5]; exact (Below.refl _ _).alloc (Nat.le_refl _) _
    have sb : W5.heap.size = m + 5 := by rw [← hW5]; simp [sa]
    have kb : W5.heap[m + 4]? = some (.cells #[.func (.func 39) #[.pointer (some ⟨X, 0, none⟩)] #[]] 147 (0, 0)) := by rw [← hW5, ← sa]; exact World.alloc_heap_new Wa _
    refine ⟨(b3.trans (ba.mono b3.size)).trans (bb.mono (by have := ba.size; have := b3.size; omega)), sb, blk_below ka bb, kb⟩
  have H5 := Lib.hid h5
  have s3 := H3.out.2.1
  clear h5 HB1 HX
  (try simp only [World.drew_size])
  (try simp only [s3])
  go_wp2_with fail
  have hD5 : W5.heap.size = m + 5 := H5.out.2.1
  have hI5 : It W5 X s q F := (HIt.out.1.fr H3.out.1 (fun b _ hb hF => HIt.out.2.1 (hb ▸ hF))).below H5.out.1
  have hseq := entries1_w 2 (by omega) W5 X V (m + 3) (m + 4) 39 s q F (fun b => b = m + 1 ∨ b = m + 2) (nxtQ s) (msN s) (msN_lt s) (fun w q F h => next_q h) enters39 hI5 (by simp [World.cell?, blk_below H3.out.2.2.2.2.2 H5.out.1]) H5.out.2.2.1 H5.out.2.2.2 HIt.out.2.1 (fun h => by have := HIt.out.2.2 _ h; omega) (fun h => by have := HIt.out.2.2 _ h; omega)
    (fun b hb => by
      rcases hb with rfl | rfl
      · exact ⟨by omega, fun h => by have := HIt.out.2.2 _ h; omega, by omega, by omega, by omega⟩
      · exact ⟨by omega, fun h => by have := HIt.out.2.2 _ h; omega, by omega, by omega, by omega⟩)
  have hm' : w.heap.size ≤ m := Nat.le_of_eq hm
  have hI0 : OnI w m X V s F seq (.pointer none) none W5 := ⟨blk_below H3.out.2.2.1 H5.out.1, blk_below H3.out.2.2.2.1 H5.out.1, blk_below H3.out.2.2.2.2.1 H5.out.1, blk_below H3.out.2.2.2.2.2 H5.out.1, ⟨q, F, hI5, fun b h => .inl h⟩, (H3.out.1.mono (fun b _ h => Or.inl h)).below H5.out.1⟩
  refine wpIn_wide.1 (range_rel2 (n := 3) rfl (by omega) (gf := 105) (lb := #[.pointer (some ⟨m + 3, 0, none⟩), .pointer (some ⟨m + 4, 0, none⟩)]) rfl trivial (enters_of Try.func105 (by kernel_rfl) rfl) hseq (fun x => rfl) (fun A B h => h.kd) ?hKt ?hKb
    (fun pre W => (∃ d, goO seq none pre = some d ∧ OnI w m X V s F seq (.pointer none) d W) ∧ m + 7 ≤ W.heap.size) (fun c pre W => c = .ret ∧ OnX w m X V s F seq pre W)
    (fun pre x a' W => ∃ kb, W.heap[kb]? = some (obj x) ∧ m + 7 ≤ kb ∧ a' = actO m X V kb x)
    ?hIp ?hIxp ?hAp ?hIr ?hIxr ?h0 ?hassign ?hbody ?hdone ?hstop)
  case hKt => exact fun h k => h.trans k
  case hKb => exact fun W o o' _ _ => (putObj_fr W _ o').mono (fun b _ hb => Or.inr (Or.inr hb))
  case hIp =>
    rintro pre W o o' ⟨⟨d, hd, hI⟩, hsz⟩ ho hc
    refine ⟨⟨d, hd, hI.fr' (putObj_fr W _ o') hm' (fun b hb => ⟨fun h => by have := HIt.out.2.2 _ h; omega, by omega, by omega, by omega, by omega, by omega⟩) (hI.bx.fr (putObj_fr W _ o') (fun b hb => ⟨fun h => by have := HIt.out.2.2 _ h; omega, by omega⟩))⟩, by rw [World.putObj_size]; exact hsz⟩
  case hIxp =>
    rintro c pre W o o' ⟨rfl, pre', x, d, hb, e, h1, h2, h3, hI, hk, hlo, q2, F2, hi2, hn2⟩ ho hc
    have hne : hb ≠ W5.heap.size + 1 := fun e => by rw [← e, hk] at ho; cases ho; cases hc
    have hnF : ¬ F2 (W5.heap.size + 1) := fun h => by
      obtain ⟨q3, F3, hi3, hF3⟩ := hI.bx
      rcases hF3 _ ((hi3.uniq hi2 _).2 h) with h | h
      · have := HIt.out.2.2 _ h; omega
      · omega
    refine ⟨rfl, pre', x, d, hb, e, h1, h2, h3, hI.fr' (putObj_fr W _ o') hm' (fun b hb => ⟨fun h => by have := HIt.out.2.2 _ h; omega, by omega, by omega, by omega, by omega, by omega⟩) (hI.bx.fr (putObj_fr W _ o') (fun b hb => ⟨fun h => by have := HIt.out.2.2 _ h; omega, by omega⟩)), ((putObj_fr W _ o').block _ (Array.getElem?_eq_some_iff.1 hk).1 hne).trans hk, hlo, q2, F2, hi2.fr (putObj_fr W _ o') (fun b _ hb hF => hnF (hb ▸ hF)), hn2⟩
  case hAp =>
    rintro pre x a' W o o' ⟨kb, hk, hlo, e⟩ ho hc
    exact ⟨kb, ((putObj_fr W _ o').block _ (Array.getElem?_eq_some_iff.1 hk).1 (show kb ≠ W5.heap.size + 1 by omega)).trans hk, hlo, e⟩
  case hIr =>
    rintro pre A B ⟨⟨d, hd, hI⟩, hsz⟩ hr
    refine ⟨⟨d, hd, hI.rel hr hm' hD5 HIt.out.2.2 hlt HIt.out.2.1⟩, ?_⟩
    obtain ⟨_, _, _, _, ⟨_, _, hf, _⟩, _⟩ := hr
    have := hf.size
    omega
  case hIxr =>
    rintro c pre A B ⟨rfl, pre', x, d, hb, e, h1, h2, h3, hI, hk, hlo, q2, F2, hi2, hn2⟩ hr
    have hI' := hI.rel hr hm' hD5 HIt.out.2.2 hlt HIt.out.2.1
    obtain ⟨qr, FR, q', hir, ⟨F', hi', hf, hn⟩, _⟩ := hr
    have hlt' := (Array.getElem?_eq_some_iff.1 hk).1
    have hnR : ¬ FR hb := fun h => hn2 ((hir.uniq hi2 _).1 h)
    refine ⟨rfl, pre', x, d, hb, e, h1, h2, h3, hI', (hf.block _ hlt' hnR).trans hk, hlo, q', F', hi', fun h => ?_⟩
    rcases hn _ h with h | h
    · exact hnR h
    · omega
  case h0 => exact fun o => ⟨⟨none, rfl, hI0.below (below_alloc (below_alloc (Below.refl _ _) _) _)⟩, by simp; omega⟩
  case hassign =>
    rintro l pre x W K ⟨⟨d, hd, hI⟩, hsz⟩ hsp hK
    unfold val44
    obtain ⟨W1, hW1⟩ : ∃ W1, W.alloc (.cells #[.string x.f0.f0, .int .u64 x.f0.f1, .int .i64 x.f0.f2, .string x.f1] 44) = W1 := ⟨_, rfl⟩
    have b1 : Below W.heap.size W W1 := by rw [← hW1]; exact (Below.refl _ _).alloc (Nat.le_refl _) _
    have k1 : W1.heap[W.heap.size]? = some (obj x) := by rw [← hW1]; exact World.alloc_heap_new W _
    have HW1 := Lib.hid hW1
    clear hW1
    gi_wp2
    rw [HW1.out]
    exact hK (actO m X V W.heap.size x) W1 ⟨b1.block _ (by omega), b1.block _ (by omega)⟩ (Fr.of_below b1) ⟨⟨d, hd, hI.below b1⟩, by have := b1.size; omega⟩ ⟨W.heap.size, k1, hsz, rfl⟩
  case hbody =>
    rintro l pre x a' W ⟨⟨d, hd, hI⟩, hsz⟩ ⟨kb, hk, hlo, rfl⟩ hsp
    obtain ⟨a0, a1, a2, a3⟩ := obj_cells hk
    obtain ⟨c0, c1, c2, c3, c4, c5, c6, c7⟩ := hI.cells
    have H := Lib.hid (And.intro hd (And.intro hI (And.intro hsz (And.intro hk hlo))))
    clear hd hI hsz hk hsp
    have hskip : skp seq d x = true → KD W5.heap.size W W := fun _ => KD.refl _ _
    unfold actO
    cases d with
    | none =>
      simp only [dStr, Option.isSome] at c1 c2
      by_cases hs : seq < x.f0.f1
      · have d1 : decide (seq < x.f0.f1) = true := decide_eq_true hs
        have HS := Lib.hid (show skp seq none x = true from by unfold skp; rw [d1]; rfl)
        gi_wp2_with fail
        refine region_quiet_round rfl (by kernel_rfl) (by kernel_rfl) (by kernel_rfl) ?_
        repeat (gi_big_quiet_step (fail))
        refine wpQuietIn_nil ?_
        rintro _ ⟨nq, rfl⟩
        obtain ⟨Wd, hWd⟩ : ∃ Wd, W.drewN nq = Wd := ⟨_, rfl⟩
        have bd : Below W.heap.size W Wd := by rw [← hWd]; exact ⟨rfl, rfl, rfl, Nat.le_refl _, fun _ _ => rfl⟩
        have HZ := Lib.hid (show KD W5.heap.size W Wd ∧ KpX (fun b => b = m + 1 ∨ b = m + 2) W5.heap.size W Wd ∧ ((∃ d, goO seq none (pre ++ [x]) = some d ∧ OnI w m X V s F seq (.pointer none) d Wd) ∧ m + 7 ≤ Wd.heap.size) from
          ⟨⟨bd.block _ (by have := H.out.2.2.1; omega), bd.block _ (by have := H.out.2.2.1; omega)⟩, Fr.of_below bd, ⟨none, by rw [goO_snoc seq x pre _ _ H.out.1, if_pos HS.out], H.out.2.1.below bd⟩, by have := bd.size; have := H.out.2.2.1; omega⟩)
        rw [hWd]
        clear hWd bd
        gi_wp2_with fail
        exact HZ.out
      · have d1 : decide (seq < x.f0.f1) = false := decide_eq_false hs
        have HS := Lib.hid (show skp seq none x = false from by unfold skp; rw [d1]; rfl)
        gi_wp2_with fail
        refine region_quiet_round rfl (by kernel_rfl) (by kernel_rfl) (by kernel_rfl) ?_
        repeat (gi_big_quiet_step (fail))
        refine wpQuietIn_nil ?_
        rintro _ ⟨nq, rfl⟩
        obtain ⟨Wd, hWd⟩ : ∃ Wd, W.drewN nq = Wd := ⟨_, rfl⟩
        have bd : Below W.heap.size W Wd := by rw [← hWd]; exact ⟨rfl, rfl, rfl, Nat.le_refl _, fun _ _ => rfl⟩
        rw [hWd]
        have Id := H.out.2.1.below bd
        have kd := blk_below H.out.2.2.2.1 bd
        clear hWd a0 a1 a2 a3 c0 c1 c2 c3 c4 c5 c6 c7
        obtain ⟨a0, a1, a2, a3⟩ := obj_cells kd
        obtain ⟨c0, c1, c2, c3, c4, c5, c6, c7⟩ := Id.cells
        obtain ⟨W1, hW1⟩ : ∃ W1, (Wd.setCell ⟨m + 1, 0, none⟩ (.string x.f0.f0)).setCell ⟨m + 2, 0, none⟩ (.bool true) = W1 := ⟨_, rfl⟩
        have I1 : OnI w m X V s F seq (.pointer none) (some x.f0.f0) W1 ∧ Fr (fun b => b = m + 1 ∨ b = m + 2) Wd W1 := by
          rw [← hW1]
          exact Id.mark hm' HIt.out.2.2 hlt x.f0.f0
        have k1 := (I1.2.block _ (Array.getElem?_eq_some_iff.1 kd).1 (show ¬ (kb = m + 1 ∨ kb = m + 2) by have := H.out.2.2.2.2; omega)).trans kd
        obtain ⟨e0, e1, e2, e3⟩ := obj_cells k1
        obtain ⟨g0, g1, g2, g3, g4, g5, g6, g7⟩ := I1.1.cells
        have f1 : Fr (fun b => b = m + 1 ∨ b = m + 2) W W1 := (Fr.of_below (O := fun b => b = m + 1 ∨ b = m + 2) bd).trans I1.2 (fun _ _ h => h)
        have sz1 : m + 7 ≤ W1.heap.size := by have := f1.size; have := H.out.2.2.1; omega
        have kd1 : KD W5.heap.size W W1 := ⟨f1.block _ (by have := H.out.2.2.1; omega) (by omega), f1.block _ (by have := H.out.2.2.1; omega) (by omega)⟩
        by_cases hp : x.f0.f2 = 1
        · have d9 : (x.f0.f2 == 1) = true := by simpa using hp
          obtain ⟨W2, hW2⟩ : ∃ W2, W1.alloc (.cells #[.string x.f0.f0, .string x.f1] 76) = W2 := ⟨_, rfl⟩
          have b2 : Below W1.heap.size W1 W2 := by rw [← hW2]; exact (Below.refl _ _).alloc (Nat.le_refl _) _
          have k2 : W2.heap[W1.heap.size]? = some (.cells #[.string x.f0.f0, .string x.f1] 76 (0, 0)) := by rw [← hW2]; exact World.alloc_heap_new W1 _
          have I2 := I1.1.below b2
          obtain ⟨r0, r1, r2, r3, r4, r5, r6, r7⟩ := I2.cells
          have HI9 := Lib.hid I1.1.bx
          have HQ := Lib.hid (And.intro I2 (And.intro b2 (And.intro k2 (And.intro f1 (And.intro sz1 (And.intro kd1 hp))))))
          clear I1 k1 Id kd bd f1 sz1 kd1 hp b2 k2 I2
          gi_wp2_with (first | rw [hW1] | rw [hW2])
          obtain ⟨I2, b2, k2, f1, sz1, kd1, hp⟩ := HQ.out
          obtain ⟨q9, F9, hi9, hn9⟩ := HI9.out
          have f9 : Fr (fun b => b = V) W2 (W2.setCell ⟨V, 2, none⟩ (.pointer (some ⟨W1.heap.size, 0, none⟩))) := (Fr.refl (fun b => b = V) W2).set ⟨V, 2, none⟩ _ rfl
          have hs2 := b2.size
          have nv : ∀ b, m ≤ b → ¬ b = V := fun b hb => by omega
          refine ⟨⟨(f9.block _ (by omega) (nv _ (by omega))).trans ((b2.block _ (by omega)).trans kd1.1), (f9.block _ (by omega) (nv _ (by omega))).trans ((b2.block _ (by omega)).trans kd1.2)⟩, rfl, pre, x, none, W1.heap.size, rfl, H.out.1, HS.out, hp, I2.put HIt.out.2.2 hlt HIt.out.2.1 _, ?_, by omega, q9, F9, (hi9.below b2).fr f9 (fun b _ hb hF => ?_), fun h => by have := hi9.lt h; omega⟩
          · exact (f9.block _ (Array.getElem?_eq_some_iff.1 k2).1 (nv _ (by omega))).trans k2
          · rcases hn9 b hF with h | h
            · exact HIt.out.2.1 (hb ▸ h)
            · omega
        · have d9 : (x.f0.f2 == 1) = false := by simpa using hp
          have HZ := Lib.hid (show KD W5.heap.size W W1 ∧ KpX (fun b => b = m + 1 ∨ b = m + 2) W5.heap.size W W1 ∧ ((∃ d, goO seq none (pre ++ [x]) = some d ∧ OnI w m X V s F seq (.pointer none) d W1) ∧ m + 7 ≤ W1.heap.size) from
            ⟨kd1, f1.mono (fun _ _ h => Or.inl h), ⟨some x.f0.f0, by rw [goO_snoc seq x pre _ _ H.out.1, if_neg (by rw [HS.out]; decide), if_neg hp], I1.1⟩, sz1⟩)
          clear I1 k1 Id kd bd f1 sz1 kd1
          gi_wp2_with (first | rw [hW1])
          exact HZ.out
    | some u =>
      simp only [dStr, Option.isSome] at c1 c2
      by_cases hu : (x.f0.f0.toList == u.toList) = true
      · have HS := Lib.hid (show skp seq (some u) x = true from by unfold skp; simp only [hu, Bool.true_or])
        gi_wp2_with fail
        refine region_quiet_round rfl (by kernel_rfl) (by kernel_rfl) (by kernel_rfl) ?_
        repeat (gi_big_quiet_step (fail))
        refine wpQuietIn_nil ?_
        rintro _ ⟨nq, rfl⟩
        obtain ⟨Wd, hWd⟩ : ∃ Wd, W.drewN nq = Wd := ⟨_, rfl⟩
        have bd : Below W.heap.size W Wd := by rw [← hWd]; exact ⟨rfl, rfl, rfl, Nat.le_refl _, fun _ _ => rfl⟩
        have HZ := Lib.hid (show KD W5.heap.size W Wd ∧ KpX (fun b => b = m + 1 ∨ b = m + 2) W5.heap.size W Wd ∧ ((∃ d, goO seq none (pre ++ [x]) = some d ∧ OnI w m X V s F seq (.pointer none) d Wd) ∧ m + 7 ≤ Wd.heap.size) from
          ⟨⟨bd.block _ (by have := H.out.2.2.1; omega), bd.block _ (by have := H.out.2.2.1; omega)⟩, Fr.of_below bd, ⟨some u, by rw [goO_snoc seq x pre _ _ H.out.1, if_pos HS.out], H.out.2.1.below bd⟩, by have := bd.size; have := H.out.2.2.1; omega⟩)
        rw [hWd]
        clear hWd bd
        gi_wp2_with fail
        exact HZ.out
      · have hu : (x.f0.f0.toList == u.toList) = false := by simpa using hu
        by_cases hs : seq < x.f0.f1
        · have d1 : decide (seq < x.f0.f1) = true := decide_eq_true hs
          have HS := Lib.hid (show skp seq (some u) x = true from by unfold skp; simp only [hu, d1, Bool.false_or])
          gi_wp2_with fail
          refine region_quiet_round rfl (by kernel_rfl) (by kernel_rfl) (by kernel_rfl) ?_
          repeat (gi_big_quiet_step (fail))
          refine wpQuietIn_nil ?_
          rintro _ ⟨nq, rfl⟩
          obtain ⟨Wd, hWd⟩ : ∃ Wd, W.drewN nq = Wd := ⟨_, rfl⟩
          have bd : Below W.heap.size W Wd := by rw [← hWd]; exact ⟨rfl, rfl, rfl, Nat.le_refl _, fun _ _ => rfl⟩
          have HZ := Lib.hid (show KD W5.heap.size W Wd ∧ KpX (fun b => b = m + 1 ∨ b = m + 2) W5.heap.size W Wd ∧ ((∃ d, goO seq none (pre ++ [x]) = some d ∧ OnI w m X V s F seq (.pointer none) d Wd) ∧ m + 7 ≤ Wd.heap.size) from
            ⟨⟨bd.block _ (by have := H.out.2.2.1; omega), bd.block _ (by have := H.out.2.2.1; omega)⟩, Fr.of_below bd, ⟨some u, by rw [goO_snoc seq x pre _ _ H.out.1, if_pos HS.out], H.out.2.1.below bd⟩, by have := bd.size; have := H.out.2.2.1; omega⟩)
          rw [hWd]
          clear hWd bd
          gi_wp2_with fail
          exact HZ.out
        · have d1 : decide (seq < x.f0.f1) = false := decide_eq_false hs
          have HS := Lib.hid (show skp seq (some u) x = false from by unfold skp; simp only [hu, d1, Bool.false_or])
          gi_wp2_with fail
          refine region_quiet_round rfl (by kernel_rfl) (by kernel_rfl) (by kernel_rfl) ?_
          repeat (gi_big_quiet_step (fail))
          refine wpQuietIn_nil ?_
          rintro _ ⟨nq, rfl⟩
          obtain ⟨Wd, hWd⟩ : ∃ Wd, W.drewN nq = Wd := ⟨_, rfl⟩
          have bd : Below W.heap.size W Wd := by rw [← hWd]; exact ⟨rfl, rfl, rfl, Nat.le_refl _, fun _ _ => rfl⟩
          rw [hWd]
          have Id := H.out.2.1.below bd
          have kd := blk_below H.out.2.2.2.1 bd
          clear hWd a0 a1 a2 a3 c0 c1 c2 c3 c4 c5 c6 c7
          obtain ⟨a0, a1, a2, a3⟩ := obj_cells kd
          obtain ⟨c0, c1, c2, c3, c4, c5, c6, c7⟩ := Id.cells
          obtain ⟨W1, hW1⟩ : ∃ W1, (Wd.setCell ⟨m + 1, 0, none⟩ (.string x.f0.f0)).setCell ⟨m + 2, 0, none⟩ (.bool true) = W1 := ⟨_, rfl⟩
          have I1 : OnI w m X V s F seq (.pointer none) (some x.f0.f0) W1 ∧ Fr (fun b => b = m + 1 ∨ b = m + 2) Wd W1 := by
            rw [← hW1]
            exact Id.mark hm' HIt.out.2.2 hlt x.f0.f0
          have k1 := (I1.2.block _ (Array.getElem?_eq_some_iff.1 kd).1 (show ¬ (kb = m + 1 ∨ kb = m + 2) by have := H.out.2.2.2.2; omega)).trans kd
          obtain ⟨e0, e1, e2, e3⟩ := obj_cells k1
          obtain ⟨g0, g1, g2, g3, g4, g5, g6, g7⟩ := I1.1.cells
          have f1 : Fr (fun b => b = m + 1 ∨ b = m + 2) W W1 := (Fr.of_below (O := fun b => b = m + 1 ∨ b = m + 2) bd).trans I1.2 (fun _ _ h => h)
          have sz1 : m + 7 ≤ W1.heap.size := by have := f1.size; have := H.out.2.2.1; omega
          have kd1 : KD W5.heap.size W W1 := ⟨f1.block _ (by have := H.out.2.2.1; omega) (by omega), f1.block _ (by have := H.out.2.2.1; omega) (by omega)⟩
          by_cases hp : x.f0.f2 = 1
          · have d9 : (x.f0.f2 == 1) = true := by simpa using hp
            obtain ⟨W2, hW2⟩ : ∃ W2, W1.alloc (.cells #[.string x.f0.f0, .string x.f1] 76) = W2 := ⟨_, rfl⟩
            have b2 : Below W1.heap.size W1 W2 := by rw [← hW2]; exact (Below.refl _ _).alloc (Nat.le_refl _) _
            have k2 : W2.heap[W1.heap.size]? = some (.cells #[.string x.f0.f0, .string x.f1] 76 (0, 0)) := by rw [← hW2]; exact World.alloc_heap_new W1 _
            have I2 := I1.1.below b2
            obtain ⟨r0, r1, r2, r3, r4, r5, r6, r7⟩ := I2.cells
            have HI9 := Lib.hid I1.1.bx
            have HQ := Lib.hid (And.intro I2 (And.intro b2 (And.intro k2 (And.intro f1 (And.intro sz1 (And.intro kd1 hp))))))
            clear I1 k1 Id kd bd f1 sz1 kd1 hp b2 k2 I2
            gi_wp2_with (first | rw [hW1] | rw [hW2])
            obtain ⟨I2, b2, k2, f1, sz1, kd1, hp⟩ := HQ.out
            obtain ⟨q9, F9, hi9, hn9⟩ := HI9.out
            have f9 : Fr (fun b => b = V) W2 (W2.setCell ⟨V, 2, none⟩ (.pointer (some ⟨W1.heap.size, 0, none⟩))) := (Fr.refl (fun b => b = V) W2).set ⟨V, 2, none⟩ _ rfl
            have hs2 := b2.size
            have nv : ∀ b, m ≤ b → ¬ b = V := fun b hb => by omega
            refine ⟨⟨(f9.block _ (by omega) (nv _ (by omega))).trans ((b2.block _ (by omega)).trans kd1.1), (f9.block _ (by omega) (nv _ (by omega))).trans ((b2.block _ (by omega)).trans kd1.2)⟩, rfl, pre, x, some u, W1.heap.size, rfl, H.out.1, HS.out, hp, I2.put HIt.out.2.2 hlt HIt.out.2.1 _, ?_, by omega, q9, F9, (hi9.below b2).fr f9 (fun b _ hb hF => ?_), fun h => by have := hi9.lt h; omega⟩
            · exact (f9.block _ (Array.getElem?_eq_some_iff.1 k2).1 (nv _ (by omega))).trans k2
            · rcases hn9 b hF with h | h
              · exact HIt.out.2.1 (hb ▸ h)
              · omega
          · have d9 : (x.f0.f2 == 1) = false := by simpa using hp
            have HZ := Lib.hid (show KD W5.heap.size W W1 ∧ KpX (fun b => b = m + 1 ∨ b = m + 2) W5.heap.size W W1 ∧ ((∃ d, goO seq none (pre ++ [x]) = some d ∧ OnI w m X V s F seq (.pointer none) d W1) ∧ m + 7 ≤ W1.heap.size) from
              ⟨kd1, f1.mono (fun _ _ h => Or.inl h), ⟨some x.f0.f0, by rw [goO_snoc seq x pre _ _ H.out.1, if_neg (by rw [HS.out]; decide), if_neg hp], I1.1⟩, sz1⟩)
            clear I1 k1 Id kd bd f1 sz1 kd1
            gi_wp2_with (first | rw [hW1])
            exact HZ.out
  case hdone =>
    rintro D xs W rfl hS ⟨⟨d, hd, hI⟩, hsz⟩ hK
    have HH := Lib.hid (And.intro hS (And.intro hd (And.intro hI (And.intro hsz hK))))
    clear hS hd hI hsz hK
    gi_wp2
    go_wp2
    refine ⟨by simp, .inl ⟨_, _, rfl, run_takeDeferred HH.out.2.2.2.2, ?_⟩⟩
    refine ⟨_, results_none rfl _ _ _, rfl, ?_⟩
    obtain ⟨⟨hW, hn⟩, hd, hI, hsz, hK⟩ := HH.out
    obtain ⟨q9, F9, hi9, hn9⟩ := hI.bx
    have fD := putObj_fr W W5.heap.size (.deferred none)
    have hnD : ¬ F9 W5.heap.size := fun h => by
      rcases hn9 _ h with h | h
      · have := HIt.out.2.2 _ h; omega
      · omega
    have hL : onS seq none ((upto s s.N).drop p) = none := by
      rw [← Hq.out] at hW hn
      rw [← way_all hW hn]
      have := onS_go seq [] xs none d hd
      rw [List.append_nil] at this
      rw [this]
      rfl
    rw [hL]
    refine ⟨q9, F9, .pointer none, hi9.fr fD (fun b _ hb hF => hnD (hb ▸ hF)), hI.fr.trans fD (fun b hb e => by omega), fun b hb => ?_, (fD.block _ (Array.getElem?_eq_some_iff.1 hI.kV).1 (by omega)).trans hI.kV, rfl⟩
    rw [World.putObj_size]
    have h1 := hi9.lt hb
    rcases hn9 b hb with h | h
    · exact .inl h
    · exact .inr ⟨by omega, h1⟩
  case hstop =>
    rintro D c pre W rfl hsp ⟨rfl, hX⟩ hK
    have HH := Lib.hid (And.intro hX (And.intro hK hsp))
    clear hX hK hsp
    gi_wp2
    refine ⟨by simp, .inl ⟨_, _, rfl, run_takeDeferred HH.out.2.1, ?_⟩⟩
    refine ⟨_, results_none rfl _ _ _, rfl, ?_⟩
    obtain ⟨⟨pre', x, d, hb, e, h1, h2, h3, hI, hk, hlo, q2, F2, hi2, hn2⟩, hK, hsp⟩ := HH.out
    obtain ⟨q9, F9, hi9, hn9⟩ := hI.bx
    have fD := putObj_fr W W5.heap.size (.deferred none)
    have hnD : ¬ F2 W5.heap.size := fun h => by
      rcases hn9 _ ((hi9.uniq hi2 _).2 h) with h | h
      · have := HIt.out.2.2 _ h; omega
      · omega
    have hne : hb ≠ W5.heap.size := fun e => by rw [e, hK] at hk; cases hk
    have hL : onS seq none ((upto s s.N).drop p) = some ⟨x.f0.f0, x.f1⟩ := by
      rw [← Hq.out] at hsp
      obtain ⟨rest, hr⟩ := way_pre hsp
      rw [hr, e, List.append_assoc, onS_go seq _ pre' none d h1]
      show (if skp seq d x = true then _ else if x.f0.f2 = 1 then some _ else _) = _
      rw [if_neg (by rw [h2]; decide), if_pos h3]
    rw [hL]
    refine ⟨q2, F2, .pointer (some ⟨hb, 0, none⟩), hi2.fr fD (fun b _ hb hF => hnD (hb ▸ hF)), hI.fr.trans fD (fun b hb e => by omega), fun b hb' => ?_, (fD.block _ (Array.getElem?_eq_some_iff.1 hI.kV).1 (by omega)).trans hI.kV, hb, rfl, (fD.block _ (Array.getElem?_eq_some_iff.1 hk).1 hne).trans hk, hlo, hn2⟩
    rw [World.putObj_size]
    have h1 := hi2.lt hb'
    rcases hn9 b ((hi9.uniq hi2 _).2 hb') with h | h
    · exact .inl h
    · exact .inr ⟨by omega, h1⟩
end Go.Proofs.Ytehoojmalhloeaa.CM
