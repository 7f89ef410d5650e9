/- Calls that are put off in a loop (compact.settled's inner function): what they leave. Its conditions are that what it reads can be read and is not too long for memory. -/
import Derived.Test.YtehoojmalhloeaaCH
namespace Go.Proofs.Ytehoojmalhloeaa.CM
open Go.RowKit Go.Proofs.YtehoojmalhloeaaW.PrintWords
set_option linter.unusedVariables false
set_option linter.unusedSimpArgs false
set_option maxRecDepth 100000

/-- The calls that are put off, for entries. -/
def dls (gp go : Nat) (l : List PC.S44) : List Deferred := l.map fun kv => { target := .fn (.func 87) #[.pointer (some ⟨gp, 0, none⟩), .pointer (some ⟨go, 0, none⟩)], args := #[kv44 kv] }

theorem stepM_len (st : Bool × List PC.S44) (kv : PC.S44) : (stepM st kv).2.length ≤ st.2.length + 1 := by
  unfold stepM
  simp only
  split <;> simp

theorem leaves_all (w0 : World) (base gp go : Nat) (hne : gp ≠ go) (hgp : base ≤ gp) (hgo : base ≤ go) (tmps : Array Value) (R : Ending → World → Prop) : ∀ (l : List PC.S44) (st : Bool × List PC.S44) (W : World), MInv w0 base gp go st W → (st.2.length + l.length) * 48 ≤ 140737488355328 →
    (∀ W', MInv w0 base gp go (l.foldl stepM st) W' → R (.returned (.tuple #[])) W') → Leaves Try.prog Try.f88 tmps R (dls gp go l) .returning W
  | [], st, W, h, _, hR => ⟨_, results_none rfl _ _ _, hR W h⟩
  | kv :: t, st, W, h, hl, hR => by
    simp only [List.length_cons] at hl
    refine leaves_cons (f := 87) (args := #[kv44 kv, .pointer (some ⟨gp, 0, none⟩), .pointer (some ⟨go, 0, none⟩)]) (by simp) (by simp [go_sem]) ?_
    refine (mark_d kv w0 base gp go st hne hgp hgo .returning W h (by omega)).mono ?_
    rintro e u' w' ⟨rfl, rfl, h'⟩
    have := stepM_len st kv
    exact leaves_all w0 base gp go hne hgp hgo tmps R t (stepM st kv) w' h' (by omega) hR

theorem MInv.alloc {w0 : World} {base gp go : Nat} {st : Bool × List PC.S44} {W : World} (h : MInv w0 base gp go st W) (o : Obj) : MInv w0 base gp go st (W.alloc o) := by
  obtain ⟨v, h1, h2, h3, h4, h5⟩ := h
  exact ⟨v, h1.alloc _, h2.alloc _, Kd.R_alloc h3 _, h4.alloc h5 _, by simp; omega⟩

set_option maxHeartbeats 8000000 in
theorem lit_w (w0 : World) (base gp go b1 b4 : Nat) (hne : gp ≠ go) (hgp : base ≤ gp) (hgo : base ≤ go) (A : Option Addr) (c : Nat) (l : List PC.S44) (w : World) (hr : Kd.C PC.k44 w A l.length l) (hc : l.length ≤ c)
    (h1 : Boxed w b1 22 (.slice A l.length c)) (h4 : Boxed w b4 130 (.func (.func 87) #[] #[.pointer (some ⟨gp, 0, none⟩), .pointer (some ⟨go, 0, none⟩)])) (hM : MInv w0 base gp go (false, []) w) (hbig : l.length * 48 ≤ 140737488355328) :
    Calls Try.prog 88 #[.pointer (some ⟨b1, 0, none⟩), .pointer (some ⟨b4, 0, none⟩)] w fun e w' => e = .returned (.tuple #[]) ∧ MInv w0 base gp go (runM l.reverse) w' := by
  have hlen := hr.2.1
  have HR := Lib.hid hr
  clear hr
  have c1 := h1.cell
  go_enter_defers Try.func88, Try.ntmps88
  go_wp2
  refine wp_loop (fun a W => ∃ (k : Nat) (u3 u7 u8 u9 u10 u11 u12 : Value), k ≤ l.length ∧ a = { tmps := #[.pointer (some ⟨b1, 0, none⟩), .pointer (some ⟨b4, 0, none⟩), undef, u3, .slice A l.length c, .int .i64 (l.length : Int), .int .i64 (k : Int), u7, u8, u9, u10, u11, u12], defers := dls gp go (l.take k).reverse } ∧ MInv w0 base gp go (false, []) W ∧ Below w.heap.size w W) (fun a _ => l.length - (intOf (a.tmps.getD 6 undef)).toNat) ?_ ?_
  · exact ⟨0, _, _, _, _, _, _, _, by omega, rfl, hM, Below.refl _ _⟩
  · rintro a W ⟨k, u3, u7, u8, u9, u10, u11, u12, hk, rfl, hM', hB⟩
    have H := Lib.hid (And.intro hM' hB)
    clear hM' hB
    by_cases hlt : k < l.length
    · obtain ⟨ad, e, X⟩ := at44 (keepC HR.out (Nat.le_refl _) H.out.2) k hlt
      subst e
      obtain ⟨kv, hkv⟩ : ∃ kv, l.getD k PC.z44 = kv := ⟨_, rfl⟩
      rw [hkv] at X
      have HK := Lib.hid hkv
      clear hkv
      obtain ⟨x0, x1, x2, x3⟩ := X
      obtain ⟨W1, hW1⟩ : ∃ W1, W.alloc (.cells #[.string kv.f0.f0, .int .u64 kv.f0.f1, .int .i64 kv.f0.f2, .string kv.f1] 44) = W1 := ⟨_, rfl⟩
      have q0 : W1.cell? ⟨W.heap.size, 0, none⟩ = some (.string kv.f0.f0) := by rw [← hW1]; exact cell_top rfl rfl
      have q1 : W1.cell? ⟨W.heap.size, 1, none⟩ = some (.int .u64 kv.f0.f1) := by rw [← hW1]; exact cell_top rfl rfl
      have q2 : W1.cell? ⟨W.heap.size, 2, none⟩ = some (.int .i64 kv.f0.f2) := by rw [← hW1]; exact cell_top rfl rfl
      have q3 : W1.cell? ⟨W.heap.size, 3, none⟩ = some (.string kv.f1) := by rw [← hW1]; exact cell_top rfl rfl
      have q4 : W1.cell? ⟨b4, 0, none⟩ = some (.func (.func 87) #[] #[.pointer (some ⟨gp, 0, none⟩), .pointer (some ⟨go, 0, none⟩)]) := by
        rw [← hW1]; exact cell_up ((H.out.2.cell (World.block_lt_of_cell? _ _ h4.cell)).trans h4.cell)
      have p0 : (k < l.length) = True := eq_true hlt
      have hw1 : IntKind.i64.wrap ((k : Int) + 1) = (k : Int) + 1 := by rw [IntWalk.i64_in _ (by omega)]
      go_wp2
      refine ⟨⟨k + 1, .pointer (some ⟨W.heap.size, 0, none⟩), .bool true, .pointer (some (ad.add (k * 4))), kv44 kv, .func (.func 87) #[] #[.pointer (some ⟨gp, 0, none⟩), .pointer (some ⟨go, 0, none⟩)], kv44 kv, .int .i64 ((k : Int) + 1), by omega, ?_, ?_, ?_⟩, by simp [intOf]; omega⟩
      · have ht : l.take (k + 1) = l.take k ++ [kv] := by
          rw [List.take_add_one, List.getElem?_eq_getElem hlt, ← HK.out]
          simp [List.getD_eq_getElem?_getD, List.getElem?_eq_getElem hlt]
        rw [ht, List.reverse_append]
        rfl
      · rw [← hW1]; exact H.out.1.alloc _
      · rw [← hW1]; exact H.out.2.alloc H.out.2.size _
    · have hn : decide ((k : Int) < (l.length : Int)) = false := decide_eq_false (by omega)
      go_wp2
      rw [List.take_of_length_le (by omega)]
      exact leaves_all w0 base gp go hne hgp hgo _ _ l.reverse (false, []) W H.out.1 (by simpa using hbig) (fun W' h => ⟨rfl, h⟩)

end Go.Proofs.Ytehoojmalhloeaa.CM
