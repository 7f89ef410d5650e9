/- merge: the heap of lists: its methods, down, Fix, Init, Pop; lineUp; the order of lists. -/
import Derived.Test.YtehoojmalhloeaaCX1
import Derived.RegionTactic
import Derived.ChangeAlike
import Derived.BigRegion
import Derived.Test.YtehoojmalhloeaaDJ
import Derived.Test.YtehoojmalhloeaaCX2

/-! merge: the heap's methods: Len, Swap, Less, Pop, as they are reached through the interface. Conditions: where things lie. -/
namespace Go.Proofs.Ytehoojmalhloeaa.CM
open Go.RowKit Go.Proofs.YtehoojmalhloeaaW.PrintWords
set_option linter.unusedVariables false
set_option linter.unusedSimpArgs false
set_option maxRecDepth 100000

theorem m_pop (a : Addr) (w : World) : (method (278) 139 (.pointer (some a)) "Pop").run Try.prog w = .ok (131, .pointer (some a)) w := by kernel_rfl
theorem m_len (a : Addr) (w : World) (v : Value) (h : w.cell? a = some v) : (method (278) 139 (.pointer (some a)) "Len").run Try.prog w = .ok (94, v) w := by
  have e : (method (278) 139 (.pointer (some a)) "Len").run Try.prog w = (do let v ← load a; pure ((94 : FuncId), v) : Sem (FuncId × Value)).run Try.prog w := by kernel_rfl
  rw [e]
  simp [go_sem, h]
theorem m_swap (a : Addr) (w : World) (v : Value) (h : w.cell? a = some v) : (method (278) 139 (.pointer (some a)) "Swap").run Try.prog w = .ok (129, v) w := by
  have e : (method (278) 139 (.pointer (some a)) "Swap").run Try.prog w = (do let v ← load a; pure ((129 : FuncId), v) : Sem (FuncId × Value)).run Try.prog w := by kernel_rfl
  rw [e]
  simp [go_sem, h]
theorem m_less (a : Addr) (w : World) (v u : Value) (h : w.cell? a = some v) (hu : w.cell? ⟨a.block, a.off + 1, none⟩ = some u) : (method (278) 139 (.pointer (some a)) "Less").run Try.prog w = .ok (130, .agg #[v, u]) w := by
  have e : (method (278) 139 (.pointer (some a)) "Less").run Try.prog w = (do let v ← load a; let u ← load ⟨a.block, a.off + 1, none⟩; pure ((130 : FuncId), .agg #[v, u]) : Sem (FuncId × Value)).run Try.prog w := by kernel_rfl
  rw [e]
  simp [go_sem, h, hu]

/-- IntSlice.Len. -/
theorem len_w (A : Option Addr) (n c : Nat) (w : World) : Calls Try.prog 94 #[.slice A n c] w (fun e w' => e = .returned (.int .i64 n) ∧ w' = w) := by
  go_enter Try.func94, Try.ntmps94
  go_wp2
  go_ret
  exact ⟨rfl, rfl⟩

/-- A row of numbers, and what lies behind it. -/
def row (d : List Nat) (r : List Value) : Array Value := (d.map (fun x : Nat => Value.int .i64 (x : Int)) ++ r).toArray
theorem row_get (d : List Nat) (r : List Value) (i : Nat) (h : i < d.length) : (row d r)[i]? = some (.int .i64 (d.getD i 0 : Nat)) := by
  simp [row, List.getElem?_append_left, h]
theorem row_set (d : List Nat) (r : List Value) (i x : Nat) (h : i < d.length) : (row d r).set! i (.int .i64 (x : Int)) = row (d.set i x) r := by
  simp [row, List.set_append_left, h, List.map_set]
theorem row_size (d : List Nat) (r : List Value) : (row d r).size = d.length + r.length := by simp [row]

/-- All is as it was, but one block's cells. -/
structure Tn (H : Nat) (w0 w : World) (c : Array Value) : Prop where
  os : w.os = w0.os
  tape : w.tape = w0.tape
  output : w.output = w0.output
  size : w0.heap.size ≤ w.heap.size
  block : ∀ b, b < w0.heap.size → b ≠ H → w.heap[b]? = w0.heap[b]?
  row : w.heap[H]? = some (.cells c 3 (0, 0))
theorem Tn.refl {H : Nat} {w : World} {c : Array Value} (h : w.heap[H]? = some (.cells c 3 (0, 0))) : Tn H w w c := ⟨rfl, rfl, rfl, Nat.le_refl _, fun _ _ _ => rfl, h⟩
theorem Tn.trans {H : Nat} {w0 w1 w2 : World} {c d : Array Value} (h : Tn H w0 w1 c) (k : Tn H w1 w2 d) : Tn H w0 w2 d :=
  ⟨k.os.trans h.os, k.tape.trans h.tape, k.output.trans h.output, Nat.le_trans h.size k.size, fun b hb hn => (k.block b (by have := h.size; omega) hn).trans (h.block b hb hn), k.row⟩
theorem Tn.below {H : Nat} {w0 w1 w2 : World} {c : Array Value} (h : Tn H w0 w1 c) (k : Below w1.heap.size w1 w2) : Tn H w0 w2 c :=
  ⟨k.os.trans h.os, k.tape.trans h.tape, k.output.trans h.output, Nat.le_trans h.size k.size, fun b hb hn => (k.block b (by have := h.size; omega)).trans (h.block b hb hn), (k.block H (Array.getElem?_eq_some_iff.1 h.row).1).trans h.row⟩
theorem Tn.drewN {H : Nat} {w0 w1 : World} {c : Array Value} (h : Tn H w0 w1 c) (n : Nat) : Tn H w0 (w1.drewN n) c := ⟨h.os, h.tape, h.output, h.size, h.block, h.row⟩
theorem Tn.drew {H : Nat} {w0 w1 : World} {c : Array Value} (h : Tn H w0 w1 c) : Tn H w0 w1.drew c := ⟨h.os, h.tape, h.output, h.size, h.block, h.row⟩
theorem Tn.cell {H : Nat} {w0 w1 : World} {c : Array Value} (h : Tn H w0 w1 c) {b o : Nat} (hb : b < w0.heap.size) (hn : b ≠ H) : w1.cell? ⟨b, o, none⟩ = w0.cell? ⟨b, o, none⟩ := by
  simp only [World.cell?, h.block b hb hn]

theorem Tn.set {H : Nat} {w0 w1 : World} {d : List Nat} {r : List Value} (h : Tn H w0 w1 (CM.row d r)) (i x : Nat) (hi : i < d.length) : Tn H w0 (w1.setCell ⟨H, i, none⟩ (.int .i64 (x : Int))) (CM.row (d.set i x) r) := by
  refine ⟨h.os, h.tape, h.output, by simpa [World.setCell] using h.size, fun b hb hn => ?_, ?_⟩
  · rw [heap_setCell_other _ _ _ _ hn]
    exact h.block b hb hn
  · rw [heap_setCell_same w1 H i _ 3 _ h.row]
    have := row_set d r i x hi
    rw [Array.set!_eq_setIfInBounds] at this
    rw [this]

def swapL (d : List Nat) (i j : Nat) : List Nat := (d.set i (d.getD j 0)).set j (d.getD i 0)
theorem swapL_length (d : List Nat) (i j : Nat) : (swapL d i j).length = d.length := by simp [swapL]

/-- IntSlice.Swap. -/
theorem swap_w (H n cap i j : Nat) (d : List Nat) (r : List Value) (w : World) (hr : w.heap[H]? = some (.cells (row d r) 3 (0, 0))) (hn : n ≤ d.length) (hi : i < n) (hj : j < n) :
    Calls Try.prog 129 #[.slice (some ⟨H, 0, none⟩) n cap, .int .i64 i, .int .i64 j] w (fun e w' => e = .returned (.tuple #[]) ∧ Tn H w w' (row (swapL d i j) r)) := by
  have h1 : w.cell? ⟨H, i, none⟩ = some (.int .i64 (d.getD i 0 : Nat)) := by simp only [World.cell?, hr]; exact row_get d r i (by omega)
  have h2 : w.cell? ⟨H, j, none⟩ = some (.int .i64 (d.getD j 0 : Nat)) := by simp only [World.cell?, hr]; exact row_get d r j (by omega)
  have hf : ∀ k, w.frozen? ⟨H, k, none⟩ = false := fun k => by simp [World.frozen?, hr]
  have p1 : ((i : Int) < n) = True := eq_true (by omega)
  have p2 : ((j : Int) < n) = True := eq_true (by omega)
  have f1 := hf i
  have f2 := hf j
  have HR := Lib.hid hr
  clear hr hf
  by_cases hij : i = j
  · subst hij
    go_enter Try.func129, Try.ntmps129
    go_wp2_with fail
    go_region
    go_end0
    refine ⟨rfl, ?_⟩
    have := (((Tn.refl HR.out).set i (d.getD i 0) (by omega)).set i (d.getD i 0) (by simpa using (by omega : i < d.length))).drew
    simpa [swapL] using this
  · have n1 : ¬ (j = i) := fun h => hij h.symm
    go_enter Try.func129, Try.ntmps129
    go_wp2_with fail
    go_region
    go_end0
    refine ⟨rfl, ?_⟩
    have := (((Tn.refl HR.out).set i (d.getD j 0) (by omega)).set j (d.getD i 0) (by simpa using (by omega : j < d.length))).drew
    simpa [swapL] using this

/-- Entries lie at an address. -/
def Ents (w : World) (A : Option Addr) (xs : List PC.S44) : Prop := ∀ j, j < xs.length → ∃ ad, A = some ad ∧ El w (ad.add (j * 4)) (xs.getD j PC.z44)
theorem El.moved {w w1 : World} {p : Addr} {x : PC.S44} (h : El w p x) (hb : w1.heap[p.block]? = w.heap[p.block]?) : El w1 p x := by
  unfold El at *
  simp only [World.cell?] at *
  rw [hb]
  exact h
theorem Ents.moved {w w1 : World} {A : Option Addr} {xs : List PC.S44} (h : Ents w A xs) (hb : ∀ a, A = some a → w1.heap[a.block]? = w.heap[a.block]?) : Ents w1 A xs := fun j hj => by
  obtain ⟨ad, e, h1⟩ := h j hj
  exact ⟨ad, e, h1.moved (by have := hb ad e; unfold Addr.add; split <;> exact this)⟩

/-- Where an iterator's lists lie. -/
structure Sh where
  L : List (List PC.S44)
  G : Nat
  ga : Option Addr
  gc : Nat
  C : Nat → Nat
  A : Nat → Option Addr
  cp : Nat → Nat
abbrev Sh.n (s : Sh) : Nat := s.L.length
abbrev Sh.l (s : Sh) (i : Nat) : List PC.S44 := s.L.getD i []
/-- The lists' cursors, and where they stand. -/
structure Cs (w : World) (s : Sh) (at_ : Nat → Nat) : Prop where
  gl : ∀ i, i < s.n → s.ga = some ⟨s.G, 0, none⟩ ∧ w.cell? ⟨s.G, i, none⟩ = some (.pointer (some ⟨s.C i, 0, none⟩))
  cur : ∀ i, i < s.n → w.heap[s.C i]? = some (.cells #[.slice (s.A i) (s.l i).length (s.cp i), .int .i64 (at_ i), .int .i64 i] 112 (0, 0))
  ents : ∀ i, i < s.n → Ents w (s.A i) (s.l i)

/-- The key of a list's next entry, and the order of lists by it. -/
def Sh.key (s : Sh) (at_ : Nat → Nat) (i : Nat) : PC.S42 := ((s.l i).getD (at_ i) PC.z44).f0
def Sh.less (s : Sh) (at_ : Nat → Nat) (a b : Nat) : Bool := decide (cmpK (s.key at_ a) (s.key at_ b) < 0) || (decide (cmpK (s.key at_ a) (s.key at_ b) = 0) && decide (a < b))

theorem mem_getD (d : List Nat) (i : Nat) (h : i < d.length) : d.getD i 0 ∈ d := by
  have : d.getD i 0 = d[i] := by simp [h]
  rw [this]; exact List.getElem_mem _

set_option maxHeartbeats 4000000 in
/-- line.Less. -/
theorem less_w (H n cap i j : Nat) (d : List Nat) (r : List Value) (s : Sh) (at_ : Nat → Nat) (w : World) (hr : w.heap[H]? = some (.cells (row d r) 3 (0, 0))) (hn : n ≤ d.length) (hi : i < n) (hj : j < n)
    (hc : Cs w s at_) (hd : ∀ x ∈ d, x < s.n) (hai : at_ (d.getD i 0) < (s.l (d.getD i 0)).length) (haj : at_ (d.getD j 0) < (s.l (d.getD j 0)).length) :
    Calls Try.prog 130 #[.agg #[.slice (some ⟨H, 0, none⟩) n cap, .slice s.ga s.n s.gc], .int .i64 i, .int .i64 j] w (fun e w' => e = .returned (.bool (s.less at_ (d.getD i 0) (d.getD j 0))) ∧ Below w.heap.size w w') := by
  obtain ⟨a, hA⟩ : ∃ a, d.getD i 0 = a := ⟨_, rfl⟩
  obtain ⟨b, hB⟩ : ∃ b, d.getD j 0 = b := ⟨_, rfl⟩
  have h1 : w.cell? ⟨H, i, none⟩ = some (.int .i64 (a : Nat)) := by simp only [World.cell?, hr]; rw [← hA]; exact row_get d r i (by omega)
  have h2 : w.cell? ⟨H, j, none⟩ = some (.int .i64 (b : Nat)) := by simp only [World.cell?, hr]; rw [← hB]; exact row_get d r j (by omega)
  have ha1 : at_ a < (s.l a).length := by rw [← hA]; exact hai
  have ha2 : at_ b < (s.l b).length := by rw [← hB]; exact haj
  have ma : a ∈ d := by rw [← hA]; exact mem_getD d i (by omega)
  have mb : b ∈ d := by rw [← hB]; exact mem_getD d j (by omega)
  have hga := (hc.gl a (hd a ma)).1
  have h3 := (hc.gl a (hd a ma)).2
  have h4 := (hc.gl b (hd b mb)).2
  have c1 := hc.cur a (hd a ma)
  have c2 := hc.cur b (hd b mb)
  obtain ⟨pa, ea, X⟩ := hc.ents a (hd a ma) (at_ a) ha1
  obtain ⟨pb, eb, Y⟩ := hc.ents b (hd b mb) (at_ b) ha2
  have hla := ha1
  have hlb := ha2
  have hna := hd a ma
  have hnb := hd b mb
  rw [hA, hB]
  obtain ⟨la, hLa⟩ : ∃ m, (s.l a).length = m := ⟨_, rfl⟩
  obtain ⟨lb, hLb⟩ : ∃ m, (s.l b).length = m := ⟨_, rfl⟩
  rw [hLa] at c1 hla
  rw [hLb] at c2 hlb
  have p1 : ((i : Int) < n) = True := eq_true (by omega)
  have p2 : ((j : Int) < n) = True := eq_true (by omega)
  have p3 : ((a : Int) < s.n) = True := eq_true (by omega)
  have p4 : ((b : Int) < s.n) = True := eq_true (by omega)
  have p5 : ((at_ a : Int) < la) = True := eq_true (by omega)
  have p6 : ((at_ b : Int) < lb) = True := eq_true (by omega)
  rw [ea] at c1
  rw [eb] at c2
  have k10 : w.cell? ⟨s.C a, 0, none⟩ = some (.slice (some pa) la (s.cp a)) := by simp [World.cell?, c1]
  have k11 : w.cell? ⟨s.C a, 1, none⟩ = some (.int .i64 (at_ a)) := by simp [World.cell?, c1]
  have k12 : w.cell? ⟨s.C a, 2, none⟩ = some (.int .i64 a) := by simp [World.cell?, c1]
  have k20 : w.cell? ⟨s.C b, 0, none⟩ = some (.slice (some pb) lb (s.cp b)) := by simp [World.cell?, c2]
  have k21 : w.cell? ⟨s.C b, 1, none⟩ = some (.int .i64 (at_ b)) := by simp [World.cell?, c2]
  have k22 : w.cell? ⟨s.C b, 2, none⟩ = some (.int .i64 b) := by simp [World.cell?, c2]
  rw [hga]
  clear hr hc hd ha1 ha2 hai haj ma mb c1 c2
  go_enter Try.func130, Try.ntmps130
  go_wp2_with fail
  obtain ⟨x, hx⟩ : ∃ x, (s.l a).getD (at_ a) PC.z44 = x := ⟨_, rfl⟩
  obtain ⟨y, hy⟩ : ∃ y, (s.l b).getD (at_ b) PC.z44 = y := ⟨_, rfl⟩
  have hans : s.less at_ a b = (decide (cmpK x.f0 y.f0 < 0) || (decide (cmpK x.f0 y.f0 = 0) && decide (a < b))) := by
    unfold Sh.less Sh.key
    rw [hx, hy]
  rw [hx] at X
  rw [hy] at Y
  obtain ⟨B, hB⟩ : ∃ B, w.heap.size = B := ⟨_, rfl⟩
  obtain ⟨W, hW⟩ : ∃ W, w.alloc (.cells #[.slice (some ⟨H, 0, none⟩) n cap, .slice (some ⟨s.G, 0, none⟩) s.n s.gc] 107) = W := ⟨_, rfl⟩
  have bl : Below w.heap.size w W := by rw [← hW]; exact (Below.refl _ _).alloc (Nat.le_refl _) _
  have hb := World.alloc_heap_new w (.cells #[.slice (some ⟨H, 0, none⟩) n cap, .slice (some ⟨s.G, 0, none⟩) s.n s.gc] 107)
  rw [hW, hB] at hb
  have b0 : W.cell? ⟨B, 0, none⟩ = some (.slice (some ⟨H, 0, none⟩) n cap) := by simp [World.cell?, hb]
  have b1 : W.cell? ⟨B, 1, none⟩ = some (.slice (some ⟨s.G, 0, none⟩) s.n s.gc) := by simp [World.cell?, hb]
  replace h1 := (bl.cell (World.block_lt_of_cell? _ _ h1)).trans h1
  replace h2 := (bl.cell (World.block_lt_of_cell? _ _ h2)).trans h2
  replace h3 := (bl.cell (World.block_lt_of_cell? _ _ h3)).trans h3
  replace h4 := (bl.cell (World.block_lt_of_cell? _ _ h4)).trans h4
  replace k10 := (bl.cell (World.block_lt_of_cell? _ _ k10)).trans k10
  replace k11 := (bl.cell (World.block_lt_of_cell? _ _ k11)).trans k11
  replace k12 := (bl.cell (World.block_lt_of_cell? _ _ k12)).trans k12
  replace k20 := (bl.cell (World.block_lt_of_cell? _ _ k20)).trans k20
  replace k21 := (bl.cell (World.block_lt_of_cell? _ _ k21)).trans k21
  replace k22 := (bl.cell (World.block_lt_of_cell? _ _ k22)).trans k22
  replace X := X.below bl
  replace Y := Y.below bl
  rw [hW, hB]
  have HA := Lib.hid hans
  have HL := Lib.hid bl
  clear hans hb ea eb hx hy bl
  obtain ⟨x0, x1, x2, x3⟩ := X
  obtain ⟨y0, y1, y2, y3⟩ := Y
  clear hA hLa hLb
  go_quiet (fail)
  obtain ⟨W2, hW2⟩ : ∃ W2, W.drewN nq = W2 := ⟨_, rfl⟩
  rw [hW2]
  have HX : Hid (W2.cell? ⟨s.C a, 0, none⟩ = some (.slice (some pa) la (s.cp a)) ∧ W2.cell? ⟨s.C a, 1, none⟩ = some (.int .i64 (at_ a)) ∧ W2.cell? ⟨s.C b, 0, none⟩ = some (.slice (some pb) lb (s.cp b)) ∧ W2.cell? ⟨s.C b, 1, none⟩ = some (.int .i64 (at_ b)) ∧ W2.cell? (pa.add (at_ a * 4)) = some (.string x.f0.f0) ∧ W2.cell? ⟨(pa.add (at_ a * 4)).block, (pa.add (at_ a * 4)).off + 1, none⟩ = some (.int .u64 x.f0.f1) ∧ W2.cell? ⟨(pa.add (at_ a * 4)).block, (pa.add (at_ a * 4)).off + 2, none⟩ = some (.int .i64 x.f0.f2) ∧ W2.cell? (pb.add (at_ b * 4)) = some (.string y.f0.f0) ∧ W2.cell? ⟨(pb.add (at_ b * 4)).block, (pb.add (at_ b * 4)).off + 1, none⟩ = some (.int .u64 y.f0.f1) ∧ W2.cell? ⟨(pb.add (at_ b * 4)).block, (pb.add (at_ b * 4)).off + 2, none⟩ = some (.int .i64 y.f0.f2) ∧ W2.cell? ⟨s.C a, 2, none⟩ = some (.int .i64 a) ∧ W2.cell? ⟨s.C b, 2, none⟩ = some (.int .i64 b)) := by rw [← hW2]; exact ⟨k10, k11, k20, k21, x0, x1, x2, y0, y1, y2, k12, k22⟩
  have HW := Lib.hid (show Below w.heap.size w W2 by rw [← hW2]; exact ⟨HL.out.os, HL.out.tape, HL.out.output, HL.out.size, HL.out.block⟩)
  clear h1 h2 h3 h4 k10 k11 k12 k20 k21 k22 x0 x1 x2 x3 y0 y1 y2 y3 b0 b1 hW2 hW HL
  have C := compare_w x.f0 y.f0
  unfold kv42 at C
  have HC := Lib.hid C
  clear C
  go_wp2_with fail
  go_region_held3 (fun w' => w'.cell? ⟨s.C a, 0, none⟩ = some (.slice (some pa) la (s.cp a)) ∧ w'.cell? ⟨s.C a, 1, none⟩ = some (.int .i64 (at_ a)) ∧ w'.cell? ⟨s.C b, 0, none⟩ = some (.slice (some pb) lb (s.cp b)) ∧ w'.cell? ⟨s.C b, 1, none⟩ = some (.int .i64 (at_ b)) ∧ w'.cell? (pa.add (at_ a * 4)) = some (.string x.f0.f0) ∧ w'.cell? ⟨(pa.add (at_ a * 4)).block, (pa.add (at_ a * 4)).off + 1, none⟩ = some (.int .u64 x.f0.f1) ∧ w'.cell? ⟨(pa.add (at_ a * 4)).block, (pa.add (at_ a * 4)).off + 2, none⟩ = some (.int .i64 x.f0.f2) ∧ w'.cell? (pb.add (at_ b * 4)) = some (.string y.f0.f0) ∧ w'.cell? ⟨(pb.add (at_ b * 4)).block, (pb.add (at_ b * 4)).off + 1, none⟩ = some (.int .u64 y.f0.f1) ∧ w'.cell? ⟨(pb.add (at_ b * 4)).block, (pb.add (at_ b * 4)).off + 2, none⟩ = some (.int .i64 y.f0.f2) ∧ w'.cell? ⟨s.C a, 2, none⟩ = some (.int .i64 a) ∧ w'.cell? ⟨s.C b, 2, none⟩ = some (.int .i64 b)) (first | exact HX.out | exact HB2.out) (first | (go_at_call 69; refine Calls.mono (HC.out _) ?_; rintro e w1 ⟨rfl, hb1⟩; have HB2 : Hid (w1.cell? ⟨s.C a, 0, none⟩ = some (.slice (some pa) la (s.cp a)) ∧ w1.cell? ⟨s.C a, 1, none⟩ = some (.int .i64 (at_ a)) ∧ w1.cell? ⟨s.C b, 0, none⟩ = some (.slice (some pb) lb (s.cp b)) ∧ w1.cell? ⟨s.C b, 1, none⟩ = some (.int .i64 (at_ b)) ∧ w1.cell? (pa.add (at_ a * 4)) = some (.string x.f0.f0) ∧ w1.cell? ⟨(pa.add (at_ a * 4)).block, (pa.add (at_ a * 4)).off + 1, none⟩ = some (.int .u64 x.f0.f1) ∧ w1.cell? ⟨(pa.add (at_ a * 4)).block, (pa.add (at_ a * 4)).off + 2, none⟩ = some (.int .i64 x.f0.f2) ∧ w1.cell? (pb.add (at_ b * 4)) = some (.string y.f0.f0) ∧ w1.cell? ⟨(pb.add (at_ b * 4)).block, (pb.add (at_ b * 4)).off + 1, none⟩ = some (.int .u64 y.f0.f1) ∧ w1.cell? ⟨(pb.add (at_ b * 4)).block, (pb.add (at_ b * 4)).off + 2, none⟩ = some (.int .i64 y.f0.f2) ∧ w1.cell? ⟨s.C a, 2, none⟩ = some (.int .i64 a) ∧ w1.cell? ⟨s.C b, 2, none⟩ = some (.int .i64 b)) := Lib.hid ⟨(hb1.cell (World.block_lt_of_cell? _ _ (HX.out.1))).trans (HX.out.1), (hb1.cell (World.block_lt_of_cell? _ _ (HX.out.2.1))).trans (HX.out.2.1), (hb1.cell (World.block_lt_of_cell? _ _ (HX.out.2.2.1))).trans (HX.out.2.2.1), (hb1.cell (World.block_lt_of_cell? _ _ (HX.out.2.2.2.1))).trans (HX.out.2.2.2.1), (hb1.cell (World.block_lt_of_cell? _ _ (HX.out.2.2.2.2.1))).trans (HX.out.2.2.2.2.1), (hb1.cell (World.block_lt_of_cell? _ _ (HX.out.2.2.2.2.2.1))).trans (HX.out.2.2.2.2.2.1), (hb1.cell (World.block_lt_of_cell? _ _ (HX.out.2.2.2.2.2.2.1))).trans (HX.out.2.2.2.2.2.2.1), (hb1.cell (World.block_lt_of_cell? _ _ (HX.out.2.2.2.2.2.2.2.1))).trans (HX.out.2.2.2.2.2.2.2.1), (hb1.cell (World.block_lt_of_cell? _ _ (HX.out.2.2.2.2.2.2.2.2.1))).trans (HX.out.2.2.2.2.2.2.2.2.1), (hb1.cell (World.block_lt_of_cell? _ _ (HX.out.2.2.2.2.2.2.2.2.2.1))).trans (HX.out.2.2.2.2.2.2.2.2.2.1), (hb1.cell (World.block_lt_of_cell? _ _ (HX.out.2.2.2.2.2.2.2.2.2.2.1))).trans (HX.out.2.2.2.2.2.2.2.2.2.2.1), (hb1.cell (World.block_lt_of_cell? _ _ (HX.out.2.2.2.2.2.2.2.2.2.2.2))).trans (HX.out.2.2.2.2.2.2.2.2.2.2.2)⟩; have HB1 := Lib.hid ((Below.refl W2.heap.size W2).drew.trans hb1); clear hb1))
  all_goals
    have q1 : w1.cell? ⟨s.C a, 2, none⟩ = some (.int .i64 a) := HB2.out.2.2.2.2.2.2.2.2.2.2.1
    have q2 : w1.cell? ⟨s.C b, 2, none⟩ = some (.int .i64 b) := HB2.out.2.2.2.2.2.2.2.2.2.2.2
    have HF : Hid (Below B w w1) := Lib.hid (by have := HW.out.trans (HB1.out.mono HW.out.size); rwa [hB] at this)
    clear HB1 HB2 HX HW HC
    go_wp2_with fail
    by_cases hc : cmpK x.f0 y.f0 < 0
    · have t1 : decide (cmpK x.f0 y.f0 < 0) = true := decide_eq_true hc
      go_quiet (fail)
      go_wp2_with fail
      go_ret
      exact ⟨by rw [HA.out]; simp [hc], HF.out.os, HF.out.tape, HF.out.output, HF.out.size, fun k hk => HF.out.block k (by omega)⟩
    · have t1 : decide (cmpK x.f0 y.f0 < 0) = false := decide_eq_false hc
      by_cases hz : cmpK x.f0 y.f0 = 0
      · have t2 : decide (cmpK x.f0 y.f0 = 0) = true := decide_eq_true hz
        go_quiet (fail)
        go_wp2_with fail
        go_ret
        exact ⟨by rw [HA.out]; simp [hz], HF.out.os, HF.out.tape, HF.out.output, HF.out.size, fun k hk => HF.out.block k (by omega)⟩
      · have t2 : decide (cmpK x.f0 y.f0 = 0) = false := decide_eq_false hz
        go_quiet (fail)
        go_wp2_with fail
        go_ret
        exact ⟨by rw [HA.out]; simp [hc, hz], HF.out.os, HF.out.tape, HF.out.output, HF.out.size, fun k hk => HF.out.block k (by omega)⟩

end Go.Proofs.Ytehoojmalhloeaa.CM

/-! merge: line.Pop, and the heap's down. -/
namespace Go.Proofs.Ytehoojmalhloeaa.CM
open Go.RowKit Go.Proofs.YtehoojmalhloeaaW.PrintWords
set_option linter.unusedVariables false
set_option linter.unusedSimpArgs false
set_option maxRecDepth 100000

set_option maxHeartbeats 4000000 in
/-- line.Pop. -/
theorem pop_w (X H n cap : Nat) (gv gv2 hv : Value) (d : List Nat) (r : List Value) (w : World) (hx : w.heap[X]? = some (.cells #[gv, .slice (some ⟨H, 0, none⟩) (n + 1) cap, gv2, hv] 110 (0, 0)))
    (hr : w.heap[H]? = some (.cells (row d r) 3 (0, 0))) (hn : n + 1 ≤ d.length) (hc : n + 1 ≤ cap) (hcm : cap ≤ maxLen) :
    Calls Try.prog 131 #[.pointer (some ⟨X, 1, none⟩)] w (fun e w' => e = .returned (.iface 3 (.int .i64 (d.getD n 0 : Nat))) ∧ ∃ k, w' = (w.setCell ⟨X, 1, none⟩ (.slice (some ⟨H, 0, none⟩) n cap)).drewN k) := by
  have h1 : w.cell? ⟨H, n, none⟩ = some (.int .i64 (d.getD n 0 : Nat)) := by simp only [World.cell?, hr]; exact row_get d r n (by omega)
  have h2 : w.cell? ⟨X, 1, none⟩ = some (.slice (some ⟨H, 0, none⟩) (n + 1) cap) := by simp [World.cell?, hx]
  have h3 : w.frozen? ⟨X, 1, none⟩ = false := by simp [World.frozen?, hx]
  have q1 : IntKind.i64.wrap ((n : Int) + 1 - 1) = (n : Int) := by rw [IntWalk.i64_in _ (by simp only [maxLen] at hcm; omega)]; omega
  have q2 : IntKind.i64.wrap (n : Int) = (n : Int) := by rw [IntWalk.i64_in _ (by simp only [maxLen] at hcm; omega)]
  have p1 : ((n : Int) < (n : Int) + 1) = True := eq_true (by omega)
  have p2 : ((n : Int) ≤ cap) = True := eq_true (by omega)
  obtain ⟨z, hz⟩ : ∃ z : Nat, d.getD n 0 = z := ⟨_, rfl⟩
  rw [hz] at h1 ⊢
  clear hx hr hz
  have LN : ∀ w2, Calls Try.prog 94 #[.slice (some ⟨H, 0, none⟩) (n + 1) cap] w2 (fun e w' => e = .returned (.int .i64 ((n : Int) + 1)) ∧ w' = w2) := fun w2 => by
    have := len_w (some ⟨H, 0, none⟩) (n + 1) cap w2
    simpa using this
  have HL := Lib.hid LN
  clear LN
  go_enter Try.func131, Try.ntmps131
  go_wp2_with fail
  go_quiet (first | (go_at_call 94; exact Calls.quiet_of_same (HL.out _)))
  go_wp2_with fail
  obtain ⟨W2, hW2⟩ : ∃ W2, w.drewN nq = W2 := ⟨_, rfl⟩
  rw [hW2]
  have h2 : W2.cell? ⟨X, 1, none⟩ = some (.slice (some ⟨H, 0, none⟩) (n + 1) cap) := by rw [← hW2]; exact h2
  have h3 : W2.frozen? ⟨X, 1, none⟩ = false := by rw [← hW2]; exact h3
  go_region_with (first | (go_at_call 94; refine (HL.out _).mono ?_; rintro e w' ⟨rfl, rfl⟩))
  all_goals
    go_wp2_with fail
    go_ret
    exact ⟨rfl, nq + 1, by rw [← hW2]; rfl⟩

/-- A block is none of those in which an iterator's lists lie. -/
structure Off (s : Sh) (b : Nat) : Prop where
  g : 0 < s.n → b ≠ s.G
  c : ∀ i, i < s.n → b ≠ s.C i
  a : ∀ i, i < s.n → 0 < (s.l i).length → ∀ a, s.A i = some a → b ≠ a.block
theorem Cs.moved {w w1 : World} {s : Sh} {at_ : Nat → Nat} (h : Cs w s at_) (hb : ∀ b, b < w.heap.size → ((0 < s.n ∧ b = s.G) ∨ (∃ i, i < s.n ∧ b = s.C i) ∨ (∃ i, i < s.n ∧ 0 < (s.l i).length ∧ ∃ a, s.A i = some a ∧ b = a.block)) → w1.heap[b]? = w.heap[b]?) : Cs w1 s at_ := by
  refine ⟨fun i hi => ⟨(h.gl i hi).1, ?_⟩, fun i hi => ?_, fun i hi j hj => ?_⟩
  · have := (h.gl i hi).2
    have hl := World.block_lt_of_cell? _ _ this
    simp only [World.cell?] at this ⊢
    rw [hb s.G hl (.inl ⟨by omega, rfl⟩)]
    exact this
  · rw [hb _ (Array.getElem?_eq_some_iff.1 (h.cur i hi)).1 (.inr (.inl ⟨i, hi, rfl⟩))]
    exact h.cur i hi
  · obtain ⟨ad, e, h1⟩ := h.ents i hi j hj
    have hl := World.block_lt_of_cell? _ _ h1.1
    have hl : ad.block < w.heap.size := by unfold Addr.add at hl; split at hl <;> exact hl
    have := hb _ hl (.inr (.inr ⟨i, hi, by omega, ad, e, rfl⟩))
    exact ⟨ad, e, h1.moved (by unfold Addr.add; split <;> exact this)⟩
theorem Cs.tn {w w1 : World} {s : Sh} {at_ : Nat → Nat} {H : Nat} {c : Array Value} (h : Cs w s at_) (ho : Off s H) (ht : Tn H w w1 c) : Cs w1 s at_ :=
  h.moved fun b hl hb => ht.block b hl (by
    rcases hb with ⟨h0, rfl⟩ | ⟨i, hi, rfl⟩ | ⟨i, hi, h0, a, e, rfl⟩
    · exact fun e => ho.g h0 e.symm
    · exact fun e => ho.c i hi e.symm
    · exact fun e' => ho.a i hi h0 a e e'.symm)

/-- The heap's down, as a function of the row: the row behind it, and where it stopped. -/
def sift (ls : Nat → Nat → Bool) (n : Nat) : Nat → List Nat → Nat → List Nat × Nat
  | 0, d, i => (d, i)
  | f + 1, d, i =>
    if n ≤ 2 * i + 1 then (d, i)
    else
      let j := if 2 * i + 2 < n ∧ ls (d.getD (2 * i + 2) 0) (d.getD (2 * i + 1) 0) = true then 2 * i + 2 else 2 * i + 1
      if ls (d.getD j 0) (d.getD i 0) = true then sift ls n f (swapL d i j) j else (d, i)
theorem mem_swapL {d : List Nat} {i j x : Nat} (hi : i < d.length) (hj : j < d.length) (h : x ∈ swapL d i j) : x ∈ d := by
  unfold swapL at h
  rcases List.mem_or_eq_of_mem_set h with h | rfl
  · rcases List.mem_or_eq_of_mem_set h with h | rfl
    · exact h
    · exact mem_getD d j hj
  · exact mem_getD d i hi

theorem mem_take_getD (d : List Nat) (a q : Nat) (h : a < d.length) (hq : a < q) : d.getD a 0 ∈ d.take q := by
  have e : (d.take q).getD a 0 = d.getD a 0 := by simp [List.getElem?_take, hq]
  rw [← e]
  exact mem_getD _ _ (by rw [List.length_take]; omega)
theorem take_swapL (d : List Nat) (i j q : Nat) (hi : i < q) (hj : j < q) : (swapL d i j).take q = swapL (d.take q) i j := by
  unfold swapL
  have e1 : (d.take q).getD i 0 = d.getD i 0 := by simp [List.getElem?_take, hi]
  have e2 : (d.take q).getD j 0 = d.getD j 0 := by simp [List.getElem?_take, hj]
  rw [List.take_set, List.take_set, e1, e2]
/-- A heap's row lies in a block, its line in an iterator's. -/
structure Hq (X H m q cap : Nat) (gv hv : Value) (r : List Value) (s : Sh) (at_ : Nat → Nat) (w : World) (d : List Nat) : Prop where
  x : w.heap[X]? = some (.cells #[gv, .slice (some ⟨H, 0, none⟩) m cap, .slice s.ga s.n s.gc, hv] 110 (0, 0))
  ne : X ≠ H
  row : w.heap[H]? = some (.cells (CM.row d r) 3 (0, 0))
  len : m = d.length
  cs : Cs w s at_
  off : Off s H
  lt : ∀ x ∈ d, x < s.n
  at' : ∀ x ∈ d.take q, at_ x < (s.l x).length
section
variable {X H m q cap : Nat} {gv hv : Value} {r : List Value} {s : Sh} {at_ : Nat → Nat} {w w1 : World} {d d1 : List Nat}
theorem Hq.tn (h : Hq X H m q cap gv hv r s at_ w d) (ht : Tn H w w1 (CM.row d1 r)) (hl : d1.length = d.length) (hd : ∀ x ∈ d1, x ∈ d) (hq : ∀ x ∈ d1.take q, x ∈ d.take q) : Hq X H m q cap gv hv r s at_ w1 d1 :=
  ⟨(ht.block X (Array.getElem?_eq_some_iff.1 h.x).1 h.ne).trans h.x, h.ne, ht.row, h.len.trans hl.symm, h.cs.tn h.off ht, h.off, fun x hx => h.lt x (hd x hx), fun x hx => h.at' x (hq x hx)⟩
theorem Hq.below (h : Hq X H m q cap gv hv r s at_ w d) (hb : Below w.heap.size w w1) : Hq X H m q cap gv hv r s at_ w1 d := h.tn ((Tn.refl h.row).below hb) rfl (fun _ h => h) (fun _ h => h)
theorem Hq.drew (h : Hq X H m q cap gv hv r s at_ w d) : Hq X H m q cap gv hv r s at_ w.drew d := h.below (Below.refl _ _).drew
theorem Hq.c1 (h : Hq X H m q cap gv hv r s at_ w d) : w.cell? ⟨X, 1, none⟩ = some (.slice (some ⟨H, 0, none⟩) m cap) := by simp [World.cell?, h.x]
theorem Hq.c2 (h : Hq X H m q cap gv hv r s at_ w d) : w.cell? ⟨X, 2, none⟩ = some (.slice s.ga s.n s.gc) := by simp [World.cell?, h.x]
theorem Hq.mL (h : Hq X H m q cap gv hv r s at_ w d) : (method 278 139 (.pointer (some ⟨X, 1, none⟩)) "Less").run Try.prog w = .ok (130, .agg #[.slice (some ⟨H, 0, none⟩) m cap, .slice s.ga s.n s.gc]) w := m_less _ _ _ _ h.c1 h.c2
theorem Hq.mS (h : Hq X H m q cap gv hv r s at_ w d) : (method 278 139 (.pointer (some ⟨X, 1, none⟩)) "Swap").run Try.prog w = .ok (129, .slice (some ⟨H, 0, none⟩) m cap) w := m_swap _ _ _ h.c1
theorem Hq.mN (h : Hq X H m q cap gv hv r s at_ w d) : (method 278 139 (.pointer (some ⟨X, 1, none⟩)) "Len").run Try.prog w = .ok (94, .slice (some ⟨H, 0, none⟩) m cap) w := m_len _ _ _ h.c1
theorem Hq.less (h : Hq X H m q cap gv hv r s at_ w d) (a b : Nat) (c : Bool) (ha : a < m) (hb : b < m) (hqa : a < q) (hqb : b < q) (hc : s.less at_ (d.getD a 0) (d.getD b 0) = c) :
    Calls Try.prog 130 #[.agg #[.slice (some ⟨H, 0, none⟩) m cap, .slice s.ga s.n s.gc], .int .i64 a, .int .i64 b] w (fun e w' => e = .returned (.bool c) ∧ Below w.heap.size w w') := by
  rw [← hc]
  exact less_w H m cap a b d r s at_ w h.row (by rw [h.len]; exact Nat.le_refl _) ha hb h.cs h.lt (h.at' _ (mem_take_getD d a q (by rw [← h.len]; exact ha) hqa)) (h.at' _ (mem_take_getD d b q (by rw [← h.len]; exact hb) hqb))
theorem Hq.swap (h : Hq X H m q cap gv hv r s at_ w d) (a b : Nat) (ha : a < m) (hb : b < m) :
    Calls Try.prog 129 #[.slice (some ⟨H, 0, none⟩) m cap, .int .i64 a, .int .i64 b] w (fun e w' => e = .returned (.tuple #[]) ∧ Tn H w w' (CM.row (swapL d a b) r)) :=
  swap_w H m cap a b d r w h.row (by rw [h.len]; exact Nat.le_refl _) ha hb
end


end Go.Proofs.Ytehoojmalhloeaa.CM

/-! merge: the heap's down, as a function of its row. -/
namespace Go.Proofs.Ytehoojmalhloeaa.CM
open Go.RowKit Go.Proofs.YtehoojmalhloeaaW.PrintWords
set_option linter.unusedVariables false
set_option linter.unusedSimpArgs false
set_option maxRecDepth 100000

theorem sift_step (ls : Nat → Nat → Bool) (n f : Nat) (d : List Nat) (i j : Nat) (h0 : ¬ n ≤ 2 * i + 1) (hj : (if 2 * i + 2 < n ∧ ls (d.getD (2 * i + 2) 0) (d.getD (2 * i + 1) 0) = true then 2 * i + 2 else 2 * i + 1) = j) :
    sift ls n (f + 1) d i = if ls (d.getD j 0) (d.getD i 0) = true then sift ls n f (swapL d i j) j else (d, i) := by
  subst hj
  simp only [sift, if_neg h0]

set_option maxHeartbeats 8000000 in
/-- container/heap.down. -/
theorem down_w (X H m cap n i0 : Nat) (gv hv : Value) (d : List Nat) (r : List Value) (s : Sh) (at_ : Nat → Nat) (w : World) (hq : Hq X H m n cap gv hv r s at_ w d)
    (hn : n ≤ m) (hm : m < 1152921504606846976) (hi : i0 < n ∨ (n = 0 ∧ i0 = 0)) :
    Calls Try.prog 103 #[.iface 139 (.pointer (some ⟨X, 1, none⟩)), .int .i64 i0, .int .i64 n] w
      (fun e w' => e = .returned (.bool (decide (i0 < (sift (s.less at_) n n d i0).2))) ∧ Tn H w w' (row (sift (s.less at_) n n d i0).1 r)) := by
  have HR := Lib.hid hq
  clear hq
  go_enter Try.func103, Try.ntmps103
  go_wp2_with fail
  go_loopw [7] (fun t wr => ∃ (i f : Nat) (d1 : List Nat), t = .int .i64 (i : Int) ∧ (i < n ∨ (n = 0 ∧ i = 0)) ∧ n ≤ i + f ∧ d1.length = d.length ∧ (∀ x ∈ d1, x ∈ d) ∧ (∀ x ∈ d1.take n, x ∈ d.take n) ∧ i0 ≤ i ∧ Hid (sift (s.less at_) n n d i0 = sift (s.less at_) n f d1 i) ∧ Tn H w wr (row d1 r)) (fun t _ => n - (intOf t).toNat)
  case atStart => exact ⟨i0, n, d, rfl, hi, by omega, rfl, fun _ h => h, fun _ h => h, Nat.le_refl _, Lib.hid rfl, Tn.refl HR.out.row⟩
  case round =>
    obtain ⟨i, f, d1, rfl, hin, hf, hl1, hm1, hm2, hii, HE, ht⟩ := hrel
    have HQ := Lib.hid (HR.out.tn ht hl1 hm1 hm2)
    have HD := Lib.hid (And.intro HQ.out.len hl1)
    clear hl1
    have HT := Lib.hid ht
    have HM := Lib.hid (And.intro hm1 hm2)
    clear ht hm1 hm2
    have m1 : IntKind.i64.wrap (2 * (i : Int)) = 2 * (i : Int) := by rw [IntWalk.i64_in _ (by omega)]
    have m2 : IntKind.i64.wrap (2 * (i : Int) + 1) = 2 * (i : Int) + 1 := by rw [IntWalk.i64_in _ (by omega)]
    have m3 : IntKind.i64.wrap (2 * (i : Int) + 1 + 1) = 2 * (i : Int) + 1 + 1 := by rw [IntWalk.i64_in _ (by omega)]
    have q1 : (0 ≤ 2 * (i : Int) + 1) = True := eq_true (by omega)
    by_cases h0 : n ≤ 2 * i + 1
    · have h0z : (n : Int) ≤ 2 * (i : Int) + 1 := by omega
      go_wp2_with fail
      go_ret
      have hs : sift (s.less at_) n n d i0 = (d1, i) := by
        rw [HE.out]
        cases f with
        | zero => rfl
        | succ f => simp [sift, h0]
      rw [hs]
      exact ⟨by simp, HT.out⟩
    · have h0z : ¬ ((n : Int) ≤ 2 * (i : Int) + 1) := by omega
      obtain ⟨f, rfl⟩ : ∃ f', f = f' + 1 := ⟨f - 1, by omega⟩
      by_cases h1 : 2 * i + 2 < n
      · have h1z : 2 * (i : Int) + 1 + 1 < (n : Int) := by omega
        obtain ⟨c1, hc1⟩ : ∃ c, s.less at_ (d1.getD (2 * i + 2) 0) (d1.getD (2 * i + 1) 0) = c := ⟨_, rfl⟩
        have L1 := HQ.out.less (2 * i + 2) (2 * i + 1) c1 (by omega) (by omega) (by omega) (by omega) hc1
        rw [show ((2 * i + 2 : Nat) : Int) = 2 * (i : Int) + 1 + 1 by omega, show ((2 * i + 1 : Nat) : Int) = 2 * (i : Int) + 1 by omega] at L1
        have HL1 := Lib.hid L1
        have mL := HQ.out.mL
        have HC1 := Lib.hid hc1
        clear L1 hc1
        cases c1 with
        | true =>
          obtain ⟨c2, hc2⟩ : ∃ c, s.less at_ (d1.getD (2 * i + 2) 0) (d1.getD i 0) = c := ⟨_, rfl⟩
          have L2 := fun w1 (b1 : Below wr.heap.size wr w1) => (HQ.out.below b1).less (2 * i + 2) i c2 (by omega) (by omega) (by omega) (by omega) hc2
          have S2 := fun w1 w2 (b1 : Below wr.heap.size wr w1) (b2 : Below w1.heap.size w1 w2) => ((HQ.out.below b1).below b2).swap i (2 * i + 2) (by omega) (by omega)
          rw [show ((2 * i + 2 : Nat) : Int) = 2 * (i : Int) + 1 + 1 by omega] at L2 S2
          have HL2 := Lib.hid L2
          have HS2 := Lib.hid S2
          have HC2 := Lib.hid hc2
          clear L2 S2 hc2
          cases c2 with
          | false =>
            go_wp2_with (first | (go_at_call 130; refine (HL2.out _ B1.out).mono ?_; rintro e w2 ⟨rfl, b2⟩) | (go_at_call 130; refine HL1.out.mono ?_; rintro e w1 ⟨rfl, b1⟩; have mL2 := (HQ.out.below b1).mL; have B1 := Lib.hid b1; clear b1))
            go_ret
            have hs : sift (s.less at_) n n d i0 = (d1, i) := by
              rw [HE.out, sift_step _ _ _ _ _ _ h0 (if_pos ⟨h1, HC1.out⟩), HC2.out]; rfl
            rw [hs]
            exact ⟨by simp, (HT.out.below B1.out).below b2⟩
          | true =>
            go_wp2_with (first | (go_at_call 130; refine (HL2.out _ B1.out).mono ?_; rintro e w2 ⟨rfl, b2⟩; have mS := ((HQ.out.below B1.out).below b2).mS; have B2 := Lib.hid b2; clear b2) | (go_at_call 130; refine HL1.out.mono ?_; rintro e w1 ⟨rfl, b1⟩; have mL2 := (HQ.out.below b1).mL; have B1 := Lib.hid b1; clear b1) | (go_at_call 129; refine (HS2.out _ _ B1.out B2.out).mono ?_; rintro e w3 ⟨rfl, b3⟩))
            go_roundw
            case rel =>
              refine ⟨2 * i + 2, f, swapL d1 i (2 * i + 2), by go_num, by omega, by omega, by rw [swapL_length]; exact HD.out.2, fun x hx => HM.out.1 x (mem_swapL (by have := HD.out.1; omega) (by have := HD.out.1; omega) hx), fun x hx => HM.out.2 x (by rw [take_swapL _ _ _ _ (by omega) (by omega)] at hx; exact mem_swapL (by rw [List.length_take]; have := HD.out.1; omega) (by rw [List.length_take]; have := HD.out.1; omega) hx), by omega, ?_, ((HT.out.below B1.out).below B2.out).trans b3⟩
              refine Lib.hid ?_
              rw [HE.out, sift_step _ _ _ _ _ _ h0 (if_pos ⟨h1, HC1.out⟩), HC2.out]; rfl
            case measure => simp [intOf]; omega
        | false =>
          obtain ⟨c2, hc2⟩ : ∃ c, s.less at_ (d1.getD (2 * i + 1) 0) (d1.getD i 0) = c := ⟨_, rfl⟩
          have L2 := fun w1 (b1 : Below wr.heap.size wr w1) => (HQ.out.below b1).less (2 * i + 1) i c2 (by omega) (by omega) (by omega) (by omega) hc2
          have S2 := fun w1 w2 (b1 : Below wr.heap.size wr w1) (b2 : Below w1.heap.size w1 w2) => ((HQ.out.below b1).below b2).swap i (2 * i + 1) (by omega) (by omega)
          rw [show ((2 * i + 1 : Nat) : Int) = 2 * (i : Int) + 1 by omega] at L2 S2
          have HL2 := Lib.hid L2
          have HS2 := Lib.hid S2
          have HC2 := Lib.hid hc2
          clear L2 S2 hc2
          cases c2 with
          | false =>
            go_wp2_with (first | (go_at_call 130; refine (HL2.out _ B1.out).mono ?_; rintro e w2 ⟨rfl, b2⟩) | (go_at_call 130; refine HL1.out.mono ?_; rintro e w1 ⟨rfl, b1⟩; have mL2 := (HQ.out.below b1).mL; have B1 := Lib.hid b1; clear b1))
            go_ret
            have hs : sift (s.less at_) n n d i0 = (d1, i) := by
              rw [HE.out, sift_step _ _ _ _ _ _ h0 (if_neg (fun h => by rw [HC1.out] at h; exact absurd h.2 (by decide))), HC2.out]; rfl
            rw [hs]
            exact ⟨by simp, (HT.out.below B1.out).below b2⟩
          | true =>
            go_wp2_with (first | (go_at_call 130; refine (HL2.out _ B1.out).mono ?_; rintro e w2 ⟨rfl, b2⟩; have mS := ((HQ.out.below B1.out).below b2).mS; have B2 := Lib.hid b2; clear b2) | (go_at_call 130; refine HL1.out.mono ?_; rintro e w1 ⟨rfl, b1⟩; have mL2 := (HQ.out.below b1).mL; have B1 := Lib.hid b1; clear b1) | (go_at_call 129; refine (HS2.out _ _ B1.out B2.out).mono ?_; rintro e w3 ⟨rfl, b3⟩))
            go_roundw
            case rel =>
              refine ⟨2 * i + 1, f, swapL d1 i (2 * i + 1), by go_num, by omega, by omega, by rw [swapL_length]; exact HD.out.2, fun x hx => HM.out.1 x (mem_swapL (by have := HD.out.1; omega) (by have := HD.out.1; omega) hx), fun x hx => HM.out.2 x (by rw [take_swapL _ _ _ _ (by omega) (by omega)] at hx; exact mem_swapL (by rw [List.length_take]; have := HD.out.1; omega) (by rw [List.length_take]; have := HD.out.1; omega) hx), by omega, ?_, ((HT.out.below B1.out).below B2.out).trans b3⟩
              refine Lib.hid ?_
              rw [HE.out, sift_step _ _ _ _ _ _ h0 (if_neg (fun h => by rw [HC1.out] at h; exact absurd h.2 (by decide))), HC2.out]; rfl
            case measure => simp [intOf]; omega
      · have h1z : decide (2 * (i : Int) + 1 + 1 < (n : Int)) = false := decide_eq_false (by omega)
        have h1y : (n : Int) ≤ 2 * (i : Int) + 1 + 1 := by omega
        obtain ⟨c2, hc2⟩ : ∃ c, s.less at_ (d1.getD (2 * i + 1) 0) (d1.getD i 0) = c := ⟨_, rfl⟩
        have L2 := HQ.out.less (2 * i + 1) i c2 (by omega) (by omega) (by omega) (by omega) hc2
        have S2 := fun w2 (b2 : Below wr.heap.size wr w2) => (HQ.out.below b2).swap i (2 * i + 1) (by omega) (by omega)
        rw [show ((2 * i + 1 : Nat) : Int) = 2 * (i : Int) + 1 by omega] at L2 S2
        have HL2 := Lib.hid L2
        have HS2 := Lib.hid S2
        have HC2 := Lib.hid hc2
        clear L2 S2 hc2
        have mL2 := HQ.out.mL
        cases c2 with
        | false =>
          go_wp2_with (first | (go_at_call 130; refine HL2.out.mono ?_; rintro e w2 ⟨rfl, b2⟩))
          go_ret
          have hs : sift (s.less at_) n n d i0 = (d1, i) := by
            rw [HE.out, sift_step _ _ _ _ _ _ h0 (if_neg (fun h => h1 h.1)), HC2.out]; rfl
          rw [hs]
          exact ⟨by simp, HT.out.below b2⟩
        | true =>
          go_wp2_with (first | (go_at_call 130; refine HL2.out.mono ?_; rintro e w2 ⟨rfl, b2⟩; have mS := (HQ.out.below b2).mS; have B2 := Lib.hid b2; clear b2) | (go_at_call 129; refine (HS2.out _ B2.out).mono ?_; rintro e w3 ⟨rfl, b3⟩))
          go_roundw
          case rel =>
            refine ⟨2 * i + 1, f, swapL d1 i (2 * i + 1), by go_num, by omega, by omega, by rw [swapL_length]; exact HD.out.2, fun x hx => HM.out.1 x (mem_swapL (by have := HD.out.1; omega) (by have := HD.out.1; omega) hx), fun x hx => HM.out.2 x (by rw [take_swapL _ _ _ _ (by omega) (by omega)] at hx; exact mem_swapL (by rw [List.length_take]; have := HD.out.1; omega) (by rw [List.length_take]; have := HD.out.1; omega) hx), by omega, ?_, (HT.out.below B2.out).trans b3⟩
            refine Lib.hid ?_
            rw [HE.out, sift_step _ _ _ _ _ _ h0 (if_neg (fun h => h1 h.1)), HC2.out]; rfl
          case measure => simp [intOf]; omega

end Go.Proofs.Ytehoojmalhloeaa.CM

/-! merge: the heap's up, Fix, Init, Pop. -/
namespace Go.Proofs.Ytehoojmalhloeaa.CM
open Go.RowKit Go.Proofs.YtehoojmalhloeaaW.PrintWords
set_option linter.unusedVariables false
set_option linter.unusedSimpArgs false
set_option maxRecDepth 100000

/-- container/heap.up, of the first. -/
theorem up0_w (v : Value) (w : World) : Calls Try.prog 104 #[v, .int .i64 0] w (fun e w' => e = .returned (.tuple #[]) ∧ w' = w) := by
  go_enter Try.func104, Try.ntmps104
  go_wp2
  go_loopw [1, 4] (fun t _ wr => t = .int .i64 0 ∧ wr = w) (fun _ _ _ => 0)
  case atStart => exact ⟨rfl, rfl⟩
  case round =>
    obtain ⟨rfl, rfl⟩ := hrel
    go_wp2_with fail
    go_end0
    exact ⟨rfl, rfl⟩

/-- container/heap.Fix, of the first. -/
theorem fix_w (X H m cap : Nat) (gv hv : Value) (d : List Nat) (r : List Value) (s : Sh) (at_ : Nat → Nat) (w : World) (hq : Hq X H m m cap gv hv r s at_ w d) (hm : m < 1152921504606846976) (h0 : 0 < m) :
    Calls Try.prog 95 #[.iface 139 (.pointer (some ⟨X, 1, none⟩)), .int .i64 0] w (fun e w' => e = .returned (.tuple #[]) ∧ Tn H w w' (row (sift (s.less at_) m m d 0).1 r)) := by
  have mN := hq.mN
  have DW := down_w X H m cap m 0 gv hv d r s at_ w hq (Nat.le_refl _) hm (.inl h0)
  have HD := Lib.hid DW
  clear hq DW
  obtain ⟨c, hc⟩ : ∃ c, decide (0 < (sift (s.less at_) m m d 0).2) = c := ⟨_, rfl⟩
  rw [hc] at HD
  clear hc
  go_enter Try.func95, Try.ntmps95
  cases c with
  | true =>
    go_wp2_with (first | (go_at_call 94; refine (len_w _ _ _ _).mono ?_; rintro e w1 ⟨rfl, rfl⟩) | (go_at_call 103; refine HD.out.mono ?_; rintro e w1 ⟨rfl, b1⟩))
    go_end0
    exact ⟨rfl, b1⟩
  | false =>
    go_wp2_with (first | (go_at_call 94; refine (len_w _ _ _ _).mono ?_; rintro e w1 ⟨rfl, rfl⟩) | (go_at_call 103; refine HD.out.mono ?_; rintro e w1 ⟨rfl, b1⟩) | (go_at_call 104; refine (up0_w _ _).mono ?_; rintro e w2 ⟨rfl, rfl⟩))
    go_end0
    exact ⟨rfl, b1⟩

/-- All is as it was, but some blocks. -/
structure Fr (O : Nat → Prop) (w w1 : World) : Prop where
  os : w1.os = w.os
  tape : w1.tape = w.tape
  output : w1.output = w.output
  size : w.heap.size ≤ w1.heap.size
  block : ∀ b, b < w.heap.size → ¬ O b → w1.heap[b]? = w.heap[b]?
theorem Fr.refl (O : Nat → Prop) (w : World) : Fr O w w := ⟨rfl, rfl, rfl, Nat.le_refl _, fun _ _ _ => rfl⟩
theorem Fr.trans {O O' : Nat → Prop} {w w1 w2 : World} (h : Fr O w w1) (k : Fr O' w1 w2) (ho : ∀ b, b < w.heap.size → O' b → O b) : Fr O w w2 :=
  ⟨k.os.trans h.os, k.tape.trans h.tape, k.output.trans h.output, Nat.le_trans h.size k.size, fun b hb hn => (k.block b (by have := h.size; omega) (fun h1 => hn (ho b hb h1))).trans (h.block b hb hn)⟩
theorem Fr.mono {O O' : Nat → Prop} {w w1 : World} (h : Fr O w w1) (ho : ∀ b, b < w.heap.size → O b → O' b) : Fr O' w w1 :=
  ⟨h.os, h.tape, h.output, h.size, fun b hb hn => h.block b hb (fun h1 => hn (ho b hb h1))⟩
theorem Fr.drewN {O : Nat → Prop} {w w1 : World} (h : Fr O w w1) (n : Nat) : Fr O w (w1.drewN n) := ⟨h.os, h.tape, h.output, h.size, h.block⟩
theorem Fr.drew {O : Nat → Prop} {w w1 : World} (h : Fr O w w1) : Fr O w w1.drew := ⟨h.os, h.tape, h.output, h.size, h.block⟩
theorem Fr.set {O : Nat → Prop} {w w1 : World} (h : Fr O w w1) (a : Addr) (v : Value) (ha : O a.block) : Fr O w (w1.setCell a v) := by
  refine ⟨h.os, h.tape, h.output, by simpa [World.setCell] using h.size, fun b hb hn => ?_⟩
  rw [heap_setCell_other _ _ _ _ (fun e => hn (by rw [e]; exact ha))]
  exact h.block b hb hn
theorem Fr.of_below {O : Nat → Prop} {w w1 : World} (h : Below w.heap.size w w1) : Fr O w w1 := ⟨h.os, h.tape, h.output, h.size, fun b hb _ => h.block b hb⟩
theorem Fr.below {O : Nat → Prop} {w w1 w2 : World} (h : Fr O w w1) (k : Below w1.heap.size w1 w2) : Fr O w w2 := h.trans (Fr.of_below (O := O) k) (fun _ _ h => h)
theorem Fr.of_tn {H : Nat} {w w1 : World} {c : Array Value} (h : Tn H w w1 c) : Fr (fun b => b = H) w w1 := ⟨h.os, h.tape, h.output, h.size, h.block⟩
theorem Fr.to_below {O : Nat → Prop} {B : Nat} {w w1 : World} (h : Fr O w w1) (hB : B ≤ w.heap.size) (hO : ∀ b, O b → B ≤ b) : Below B w w1 :=
  ⟨h.os, h.tape, h.output, h.size, fun b hb => h.block b (by omega) (fun h1 => by have := hO b h1; omega)⟩
theorem Cs.fr {w w1 : World} {s : Sh} {at_ : Nat → Nat} {O : Nat → Prop} (h : Cs w s at_) (hf : Fr O w w1) (ho : ∀ b, O b → Off s b) : Cs w1 s at_ :=
  h.moved fun b hl hb => hf.block b hl (fun hO => by
    have hof := ho b hO
    rcases hb with ⟨h0, rfl⟩ | ⟨i, hi, rfl⟩ | ⟨i, hi, h0, a, e, rfl⟩
    · exact hof.g h0 rfl
    · exact hof.c i hi rfl
    · exact hof.a i hi h0 a e rfl)

theorem row_cut (d : List Nat) (r : List Value) (n : Nat) : row d r = row (d.take n) ((d.drop n).map (fun x : Nat => Value.int .i64 (x : Int)) ++ r) := by
  unfold row
  rw [← List.append_assoc, ← List.map_append, List.take_append_drop]
/-- The iterator's own block, its line set anew. -/
theorem Hq.cut {X H m cap : Nat} {gv hv : Value} {r : List Value} {s : Sh} {at_ : Nat → Nat} {w : World} {d : List Nat} {n : Nat} (h : Hq X H m n cap gv hv r s at_ w d) (hn : n ≤ m) (hX : Off s X) :
    Hq X H n n cap gv hv ((d.drop n).map (fun x : Nat => Value.int .i64 (x : Int)) ++ r) s at_ (w.setCell ⟨X, 1, none⟩ (.slice (some ⟨H, 0, none⟩) n cap)) (d.take n) := by
  refine ⟨?_, h.ne, ?_, ?_, ?_, h.off, fun x hx => h.lt x (List.mem_of_mem_take hx), fun x hx => h.at' x (by rw [List.take_take, Nat.min_self] at hx; exact hx)⟩
  · rw [heap_setCell_same w X 1 _ 110 _ h.x]
    rfl
  · rw [heap_setCell_other _ _ _ _ (fun e => h.ne e.symm), h.row, ← row_cut]
  · rw [List.length_take, ← h.len]; omega
  · exact h.cs.fr (O := fun b => b = X) ((Fr.refl _ w).set _ _ rfl) (fun b e => e ▸ hX)

theorem sift_stop (ls : Nat → Nat → Bool) (n f : Nat) (d : List Nat) (i : Nat) (h : n ≤ 2 * i + 1) : sift ls n (f + 1) d i = (d, i) := by simp [sift, h]
/-- Which child is less. -/
def kid (ls : Nat → Nat → Bool) (n : Nat) (d : List Nat) (i : Nat) : Nat := if 2 * i + 2 < n ∧ ls (d.getD (2 * i + 2) 0) (d.getD (2 * i + 1) 0) = true then 2 * i + 2 else 2 * i + 1
theorem sift_go (ls : Nat → Nat → Bool) (n f : Nat) (d : List Nat) (i : Nat) (h0 : ¬ n ≤ 2 * i + 1) :
    sift ls n (f + 1) d i = if ls (d.getD (kid ls n d i) 0) (d.getD i 0) = true then sift ls n f (swapL d i (kid ls n d i)) (kid ls n d i) else (d, i) := sift_step ls n f d i _ h0 rfl
theorem kid_lt {ls : Nat → Nat → Bool} {n : Nat} {d : List Nat} {i : Nat} (h0 : ¬ n ≤ 2 * i + 1) : kid ls n d i < n := by
  unfold kid
  split
  · rename_i h; exact h.1
  · omega
theorem sift_length (ls : Nat → Nat → Bool) (n : Nat) : ∀ (f : Nat) (d : List Nat) (i : Nat), (sift ls n f d i).1.length = d.length
  | 0, _, _ => rfl
  | f + 1, d, i => by
    by_cases h0 : n ≤ 2 * i + 1
    · rw [sift_stop _ _ _ _ _ h0]
    · rw [sift_go _ _ _ _ _ h0]
      split
      · rw [sift_length ls n f, swapL_length]
      · rfl
theorem sift_mem (ls : Nat → Nat → Bool) (n : Nat) : ∀ (f : Nat) (d : List Nat) (i x : Nat), n ≤ d.length → (i < n ∨ n = 0) → x ∈ (sift ls n f d i).1 → x ∈ d
  | 0, _, _, _, _, _, h => h
  | f + 1, d, i, x, hn, hi, h => by
    by_cases h0 : n ≤ 2 * i + 1
    · rw [sift_stop _ _ _ _ _ h0] at h; exact h
    · rw [sift_go _ _ _ _ _ h0] at h
      have hk := kid_lt (ls := ls) (d := d) h0
      split at h
      · exact mem_swapL (by omega) (by omega) (sift_mem ls n f _ _ x (by rw [swapL_length]; exact hn) (.inl hk) h)
      · exact h

theorem sift_memT (ls : Nat → Nat → Bool) (n : Nat) : ∀ (f : Nat) (d : List Nat) (i x : Nat), n ≤ d.length → (i < n ∨ n = 0) → x ∈ (sift ls n f d i).1.take n → x ∈ d.take n
  | 0, _, _, _, _, _, h => h
  | f + 1, d, i, x, hn, hi, h => by
    by_cases h0 : n ≤ 2 * i + 1
    · rw [sift_stop _ _ _ _ _ h0] at h; exact h
    · rw [sift_go _ _ _ _ _ h0] at h
      have hk := kid_lt (ls := ls) (d := d) h0
      split at h
      · have := sift_memT ls n f _ _ x (by rw [swapL_length]; exact hn) (.inl hk) h
        rw [take_swapL _ _ _ _ (by omega) (by omega)] at this
        exact mem_swapL (by rw [List.length_take]; omega) (by rw [List.length_take]; omega) this
      · exact h

set_option maxHeartbeats 4000000 in
/-- container/heap.Pop. -/
theorem hpop_w (X H n cap : Nat) (gv hv : Value) (d : List Nat) (r : List Value) (s : Sh) (at_ : Nat → Nat) (w : World) (hq : Hq X H (n + 1) 0 cap gv hv r s at_ w d) (hA : ∀ x ∈ (swapL d 0 n).take n, at_ x < (s.l x).length) (hX : Off s X) (hm : n + 1 < 1152921504606846976) (hc : n + 1 ≤ cap) (hcm : cap ≤ maxLen) :
    Calls Try.prog 96 #[.iface 139 (.pointer (some ⟨X, 1, none⟩))] w (fun e w' => (∃ v, e = .returned v) ∧ Fr (fun b => b = X ∨ b = H) w w' ∧ ∃ r', Hq X H n n cap gv hv r' s at_ w' ((sift (s.less at_) n n (swapL d 0 n) 0).1.take n)) := by
  have mN := hq.mN
  have mS := hq.mS
  have hl := hq.len
  have hsl : (swapL d 0 n).length = d.length := swapL_length d 0 n
  have SW := hq.swap 0 n (by omega) (by omega)
  have q0 : ∀ w1, Tn H w w1 (row (swapL d 0 n) r) → Hq X H (n + 1) 0 cap gv hv r s at_ w1 (swapL d 0 n) := fun w1 t => hq.tn t hsl (fun x hx => mem_swapL (by omega) (by omega) hx) (fun x hx => by simp at hx)
  have q1 : ∀ w1, Tn H w w1 (row (swapL d 0 n) r) → Hq X H (n + 1) n cap gv hv r s at_ w1 (swapL d 0 n) := fun w1 t => have z := q0 w1 t; ⟨z.x, z.ne, z.row, z.len, z.cs, z.off, z.lt, hA⟩
  have DW := fun w1 (t : Tn H w w1 (row (swapL d 0 n) r)) => down_w X H (n + 1) cap n 0 gv hv (swapL d 0 n) r s at_ w1 (q1 w1 t) (by omega) hm (by omega)
  have q2 : ∀ w1 w2, Tn H w w1 (row (swapL d 0 n) r) → Tn H w1 w2 (row (sift (s.less at_) n n (swapL d 0 n) 0).1 r) → Hq X H (n + 1) n cap gv hv r s at_ w2 (sift (s.less at_) n n (swapL d 0 n) 0).1 := fun w1 w2 t1 t2 =>
    (q1 w1 t1).tn t2 (sift_length _ _ _ _ _) (fun x hx => sift_mem _ _ _ _ _ x (by omega) (by omega) hx) (fun x hx => sift_memT _ _ _ _ _ x (by omega) (by omega) hx)
  have mP := m_pop ⟨X, 1, none⟩
  have PW := fun w1 w2 t1 t2 => pop_w X H n cap gv (.slice s.ga s.n s.gc) hv _ r w2 (q2 w1 w2 t1 t2).x (q2 w1 w2 t1 t2).row (by rw [sift_length]; omega) hc hcm
  have hw : IntKind.i64.wrap (n : Int) = (n : Int) := by rw [IntWalk.i64_in _ (by omega)]
  have HS := Lib.hid SW
  have HDW := Lib.hid DW
  have HPW := Lib.hid PW
  have HQ2 := Lib.hid q2
  clear hq SW q0 q1 hA DW PW q2 hl hsl
  go_enter Try.func96, Try.ntmps96
  go_wp2_with (first | (go_at_call 94; refine (len_w _ _ _ _).mono ?_; rintro e w1 ⟨rfl, rfl⟩) | (go_at_call 129; refine HS.out.mono ?_; rintro e w1 ⟨rfl, b1⟩; have B1 := Lib.hid b1; clear b1) | (go_at_call 103; refine (HDW.out _ B1.out).mono ?_; rintro e w2 ⟨rfl, b2⟩; have B2 := Lib.hid b2; clear b2))
  refine (HPW.out _ _ B1.out B2.out).mono ?_
  rintro e w3 ⟨rfl, k, rfl⟩
  go_wp2_with fail
  go_ret
  have Q := HQ2.out _ _ B1.out B2.out
  refine ⟨⟨_, rfl⟩, ?_, _, ((Q.cut (by omega) hX).below ⟨rfl, rfl, rfl, Nat.le_refl _, fun _ _ => rfl⟩)⟩
  exact ((((Fr.of_tn (B1.out.trans B2.out)).mono (O' := fun b => b = X ∨ b = H) (fun b _ h => .inr h)).set _ _ (.inl rfl)).drewN _)

end Go.Proofs.Ytehoojmalhloeaa.CM

/-! merge: the heap's Init. -/
namespace Go.Proofs.Ytehoojmalhloeaa.CM
open Go.RowKit Go.Proofs.YtehoojmalhloeaaW.PrintWords
set_option linter.unusedVariables false
set_option linter.unusedSimpArgs false
set_option maxRecDepth 100000

/-- container/heap.Init, of none. -/
theorem init0_w (X : Nat) (w : World) (h : w.cell? ⟨X, 1, none⟩ = some (.slice none 0 0)) : Calls Try.prog 97 #[.iface 139 (.pointer (some ⟨X, 1, none⟩))] w (fun e w' => e = .returned (.tuple #[]) ∧ w' = w) := by
  have mN := m_len ⟨X, 1, none⟩ w _ h
  go_enter Try.func97, Try.ntmps97
  go_wp2_with (first | (go_at_call 94; refine (len_w _ _ _ _).mono ?_; rintro e w ⟨rfl, rfl⟩))
  go_loopw [3] (fun t wr => t = .int .i64 (-1) ∧ wr = w) (fun _ _ => 0)
  case atStart => exact ⟨rfl, rfl⟩
  case round =>
    obtain ⟨rfl, rfl⟩ := hrel
    go_wp2_with fail
    go_end0
    exact ⟨rfl, rfl⟩

/-- Init, as a function of the row. -/
def heapify (ls : Nat → Nat → Bool) (n : Nat) : Nat → List Nat → List Nat
  | 0, d => d
  | k + 1, d => heapify ls n k (sift ls n n d k).1

set_option maxHeartbeats 4000000 in
/-- container/heap.Init. -/
theorem init_w (X H m cap : Nat) (gv hv : Value) (d : List Nat) (r : List Value) (s : Sh) (at_ : Nat → Nat) (w : World) (hq : Hq X H m m cap gv hv r s at_ w d) (hm : m < 1152921504606846976) :
    Calls Try.prog 97 #[.iface 139 (.pointer (some ⟨X, 1, none⟩))] w (fun e w' => e = .returned (.tuple #[]) ∧ Tn H w w' (row (heapify (s.less at_) m (m / 2) d) r)) := by
  have mN := hq.mN
  have HR := Lib.hid hq
  clear hq
  have w1 : IntKind.i64.wrap (Int.tdiv (m : Int) 2) = ((m / 2 : Nat) : Int) := by
    have e : Int.tdiv (m : Int) 2 = ((m / 2 : Nat) : Int) := by rw [Int.tdiv_eq_ediv_of_nonneg (by omega)]; omega
    rw [e, IntWalk.i64_in _ (by omega)]
  have w2 : IntKind.i64.wrap (((m / 2 : Nat) : Int) - 1) = ((m / 2 : Nat) : Int) - 1 := by rw [IntWalk.i64_in _ (by omega)]
  go_enter Try.func97, Try.ntmps97
  go_wp2_with (first | (go_at_call 94; refine (len_w _ _ _ _).mono ?_; rintro e w ⟨rfl, rfl⟩))
  go_loopw [3] (fun t wr => ∃ (k : Nat) (d1 : List Nat), t = .int .i64 ((k : Int) - 1) ∧ k ≤ m / 2 ∧ d1.length = d.length ∧ (∀ x ∈ d1, x ∈ d) ∧ Hid (heapify (s.less at_) m (m / 2) d = heapify (s.less at_) m k d1) ∧ Tn H w wr (row d1 r)) (fun t _ => ((intOf t) + 1).toNat)
  case atStart => exact ⟨m / 2, d, by simp, Nat.le_refl _, rfl, fun _ h => h, Lib.hid rfl, Tn.refl HR.out.row⟩
  case round =>
    obtain ⟨k, d1, rfl, hk, hl1, hm1, HE, ht⟩ := hrel
    have HQ := Lib.hid (HR.out.tn ht hl1 hm1 (fun x hx => by rw [List.take_of_length_le (by rw [HR.out.len]; exact Nat.le_refl _)]; exact hm1 x (List.mem_of_mem_take hx)))
    have HT := Lib.hid ht
    have HM := Lib.hid (And.intro hl1 (And.intro hm1 HR.out.len))
    clear ht hm1 hl1
    cases k with
    | zero =>
      go_wp2_with fail
      go_end0
      exact ⟨rfl, by rw [HE.out]; exact HT.out⟩
    | succ k =>
      have q1 : (((k + 1 : Nat) : Int) - 1) = (k : Int) := by omega
      have q2 : (0 ≤ (k : Int)) = True := eq_true (by omega)
      have q3 : IntKind.i64.wrap ((k : Int) - 1) = (k : Int) - 1 := by rw [IntWalk.i64_in _ (by omega)]
      rw [q1]
      have DW := down_w X H m cap m k gv hv d1 r s at_ wr HQ.out (Nat.le_refl _) hm (.inl (by omega))
      have HD := Lib.hid DW
      clear DW
      go_wp2_with (first | (go_at_call 103; refine HD.out.mono ?_; rintro e w2 ⟨rfl, b2⟩))
      go_roundw
      case rel =>
        exact ⟨k, (sift (s.less at_) m m d1 k).1, by go_num, by omega, by rw [sift_length]; exact HM.out.1, fun x hx => HM.out.2.1 x (sift_mem _ _ _ _ _ x (by have := HM.out; omega) (.inl (by omega)) hx), Lib.hid HE.out, HT.out.trans b2⟩
      case measure => simp [intOf]

end Go.Proofs.Ytehoojmalhloeaa.CM

/-! merge: what a heap's row is: plain law. -/
namespace Go.Proofs.Ytehoojmalhloeaa.CM
open Go.RowKit
set_option linter.unusedVariables false
set_option linter.unusedSimpArgs false

/-- A strict order of numbers. -/
structure Ord (ls : Nat → Nat → Bool) : Prop where
  irr : ∀ a, ls a a = false
  tr : ∀ a b c, ls a b = true → ls b c = true → ls a c = true
  tot : ∀ a b, a ≠ b → ls a b = true ∨ ls b a = true
theorem Ord.asymm {ls : Nat → Nat → Bool} (o : Ord ls) {a b : Nat} (h : ls a b = true) : ls b a = false := by
  rw [← Bool.not_eq_true]
  intro h1
  have := o.tr _ _ _ h h1
  rw [o.irr] at this
  exact absurd this (by decide)
theorem Ord.ntr {ls : Nat → Nat → Bool} (o : Ord ls) {a b c : Nat} (h1 : ls b a = false) (h2 : ls c b = false) : ls c a = false := by
  rw [← Bool.not_eq_true] at h1 h2 ⊢
  intro h
  by_cases e : a = b
  · subst e; exact h2 h
  · rcases o.tot a b e with h3 | h3
    · exact h2 (o.tr _ _ _ h h3)
    · exact h1 h3

def Up (ls : Nat → Nat → Bool) (n : Nat) (d : List Nat) (k : Nat) : Prop := ∀ c, c < n → 1 ≤ c → k ≤ (c - 1) / 2 → ls (d.getD c 0) (d.getD ((c - 1) / 2) 0) = false

theorem swapL_get (d : List Nat) (i j c : Nat) (hi : i < d.length) (hj : j < d.length) : (swapL d i j).getD c 0 = if c = j then d.getD i 0 else if c = i then d.getD j 0 else d.getD c 0 := by
  unfold swapL
  simp only [List.getD_eq_getElem?_getD, List.getElem?_set, List.length_set]
  by_cases h1 : c = j
  · subst h1
    simp [hj]
  · have : ¬ j = c := fun h => h1 h.symm
    simp only [this, if_false, h1]
    by_cases h2 : c = i
    · subst h2
      simp [hi]
    · have : ¬ i = c := fun h => h2 h.symm
      simp [this, h2]

theorem kid_cases (ls : Nat → Nat → Bool) (n : Nat) (d : List Nat) (i : Nat) (h0 : ¬ n ≤ 2 * i + 1) :
    (kid ls n d i = 2 * i + 2 ∧ 2 * i + 2 < n ∧ ls (d.getD (2 * i + 2) 0) (d.getD (2 * i + 1) 0) = true) ∨ (kid ls n d i = 2 * i + 1 ∧ (2 * i + 2 < n → ls (d.getD (2 * i + 2) 0) (d.getD (2 * i + 1) 0) = false)) := by
  unfold kid
  split
  · rename_i h; exact .inl ⟨rfl, h.1, h.2⟩
  · rename_i h
    refine .inr ⟨rfl, fun h1 => ?_⟩
    rw [← Bool.not_eq_true]
    exact fun h2 => h ⟨h1, h2⟩

theorem sift_up {ls : Nat → Nat → Bool} (o : Ord ls) (n i0 : Nat) : ∀ (f : Nat) (d : List Nat) (i : Nat), n ≤ d.length → n ≤ i + f → i0 ≤ i →
    (∀ c, c < n → 1 ≤ c → i0 ≤ (c - 1) / 2 → (c - 1) / 2 ≠ i → ls (d.getD c 0) (d.getD ((c - 1) / 2) 0) = false) →
    (i ≠ i0 → 1 ≤ i ∧ i0 ≤ (i - 1) / 2 ∧ ∀ c, c < n → 1 ≤ c → (c - 1) / 2 = i → ls (d.getD c 0) (d.getD ((i - 1) / 2) 0) = false) →
    i < n → Up ls n (sift ls n f d i).1 i0
  | 0, d, i, hl, hf, _, _, _, hi => by omega
  | f + 1, d, i, hl, hf, hii, ha, hb, hi => by
    by_cases h0 : n ≤ 2 * i + 1
    · rw [sift_stop _ _ _ _ _ h0]
      exact fun c hc h1 hk => ha c hc h1 hk (by omega)
    · rw [sift_go _ _ _ _ _ h0]
      have hk := kid_cases ls n d i h0
      obtain ⟨j, hj⟩ : ∃ j, kid ls n d i = j := ⟨_, rfl⟩
      rw [hj] at hk ⊢
      have hjn : j < n := by rcases hk with h | h <;> omega
      have hpj : (j - 1) / 2 = i := by rcases hk with h | h <;> omega
      have hj1 : 1 ≤ j := by omega
      have hij : i < j := by omega
      by_cases hs : ls (d.getD j 0) (d.getD i 0) = true
      · rw [if_pos hs]
        have hg := fun c => swapL_get d i j c (by omega) (by omega)
        refine sift_up o n i0 f (swapL d i j) j (by rw [swapL_length]; exact hl) (by omega) (by omega) ?_ ?_ hjn
        · intro c hc h1 hkc hpc
          rw [hg, hg]
          by_cases cj : c = j
          · subst cj
            rw [if_pos rfl, hpj, if_neg (by omega), if_pos rfl]
            exact o.asymm hs
          · rw [if_neg cj, if_neg hpc]
            by_cases ci : c = i
            · subst ci
              rw [if_pos rfl, if_neg (by omega)]
              exact (hb (by omega)).2.2 j hjn hj1 hpj
            · rw [if_neg ci]
              by_cases pi : (c - 1) / 2 = i
              · rw [if_pos pi]
                rcases hk with ⟨e, h2, h3⟩ | ⟨e, h3⟩
                · have : c = 2 * i + 1 := by omega
                  subst this
                  rw [e]
                  exact o.asymm h3
                · have : c = 2 * i + 2 := by omega
                  subst this
                  rw [e]
                  exact h3 hc
              · rw [if_neg pi]
                exact ha c hc h1 hkc pi
        · intro _
          refine ⟨hj1, by omega, fun c hc h1 hpc => ?_⟩
          rw [hg, hg, if_neg (by omega), if_neg (by omega), hpj, if_neg (by omega), if_pos rfl]
          have := ha c hc h1 (by omega) (by omega)
          rw [hpc] at this
          exact this
      · rw [if_neg hs]
        have hs : ls (d.getD j 0) (d.getD i 0) = false := by rwa [Bool.not_eq_true] at hs
        intro c hc h1 hkc
        show ls (d.getD c 0) (d.getD ((c - 1) / 2) 0) = false
        by_cases pi : (c - 1) / 2 = i
        · rw [pi]
          by_cases cj : c = j
          · rw [cj]; exact hs
          · rcases hk with ⟨e, h2, h3⟩ | ⟨e, h3⟩
            · have : c = 2 * i + 1 := by omega
              subst this
              rw [e] at hs
              rw [← Bool.not_eq_true] at hs ⊢
              exact fun h => hs (o.tr _ _ _ h3 h)
            · have : c = 2 * i + 2 := by omega
              subst this
              rw [e] at hs
              exact o.ntr hs (h3 hc)
        · exact ha c hc h1 hkc pi

theorem swapL_perm (d : List Nat) (i j : Nat) (hi : i < d.length) (hj : j < d.length) : (swapL d i j).Perm d := by
  have h := Array.swap_perm (xs := d.toArray) (i := i) (j := j) (by simpa using hi) (by simpa using hj)
  have e : (d.toArray.swap i j (by simpa using hi) (by simpa using hj)).toList = swapL d i j := by
    simp [Array.swap, swapL, hi, hj]
  have := h.toList
  rw [e] at this
  exact this
theorem sift_perm (ls : Nat → Nat → Bool) (n : Nat) : ∀ (f : Nat) (d : List Nat) (i : Nat), n ≤ d.length → (i < n ∨ n = 0) → (sift ls n f d i).1.Perm d
  | 0, _, _, _, _ => List.Perm.refl _
  | f + 1, d, i, hn, hi => by
    by_cases h0 : n ≤ 2 * i + 1
    · rw [sift_stop _ _ _ _ _ h0]
    · rw [sift_go _ _ _ _ _ h0]
      have hk := kid_lt (ls := ls) (d := d) h0
      split
      · exact (sift_perm ls n f _ _ (by rw [swapL_length]; exact hn) (.inl hk)).trans (swapL_perm d _ _ (by omega) (by omega))
      · exact List.Perm.refl _
theorem sift_tail (ls : Nat → Nat → Bool) (n : Nat) : ∀ (f : Nat) (d : List Nat) (i c : Nat), n ≤ d.length → (i < n ∨ n = 0) → n ≤ c → (sift ls n f d i).1.getD c 0 = d.getD c 0
  | 0, _, _, _, _, _, _ => rfl
  | f + 1, d, i, c, hn, hi, hc => by
    by_cases h0 : n ≤ 2 * i + 1
    · rw [sift_stop _ _ _ _ _ h0]
    · rw [sift_go _ _ _ _ _ h0]
      have hk := kid_lt (ls := ls) (d := d) h0
      split
      · rw [sift_tail ls n f _ _ c (by rw [swapL_length]; exact hn) (.inl hk) hc, swapL_get _ _ _ _ (by omega) (by omega), if_neg (by omega), if_neg (by omega)]
      · rfl
theorem heapify_perm (ls : Nat → Nat → Bool) (n : Nat) : ∀ (k : Nat) (d : List Nat), n ≤ d.length → k ≤ n → (heapify ls n k d).Perm d
  | 0, _, _, _ => List.Perm.refl _
  | k + 1, d, hn, hk => (heapify_perm ls n k _ (by rw [sift_length]; exact hn) (by omega)).trans (sift_perm ls n n d k hn (.inl (by omega)))
theorem heapify_up {ls : Nat → Nat → Bool} (o : Ord ls) (n : Nat) : ∀ (k : Nat) (d : List Nat), n ≤ d.length → k ≤ n → Up ls n d k → Up ls n (heapify ls n k d) 0
  | 0, _, _, _, h => h
  | k + 1, d, hn, hk, h => heapify_up o n k _ (by rw [sift_length]; exact hn) (by omega) (sift_up o n k n d k hn (by omega) (Nat.le_refl _) (fun c hc h1 h2 h3 => h c hc h1 (by omega)) (fun h => absurd rfl h) (by omega))
theorem heapify_heap {ls : Nat → Nat → Bool} (o : Ord ls) (d : List Nat) : Up ls d.length (heapify ls d.length (d.length / 2) d) 0 :=
  heapify_up o _ _ d (Nat.le_refl _) (by omega) (fun c hc h1 hk => by omega)
theorem up_min {ls : Nat → Nat → Bool} (o : Ord ls) {n : Nat} {d : List Nat} (h : Up ls n d 0) : ∀ c, c < n → ls (d.getD c 0) (d.getD 0 0) = false
  | 0, _ => o.irr _
  | c + 1, hc => o.ntr (up_min o h ((c + 1 - 1) / 2) (by omega)) (h (c + 1) hc (by omega) (Nat.zero_le _))
end Go.Proofs.Ytehoojmalhloeaa.CM

/-! merge: the line is made anew (lineUp). -/
namespace Go.Proofs.Ytehoojmalhloeaa.CM
open Go.RowKit Go.Proofs.YtehoojmalhloeaaW.PrintWords
set_option linter.unusedVariables false
set_option linter.unusedSimpArgs false
set_option maxRecDepth 100000

theorem und105 : Try.prog.underlying 105 = some (.slice 3) := by kernel_rfl
def ints (d : List Nat) : List Value := d.map fun x : Nat => Value.int .i64 (x : Int)
theorem run_appendI {W : World} {base : Nat} {v : Value} {d : List Nat} {B : Addr} {x : Nat} (hR : W.ownsRow base 3 1 v d.length (ints d)) (hB : W.cell? B = some (.int .i64 x)) (hl : (d.length + 1) * 8 ≤ 140737488355328) (hbase : base ≤ W.heap.size) :
    ∃ v1 w1, (Builtin.append_ #[105, 105] 105 #[v, .slice (some B) 1 1]).run Try.prog W = .ok v1 w1 ∧ w1.ownsRow base 3 1 v1 (d ++ [x]).length (ints (d ++ [x])) ∧ W.grownBy w1 v.ownBlock ∧ (v1.ownBlock = v.ownBlock ∨ v1.ownBlock = some W.heap.size) := by
  obtain ⟨i0, hi, hzz⟩ := Option.map_eq_some_iff.1 PC.info3
  simp only [Prod.mk.injEq] at hzz
  obtain ⟨hz0, hz1, hz2⟩ := hzz
  obtain ⟨v1, w1, hrun, h2, hg, _, hat⟩ := run_append_own_at (P := Try.prog) W base 105 105 3 i0 _ 1 8 und105 hi hz0 hz1 hz2 rfl (by omega) v d.length (ints d) hR B 1 1 [.int .i64 x] rfl
    (fun j u hj => by
      rcases j with _ | j
      · obtain rfl : Value.int .i64 x = u := by simpa using hj
        have e : B.add 0 = B := by simp [Addr.add]
        rw [e]; exact hB
      · simp at hj) (fun u hu => by rw [List.mem_singleton.1 hu]; rfl) (by simp only [maxLen]; omega) hl hbase
  refine ⟨v1, w1, hrun, ?_, hg, hat⟩
  rw [List.length_append]
  unfold ints at h2 ⊢
  rw [List.map_append]
  exact h2

/-- Which lists have a next entry, of the first k. -/
def openL (s : Sh) (at_ : Nat → Nat) (k : Nat) : List Nat := (List.range k).filter (fun i => decide (at_ i < (s.l i).length))
theorem openL_succ (s : Sh) (at_ : Nat → Nat) (k : Nat) : openL s at_ (k + 1) = openL s at_ k ++ if at_ k < (s.l k).length then [k] else [] := by
  unfold openL
  rw [List.range_succ, List.filter_append]
  congr 1
  by_cases h : at_ k < (s.l k).length
  · rw [if_pos h, List.filter_cons_of_pos (by simpa using h)]; rfl
  · rw [if_neg h, List.filter_cons_of_neg (by simpa using h)]; rfl
theorem openL_len (s : Sh) (at_ : Nat → Nat) (k : Nat) : (openL s at_ k).length ≤ k := by
  have := List.length_filter_le (fun i => decide (at_ i < (s.l i).length)) (List.range k)
  simpa [openL] using this
theorem openL_mem {s : Sh} {at_ : Nat → Nat} {k x : Nat} : x ∈ openL s at_ k ↔ x < k ∧ at_ x < (s.l x).length := by simp [openL]

/-- What stands where an iterator is nowhere, or at a list. -/
def hereV (s : Sh) : Option Nat → Value
  | none => .pointer none
  | some i => .pointer (some ⟨s.C i, 0, none⟩)
/-- An iterator's block and its lists; its line is whatever lv says. -/
structure Bk (w : World) (X : Nat) (s : Sh) (at_ : Nat → Nat) (lv gv2 : Value) (here : Option Nat) : Prop where
  x : w.heap[X]? = some (.cells #[.slice s.ga s.n s.gc, lv, gv2, hereV s here] 110 (0, 0))
  cs : Cs w s at_
  off : Off s X
section
variable {w w1 : World} {X : Nat} {s : Sh} {at_ : Nat → Nat} {lv gv2 : Value} {here : Option Nat}
theorem Bk.set1 (h : Bk w X s at_ lv gv2 here) (v : Value) : Bk (w.setCell ⟨X, 1, none⟩ v) X s at_ v gv2 here := by
  refine ⟨?_, h.cs.fr (O := fun b => b = X) ((Fr.refl _ w).set _ _ rfl) (fun b e => e ▸ h.off), h.off⟩
  rw [heap_setCell_same w X 1 _ 110 _ h.x]
  rfl
theorem Bk.set2 (h : Bk w X s at_ lv gv2 here) (v : Value) : Bk (w.setCell ⟨X, 2, none⟩ v) X s at_ lv v here := by
  refine ⟨?_, h.cs.fr (O := fun b => b = X) ((Fr.refl _ w).set _ _ rfl) (fun b e => e ▸ h.off), h.off⟩
  rw [heap_setCell_same w X 2 _ 110 _ h.x]
  rfl
theorem Bk.set3 (h : Bk w X s at_ lv gv2 here) (o : Option Nat) : Bk (w.setCell ⟨X, 3, none⟩ (hereV s o)) X s at_ lv gv2 o := by
  refine ⟨?_, h.cs.fr (O := fun b => b = X) ((Fr.refl _ w).set _ _ rfl) (fun b e => e ▸ h.off), h.off⟩
  rw [heap_setCell_same w X 3 _ 110 _ h.x]
  rfl
theorem Bk.lt (h : Bk w X s at_ lv gv2 here) : X < w.heap.size := (Array.getElem?_eq_some_iff.1 h.x).1
theorem Cs.fr' {O : Nat → Prop} (h : Cs w s at_) (hf : Fr O w w1) (ho : ∀ b, b < w.heap.size → O b → Off s b) : Cs w1 s at_ :=
  h.fr (O := fun b => b < w.heap.size ∧ O b) ⟨hf.os, hf.tape, hf.output, hf.size, fun b hb hn => hf.block b hb (fun h1 => hn ⟨hb, h1⟩)⟩ (fun b h1 => ho b h1.1 h1.2)
theorem Bk.fr {O : Nat → Prop} (h : Bk w X s at_ lv gv2 here) (hf : Fr O w w1) (hX : ¬ O X) (ho : ∀ b, b < w.heap.size → O b → Off s b) : Bk w1 X s at_ lv gv2 here :=
  ⟨(hf.block X h.lt hX).trans h.x, h.cs.fr' hf ho, h.off⟩
theorem Bk.below (h : Bk w X s at_ lv gv2 here) (hb : Below w.heap.size w w1) : Bk w1 X s at_ lv gv2 here := h.fr (O := fun _ => False) (Fr.of_below hb) (fun h => h) (fun _ _ h => h.elim)
theorem Bk.cell (h : Bk w X s at_ lv gv2 here) : w.cell? ⟨X, 0, none⟩ = some (.slice s.ga s.n s.gc) ∧ w.cell? ⟨X, 1, none⟩ = some lv ∧ w.cell? ⟨X, 2, none⟩ = some gv2 ∧ w.cell? ⟨X, 3, none⟩ = some (hereV s here) ∧ ∀ k, w.frozen? ⟨X, k, none⟩ = false := by
  refine ⟨?_, ?_, ?_, ?_, fun k => ?_⟩
  all_goals simp [World.cell?, World.frozen?, h.x]
theorem Cs.cell (h : Cs w s at_) {i : Nat} (hi : i < s.n) : s.ga = some ⟨s.G, 0, none⟩ ∧ w.cell? ⟨s.G, i, none⟩ = some (.pointer (some ⟨s.C i, 0, none⟩)) ∧ w.cell? ⟨s.C i, 0, none⟩ = some (.slice (s.A i) (s.l i).length (s.cp i)) ∧ w.cell? ⟨s.C i, 1, none⟩ = some (.int .i64 (at_ i)) ∧ w.cell? ⟨s.C i, 2, none⟩ = some (.int .i64 i) ∧ ∀ k, w.frozen? ⟨s.C i, k, none⟩ = false := by
  refine ⟨(h.gl i hi).1, (h.gl i hi).2, ?_, ?_, ?_, fun k => ?_⟩
  all_goals simp [World.cell?, World.frozen?, h.cur i hi]
theorem Cs.off_new (h : Cs w s at_) {b : Nat} (hb : w.heap.size ≤ b) : Off s b := by
  refine ⟨fun h0 e => ?_, fun i hi e => ?_, fun i hi h0 a ea e => ?_⟩
  · have := World.block_lt_of_cell? _ _ (h.gl 0 h0).2
    simp only at this
    omega
  · have := (Array.getElem?_eq_some_iff.1 (h.cur i hi)).1
    omega
  · obtain ⟨ad, e1, h1⟩ := h.ents i hi 0 h0
    have hl := World.block_lt_of_cell? _ _ h1.1
    have hl : ad.block < w.heap.size := by unfold Addr.add at hl; split at hl <;> exact hl
    rw [ea] at e1
    obtain rfl : a = ad := by injection e1
    omega
end
theorem own_form' {w : World} {cv : Value} {base e size n : Nat} {xs : List Value} (h : w.ownsRow base e size cv n xs) : ∃ A cap, cv = .slice A n cap := by
  rcases h.2 with ⟨rfl, rfl⟩ | ⟨g, cap, cur, rfl, _⟩
  · exact ⟨none, 0, rfl⟩
  · exact ⟨_, cap, rfl⟩

/-- What does not turn. -/
structure Fix (s : Sh) : Prop where
  n : s.n ≤ 2932031007317
  l : ∀ i, i < s.n → (s.l i).length ≤ 2932031007317
  inj : ∀ i j, i < s.n → j < s.n → s.C i = s.C j → i = j
  offC : ∀ i, i < s.n → s.C i ≠ s.G ∧ ∀ j, j < s.n → 0 < (s.l j).length → ∀ a, s.A j = some a → s.C i ≠ a.block

/-- The line is in order. -/
def Line (w : World) (X : Nat) (s : Sh) (at_ : Nat → Nat) (lv hv : Value) : Prop :=
  (∃ A c, lv = .slice A 0 c ∧ openL s at_ s.n = []) ∨
  ∃ H m cap d r, lv = .slice (some ⟨H, 0, none⟩) m cap ∧ Hq X H m m cap (.slice s.ga s.n s.gc) hv r s at_ w d ∧ d.Perm (openL s at_ s.n) ∧ Up (s.less at_) m d 0 ∧ m ≤ cap ∧ cap ≤ maxLen ∧ 0 < m

set_option maxHeartbeats 8000000 in
/-- (*Iter).lineUp. -/
theorem lineUp_w (X : Nat) (s : Sh) (at_ : Nat → Nat) (lv gv2 : Value) (here : Option Nat) (w : World) (hb : Bk w X s at_ lv gv2 here) (hf : Fix s) (ho : Ord (s.less at_)) :
    Calls Try.prog 77 #[.pointer (some ⟨X, 0, none⟩)] w (fun e w' => e = .returned (.tuple #[]) ∧ ∃ lv', Bk w' X s at_ lv' (.slice s.ga s.n s.gc) here ∧ Line w' X s at_ lv' (hereV s here) ∧ Fr (fun b => b = X) w w' ∧ ∀ k, lv'.ownBlock = some k → w.heap.size ≤ k ∧ k < w'.heap.size) := by
  have x0 : w.cell? ⟨X, 0, none⟩ = some (.slice s.ga s.n s.gc) := by simp [World.cell?, hb.x]
  have x1 : w.cell? ⟨X, 1, none⟩ = some lv := by simp [World.cell?, hb.x]
  have x2 : w.cell? ⟨X, 2, none⟩ = some gv2 := by simp [World.cell?, hb.x]
  have f1 : w.frozen? ⟨X, 1, none⟩ = false := by simp [World.frozen?, hb.x]
  have f2 : w.frozen? ⟨X, 2, none⟩ = false := by simp [World.frozen?, hb.x]
  have HB := Lib.hid (And.intro hb (And.intro hf ho))
  clear hb hf ho
  go_enter Try.func77, Try.ntmps77
  go_wp2_with fail
  obtain ⟨W0, hW0⟩ : ∃ W0, (w.setCell ⟨X, 1, none⟩ (.slice none 0 0)).setCell ⟨X, 2, none⟩ (.slice s.ga s.n s.gc) = W0 := ⟨_, rfl⟩
  have B0 : Bk W0 X s at_ (.slice none 0 0) (.slice s.ga s.n s.gc) here := by rw [← hW0]; exact (HB.out.1.set1 _).set2 _
  have F0 : Fr (fun b => b = X) w W0 := by rw [← hW0]; exact ((Fr.refl (fun b => b = X) w).set _ _ rfl).set _ _ rfl
  rw [hW0]
  have H0 := Lib.hid (And.intro B0 F0)
  clear B0 F0 hW0 x0 x1 x2 f1 f2
  go_loopw [17] (fun t wr => ∃ (k : Nat) (lv : Value), k ≤ s.n ∧ t = .int .i64 (k : Int) ∧ Hid (Bk wr X s at_ lv (.slice s.ga s.n s.gc) here ∧ wr.ownsRow w.heap.size 3 1 lv (openL s at_ k).length (ints (openL s at_ k)) ∧ Fr (fun b => b = X) w wr)) (fun t _ => s.n - (intOf t).toNat)
  case atStart => exact ⟨0, _, by omega, rfl, Lib.hid ⟨H0.out.1, World.ownsRow_nil _ _ _ _, H0.out.2⟩⟩
  case round =>
    obtain ⟨k, lv, hk, rfl, HI⟩ := hrel
    have hn := HB.out.2.1.n
    have m1 : IntKind.i64.wrap ((k : Int) + 1) = (k : Int) + 1 := by rw [IntWalk.i64_in _ (by omega)]
    by_cases hlt : k < s.n
    · have hltz : (k : Int) < s.n := by omega
      obtain ⟨x0, x1, x2, x3, xf⟩ := HI.out.1.cell
      obtain ⟨g1, g2, g3, g4, g5, g6⟩ := HI.out.1.cs.cell hlt
      obtain ⟨la, hla⟩ : ∃ m, (s.l k).length = m := ⟨_, rfl⟩
      have HL := Lib.hid hla
      rw [hla] at g3
      rw [g1]
      clear x0 x2 x3 g5 g6 hla
      by_cases hop : at_ k < la
      · have hoz : decide ((at_ k : Int) < la) = true := decide_eq_true (by omega)
        have xf1 := xf 1
        clear xf
        go_wp2_with fail
        go_quiet (fail)
        obtain ⟨Wd, hWd⟩ : ∃ Wd, wr.drewN nq = Wd := ⟨_, rfl⟩
        have hbd : Below wr.heap.size wr Wd := by rw [← hWd]; exact ⟨rfl, rfl, rfl, Nat.le_refl _, fun _ _ => rfl⟩
        have BD := HI.out.1.below hbd
        have OD : Wd.ownsRow w.heap.size 3 1 lv (openL s at_ k).length (ints (openL s at_ k)) := by rw [← hWd]; exact HI.out.2.1
        have FD := HI.out.2.2.below hbd
        rw [hWd]
        have BA : Bk (Wd.alloc (.cells #[.int .i64 (k : Int)] 3)) X s at_ lv (.slice s.ga s.n s.gc) here := BD.below ((Below.refl _ _).alloc (Nat.le_refl _) _)
        obtain ⟨v1, w1, hrun, hown, hg, hat⟩ := run_appendI (W := Wd.alloc (.cells #[.int .i64 (k : Int)] 3)) (B := ⟨Wd.heap.size, 0, none⟩) (x := k) (OD.alloc _) (cell_top rfl rfl) (by have := openL_len s at_ k; omega) (by have := FD.size; simp; omega)
        have FG : Fr (fun b => lv.ownBlock = some b) (Wd.alloc (.cells #[.int .i64 (k : Int)] 3)) w1 := ⟨hg.os, hg.tape, hg.output, hg.size, fun b hb hn => hg.block b hb (fun e => hn e.symm)⟩
        have own : ∀ b, lv.ownBlock = some b → w.heap.size ≤ b := fun b e => own_base OD b e
        have hXw : X < w.heap.size := HB.out.1.lt
        have B1 : Bk w1 X s at_ lv (.slice s.ga s.n s.gc) here := BA.fr FG (fun e => by have := own X e; omega) (fun b _ e => HB.out.1.cs.off_new (own b e))
        have F1 : Fr (fun b => b = X) w w1 := (FD.below ((Below.refl _ _).alloc (Nat.le_refl _) _)).trans FG (fun b hb e => by have := own b e; omega)
        obtain ⟨A1, c1, rfl⟩ := own_form' hown
        have y1 := B1.cell.2.1
        have yf := B1.cell.2.2.2.2 1
        have z1 : Wd.cell? ⟨X, 1, none⟩ = some lv := BD.cell.2.1
        have HG := Lib.hid (And.intro B1 (And.intro F1 hown))
        clear B1 F1 hown own FG BA OD FD BD hg hat hbd
        rw [g1] at HG
        go_wp2_with (at_builtin; refine wpList_append_run _ rfl (.tmp 37) (.tmp 39) 105 rfl _ _ _ _ rfl rfl hrun ?_; clear hrun)
        have e : openL s at_ (k + 1) = openL s at_ k ++ [k] := by rw [openL_succ, if_pos (by rw [HL.out]; exact hop)]
        refine ⟨⟨k + 1, .slice A1 ((openL s at_ k).length + 1) c1, by omega, by simp, Lib.hid ⟨HG.out.1.set1 _, ?_, HG.out.2.1.set _ _ rfl⟩⟩, by simp [intOf]; omega⟩
        rw [e]
        have o := HG.out.2.2
        have e2 : (openL s at_ k ++ [k]).length = (openL s at_ k).length + 1 := by simp
        rw [e2] at o ⊢
        exact own_move o (fun b hb => heap_setCell_other _ _ _ _ (fun e => by have := own_base o b hb; simp only at e; omega))
      · have hoz : decide ((at_ k : Int) < la) = false := decide_eq_false (by omega)
        clear xf
        go_wp2_with fail
        go_quiet (fail)
        go_wp2_with fail
        have e : openL s at_ (k + 1) = openL s at_ k := by rw [openL_succ, if_neg (by rw [HL.out]; exact hop), List.append_nil]
        have HI2 := HI.out
        rw [g1] at HI2
        refine ⟨⟨k + 1, lv, by omega, by simp, Lib.hid ⟨HI2.1.below ⟨rfl, rfl, rfl, Nat.le_refl _, fun _ _ => rfl⟩, ?_, HI2.2.2.drewN _⟩⟩, by simp [intOf]; omega⟩
        rw [e]
        exact HI2.2.1
    · obtain rfl : k = s.n := by omega
      have hltz : decide ((s.n : Int) < (s.n : Int)) = false := decide_eq_false (by omega)
      obtain ⟨x0, x1, x2, x3, xf⟩ := HI.out.1.cell
      clear x0 x2 x3 xf
      rcases HI.out.2.1.2 with ⟨rfl, h0⟩ | ⟨H, cap, cur, rfl, hbase, hH, hmc, hcm, hcs, htk⟩
      · have hnil : openL s at_ s.n = [] := List.eq_nil_of_length_eq_zero h0
        have HN := Lib.hid hnil
        clear h0 hnil
        go_wp2_with (first | (go_at_call 97; refine (init0_w X _ x1).mono ?_; rintro e wr ⟨rfl, rfl⟩))
        go_end0
        exact ⟨rfl, _, HI.out.1, .inl ⟨_, _, rfl, HN.out⟩, HI.out.2.2, fun b e => by cases e⟩
      · obtain ⟨m, hm⟩ : ∃ m, (openL s at_ s.n).length = m := ⟨_, rfl⟩
        rw [hm] at hmc htk x1
        have hrow : cur = row (openL s at_ s.n) (cur.toList.drop m) := by
          unfold row
          rw [Nat.mul_one] at htk
          have : ints (openL s at_ s.n) ++ cur.toList.drop m = cur.toList := by rw [← htk, List.take_append_drop]
          unfold ints at this
          rw [this]
        have hXw : X < w.heap.size := HB.out.1.lt
        have Q : Hq X H m m cap (.slice s.ga s.n s.gc) (hereV s here) (cur.toList.drop m) s at_ wr (openL s at_ s.n) :=
          ⟨by rw [← hm]; exact HI.out.1.x, by omega, by rw [hH]; exact congrArg (fun c => some (Obj.cells c 3 (0, 0))) hrow, hm.symm, HI.out.1.cs, HB.out.1.cs.off_new hbase, fun x hx => (openL_mem.1 hx).1, fun x hx => (openL_mem.1 (List.mem_of_mem_take hx)).2⟩
        have hms : m ≤ s.n := by rw [← hm]; exact openL_len _ _ _
        have IW := init_w X H m cap _ _ _ _ s at_ wr Q (by omega)
        have HIW := Lib.hid IW
        have HQ := Lib.hid (And.intro Q (And.intro hm (And.intro hbase (And.intro hmc hcm))))
        clear IW Q hbase hH hmc hcm hcs htk hrow hm hms hXw
        go_wp2_with (first | (go_at_call 97; refine HIW.out.mono ?_; rintro e w2 ⟨rfl, t2⟩))
        go_end0
        obtain ⟨Q, hm, hbase, hmc, hcm⟩ := HQ.out
        have hp := heapify_perm (s.less at_) m (m / 2) (openL s at_ s.n) (by omega) (by omega)
        have hu := heapify_heap HB.out.2.2 (openL s at_ s.n)
        rw [hm] at hu
        have Q2 := Q.tn t2 hp.length_eq (fun x hx => hp.mem_iff.1 hx) (fun x hx => by rw [List.take_of_length_le (by rw [hm]; exact Nat.le_refl _)]; exact hp.mem_iff.1 (List.mem_of_mem_take hx))
        refine ⟨rfl, .slice (some ⟨H, 0, none⟩) m cap, ⟨Q2.x, Q2.cs, HB.out.1.off⟩, ?_, ?_, fun b e => by cases e; exact ⟨hbase, (Array.getElem?_eq_some_iff.1 Q2.row).1⟩⟩
        · rcases Nat.eq_zero_or_pos m with h0 | h0
          · subst h0
            exact .inl ⟨_, _, rfl, List.eq_nil_of_length_eq_zero hm⟩
          · exact .inr ⟨H, m, cap, _, _, rfl, Q2, hp, hu, hmc, hcm, h0⟩
        · exact HI.out.2.2.trans (Fr.of_tn t2) (fun b hb e => by subst e; omega)

end Go.Proofs.Ytehoojmalhloeaa.CM

/-! merge: the order of lists; behind. -/
namespace Go.Proofs.Ytehoojmalhloeaa.CM
open Go.RowKit Go.Proofs.YtehoojmalhloeaaW.PrintWords
set_option linter.unusedVariables false
set_option linter.unusedSimpArgs false
set_option maxRecDepth 100000

theorem cmpK_pos (a b : PC.S42) : 0 < cmpK a b ↔ cmpK b a < 0 := by
  rw [← refK_eq, ← refK_eq]
  unfold refK
  by_cases h1 : Op.bytesLess a.f0.toList b.f0.toList = true
  · have h2 : ¬ Op.bytesLess b.f0.toList a.f0.toList = true := fun h2 => by
      have := less_trans _ _ _ h1 h2
      rw [less_irrefl] at this
      exact absurd this (by decide)
    rw [if_pos h1, if_neg h2, if_pos h1]
    decide
  · rw [if_neg h1]
    by_cases h2 : Op.bytesLess b.f0.toList a.f0.toList = true
    · rw [if_pos h2, if_pos h2]; decide
    · rw [if_neg h2, if_neg h2, if_neg h1]
      repeat' split
      all_goals omega
/-- Equal keys. -/
def E (x y : PC.S44) : Prop := sameU x y = true ∧ x.f0.f1 = y.f0.f1 ∧ x.f0.f2 = y.f0.f2
theorem E_cmp {x y : PC.S44} : cmpK x.f0 y.f0 = 0 ↔ E x y := by
  constructor
  · intro h
    rcases R_total x y with h1 | h1 | h1
    · unfold R at h1; omega
    · have := (cmpK_pos x.f0 y.f0).2 h1; omega
    · exact h1
  · intro h
    have h1 : ¬ R x y := fun h1 => by
      rw [R_iff] at h1
      rcases h1 with h1 | ⟨_, h1⟩
      · rw [sameU_eq h.1, less_irrefl] at h1; exact absurd h1 (by decide)
      · have := h.2; omega
    have h2 : ¬ R y x := fun h1 => by
      rw [R_iff] at h1
      rcases h1 with h1 | ⟨_, h1⟩
      · rw [sameU_eq h.1, less_irrefl] at h1; exact absurd h1 (by decide)
      · have := h.2; omega
    have h3 := (cmpK_pos x.f0 y.f0)
    unfold R at h1 h2
    omega
theorem E_refl (x : PC.S44) : E x x := ⟨by simp [sameU], rfl, rfl⟩
theorem E_symm {x y : PC.S44} (h : E x y) : E y x := ⟨by have := h.1; simp only [sameU, beq_iff_eq] at *; exact this.symm, h.2.1.symm, h.2.2.symm⟩
theorem E_trans {x y z : PC.S44} (h : E x y) (k : E y z) : E x z := ⟨by have := h.1; have := k.1; simp only [sameU, beq_iff_eq] at *; simp [*], h.2.1.trans k.2.1, h.2.2.trans k.2.2⟩
theorem E_R {x y z : PC.S44} (h : E x y) (k : R y z) : R x z := by
  rcases R_total x z with h1 | h1 | h1
  · exact h1
  · have := R_trans k h1
    have h0 := E_cmp.2 h
    have h2 := (cmpK_pos x.f0 y.f0).2 this
    omega
  · have h3 := E_trans (E_symm h) h1
    have := E_cmp.2 h3
    unfold R at k
    omega
theorem R_E {x y z : PC.S44} (h : R x y) (k : E y z) : R x z := by
  rcases R_total x z with h1 | h1 | h1
  · exact h1
  · have := R_trans h1 h
    have h0 := E_cmp.2 (E_symm k)
    unfold R at this
    omega
  · have h3 := E_trans h1 (E_symm k)
    have := E_cmp.2 h3
    unfold R at h
    omega
theorem E_not {x y : PC.S44} (h : E x y) : ¬ R x y := fun h1 => by
  have := E_cmp.2 h
  unfold R at h1
  omega

/-- An entry of a list is ahead of one of another list. -/
def T (x y : PC.S44) (i j : Nat) : Prop := R x y ∨ (E x y ∧ i < j)
theorem T_trans {x y z : PC.S44} {i j k : Nat} (h : T x y i j) (l : T y z j k) : T x z i k := by
  rcases h with h | ⟨h, h'⟩ <;> rcases l with l | ⟨l, l'⟩
  · exact .inl (R_trans h l)
  · exact .inl (R_E h l)
  · exact .inl (E_R h l)
  · exact .inr ⟨E_trans h l, by omega⟩
theorem T_irr {x : PC.S44} {i : Nat} : ¬ T x x i i := fun h => by
  rcases h with h | ⟨_, h⟩
  · exact R_irrefl x h
  · omega
theorem T_total (x y : PC.S44) {i j : Nat} (h : i ≠ j) : T x y i j ∨ T y x j i := by
  rcases R_total x y with h1 | h1 | h1
  · exact .inl (.inl h1)
  · exact .inr (.inl h1)
  · rcases Nat.lt_or_gt_of_ne h with h2 | h2
    · exact .inl (.inr ⟨h1, h2⟩)
    · exact .inr (.inr ⟨E_symm h1, h2⟩)
def Sh.e (s : Sh) (i a : Nat) : PC.S44 := (s.l i).getD a PC.z44
theorem less_iff (s : Sh) (at_ : Nat → Nat) (a b : Nat) : s.less at_ a b = true ↔ T (s.e a (at_ a)) (s.e b (at_ b)) a b := by
  unfold Sh.less Sh.key T
  simp only [Bool.or_eq_true, Bool.and_eq_true, decide_eq_true_eq]
  rw [E_cmp]
  exact Iff.rfl
theorem less_ord (s : Sh) (at_ : Nat → Nat) : Ord (s.less at_) := by
  refine ⟨fun a => ?_, fun a b c h1 h2 => ?_, fun a b h => ?_⟩
  · rw [← Bool.not_eq_true, less_iff]; exact T_irr
  · rw [less_iff] at *; exact T_trans h1 h2
  · rw [less_iff, less_iff]; exact T_total _ _ h
end Go.Proofs.Ytehoojmalhloeaa.CM
