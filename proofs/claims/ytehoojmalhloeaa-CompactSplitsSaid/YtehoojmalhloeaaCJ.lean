/- A row of entries is turned round (slices.Reverse): what it leaves. Its condition is that the row is the caller's own. -/
import Derived.Test.YtehoojmalhloeaaCI
namespace Go.Proofs.Ytehoojmalhloeaa.CM
open Go.RowKit Go.Proofs.YtehoojmalhloeaaW.PrintWords
set_option linter.unusedVariables false
set_option linter.unusedSimpArgs false
set_option maxRecDepth 100000

/-- Two entries change places. -/
def swp (ys : List PC.S44) (i j : Nat) : List PC.S44 := (ys.set i (ys.getD j PC.z44)).set j (ys.getD i PC.z44)
/-- How far the row has been turned. -/
def Turned (xs ys : List PC.S44) (i : Nat) : Prop := ys.length = xs.length ∧ ∀ m, m < xs.length → ys[m]? = if m < i ∨ xs.length ≤ m + i then xs[xs.length - 1 - m]? else xs[m]?
theorem Turned.step {xs ys : List PC.S44} {i : Nat} (h : Turned xs ys i) (hi : i + i + 1 < xs.length) : Turned xs (swp ys i (xs.length - 1 - i)) (i + 1) := by
  obtain ⟨hl, h⟩ := h
  refine ⟨by simp [swp, hl], fun m hm => ?_⟩
  have hgi := h i (by omega)
  have hgj := h (xs.length - 1 - i) (by omega)
  rw [if_neg (by omega)] at hgi hgj
  have ei : ys.getD i PC.z44 = xs.getD i PC.z44 := by simp [List.getD_eq_getElem?_getD, hgi]
  have ej : ys.getD (xs.length - 1 - i) PC.z44 = xs.getD (xs.length - 1 - i) PC.z44 := by simp [List.getD_eq_getElem?_getD, hgj]
  unfold swp
  rw [ei, ej]
  by_cases c1 : m = xs.length - 1 - i
  · subst c1
    rw [List.getElem?_set_self (by simp [hl]; omega), if_pos (by omega)]
    rw [show xs.length - 1 - (xs.length - 1 - i) = i by omega]
    simp [List.getD_eq_getElem?_getD, List.getElem?_eq_getElem (show i < xs.length by omega)]
  · rw [List.getElem?_set_ne (by omega)]
    by_cases c2 : m = i
    · subst c2
      rw [List.getElem?_set_self (by omega), if_pos (by omega)]
      simp [List.getD_eq_getElem?_getD, List.getElem?_eq_getElem (show xs.length - 1 - m < xs.length by omega)]
    · rw [List.getElem?_set_ne (by omega), h m hm]
      by_cases c3 : m < i ∨ xs.length ≤ m + i
      · rw [if_pos c3, if_pos (by omega)]
      · rw [if_neg c3, if_neg (by omega)]
theorem Turned.done {xs ys : List PC.S44} {i : Nat} (h : Turned xs ys i) (hi : xs.length ≤ i + i + 1) : ys = xs.reverse := by
  obtain ⟨hl, h⟩ := h
  apply List.ext_getElem?
  intro m
  by_cases hm : m < xs.length
  · rw [h m hm, List.getElem?_reverse hm]
    split
    · rfl
    · rw [show xs.length - 1 - m = m by omega]
  · rw [List.getElem?_eq_none (by omega), List.getElem?_eq_none (by simp; omega)]

/-- Facts on two places that are apart. -/
theorem apart4 {p q : Nat} (h : p + 4 ≤ q) : (p = q) = False ∧ (p + 1 = q) = False ∧ (p + 2 = q) = False ∧ (p + 3 = q) = False ∧ (p = q + 1) = False ∧ (p = q + 2) = False ∧ (p = q + 3) = False ∧ (q = p) = False ∧ (q + 1 = p) = False ∧ (q + 2 = p) = False ∧ (q + 3 = p) = False ∧ (q = p + 1) = False ∧ (q = p + 2) = False ∧ (q = p + 3) = False := by
  refine ⟨?_, ?_, ?_, ?_, ?_, ?_, ?_, ?_, ?_, ?_, ?_, ?_, ?_, ?_⟩ <;> exact eq_false (by omega)

/-- An entry of one's own row is written. -/
theorem put44 {base g n cap : Nat} {W : World} {xs : List PC.S44} (h : Kd.R PC.k44 44 W base (fun _ => True) (.slice (some ⟨g, 0, none⟩) n cap) xs) (i : Nat) (hi : i < n) (x : PC.S44) :
    Kd.R PC.k44 44 (W.setCells g (i * 4) [.string x.f0.f0, .int .u64 x.f0.f1, .int .i64 x.f0.f2, .string x.f1]) base (fun _ => True) (.slice (some ⟨g, 0, none⟩) n cap) (xs.set i x) ∧
      W.grownBy (W.setCells g (i * 4) [.string x.f0.f0, .int .u64 x.f0.f1, .int .i64 x.f0.f2, .string x.f1]) (some g) := by
  obtain ⟨c, hcl, _, hcc, _⟩ := Kd.R_elem h PC.z44 (i : Int) (by omega) (by omega)
  have hsz : PC.k44.sz = 4 := rfl
  have := Kd.R_seg h (i : Int) (by omega) (by omega) (c := c) (seg := [.string x.f0.f0, .int .u64 x.f0.f1, .int .i64 x.f0.f2, .string x.f1]) (j := 0) (okp := fun _ => False) (x' := x) hcl hcc (by rw [hsz]; simp) (by
    have e1 : c.drop (0 + 4) = [] := List.drop_eq_nil_of_le (by rw [hcl, hsz]; omega)
    have e2 : c.take 0 ++ [Value.string x.f0.f0, .int .u64 x.f0.f1, .int .i64 x.f0.f2, .string x.f1] ++ c.drop (0 + 4) = [.string x.f0.f0, .int .u64 x.f0.f1, .int .i64 x.f0.f2, .string x.f1] := by rw [e1]; rfl
    show PC.k44.M W base (fun _ => False) x (c.take 0 ++ [Value.string x.f0.f0, .int .u64 x.f0.f1, .int .i64 x.f0.f2, .string x.f1] ++ c.drop (0 + 4))
    rw [e2]
    exact PC.k44_mkM W base _ x) (fun _ h => h.elim)
  rw [hsz] at this
  simpa using this

set_option maxHeartbeats 8000000 in
theorem reverse_w (w0 : World) (base : Nat) (v : Value) (xs : List PC.S44) (w : World) (hR : Kd.R PC.k44 44 w base (fun _ => True) v xs) (hB : Below base w0 w) :
    Calls Try.prog 89 #[v] w fun e w' => e = .returned (.tuple #[]) ∧ Kd.R PC.k44 44 w' base (fun _ => True) v xs.reverse ∧ Below base w0 w' ∧ (∀ b, some b ≠ v.ownBlock → w'.heap[b]? = w.heap[b]?) := by
  obtain ⟨Av, cv, hv, hlv, hread⟩ := Kd.R_reads hR
  have hlen := hread.2.1
  subst hv
  have H0 := Lib.hid (And.intro hR hB)
  clear hR hB hread
  go_enter Try.func89, Try.ntmps89
  go_wp2
  go_loopw [2, 3] (fun a b wr => ∃ (i : Nat) (jz : Int) (ys : List PC.S44), (i : Int) ≤ xs.length ∧ a = .int .i64 (i : Int) ∧ b = .int .i64 jz ∧ jz = (xs.length : Int) - 1 - i ∧ Hid (Turned xs ys i ∧ Kd.R PC.k44 44 wr base (fun _ => True) (.slice Av xs.length cv) ys ∧ Below base w0 wr ∧ ∀ b, some b ≠ (Value.slice Av xs.length cv).ownBlock → wr.heap[b]? = w.heap[b]?)) (fun a _ _ => xs.length - (intOf a).toNat)
  case atStart =>
    exact ⟨0, _, xs, by omega, rfl, rfl, by simp, Lib.hid ⟨⟨rfl, fun m hm => by rw [if_neg (by omega)]⟩, H0.out.1, H0.out.2, fun _ _ => rfl⟩⟩
  case round =>
    obtain ⟨i, jz, ys, hi, rfl, rfl, hjz, H⟩ := hrel
    by_cases hlt : (i : Int) < jz
    · obtain ⟨j, rfl⟩ : ∃ j : Nat, jz = (j : Int) := ⟨jz.toNat, by omega⟩
      obtain ⟨hT, hR, hB, hK⟩ := H.out
      have hyl := hT.1
      obtain ⟨g, hg⟩ : ∃ g, Av = some ⟨g, 0, none⟩ := by
        obtain ⟨inner, ho⟩ := Kd.R_own hR
        rcases ho.2 with ⟨h, _⟩ | ⟨g, cap, cur, h, _⟩
        · injection h with _ h _; omega
        · injection h with h _ _; exact ⟨g, h⟩
      subst hg
      obtain ⟨ca, hcal, hMa, hca, hfz⟩ := Kd.R_elem hR PC.z44 (i : Int) (by omega) (by omega)
      obtain ⟨cb, hcbl, hMb, hcb, _⟩ := Kd.R_elem hR PC.z44 (j : Int) (by omega) (by omega)
      have hfr : ∀ o, wr.frozen? ⟨g, o, none⟩ = false := by
        obtain ⟨inner, ho⟩ := Kd.R_own hR
        obtain ⟨cells, hc⟩ := own_typed ho g (by simp [Value.ownBlock])
        exact fun o => blk_frozen hc o
      simp only [Int.toNat_natCast] at hMa hca hMb hcb
      obtain ⟨a, ha⟩ : ∃ a, ys.getD i PC.z44 = a := ⟨_, rfl⟩
      obtain ⟨b, hb⟩ : ∃ b, ys.getD j PC.z44 = b := ⟨_, rfl⟩
      rw [ha] at hMa
      rw [hb] at hMb
      obtain rfl := PC.k44_openM hMa
      obtain rfl := PC.k44_openM hMb
      have hsz : PC.k44.sz = 4 := rfl
      rw [hsz] at hca hcb
      have a0 : wr.cell? ⟨g, i * 4, none⟩ = some (.string a.f0.f0) := hca 0 (.string a.f0.f0) rfl
      have a1 : wr.cell? ⟨g, i * 4 + 1, none⟩ = some (.int .u64 a.f0.f1) := hca 1 (.int .u64 a.f0.f1) rfl
      have a2 : wr.cell? ⟨g, i * 4 + 2, none⟩ = some (.int .i64 a.f0.f2) := hca 2 (.int .i64 a.f0.f2) rfl
      have a3 : wr.cell? ⟨g, i * 4 + 3, none⟩ = some (.string a.f1) := hca 3 (.string a.f1) rfl
      have b0 : wr.cell? ⟨g, j * 4, none⟩ = some (.string b.f0.f0) := hcb 0 (.string b.f0.f0) rfl
      have b1 : wr.cell? ⟨g, j * 4 + 1, none⟩ = some (.int .u64 b.f0.f1) := hcb 1 (.int .u64 b.f0.f1) rfl
      have b2 : wr.cell? ⟨g, j * 4 + 2, none⟩ = some (.int .i64 b.f0.f2) := hcb 2 (.int .i64 b.f0.f2) rfl
      have b3 : wr.cell? ⟨g, j * 4 + 3, none⟩ = some (.string b.f1) := hcb 3 (.string b.f1) rfl
      have H2 := Lib.hid (And.intro H.out (And.intro ha (And.intro hb (And.intro hca (And.intro hcb hjz)))))
      obtain ⟨n1, n2, n3, n4, n5, n6, n7, n8, n9, n10, n11, n12, n13, n14⟩ := apart4 (p := i * 4) (q := j * 4) (by omega)
      have p1 : (i < xs.length) = True := eq_true (by omega)
      have p2 : (j < xs.length) = True := eq_true (by omega)
      have p3 : decide ((i : Int) < (j : Int)) = true := decide_eq_true hlt
      have p4 : decide (i < j) = true := decide_eq_true (by omega)
      have p5 : (i < j) = True := eq_true (by omega)
      have hw1 : IntKind.i64.wrap ((i : Int) + 1) = (i : Int) + 1 := by rw [IntWalk.i64_in _ (by omega)]
      have hw2 : IntKind.i64.wrap ((j : Int) - 1) = (j : Int) - 1 := by rw [IntWalk.i64_in _ (by omega)]
      clear H hT hR hB hK hMa hMb hca hcb hfz ha hb hcal hcbl hsz hyl hlt hjz
      go_wp2_with fail
      go_region
      go_wp2_with fail
      go_roundw
      case rel =>
        have hij : i < j := of_eq_true p5
        obtain ⟨⟨hT, hR, hB, hK⟩, ha, hb, _, _, hjz⟩ := H2.out
        obtain ⟨r1, g1⟩ := put44 hR i (by omega) b
        obtain ⟨r2, g2⟩ := put44 r1 j (by omega) a
        have hbg : base ≤ g := own_base (Kd.R_own hR).choose_spec g (by simp [Value.ownBlock])
        have hsw : (ys.set i b).set j a = swp ys i (xs.length - 1 - i) := by
          rw [show xs.length - 1 - i = j by omega]
          unfold swp
          rw [ha, hb]
        have e1 : Below base w0 (wr.setCells g (i * 4) [.string b.f0.f0, .int .u64 b.f0.f1, .int .i64 b.f0.f2, .string b.f1]) := hB.grown g1 (Nat.le_trans (by omega) (Nat.le_of_lt (own_lt (Kd.R_own hR).choose_spec g (by simp [Value.ownBlock])))) (fun k e => by cases e; exact hbg)
        have e2 : Below base w0 ((wr.setCells g (i * 4) [.string b.f0.f0, .int .u64 b.f0.f1, .int .i64 b.f0.f2, .string b.f1]).setCells g (j * 4) [.string a.f0.f0, .int .u64 a.f0.f1, .int .i64 a.f0.f2, .string a.f1]) := e1.grown g2 (Nat.le_trans (by omega) (Nat.le_of_lt (own_lt (Kd.R_own r1).choose_spec g (by simp [Value.ownBlock])))) (fun k e => by cases e; exact hbg)
        have hk2 : ∀ q, some q ≠ (Value.slice (some ⟨g, 0, none⟩) xs.length cv).ownBlock → ((wr.setCells g (i * 4) [.string b.f0.f0, .int .u64 b.f0.f1, .int .i64 b.f0.f2, .string b.f1]).setCells g (j * 4) [.string a.f0.f0, .int .u64 a.f0.f1, .int .i64 a.f0.f2, .string a.f1]).heap[q]? = w.heap[q]? := fun q hq => by
          have hq2 : q ≠ g := fun e => hq (by rw [e]; simp [Value.ownBlock])
          exact (setCells_far _ _ q hq2).trans ((setCells_far _ _ q hq2).trans (hK q hq))
        rw [hsw] at r2
        simp only [World.setCells, Nat.add_assoc, Nat.reduceAdd] at r2 e2 hk2
        have Q1 := Lib.hid (Kd.R_drew r2)
        have Q2 := Lib.hid e2.drew
        have Q3 := Lib.hid hk2
        refine ⟨i + 1, (j : Int) - 1, swp ys i (xs.length - 1 - i), ?_, ?_, ?_, ?_, ?_⟩
        · omega
        · simp [hw1]
        · rfl
        · omega
        · refine Lib.hid ⟨hT.step (by omega), ?_, ?_, ?_⟩
          · exact Q1.out
          · exact Q2.out
          · intro q hq
            rw [World.drew_is_drewN, World.heap_drewN]
            exact Q3.out q hq
      case measure =>
        have h1 : i < xs.length := of_eq_true p1
        simp [intOf, hw1]
        omega
    · have hn : decide ((i : Int) < jz) = false := decide_eq_false hlt
      go_wp2_with fail
      go_end0
      rw [← H.out.1.done (by omega)]
      exact ⟨rfl, H.out.2⟩

end Go.Proofs.Ytehoojmalhloeaa.CM
