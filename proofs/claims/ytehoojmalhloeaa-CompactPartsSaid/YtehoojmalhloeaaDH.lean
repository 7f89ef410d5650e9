/- CompactParts: its contract answers true. Its condition is that the entries can be read. -/
import Derived.Test.YtehoojmalhloeaaPE2
import Derived.Test.YtehoojmalhloeaaDG
namespace Go.Proofs.Ytehoojmalhloeaa.CM
open Go.RowKit Go.Proofs.YtehoojmalhloeaaW.PrintWords
set_option linter.unusedVariables false
set_option linter.unusedSimpArgs false

/-- The bytes of entries. -/
def szs (n : Int) (p : List PC.S44) : Int := p.foldl addn n
theorem Size_l0 (p : List PC.S44) (hl : p.length ≤ 9223372036854775806) : ∀ (m k i : Nat) (n : Int), p.length - i ≤ m → m + 1 ≤ k → i ≤ p.length → PC.staddleref08_Size.l0 k p n (i : Int) = some (szs n (p.drop i))
  | m, 0, i, n, _, hk, _ => by omega
  | m, k + 1, i, n, hm, hk, hi => by
    unfold PC.staddleref08_Size.l0
    by_cases h : i < p.length
    · rw [if_pos (by omega), if_pos (by omega), w64 ((i : Int) + 1) (by omega), rd44, getD_drop p i h]
      exact Size_l0 p hl (m - 1) k (i + 1) _ (by omega) (by omega) (by omega)
    · have hd : p.drop i = [] := List.drop_of_length_le (by omega)
      rw [if_neg (by omega), hd]
      rfl
theorem Size_f (p : List PC.S44) (k : Nat) (hl : p.length ≤ 9223372036854775806) (hk : p.length + 1 ≤ k) : PC.staddleref08_Size.f k p = some (szs 0 p) := by
  have := Size_l0 p hl p.length k 0 0 (by omega) hk (by omega)
  simpa [PC.staddleref08_Size.f] using this

/-- Parts that are not empty, as long as is wanted, each user in one alone. -/
def Good (size : Int) : List (List PC.S44) → Prop
  | [] => True
  | p :: t => p ≠ [] ∧ (match t with | [] => True | q :: _ => size ≤ szs 0 p ∧ ∃ a b, p.getLast? = some a ∧ q.head? = some b ∧ sameU b a = false) ∧ Good size t
theorem RS_head (size : Int) : ∀ (t part : List PC.S44) (n : Int) (x : PC.S44), ∃ p rest, RS size part n (x :: t) = p :: rest ∧ (part ++ [x]) <+: p
  | [], part, n, x => ⟨part ++ [x], [], rfl, List.prefix_rfl⟩
  | y :: t, part, n, x => by
    rw [RS_cons]
    by_cases h : cutB size (addn n x) x (y :: t) = true
    · rw [if_pos h]
      exact ⟨_, _, rfl, List.prefix_rfl⟩
    · rw [if_neg h]
      obtain ⟨p, rest, e, hp⟩ := RS_head size t (part ++ [x]) (addn n x) y
      exact ⟨p, rest, e, (List.prefix_append _ _).trans hp⟩
theorem RS_good (size : Int) : ∀ (l part : List PC.S44) (n : Int), n = szs 0 part → Good size (RS size part n l)
  | [], _, _, _ => trivial
  | x :: t, part, n, hn => by
    have hn' : addn n x = szs 0 (part ++ [x]) := by
      rw [hn]
      simp [szs]
    rw [RS_cons]
    by_cases h : cutB size (addn n x) x t = true
    · rw [if_pos h]
      have ih := RS_good size t [] 0 rfl
      refine ⟨by simp, ?_, ih⟩
      cases t with
      | nil => trivial
      | cons y t =>
        obtain ⟨p, rest, e, hp⟩ := RS_head size t [] 0 y
        rw [e]
        have h2 : (decide (size ≤ addn n x) && !(sameU y x)) = true := h
        simp only [Bool.and_eq_true, decide_eq_true_eq, Bool.not_eq_true'] at h2
        refine ⟨by rw [← hn']; exact h2.1, x, y, by simp, ?_, h2.2⟩
        obtain ⟨s, hs⟩ := hp
        rw [← hs]
        rfl
    · rw [if_neg h]
      exact RS_good size t (part ++ [x]) (addn n x) hn'
theorem RS_flat (size : Int) : ∀ (l part : List PC.S44) (n : Int), l ≠ [] → (RS size part n l).flatten = part ++ l
  | [], _, _, h => absurd rfl h
  | [x], part, n, _ => by simp [RS, cutB]
  | x :: y :: t, part, n, _ => by
    rw [RS_cons]
    by_cases h : cutB size (addn n x) x (y :: t) = true
    · rw [if_pos h, List.flatten_cons, RS_flat size (y :: t) [] 0 (by simp)]
      simp
    · rw [if_neg h, RS_flat size (y :: t) (part ++ [x]) (addn n x) (by simp)]
      simp
theorem Good.drop {size : Int} : ∀ (i : Nat) {xss : List (List PC.S44)}, Good size xss → Good size (xss.drop i)
  | 0, _, h => h
  | _ + 1, [], _ => trivial
  | i + 1, _ :: _, h => Good.drop i h.2.2
theorem dropL6 (xss : List (List PC.S44)) (i : Nat) (h : i < xss.length) : xss.drop i = PC.rd_L6 xss (i : Int) :: xss.drop (i + 1) := by
  rw [List.drop_eq_getElem_cons h]
  simp [PC.rd_L6, List.getD_eq_getElem?_getD, List.getElem?_eq_getElem h]
theorem takeL6 (xss : List (List PC.S44)) (i : Nat) (h : i < xss.length) : (xss.take (i + 1)).flatten = (xss.take i).flatten ++ PC.rd_L6 xss (i : Int) := by
  have : xss.take (i + 1) = xss.take i ++ [PC.rd_L6 xss (i : Int)] := by
    rw [List.take_add_one, List.getElem?_eq_getElem h]
    simp [PC.rd_L6, List.getD_eq_getElem?_getD, List.getElem?_eq_getElem h]
  rw [this]
  simp
theorem rd_last (l : List PC.S44) (a : PC.S44) (h : l.getLast? = some a) : PC.rd_T44 l ((l.length : Int) - 1) = a := by
  have hp : 0 < l.length := by
    cases l with
    | nil => cases h
    | cons x t => simp
  have e : ((l.length : Int) - 1) = ((l.length - 1 : Nat) : Int) := by omega
  rw [e, rd44, List.getD_eq_getElem?_getD, ← List.getLast?_eq_getElem?, h]
  rfl
theorem parts_l0 (l : List PC.S44) (size : Int) (xss : List (List PC.S44)) (hg : Good size xss) (hf : xss.flatten = l) (hl : l.length ≤ 2932031007317) (hx : xss.length ≤ l.length) : ∀ (m k i : Nat), xss.length - i ≤ m → 2 * m + l.length + 3 ≤ k → i ≤ xss.length →
    PC.staddlelaw19_CompactParts.l0 k l size true xss (xss.take i).flatten (i : Int) = some true
  | m, 0, i, _, hk, _ => by omega
  | m, 1, i, _, hk, _ => by omega
  | m, k + 2, i, hm, hk, hi => by
    unfold PC.staddlelaw19_CompactParts.l0
    by_cases h : i < xss.length
    · have hd := dropL6 xss i h
      have hgi := Good.drop i hg
      rw [hd] at hgi
      obtain ⟨g1, g2, g3⟩ := hgi
      obtain ⟨p, hp⟩ : ∃ p, PC.rd_L6 xss (i : Int) = p := ⟨_, rfl⟩
      have ht := takeL6 xss i h
      rw [hp] at g1 g2 hd ht ⊢
      have hpl : 0 < p.length := List.length_pos_iff.2 g1
      have hle : (xss.take i).flatten.length + p.length ≤ l.length := by
        have h1 : xss.flatten = (xss.take i).flatten ++ (xss.drop i).flatten := by rw [← List.flatten_append, List.take_append_drop]
        rw [hd, hf] at h1
        have := congrArg List.length h1
        simp only [List.length_append, List.flatten_cons] at this
        omega
      -- what goes on behind the tests
      have rest : PC.staddlelaw19_CompactParts.j1 (k + 1) l size true xss (xss.take i).flatten (i : Int) false = some true := by
        simp only [PC.staddlelaw19_CompactParts.j1]
        rw [if_neg (by decide), w64 ((i : Int) + 1) (by omega), hp]
        have e1 : ((i : Int) + 1) = ((i + 1 : Nat) : Int) := by omega
        have go := parts_l0 l size xss hg hf hl hx (m - 1) k (i + 1) (by omega) (by omega) (by omega)
        rw [ht] at go
        by_cases hlast : i + 1 < xss.length
        · rw [if_pos (by omega), if_pos (by omega), if_pos (by omega), Size_f p k (by omega) (by omega), Option.bind_some]
          have hd2 := dropL6 xss (i + 1) hlast
          rw [hd2] at g2
          rw [if_neg (by have := g2.1; omega), if_pos (by omega), e1]
          exact go
        · rw [if_neg (by omega), if_pos (by omega), if_pos (by omega), if_pos (by omega), e1]
          exact go
      rw [if_pos (by omega), if_pos (by omega), if_neg (by omega)]
      by_cases hi0 : (i : Int) > 0
      · obtain ⟨j, rfl⟩ : ∃ j, i = j + 1 := ⟨i - 1, by omega⟩
        have hdj := dropL6 xss j (by omega)
        have hgj := Good.drop j hg
        rw [hdj, hd] at hgj
        obtain ⟨_, ⟨_, a, b, ha, hb, hab⟩, _⟩ := hgj
        have hjoin : (xss.take (j + 1)).flatten.getLast? = some a := by
          rw [takeL6 xss j (by omega), List.getLast?_append, ha]
          rfl
        have hpos : 0 < (xss.take (j + 1)).flatten.length := by
          cases hq : (xss.take (j + 1)).flatten with
          | nil => rw [hq] at hjoin; cases hjoin
          | cons x t => simp
        have hu : ((PC.rd_T44 p 0).f0.f0.toList == (PC.rd_T44 (xss.take (j + 1)).flatten (((xss.take (j + 1)).flatten.length : Int) - 1)).f0.f0.toList) = false := by
          rw [rd_last _ a hjoin]
          have : PC.rd_T44 p 0 = b := by
            cases p with
            | nil => cases hb
            | cons x t =>
              cases hb
              rfl
          rw [this]
          exact hab
        rw [if_pos hi0, if_pos (by omega), w64 (((xss.take (j + 1)).flatten.length : Int) - 1) (by omega), if_pos (by omega), if_pos (by omega), hu]
        exact rest
      · rw [if_neg hi0]
        exact rest
    · have e : (xss.take i).flatten = l := by rw [List.take_of_length_le (by omega), hf]
      rw [if_neg (by omega), e, Same_f_refl l (k + 1) (by omega) (by omega), Option.bind_some, if_pos rfl]
theorem parts_f (l : List PC.S44) (size : Int) (hl : l.length * 48 ≤ 140737488351232) : PC.staddlelaw19_CompactParts.f (4 * l.length + 10) l size = some true := by
  unfold PC.staddlelaw19_CompactParts.f
  rw [show PC.staddlelaw19_awake.f = some true from rfl, Option.bind_some]
  rw [show PC.compact_Split.f (4 * l.length + 10) l size = some (splitA size l) from if_pos (by omega), Option.bind_some]
  by_cases hs : size < 1
  · have e : splitA size l = ([], 1) := if_pos hs
    rw [e]
    rfl
  · by_cases hr : risesB l = true
    · have e : splitA size l = (RS size [] 0 l, 0) := by unfold splitA; rw [if_neg hs, if_pos hr, splitL_RS size (by omega)]
      have hx := (splitA_flat size l).2
      rw [e] at hx ⊢
      rw [if_pos rfl]
      have hf : (RS size [] 0 l).flatten = l := by
        cases l with
        | nil => rfl
        | cons x t => exact RS_flat size (x :: t) [] 0 (by simp)
      have hg := RS_good size l [] 0 rfl
      have hxl : (RS size [] 0 l).length ≤ l.length := by
        have : ∀ xss : List (List PC.S44), Good size xss → xss.length ≤ xss.flatten.length := by
          intro xss
          induction xss with
          | nil => intro _; simp
          | cons p t ih =>
            intro hg
            have h1 := ih hg.2.2
            have h2 : 0 < p.length := List.length_pos_iff.2 hg.1
            simp only [List.length_cons, List.flatten_cons, List.length_append]
            omega
        have := this _ hg
        rw [hf] at this
        exact this
      have := parts_l0 l size (RS size [] 0 l) hg hf (by omega) hxl (l.length) (4 * l.length + 10) 0 (by omega) (by omega) (by omega)
      simpa using this
    · have e : splitA size l = ([], 160) := by unfold splitA; rw [if_neg hs, if_neg hr]
      rw [e]
      rfl
theorem compactParts_row (a0 : Option Addr) (len0 cap0 : Nat) (a1 : Int) (w : World)
    (F0 : ∃ A len cap xs, Value.slice a0 len0 cap0 = .slice A len cap ∧ Kd.C PC.k44 w A len xs ∧ len ≤ cap ∧ len * 48 ≤ 140737488351232 ∧ (∀ p ∈ xs, Fits p) ∧ (A = none → cap = 0)) (w1 : (Lit.int .i64 a1).wf = true) :
    Calls Try.prog 7 #[.slice a0 len0 cap0, .int .i64 a1] w fun e w' => e = .returned (.bool true) ∧ Below w.heap.size w w' := by
  obtain ⟨A, len, cap, xs, h0, h1, h2, h3, _⟩ := F0
  cases h0
  obtain rfl : xs.length = len0 := h1.1
  exact PC.staddlelaw19_CompactParts.calls _ a0 cap0 xs a1 true w h1 h2 (parts_f xs a1 h3)

end Go.Proofs.Ytehoojmalhloeaa.CM
