/- Entries in parts: the document's answer is the program's. No program in sight. -/
import Derived.Test.YtehoojmalhloeaaPCx6
import Derived.Test.YtehoojmalhloeaaDX
namespace Go.Proofs.Ytehoojmalhloeaa.CM
open Go.RowKit Go.Proofs.YtehoojmalhloeaaW.PrintWords
set_option linter.unusedVariables false
set_option linter.unusedSimpArgs false

def addn (n : Int) (x : PC.S44) : Int := wrap64 (wrap64 (wrap64 (n + (x.f0.f0.size : Int)) + (x.f1.size : Int)) + 16)
theorem addn_eq (n : Int) (x : PC.S44) : addn n x = wrap64 (n + szP x) := by
  unfold addn szP wrap64
  omega
/-- Is a part over behind x? n: its bytes. -/
def cutB (size n : Int) (x : PC.S44) (t : List PC.S44) : Bool := match t with
  | [] => true
  | y :: _ => decide (size ≤ n) && !(sameU y x)
/-- The parts, entry by entry. -/
def RS (size : Int) : List PC.S44 → Int → List PC.S44 → List (List PC.S44)
  | _, _, [] => []
  | part, n, x :: t => if cutB size (addn n x) x t = true then (part ++ [x]) :: RS size [] 0 t else RS size (part ++ [x]) (addn n x) t
theorem RS_cons (size : Int) (part : List PC.S44) (n : Int) (x : PC.S44) (t : List PC.S44) : RS size part n (x :: t) = if cutB size (addn n x) x t = true then (part ++ [x]) :: RS size [] 0 t else RS size (part ++ [x]) (addn n x) t := rfl

theorem getD_drop (l : List PC.S44) (i : Nat) (h : i < l.length) : l.drop i = l.getD i PC.z44 :: l.drop (i + 1) := by
  rw [List.drop_eq_getElem_cons h]
  simp [List.getD_eq_getElem?_getD, List.getElem?_eq_getElem h]
theorem mid_snoc (l : List PC.S44) (f i : Nat) (hf : f ≤ i) (h : i < l.length) : (l.take (i + 1)).drop f = (l.take i).drop f ++ [l.getD i PC.z44] := by
  have : l.take (i + 1) = l.take i ++ [l.getD i PC.z44] := by
    rw [List.take_add_one, List.getElem?_eq_getElem h]
    simp [List.getD_eq_getElem?_getD, List.getElem?_eq_getElem h]
  rw [this, List.drop_append_of_le_length (by rw [List.length_take]; omega)]
theorem Split_l0 (l : List PC.S44) (size : Int) (hl : l.length ≤ 2932031007317) : ∀ (m k i f : Nat) (out : List (List PC.S44)) (n : Int), l.length - i ≤ m → m + 1 ≤ k → i ≤ l.length → f ≤ i → out.length ≤ i →
    PC.staddleref19_Split.l0 k l size out (f : Int) n (i : Int) = some (out ++ RS size ((l.take i).drop f) n (l.drop i), 0)
  | m, 0, i, f, out, n, _, hk, _, _, _ => by omega
  | m, k + 1, i, f, out, n, hm, hk, hi, hf, ho => by
    unfold PC.staddleref19_Split.l0
    by_cases h : i < l.length
    · rw [if_pos (by omega), if_pos (by omega), w64 ((l.length : Int) - 1) (by omega), w64 ((i : Int) + 1) (by omega), getD_drop l i h, RS_cons]
      have e1 : ((i : Int) + 1) = ((i + 1 : Nat) : Int) := by omega
      have hmid := mid_snoc l f i hf h
      have hlm : ((l.take (i + 1)).drop f).length < 2932031007402 := by rw [List.length_drop, List.length_take]; omega
      by_cases hlast : i + 1 = l.length
      · rw [if_pos (by omega)]
        have hd : l.drop (i + 1) = [] := List.drop_of_length_le (by omega)
        rw [hd, show cutB size (addn n (l.getD i PC.z44)) (l.getD i PC.z44) [] = true from rfl, if_pos rfl]
        rw [Option.bind_some, if_pos (by omega), if_pos (by omega), if_pos (by omega), Option.bind_some, e1]
        simp only [Int.toNat_natCast]
        rw [if_pos (by simpa using hlm), if_pos (by omega)]
        have := Split_l0 l size hl (m - 1) k (i + 1) (i + 1) (out ++ [[] ++ (l.take (i + 1)).drop f]) 0 (by omega) (by omega) (by omega) (Nat.le_refl _) (by simp; omega)
        rw [this, hd, List.nil_append, hmid]
        simp [RS]
      · rw [if_neg (by omega), rd44]
        have hd := getD_drop l (i + 1) (by omega)
        have hc : cutB size (addn n (l.getD i PC.z44)) (l.getD i PC.z44) (l.drop (i + 1)) = (decide (size ≤ addn n (l.getD i PC.z44)) && !(sameU (l.getD (i + 1) PC.z44) (l.getD i PC.z44))) := by rw [hd]; rfl
        rw [hc]
        have go := Split_l0 l size hl (m - 1) k (i + 1) f out (addn n (l.getD i PC.z44)) (by omega) (by omega) (by omega) (by omega) (by omega)
        show (if addn n (l.getD i PC.z44) ≥ size then _ else _) = _
        by_cases hn : size ≤ addn n (l.getD i PC.z44)
        · rw [if_pos hn, if_pos (by omega), if_pos (by omega), e1, rd44, decide_eq_true hn, Bool.true_and]
          by_cases hu : (l.getD (i + 1) PC.z44).f0.f0.toList = (l.getD i PC.z44).f0.f0.toList
          · have hs : sameU (l.getD (i + 1) PC.z44) (l.getD i PC.z44) = true := beq_iff_eq.mpr hu
            rw [if_pos hu, hs, if_neg (by decide)]
            rw [hmid] at go
            exact go
          · have hs : sameU (l.getD (i + 1) PC.z44) (l.getD i PC.z44) = false := beq_eq_false_iff_ne.mpr hu
            rw [if_neg hu, hs, if_pos (by decide)]
            rw [Option.bind_some, if_pos (by omega), if_pos (by omega), if_pos (by omega), Option.bind_some]
            simp only [Int.toNat_natCast]
            rw [if_pos (by simpa using hlm), if_pos (by omega)]
            have := Split_l0 l size hl (m - 1) k (i + 1) (i + 1) (out ++ [[] ++ (l.take (i + 1)).drop f]) 0 (by omega) (by omega) (by omega) (Nat.le_refl _) (by simp; omega)
            rw [this, List.nil_append, hmid]
            have e0 : (l.take (i + 1)).drop (i + 1) = [] := List.drop_of_length_le (by rw [List.length_take]; omega)
            rw [e0]
            simp
        · rw [if_neg hn, decide_eq_false hn, Bool.false_and, if_neg (by decide), e1]
          rw [hmid] at go
          exact go
    · have hd : l.drop i = [] := List.drop_of_length_le (by omega)
      rw [if_neg (by omega), hd]
      simp [RS]

/-! ### user by user -/
theorem RS_group (size : Int) (x0 : PC.S44) (r : List PC.S44) (hr : ∀ y, r.head? = some y → sameU y x0 = false) : ∀ (g part : List PC.S44) (n : Int), (∀ y ∈ g, sameU y x0 = true) → g ≠ [] →
    RS size part n (g ++ r) = if r = [] then [part ++ g] else if size ≤ sumP n g then (part ++ g) :: RS size [] 0 r else RS size (part ++ g) (sumP n g) r
  | [], _, _, _, h => absurd rfl h
  | [x], part, n, hg, _ => by
    show RS size part n (x :: r) = _
    rw [RS_cons]
    have hs : sumP n [x] = addn n x := by rw [addn_eq]; rfl
    rw [hs]
    cases r with
    | nil => rfl
    | cons y r =>
      have hx := hg x (by simp)
      have hy : sameU y x = false := by rw [sameU_cong hx]; exact hr y rfl
      rw [show cutB size (addn n x) x (y :: r) = (decide (size ≤ addn n x) && !(sameU y x)) from rfl, hy, if_neg (show ¬ y :: r = [] by simp)]
      by_cases hn : size ≤ addn n x
      · rw [if_pos hn, decide_eq_true hn]
        rfl
      · rw [if_neg hn, decide_eq_false hn]
        rfl
  | x :: x' :: g, part, n, hg, _ => by
    have ih := RS_group size x0 r hr (x' :: g) (part ++ [x]) (addn n x) (fun y hy => hg y (by simp [hy])) (by simp)
    show RS size part n (x :: (x' :: g ++ r)) = _
    have hxx : sameU x' x = true := by
      rw [sameU_cong (hg x (by simp))]
      exact hg x' (by simp)
    rw [RS_cons, show cutB size (addn n x) x (x' :: g ++ r) = (decide (size ≤ addn n x) && !(sameU x' x)) from rfl, hxx, show (decide (size ≤ addn n x) && !true) = false by simp, if_neg (by decide), ih]
    have hs : sumP n (x :: x' :: g) = sumP (addn n x) (x' :: g) := by
      rw [addn_eq]
      rfl
    rw [hs]
    simp
/-- What the rounds leave. -/
def finS (st : SSt) : List (List PC.S44) := if st.2.1 = [] then st.1 else st.1 ++ [st.2.1]
theorem fin_RS (size : Int) (hsize : 1 ≤ size) : ∀ (m : Nat) (l : List PC.S44) (outs : List (List PC.S44)) (part : List PC.S44) (n : Int), l.length ≤ m →
    finS ((groups l).foldl (stepS size) (outs, part, n)) = if l = [] then finS (outs, part, n) else if size ≤ n then outs ++ [part] ++ RS size [] 0 l else outs ++ RS size part n l
  | _, [], outs, part, n, _ => by simp [groups]
  | 0, _ :: _, _, _, _, h => by simp at h
  | m + 1, x :: t, outs, part, n, hm => by
    obtain ⟨g, hg⟩ : ∃ g, t.takeWhile (fun y => sameU y x) = g := ⟨_, rfl⟩
    obtain ⟨r, hr⟩ : ∃ r, t.dropWhile (fun y => sameU y x) = r := ⟨_, rfl⟩
    have ht : t = g ++ r := by rw [← hg, ← hr]; exact (List.takeWhile_append_dropWhile).symm
    have hgs : ∀ y ∈ x :: g, sameU y x = true := fun y hy => by
      rcases List.mem_cons.1 hy with rfl | hy
      · exact sameU_refl _
      · rw [← hg] at hy
        exact mem_tw (fun y => sameU y x) _ _ hy
    have hrs : ∀ y, r.head? = some y → sameU y x = false := fun y hy => by
      have h2 := List.head?_dropWhile_not (fun y => sameU y x) t
      rw [hr, hy] at h2
      simpa using h2
    have hlr : r.length ≤ m := by
      have := congrArg List.length ht
      simp at this hm
      omega
    rw [groups_span, hg, hr, List.foldl_cons, if_neg (show ¬ x :: t = [] by simp)]
    have hxt : x :: t = (x :: g) ++ r := by rw [ht]; rfl
    -- one round
    have one : ∀ (outs : List (List PC.S44)) (part : List PC.S44) (n : Int), finS ((groups r).foldl (stepS size) (outs, part ++ (x :: g), sumP n (x :: g))) = outs ++ RS size part n (x :: t) := by
      intro outs part n
      rw [hxt, RS_group size x r hrs (x :: g) part n hgs (by simp), fin_RS size hsize m r outs (part ++ (x :: g)) (sumP n (x :: g)) hlr]
      by_cases h0 : r = []
      · rw [if_pos h0, if_pos h0]
        unfold finS
        rw [if_neg (by simp)]
      · rw [if_neg h0, if_neg h0]
        split <;> simp
    by_cases hn : size ≤ n
    · rw [if_pos hn]
      have e : stepS size (outs, part, n) (x :: g) = (outs ++ [part], [] ++ (x :: g), sumP 0 (x :: g)) := by
        simp [stepS, stepF, hn]
      rw [e, one]
    · rw [if_neg hn]
      have e : stepS size (outs, part, n) (x :: g) = (outs, part ++ (x :: g), sumP n (x :: g)) := by
        simp [stepS, stepF, hn]
      rw [e, one]
theorem splitL_RS (size : Int) (hsize : 1 ≤ size) (l : List PC.S44) : splitL size l = RS size [] 0 l := by
  have := fin_RS size hsize l.length l [] [] 0 (Nat.le_refl _)
  have e : splitL size l = finS ((groups l).foldl (stepS size) ([], [], 0)) := rfl
  rw [e, this]
  by_cases h : l = []
  · subst h
    rfl
  · rw [if_neg h, if_neg (by omega)]
    simp
theorem refSplitA (l : List PC.S44) (size : Int) (k : Nat) (hl : l.length ≤ 2932031007317) (hk : l.length + 1 ≤ k) : PC.staddleref19_Split.f k l size = some (splitA size l) := by
  unfold PC.staddleref19_Split.f splitA
  by_cases hs : size < 1
  · rw [if_pos hs, if_pos hs]
  · rw [if_neg hs, if_neg hs, Rises_f l k (by omega) hk, Option.bind_some]
    by_cases hr : risesB l = true
    · rw [if_pos hr, if_pos hr]
      have := Split_l0 l size hl l.length k 0 0 [] 0 (by omega) hk (by omega) (Nat.le_refl _) (by simp)
      rw [splitL_RS size (by omega)]
      simpa using this
    · rw [if_neg hr, if_neg hr]

end Go.Proofs.Ytehoojmalhloeaa.CM
