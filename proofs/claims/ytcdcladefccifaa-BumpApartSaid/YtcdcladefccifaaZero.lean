/-
  A new arena's cells: the zero value of its type, read off the program's table of types. No condition.
-/
import Derived.Test.YtcdcladefccifaaProg
import Derived.WalkKit
import Derived.KernelRfl
namespace Go.Proofs
namespace ZZ
def isZ : Value → Bool
  | .int .u8 n => n == 0
  | _ => false
theorem isZ_eq {v : Value} (h : isZ v = true) : v = .int .u8 0 := by
  unfold isZ at h
  split at h
  · rename_i n; have : n = 0 := by simpa using h
    rw [this]
  · cases h
def one : List Value → Option (List Value)
  | [] => none
  | v :: r => if isZ v then some r else none
def eat : Nat → List Value → Option (List Value)
  | 0, l => one l
  | d + 1, l => (eat d l).bind (eat d)
theorem one_eq {l r : List Value} (h : one l = some r) : l = List.replicate 1 (.int .u8 0) ++ r := by
  unfold one at h
  split at h
  · cases h
  · split at h
    · rename_i hz; injection h with h; subst h; rw [isZ_eq hz]; rfl
    · cases h
theorem eat_eq (d : Nat) : ∀ {l r : List Value}, eat d l = some r → l = List.replicate (2 ^ d) (.int .u8 0) ++ r := by
  induction d with
  | zero => intro l r h; exact one_eq h
  | succ d ih =>
    intro l r h
    unfold eat at h
    obtain ⟨m, h1, h2⟩ := Option.bind_eq_some_iff.1 h
    rw [ih h1, ih h2, ← List.append_assoc, List.replicate_append_replicate, Nat.pow_succ, Nat.mul_two]
def ends : Option (List Value) → Bool
  | some [.int .i64 a, .int .i64 b, .slice none 0 0] => a == 0 && b == 0
  | _ => false
theorem ends_eq {o : Option (List Value)} (h : ends o = true) : o = some [.int .i64 0, .int .i64 0, .slice none 0 0] := by
  unfold ends at h
  split at h
  · rename_i a b
    simp only [Bool.and_eq_true, beq_iff_eq] at h
    rw [h.1, h.2]
  · cases h
def zl : Option Value → List Value
  | some (.agg c) => c.toList
  | _ => []
def isAgg : Option Value → Bool
  | some (.agg _) => true
  | _ => false
/-- the bytes of a new arena -/
def zb : List Int := List.replicate 65536 0
/-- an arena's cells -/
def cs (m : List Int) (size used : Int) (cv : Value) : List Value := m.map (fun x => Value.int .u8 x) ++ [Value.int .i64 size, Value.int .i64 used, cv]
theorem zeroIs {z : Option Value} (ha : isAgg z = true) (h : ends (eat 16 (zl z)) = true) :
    z = some (.agg (cs zb 0 0 (.slice none 0 0)).toArray) := by
  unfold isAgg at ha
  split at ha
  · rename_i c
    have h' := eat_eq 16 (ends_eq h)
    simp only [zl] at h'
    have : c = c.toList.toArray := by simp
    rw [this, h']
    unfold cs zb
    rw [List.map_replicate]
  · cases ha
end ZZ
theorem e16 : ZZ.ends (ZZ.eat 16 (ZZ.zl Try.t54.zero)) = true := by kernel_rfl
theorem zero54 : Try.t54.zero = some (.agg (ZZ.cs ZZ.zb 0 0 (.slice none 0 0)).toArray) := ZZ.zeroIs (by kernel_rfl) e16
#print axioms zero54
