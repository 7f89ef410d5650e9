/- sched: the tasks and their world, in plain words; where they lie in memory. -/
import Derived.Test.YtkcjghdopmigoaaPSchedLocksx1
import Derived.Lib.Hide
import Derived.IntWalk
namespace Go.Proofs.Ytkcjghdopmigoaa.SC
open Go.RowKit Go.Proofs.YtkcjghdopmigoaaW.PrintWords
set_option linter.unusedVariables false
set_option linter.unusedSimpArgs false
set_option maxRecDepth 100000

abbrev I := PSchedLocks.S35
abbrev kI : Kd I := PSchedLocks.k35
abbrev zI : I := PSchedLocks.z35
/-- What was told. -/
structure Em where
  task : Int
  value : Int
def zE : Em := ⟨0, 0⟩
def kE : Kd Em := Kd.iso (Kd.pair (Kd.int .i64) (Kd.int .i64)) (fun x : Em => (x.task, x.value))
theorem kE_open {w : World} {x : Em} {cs : List Value} (h : kE.K w x cs) : cs = [.int .i64 x.task, .int .i64 x.value] := by
  obtain ⟨_, _, rfl, rfl, rfl⟩ := h
  exact rfl
theorem kE_openM {w : World} {base : Nat} {ok : Nat → Prop} {x : Em} {cs : List Value} (h : kE.M w base ok x cs) : cs = [.int .i64 x.task, .int .i64 x.value] := by
  obtain ⟨_, _, rfl, rfl, rfl⟩ := h
  exact rfl
theorem kE_mk (w : World) (x : Em) : kE.K w x [.int .i64 x.task, .int .i64 x.value] := ⟨[.int .i64 x.task], [.int .i64 x.value], rfl, rfl, rfl⟩
theorem kE_mkM (w : World) (base : Nat) (ok : Nat → Prop) (x : Em) : kE.M w base ok x [.int .i64 x.task, .int .i64 x.value] := ⟨[.int .i64 x.task], [.int .i64 x.value], rfl, rfl, rfl⟩

/-- A task. -/
structure Tk where
  code : List I
  pc : Nat
  r : List Int
  ended : Bool
  bad : Bool
  cond : Int
  wants : Int
/-- All tasks, and what they share. -/
structure Wd where
  ts : List Tk
  cells : List Int
  has : List Int
  emits : List Em

def regB (n : Int) : Bool := decide (0 ≤ n) && decide (n < 4)
def celB (n : Int) : Bool := decide (0 ≤ n) && decide (n < 16)
def plcB (n : Int) (len : Nat) : Bool := decide (0 ≤ n) && decide (n < (len : Int) + 1)
/-- May an instruction be, of so many? -/
def goodB (x : I) (len : Nat) : Bool :=
  if x.f0 = 1 then regB x.f1 && celB x.f2
  else if x.f0 = 2 then celB x.f1 && regB x.f2
  else if x.f0 = 3 then celB x.f1 && (regB x.f2 && regB x.f3)
  else if x.f0 = 10 then celB x.f1 && celB x.f2
  else if x.f0 = 8 ∨ x.f0 = 9 ∨ x.f0 = 11 ∨ x.f0 = 12 then celB x.f1
  else if x.f0 = 6 then regB x.f1 && plcB x.f2 len
  else if x.f0 = 7 then plcB x.f2 len
  else if x.f0 = 4 ∨ x.f0 = 5 ∨ x.f0 = 13 then regB x.f1
  else x.f0 == 14
/-- A task that is behind its last instruction ends. -/
def endT (t : Tk) : Tk := { t with ended := t.ended || decide (t.code.length ≤ t.pc) }
def insT (t : Tk) : I := t.code.getD t.pc zI
def canW (D : Wd) (t : Tk) : Bool :=
  if t.ended = true ∨ t.bad = true ∨ t.cond ≠ -1 then false
  else if t.wants ≠ -1 then D.has.getD t.wants.toNat 0 == -1
  else (insT t).f0 != 8 || D.has.getD (insT t).f1.toNat 0 == -1
/-- Told: the first that waits for a condition, or all. -/
def wakeL (one : Bool) (c : Int) : List Tk → List Tk
  | [] => []
  | t :: ts => if t.cond = c then { t with cond := -1 } :: (if one = true then ts else wakeL one c ts) else t :: wakeL one c ts
def nxT (t : Tk) : Tk := { t with pc := t.pc + 1 }
/-- A mutex is given back, or the task is bad. -/
def leaveW (D : Wd) (i : Nat) (t : Tk) (m : Nat) : Wd :=
  if D.has.getD m 0 ≠ (i : Int) then { D with ts := D.ts.set i { t with bad := true } } else { D with ts := D.ts.set i t, has := D.has.set m (-1) }
/-- An instruction x of the task i, t, whose next place is told already. -/
def doI (D : Wd) (i : Nat) (t : Tk) (x : I) : Wd :=
  if x.f0 = 1 then { D with ts := D.ts.set i { t with r := t.r.set x.f1.toNat (D.cells.getD x.f2.toNat 0) } }
  else if x.f0 = 2 then { D with ts := D.ts.set i t, cells := D.cells.set x.f1.toNat (t.r.getD x.f2.toNat 0) }
  else if x.f0 = 3 then
    (if D.cells.getD x.f1.toNat 0 = t.r.getD x.f2.toNat 0 then { D with ts := D.ts.set i { t with r := (t.r.set 3 0).set 3 1 }, cells := D.cells.set x.f1.toNat (t.r.getD x.f3.toNat 0) }
      else { D with ts := D.ts.set i { t with r := t.r.set 3 0 } })
  else if x.f0 = 4 then { D with ts := D.ts.set i { t with r := t.r.set x.f1.toNat (wrap64 x.f2) } }
  else if x.f0 = 5 then { D with ts := D.ts.set i { t with r := t.r.set x.f1.toNat (wrap64 (t.r.getD x.f1.toNat 0 + x.f2)) } }
  else if x.f0 = 6 then (if t.r.getD x.f1.toNat 0 ≠ 0 then { D with ts := D.ts.set i t } else { D with ts := D.ts.set i { t with pc := x.f2.toNat } })
  else if x.f0 = 7 then { D with ts := D.ts.set i { t with pc := x.f2.toNat } }
  else if x.f0 = 8 then { D with ts := D.ts.set i t, has := D.has.set x.f1.toNat (i : Int) }
  else if x.f0 = 9 then leaveW D i t x.f1.toNat
  else if x.f0 = 10 then (if D.has.getD x.f2.toNat 0 ≠ (i : Int) then leaveW D i t x.f2.toNat else leaveW D i { t with cond := x.f1, wants := x.f2, pc := t.pc - 1 } x.f2.toNat)
  else if x.f0 = 11 then { D with ts := wakeL true x.f1 (D.ts.set i t) }
  else if x.f0 = 12 then { D with ts := wakeL false x.f1 (D.ts.set i t) }
  else if x.f0 = 13 then { D with ts := D.ts.set i t, emits := D.emits ++ [⟨(i : Int), t.r.getD x.f1.toNat 0⟩] }
  else if x.f0 = 14 then { D with ts := D.ts.set i { t with ended := true } }
  else { D with ts := D.ts.set i t }
def stepW (D : Wd) (i : Nat) (t : Tk) : Wd :=
  if t.wants ≠ -1 then { D with ts := D.ts.set i { t with wants := -1, pc := t.pc + 1 }, has := D.has.set t.wants.toNat (i : Int) }
  else doI D i (nxT t) (insT t)
def stateW (D : Wd) (t : Tk) : Int := if t.bad = true then 3 else if t.ended = true then 2 else if canW D t = true then 0 else 1

/-! ### where they lie -/
def nums (l : List Int) : List Value := l.map (Value.int .i64)
def wArr (tv es : Value) (c h : List Int) : List Value := tv :: (nums c ++ (nums h ++ [es]))
def tArr (t : Tk) (cv : Value) : List Value := cv :: .int .i64 (t.pc : Int) :: (nums t.r ++ [.bool t.ended, .bool t.bad, .int .i64 t.cond, .int .i64 t.wants])
structure Mem (w0 w : World) (g : Nat) (T : Nat → Nat) (cv : Nat → Value) (tv es : Value) (D : Wd) : Prop where
  bel : Below w0.heap.size w0 w
  wb : w.heap[g]? = some (.cells (wArr tv es D.cells D.has).toArray 44 (0, 0))
  lc : D.cells.length = 16
  lh : D.has.length = 16
  gb : w0.heap.size ≤ g
  row : w.ownsRow w0.heap.size 48 1 tv D.ts.length ((List.range D.ts.length).map (fun i => Value.pointer (some ⟨T i, 0, none⟩)))
  tb : ∀ i t, D.ts[i]? = some t → w.heap[T i]? = some (.cells (tArr t (cv i)).toArray 51 (0, 0)) ∧ t.r.length = 4 ∧ (∃ A c, cv i = .slice A t.code.length c ∧ t.code.length ≤ c ∧ Kd.C kI w0 A t.code.length t.code) ∧ w0.heap.size ≤ T i
  inj : ∀ i j, i < D.ts.length → j < D.ts.length → T i = T j → i = j
  em : Kd.R kE 32 w w0.heap.size (fun _ => True) es D.emits
end Go.Proofs.Ytkcjghdopmigoaa.SC
