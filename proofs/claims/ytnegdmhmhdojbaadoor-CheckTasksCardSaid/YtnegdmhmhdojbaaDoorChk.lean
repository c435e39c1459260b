/-
  The faults of a tree, of a task and of a program, as plain data (layer 15). No program is named here.
-/
import Derived.Test.YtnegdmhmhdojbaaDoorProg12
import Derived.Test.YtnegdmhmhdojbaaDoorMemSet
import Derived.Test.YtnegdmhmhdojbaaDoorItems
namespace Go.Proofs.YtnegdmhmhdojbaaDoor
set_option linter.unusedVariables false
set_option linter.unusedSimpArgs false

/-- the names that surround a node -/
structure Nms where
  shared : List ByteArray
  scalars : List ByteArray
  arrays : List ByteArray
/-- the error of a node itself -/
def faultN (d : Nms) (kind : Int) (name : ByteArray) (place : Bool) (loops locks : List ByteArray) : Int :=
  if kind = 2 then
    if place && memB loops name then 7
    else if memB d.scalars name || memB loops name then 0
    else if memB d.arrays name || memB d.shared name then 7
    else 6
  else if kind = 3 then
    if memB d.arrays name then 0
    else if memB d.shared name then (if memB locks name then 0 else 12)
    else if memB d.scalars name || memB loops name then 7
    else 6
  else if kind = 42 then
    if (memB d.scalars name || memB loops name) || (memB d.arrays name || memB d.shared name) then 8 else 0
  else if kind = 46 then
    if memB d.shared name then (if locks = [] then 0 else 12) else 6
  else 0
/-- a fault: the path, the error, the name -/
structure Flt where
  path : List Int
  err : Int
  name : ByteArray
/-- loops and locks around the children -/
def loopsIn (t : Tree) (l : List ByteArray) : List ByteArray := if t.kind = 42 then l ++ [t.name] else l
def locksIn (t : Tree) (l : List ByteArray) : List ByteArray := if t.kind = 46 then l ++ [t.name] else l
/-- whether a child is the place of an assignment or input -/
def placeIn (t : Tree) (i : Nat) : Bool := decide (i = 0) && (decide (t.kind = 40) || decide (t.kind = 44))
/-- what the node itself is blamed for -/
def ownF (d : Nms) (t : Tree) (path : List Int) (place : Bool) (loops locks : List ByteArray) : List Flt :=
  if faultN d t.kind t.name place loops locks = 0 then [] else [⟨path, faultN d t.kind t.name place loops locks, t.name⟩]
/-- the faults of a tree -/
def faultsT (d : Nms) : Tree → List Int → Bool → List ByteArray → List ByteArray → List Flt
  | .node k n s l kid => fun path place loops locks =>
    ownF d (.node k n s l kid) path place loops locks ++
      concatTo (fun i => if h : i < l then faultsT d (kid ⟨i, h⟩) (path ++ [(i : Int)]) (placeIn (.node k n s l kid) i) (loopsIn (.node k n s l kid) loops) (locksIn (.node k n s l kid) locks) else []) l
theorem faultsT_eq (d : Nms) (t : Tree) (path : List Int) (place : Bool) (loops locks : List ByteArray) :
    faultsT d t path place loops locks = ownF d t path place loops locks ++ concatTo (fun i => faultsT d (t.kid i) (path ++ [(i : Int)]) (placeIn t i) (loopsIn t loops) (locksIn t locks)) t.len := by
  cases t with
  | node k n s l kid =>
    rw [faultsT]
    refine congrArg (ownF d (.node k n s l kid) path place loops locks ++ ·) (concatTo_congr fun i hi => ?_)
    have hi' : i < l := hi
    rw [dif_pos hi', Tree.kid_node hi']
/-- declarations, one after the other: the names so far, the faults -/
def declF (known : ByteArray → Bool) : List ByteArray → List ByteArray → List Flt
  | _, [] => []
  | so, x :: l => (if known x || memB so x then [⟨[], 8, x⟩] else []) ++ declF known (so ++ [x]) l
theorem memB_append (S T : List ByteArray) (s : ByteArray) : memB (S ++ T) s = (memB S s || memB T s) := by unfold memB; simp
theorem declF_snoc (known : ByteArray → Bool) : ∀ (l so : List ByteArray) (x : ByteArray), declF known so (l ++ [x]) = declF known so l ++ (if known x || memB (so ++ l) x then [⟨[], 8, x⟩] else [])
  | [], so, x => by simp [declF]
  | y :: l, so, x => by
    rw [List.cons_append, declF, declF, declF_snoc known l (so ++ [y]) x, List.append_assoc, List.append_assoc]
    simp
/-- the faults of a task, apart from its own name -/
def taskF (shared : List ByteArray) (t : Tsk) : List Flt :=
  declF (memB shared) [] (t.vars ++ t.arrays.map (·.name)) ++ faultsT ⟨shared, t.vars, t.arrays.map (·.name)⟩ t.body [] false [] []
/-- a fault with its task -/
structure TFlt where
  task : Int
  flt : Flt
def tasksF (shared : List ByteArray) : List ByteArray → Nat → List Tsk → List TFlt
  | _, _, [] => []
  | so, i, t :: l => ((if memB so t.name then [Flt.mk [] 8 t.name] else []) ++ taskF shared t).map (fun f => TFlt.mk (i : Int) f) ++ tasksF shared (so ++ [t.name]) (i + 1) l
/-- the faults of a program -/
def checkF (p : Prg) : List TFlt :=
  (declF (fun _ => false) [] (p.shared.map (·.name))).map (fun f => TFlt.mk (-1) f) ++ tasksF (p.shared.map (·.name)) [] 0 p.tasks
end Go.Proofs.YtnegdmhmhdojbaaDoor
