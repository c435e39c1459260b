/-
  ChkFaults: several texts in one (Chk, ChkFault, ChkWith).
-/
import Derived.Test.YtnegdmhmhdojbaaDoorTreeBase
import Derived.Test.YtnegdmhmhdojbaaDoorMemSet
import Derived.Test.YtnegdmhmhdojbaaDoorProg
import Derived.Lib.Hide
import Derived.BigGuardPart
import Derived.Outline
/-
  The faults of a tree, of a task and of a program, as plain data (layer 15). No program is named here.
-/
namespace Go.Proofs.YtnegdmhmhdojbaaDoor
set_option linter.unusedVariables false
set_option linter.unusedSimpArgs false

/-- the names that surround a node -/
structure Nms where
  shared : List ByteArray
  scalars : List ByteArray
  arrays : List ByteArray
/-- the error of a node itself -/
def faultN (d : Nms) (kind : Int) (name : ByteArray) (place : Bool) (loops locks : List ByteArray) : Int :=
  if kind = 2 then
    if place && memB loops name then 7
    else if memB d.scalars name || memB loops name then 0
    else if memB d.arrays name || memB d.shared name then 7
    else 6
  else if kind = 3 then
    if memB d.arrays name then 0
    else if memB d.shared name then (if memB locks name then 0 else 12)
    else if memB d.scalars name || memB loops name then 7
    else 6
  else if kind = 42 then
    if (memB d.scalars name || memB loops name) || (memB d.arrays name || memB d.shared name) then 8 else 0
  else if kind = 46 then
    if memB d.shared name then (if locks = [] then 0 else 12) else 6
  else 0
/-- a fault: the path, the error, the name -/
structure Flt where
  path : List Int
  err : Int
  name : ByteArray
/-- loops and locks around the children -/
def loopsIn (t : Tree) (l : List ByteArray) : List ByteArray := if t.kind = 42 then l ++ [t.name] else l
def locksIn (t : Tree) (l : List ByteArray) : List ByteArray := if t.kind = 46 then l ++ [t.name] else l
/-- whether a child is the place of an assignment or input -/
def placeIn (t : Tree) (i : Nat) : Bool := decide (i = 0) && (decide (t.kind = 40) || decide (t.kind = 44))
/-- what the node itself is blamed for -/
def ownF (d : Nms) (t : Tree) (path : List Int) (place : Bool) (loops locks : List ByteArray) : List Flt :=
  if faultN d t.kind t.name place loops locks = 0 then [] else [⟨path, faultN d t.kind t.name place loops locks, t.name⟩]
/-- the faults of a tree -/
def faultsT (d : Nms) : Tree → List Int → Bool → List ByteArray → List ByteArray → List Flt
  | .node k n s l kid => fun path place loops locks =>
    ownF d (.node k n s l kid) path place loops locks ++
      concatTo (fun i => if h : i < l then faultsT d (kid ⟨i, h⟩) (path ++ [(i : Int)]) (placeIn (.node k n s l kid) i) (loopsIn (.node k n s l kid) loops) (locksIn (.node k n s l kid) locks) else []) l
theorem faultsT_eq (d : Nms) (t : Tree) (path : List Int) (place : Bool) (loops locks : List ByteArray) :
    faultsT d t path place loops locks = ownF d t path place loops locks ++ concatTo (fun i => faultsT d (t.kid i) (path ++ [(i : Int)]) (placeIn t i) (loopsIn t loops) (locksIn t locks)) t.len := by
  cases t with
  | node k n s l kid =>
    rw [faultsT]
    refine congrArg (ownF d (.node k n s l kid) path place loops locks ++ ·) (concatTo_congr fun i hi => ?_)
    have hi' : i < l := hi
    rw [dif_pos hi', Tree.kid_node hi']
/-- declarations, one after the other: the names so far, the faults -/
def declF (known : ByteArray → Bool) : List ByteArray → List ByteArray → List Flt
  | _, [] => []
  | so, x :: l => (if known x || memB so x then [⟨[], 8, x⟩] else []) ++ declF known (so ++ [x]) l
theorem memB_append (S T : List ByteArray) (s : ByteArray) : memB (S ++ T) s = (memB S s || memB T s) := by unfold memB; simp
theorem declF_snoc (known : ByteArray → Bool) : ∀ (l so : List ByteArray) (x : ByteArray), declF known so (l ++ [x]) = declF known so l ++ (if known x || memB (so ++ l) x then [⟨[], 8, x⟩] else [])
  | [], so, x => by simp [declF]
  | y :: l, so, x => by
    rw [List.cons_append, declF, declF, declF_snoc known l (so ++ [y]) x, List.append_assoc, List.append_assoc]
    simp
/-- the faults of a task, apart from its own name -/
def taskF (shared : List ByteArray) (t : Tsk) : List Flt :=
  declF (memB shared) [] (t.vars ++ t.arrays.map (·.name)) ++ faultsT ⟨shared, t.vars, t.arrays.map (·.name)⟩ t.body [] false [] []
/-- a fault with its task -/
structure TFlt where
  task : Int
  flt : Flt
def tasksF (shared : List ByteArray) : List ByteArray → Nat → List Tsk → List TFlt
  | _, _, [] => []
  | so, i, t :: l => ((if memB so t.name then [Flt.mk [] 8 t.name] else []) ++ taskF shared t).map (fun f => TFlt.mk (i : Int) f) ++ tasksF shared (so ++ [t.name]) (i + 1) l
/-- the faults of a program -/
def checkF (p : Prg) : List TFlt :=
  (declF (fun _ => false) [] (p.shared.map (·.name))).map (fun f => TFlt.mk (-1) f) ++ tasksF (p.shared.map (·.name)) [] 0 p.tasks
end Go.Proofs.YtnegdmhmhdojbaaDoor

/-
  Contracts: fault, with (package check); maps.Clone of a set of names; slices.Clone of ints.
-/
namespace Go.Proofs.YtnegdmhmhdojbaaDoor
set_option linter.unusedVariables false
set_option linter.unusedSimpArgs false
open Go.RowKit
set_option maxRecDepth 100000
set_option maxHeartbeats 8000000

abbrev SSet := StrSet Tryd.prog 9 4
theorem zeroB (w : World) : (zeroValue 4).run Tryd.prog w = .ok (.bool false) w := by kernel_rfl
theorem sset_get {w : World} {b n : Nat} {S : List ByteArray} (h : SSet w b n S) {s : ByteArray} (hs : s.size ≤ maxLen) : (Instr.lookup 72 (.map (some b)) (.string s) false).run Tryd.prog w = .ok (.bool (memB S s)) w :=
  h.run Tryd.underlying9 Tryd.underlying72 Tryd.underlying4 (zeroB w) hs
/-- the sets of a call's names, wherever they lie -/
structure NmsAt (w : World) (sb cb ab : Nat) (d : Nms) : Prop where
  shared : ∃ n, SSet w sb n d.shared
  scalars : ∃ n, SSet w cb n d.scalars
  arrays : ∃ n, SSet w ab n d.arrays
theorem NmsAt.below {w w' : World} {sb cb ab : Nat} {d : Nms} (h : NmsAt w sb cb ab d) (hB : Below w.heap.size w w') : NmsAt w' sb cb ab d :=
  ⟨h.shared.imp fun _ h => h.below hB, h.scalars.imp fun _ h => h.below hB, h.arrays.imp fun _ h => h.below hB⟩
theorem fault_any (d : Nms) (t : Tree) (place : Bool) (loops locks : List ByteArray) (sb cb ab lb kb nl nk : Nat) (a : Option Addr) (c : Nat) (w : World) (hd : NmsAt w sb cb ab d) (hl : SSet w lb nl loops) (hk : SSet w kb nk locks) (hs : t.name.size ≤ maxLen) :
    Calls Tryd.prog 62 #[.agg #[.map (some sb), .map (some cb), .map (some ab)], t.val a c, .bool place, .agg #[.map (some lb), .map (some kb)]] w fun e w' => e = .returned (.int .i64 (faultN d t.kind t.name place loops locks)) ∧ Below w.heap.size w w' := by
  obtain ⟨⟨ns, h1⟩, ⟨nc, h2⟩, ⟨na, h3⟩⟩ := hd
  obtain ⟨W, hW⟩ : ∃ W : World, ((w.alloc (.cells #[.map (some sb), .map (some cb), .map (some ab)] 87)).alloc (.cells #[.int .u8 t.kind, .int .i64 t.num, .string t.name, .slice a t.len c] 43)).alloc (.cells #[.map (some lb), .map (some kb)] 91) = W := ⟨_, rfl⟩
  have HBW : Hid (Below w.heap.size w W) := by show Below _ _ _; rw [← hW]; exact (((Below.refl _ _).alloc (Nat.le_refl _) _).alloc (by simp) _).alloc (by simp; omega) _
  have g1 := sset_get (h1.below HBW.out) hs
  have g2 := sset_get (h2.below HBW.out) hs
  have g3 := sset_get (h3.below HBW.out) hs
  have g4 := sset_get (hl.below HBW.out) hs
  have g5 := sset_get (hk.below HBW.out) hs
  obtain ⟨m, gl, hm, hmi⟩ := (hk.below HBW.out).len Tryd.underlying72 3
  have HMI := Lib.hid hmi
  obtain ⟨q0, q1, q2, _⟩ := mem_three w (.cells #[.map (some sb), .map (some cb), .map (some ab)] 87) (.cells #[.int .u8 t.kind, .int .i64 t.num, .string t.name, .slice a t.len c] 43) (.cells #[.map (some lb), .map (some kb)] 91)
  rw [hW] at q0 q1 q2
  have d0 : W.cell? ⟨w.heap.size, 0, none⟩ = some (.map (some sb)) := mem_cell q0 0
  have d1 : W.cell? ⟨w.heap.size, 1, none⟩ = some (.map (some cb)) := mem_cell q0 1
  have d2 : W.cell? ⟨w.heap.size, 2, none⟩ = some (.map (some ab)) := mem_cell q0 2
  have n0 : W.cell? ⟨w.heap.size + 1, 0, none⟩ = some (.int .u8 t.kind) := mem_cell q1 0
  have n2 : W.cell? ⟨w.heap.size + 1, 2, none⟩ = some (.string t.name) := mem_cell q1 2
  have s0 : W.cell? ⟨w.heap.size + 1 + 1, 0, none⟩ = some (.map (some lb)) := mem_cell q2 0
  have s1 : W.cell? ⟨w.heap.size + 1 + 1, 1, none⟩ = some (.map (some kb)) := mem_cell q2 1
  clear q0 q1 q2
  clear h1 h2 h3 hl hk hmi
  obtain ⟨b1, hb1⟩ : ∃ b, memB d.shared t.name = b := ⟨_, rfl⟩
  obtain ⟨b2, hb2⟩ : ∃ b, memB d.scalars t.name = b := ⟨_, rfl⟩
  obtain ⟨b3, hb3⟩ : ∃ b, memB d.arrays t.name = b := ⟨_, rfl⟩
  obtain ⟨b4, hb4⟩ : ∃ b, memB loops t.name = b := ⟨_, rfl⟩
  obtain ⟨b5, hb5⟩ : ∃ b, memB locks t.name = b := ⟨_, rfl⟩
  rw [hb1] at g1
  rw [hb2] at g2
  rw [hb3] at g3
  rw [hb4] at g4
  rw [hb5] at g5
  obtain ⟨r, hr⟩ : ∃ r, faultN d t.kind t.name place loops locks = r := ⟨_, rfl⟩
  have HR := Lib.hid hr
  unfold faultN at hr
  rw [hb1, hb2, hb3, hb4, hb5] at hr
  have HX := Lib.hid hr
  clear hb1 hb2 hb3 hb4 hb5 hr
  rw [HR.out]
  have FIN : ∀ x : Int, x = r → (Ending.returned (.int .i64 x) = Ending.returned (.int .i64 r) ∧ Below w.heap.size w W) := fun x hx => ⟨by rw [hx], HBW.out⟩
  have HFIN := Lib.hid FIN
  clear FIN
  by_cases k2 : t.kind = 2
  · have hx := HX.out
    rw [if_pos k2] at hx
    have HX2 := Lib.hid hx
    clear hx HX
    rw [k2] at n0
    clear k2
    cases place <;> cases b4 <;> cases b2 <;> cases b3 <;> cases b1
    all_goals
      go_enter Tryd.func62, Tryd.ntmps62
      go_wp2_with fail
      go_ret
      exact HFIN.out _ (by simpa using HX2.out)
  have k2' : (t.kind == 2) = false := by simpa using k2
  by_cases k3 : t.kind = 3
  · have hx := HX.out
    rw [if_neg k2, if_pos k3] at hx
    have HX2 := Lib.hid hx
    clear hx HX k2'
    rw [k3] at n0
    clear k3 k2
    cases b3 <;> cases b1 <;> cases b5 <;> cases b2 <;> cases b4
    all_goals
      go_enter Tryd.func62, Tryd.ntmps62
      go_wp2_with fail
      go_ret
      exact HFIN.out _ (by simpa using HX2.out)
  have k3' : (t.kind == 3) = false := by simpa using k3
  by_cases k4 : t.kind = 42
  · have hx := HX.out
    rw [if_neg k2, if_neg k3, if_pos k4] at hx
    have HX2 := Lib.hid hx
    clear hx HX k2' k3'
    rw [k4] at n0
    clear k4 k3 k2
    cases b2 <;> cases b4 <;> cases b3 <;> cases b1
    all_goals
      go_enter Tryd.func62, Tryd.ntmps62
      go_wp2_with fail
      go_ret
      exact HFIN.out _ (by simpa using HX2.out)
  have k4' : (t.kind == 42) = false := by simpa using k4
  by_cases k6 : t.kind = 46
  · have hx := HX.out
    rw [if_neg k2, if_neg k3, if_neg k4, if_pos k6] at hx
    have HX2 := Lib.hid hx
    clear hx HX k2' k3' k4'
    rw [k6] at n0
    clear k6 k4 k3 k2
    cases b1
    · go_enter Tryd.func62, Tryd.ntmps62
      cases b2 <;> cases b4
      all_goals
        go_wp2_with fail
        go_ret
        exact HFIN.out _ (by simpa using HX2.out)
    · by_cases hz : m = 0
      · have hlk : locks = [] := Classical.byContradiction fun h => by have := HMI.out.2 h; omega
        have HX3 : Hid ((0 : Int) = r) := by have := HX2.out; rw [if_pos rfl, if_pos hlk] at this; exact this
        subst hz
        clear HX2
        cases b2 <;> cases b4
        all_goals
          go_enter Tryd.func62, Tryd.ntmps62
          go_wp2_with fail
          go_ret
          exact HFIN.out _ HX3.out
      · have hlk : ¬ locks = [] := HMI.out.1 (by omega)
        have hz' : (0 : Int) < (m : Int) := by omega
        have HX3 : Hid ((12 : Int) = r) := by have := HX2.out; rw [if_pos rfl, if_neg hlk] at this; exact this
        clear HX2 hz
        cases b2 <;> cases b4
        all_goals
          go_enter Tryd.func62, Tryd.ntmps62
          go_wp2_with fail
          go_ret
          exact HFIN.out _ HX3.out
  have k6' : (t.kind == 46) = false := by simpa using k6
  have HX3 : Hid ((0 : Int) = r) := by have hx := HX.out; rw [if_neg k2, if_neg k3, if_neg k4, if_neg k6] at hx; exact hx
  clear HX k2 k3 k4 k6
  cases b2 <;> cases b4
  all_goals
    go_enter Tryd.func62, Tryd.ntmps62
    go_wp2_with fail
    go_ret
    exact HFIN.out _ HX3.out
end Go.Proofs.YtnegdmhmhdojbaaDoor

/-
  Contracts: maps.Clone of a set of names; with (package check).
-/
namespace Go.Proofs.YtnegdmhmhdojbaaDoor
set_option linter.unusedVariables false
set_option linter.unusedSimpArgs false
open Go.RowKit
set_option maxRecDepth 100000
set_option maxHeartbeats 4000000

abbrev SetS := StrSet Tryd.prog 9 4
theorem mclone_any (b n : Nat) (S : List ByteArray) (w : World) (h : SetS w b n S) :
    Calls Tryd.prog 75 #[.map (some b)] w fun e w' => e = .returned (.map (some w.heap.size)) ∧ SetS w' w.heap.size n S ∧ Below w.heap.size w w' := by
  have HS := Lib.hid h
  obtain ⟨es, clock, hb⟩ : ∃ es clock, w.heap[b]? = some (.map es clock) := by
    obtain ⟨D, ⟨es, clock, h1, _⟩, _⟩ := h
    exact ⟨es, clock, h1⟩
  have HB := Lib.hid hb
  have hq := fun w => run_eql_map_nil_sl (P := Tryd.prog) w 72 _ _ (some b) Tryd.underlying72
  clear h hb
  go_enter Tryd.func75, Tryd.ntmps75
  go_wp2_with fail
  rw [run_callFunc_extern Tryd.func81 (by kernel_rfl) (by kernel_rfl) (by kernel_rfl) (e := Extern.MapsClone.clone) (by kernel_rfl), run_maps_clone_sl w 72 HB.out]
  simp only [Result.andThen]
  rw [Oper.upon_value]
  go_wp2_with fail
  rw [run_typeAssert_map_sl _ 72 _ _ _ _ Tryd.underlying72]
  simp only [Result.andThen]
  rw [Oper.upon_value]
  go_wp2_with fail
  go_ret
  exact ⟨rfl, HS.out.copy HB.out, mem_alloc _ _⟩
theorem with_any (b n : Nat) (S : List ByteArray) (s : ByteArray) (w : World) (h : SetS w b n S) (hs : s.size ≤ maxLen) (hn : n < maxLen) :
    Calls Tryd.prog 64 #[.map (some b), .string s] w fun e w' => e = .returned (.map (some w.heap.size)) ∧ SetS w' w.heap.size (n + 1) (S ++ [s]) ∧ Below w.heap.size w w' := by
  go_enter Tryd.func64, Tryd.ntmps64
  go_wp2_with fail
  refine (mclone_any b n S w h).mono ?_
  rintro e w1 ⟨rfl, h1, hB1⟩
  have HS1 := Lib.hid h1
  have HB1 := Lib.hid hB1
  clear h1 hB1 h
  go_wp2_with (at_mapUpdate; refine wpList_store_str _ rfl _ _ _ 72 rfl 9 4 Tryd.underlying9 Tryd.underlying4 Tryd.underlying72 w.heap.size n S rfl HS1.out s rfl rfl hs hn ?_)
  intro w2 h2 hg2
  have HS2 := Lib.hid h2
  have HB2 : Hid (Below w.heap.size w w2) := HB1.out.grown hg2 HB1.out.size (fun k hk => by cases hk; exact Nat.le_refl _)
  clear h2 hg2
  go_wp2_with fail
  go_ret
  exact ⟨rfl, HS2.out, HB2.out⟩
end Go.Proofs.YtnegdmhmhdojbaaDoor
