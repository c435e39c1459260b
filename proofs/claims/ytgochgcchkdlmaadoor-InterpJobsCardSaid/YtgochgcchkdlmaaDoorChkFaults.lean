/-
  ChkFaults: several texts in one (Chk, ChkFault, ChkWith, ChkVisit).
-/
import Derived.Test.YtgochgcchkdlmaaDoorTreeBase
import Derived.Test.YtgochgcchkdlmaaDoorMemSet
import Derived.Test.YtgochgcchkdlmaaDoorProg
import Derived.Lib.Hide
import Derived.BigGuardPart
import Derived.Outline
import Derived.Test.YtgochgcchkdlmaaDoorRangeLaws
import Derived.Test.YtgochgcchkdlmaaDoorBases
/-
  The faults of a tree, of a task and of a program, as plain data (layer 15). No program is named here.
-/
namespace Go.Proofs.YtgochgcchkdlmaaDoor
set_option linter.unusedVariables false
set_option linter.unusedSimpArgs false

/-- the names that surround a node -/
structure Nms where
  shared : List ByteArray
  scalars : List ByteArray
  arrays : List ByteArray
/-- the error of a node itself -/
def faultN (d : Nms) (kind : Int) (name : ByteArray) (place : Bool) (loops locks : List ByteArray) : Int :=
  if kind = 2 then
    if place && memB loops name then 7
    else if memB d.scalars name || memB loops name then 0
    else if memB d.arrays name || memB d.shared name then 7
    else 6
  else if kind = 3 then
    if memB d.arrays name then 0
    else if memB d.shared name then (if memB locks name then 0 else 12)
    else if memB d.scalars name || memB loops name then 7
    else 6
  else if kind = 42 then
    if (memB d.scalars name || memB loops name) || (memB d.arrays name || memB d.shared name) then 8 else 0
  else if kind = 46 then
    if memB d.shared name then (if locks = [] then 0 else 12) else 6
  else 0
/-- a fault: the path, the error, the name -/
structure Flt where
  path : List Int
  err : Int
  name : ByteArray
/-- loops and locks around the children -/
def loopsIn (t : Tree) (l : List ByteArray) : List ByteArray := if t.kind = 42 then l ++ [t.name] else l
def locksIn (t : Tree) (l : List ByteArray) : List ByteArray := if t.kind = 46 then l ++ [t.name] else l
/-- whether a child is the place of an assignment or input -/
def placeIn (t : Tree) (i : Nat) : Bool := decide (i = 0) && (decide (t.kind = 40) || decide (t.kind = 44))
/-- what the node itself is blamed for -/
def ownF (d : Nms) (t : Tree) (path : List Int) (place : Bool) (loops locks : List ByteArray) : List Flt :=
  if faultN d t.kind t.name place loops locks = 0 then [] else [⟨path, faultN d t.kind t.name place loops locks, t.name⟩]
/-- the faults of a tree -/
def faultsT (d : Nms) : Tree → List Int → Bool → List ByteArray → List ByteArray → List Flt
  | .node k n s l kid => fun path place loops locks =>
    ownF d (.node k n s l kid) path place loops locks ++
      concatTo (fun i => if h : i < l then faultsT d (kid ⟨i, h⟩) (path ++ [(i : Int)]) (placeIn (.node k n s l kid) i) (loopsIn (.node k n s l kid) loops) (locksIn (.node k n s l kid) locks) else []) l
theorem faultsT_eq (d : Nms) (t : Tree) (path : List Int) (place : Bool) (loops locks : List ByteArray) :
    faultsT d t path place loops locks = ownF d t path place loops locks ++ concatTo (fun i => faultsT d (t.kid i) (path ++ [(i : Int)]) (placeIn t i) (loopsIn t loops) (locksIn t locks)) t.len := by
  cases t with
  | node k n s l kid =>
    rw [faultsT]
    refine congrArg (ownF d (.node k n s l kid) path place loops locks ++ ·) (concatTo_congr fun i hi => ?_)
    have hi' : i < l := hi
    rw [dif_pos hi', Tree.kid_node hi']
/-- declarations, one after the other: the names so far, the faults -/
def declF (known : ByteArray → Bool) : List ByteArray → List ByteArray → List Flt
  | _, [] => []
  | so, x :: l => (if known x || memB so x then [⟨[], 8, x⟩] else []) ++ declF known (so ++ [x]) l
theorem memB_append (S T : List ByteArray) (s : ByteArray) : memB (S ++ T) s = (memB S s || memB T s) := by unfold memB; simp
theorem declF_snoc (known : ByteArray → Bool) : ∀ (l so : List ByteArray) (x : ByteArray), declF known so (l ++ [x]) = declF known so l ++ (if known x || memB (so ++ l) x then [⟨[], 8, x⟩] else [])
  | [], so, x => by simp [declF]
  | y :: l, so, x => by
    rw [List.cons_append, declF, declF, declF_snoc known l (so ++ [y]) x, List.append_assoc, List.append_assoc]
    simp
/-- the faults of a task, apart from its own name -/
def taskF (shared : List ByteArray) (t : Tsk) : List Flt :=
  declF (memB shared) [] (t.vars ++ t.arrays.map (·.name)) ++ faultsT ⟨shared, t.vars, t.arrays.map (·.name)⟩ t.body [] false [] []
/-- a fault with its task -/
structure TFlt where
  task : Int
  flt : Flt
def tasksF (shared : List ByteArray) : List ByteArray → Nat → List Tsk → List TFlt
  | _, _, [] => []
  | so, i, t :: l => ((if memB so t.name then [Flt.mk [] 8 t.name] else []) ++ taskF shared t).map (fun f => TFlt.mk (i : Int) f) ++ tasksF shared (so ++ [t.name]) (i + 1) l
/-- the faults of a program -/
def checkF (p : Prg) : List TFlt :=
  (declF (fun _ => false) [] (p.shared.map (·.name))).map (fun f => TFlt.mk (-1) f) ++ tasksF (p.shared.map (·.name)) [] 0 p.tasks
end Go.Proofs.YtgochgcchkdlmaaDoor

/-
  Contracts: fault, with (package check); maps.Clone of a set of names; slices.Clone of ints.
-/
namespace Go.Proofs.YtgochgcchkdlmaaDoor
set_option linter.unusedVariables false
set_option linter.unusedSimpArgs false
open Go.RowKit
set_option maxRecDepth 100000
set_option maxHeartbeats 8000000

abbrev SSet := StrSet Tryd.prog 9 4
theorem zeroB (w : World) : (zeroValue 4).run Tryd.prog w = .ok (.bool false) w := by kernel_rfl
theorem sset_get {w : World} {b n : Nat} {S : List ByteArray} (h : SSet w b n S) {s : ByteArray} (hs : s.size ≤ maxLen) : (Instr.lookup 110 (.map (some b)) (.string s) false).run Tryd.prog w = .ok (.bool (memB S s)) w :=
  h.run Tryd.underlying9 Tryd.underlying110 Tryd.underlying4 (zeroB w) hs
/-- the sets of a call's names, wherever they lie -/
structure NmsAt (w : World) (sb cb ab : Nat) (d : Nms) : Prop where
  shared : ∃ n, SSet w sb n d.shared
  scalars : ∃ n, SSet w cb n d.scalars
  arrays : ∃ n, SSet w ab n d.arrays
theorem NmsAt.below {w w' : World} {sb cb ab : Nat} {d : Nms} (h : NmsAt w sb cb ab d) (hB : Below w.heap.size w w') : NmsAt w' sb cb ab d :=
  ⟨h.shared.imp fun _ h => h.below hB, h.scalars.imp fun _ h => h.below hB, h.arrays.imp fun _ h => h.below hB⟩
theorem fault_any (d : Nms) (t : Tree) (place : Bool) (loops locks : List ByteArray) (sb cb ab lb kb nl nk : Nat) (a : Option Addr) (c : Nat) (w : World) (hd : NmsAt w sb cb ab d) (hl : SSet w lb nl loops) (hk : SSet w kb nk locks) (hs : t.name.size ≤ maxLen) :
    Calls Tryd.prog 85 #[.agg #[.map (some sb), .map (some cb), .map (some ab)], t.val a c, .bool place, .agg #[.map (some lb), .map (some kb)]] w fun e w' => e = .returned (.int .i64 (faultN d t.kind t.name place loops locks)) ∧ Below w.heap.size w w' := by
  obtain ⟨⟨ns, h1⟩, ⟨nc, h2⟩, ⟨na, h3⟩⟩ := hd
  obtain ⟨W, hW⟩ : ∃ W : World, ((w.alloc (.cells #[.map (some sb), .map (some cb), .map (some ab)] 138)).alloc (.cells #[.int .u8 t.kind, .int .i64 t.num, .string t.name, .slice a t.len c] 50)).alloc (.cells #[.map (some lb), .map (some kb)] 142) = W := ⟨_, rfl⟩
  have HBW : Hid (Below w.heap.size w W) := by show Below _ _ _; rw [← hW]; exact (((Below.refl _ _).alloc (Nat.le_refl _) _).alloc (by simp) _).alloc (by simp; omega) _
  have g1 := sset_get (h1.below HBW.out) hs
  have g2 := sset_get (h2.below HBW.out) hs
  have g3 := sset_get (h3.below HBW.out) hs
  have g4 := sset_get (hl.below HBW.out) hs
  have g5 := sset_get (hk.below HBW.out) hs
  obtain ⟨m, gl, hm, hmi⟩ := (hk.below HBW.out).len Tryd.underlying110 3
  have HMI := Lib.hid hmi
  obtain ⟨q0, q1, q2, _⟩ := mem_three w (.cells #[.map (some sb), .map (some cb), .map (some ab)] 138) (.cells #[.int .u8 t.kind, .int .i64 t.num, .string t.name, .slice a t.len c] 50) (.cells #[.map (some lb), .map (some kb)] 142)
  rw [hW] at q0 q1 q2
  have d0 : W.cell? ⟨w.heap.size, 0, none⟩ = some (.map (some sb)) := mem_cell q0 0
  have d1 : W.cell? ⟨w.heap.size, 1, none⟩ = some (.map (some cb)) := mem_cell q0 1
  have d2 : W.cell? ⟨w.heap.size, 2, none⟩ = some (.map (some ab)) := mem_cell q0 2
  have n0 : W.cell? ⟨w.heap.size + 1, 0, none⟩ = some (.int .u8 t.kind) := mem_cell q1 0
  have n2 : W.cell? ⟨w.heap.size + 1, 2, none⟩ = some (.string t.name) := mem_cell q1 2
  have s0 : W.cell? ⟨w.heap.size + 1 + 1, 0, none⟩ = some (.map (some lb)) := mem_cell q2 0
  have s1 : W.cell? ⟨w.heap.size + 1 + 1, 1, none⟩ = some (.map (some kb)) := mem_cell q2 1
  clear q0 q1 q2
  clear h1 h2 h3 hl hk hmi
  obtain ⟨b1, hb1⟩ : ∃ b, memB d.shared t.name = b := ⟨_, rfl⟩
  obtain ⟨b2, hb2⟩ : ∃ b, memB d.scalars t.name = b := ⟨_, rfl⟩
  obtain ⟨b3, hb3⟩ : ∃ b, memB d.arrays t.name = b := ⟨_, rfl⟩
  obtain ⟨b4, hb4⟩ : ∃ b, memB loops t.name = b := ⟨_, rfl⟩
  obtain ⟨b5, hb5⟩ : ∃ b, memB locks t.name = b := ⟨_, rfl⟩
  rw [hb1] at g1
  rw [hb2] at g2
  rw [hb3] at g3
  rw [hb4] at g4
  rw [hb5] at g5
  obtain ⟨r, hr⟩ : ∃ r, faultN d t.kind t.name place loops locks = r := ⟨_, rfl⟩
  have HR := Lib.hid hr
  unfold faultN at hr
  rw [hb1, hb2, hb3, hb4, hb5] at hr
  have HX := Lib.hid hr
  clear hb1 hb2 hb3 hb4 hb5 hr
  rw [HR.out]
  have FIN : ∀ x : Int, x = r → (Ending.returned (.int .i64 x) = Ending.returned (.int .i64 r) ∧ Below w.heap.size w W) := fun x hx => ⟨by rw [hx], HBW.out⟩
  have HFIN := Lib.hid FIN
  clear FIN
  by_cases k2 : t.kind = 2
  · have hx := HX.out
    rw [if_pos k2] at hx
    have HX2 := Lib.hid hx
    clear hx HX
    rw [k2] at n0
    clear k2
    cases place <;> cases b4 <;> cases b2 <;> cases b3 <;> cases b1
    all_goals
      go_enter Tryd.func85, Tryd.ntmps85
      go_wp2_with fail
      go_ret
      exact HFIN.out _ (by simpa using HX2.out)
  have k2' : (t.kind == 2) = false := by simpa using k2
  by_cases k3 : t.kind = 3
  · have hx := HX.out
    rw [if_neg k2, if_pos k3] at hx
    have HX2 := Lib.hid hx
    clear hx HX k2'
    rw [k3] at n0
    clear k3 k2
    cases b3 <;> cases b1 <;> cases b5 <;> cases b2 <;> cases b4
    all_goals
      go_enter Tryd.func85, Tryd.ntmps85
      go_wp2_with fail
      go_ret
      exact HFIN.out _ (by simpa using HX2.out)
  have k3' : (t.kind == 3) = false := by simpa using k3
  by_cases k4 : t.kind = 42
  · have hx := HX.out
    rw [if_neg k2, if_neg k3, if_pos k4] at hx
    have HX2 := Lib.hid hx
    clear hx HX k2' k3'
    rw [k4] at n0
    clear k4 k3 k2
    cases b2 <;> cases b4 <;> cases b3 <;> cases b1
    all_goals
      go_enter Tryd.func85, Tryd.ntmps85
      go_wp2_with fail
      go_ret
      exact HFIN.out _ (by simpa using HX2.out)
  have k4' : (t.kind == 42) = false := by simpa using k4
  by_cases k6 : t.kind = 46
  · have hx := HX.out
    rw [if_neg k2, if_neg k3, if_neg k4, if_pos k6] at hx
    have HX2 := Lib.hid hx
    clear hx HX k2' k3' k4'
    rw [k6] at n0
    clear k6 k4 k3 k2
    cases b1
    · go_enter Tryd.func85, Tryd.ntmps85
      cases b2 <;> cases b4
      all_goals
        go_wp2_with fail
        go_ret
        exact HFIN.out _ (by simpa using HX2.out)
    · by_cases hz : m = 0
      · have hlk : locks = [] := Classical.byContradiction fun h => by have := HMI.out.2 h; omega
        have HX3 : Hid ((0 : Int) = r) := by have := HX2.out; rw [if_pos rfl, if_pos hlk] at this; exact this
        subst hz
        clear HX2
        cases b2 <;> cases b4
        all_goals
          go_enter Tryd.func85, Tryd.ntmps85
          go_wp2_with fail
          go_ret
          exact HFIN.out _ HX3.out
      · have hlk : ¬ locks = [] := HMI.out.1 (by omega)
        have hz' : (0 : Int) < (m : Int) := by omega
        have HX3 : Hid ((12 : Int) = r) := by have := HX2.out; rw [if_pos rfl, if_neg hlk] at this; exact this
        clear HX2 hz
        cases b2 <;> cases b4
        all_goals
          go_enter Tryd.func85, Tryd.ntmps85
          go_wp2_with fail
          go_ret
          exact HFIN.out _ HX3.out
  have k6' : (t.kind == 46) = false := by simpa using k6
  have HX3 : Hid ((0 : Int) = r) := by have hx := HX.out; rw [if_neg k2, if_neg k3, if_neg k4, if_neg k6] at hx; exact hx
  clear HX k2 k3 k4 k6
  cases b2 <;> cases b4
  all_goals
    go_enter Tryd.func85, Tryd.ntmps85
    go_wp2_with fail
    go_ret
    exact HFIN.out _ HX3.out
end Go.Proofs.YtgochgcchkdlmaaDoor

/-
  Contracts: maps.Clone of a set of names; with (package check).
-/
namespace Go.Proofs.YtgochgcchkdlmaaDoor
set_option linter.unusedVariables false
set_option linter.unusedSimpArgs false
open Go.RowKit
set_option maxRecDepth 100000
set_option maxHeartbeats 4000000

abbrev SetS := StrSet Tryd.prog 9 4
theorem mclone_any (b n : Nat) (S : List ByteArray) (w : World) (h : SetS w b n S) :
    Calls Tryd.prog 101 #[.map (some b)] w fun e w' => e = .returned (.map (some w.heap.size)) ∧ SetS w' w.heap.size n S ∧ Below w.heap.size w w' := by
  have HS := Lib.hid h
  obtain ⟨es, clock, hb⟩ : ∃ es clock, w.heap[b]? = some (.map es clock) := by
    obtain ⟨D, ⟨es, clock, h1, _⟩, _⟩ := h
    exact ⟨es, clock, h1⟩
  have HB := Lib.hid hb
  have hq := fun w => run_eql_map_nil_sl (P := Tryd.prog) w 110 _ _ (some b) Tryd.underlying110
  clear h hb
  go_enter Tryd.func101, Tryd.ntmps101
  go_wp2_with fail
  rw [run_callFunc_extern Tryd.func109 (by kernel_rfl) (by kernel_rfl) (by kernel_rfl) (e := Extern.MapsClone.clone) (by kernel_rfl), run_maps_clone_sl w 110 HB.out]
  simp only [Result.andThen]
  rw [Oper.upon_value]
  go_wp2_with fail
  rw [run_typeAssert_map_sl _ 110 _ _ _ _ Tryd.underlying110]
  simp only [Result.andThen]
  rw [Oper.upon_value]
  go_wp2_with fail
  go_ret
  exact ⟨rfl, HS.out.copy HB.out, mem_alloc _ _⟩
theorem with_any (b n : Nat) (S : List ByteArray) (s : ByteArray) (w : World) (h : SetS w b n S) (hs : s.size ≤ maxLen) (hn : n < maxLen) :
    Calls Tryd.prog 87 #[.map (some b), .string s] w fun e w' => e = .returned (.map (some w.heap.size)) ∧ SetS w' w.heap.size (n + 1) (S ++ [s]) ∧ Below w.heap.size w w' := by
  go_enter Tryd.func87, Tryd.ntmps87
  go_wp2_with fail
  refine (mclone_any b n S w h).mono ?_
  rintro e w1 ⟨rfl, h1, hB1⟩
  have HS1 := Lib.hid h1
  have HB1 := Lib.hid hB1
  clear h1 hB1 h
  go_wp2_with (at_mapUpdate; refine wpList_store_str _ rfl _ _ _ 110 rfl 9 4 Tryd.underlying9 Tryd.underlying4 Tryd.underlying110 w.heap.size n S rfl HS1.out s rfl rfl hs hn ?_)
  intro w2 h2 hg2
  have HS2 := Lib.hid h2
  have HB2 : Hid (Below w.heap.size w w2) := HB1.out.grown hg2 HB1.out.size (fun k hk => by cases hk; exact Nat.le_refl _)
  clear h2 hg2
  go_wp2_with fail
  go_ret
  exact ⟨rfl, HS2.out, HB2.out⟩
end Go.Proofs.YtgochgcchkdlmaaDoor

/-
  What the walk over a task's body keeps (package check: task); slices.Clone of a path.
-/
namespace Go.Proofs.YtgochgcchkdlmaaDoor
set_option linter.unusedVariables false
set_option linter.unusedSimpArgs false
open Go.RowKit
set_option maxRecDepth 100000
set_option maxHeartbeats 4000000

/-- a path: nil, or a row of ints of the call's own -/
def PathV (N : Nat) (w : World) (v : Value) (p : List Int) : Prop := w.ownsRow N 3 1 v p.length (ints p)
theorem iclone_any (N : Nat) (p : List Int) (w : World) (v : Value) (hp : PathV N w v p) (hl : p.length ≤ 1000000) :
    Calls Tryd.prog 86 #[v] w fun e w' => ∃ v', e = .returned v' ∧ PathV w.heap.size w' v' p ∧ Below w.heap.size w w' := by
  obtain ⟨i0, hi, hz0, hz1, hz2⟩ := info_parts Tryd.infoInt
  have hnil := fun (w : World) (a : Option Addr) (n c : Nat) => Lib.run_eql_slice_nil (P := Tryd.prog) w 111 3 a n c 0 0 Tryd.underlying111
  have HP := Lib.hid hp
  obtain ⟨a, c, rfl⟩ := own_val hp
  cases a with
  | none =>
    have h0 : p = [] := by
      rcases hp.2 with ⟨_, h0⟩ | ⟨g, cap, cur, h1, _⟩
      · exact List.length_eq_zero_iff.1 h0
      · cases h1
    subst h0
    have hc0 : c = 0 := by
      rcases hp.2 with ⟨h1, _⟩ | ⟨g, cap, cur, h1, _⟩
      · injection h1
      · cases h1
    subst hc0
    clear hp
    go_enter Tryd.func86, Tryd.ntmps86
    go_wp2_with fail
    go_ret
    exact ⟨_, rfl, World.ownsRow_nil _ _ _ _, Below.refl _ _⟩
  | some ad =>
    have hsrc : Src (w.alloc (.cells #[] 3)) (some ad) p.length 1 (ints p) := by
      refine ⟨by rw [ints_len]; omega, ?_⟩
      rcases Nat.eq_zero_or_pos p.length with h0 | h0
      · exact .inl h0
      · obtain ⟨b, e, _⟩ := own_at hp h0
        refine .inr ⟨ad, rfl, fun j u hj => ?_⟩
        injection e with e
        subst e
        exact (own_below hp (mem_alloc w _)).cells rfl j u hj
    have HSRC := Lib.hid hsrc
    have hmade : (w.alloc (.cells #[] 3)).ownsRow w.heap.size 3 1 (.slice (some ⟨w.heap.size, 0, none⟩) 0 0) 0 [] := World.ownsRow_made _ #[] 0 (Nat.le_refl _) (by unfold maxLen; omega) rfl
    have HMADE := Lib.hid hmade
    clear hp hsrc hmade
    go_enter Tryd.func86, Tryd.ntmps86
    go_wp2_with (at_builtin; refine wpList_append_src _ rfl (.tmp 5) (.tmp 6) 111 rfl w.heap.size 3 i0 _ 1 8 Tryd.underlying111 hi hz0 hz1 hz2 rfl (by decide) (.slice (some ⟨w.heap.size, 0, none⟩) 0 0) 0 [] rfl HMADE.out (some ad) p.length c (ints p) rfl HSRC.out (ints_one p) (by unfold maxLen; omega) (by omega) (by simp) ?_)
    intro v2 w2 hown2 hgrow2 _
    have HO : Hid (PathV w.heap.size w2 v2 p) := by show World.ownsRow _ _ _ _ _ _ _; simpa using hown2
    have HB : Hid (Below w.heap.size w w2) := (mem_alloc w _).grown hgrow2 (by simp) (fun k hk => by cases hk; exact Nat.le_refl _)
    clear hown2 hgrow2
    go_wp2_with fail
    go_ret
    exact ⟨_, rfl, HO.out, HB.out⟩
/-- a fault with its path's slice -/
structure FltP where
  task : Int
  flt : Flt
  pv : Value
def FltP.cells (f : FltP) : List Value := [.int .i64 f.task, f.pv, .int .i64 f.flt.err, .string f.flt.name]
theorem FltP.len (f : FltP) : f.cells.length = 4 := rfl
theorem FltP.info : (Tryd.prog.info? 113).map (fun i => (i.zero, i.size, i.bytes)) = some (some (.agg #[.int .i64 0, .slice none 0 0, .int .i64 0, .string ⟨#[]⟩]), 4, 56) := by kernel_rfl
/-- faults in rows of the call's own -/
structure FltsAt (N : Nat) (w : World) (v : Value) (L : List FltP) : Prop where
  ro : w.ownsRow N 113 4 v L.length (L.flatMap FltP.cells)
  ri : ∀ f ∈ L, PathV N w f.pv f.flt.path
theorem FltsAt.nil {N : Nat} {w : World} : FltsAt N w (.slice none 0 0) [] := ⟨World.ownsRow_nil _ _ _ _, by simp⟩
theorem FltsAt.keep {N : Nat} {w w' : World} {v : Value} {L : List FltP} (h : FltsAt N w v L) (hB : Below w.heap.size w w') : FltsAt N w' v L :=
  ⟨own_below h.ro hB, fun f hf => own_below (h.ri f hf) hB⟩
/-- an object that the walk does not turn -/
def Still15 : Obj → Prop
  | .cells _ t _ => t ≠ 113 ∧ t ≠ 91
  | _ => True
/-- what the walk leaves alone: what lay below N, and all that is neither faults nor their box -/
structure FrT (N : Nat) (w w' : World) : Prop where
  low : Below N w w'
  still : ∀ (k : Nat) (o : Obj), w.heap[k]? = some o → Still15 o → w'.heap[k]? = some o
section
variable {N : Nat} {w w' w'' : World} {v : Value}
theorem FrT.refl : FrT N w w := ⟨Below.refl _ _, fun _ _ h _ => h⟩
theorem FrT.trans (h : FrT N w w') (h' : FrT N w' w'') : FrT N w w'' := ⟨h.low.trans h'.low, fun k o hk hs => h'.still k o (h.still k o hk hs) hs⟩
theorem FrT.of (h : Below w.heap.size w w') (hN : N ≤ w.heap.size) : FrT N w w' := ⟨h.mono hN, fun _ _ hk _ => mem_keep hk h⟩
theorem FrT.cells {b : Nat} {arr : Array Value} {t : TypeId} (h : FrT N w w') (hb : w.heap[b]? = some (.cells arr t)) (h1 : t ≠ 113) (h2 : t ≠ 91) : w'.heap[b]? = some (.cells arr t) := h.still b _ hb ⟨h1, h2⟩
theorem FrT.set {b n : Nat} {S : List ByteArray} (h : FrT N w w') (hs : SetS w b n S) : SetS w' b n S := by
  obtain ⟨D, ⟨es, clock, h1, h2⟩, h3⟩ := hs
  exact ⟨D, ⟨es, clock, h.still b _ h1 trivial, h2⟩, h3⟩
theorem FrT.path {B : Nat} {p : List Int} (h : FrT N w w') (hp : PathV B w v p) : PathV B w' v p := by
  rcases hp.2 with ⟨rfl, h0⟩ | ⟨g, cap, cur, rfl, hg, hc, r⟩
  · exact ⟨hp.1, .inl ⟨rfl, h0⟩⟩
  · exact ⟨hp.1, .inr ⟨g, cap, cur, rfl, hg, h.still g _ hc ⟨by decide, by decide⟩, r⟩⟩
theorem FrT.nms {sb cb ab : Nat} {d : Nms} (h : FrT N w w') (hd : NmsAt w sb cb ab d) : NmsAt w' sb cb ab d :=
  ⟨hd.shared.imp fun _ x => h.set x, hd.scalars.imp fun _ x => h.set x, hd.arrays.imp fun _ x => h.set x⟩
theorem FrT.rep {t : Tree} {a : Option Addr} (h : FrT N w w') (hr : RepIn (fun k => k < N) w t a) : RepIn (fun k => k < N) w' t a := hr.move (fun k hk _ => h.low.block k hk) (fun _ hk _ => hk)
end
/-- faults in their box -/
structure FB (N : Nat) (w : World) (fb : Nat) (v : Value) (L : List FltP) : Prop where
  box : w.heap[fb]? = some (.cells #[v] 91)
  row : FltsAt N w v L
  up : N ≤ fb
theorem FB.keep {N : Nat} {w w' : World} {fb : Nat} {v : Value} {L : List FltP} (h : FB N w fb v L) (hB : Below w.heap.size w w') : FB N w' fb v L := ⟨mem_keep h.box hB, h.row.keep hB, h.up⟩
/-- the row of faults grows -/
theorem FB.grow {N : Nat} {w V w2 : World} {fb : Nat} {v : Value} {L : List FltP} (h : FB N w fb v L) (hN : N ≤ w.heap.size) (hB : Below w.heap.size w V) (hg : V.grownBy w2 v.ownBlock) : FrT N w w2 ∧ w2.heap[fb]? = some (.cells #[v] 91) := by
  have hV := h.keep hB
  refine ⟨⟨(hB.mono hN).grown hg (Nat.le_trans hN hB.size) (fun k hk => (own_lt hV.row.ro hk).1), fun k o hk hs => ?_⟩, (hg.block _ (mem_lt hV.box) (fun e => own_other hV.row.ro hV.box (by decide) e.symm)).trans hV.box⟩
  have h1 := mem_keep hk hB
  refine (hg.block k (mem_lt h1) (fun e => ?_)).trans h1
  rcases hV.row.ro.2 with ⟨rfl, _⟩ | ⟨g', cap', cur, rfl, _, hc, _⟩
  · cases e
  · have e : k = g' := by injection e
    subst e
    rw [hc] at h1
    injection h1 with h1
    subst h1
    exact hs.1 rfl
/-- a fault more, stored into the box -/
theorem FB.push {N : Nat} {w V w2 : World} {fb gb cap : Nat} {v : Value} {L : List FltP} {f : FltP} (h : FB N w fb v L) (hN : N ≤ w.heap.size) (hB : Below w.heap.size w V) (hp : PathV N V f.pv f.flt.path) (hg : V.grownBy w2 v.ownBlock)
    (ho : w2.ownsRow N 113 4 (.slice (some ⟨gb, 0, none⟩) (L.length + 1) cap) (L.length + 1) (L.flatMap FltP.cells ++ f.cells)) :
    FB N (w2.setCell ⟨fb, 0, none⟩ (.slice (some ⟨gb, 0, none⟩) (L.length + 1) cap)) fb (.slice (some ⟨gb, 0, none⟩) (L.length + 1) cap) (L ++ [f]) ∧
    FrT N w (w2.setCell ⟨fb, 0, none⟩ (.slice (some ⟨gb, 0, none⟩) (L.length + 1) cap)) := by
  have hV := h.keep hB
  have keep : ∀ {b : Nat} {arr : Array Value} {t : TypeId}, V.heap[b]? = some (.cells arr t) → t ≠ 113 → w2.heap[b]? = some (.cells arr t) := fun hb ht =>
    (hg.block _ (mem_lt hb) (fun e => own_other hV.row.ro hb ht e.symm)).trans hb
  have path : ∀ {B : Nat} {z : Value} {p : List Int}, PathV B V z p → PathV B w2 z p := fun {B z p} hz => by
    refine own_keep hz (fun k hk hl => hg.block k hl ?_)
    rcases hz.2 with ⟨rfl, _⟩ | ⟨g', cap', cur, rfl, _, hc, _⟩
    · cases hk
    · have hk : g' = k := by injection hk
      subst hk
      exact fun e => own_other hV.row.ro hc (by decide) e.symm
  have hbox := keep hV.box (by decide)
  have path2 : ∀ {B : Nat} {z : Value} {p : List Int}, PathV B w2 z p → PathV B (w2.setCell ⟨fb, 0, none⟩ (.slice (some ⟨gb, 0, none⟩) (L.length + 1) cap)) z p := fun {B z p} hz =>
    own_keep hz (fun k hk _ => Below.heap_setCell _ _ _ _ (by rintro rfl; exact own_other hz hbox (by decide) hk))
  refine ⟨⟨?_, ⟨?_, fun g hg' => ?_⟩, h.up⟩, ⟨?_, fun k o hk hs => ?_⟩⟩
  · rw [mem_set hbox]; rfl
  · have e : (L ++ [f]).flatMap FltP.cells = L.flatMap FltP.cells ++ f.cells := by simp
    rw [e]
    simp only [List.length_append, List.length_singleton]
    exact own_keep ho (fun k hk _ => Below.heap_setCell _ _ _ _ (by rintro rfl; exact own_other ho hbox (by decide) hk))
  · rcases List.mem_append.1 hg' with hg' | hg'
    · exact path2 (path (hV.row.ri g hg'))
    · obtain rfl := List.mem_singleton.1 hg'
      exact path2 (path hp)
  · exact ((hB.mono hN).grown hg (Nat.le_trans hN hB.size) (fun k hk => (own_lt hV.row.ro hk).1)).setCell h.up _
  · have h1 := mem_keep hk hB
    have h2 : w2.heap[k]? = some o := (hg.block k (mem_lt h1) (fun e => by
      rcases hV.row.ro.2 with ⟨rfl, _⟩ | ⟨g', cap', cur, rfl, _, hc, _⟩
      · cases e
      · have e : k = g' := by injection e
        subst e
        rw [hc] at h1
        injection h1 with h1
        subst h1
        exact hs.1 rfl)).trans h1
    refine (Below.heap_setCell _ _ _ _ ?_).trans h2
    rintro rfl
    rw [hbox] at h2
    injection h2 with h2
    subst h2
    exact hs.2 rfl
end Go.Proofs.YtgochgcchkdlmaaDoor
