/-
  Mg7: several texts in one (ChkFault, ChkWith, Path, StepAppend, TreeIn).
-/
import Derived.Test.YtkpdngfkdmllkaaDoorMg6
import Derived.Test.YtkpdngfkdmllkaaDoorProg
import Derived.Lib.Hide
import Derived.BigGuardPart
import Derived.Outline
import Derived.Test.YtkpdngfkdmllkaaDoorMg2
import Derived.Deep.RegionHeld
import Derived.WalkSpells
import Derived.Lib.SliceRun
import Derived.Deep.RegionLawGrows
import Derived.Laws.OwnMore
import Derived.Test.YtkpdngfkdmllkaaDoorMg5
/-
  Contracts: fault, with (package check); maps.Clone of a set of names; slices.Clone of ints.
-/
namespace Go.Proofs.YtkpdngfkdmllkaaDoor
set_option linter.unusedVariables false
set_option linter.unusedSimpArgs false
open Go.RowKit
set_option maxRecDepth 100000
set_option maxHeartbeats 8000000

abbrev SSet := StrSet Tryd.prog 9 4
theorem zeroB (w : World) : (zeroValue 4).run Tryd.prog w = .ok (.bool false) w := by kernel_rfl
theorem sset_get {w : World} {b n : Nat} {S : List ByteArray} (h : SSet w b n S) {s : ByteArray} (hs : s.size ≤ maxLen) : (Instr.lookup 70 (.map (some b)) (.string s) false).run Tryd.prog w = .ok (.bool (memB S s)) w :=
  h.run Tryd.underlying9 Tryd.underlying70 Tryd.underlying4 (zeroB w) hs
/-- the sets of a call's names, wherever they lie -/
structure NmsAt (w : World) (sb cb ab : Nat) (d : Nms) : Prop where
  shared : ∃ n, SSet w sb n d.shared
  scalars : ∃ n, SSet w cb n d.scalars
  arrays : ∃ n, SSet w ab n d.arrays
theorem NmsAt.below {w w' : World} {sb cb ab : Nat} {d : Nms} (h : NmsAt w sb cb ab d) (hB : Below w.heap.size w w') : NmsAt w' sb cb ab d :=
  ⟨h.shared.imp fun _ h => h.below hB, h.scalars.imp fun _ h => h.below hB, h.arrays.imp fun _ h => h.below hB⟩
theorem fault_any (d : Nms) (t : Tree) (place : Bool) (loops locks : List ByteArray) (sb cb ab lb kb nl nk : Nat) (a : Option Addr) (c : Nat) (w : World) (hd : NmsAt w sb cb ab d) (hl : SSet w lb nl loops) (hk : SSet w kb nk locks) (hs : t.name.size ≤ maxLen) :
    Calls Tryd.prog 58 #[.agg #[.map (some sb), .map (some cb), .map (some ab)], t.val a c, .bool place, .agg #[.map (some lb), .map (some kb)]] w fun e w' => e = .returned (.int .i64 (faultN d t.kind t.name place loops locks)) ∧ Below w.heap.size w w' := by
  obtain ⟨⟨ns, h1⟩, ⟨nc, h2⟩, ⟨na, h3⟩⟩ := hd
  obtain ⟨W, hW⟩ : ∃ W : World, ((w.alloc (.cells #[.map (some sb), .map (some cb), .map (some ab)] 121)).alloc (.cells #[.int .u8 t.kind, .int .i64 t.num, .string t.name, .slice a t.len c] 35)).alloc (.cells #[.map (some lb), .map (some kb)] 125) = W := ⟨_, rfl⟩
  have HBW : Hid (Below w.heap.size w W) := by show Below _ _ _; rw [← hW]; exact (((Below.refl _ _).alloc (Nat.le_refl _) _).alloc (by simp) _).alloc (by simp; omega) _
  have g1 := sset_get (h1.below HBW.out) hs
  have g2 := sset_get (h2.below HBW.out) hs
  have g3 := sset_get (h3.below HBW.out) hs
  have g4 := sset_get (hl.below HBW.out) hs
  have g5 := sset_get (hk.below HBW.out) hs
  obtain ⟨m, gl, hm, hmi⟩ := (hk.below HBW.out).len Tryd.underlying70 3
  have HMI := Lib.hid hmi
  obtain ⟨q0, q1, q2, _⟩ := mem_three w (.cells #[.map (some sb), .map (some cb), .map (some ab)] 121) (.cells #[.int .u8 t.kind, .int .i64 t.num, .string t.name, .slice a t.len c] 35) (.cells #[.map (some lb), .map (some kb)] 125)
  rw [hW] at q0 q1 q2
  have d0 : W.cell? ⟨w.heap.size, 0, none⟩ = some (.map (some sb)) := mem_cell q0 0
  have d1 : W.cell? ⟨w.heap.size, 1, none⟩ = some (.map (some cb)) := mem_cell q0 1
  have d2 : W.cell? ⟨w.heap.size, 2, none⟩ = some (.map (some ab)) := mem_cell q0 2
  have n0 : W.cell? ⟨w.heap.size + 1, 0, none⟩ = some (.int .u8 t.kind) := mem_cell q1 0
  have n2 : W.cell? ⟨w.heap.size + 1, 2, none⟩ = some (.string t.name) := mem_cell q1 2
  have s0 : W.cell? ⟨w.heap.size + 1 + 1, 0, none⟩ = some (.map (some lb)) := mem_cell q2 0
  have s1 : W.cell? ⟨w.heap.size + 1 + 1, 1, none⟩ = some (.map (some kb)) := mem_cell q2 1
  clear q0 q1 q2
  clear h1 h2 h3 hl hk hmi
  obtain ⟨b1, hb1⟩ : ∃ b, memB d.shared t.name = b := ⟨_, rfl⟩
  obtain ⟨b2, hb2⟩ : ∃ b, memB d.scalars t.name = b := ⟨_, rfl⟩
  obtain ⟨b3, hb3⟩ : ∃ b, memB d.arrays t.name = b := ⟨_, rfl⟩
  obtain ⟨b4, hb4⟩ : ∃ b, memB loops t.name = b := ⟨_, rfl⟩
  obtain ⟨b5, hb5⟩ : ∃ b, memB locks t.name = b := ⟨_, rfl⟩
  rw [hb1] at g1
  rw [hb2] at g2
  rw [hb3] at g3
  rw [hb4] at g4
  rw [hb5] at g5
  obtain ⟨r, hr⟩ : ∃ r, faultN d t.kind t.name place loops locks = r := ⟨_, rfl⟩
  have HR := Lib.hid hr
  unfold faultN at hr
  rw [hb1, hb2, hb3, hb4, hb5] at hr
  have HX := Lib.hid hr
  clear hb1 hb2 hb3 hb4 hb5 hr
  rw [HR.out]
  have FIN : ∀ x : Int, x = r → (Ending.returned (.int .i64 x) = Ending.returned (.int .i64 r) ∧ Below w.heap.size w W) := fun x hx => ⟨by rw [hx], HBW.out⟩
  have HFIN := Lib.hid FIN
  clear FIN
  by_cases k2 : t.kind = 2
  · have hx := HX.out
    rw [if_pos k2] at hx
    have HX2 := Lib.hid hx
    clear hx HX
    rw [k2] at n0
    clear k2
    cases place <;> cases b4 <;> cases b2 <;> cases b3 <;> cases b1
    all_goals
      go_enter Tryd.func58, Tryd.ntmps58
      go_wp2_with fail
      go_ret
      exact HFIN.out _ (by simpa using HX2.out)
  have k2' : (t.kind == 2) = false := by simpa using k2
  by_cases k3 : t.kind = 3
  · have hx := HX.out
    rw [if_neg k2, if_pos k3] at hx
    have HX2 := Lib.hid hx
    clear hx HX k2'
    rw [k3] at n0
    clear k3 k2
    cases b3 <;> cases b1 <;> cases b5 <;> cases b2 <;> cases b4
    all_goals
      go_enter Tryd.func58, Tryd.ntmps58
      go_wp2_with fail
      go_ret
      exact HFIN.out _ (by simpa using HX2.out)
  have k3' : (t.kind == 3) = false := by simpa using k3
  by_cases k4 : t.kind = 42
  · have hx := HX.out
    rw [if_neg k2, if_neg k3, if_pos k4] at hx
    have HX2 := Lib.hid hx
    clear hx HX k2' k3'
    rw [k4] at n0
    clear k4 k3 k2
    cases b2 <;> cases b4 <;> cases b3 <;> cases b1
    all_goals
      go_enter Tryd.func58, Tryd.ntmps58
      go_wp2_with fail
      go_ret
      exact HFIN.out _ (by simpa using HX2.out)
  have k4' : (t.kind == 42) = false := by simpa using k4
  by_cases k6 : t.kind = 46
  · have hx := HX.out
    rw [if_neg k2, if_neg k3, if_neg k4, if_pos k6] at hx
    have HX2 := Lib.hid hx
    clear hx HX k2' k3' k4'
    rw [k6] at n0
    clear k6 k4 k3 k2
    cases b1
    · go_enter Tryd.func58, Tryd.ntmps58
      cases b2 <;> cases b4
      all_goals
        go_wp2_with fail
        go_ret
        exact HFIN.out _ (by simpa using HX2.out)
    · by_cases hz : m = 0
      · have hlk : locks = [] := Classical.byContradiction fun h => by have := HMI.out.2 h; omega
        have HX3 : Hid ((0 : Int) = r) := by have := HX2.out; rw [if_pos rfl, if_pos hlk] at this; exact this
        subst hz
        clear HX2
        cases b2 <;> cases b4
        all_goals
          go_enter Tryd.func58, Tryd.ntmps58
          go_wp2_with fail
          go_ret
          exact HFIN.out _ HX3.out
      · have hlk : ¬ locks = [] := HMI.out.1 (by omega)
        have hz' : (0 : Int) < (m : Int) := by omega
        have HX3 : Hid ((12 : Int) = r) := by have := HX2.out; rw [if_pos rfl, if_neg hlk] at this; exact this
        clear HX2 hz
        cases b2 <;> cases b4
        all_goals
          go_enter Tryd.func58, Tryd.ntmps58
          go_wp2_with fail
          go_ret
          exact HFIN.out _ HX3.out
  have k6' : (t.kind == 46) = false := by simpa using k6
  have HX3 : Hid ((0 : Int) = r) := by have hx := HX.out; rw [if_neg k2, if_neg k3, if_neg k4, if_neg k6] at hx; exact hx
  clear HX k2 k3 k4 k6
  cases b2 <;> cases b4
  all_goals
    go_enter Tryd.func58, Tryd.ntmps58
    go_wp2_with fail
    go_ret
    exact HFIN.out _ HX3.out
end Go.Proofs.YtkpdngfkdmllkaaDoor

/-
  Contracts: maps.Clone of a set of names; with (package check).
-/
namespace Go.Proofs.YtkpdngfkdmllkaaDoor
set_option linter.unusedVariables false
set_option linter.unusedSimpArgs false
open Go.RowKit
set_option maxRecDepth 100000
set_option maxHeartbeats 4000000

abbrev SetS := StrSet Tryd.prog 9 4
theorem mclone_any (b n : Nat) (S : List ByteArray) (w : World) (h : SetS w b n S) :
    Calls Tryd.prog 74 #[.map (some b)] w fun e w' => e = .returned (.map (some w.heap.size)) ∧ SetS w' w.heap.size n S ∧ Below w.heap.size w w' := by
  have HS := Lib.hid h
  obtain ⟨es, clock, hb⟩ : ∃ es clock, w.heap[b]? = some (.map es clock) := by
    obtain ⟨D, ⟨es, clock, h1, _⟩, _⟩ := h
    exact ⟨es, clock, h1⟩
  have HB := Lib.hid hb
  have hq := fun w => run_eql_map_nil_sl (P := Tryd.prog) w 70 _ _ (some b) Tryd.underlying70
  clear h hb
  go_enter Tryd.func74, Tryd.ntmps74
  go_wp2_with fail
  rw [run_callFunc_extern Tryd.func98 (by kernel_rfl) (by kernel_rfl) (by kernel_rfl) (e := Extern.MapsClone.clone) (by kernel_rfl), run_maps_clone_sl w 70 HB.out]
  simp only [Result.andThen]
  rw [Oper.upon_value]
  go_wp2_with fail
  rw [run_typeAssert_map_sl _ 70 _ _ _ _ Tryd.underlying70]
  simp only [Result.andThen]
  rw [Oper.upon_value]
  go_wp2_with fail
  go_ret
  exact ⟨rfl, HS.out.copy HB.out, mem_alloc _ _⟩
theorem with_any (b n : Nat) (S : List ByteArray) (s : ByteArray) (w : World) (h : SetS w b n S) (hs : s.size ≤ maxLen) (hn : n < maxLen) :
    Calls Tryd.prog 60 #[.map (some b), .string s] w fun e w' => e = .returned (.map (some w.heap.size)) ∧ SetS w' w.heap.size (n + 1) (S ++ [s]) ∧ Below w.heap.size w w' := by
  go_enter Tryd.func60, Tryd.ntmps60
  go_wp2_with fail
  refine (mclone_any b n S w h).mono ?_
  rintro e w1 ⟨rfl, h1, hB1⟩
  have HS1 := Lib.hid h1
  have HB1 := Lib.hid hB1
  clear h1 hB1 h
  go_wp2_with (at_mapUpdate; refine wpList_store_str _ rfl _ _ _ 70 rfl 9 4 Tryd.underlying9 Tryd.underlying4 Tryd.underlying70 w.heap.size n S rfl HS1.out s rfl rfl hs hn ?_)
  intro w2 h2 hg2
  have HS2 := Lib.hid h2
  have HB2 : Hid (Below w.heap.size w w2) := HB1.out.grown hg2 HB1.out.size (fun k hk => by cases hk; exact Nat.le_refl _)
  clear h2 hg2
  go_wp2_with fail
  go_ret
  exact ⟨rfl, HS2.out, HB2.out⟩
end Go.Proofs.YtkpdngfkdmllkaaDoor

/-
  Contracts: paths (slices of ints): slices.Clone, slices.Clip.
-/
namespace Go.Proofs.YtkpdngfkdmllkaaDoor
set_option linter.unusedVariables false
set_option linter.unusedSimpArgs false
open Go.RowKit
set_option maxRecDepth 100000

/-- a slice of ints, not nil, in a block of a kind -/
def PathIn (S : Nat → Prop) (w : World) (v : Value) (p : List Int) : Prop :=
  ∃ b off cap, v = .slice (some ⟨b, off, none⟩) p.length cap ∧ S b ∧ p.length ≤ cap ∧ b < w.heap.size ∧ ∀ i, i < p.length → w.cell? ⟨b, off + i, none⟩ = some (.int .i64 (p.getD i 0))

theorem PathIn.move {S S' : Nat → Prop} {w w' : World} {v : Value} {p : List Int} (hsz : w.heap.size ≤ w'.heap.size) (h1 : ∀ k, S k → k < w.heap.size → w'.heap[k]? = w.heap[k]?) (h2 : ∀ k, S k → k < w.heap.size → S' k) (h : PathIn S w v p) : PathIn S' w' v p := by
  obtain ⟨b, off, cap, hv, hS, hc, hb, hk⟩ := h
  exact ⟨b, off, cap, hv, h2 b hS hb, hc, Nat.lt_of_lt_of_le hb hsz, fun i hi => (World.cell?_of_block (a := ⟨b, _, none⟩) (h1 b hS hb)).trans (hk i hi)⟩
theorem PathIn.below {S : Nat → Prop} {w w' : World} {v : Value} {p : List Int} (h : PathIn S w v p) (hb : Below w.heap.size w w') : PathIn S w' v p :=
  h.move hb.size (fun k _ hk => hb.block k hk) (fun _ h _ => h)

theorem Tryd.infoInt : (Tryd.prog.info? 3).map (fun i => (i.zero, i.size, i.bytes)) = some (some (.int .i64 0), 1, 8) := by kernel_rfl

/-- a path in new memory -/
def PathOf (p : List Int) (w : World) (e : Ending) (w' : World) : Prop := ∃ v, e = .returned v ∧ PathIn (fun k => w.heap.size ≤ k) w' v p ∧ Below w.heap.size w w'
def ints (p : List Int) : List Value := p.map (Value.int .i64)
theorem ints_at (p : List Int) (i : Nat) (h : i < p.length) : (ints p)[i]? = some (.int .i64 (p.getD i 0)) := by
  simp [ints, h]
theorem ints_one (p : List Int) : ∀ u ∈ ints p, u.oneCell' = true := by
  intro u hu; simp [ints] at hu; obtain ⟨n, _, rfl⟩ := hu; rfl
theorem ints_len (p : List Int) : (ints p).length = p.length := by simp [ints]

/-- what an owned row of ints is as a path -/
theorem pathIn_of_row {w : World} {base g cap n : Nat} {p : List Int} (h : w.ownsRow base 3 1 (.slice (some ⟨g, 0, none⟩) n cap) n (ints p)) (hn : n = p.length) : PathIn (fun k => base ≤ k) w (.slice (some ⟨g, 0, none⟩) n cap) p := by
  subst hn
  rcases ownsRow_form h with ⟨h0, _⟩ | ⟨g', cap', hv, hg, hl, hc⟩
  · cases h0
  · cases hv
    refine ⟨g, 0, cap, rfl, hg, hc, hl, fun i hi => ?_⟩
    rw [Nat.zero_add, h.cellAt i (by omega)]
    exact ints_at p i hi

set_option maxHeartbeats 1000000 in
theorem slicesClone_any {S : Nat → Prop} (p : List Int) (w : World) (v : Value) (hp : PathIn S w v p) (hl : p.length ≤ 1000000) :
    Calls Tryd.prog 59 #[v] w (PathOf p w) := by
  obtain ⟨b, off, cap, rfl, _, hcap, hb, hk⟩ := hp
  obtain ⟨i0, hi, hz0, hz1, hz2⟩ := info_parts Tryd.infoInt
  have HK := Lib.hid hk
  clear hk
  have hown : (w.alloc (.cells #[] 3)).ownsRow w.heap.size 3 1 (.slice (some ⟨w.heap.size, 0, none⟩) 0 0) 0 [] := World.ownsRow_made _ #[] 0 (Nat.le_refl _) (by unfold maxLen; omega) rfl
  have HOWN := Lib.hid hown
  clear hown
  have HC : Hid (∀ j u, (ints p)[j]? = some u → (w.alloc (.cells #[] 3)).cell? ((⟨b, off, none⟩ : Addr).add j) = some u) := by
    intro j u hu
    have hj : j < p.length := by have := (List.getElem?_eq_some_iff.1 hu).1; rwa [ints_len] at this
    rw [ints_at p j hj] at hu
    cases hu
    rw [show (⟨b, off, none⟩ : Addr).add j = ⟨b, off + j, none⟩ by simp [Addr.add]]
    exact (World.cell?_alloc_lt _ _ ⟨b, off + j, none⟩ hb).trans (HK.out j hj)
  have hB0 : Below w.heap.size w (w.alloc (.cells #[] 3)) := (Below.refl _ _).alloc (Nat.le_refl _) _
  have hnil := fun (w : World) (a : Option Addr) (n c : Nat) => Lib.run_eql_slice_nil (P := Tryd.prog) w 107 3 a n c 0 0 Tryd.underlying107
  by_cases h0 : p.length = 0
  · have HP : Hid (p = []) := List.length_eq_zero_iff.1 h0
    go_enter Tryd.func59, Tryd.ntmps59
    go_wp2_with (at_builtin; refine wpList_append_fits _ rfl _ _ 107 rfl w.heap.size 3 i0 1 Tryd.underlying107 hi hz1 w.heap.size 0 0 [] rfl HOWN.out ⟨b, off, none⟩ p.length cap (ints p) rfl (by rw [ints_len]; omega) HC.out (ints_one p) (by omega) ?_)
    intro w2 hown2 hgrow
    have hB2 : Below w.heap.size w w2 := hB0.grown hgrow (by simp) (fun k hk => by cases hk; exact Nat.le_refl _)
    have HO := Lib.hid hown2
    clear hown2 hgrow
    go_wp2_with fail
    go_ret
    exact ⟨_, rfl, pathIn_of_row (p := p) (by simpa using HO.out) (by omega), hB2⟩
  · go_enter Tryd.func59, Tryd.ntmps59
    go_wp2_with (at_builtin; refine wpList_append_row _ rfl _ _ 107 rfl w.heap.size 3 i0 _ 1 8 Tryd.underlying107 hi hz0 hz1 hz2 rfl (by decide) _ _ _ rfl HOWN.out ⟨b, off, none⟩ p.length cap (ints p) rfl (by rw [ints_len]; omega) HC.out (ints_one p) (by omega) (by unfold maxLen; omega) (by omega) (by simp) ?_)
    intro g cap2 w2 hown2 hgrow hplace
    have hB2 : Below w.heap.size w w2 := hB0.grown hgrow (by simp) (fun k hk => by cases hk; exact Nat.le_refl _)
    have HO := Lib.hid hown2
    clear hown2 hgrow hplace
    go_wp2_with fail
    go_ret
    exact ⟨_, rfl, pathIn_of_row (p := p) (by simpa using HO.out) (by omega), hB2⟩
end Go.Proofs.YtkpdngfkdmllkaaDoor

/-
  The law for append on a row of the call's own, as one step of a region that draws its order. No program is named here.
-/
namespace Go.Proofs.YtkpdngfkdmllkaaDoor
set_option linter.unusedVariables false
set_option linter.unusedSimpArgs false
open Go.RowKit

/-- append to a nil slice or a row of the call's own: the new row lies where the old one lay, or in a new block -/
theorem step_append_row {P : Program} {ops : Array Oper} {o : Oper} {a : Act} {w : World} {K : Act → World → Prop} {Q : Exit → Act → World → Prop} {E : Prop}
    (hg : o.guard = none) (s x : Operand) (t : TypeId) (hop : o.op = Op.call { callee := Callee.builtin Builtin.append, args := #[s, x], argTypes := #[t, t] })
    (base : Nat) (e : TypeId) (i : TypeInfo) (z : Value) (size bytes : Nat) (h1 : P.underlying t = some (.slice e)) (h2 : P.info? e = some i) (h3 : i.zero = some z) (h4 : i.size = size) (h5 : i.bytes = bytes) (h6 : z.cells.size = size) (h7 : 0 < size)
    (v : Value) (n : Nat) (xs : List Value) (hs : a.eval s = v) (hown : w.ownsRow base e size v n xs)
    (ad : Addr) (m c : Nat) (news : List Value) (hx : a.eval x = .slice (some ad) m c) (hn : news.length = m * size) (hc : ∀ j u, news[j]? = some u → w.cell? (ad.add j) = some u) (h1c : ∀ u ∈ news, u.oneCell' = true)
    (hm : 0 < m) (b1 : n + m ≤ maxLen) (b2 : (n + m) * bytes ≤ 140737488355328) (hbase : base ≤ w.heap.size)
    (hK : ∀ g cap w', w'.ownsRow base e size (.slice (some ⟨g, 0, none⟩) (n + m) cap) (n + m) (xs ++ news) → w.grownBy w' v.ownBlock → (v.ownBlock = some g ∨ w.heap.size ≤ g) → K (a.put o.dst (.slice (some ⟨g, 0, none⟩) (n + m) cap)) w') :
    if Region.wanted o (yielded ops a.tmps) = true then Oper.wp P o a w K Q else E := by
  have out : ∀ v' w', w'.ownsRow w.heap.size e size v' (n + m) (xs ++ news) → w.grownBy w' none → K (a.put o.dst v') w' := by
    intro v' w' r1 r2
    rcases ownsRow_form r1 with ⟨_, h0⟩ | ⟨g', cap', rfl, hg', _, _⟩
    · omega
    · exact hK g' cap' w' (ownsRow_base r1 hbase) (grown_any r2) (.inr hg')
  rcases ownsRow_form hown with ⟨rfl, rfl⟩ | ⟨g, cap, rfl, hgb, hgl, hcap⟩
  · have hx0 : xs = [] := List.length_eq_zero_iff.1 (by rw [hown.1]; omega)
    exact step_append_grows hg s x t hop e i z size bytes h1 h2 h3 h4 h5 h6 h7 none 0 0 xs hs (fun _ => ⟨rfl, rfl⟩) (by rw [hx0]; simp) (fun b h => by cases h) ad m c news hx hn hc h1c (by omega) b1 b2 out
  · by_cases hf : n + m ≤ cap
    · have hw : Region.wanted o (yielded ops a.tmps) = true := by simp [Region.wanted, hg]
      rw [if_pos hw]
      obtain ⟨w', hrun, r1, r2⟩ := run_append_fits (P := P) w base t o.type e i size h1 h2 h4 g n cap xs hown ad m c news hn hc h1c hf
      unfold Oper.wp
      simp [execOp, hop, resolve, invoke, builtin, hs, hx, hrun, Result.andThen]
      exact hK g cap w' r1 r2 (.inl rfl)
    · refine step_append_grows hg s x t hop e i z size bytes h1 h2 h3 h4 h5 h6 h7 (some ⟨g, 0, none⟩) n cap xs hs (fun h => by cases h) hown.1 (fun b hb j u hu => ?_) ad m c news hx hn hc h1c (by omega) b1 b2 out
      cases hb
      exact hown.cells rfl j u hu
end Go.Proofs.YtkpdngfkdmllkaaDoor

/-
  Trees whose cells lie in given blocks. No program is named here.
-/
namespace Go.Proofs.YtkpdngfkdmllkaaDoor
set_option linter.unusedVariables false
set_option linter.unusedSimpArgs false
open Go.RowKit

/-- The children of a tree lie at an address, all in blocks of a kind. -/
def RepIn (S : Nat → Prop) (w : World) : Tree → Option Addr → Prop
  | .node k n s l kid => fun a => (Tree.node k n s l kid).Fits ∧
      (l = 0 ∨ ∃ b off, a = some ⟨b, off, none⟩ ∧ S b ∧ ∀ (i : Nat) (h : i < l), ∃ ai ci, NodeAt w b (off + i * 4) (kid ⟨i, h⟩) ai ci ∧ RepIn S w (kid ⟨i, h⟩) ai)

theorem RepIn.fits {S : Nat → Prop} {w : World} {t : Tree} {a : Option Addr} (h : RepIn S w t a) : t.Fits := by cases t; exact h.1
theorem RepIn.kids {S : Nat → Prop} {w : World} {t : Tree} {a : Option Addr} (h : RepIn S w t a) : t.len = 0 ∨ ∃ b off, a = some ⟨b, off, none⟩ ∧ S b ∧ ∀ i, i < t.len → ∃ ai ci, NodeAt w b (off + i * 4) (t.kid i) ai ci ∧ RepIn S w (t.kid i) ai := by
  cases t with
  | node k n s l kid =>
    rcases h.2 with h0 | ⟨b, off, ha, hS, hk⟩
    · exact .inl h0
    · exact .inr ⟨b, off, ha, hS, fun i hi => by have hi' : i < l := hi; rw [Tree.kid_node hi']; exact hk i hi⟩
theorem RepIn.mk {S : Nat → Prop} {w : World} {t : Tree} {a : Option Addr} (hf : t.Fits) (h : t.len = 0 ∨ ∃ b off, a = some ⟨b, off, none⟩ ∧ S b ∧ ∀ i, i < t.len → ∃ ai ci, NodeAt w b (off + i * 4) (t.kid i) ai ci ∧ RepIn S w (t.kid i) ai) : RepIn S w t a := by
  cases t with
  | node k n s l kid =>
    rcases h with h0 | ⟨b, off, ha, hS, hk⟩
    · exact ⟨hf, .inl h0⟩
    · exact ⟨hf, .inr ⟨b, off, ha, hS, fun i hi => by have hi' : i < l := hi; have := hk i hi; rwa [Tree.kid_node hi'] at this⟩⟩

theorem RepIn.rep {S : Nat → Prop} {w : World} : ∀ {t : Tree} {a : Option Addr}, RepIn S w t a → Rep w t a := by
  intro t
  induction t using Tree.ind with
  | h t ih =>
    intro a h
    refine Rep.mk h.fits ?_
    rcases h.kids with h0 | ⟨b, off, ha, _, hk⟩
    · exact .inl h0
    · exact .inr ⟨b, off, ha, fun i hi => by obtain ⟨ai, ci, hn, hr⟩ := hk i hi; exact ⟨ai, ci, hn, ih i hi hr⟩⟩

theorem NodeAt.same {w w' : World} {b off : Nat} {t : Tree} {a : Option Addr} {c : Nat} (h : NodeAt w b off t a c) (hb : w'.heap[b]? = w.heap[b]?) : NodeAt w' b off t a c :=
  ⟨(World.cell?_of_block (a := ⟨b, _, none⟩) hb).trans h.kind, (World.cell?_of_block (a := ⟨b, _, none⟩) hb).trans h.num, (World.cell?_of_block (a := ⟨b, _, none⟩) hb).trans h.name, (World.cell?_of_block (a := ⟨b, _, none⟩) hb).trans h.kids⟩

theorem RepIn.move {S S' : Nat → Prop} {w w' : World} (h1 : ∀ k, S k → k < w.heap.size → w'.heap[k]? = w.heap[k]?) (h2 : ∀ k, S k → k < w.heap.size → S' k) :
    ∀ {t : Tree} {a : Option Addr}, RepIn S w t a → RepIn S' w' t a := by
  intro t
  induction t using Tree.ind with
  | h t ih =>
    intro a h
    refine RepIn.mk h.fits ?_
    rcases h.kids with h0 | ⟨b, off, ha, hS, hk⟩
    · exact .inl h0
    · by_cases hl : 0 < t.len
      · have hlt : b < w.heap.size := by obtain ⟨ai, ci, hn, _⟩ := hk 0 hl; exact hn.lt
        exact .inr ⟨b, off, ha, h2 b hS hlt, fun i hi => by obtain ⟨ai, ci, hn, hr⟩ := hk i hi; exact ⟨ai, ci, hn.same (h1 b hS hlt), ih i hi hr⟩⟩
      · exact .inl (by omega)
/-- new memory, from a line on -/
theorem RepIn.mono {S S' : Nat → Prop} {w : World} (h : ∀ k, S k → S' k) {t : Tree} {a : Option Addr} (hr : RepIn S w t a) : RepIn S' w t a :=
  hr.move (fun _ _ _ => rfl) (fun k hk _ => h k hk)

/-- the cells of a node -/
def Tree.row (t : Tree) (x : Option Addr × Nat) : List Value := [.int .u8 t.kind, .int .i64 t.num, .string t.name, .slice x.1 t.len x.2]
/-- the cells of the first children -/
def rowsTo (kid : Nat → Tree) (x : Nat → Option Addr × Nat) : Nat → List Value
  | 0 => []
  | n + 1 => rowsTo kid x n ++ (kid n).row (x n)
theorem rowsTo_len (kid : Nat → Tree) (x : Nat → Option Addr × Nat) (n : Nat) : (rowsTo kid x n).length = n * 4 := by
  induction n with
  | zero => rfl
  | succ n ih => simp only [rowsTo, List.length_append, ih]; simp [Tree.row]; omega
theorem rowsTo_congr {kid : Nat → Tree} {x y : Nat → Option Addr × Nat} {n : Nat} (h : ∀ i, i < n → x i = y i) : rowsTo kid x n = rowsTo kid y n := by
  induction n with
  | zero => rfl
  | succ n ih => simp only [rowsTo]; rw [ih (fun i hi => h i (by omega)), h n (by omega)]
theorem rowsTo_at (kid : Nat → Tree) (x : Nat → Option Addr × Nat) {n i : Nat} (h : i < n) (d : Nat) (hd : d < 4) : (rowsTo kid x n)[i * 4 + d]? = ((kid i).row (x i))[d]? := by
  induction n with
  | zero => omega
  | succ n ih =>
    simp only [rowsTo]
    by_cases e : i = n
    · subst e
      rw [List.getElem?_append_right (by rw [rowsTo_len]; omega), rowsTo_len]
      congr 1; omega
    · rw [List.getElem?_append_left (by rw [rowsTo_len]; omega)]
      exact ih (by omega)
end Go.Proofs.YtkpdngfkdmllkaaDoor
