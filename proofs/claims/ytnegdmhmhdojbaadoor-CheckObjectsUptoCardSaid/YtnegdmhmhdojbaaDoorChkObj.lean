/-
  Contract: Objects (package check): the names of the Lock nodes, each once.
-/
import Derived.Test.YtnegdmhmhdojbaaDoorChkVisit
import Derived.Test.YtnegdmhmhdojbaaDoorApps
import Derived.Test.YtnegdmhmhdojbaaDoorPathRowsT
import Derived.Test.YtnegdmhmhdojbaaDoorAstAts
import Derived.Deep.RegionHeld
import Derived.OrdersHeld
import Derived.Deep.Cut
import Derived.Deep.CutRange
import Derived.Deep.DeepCutAuto
import Derived.Deep.CutBlock
import Derived.Laws.EntriesVeiled
namespace Go.Proofs.YtnegdmhmhdojbaaDoor
set_option linter.unusedVariables false
set_option linter.unusedSimpArgs false
open Go.RowKit
set_option maxRecDepth 100000
set_option maxHeartbeats 16000000

/-- the names so far, and what a node adds -/
def objN (so : List ByteArray) (x : Tree) : List ByteArray := if (decide (x.kind = 46) && !memB so x.name) = true then so ++ [x.name] else so
def objL (so : List ByteArray) (l : List (List Int × Tree)) : List ByteArray := l.foldl (fun s x => objN s x.2) so
def objT (so : List ByteArray) (t : Tree) : List ByteArray := objL so (t.items [])
theorem objL_append (so : List ByteArray) (l m : List (List Int × Tree)) : objL so (l ++ m) = objL (objL so l) m := by unfold objL; rw [List.foldl_append]
theorem objL_items (so : List ByteArray) (t : Tree) (p : List Int) : objL so (t.items p) = objT so t := by
  unfold objT objL
  rw [items_shift t p, List.foldl_map]
theorem objN_le (so : List ByteArray) (x : Tree) : (objN so x).length ≤ so.length + 1 := by unfold objN; split <;> simp
theorem objL_le : ∀ (l : List (List Int × Tree)) (so : List ByteArray), (objL so l).length ≤ so.length + l.length
  | [], so => Nat.le_refl _
  | x :: l, so => by
    have h1 := objL_le l (objN so x.2)
    have h2 := objN_le so x.2
    have e : objL so (x :: l) = objL (objN so x.2) l := rfl
    rw [e, List.length_cons]
    omega
theorem items_size (t : Tree) (p : List Int) : (t.items p).length = t.size := by rw [items_shift, List.length_map, its_length]
/-- the children up to one -/
def objUp (so : List ByteArray) (t : Tree) (j : Nat) : List ByteArray := objL so (concatTo (fun i => (t.kid i).items [(i : Int)]) j)
theorem objUp_succ (so : List ByteArray) (t : Tree) (j : Nat) : objUp so t (j + 1) = objT (objUp so t j) (t.kid j) := by
  unfold objUp
  rw [concatTo_succ, objL_append, objL_items]
theorem objT_eq (so : List ByteArray) (t : Tree) : objT so t = objUp (objN so t) t t.len := by
  unfold objT objUp
  rw [t.items_eq []]
  rfl
theorem objUp_le (so : List ByteArray) (t : Tree) (j : Nat) : (objUp so t j).length ≤ so.length + Tree.sumTo (fun i => (t.kid i).size) j := by
  have h := objL_le (concatTo (fun i => (t.kid i).items [(i : Int)]) j) so
  have e : (concatTo (fun i => (t.kid i).items [(i : Int)]) j).length = Tree.sumTo (fun i => (t.kid i).size) j := by
    rw [concatTo_length]
    exact Tree.sumTo_congr (fun i _ => (items_size (t.kid i) [(i : Int)]))
  rw [e] at h
  exact h
/-- an object that the walk does not turn -/
def StillO : Obj → Prop
  | .cells _ t _ => t ≠ 9 ∧ t ≠ 40
  | .map _ _ => False
  | _ => True
structure FrO (N : Nat) (w w' : World) : Prop where
  low : Below N w w'
  still : ∀ (k : Nat) (o : Obj), w.heap[k]? = some o → StillO o → w'.heap[k]? = some o
section
variable {N : Nat} {w w' w'' : World} {v : Value}
theorem FrO.refl : FrO N w w := ⟨Below.refl _ _, fun _ _ h _ => h⟩
theorem FrO.trans (h : FrO N w w') (h' : FrO N w' w'') : FrO N w w'' := ⟨h.low.trans h'.low, fun k o hk hs => h'.still k o (h.still k o hk hs) hs⟩
theorem FrO.of (h : Below w.heap.size w w') (hN : N ≤ w.heap.size) : FrO N w w' := ⟨h.mono hN, fun _ _ hk _ => mem_keep hk h⟩
theorem FrO.cells {b : Nat} {arr : Array Value} {t : TypeId} (h : FrO N w w') (hb : w.heap[b]? = some (.cells arr t)) (h1 : t ≠ 9) (h2 : t ≠ 40) : w'.heap[b]? = some (.cells arr t) := h.still b _ hb ⟨h1, h2⟩
theorem FrO.rep {t : Tree} {a : Option Addr} (h : FrO N w w') (hr : RepIn (fun k => k < N) w t a) : RepIn (fun k => k < N) w' t a := hr.move (fun k hk _ => h.low.block k hk) (fun _ hk _ => hk)
end
/-- the closure's boxes -/
structure OCtx (w : World) (sb mb lb vb : Nat) : Prop where
  mbx : w.heap[mb]? = some (.cells #[.map (some sb)] 72)
  vbx : w.heap[vb]? = some (.cells #[.func (.func 53) #[] #[.pointer (some ⟨mb, 0, none⟩), .pointer (some ⟨lb, 0, none⟩), .pointer (some ⟨vb, 0, none⟩)]] 78)
theorem OCtx.fr {N : Nat} {w w' : World} {sb mb lb vb : Nat} (h : OCtx w sb mb lb vb) (hf : FrO N w w') : OCtx w' sb mb lb vb :=
  ⟨hf.cells h.mbx (by decide) (by decide), hf.cells h.vbx (by decide) (by decide)⟩
/-- the set and the list of names -/
structure OB (N : Nat) (w : World) (sb lb : Nat) (v : Value) (so : List ByteArray) : Prop where
  set : SetS w sb so.length so
  box : w.heap[lb]? = some (.cells #[v] 40)
  row : w.ownsRow N 9 1 v so.length (so.map Value.string)
  up : N ≤ lb
  ups : N ≤ sb
  sizes : ∀ s ∈ so, s.size ≤ 9223372036854775807
theorem OB.keep {N : Nat} {w w' : World} {sb lb : Nat} {v : Value} {so : List ByteArray} (h : OB N w sb lb v so) (hB : Below w.heap.size w w') : OB N w' sb lb v so :=
  ⟨h.set.below hB, mem_keep h.box hB, own_below h.row hB, h.up, h.ups, h.sizes⟩
theorem set_map {w : World} {b n : Nat} {S : List ByteArray} (h : SetS w b n S) : ∃ es clock, w.heap[b]? = some (.map es clock) := by
  obtain ⟨D, ⟨es, clock, h1, _⟩, _⟩ := h
  exact ⟨es, clock, h1⟩
/-- the set has one name more: what stays -/
theorem OB.mark {N : Nat} {w w' : World} {sb lb : Nat} {v : Value} {so : List ByteArray} {s : ByteArray} (h : OB N w sb lb v so) (hN : N ≤ w.heap.size) (hg : w.grownBy w' (some sb)) :
    FrO N w w' ∧ w'.heap[lb]? = some (.cells #[v] 40) ∧ w'.ownsRow N 9 1 v so.length (so.map Value.string) := by
  obtain ⟨es, clock, hm⟩ := set_map h.set
  have key : ∀ {k : Nat} {o : Obj}, w.heap[k]? = some o → (∀ es c, o ≠ .map es c) → w'.heap[k]? = some o := fun {k o} hk ho => by
    refine (hg.block k (mem_lt hk) (fun e => ?_)).trans hk
    have e : k = sb := by injection e
    subst e
    rw [hm] at hk
    injection hk with hk
    exact ho es clock hk.symm
  refine ⟨⟨(Below.refl _ _).grown hg hN (fun k hk => by
    have hk : sb = k := by injection hk
    rw [← hk]
    exact h.ups), fun k o hk hs => key hk (fun es c e => by subst e; exact hs)⟩, key h.box (fun _ _ e => by cases e), ?_⟩
  refine own_keep h.row (fun k hk hl => hg.block k hl (fun e => ?_))
  have e : k = sb := by injection e
  subst e
  rcases h.row.2 with ⟨rfl, _⟩ | ⟨g', cap', cur, rfl, _, hc, _⟩
  · cases hk
  · have hk : g' = k := by injection hk
    subst hk
    rw [hm] at hc
    cases hc
/-- the list has one name more, stored into its box -/
theorem OB.push {N : Nat} {V w2 : World} {sb lb c : Nat} {A : Option Addr} {v : Value} {so : List ByteArray} {s : ByteArray} (hset : SetS V sb (so.length + 1) (so ++ [s])) (hbox : V.heap[lb]? = some (.cells #[v] 40)) (hrow : V.ownsRow N 9 1 v so.length (so.map Value.string))
    (hup : N ≤ lb) (hups : N ≤ sb) (hsz : ∀ x ∈ so, x.size ≤ 9223372036854775807) (hs : s.size ≤ 9223372036854775807) (hN : N ≤ V.heap.size) (hg : V.grownBy w2 v.ownBlock)
    (ho : w2.ownsRow N 9 1 (.slice A (so.length + 1) c) (so.length + 1) (so.map Value.string ++ [.string s])) :
    OB N (w2.setCell ⟨lb, 0, none⟩ (.slice A (so.length + 1) c)) sb lb (.slice A (so.length + 1) c) (so ++ [s]) ∧ FrO N V (w2.setCell ⟨lb, 0, none⟩ (.slice A (so.length + 1) c)) := by
  have keep : ∀ {k : Nat} {o : Obj}, V.heap[k]? = some o → (∀ arr f, o ≠ .cells arr 9 f) → w2.heap[k]? = some o := fun {k o} hk ho' => by
    refine (hg.block k (mem_lt hk) (fun e => ?_)).trans hk
    rcases hrow.2 with ⟨rfl, _⟩ | ⟨g', cap', cur, rfl, _, hc, _⟩
    · cases e
    · have e : k = g' := by injection e
      subst e
      rw [hk] at hc
      injection hc with hc
      exact ho' _ _ hc
  have hbox2 : w2.heap[lb]? = some (.cells #[v] 40) := keep hbox (fun _ _ e => by injection e with _ e; exact absurd e (by decide))
  obtain ⟨es, clock, hm⟩ := set_map hset
  have hm2 : w2.heap[sb]? = some (.map es clock) := keep hm (fun _ _ e => by cases e)
  have hne : sb ≠ lb := fun e => by subst e; rw [hm] at hbox; cases hbox
  refine ⟨⟨?_, ?_, ?_, hup, hups, fun x hx => ?_⟩, ⟨?_, fun k o hk hs' => ?_⟩⟩
  · rw [List.length_append]
    refine hset.move ?_
    rw [Below.heap_setCell _ _ _ _ hne, hm2, hm]
  · rw [mem_set hbox2]; rfl
  · rw [List.length_append, List.map_append]
    exact own_keep ho (fun k hk _ => Below.heap_setCell _ _ _ _ (by rintro rfl; exact own_other ho hbox2 (by decide) hk))
  · rcases List.mem_append.1 hx with hx | hx
    · exact hsz x hx
    · obtain rfl := List.mem_singleton.1 hx
      exact hs
  · exact ((Below.refl _ _).grown hg hN (fun k hk => (own_lt hrow hk).1)).setCell hup _
  · have h2 : w2.heap[k]? = some o := keep hk (fun arr f e => by subst e; exact hs'.1 rfl)
    refine (Below.heap_setCell _ _ _ _ ?_).trans h2
    rintro rfl
    rw [hbox2] at h2
    injection h2 with h2
    subst h2
    exact hs'.2 rfl
theorem ostr_info : (Tryd.prog.info? 9).map (fun i => (i.zero, i.size, i.bytes)) = some (some (.string ⟨#[]⟩), 1, 16) := by kernel_rfl
def OEnd (N sb lb : Nat) (so : List ByteArray) (w : World) (e : Ending) (w' : World) : Prop :=
  e = .returned (.tuple #[]) ∧ FrO N w w' ∧ ∃ v', OB N w' sb lb v' so
theorem ovisit_any (N sb mb lb vb : Nat) : ∀ (t : Tree) (w : World) (a : Option Addr) (c : Nat) (v : Value) (so : List ByteArray), N ≤ w.heap.size → OCtx w sb mb lb vb → OB N w sb lb v so → RepIn (fun k => k < N) w t a → so.length + t.size ≤ 1000000 →
    Calls Tryd.prog 53 #[t.val a c, .pointer (some ⟨mb, 0, none⟩), .pointer (some ⟨lb, 0, none⟩), .pointer (some ⟨vb, 0, none⟩)] w (OEnd N sb lb (objT so t) w) := by
  intro t
  induction t using Tree.ind with
  | h t ih =>
  intro w a c v so hN hctx hob hrep hlen
  obtain ⟨ti, hti, hz0, hz1, hz2⟩ := info_parts ostr_info
  have HIH := Lib.hid ih
  have HN := Lib.hid hN
  have HNM : Hid (t.name.size ≤ maxLen) := hrep.fits.name
  have hfit := hrep.fits.len
  have HLL := Lib.hid hlen
  have HSP : Hid (1 ≤ t.size) := t.size_pos
  obtain ⟨va, vc, rfl⟩ := own_val hob.row
  obtain ⟨W, hW⟩ : ∃ W : World, w.alloc (boxObj t a c) = W := ⟨_, rfl⟩
  have hBW : Below w.heap.size w W := by rw [← hW]; exact mem_alloc _ _
  have hX : W.heap[w.heap.size]? = some (boxObj t a c) := by rw [← hW]; exact mem_new _ _
  have HFW : Hid (FrO N w W) := FrO.of hBW hN
  have HNW : Hid (N ≤ W.heap.size) := Nat.le_trans hN hBW.size
  have K : Hid (∀ w', FrO N W w' → OCtx w' sb mb lb vb ∧ RepIn (fun k => k < N) w' t a ∧ w'.heap[w.heap.size]? = some (boxObj t a c)) := fun w' h =>
    ⟨(hctx.fr HFW.out).fr h, h.rep (HFW.out.rep hrep), h.cells hX (by decide) (by decide)⟩
  have HOB := Lib.hid (hob.keep hBW)
  obtain ⟨hc0, _, hx0⟩ := K.out W FrO.refl
  have m0 := mem_cell hc0.mbx 0
  obtain ⟨⟨n0, n1, n2, n3⟩, _⟩ := blk4 hx0
  have g1 := sset_get HOB.out.set HNM.out
  simp only [List.getElem?_toArray, List.getElem?_cons_zero, List.getElem?_cons_succ] at m0
  clear ih hN hctx hob hrep hlen hBW hX hc0 hx0
  obtain ⟨so2, hso2⟩ : ∃ so2, objT so t = so2 := ⟨_, rfl⟩
  rw [hso2]
  have HSO := Lib.hid hso2
  clear hso2
  go_enter Tryd.func53, Tryd.ntmps53
  obtain ⟨bb, hbb⟩ : ∃ b, (decide (t.kind = 46) && !memB so t.name) = b := ⟨_, rfl⟩
  have HBB := Lib.hid hbb
  clear hbb
  go_upto_region 1 with fail
  clear hW
  go_cut [16] (fun s w' => s = .bool bb ∧ w' = W)
  case first =>
    by_cases k46 : t.kind = 46
    · have k46' : (t.kind == 46) = true := by simp [k46]
      obtain ⟨mm, hmm⟩ : ∃ m, memB so t.name = m := ⟨_, rfl⟩
      rw [hmm] at g1
      have HE : Hid (bb = !mm) := by show _ = _; rw [← HBB.out, hmm]; simp [k46]
      clear hmm k46
      cases mm
      all_goals
        go_wp2_with fail
        go_meet
        exact ⟨by rw [HE.out]; rfl, rfl⟩
    · have k46' : (t.kind == 46) = false := by simpa using k46
      have HE : Hid (bb = false) := by show _ = _; rw [← HBB.out]; simp [k46]
      clear k46
      go_wp2_with fail
      go_meet
      exact ⟨by rw [HE.out], rfl⟩
  obtain ⟨rfl, hwW⟩ := hcut
  rw [hwW]
  clear hwW g1
  go_upto_if 16 with fail
  go_cut [] (fun w' => ∃ v1, OB N w' sb lb v1 (objN so t) ∧ FrO N W w')
  case first =>
    cases bb with
    | false =>
      have HE : Hid (objN so t = so) := by show _ = _; unfold objN; rw [HBB.out]; rfl
      have HEND : Hid (∃ v1, OB N W sb lb v1 (objN so t) ∧ FrO N W W) := ⟨_, by rw [HE.out]; exact HOB.out, FrO.refl⟩
      go_wp2_with fail
      go_meet
      exact HEND.out
    | true =>
      have HE : Hid (objN so t = so ++ [t.name]) := by show _ = _; unfold objN; rw [HBB.out]; rfl
      go_wp2_with (at_mapUpdate; refine wpList_store_str _ rfl _ _ _ 72 rfl 9 4 Tryd.underlying9 Tryd.underlying4 Tryd.underlying72 sb so.length _ rfl HOB.out.set t.name rfl rfl HNM.out (by have := HLL.out; unfold maxLen; omega) ?_)
      intro w3 h3 hg3
      obtain ⟨hf3, hb3, hr3⟩ := HOB.out.mark (s := t.name) HNW.out hg3
      have HF3 := Lib.hid hf3
      have HS3 := Lib.hid h3
      have HB3 := Lib.hid hb3
      have HR3 := Lib.hid hr3
      have HN3 : Hid (N ≤ w3.heap.size) := Nat.le_trans HNW.out hf3.low.size
      obtain ⟨hc3, _, hx3⟩ := K.out w3 hf3
      clear m0 n0 n1 n2 n3 h3 hg3 hr3
      have m0 := mem_cell hc3.mbx 0
      obtain ⟨⟨n0, n1, n2, n3⟩, _⟩ := blk4 hx3
      have l0 := mem_cell hb3 0
      simp only [List.getElem?_toArray, List.getElem?_cons_zero, List.getElem?_cons_succ] at m0 l0
      obtain ⟨n, hn⟩ : ∃ n, so.length = n := ⟨_, rfl⟩
      have HNN := Lib.hid hn
      have hnl : n ≤ 1000000 := by have := HLL.out; omega
      have HRO : Hid (w3.ownsRow N 9 1 (.slice va n vc) n (so.map Value.string)) := by show World.ownsRow _ _ _ _ _ _ _; rw [← hn]; exact HR3.out
      rw [hn] at l0
      clear hf3 hb3 hc3 hx3 hn
      go_wp2_with (at_builtin; refine wpList_append_src _ rfl (.tmp 20) (.tmp 23) 40 rfl N 9 ti _ 1 16 Tryd.underlying40 hti hz0 hz1 hz2 rfl (by decide) (.slice va n vc) n (so.map Value.string) rfl (own_below HRO.out (mem_alloc _ _)) (some ⟨w3.heap.size, 0, none⟩) 1 1 [.string t.name] rfl (one_src (cs := [.string t.name]) (n := 1) (mem_new _ _) rfl) (by simp [Value.oneCell']) (by unfold maxLen; omega) (by omega) (by have := HN3.out; simp; omega) ?_)
      intro v9 w9 hown9 hgrow9 _
      obtain ⟨A9, c9, rfl⟩ := own_val hown9
      have hal := mem_alloc w3 (.cells #[.string t.name] 9)
      have hgrow8 : (w3.alloc (.cells #[.string t.name] 9)).grownBy w9 (Value.slice va so.length vc).ownBlock := by rw [HNN.out]; exact hgrow9
      have hown8 : w9.ownsRow N 9 1 (.slice A9 (so.length + 1) c9) (so.length + 1) (so.map Value.string ++ [.string t.name]) := by rw [HNN.out]; exact hown9
      have HPU := Lib.hid (OB.push (HS3.out.below hal) (mem_keep HB3.out hal) (own_below HR3.out hal) HOB.out.up HOB.out.ups HOB.out.sizes HNM.out (Nat.le_trans HN3.out hal.size) hgrow8 hown8)
      have hb9 : w9.heap[lb]? = some (.cells #[.slice va n vc] 40) := by
        have hb := mem_keep HB3.out hal
        have h := (hgrow9.block lb (mem_lt hb) (fun e => own_other (own_below HRO.out hal) hb (by decide) e.symm)).trans hb
        rw [HNN.out] at h
        exact h
      have z0 := mem_cell hb9 0
      have z1 := mem_free hb9 0
      simp only [List.getElem?_toArray, List.getElem?_cons_zero, List.getElem?_cons_succ] at z0
      have HFA : Hid (FrO N W (w3.alloc (.cells #[.string t.name] 9))) := HF3.out.trans (FrO.of hal HN3.out)
      rw [HNN.out] at HPU
      clear hown9 hgrow9 hgrow8 hown8 hal hb9 m0 n0 n1 n2 n3 l0
      go_wp2_with fail
      go_meet
      exact ⟨_, by rw [HE.out]; exact HPU.out.1, HFA.out.trans HPU.out.2⟩
  obtain ⟨v1, hob1, hfx⟩ := hcut
  obtain ⟨X, hX⟩ : ∃ X : World, X = wc := ⟨_, rfl⟩
  rw [← hX] at hob1 hfx ⊢
  have HFX := Lib.hid hfx
  have HOBX := Lib.hid hob1
  have HNX : Hid (N ≤ X.heap.size) := Nat.le_trans HNW.out hfx.low.size
  obtain ⟨_, _, hxx⟩ := K.out X hfx
  clear hX hob1 hfx m0 n0 n1 n2 n3 HOB
  obtain ⟨⟨n0, n1, n2, n3⟩, _⟩ := blk4 hxx
  clear hxx
  go_wp2_with fail
  clear n0 n1 n2 n3
  go_loopw [28] (fun iv wr => ∃ (j : Nat) (v2 : Value), j ≤ t.len ∧ iv = .int .i64 (j : Int) ∧ FrO N X wr ∧ OB N wr sb lb v2 (objUp (objN so t) t j)) (fun iv _ => t.len - (intOf iv).toNat)
  case atStart => exact ⟨0, v1, Nat.zero_le _, rfl, FrO.refl, HOBX.out⟩
  case round =>
    clear HOBX
    obtain ⟨j, v2, hj, rfl, hfr, hob2⟩ := hrel
    have HFR := Lib.hid hfr
    have HOB2 := Lib.hid hob2
    have HFRW : Hid (FrO N W wr) := HFX.out.trans hfr
    have HNR : Hid (N ≤ wr.heap.size) := Nat.le_trans HNX.out hfr.low.size
    have hj0 : (0 : Int) ≤ (j : Int) := by omega
    clear hfr hob2
    by_cases hlt : j < t.len
    · have hlt2 : (j : Int) < (t.len : Int) := by omega
      obtain ⟨hcw, hrw, hxw⟩ := K.out wr HFRW.out
      rcases hrw.kids with hz | ⟨bb, off, rfl, hS, hk⟩
      · omega
      obtain ⟨ai, ci, hn, hrk⟩ := hk j hlt
      obtain ⟨c0, c1, c2, c3⟩ := hn
      have hkl := hrk.fits.len
      have HRK := Lib.hid hrk
      obtain ⟨V, hV⟩ : ∃ V : World, wr.alloc (.cells #[.int .u8 (t.kid j).kind, .int .i64 (t.kid j).num, .string (t.kid j).name, .slice ai (t.kid j).len ci] 43) = V := ⟨_, rfl⟩
      have hBV : Below wr.heap.size wr V := by rw [← hV]; exact mem_alloc _ _
      have HFV : Hid (FrO N wr V) := FrO.of hBV HNR.out
      have HNV : Hid (N ≤ V.heap.size) := Nat.le_trans HNR.out hBV.size
      have HOBV := Lib.hid (HOB2.out.keep hBV)
      have hKB : V.heap[wr.heap.size]? = some (.cells #[.int .u8 (t.kid j).kind, .int .i64 (t.kid j).num, .string (t.kid j).name, .slice ai (t.kid j).len ci] 43) := by rw [← hV]; exact mem_new _ _
      have hcV := hcw.fr HFV.out
      have HCV := Lib.hid hcV
      have f0 := mem_cell hcV.vbx 0
      have u0 := mem_cell hKB 0
      have u1 := mem_cell hKB 1
      have u2 := mem_cell hKB 2
      have u3 := mem_cell hKB 3
      simp only [List.getElem?_toArray, List.getElem?_cons_zero, List.getElem?_cons_succ] at f0 u0 u1 u2 u3
      have HSZ : Hid ((objUp (objN so t) t j).length + (t.kid j).size ≤ 1000000) := by
        show _ ≤ _
        have h1 := objUp_le (objN so t) t j
        have h0 := objN_le so t
        have h2 := Tree.sumTo_le (f := fun i => (t.kid i).size) (show j + 1 ≤ t.len by omega)
        have h3 := Tree.size_eq t
        rw [Tree.sumTo_succ] at h2
        have h4 := HLL.out
        omega
      have HNXT : Hid (objUp (objN so t) t (j + 1) = objT (objUp (objN so t) t j) (t.kid j)) := objUp_succ _ _ _
      obtain ⟨sj, hsj⟩ : ∃ sj, objUp (objN so t) t j = sj := ⟨_, rfl⟩
      rw [hsj] at HSZ HNXT HOBV
      have HRV := Lib.hid (HFV.out.rep HRK.out)
      clear hrw hxw hk hrk hBV hKB hcw hcV hsj
      go_wp2_with fail
      clear hV c0 c1 c2 c3 f0 u0 u1 u2 u3
      have h9 := HIH.out j hlt V ai ci v2 sj HNV.out HCV.out HOBV.out HRV.out HSZ.out
      refine h9.mono ?_
      clear h9
      rintro e w3 ⟨rfl, hf3, v3, hb3⟩
      have HF3 : Hid (FrO N X w3) := HFR.out.trans (HFV.out.trans hf3)
      have HB3 := Lib.hid hb3
      clear hf3 hb3
      go_wp2_with fail
      go_roundw
      case rel => exact ⟨j + 1, v3, by omega, by go_num, HF3.out, by rw [HNXT.out]; exact HB3.out⟩
      case measure => simp [intOf]; omega
    · obtain rfl : j = t.len := by omega
      have HEND : Hid (OEnd N sb lb so2 w (.returned (.tuple #[])) wr) := ⟨rfl, HFW.out.trans HFRW.out, v2, by rw [← HSO.out, objT_eq]; exact HOB2.out⟩
      go_wp2_with fail
      go_end0
      exact HEND.out
end Go.Proofs.YtnegdmhmhdojbaaDoor
