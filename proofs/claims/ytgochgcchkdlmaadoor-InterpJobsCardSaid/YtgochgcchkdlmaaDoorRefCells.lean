/-
  RefCells: several texts in one (Ref16, Ref16E, Ref16S, Ref16T).
-/
import Derived.Test.YtgochgcchkdlmaaDoorPuts
import Derived.Test.YtgochgcchkdlmaaDoorInJobs
import Derived.Test.YtgochgcchkdlmaaDoorRef03Calls
import Derived.Test.YtgochgcchkdlmaaDoorInMems
/-
  The reference of layer 16: cells in memory; contract: Find (package ontimeref16).
-/
namespace Go.Proofs.YtgochgcchkdlmaaDoor
set_option linter.unusedVariables false
set_option linter.unusedSimpArgs false
open Go.RowKit Go.Maps
set_option maxRecDepth 100000
set_option maxHeartbeats 80000000

/-- a variable (one element) or an array -/
structure Cel where
  name : ByteArray
  arr : Bool
  l : List Int
/-- cells in memory -/
def CelAt (w : World) (b o : Nat) (c : Cel) (ra : Option Addr) (rc : Nat) : Prop := w.cell? ⟨b, o, none⟩ = some (.string c.name) ∧ w.cell? ⟨b, o + 1, none⟩ = some (.bool c.arr) ∧ w.cell? ⟨b, o + 2, none⟩ = some (.slice ra c.l.length rc) ∧ WordsAt w ra c.l ∧ c.name.size ≤ 9223372036854775807
def CelsAt (w : World) (a : Option Addr) (cs : List Cel) : Prop := cs.length ≤ 9223372036854775807 ∧ ∀ (k : Nat) (c : Cel), cs[k]? = some c → ∃ b off ra rc, a = some ⟨b, off, none⟩ ∧ CelAt w b (off + k * 3) c ra rc
theorem CelAt.below {w w' : World} {b o : Nat} {c : Cel} {ra : Option Addr} {rc : Nat} (h : CelAt w b o c ra rc) (hb : Below w.heap.size w w') : CelAt w' b o c ra rc := ⟨cell_stay hb h.1, cell_stay hb h.2.1, cell_stay hb h.2.2.1, h.2.2.2.1.below hb, h.2.2.2.2⟩
theorem CelsAt.below {w w' : World} {a : Option Addr} {cs : List Cel} (h : CelsAt w a cs) (hb : Below w.heap.size w w') : CelsAt w' a cs :=
  ⟨h.1, fun k c hk => by obtain ⟨b, off, ra, rc, h1, h2⟩ := h.2 k c hk; exact ⟨b, off, ra, rc, h1, h2.below hb⟩⟩
/-- whether a cell is looked for -/
def Cel.hit (c : Cel) (nm : ByteArray) (ar : Bool) : Prop := c.name = nm ∧ c.arr = ar
/-- what cells say of a name -/
def celL {α : Type} (f : Cel → Option (ByteArray × α)) (cs : List Cel) : ByteArray → Option α := fP (cs.filterMap f)
def fV (c : Cel) : Option (ByteArray × Int) := if c.arr then none else some (c.name, c.l.getD 0 0)
def fA (c : Cel) : Option (ByteArray × List Int) := if c.arr then some (c.name, c.l) else none
def celV (cs : List Cel) : VF := celL fV cs
def celA (cs : List Cel) : AF := celL fA cs
theorem celL_none {α : Type} {f : Cel → Option (ByteArray × α)} {ar : Bool} (hf : ∀ c x, f c = some x → c.arr = ar ∧ x.1 = c.name) {nm : ByteArray} : ∀ {cs : List Cel}, (∀ (k : Nat) (c : Cel), cs[k]? = some c → ¬ c.hit nm ar) → celL f cs nm = none
  | [], _ => rfl
  | c :: cs, h => by
    have ih := celL_none (f := f) hf (nm := nm) (cs := cs) (fun k c' hk => h (k + 1) c' (by simpa using hk))
    unfold celL at ih ⊢
    cases hc : f c with
    | none => rw [List.filterMap_cons_none hc]; exact ih
    | some x =>
      rw [List.filterMap_cons_some hc, fP, ih]
      show (if nm = x.1 then some x.2 else none) = none
      rw [if_neg]
      intro e
      obtain ⟨h1, h2⟩ := hf c x hc
      exact h 0 c rfl ⟨h2.symm.trans e.symm, h1⟩
theorem celL_some {α : Type} {f : Cel → Option (ByteArray × α)} {ar : Bool} (hf : ∀ c x, f c = some x → c.arr = ar ∧ x.1 = c.name) {nm : ByteArray} {v : α} : ∀ {cs : List Cel} {k : Nat} {c : Cel}, cs[k]? = some c → f c = some (nm, v) → (∀ (k' : Nat) (c' : Cel), k < k' → cs[k']? = some c' → ¬ c'.hit nm ar) → celL f cs nm = some v
  | [], k, c, h, _, _ => by simp at h
  | d :: cs, 0, c, h, hc, hn => by
    have h : d = c := by simpa using h
    subst h
    have ih := celL_none (f := f) hf (nm := nm) (cs := cs) (fun k c' hk => hn (k + 1) c' (by omega) (by simpa using hk))
    unfold celL at ih ⊢
    rw [List.filterMap_cons_some hc, fP, ih]
    exact if_pos rfl
  | d :: cs, k + 1, c, h, hc, hn => by
    have ih := celL_some (f := f) hf (nm := nm) (v := v) (cs := cs) (k := k) (c := c) (by simpa using h) hc (fun k' c' hk hk' => hn (k' + 1) c' (by omega) (by simpa using hk'))
    unfold celL at ih ⊢
    cases hd : f d with
    | none => rw [List.filterMap_cons_none hd]; exact ih
    | some x => rw [List.filterMap_cons_some hd, fP, ih]
theorem fV_ar (c : Cel) (x : ByteArray × Int) (h : fV c = some x) : c.arr = false ∧ x.1 = c.name := by
  unfold fV at h
  cases hc : c.arr with
  | true => rw [hc] at h; cases h
  | false => rw [hc] at h; cases h; exact ⟨rfl, rfl⟩
theorem fA_ar (c : Cel) (x : ByteArray × List Int) (h : fA c = some x) : c.arr = true ∧ x.1 = c.name := by
  unfold fA at h
  cases hc : c.arr with
  | false => rw [hc] at h; cases h
  | true => rw [hc] at h; cases h; exact ⟨rfl, rfl⟩
/-- what Find returns -/
def FindR (cs : List Cel) (nm : ByteArray) (ar : Bool) (r : Int) : Prop :=
  (r = -1 ∧ ∀ (k : Nat) (c : Cel), cs[k]? = some c → ¬ c.hit nm ar) ∨ ∃ (k : Nat) (c : Cel), r = (k : Int) ∧ cs[k]? = some c ∧ c.hit nm ar ∧ ∀ (k' : Nat) (c' : Cel), k < k' → cs[k']? = some c' → ¬ c'.hit nm ar
theorem str_ne_16 {a b : ByteArray} (h : a ≠ b) : (a.toList == b.toList) = false := by
  rw [beq_eq_false_iff_ne]
  intro e
  rw [ByteArray.toList_eq, ByteArray.toList_eq] at e
  exact h (ByteArray.ext (Array.toList_inj.1 e))
theorem find16_any (cs : List Cel) (nm : ByteArray) (ar : Bool) (w : World) (a : Option Addr) (cc : Nat) (h : CelsAt w a cs) :
    Calls Tryd.prog 50 #[.slice a cs.length cc, .string nm, .bool ar] w fun e w' => ∃ r, e = .returned (.int .i64 r) ∧ FindR cs nm ar r ∧ Below w.heap.size w w' := by
  have hl := h.1
  have H := Lib.hid h
  clear h
  go_enter Tryd.func50, Tryd.ntmps50
  go_wp2_with fail
  go_loopw [7] (fun iv wr => ∃ i : Int, -1 ≤ i ∧ i < (cs.length : Int) ∧ iv = .int .i64 i ∧ (∀ (k : Nat) (c : Cel), i < (k : Int) → cs[k]? = some c → ¬ c.hit nm ar) ∧ Below w.heap.size w wr) (fun iv _ => (intOf iv + 1).toNat)
  case atStart => exact ⟨(cs.length : Int) - 1, by omega, by omega, by go_num, fun k c hk hc => by have := (List.getElem?_eq_some_iff.1 hc).1; omega, Below.refl _ _⟩
  case round =>
    obtain ⟨i, hi1, hi2, rfl, hno, hB⟩ := hrel
    have HNO := Lib.hid hno
    have HB := Lib.hid hB
    clear hno hB
    by_cases h0 : 0 ≤ i
    · obtain ⟨m, hm⟩ : ∃ m : Nat, i = (m : Int) := ⟨i.toNat, by omega⟩
      subst hm
      have hml : m < cs.length := by omega
      obtain ⟨c, hc⟩ : ∃ c, cs[m]? = some c := ⟨_, List.getElem?_eq_getElem hml⟩
      obtain ⟨b, off, ra, rc, rfl, hce⟩ := (H.out.below HB.out).2 m c hc
      obtain ⟨c0, c1, _⟩ := hce
      have hbl := World.block_lt_of_cell? _ _ c0
      have HC := Lib.hid hc
      clear hc
      by_cases hn : c.name = nm
      · have hs : (c.name.toList == nm.toList) = true := by rw [hn]; simp
        by_cases ha : c.arr = ar
        · have hb1 : (c.arr == ar) = true := by rw [ha]; simp
          have HN : Hid (FindR cs nm ar (m : Int)) := .inr ⟨m, c, rfl, HC.out, ⟨hn, ha⟩, fun k' c' hk hc' => HNO.out k' c' (by omega) hc'⟩
          clear hn ha
          go_wp2_with fail
          go_ret
          exact ⟨_, rfl, HN.out, HB.out⟩
        · have hb1 : (c.arr == ar) = false := by simpa using ha
          have HN : Hid (∀ (k : Nat) (c : Cel), (m : Int) - 1 < (k : Int) → cs[k]? = some c → ¬ c.hit nm ar) := fun k c' hk hc' => by
            by_cases e : k = m
            · subst e; rw [HC.out] at hc'; cases hc'; exact fun hh => ha hh.2
            · exact HNO.out k c' (by omega) hc'
          clear hn ha
          go_wp2_with fail
          go_roundw
          case rel => exact ⟨(m : Int) - 1, by omega, by omega, by go_num, HN.out, HB.out⟩
          case measure => simp [intOf]
      · have hs := str_ne_16 hn
        have HN : Hid (∀ (k : Nat) (c : Cel), (m : Int) - 1 < (k : Int) → cs[k]? = some c → ¬ c.hit nm ar) := fun k c' hk hc' => by
          by_cases e : k = m
          · subst e; rw [HC.out] at hc'; cases hc'; exact fun hh => hn hh.1
          · exact HNO.out k c' (by omega) hc'
        clear hn
        go_wp2_with fail
        go_roundw
        case rel => exact ⟨(m : Int) - 1, by omega, by omega, by go_num, HN.out, HB.out⟩
        case measure => simp [intOf]
    · obtain rfl : i = -1 := by omega
      have HN : Hid (FindR cs nm ar (-1)) := .inl ⟨rfl, fun k c hc => HNO.out k c (by omega) hc⟩
      go_wp2_with fail
      go_ret
      exact ⟨_, rfl, HN.out, HB.out⟩
end Go.Proofs.YtgochgcchkdlmaaDoor

/-
  Contract: the reference's Expr (package ontimeref16).
-/
namespace Go.Proofs.YtgochgcchkdlmaaDoor
set_option linter.unusedVariables false
set_option linter.unusedSimpArgs false
open Go.RowKit Go.Maps
set_option maxRecDepth 100000
set_option maxHeartbeats 80000000

/-- an error is never 0 -/
theorem ev_ne0 (V : VF) (A : AF) : ∀ (t : Tree) (k : Int), t.ev V A = .er k → k ≠ 0 := by
  intro t
  induction t using Tree.ind with
  | h t ih =>
    intro k hk
    rw [Tree.ev_eq] at hk
    have h0 : ∀ k, (if 0 < t.len then (t.kid 0).ev V A else .ok 0) = .er k → k ≠ 0 := fun k h => by
      by_cases hl : 0 < t.len
      · rw [if_pos hl] at h; exact ih 0 hl k h
      · rw [if_neg hl] at h; cases h
    have h1 : ∀ k, (if 1 < t.len then (t.kid 1).ev V A else .ok 0) = .er k → k ≠ 0 := fun k h => by
      by_cases hl : 1 < t.len
      · rw [if_pos hl] at h; exact ih 1 hl k h
      · rw [if_neg hl] at h; cases h
    generalize (if 0 < t.len then (t.kid 0).ev V A else EV.ok 0) = e0 at hk h0
    generalize (if 1 < t.len then (t.kid 1).ev V A else EV.ok 0) = e1 at hk h1
    unfold evB at hk
    split at hk
    · cases hk
    split at hk
    · unfold optV at hk; split at hk
      · cases hk
      · cases hk; decide
    split at hk
    · split at hk
      · cases hk; decide
      · cases e0 with
        | er e => have hk : EV.er e = .er k := hk; cases hk; exact h0 _ rfl
        | ok x =>
          have hk : elemV _ x = .er k := hk
          unfold elemV at hk
          split at hk
          · cases hk
          · cases hk; decide
    split at hk
    · cases e0 with
      | er e => have hk : EV.er e = .er k := hk; cases hk; exact h0 _ rfl
      | ok x => cases hk
    · cases e0 with
      | er e => have hk : EV.er e = .er k := hk; cases hk; exact h0 _ rfl
      | ok x =>
        cases e1 with
        | er e => have hk : EV.er e = .er k := hk; cases hk; exact h1 _ rfl
        | ok y =>
          have hk : (if Wd.err t.kind y = 0 then EV.ok (Wd.apply t.kind x y) else EV.er (Wd.err t.kind y)) = .er k := hk
          by_cases he : Wd.err t.kind y = 0
          · rw [if_pos he] at hk; cases hk
          · rw [if_neg he] at hk; cases hk; exact he
def evK : EV → Int
  | .ok _ => 0
  | .er k => k
def itemE (o : Option (List Int)) (v : EV) : EV := match o with | none => .er 6 | some a => v.bind (elemV a)
/-- how the reference answers -/
def RefEQ (v : EV) (w : World) (e : Ending) (w' : World) : Prop := ∃ x, e = .returned (.tuple #[.int .i32 x, .int .i64 (evK v)]) ∧ Wd.W x ∧ (∀ y, v = .ok y → x = y) ∧ Below w.heap.size w w'
theorem refE_any (cs : List Cel) (ca : Option Addr) (cc : Nat) (hone : ∀ c ∈ cs, c.arr = false → c.l.length = 1) (hcl : ∀ c ∈ cs, c.l.length ≤ 1000000) : ∀ t : Tree, t.vld 101 = true → ∀ (w : World) (a : Option Addr) (c : Nat), Rep w t a → CelsAt w ca cs →
    Calls Tryd.prog 30 #[t.val a c, .slice ca cs.length cc] w (RefEQ (t.ev (celV cs) (celA cs)) w) := by
  intro t
  induction t using Tree.ind with
  | h t ih =>
    intro hv w a c hr hcs
    obtain ⟨⟨hk1, hk2⟩, hlen, hkids, hnum⟩ := vldE hv
    have hnl := hr.fits.len
    have hcsl := hcs.1
    have hfitn := hr.fits.num
    obtain ⟨W, hW⟩ : ∃ W : World, w.alloc (ndObj t a c) = W := ⟨_, rfl⟩
    have HBW : Hid (Below w.heap.size w W) := by show Below _ _ _; rw [← hW]; exact mem_alloc _ _
    have HX : Hid (W.heap[w.heap.size]? = some (ndObj t a c)) := by show _ = _; rw [← hW]; exact mem_new _ _
    have HK : Hid (∀ w', Below W.heap.size W w' → w'.heap[w.heap.size]? = some (ndObj t a c) ∧ CelsAt w' ca cs ∧ Rep w' t a ∧ Below w.heap.size w w') := fun w' h =>
      ⟨mem_keep HX.out h, hcs.below (mem_then HBW.out h), hr.below (mem_then HBW.out h), mem_then HBW.out h⟩
    obtain ⟨x0, x1, x2, x3⟩ := nd_cells HX.out
    have HEV := Lib.hid (Tree.ev_eq (celV cs) (celA cs) t)
    have HIH : Hid (∀ i, i < t.len → ∀ (w : World) (a : Option Addr) (c : Nat), Rep w (t.kid i) a → CelsAt w ca cs → Calls Tryd.prog 30 #[(t.kid i).val a c, .slice ca cs.length cc] w (RefEQ ((t.kid i).ev (celV cs) (celA cs)) w)) := fun i hi => ih i hi (hkids i hi)
    have HLEN := Lib.hid hlen
    have HONE := Lib.hid hone
    have HCL := Lib.hid hcl
    have HNUM := Lib.hid hnum
    clear ih hv hkids hr hcs hlen hnum hone hcl
    by_cases k1 : t.kind = 1
    · have b1 : (t.kind == 1) = true := by simp [k1]
      have HE : Hid (t.ev (celV cs) (celA cs) = .ok (wrap32 t.num)) := by show _ = _; rw [HEV.out]; unfold evB; rw [if_pos k1]
      clear k1 HEV
      go_enter Tryd.func30, Tryd.ntmps30
      go_wp2_with fail
      go_ret2
      rw [HE.out]
      exact ⟨_, rfl, Wd.W_wrap _, fun y hy => (by cases hy; rfl), HBW.out⟩
    by_cases k2 : t.kind = 2
    · have b1 : (t.kind == 1) = false := by simp [k2]
      have b2 : (t.kind == 2) = true := by simp [k2]
      have HE : Hid (t.ev (celV cs) (celA cs) = optV (celV cs t.name)) := by show _ = _; rw [HEV.out]; unfold evB; rw [if_neg k1, if_pos k2]
      have HF := Lib.hid (find16_any cs t.name false W ca cc (HK.out W (Below.refl _ _)).2.1)
      clear k1 k2 HEV
      go_enter Tryd.func30, Tryd.ntmps30
      go_wp2_with fail
      clear hW x0 x1 x2 x3
      refine HF.out.mono ?_
      rintro e w1 ⟨r, rfl, hr, hB1⟩
      have HB1 := Lib.hid hB1
      obtain ⟨_, hcs1, _, hbw1⟩ := HK.out w1 hB1
      have HBW1 := Lib.hid hbw1
      rcases hr with ⟨rfl, hn⟩ | ⟨k, c', rfl, hk, hh, hn⟩
      · have HN : Hid (celV cs t.name = none) := celL_none fV_ar hn
        clear hn hcs1 hbw1 HF hB1
        go_wp2_with fail
        go_ret2
        rw [HE.out, HN.out]
        exact ⟨0, rfl, by unfold Wd.W; omega, fun y hy => (by cases hy), HBW1.out⟩
      · have h1 := HONE.out c' (List.mem_of_getElem? hk) hh.2
        have hN : celV cs t.name = some (c'.l.getD 0 0) := celL_some fV_ar hk (by unfold fV; rw [hh.2, hh.1]; rfl) hn
        have HN := Lib.hid hN
        obtain ⟨b, off, ra, rc, rfl, hce⟩ := hcs1.2 k c' hk
        obtain ⟨_, _, c2, hw, _⟩ := hce
        have hkl := (List.getElem?_eq_some_iff.1 hk).1
        have hkl2 : (k : Int) < (cs.length : Int) := by omega
        have hk0 : (0 : Int) ≤ (k : Int) := by omega
        obtain ⟨b2, o2, rfl, hw2⟩ := hw.at_.resolve_left (by omega)
        obtain ⟨x, hx⟩ : ∃ x, c'.l[0]? = some x := ⟨_, List.getElem?_eq_getElem (by omega)⟩
        have c4 := hw2 0 x hx
        rw [Nat.add_zero] at c4
        have HW := Lib.hid (hw.words x (List.mem_of_getElem? hx))
        have hl0 : 0 < c'.l.length := by omega
        have HGX : Hid (c'.l.getD 0 0 = x) := by show _ = _; rw [List.getD_eq_getElem?_getD, hx]; rfl
        have hbl := World.block_lt_of_cell? _ _ c2
        have hbl2 := World.block_lt_of_cell? _ _ c4
        have hkn : ¬ (k : Int) < 0 := by omega
        have hkd : decide ((k : Int) < 0) = false := decide_eq_false hkn
        clear hn hcs1 hbw1 HF hB1 h1 hN hw hw2 hx hk hh
        go_wp2_with fail
        go_ret2
        rw [HE.out, HN.out, HGX.out]
        exact ⟨x, rfl, HW.out, fun y hy => (by cases hy; rfl), HBW1.out⟩
    have hl0 : 0 < t.len := by
      rw [HLEN.out]
      unfold Fm.kids
      by_cases hc : t.kind = 3 ∨ t.kind = 4 ∨ t.kind = 5
      · rcases hc with e | e | e <;> rw [e] <;> decide
      · rw [Fm.row_else t.kind (by omega)]; decide
    obtain ⟨kb, ko, rfl, ai, ci, hnd, hr0⟩ := kid_at (HK.out W (Below.refl _ _)).2.2.1 hl0
    obtain ⟨v0, hv0⟩ : ∃ v0, (t.kid 0).ev (celV cs) (celA cs) = v0 := ⟨_, rfl⟩
    have HV0 : Hid (∀ k, v0 = .er k → k ≠ 0) := fun k h => ev_ne0 _ _ _ k (hv0.trans h)
    have HEV0 : Hid ((if 0 < t.len then (t.kid 0).ev (celV cs) (celA cs) else .ok 0) = v0) := by show _ = _; rw [if_pos hl0, hv0]
    have HI0 : Hid (∀ w', Below W.heap.size W w' → Calls Tryd.prog 30 #[(t.kid 0).val ai ci, .slice ca cs.length cc] w' (RefEQ v0 w')) := fun w' h => by
      have h2 := HIH.out 0 hl0 w' ai ci (hr0.below h) (HK.out w' h).2.1
      rw [hv0] at h2
      exact h2
    have HND := Lib.hid hnd
    have hl0i : (0 : Int) < (t.len : Int) := by omega
    have hno : ∀ o, ko + 0 * 4 + o = ko + o := fun o => by omega
    clear hnd hr0 hv0 hno
    by_cases k3 : t.kind = 3
    · have b1 : (t.kind == 1) = false := by simp [k3]
      have b2 : (t.kind == 2) = false := by simp [k3]
      have b3 : (t.kind == 3) = true := by simp [k3]
      have HE : Hid (t.ev (celV cs) (celA cs) = itemE (celA cs t.name) v0) := by show _ = _; rw [HEV.out, HEV0.out]; unfold evB itemE; rw [if_neg k1, if_neg k2, if_pos k3]; cases celA cs t.name <;> rfl
      have HF := Lib.hid (find16_any cs t.name true W ca cc (HK.out W (Below.refl _ _)).2.1)
      clear k1 k2 k3 HEV
      go_enter Tryd.func30, Tryd.ntmps30
      go_wp2_with fail
      clear hW x0 x1 x2 x3
      refine HF.out.mono ?_
      rintro e w1 ⟨r, rfl, hr, hB1⟩
      have HB1 := Lib.hid hB1
      obtain ⟨hx1, _, _, hbw1⟩ := HK.out w1 hB1
      have HBW1 := Lib.hid hbw1
      obtain ⟨x0, x1, x2, x3⟩ := nd_cells hx1
      rcases hr with ⟨rfl, hn⟩ | ⟨k, c', rfl, hk, hh, hn⟩
      · have HN : Hid (celA cs t.name = none) := celL_none fA_ar hn
        clear hn hbw1 HF hB1 hx1
        go_wp2_with fail
        go_ret2
        rw [HE.out, HN.out]
        exact ⟨0, rfl, by unfold Wd.W; omega, fun y hy => (by cases hy), HBW1.out⟩
      · have hN : celA cs t.name = some c'.l := celL_some fA_ar hk (by unfold fA; rw [hh.2, hh.1]; rfl) hn
        have HN := Lib.hid hN
        have HKC := Lib.hid hk
        have hll := HCL.out c' (List.mem_of_getElem? hk)
        have hkl := (List.getElem?_eq_some_iff.1 hk).1
        have hkl2 : (k : Int) < (cs.length : Int) := by omega
        have hk0 : (0 : Int) ≤ (k : Int) := by omega
        have hkn : ¬ (k : Int) < 0 := by omega
        have hkd : decide ((k : Int) < 0) = false := decide_eq_false hkn
        obtain ⟨q0, q1, q2, q3⟩ := HND.out.below hB1 HND.out.lt
        simp only [Nat.zero_mul, Nat.add_zero] at q0 q1 q2 q3
        have hbl := World.block_lt_of_cell? _ _ q0
        have HC0 := Lib.hid (HI0.out w1 hB1)
        clear hn hbw1 HF hB1 hx1 hN hk hh
        go_wp2_with fail
        clear x0 x1 x2 x3 q0 q1 q2 q3
        refine HC0.out.mono ?_
        rintro e w2 ⟨x, rfl, hxW, hxy, hB2⟩
        have HB2 := Lib.hid (mem_then HB1.out hB2)
        have HBW2 := Lib.hid (HK.out w2 HB2.out).2.2.2
        have HXW := Lib.hid hxW
        clear hB2 HC0 hxW
        cases v0 with
        | er kk =>
          have hne := HV0.out kk rfl
          have hb1 : (kk != 0) = true := by simpa using hne
          have hb2 : ((evK (.er kk)) != 0) = true := hb1
          have hb3 : evK (.er kk) = kk := rfl
          clear hxy
          go_wp2_with fail
          go_ret2
          rw [HE.out, HN.out]
          exact ⟨0, rfl, by unfold Wd.W; omega, fun y hy => (by cases hy), HBW2.out⟩
        | ok y =>
          obtain rfl := hxy y rfl
          have hb3 : evK (.ok x) = 0 := rfl
          obtain ⟨b, off, ra, rc, hca, hce⟩ := (HK.out w2 HB2.out).2.1.2 k c' HKC.out
          obtain ⟨_, _, c2, hw, _⟩ := hce
          subst hca
          have hbl2 := World.block_lt_of_cell? _ _ c2
          have hxi : -2147483648 ≤ x ∧ x ≤ 2147483647 := HXW.out
          by_cases hin : 0 ≤ x ∧ x < (c'.l.length : Int)
          · obtain ⟨m, hm⟩ : ∃ m : Nat, x = (m : Int) := ⟨x.toNat, by omega⟩
            subst hm
            have hml : m < c'.l.length := by omega
            have hml2 : (m : Int) < (c'.l.length : Int) := by omega
            have hm0 : (0 : Int) ≤ (m : Int) := by omega
            obtain ⟨b2, o2, rfl, hw2⟩ := hw.at_.resolve_left (by omega)
            obtain ⟨z, hz⟩ : ∃ z, c'.l[m]? = some z := ⟨_, List.getElem?_eq_getElem hml⟩
            have c4 := hw2 m z hz
            have HW := Lib.hid (hw.words z (List.mem_of_getElem? hz))
            have hbl3 := World.block_lt_of_cell? _ _ c4
            have g1 : decide ((m : Int) < 0) = false := decide_eq_false (by omega)
            have g2 : decide ((c'.l.length : Int) ≤ (m : Int)) = false := decide_eq_false (by omega)
            have HZ : Hid (EV.bind (.ok (m : Int)) (elemV c'.l) = .ok z) := by
              show elemV c'.l (m : Int) = .ok z
              unfold elemV
              rw [if_pos ⟨by omega, by omega⟩, Int.toNat_natCast, List.getD_eq_getElem?_getD, hz]
              rfl
            clear hxy hw hw2 hz hin
            go_wp2_with fail
            go_ret2
            rw [HE.out, HN.out]
            show RefEQ (EV.bind (.ok (m : Int)) (elemV c'.l)) _ _ _
            rw [HZ.out]
            exact ⟨z, rfl, HW.out, fun y hy => (by cases hy; rfl), HBW2.out⟩
          · have HZ : Hid (EV.bind (.ok x) (elemV c'.l) = .er 11) := by
              show elemV c'.l x = .er 11
              unfold elemV
              rw [if_neg hin]
            have hg : decide (x < 0) = true ∨ (decide (x < 0) = false ∧ decide ((c'.l.length : Int) ≤ x) = true) := by
              by_cases h : x < 0
              · exact .inl (decide_eq_true h)
              · exact .inr ⟨decide_eq_false h, decide_eq_true (by omega)⟩
            clear hxy hw hin
            rcases hg with g1 | ⟨g1, g2⟩
            all_goals
              go_wp2_with fail
              go_ret2
              rw [HE.out, HN.out]
              show RefEQ (EV.bind (.ok x) (elemV c'.l)) _ _ _
              rw [HZ.out]
              exact ⟨0, rfl, by unfold Wd.W; omega, fun y hy => (by cases hy), HBW2.out⟩
    have b1 : (t.kind == 1) = false := by simp [k1]
    have b2 : (t.kind == 2) = false := by simp [k2]
    have b3 : (t.kind == 3) = false := by simp [k3]
    obtain ⟨q0, q1, q2, q3⟩ := HND.out.below (Below.refl _ _) HND.out.lt
    simp only [Nat.zero_mul, Nat.add_zero] at q0 q1 q2 q3
    have hbl := World.block_lt_of_cell? _ _ q0
    have HC0 := Lib.hid (HI0.out W (Below.refl _ _))
    by_cases k45 : t.kind = 4 ∨ t.kind = 5
    · have HE : Hid (t.ev (celV cs) (celA cs) = v0.bind fun x => .ok (Wd.unary t.kind x)) := by show _ = _; rw [HEV.out, HEV0.out]; unfold evB; rw [if_neg k1, if_neg k2, if_neg k3, if_pos k45]
      have hk : (t.kind == 4) = true ∨ ((t.kind == 4) = false ∧ (t.kind == 5) = true) := by
        rcases k45 with h | h
        · exact .inl (by simp [h])
        · exact .inr (by simp [h])
      have HUE := Lib.hid (uerr_in k45)
      clear k1 k2 k3 k45 HEV
      rcases hk with b4 | ⟨b4, b5⟩
      all_goals
        go_enter Tryd.func30, Tryd.ntmps30
        go_wp2_with fail
        clear hW x0 x1 x2 x3 q0 q1 q2 q3
        refine HC0.out.mono ?_
        rintro e w2 ⟨x, rfl, hxW, hxy, hB2⟩
        have HB2 := Lib.hid hB2
        obtain ⟨hx1, _, _, hbw⟩ := HK.out w2 hB2
        have HBW2 := Lib.hid hbw
        have HXW := Lib.hid hxW
        obtain ⟨x0, x1, x2, x3⟩ := nd_cells hx1
        clear hB2 HC0 hxW hx1 hbw
        cases v0 with
        | er kk =>
          have hne := HV0.out kk rfl
          have hb1 : (kk != 0) = true := by simpa using hne
          have hb3 : evK (.er kk) = kk := rfl
          clear hxy
          go_wp2_with fail
          go_ret2
          rw [HE.out]
          exact ⟨0, rfl, by unfold Wd.W; omega, fun y hy => (by cases hy), HBW2.out⟩
        | ok y =>
          obtain rfl := hxy y rfl
          have hb3 : evK (.ok x) = 0 := rfl
          have HRU := Lib.hid (refUnary_any t.kind x ⟨by omega, by omega⟩ HXW.out w2)
          clear hxy
          go_wp2_with fail
          refine HRU.out.mono ?_
          rintro e w3 ⟨rfl, rfl⟩
          clear HRU x0 x1 x2 x3
          go_wp2_with fail
          go_ret2
          rw [HE.out]
          exact ⟨_, by rw [HUE.out]; rfl, Wd.W_unary _ _, fun y hy => (by cases hy; rfl), HBW2.out⟩
    have b4 : (t.kind == 4) = false := by rw [beq_eq_false_iff_ne]; omega
    have b5 : (t.kind == 5) = false := by rw [beq_eq_false_iff_ne]; omega
    have hl1 : 1 < t.len := by
      rw [HLEN.out]
      unfold Fm.kids
      rw [Fm.row_else t.kind (by omega)]; decide
    have hl1i : (1 : Int) < (t.len : Int) := by omega
    obtain ⟨kb', ko', hka, ai1, ci1, hnd1, hr1⟩ := kid_at (HK.out W (Below.refl _ _)).2.2.1 hl1
    cases hka
    obtain ⟨v1, hv1⟩ : ∃ v1, (t.kid 1).ev (celV cs) (celA cs) = v1 := ⟨_, rfl⟩
    have HV1 : Hid (∀ k, v1 = .er k → k ≠ 0) := fun k h => ev_ne0 _ _ _ k (hv1.trans h)
    have HE : Hid (t.ev (celV cs) (celA cs) = v0.bind fun x => v1.bind fun y => if Wd.err t.kind y = 0 then .ok (Wd.apply t.kind x y) else .er (Wd.err t.kind y)) := by
      show _ = _
      rw [HEV.out, HEV0.out, if_pos hl1, hv1]
      unfold evB
      rw [if_neg k1, if_neg k2, if_neg k3, if_neg k45]
    have HI1 : Hid (∀ w', Below W.heap.size W w' → Calls Tryd.prog 30 #[(t.kid 1).val ai1 ci1, .slice ca cs.length cc] w' (RefEQ v1 w')) := fun w' h => by
      have h2 := HIH.out 1 hl1 w' ai1 ci1 (hr1.below h) (HK.out w' h).2.1
      rw [hv1] at h2
      exact h2
    have HND1 := Lib.hid hnd1
    clear k1 k2 k3 k45 HEV hnd1 hr1 hv1
    go_enter Tryd.func30, Tryd.ntmps30
    go_wp2_with fail
    clear hW x0 x1 x2 x3 q0 q1 q2 q3
    refine HC0.out.mono ?_
    rintro e w2 ⟨x, rfl, hxW, hxy, hB2⟩
    have HB2 := Lib.hid hB2
    obtain ⟨hx1, _, _, hbw⟩ := HK.out w2 hB2
    have HBW2 := Lib.hid hbw
    have HXW := Lib.hid hxW
    obtain ⟨x0, x1, x2, x3⟩ := nd_cells hx1
    obtain ⟨q0, q1, q2, q3⟩ := HND1.out.below hB2 HND1.out.lt
    have hbl2 := World.block_lt_of_cell? _ _ q0
    have HC1 := Lib.hid (HI1.out w2 hB2)
    clear hB2 HC0 hxW hx1 hbw
    cases v0 with
    | er kk =>
      have hne := HV0.out kk rfl
      have hb1 : (kk != 0) = true := by simpa using hne
      have hb3 : evK (.er kk) = kk := rfl
      clear hxy
      go_wp2_with fail
      go_ret2
      rw [HE.out]
      exact ⟨0, rfl, by unfold Wd.W; omega, fun y hy => (by cases hy), HBW2.out⟩
    | ok y =>
      obtain rfl := hxy y rfl
      have hb3 : evK (.ok x) = 0 := rfl
      clear hxy
      go_wp2_with fail
      clear x0 x1 x2 x3 q0 q1 q2 q3
      refine HC1.out.mono ?_
      rintro e w3 ⟨z, rfl, hzW, hzy, hB3⟩
      have HB3 := Lib.hid (mem_then HB2.out hB3)
      obtain ⟨hx1, _, _, hbw⟩ := HK.out w3 HB3.out
      have HBW3 := Lib.hid hbw
      have HZW := Lib.hid hzW
      obtain ⟨x0, x1, x2, x3⟩ := nd_cells hx1
      clear hB3 HC1 hzW hx1 hbw
      cases v1 with
      | er kk =>
        have hne := HV1.out kk rfl
        have hb1 : (kk != 0) = true := by simpa using hne
        have hb4 : evK (.er kk) = kk := rfl
        clear hzy
        go_wp2_with fail
        go_ret2
        rw [HE.out]
        exact ⟨0, rfl, by unfold Wd.W; omega, fun y hy => (by cases hy), HBW3.out⟩
      | ok y =>
        obtain rfl := hzy y rfl
        have hb4 : evK (.ok z) = 0 := rfl
        have HRA := Lib.hid (refApply_any t.kind x z ⟨by omega, by omega⟩ HXW.out HZW.out w3)
        clear hzy
        go_wp2_with fail
        refine HRA.out.mono ?_
        rintro e w4 ⟨rfl, rfl⟩
        clear HRA x0 x1 x2 x3
        go_wp2_with fail
        go_ret2
        rw [HE.out]
        show RefEQ (if Wd.err t.kind z = 0 then EV.ok (Wd.apply t.kind x z) else .er (Wd.err t.kind z)) _ _ _
        refine ⟨Wd.apply t.kind x z, ?_, Wd.W_apply _ HXW.out HZW.out, fun y hy => ?_, HBW3.out⟩
        · by_cases he : Wd.err t.kind z = 0
          · rw [if_pos he, he]; rfl
          · rw [if_neg he]; rfl
        · by_cases he : Wd.err t.kind z = 0
          · rw [if_pos he] at hy; cases hy; rfl
          · rw [if_neg he] at hy; cases hy
end Go.Proofs.YtgochgcchkdlmaaDoor

/-
  The reference's state (package ontimeref16): its value; contract: step.
-/
namespace Go.Proofs.YtgochgcchkdlmaaDoor
set_option linter.unusedVariables false
set_option linter.unusedSimpArgs false
open Go.RowKit Go.Maps
set_option maxRecDepth 100000
set_option maxHeartbeats 80000000

section
variable {P : Program} {ops : Array Oper} {Q : Exit → Act → World → Prop} {md : Region.Mode} {S : World → Prop}
theorem rdH {fuel : Nat} {listed : Array Bool} {a : Act} {w : World} (i : Nat) {o : Oper} (ho : ops[i]? = some o)
    (h : ∀ K' : Act → World → Prop, Shut (∀ a w, S w → (S w → wpAnyH P md ops Q S fuel (listed.setIfInBounds i true) a w) → K' a w) → if Region.wanted o (yielded ops a.tmps) = true then Oper.wp P o a w K' Q else K' (a.put o.dst undef) w)
    (hr : Region.ready md ops listed = [i] := by kernel_rfl) : wpAnyH P md ops Q S (fuel + 1) listed a w := wpAnyH_ready hr (by simp) (AllReadyH.cons ho h AllReadyH.nil)
end
/-- the reference's state, by value: cells, input, output, read, steps, fuel, error -/
abbrev envVal (ca : Option Addr) (n cc : Nat) (ia : Option Addr) (il ic : Nat) (oa : Option Addr) (on oc : Nat) (rd st F er : Int) : Value :=
  .agg #[.slice ca n cc, .slice ia il ic, .slice oa on oc, .int .i64 rd, .int .i64 st, .int .i64 F, .int .i64 er]
abbrev envObj (ca : Option Addr) (n cc : Nat) (ia : Option Addr) (il ic : Nat) (oa : Option Addr) (on oc : Nat) (rd st F er : Int) : Obj :=
  .cells #[.slice ca n cc, .slice ia il ic, .slice oa on oc, .int .i64 rd, .int .i64 st, .int .i64 F, .int .i64 er] 45
theorem env_cells {w : World} {b : Nat} {ca : Option Addr} {n cc : Nat} {ia : Option Addr} {il ic : Nat} {oa : Option Addr} {on oc : Nat} {rd st F er : Int} (h : w.heap[b]? = some (envObj ca n cc ia il ic oa on oc rd st F er)) :
    w.cell? ⟨b, 0, none⟩ = some (.slice ca n cc) ∧ w.cell? ⟨b, 1, none⟩ = some (.slice ia il ic) ∧ w.cell? ⟨b, 2, none⟩ = some (.slice oa on oc) ∧ w.cell? ⟨b, 3, none⟩ = some (.int .i64 rd) ∧ w.cell? ⟨b, 4, none⟩ = some (.int .i64 st) ∧ w.cell? ⟨b, 5, none⟩ = some (.int .i64 F) ∧ w.cell? ⟨b, 6, none⟩ = some (.int .i64 er) :=
  ⟨mem_cell h 0, mem_cell h 1, mem_cell h 2, mem_cell h 3, mem_cell h 4, mem_cell h 5, mem_cell h 6⟩
theorem env_free {w : World} {b : Nat} {arr : Array Value} {t : TypeId} (h : w.heap[b]? = some (.cells arr t)) : w.frozen? ⟨b, 0, none⟩ = false ∧ w.frozen? ⟨b, 1, none⟩ = false ∧ w.frozen? ⟨b, 2, none⟩ = false ∧ w.frozen? ⟨b, 3, none⟩ = false ∧ w.frozen? ⟨b, 4, none⟩ = false ∧ w.frozen? ⟨b, 5, none⟩ = false ∧ w.frozen? ⟨b, 6, none⟩ = false :=
  ⟨mem_free h 0, mem_free h 1, mem_free h 2, mem_free h 3, mem_free h 4, mem_free h 5, mem_free h 6⟩
/-- a whole state is stored -/
def set7 (w : World) (b : Nat) (x0 x1 x2 x3 x4 x5 x6 : Value) : World :=
  ((((((w.setCell ⟨b, 0, none⟩ x0).setCell ⟨b, 1, none⟩ x1).setCell ⟨b, 2, none⟩ x2).setCell ⟨b, 3, none⟩ x3).setCell ⟨b, 4, none⟩ x4).setCell ⟨b, 5, none⟩ x5).setCell ⟨b, 6, none⟩ x6
theorem set7_at {w : World} {b : Nat} {t : TypeId} {c0 c1 c2 c3 c4 c5 c6 : Value} (x0 x1 x2 x3 x4 x5 x6 : Value) (h : w.heap[b]? = some (.cells #[c0, c1, c2, c3, c4, c5, c6] t)) : (set7 w b x0 x1 x2 x3 x4 x5 x6).heap[b]? = some (.cells #[x0, x1, x2, x3, x4, x5, x6] t) := by
  have h0 : (w.setCell ⟨b, 0, none⟩ x0).heap[b]? = some (.cells #[x0, c1, c2, c3, c4, c5, c6] t) := by rw [mem_set h]; rfl
  have h1 : ((w.setCell ⟨b, 0, none⟩ x0).setCell ⟨b, 1, none⟩ x1).heap[b]? = some (.cells #[x0, x1, c2, c3, c4, c5, c6] t) := by rw [mem_set h0]; rfl
  have h2 : (((w.setCell ⟨b, 0, none⟩ x0).setCell ⟨b, 1, none⟩ x1).setCell ⟨b, 2, none⟩ x2).heap[b]? = some (.cells #[x0, x1, x2, c3, c4, c5, c6] t) := by rw [mem_set h1]; rfl
  have h3 : ((((w.setCell ⟨b, 0, none⟩ x0).setCell ⟨b, 1, none⟩ x1).setCell ⟨b, 2, none⟩ x2).setCell ⟨b, 3, none⟩ x3).heap[b]? = some (.cells #[x0, x1, x2, x3, c4, c5, c6] t) := by rw [mem_set h2]; rfl
  have h4 : (((((w.setCell ⟨b, 0, none⟩ x0).setCell ⟨b, 1, none⟩ x1).setCell ⟨b, 2, none⟩ x2).setCell ⟨b, 3, none⟩ x3).setCell ⟨b, 4, none⟩ x4).heap[b]? = some (.cells #[x0, x1, x2, x3, x4, c5, c6] t) := by rw [mem_set h3]; rfl
  have h5 : ((((((w.setCell ⟨b, 0, none⟩ x0).setCell ⟨b, 1, none⟩ x1).setCell ⟨b, 2, none⟩ x2).setCell ⟨b, 3, none⟩ x3).setCell ⟨b, 4, none⟩ x4).setCell ⟨b, 5, none⟩ x5).heap[b]? = some (.cells #[x0, x1, x2, x3, x4, x5, c6] t) := by rw [mem_set h4]; rfl
  unfold set7
  rw [mem_set h5]; rfl
theorem set7_far {w : World} {b k : Nat} {x0 x1 x2 x3 x4 x5 x6 : Value} (h : k ≠ b) : (set7 w b x0 x1 x2 x3 x4 x5 x6).heap[k]? = w.heap[k]? := by
  unfold set7
  iterate 7 rw [Below.heap_setCell _ _ _ _ (by exact h)]
theorem set7_below {B : Nat} {a w : World} {b : Nat} {x0 x1 x2 x3 x4 x5 x6 : Value} (h : Below B a w) (hb : B ≤ b) : Below B a (set7 w b x0 x1 x2 x3 x4 x5 x6) :=
  ((((((h.setCell (p := ⟨b, _, none⟩) hb _).setCell (p := ⟨b, _, none⟩) hb _).setCell (p := ⟨b, _, none⟩) hb _).setCell (p := ⟨b, _, none⟩) hb _).setCell (p := ⟨b, _, none⟩) hb _).setCell (p := ⟨b, _, none⟩) hb _).setCell (p := ⟨b, _, none⟩) hb _
theorem step16_any (ca : Option Addr) (n cc : Nat) (ia : Option Addr) (il ic : Nat) (oa : Option Addr) (on oc : Nat) (rd st F er : Int) (w : World) (hst : 0 ≤ st) (hF : F ≤ 9223372036854775807) :
    Calls Tryd.prog 88 #[envVal ca n cc ia il ic oa on oc rd st F er] w fun e w' =>
      e = .returned (if F ≤ st then envVal ca n cc ia il ic oa on oc rd st F 13 else envVal ca n cc ia il ic oa on oc rd (st + 1) F er) ∧ Below w.heap.size w w' := by
  obtain ⟨W1, hW1⟩ : ∃ W : World, w.alloc (envObj ca n cc ia il ic oa on oc rd st F er) = W := ⟨_, rfl⟩
  obtain ⟨W2, hW2⟩ : ∃ W : World, W1.alloc (envObj none 0 0 none 0 0 none 0 0 0 0 0 0) = W := ⟨_, rfl⟩
  have b1 : Below w.heap.size w W1 := by rw [← hW1]; exact mem_alloc _ _
  have b2 : Below W1.heap.size W1 W2 := by rw [← hW2]; exact mem_alloc _ _
  have hX1 : W2.heap[w.heap.size]? = some (envObj ca n cc ia il ic oa on oc rd st F er) := mem_keep (by rw [← hW1]; exact mem_new _ _) b2
  have hX2 : W2.heap[W1.heap.size]? = some (envObj none 0 0 none 0 0 none 0 0 0 0 0 0) := by rw [← hW2]; exact mem_new _ _
  have HB := Lib.hid (mem_then b1 b2)
  have hwl : w.heap.size < W1.heap.size := by rw [← hW1]; simp
  obtain ⟨x0, x1, x2, x3, x4, x5, x6⟩ := env_cells hX1
  have f4 := mem_free hX1 4
  have f6 := mem_free hX1 6
  by_cases hs : F ≤ st
  · rw [if_pos hs]
    obtain ⟨V, hV⟩ : ∃ V : World, W2.setCell ⟨w.heap.size, 6, none⟩ (.int .i64 13) = V := ⟨_, rfl⟩
    have hXV : V.heap[w.heap.size]? = some (envObj ca n cc ia il ic oa on oc rd st F 13) := by rw [← hV, mem_set hX1]; rfl
    have hXR : V.heap[W1.heap.size]? = some (envObj none 0 0 none 0 0 none 0 0 0 0 0 0) := by rw [← hV, Below.heap_setCell _ _ _ _ (by show W1.heap.size ≠ w.heap.size; omega)]; exact hX2
    have HBV : Hid (Below w.heap.size w V) := by show Below _ _ _; rw [← hV]; exact HB.out.setCell (p := ⟨w.heap.size, 6, none⟩) (Nat.le_refl _) _
    have HXV := Lib.hid hXV
    have HXR := Lib.hid hXR
    clear b1 b2 hX1 hX2 hXV hXR
    go_enter Tryd.func88, Tryd.ntmps88
    go_upto_region 3 with fail
    try rw [hW1]
    try rw [hW2]
    try rw [hV]
    clear x0 x1 x2 x3 x4 x5 x6 f4 f6 hV hW2 hW1
    obtain ⟨x0, x1, x2, x3, x4, x5, x6⟩ := env_cells HXV.out
    obtain ⟨y0, y1, y2, y3, y4, y5, y6⟩ := env_cells HXR.out
    obtain ⟨q0, q1, q2, q3, q4, q5, q6⟩ := env_free HXR.out
    obtain ⟨R, hR⟩ : ∃ R, set7 V W1.heap.size (.slice ca n cc) (.slice ia il ic) (.slice oa on oc) (.int .i64 rd) (.int .i64 st) (.int .i64 F) (.int .i64 13) = R := ⟨_, rfl⟩
    have HXE : Hid (R.heap[W1.heap.size]? = some (envObj ca n cc ia il ic oa on oc rd st F 13)) := by show _ = _; rw [← hR]; exact set7_at _ _ _ _ _ _ _ HXR.out
    have HBE : Hid (Below w.heap.size w R) := by show Below _ _ _; rw [← hR]; exact set7_below HBV.out (by omega)
    unfold set7 at hR
    go_wp2_with fail
    try rw [hR]
    clear x0 x1 x2 x3 x4 x5 x6 y0 y1 y2 y3 y4 y5 y6 q0 q1 q2 q3 q4 q5 q6
    obtain ⟨z0, z1, z2, z3, z4, z5, z6⟩ := env_cells HXE.out
    refine bodyPost_ret (v := envVal ca n cc ia il ic oa on oc rd st F 13) (by simp [results, Tryd.results88, go_sem, z0, z1, z2, z3, z4, z5, z6]) rfl ?_
    exact ⟨rfl, HBE.out⟩
  · rw [if_neg hs]
    obtain ⟨V, hV⟩ : ∃ V : World, W2.setCell ⟨w.heap.size, 4, none⟩ (.int .i64 (st + 1)) = V := ⟨_, rfl⟩
    have hXV : V.heap[w.heap.size]? = some (envObj ca n cc ia il ic oa on oc rd (st + 1) F er) := by rw [← hV, mem_set hX1]; rfl
    have hXR : V.heap[W1.heap.size]? = some (envObj none 0 0 none 0 0 none 0 0 0 0 0 0) := by rw [← hV, Below.heap_setCell _ _ _ _ (by show W1.heap.size ≠ w.heap.size; omega)]; exact hX2
    have HBV : Hid (Below w.heap.size w V) := by show Below _ _ _; rw [← hV]; exact HB.out.setCell (p := ⟨w.heap.size, 4, none⟩) (Nat.le_refl _) _
    have HXV := Lib.hid hXV
    have HXR := Lib.hid hXR
    clear b1 b2 hX1 hX2 hXV hXR
    go_enter Tryd.func88, Tryd.ntmps88
    go_upto_region 5 with fail
    try rw [hW1]
    try rw [hW2]
    try rw [hV]
    clear x0 x1 x2 x3 x4 x5 x6 f4 f6 hV hW2 hW1
    obtain ⟨x0, x1, x2, x3, x4, x5, x6⟩ := env_cells HXV.out
    obtain ⟨y0, y1, y2, y3, y4, y5, y6⟩ := env_cells HXR.out
    obtain ⟨q0, q1, q2, q3, q4, q5, q6⟩ := env_free HXR.out
    obtain ⟨R, hR⟩ : ∃ R, set7 V W1.heap.size (.slice ca n cc) (.slice ia il ic) (.slice oa on oc) (.int .i64 rd) (.int .i64 (st + 1)) (.int .i64 F) (.int .i64 er) = R := ⟨_, rfl⟩
    have HXE : Hid (R.heap[W1.heap.size]? = some (envObj ca n cc ia il ic oa on oc rd (st + 1) F er)) := by show _ = _; rw [← hR]; exact set7_at _ _ _ _ _ _ _ HXR.out
    have HBE : Hid (Below w.heap.size w R) := by show Below _ _ _; rw [← hR]; exact set7_below HBV.out (by omega)
    unfold set7 at hR
    go_wp2_with fail
    try rw [hR]
    clear x0 x1 x2 x3 x4 x5 x6 y0 y1 y2 y3 y4 y5 y6 q0 q1 q2 q3 q4 q5 q6
    obtain ⟨z0, z1, z2, z3, z4, z5, z6⟩ := env_cells HXE.out
    refine bodyPost_ret (v := envVal ca n cc ia il ic oa on oc rd (st + 1) F er) (by simp [results, Tryd.results88, go_sem, z0, z1, z2, z3, z4, z5, z6]) rfl ?_
    exact ⟨rfl, HBE.out⟩
end Go.Proofs.YtgochgcchkdlmaaDoor

/-
  The reference's cells with words of the call's own (package ontimeref16): what a store turns; contract: store.
-/
namespace Go.Proofs.YtgochgcchkdlmaaDoor
set_option linter.unusedVariables false
set_option linter.unusedSimpArgs false
open Go.RowKit Go.Maps
set_option maxRecDepth 100000
set_option maxHeartbeats 80000000

/-! ### plainly: a cell is turned -/
theorem celL_cons {α : Type} (f : Cel → Option (ByteArray × α)) (d : Cel) (cs : List Cel) (nm : ByteArray) : celL f (d :: cs) nm = match celL f cs nm with
    | some v => some v
    | none => match f d with
      | none => none
      | some x => if nm = x.1 then some x.2 else none := by
  unfold celL
  cases hd : f d with
  | none =>
    rw [List.filterMap_cons_none hd]
    cases fP (cs.filterMap f) nm <;> rfl
  | some x =>
    rw [List.filterMap_cons_some hd]
    show (match fP (cs.filterMap f) nm with | some v => some v | none => if nm = x.1 then some x.2 else none) = _
    cases fP (cs.filterMap f) nm <;> rfl
theorem celL_set_none {α : Type} {f : Cel → Option (ByteArray × α)} {c c' : Cel} (h : f c = none) (h' : f c' = none) : ∀ {cs : List Cel} {k : Nat}, cs[k]? = some c → celL f (cs.set k c') = celL f cs
  | [], k, hk => by simp at hk
  | d :: cs, 0, hk => by
    have hk : d = c := by simpa using hk
    subst hk
    funext nm
    show celL f (c' :: cs) nm = _
    rw [celL_cons, celL_cons, h, h']
  | d :: cs, k + 1, hk => by
    have ih := celL_set_none h h' (cs := cs) (k := k) (by simpa using hk)
    funext nm
    show celL f (d :: cs.set k c') nm = _
    rw [celL_cons, celL_cons, ih]
theorem celL_set {α : Type} {f : Cel → Option (ByteArray × α)} {ar : Bool} (hf : ∀ c x, f c = some x → c.arr = ar ∧ x.1 = c.name) {c c' : Cel} {u v : α} {nm : ByteArray} (h : f c = some (nm, u)) (h' : f c' = some (nm, v)) : ∀ {cs : List Cel} {k : Nat}, cs[k]? = some c →
    (∀ (k' : Nat) (d : Cel), k < k' → cs[k']? = some d → ¬ d.hit nm ar) → celL f (cs.set k c') = upd (celL f cs) nm (some v)
  | [], k, hk, _ => by simp at hk
  | d :: cs, 0, hk, hn => by
    have hk : d = c := by simpa using hk
    subst hk
    have hno := celL_none (f := f) hf (nm := nm) (cs := cs) (fun k' c2 h2 => hn (k' + 1) c2 (by omega) (by simpa using h2))
    funext n
    show celL f (c' :: cs) n = _
    rw [celL_cons, h']
    by_cases e : n = nm
    · subst e
      rw [upd_same, hno]
      exact if_pos rfl
    · rw [upd_other _ _ e, celL_cons, h]
      show (match celL f cs n with | some v => some v | none => if n = nm then some v else none) = (match celL f cs n with | some v => some v | none => if n = nm then some u else none)
      rw [if_neg e, if_neg e]
  | d :: cs, k + 1, hk, hn => by
    have ih := celL_set hf h h' (cs := cs) (k := k) (by simpa using hk) (fun k' c2 h1 h2 => hn (k' + 1) c2 (by omega) (by simpa using h2))
    have hsome := celL_some (f := f) hf (nm := nm) (v := u) (cs := cs) (k := k) (by simpa using hk) h (fun k' c2 h1 h2 => hn (k' + 1) c2 (by omega) (by simpa using h2))
    funext n
    show celL f (d :: cs.set k c') n = _
    rw [celL_cons, ih]
    by_cases e : n = nm
    · subst e
      rw [upd_same, upd_same]
    · rw [upd_other _ _ e, upd_other _ _ e, celL_cons]
/-- a place's cell is turned -/
def Cel.put (c : Cel) (i : Nat) (x : Int) : Cel := { c with l := c.l.set i x }
theorem cel_put_v {cs : List Cel} {k : Nat} {c : Cel} {x : Int} (hk : cs[k]? = some c) (hc : c.arr = false) (hl : c.l.length = 1) (hn : ∀ (k' : Nat) (d : Cel), k < k' → cs[k']? = some d → ¬ d.hit c.name false) :
    celV (cs.set k (c.put 0 x)) = upd (celV cs) c.name (some x) ∧ celA (cs.set k (c.put 0 x)) = celA cs := by
  obtain ⟨y, hy⟩ := List.length_eq_one_iff.1 hl
  refine ⟨celL_set fV_ar (u := c.l.getD 0 0) ?_ ?_ hk hn, celL_set_none ?_ ?_ hk⟩
  · unfold fV; rw [hc]; rfl
  · unfold fV Cel.put; rw [hc, hy]; rfl
  · unfold fA; rw [hc]; rfl
  · unfold fA Cel.put; rw [hc]; rfl
theorem cel_put_a {cs : List Cel} {k i : Nat} {c : Cel} {x : Int} (hk : cs[k]? = some c) (hc : c.arr = true) (hn : ∀ (k' : Nat) (d : Cel), k < k' → cs[k']? = some d → ¬ d.hit c.name true) :
    celV (cs.set k (c.put i x)) = celV cs ∧ celA (cs.set k (c.put i x)) = upd (celA cs) c.name (some (c.l.set i x)) ∧ celA cs c.name = some c.l := by
  refine ⟨celL_set_none ?_ ?_ hk, celL_set fA_ar (u := c.l) ?_ ?_ hk hn, celL_some fA_ar hk ?_ hn⟩
  · unfold fV; rw [hc]; rfl
  · unfold fV Cel.put; rw [hc]; rfl
  · unfold fA; rw [hc]; rfl
  · unfold fA Cel.put; rw [hc]; rfl
  · unfold fA; rw [hc]; rfl
/-! ### in memory -/
/-- cells in memory, their words in rows of the call's own -/
structure CelsOwn (B : Nat) (w : World) (ca : Option Addr) (cs : List Cel) (y : Nat → Value) : Prop where
  len : cs.length ≤ 1000000
  row : ∀ (k : Nat) (c : Cel), cs[k]? = some c → ∃ b off, ca = some ⟨b, off, none⟩ ∧ w.cell? ⟨b, off + k * 3, none⟩ = some (.string c.name) ∧ w.cell? ⟨b, off + k * 3 + 1, none⟩ = some (.bool c.arr) ∧ w.cell? ⟨b, off + k * 3 + 2, none⟩ = some (y k)
  ty : ∀ b off, ca = some ⟨b, off, none⟩ → cs.length = 0 ∨ ∃ arr, w.heap[b]? = some (.cells arr 54)
  own : ∀ (k : Nat) (c : Cel), cs[k]? = some c → w.ownsRow B 21 1 (y k) c.l.length (i32s c.l)
  fit : ∀ (k : Nat) (c : Cel), cs[k]? = some c → c.l.length ≤ 1000000 ∧ (∀ x ∈ c.l, Wd.W x) ∧ c.name.size ≤ 9223372036854775807 ∧ (c.arr = false → c.l.length = 1)
  apart : ∀ (k k' : Nat) (b : Nat), k < cs.length → k' < cs.length → (y k).ownBlock = some b → (y k').ownBlock = some b → k = k'
/-- what a store or a statement leaves alone -/
structure FrC (B n : Nat) (y : Nat → Value) (w w' : World) : Prop where
  low : Below B w w'
  still : ∀ b, b < w.heap.size → (∀ k, k < n → (y k).ownBlock ≠ some b) → w'.heap[b]? = w.heap[b]?
section
variable {B n : Nat} {w w' w'' : World} {ca : Option Addr} {cs : List Cel} {y : Nat → Value}
theorem FrC.of (h : Below w.heap.size w w') (hB : B ≤ w.heap.size) : FrC B n y w w' := ⟨h.mono hB, fun b hb _ => h.block b hb⟩
theorem FrC.trans (h : FrC B n y w w') (h' : FrC B n y w' w'') : FrC B n y w w'' := ⟨h.low.trans h'.low, fun b hb hn => (h'.still b (Nat.lt_of_lt_of_le hb h.low.size) hn).trans (h.still b hb hn)⟩
theorem CelsOwn.below (h : CelsOwn B w ca cs y) (hb : Below w.heap.size w w') : CelsOwn B w' ca cs y :=
  ⟨h.len, fun k c hk => by obtain ⟨b, off, h1, h2, h3, h4⟩ := h.row k c hk; exact ⟨b, off, h1, cell_stay hb h2, cell_stay hb h3, cell_stay hb h4⟩,
    fun b off e => by
      rcases h.ty b off e with h0 | ⟨arr, h1⟩
      · exact .inl h0
      · exact .inr ⟨arr, mem_keep h1 hb⟩,
    fun k c hk => own_below (h.own k c hk) hb, h.fit, h.apart⟩
theorem CelsOwn.at_ (h : CelsOwn B w ca cs y) : CelsAt w ca cs := by
  refine ⟨by have := h.len; omega, fun k c hk => ?_⟩
  obtain ⟨b, off, h1, h2, h3, h4⟩ := h.row k c hk
  obtain ⟨g1, g2, g3, g4⟩ := h.fit k c hk
  have ho := h.own k c hk
  obtain ⟨a, rc, e⟩ := own_val ho
  rw [e] at ho h4
  refine ⟨b, off, a, rc, h1, h2, h3, h4, ⟨by omega, g2, ?_⟩, g3⟩
  by_cases h0 : c.l.length = 0
  · exact .inl h0
  · obtain ⟨g, rfl, _, _⟩ := own_at ho (by omega)
    refine .inr ⟨g, 0, rfl, fun j x hx => ?_⟩
    rw [Nat.zero_add]
    exact own_get ho (by unfold i32s; rw [List.getElem?_map, hx]; rfl)
theorem row16_obj {e : TypeId} {size n g c : Nat} {xs : List Value} (h : w.ownsRow B e size (.slice (some ⟨g, 0, none⟩) n c) n xs) : B ≤ g ∧ ∃ cur, w.heap[g]? = some (.cells cur e) := by
  rcases h.2 with ⟨h1, _⟩ | ⟨g', cap, cur, h1, hg, hc, _⟩
  · cases h1
  · cases h1; exact ⟨hg, cur, hc⟩
/-- a word is stored -/
theorem CelsOwn.put (h : CelsOwn B w ca cs y) {k i g yc : Nat} {c : Cel} {x : Int} (hk : cs[k]? = some c) (hy : y k = .slice (some ⟨g, 0, none⟩) c.l.length yc) (hi : i < c.l.length) (hx : Wd.W x) :
    CelsOwn B (w.setCell ⟨g, i, none⟩ (.int .i32 x)) ca (cs.set k (c.put i x)) y ∧ FrC B cs.length y w (w.setCell ⟨g, i, none⟩ (.int .i32 x)) := by
  have hkl := (List.getElem?_eq_some_iff.1 hk).1
  have ho := h.own k c hk
  have ho2 := ho
  rw [hy] at ho2
  obtain ⟨hgB, cur, hcur⟩ := row16_obj ho2
  have hfar : ∀ b, b ≠ g → (w.setCell ⟨g, i, none⟩ (.int .i32 x)).heap[b]? = w.heap[b]? := fun b hb => Below.heap_setCell _ _ _ _ hb
  have hcell : ∀ (b : Nat) (arr : Array Value), w.heap[b]? = some (.cells arr 54) → b ≠ g := fun b arr hb e => by
    rw [e, hcur] at hb
    injection hb with hb
    injection hb with _ hb _
    exact absurd hb (by decide)
  have hput : ∀ (j : Nat) (d : Cel), (cs.set k (c.put i x))[j]? = some d → ∃ d0, cs[j]? = some d0 ∧ d.name = d0.name ∧ d.arr = d0.arr ∧ d.l.length = d0.l.length ∧ (j ≠ k → d = d0) ∧ (j = k → d = c.put i x ∧ d0 = c) := fun j d hj => by
    by_cases e : j = k
    · subst e
      rw [List.getElem?_set_self hkl] at hj
      cases hj
      exact ⟨c, hk, rfl, rfl, by show (c.l.set i x).length = _; rw [List.length_set], fun h => absurd rfl h, fun _ => ⟨rfl, rfl⟩⟩
    · rw [List.getElem?_set_ne (fun h => e h.symm)] at hj
      exact ⟨d, hj, rfl, rfl, rfl, fun _ => rfl, fun h => absurd h e⟩
  refine ⟨⟨by rw [List.length_set]; exact h.len, fun j d hj => ?_, fun b off e => ?_, fun j d hj => ?_, fun j d hj => ?_, fun j j' b h1 h2 => by rw [List.length_set] at h1 h2; exact h.apart j j' b h1 h2⟩, (Below.refl _ _).setCell (p := ⟨g, i, none⟩) hgB _, fun b hb hn => hfar b (fun e => hn k hkl (by rw [hy, e]; rfl))⟩
  · obtain ⟨d0, h0, e1, e2, _⟩ := hput j d hj
    obtain ⟨b, off, h1, h2, h3, h4⟩ := h.row j d0 h0
    have hb : b ≠ g := by
      rcases h.ty b off h1 with h9 | ⟨arr, h9⟩
      · omega
      · exact hcell b arr h9
    rw [e1, e2]
    have hc : ∀ o, (w.setCell ⟨g, i, none⟩ (.int .i32 x)).cell? ⟨b, o, none⟩ = w.cell? ⟨b, o, none⟩ := fun o => World.cell?_of_block (hfar b hb)
    exact ⟨b, off, h1, (hc _).trans h2, (hc _).trans h3, (hc _).trans h4⟩
  · rcases h.ty b off e with h0 | ⟨arr, h1⟩
    · exact .inl (by rw [List.length_set]; exact h0)
    · exact .inr ⟨arr, (hfar b (hcell b arr h1)).trans h1⟩
  · obtain ⟨d0, h0, _, _, hl, hne, heq⟩ := hput j d hj
    have hjl := (List.getElem?_eq_some_iff.1 h0).1
    by_cases e : j = k
    · obtain ⟨rfl, rfl⟩ := heq e
      subst e
      have hr := ownsRow_set (u := .int .i32 x) ho2 (show i < d0.l.length * 1 by omega)
      rw [hy]
      show World.ownsRow _ _ _ _ _ (d0.l.set i x).length (i32s (d0.l.set i x))
      rw [List.length_set]
      unfold i32s
      rw [List.map_set]
      exact hr
    · obtain rfl := hne e
      refine own_keep (h.own j d h0) (fun b hb _ => hfar b (fun e2 => e (h.apart j k b hjl hkl hb (by rw [hy, e2]; rfl))))
  · obtain ⟨d0, h0, e1, e2, hl, hne, heq⟩ := hput j d hj
    obtain ⟨g1, g2, g3, g4⟩ := h.fit j d0 h0
    refine ⟨by omega, ?_, by rw [e1]; exact g3, fun ha => by rw [hl]; exact g4 (by rw [← e2]; exact ha)⟩
    by_cases e : j = k
    · obtain ⟨rfl, rfl⟩ := heq e
      intro z hz
      rcases List.mem_or_eq_of_mem_set hz with hz | rfl
      · exact g2 z hz
      · exact hx
    · obtain rfl := hne e
      exact g2
end
end Go.Proofs.YtgochgcchkdlmaaDoor
