/-
  The reference of layer 16: cells in memory; contract: Find (package ontimeref16).
-/
import Derived.Test.YtgochgcchkdlmaaDoorInJobs
namespace Go.Proofs.YtgochgcchkdlmaaDoor
set_option linter.unusedVariables false
set_option linter.unusedSimpArgs false
open Go.RowKit Go.Maps
set_option maxRecDepth 100000
set_option maxHeartbeats 80000000

/-- a variable (one element) or an array -/
structure Cel where
  name : ByteArray
  arr : Bool
  l : List Int
/-- cells in memory -/
def CelAt (w : World) (b o : Nat) (c : Cel) (ra : Option Addr) (rc : Nat) : Prop := w.cell? ⟨b, o, none⟩ = some (.string c.name) ∧ w.cell? ⟨b, o + 1, none⟩ = some (.bool c.arr) ∧ w.cell? ⟨b, o + 2, none⟩ = some (.slice ra c.l.length rc) ∧ WordsAt w ra c.l ∧ c.name.size ≤ 9223372036854775807
def CelsAt (w : World) (a : Option Addr) (cs : List Cel) : Prop := cs.length ≤ 9223372036854775807 ∧ ∀ (k : Nat) (c : Cel), cs[k]? = some c → ∃ b off ra rc, a = some ⟨b, off, none⟩ ∧ CelAt w b (off + k * 3) c ra rc
theorem CelAt.below {w w' : World} {b o : Nat} {c : Cel} {ra : Option Addr} {rc : Nat} (h : CelAt w b o c ra rc) (hb : Below w.heap.size w w') : CelAt w' b o c ra rc := ⟨cell_stay hb h.1, cell_stay hb h.2.1, cell_stay hb h.2.2.1, h.2.2.2.1.below hb, h.2.2.2.2⟩
theorem CelsAt.below {w w' : World} {a : Option Addr} {cs : List Cel} (h : CelsAt w a cs) (hb : Below w.heap.size w w') : CelsAt w' a cs :=
  ⟨h.1, fun k c hk => by obtain ⟨b, off, ra, rc, h1, h2⟩ := h.2 k c hk; exact ⟨b, off, ra, rc, h1, h2.below hb⟩⟩
/-- whether a cell is looked for -/
def Cel.hit (c : Cel) (nm : ByteArray) (ar : Bool) : Prop := c.name = nm ∧ c.arr = ar
/-- what cells say of a name -/
def celL {α : Type} (f : Cel → Option (ByteArray × α)) (cs : List Cel) : ByteArray → Option α := fP (cs.filterMap f)
def fV (c : Cel) : Option (ByteArray × Int) := if c.arr then none else some (c.name, c.l.getD 0 0)
def fA (c : Cel) : Option (ByteArray × List Int) := if c.arr then some (c.name, c.l) else none
def celV (cs : List Cel) : VF := celL fV cs
def celA (cs : List Cel) : AF := celL fA cs
theorem celL_none {α : Type} {f : Cel → Option (ByteArray × α)} {ar : Bool} (hf : ∀ c x, f c = some x → c.arr = ar ∧ x.1 = c.name) {nm : ByteArray} : ∀ {cs : List Cel}, (∀ (k : Nat) (c : Cel), cs[k]? = some c → ¬ c.hit nm ar) → celL f cs nm = none
  | [], _ => rfl
  | c :: cs, h => by
    have ih := celL_none (f := f) hf (nm := nm) (cs := cs) (fun k c' hk => h (k + 1) c' (by simpa using hk))
    unfold celL at ih ⊢
    cases hc : f c with
    | none => rw [List.filterMap_cons_none hc]; exact ih
    | some x =>
      rw [List.filterMap_cons_some hc, fP, ih]
      show (if nm = x.1 then some x.2 else none) = none
      rw [if_neg]
      intro e
      obtain ⟨h1, h2⟩ := hf c x hc
      exact h 0 c rfl ⟨h2.symm.trans e.symm, h1⟩
theorem celL_some {α : Type} {f : Cel → Option (ByteArray × α)} {ar : Bool} (hf : ∀ c x, f c = some x → c.arr = ar ∧ x.1 = c.name) {nm : ByteArray} {v : α} : ∀ {cs : List Cel} {k : Nat} {c : Cel}, cs[k]? = some c → f c = some (nm, v) → (∀ (k' : Nat) (c' : Cel), k < k' → cs[k']? = some c' → ¬ c'.hit nm ar) → celL f cs nm = some v
  | [], k, c, h, _, _ => by simp at h
  | d :: cs, 0, c, h, hc, hn => by
    have h : d = c := by simpa using h
    subst h
    have ih := celL_none (f := f) hf (nm := nm) (cs := cs) (fun k c' hk => hn (k + 1) c' (by omega) (by simpa using hk))
    unfold celL at ih ⊢
    rw [List.filterMap_cons_some hc, fP, ih]
    exact if_pos rfl
  | d :: cs, k + 1, c, h, hc, hn => by
    have ih := celL_some (f := f) hf (nm := nm) (v := v) (cs := cs) (k := k) (c := c) (by simpa using h) hc (fun k' c' hk hk' => hn (k' + 1) c' (by omega) (by simpa using hk'))
    unfold celL at ih ⊢
    cases hd : f d with
    | none => rw [List.filterMap_cons_none hd]; exact ih
    | some x => rw [List.filterMap_cons_some hd, fP, ih]
theorem fV_ar (c : Cel) (x : ByteArray × Int) (h : fV c = some x) : c.arr = false ∧ x.1 = c.name := by
  unfold fV at h
  cases hc : c.arr with
  | true => rw [hc] at h; cases h
  | false => rw [hc] at h; cases h; exact ⟨rfl, rfl⟩
theorem fA_ar (c : Cel) (x : ByteArray × List Int) (h : fA c = some x) : c.arr = true ∧ x.1 = c.name := by
  unfold fA at h
  cases hc : c.arr with
  | false => rw [hc] at h; cases h
  | true => rw [hc] at h; cases h; exact ⟨rfl, rfl⟩
/-- what Find returns -/
def FindR (cs : List Cel) (nm : ByteArray) (ar : Bool) (r : Int) : Prop :=
  (r = -1 ∧ ∀ (k : Nat) (c : Cel), cs[k]? = some c → ¬ c.hit nm ar) ∨ ∃ (k : Nat) (c : Cel), r = (k : Int) ∧ cs[k]? = some c ∧ c.hit nm ar ∧ ∀ (k' : Nat) (c' : Cel), k < k' → cs[k']? = some c' → ¬ c'.hit nm ar
theorem str_ne_16 {a b : ByteArray} (h : a ≠ b) : (a.toList == b.toList) = false := by
  rw [beq_eq_false_iff_ne]
  intro e
  rw [ByteArray.toList_eq, ByteArray.toList_eq] at e
  exact h (ByteArray.ext (Array.toList_inj.1 e))
theorem find16_any (cs : List Cel) (nm : ByteArray) (ar : Bool) (w : World) (a : Option Addr) (cc : Nat) (h : CelsAt w a cs) :
    Calls Tryd.prog 50 #[.slice a cs.length cc, .string nm, .bool ar] w fun e w' => ∃ r, e = .returned (.int .i64 r) ∧ FindR cs nm ar r ∧ Below w.heap.size w w' := by
  have hl := h.1
  have H := Lib.hid h
  clear h
  go_enter Tryd.func50, Tryd.ntmps50
  go_wp2_with fail
  go_loopw [7] (fun iv wr => ∃ i : Int, -1 ≤ i ∧ i < (cs.length : Int) ∧ iv = .int .i64 i ∧ (∀ (k : Nat) (c : Cel), i < (k : Int) → cs[k]? = some c → ¬ c.hit nm ar) ∧ Below w.heap.size w wr) (fun iv _ => (intOf iv + 1).toNat)
  case atStart => exact ⟨(cs.length : Int) - 1, by omega, by omega, by go_num, fun k c hk hc => by have := (List.getElem?_eq_some_iff.1 hc).1; omega, Below.refl _ _⟩
  case round =>
    obtain ⟨i, hi1, hi2, rfl, hno, hB⟩ := hrel
    have HNO := Lib.hid hno
    have HB := Lib.hid hB
    clear hno hB
    by_cases h0 : 0 ≤ i
    · obtain ⟨m, hm⟩ : ∃ m : Nat, i = (m : Int) := ⟨i.toNat, by omega⟩
      subst hm
      have hml : m < cs.length := by omega
      obtain ⟨c, hc⟩ : ∃ c, cs[m]? = some c := ⟨_, List.getElem?_eq_getElem hml⟩
      obtain ⟨b, off, ra, rc, rfl, hce⟩ := (H.out.below HB.out).2 m c hc
      obtain ⟨c0, c1, _⟩ := hce
      have hbl := World.block_lt_of_cell? _ _ c0
      have HC := Lib.hid hc
      clear hc
      by_cases hn : c.name = nm
      · have hs : (c.name.toList == nm.toList) = true := by rw [hn]; simp
        by_cases ha : c.arr = ar
        · have hb1 : (c.arr == ar) = true := by rw [ha]; simp
          have HN : Hid (FindR cs nm ar (m : Int)) := .inr ⟨m, c, rfl, HC.out, ⟨hn, ha⟩, fun k' c' hk hc' => HNO.out k' c' (by omega) hc'⟩
          clear hn ha
          go_wp2_with fail
          go_ret
          exact ⟨_, rfl, HN.out, HB.out⟩
        · have hb1 : (c.arr == ar) = false := by simpa using ha
          have HN : Hid (∀ (k : Nat) (c : Cel), (m : Int) - 1 < (k : Int) → cs[k]? = some c → ¬ c.hit nm ar) := fun k c' hk hc' => by
            by_cases e : k = m
            · subst e; rw [HC.out] at hc'; cases hc'; exact fun hh => ha hh.2
            · exact HNO.out k c' (by omega) hc'
          clear hn ha
          go_wp2_with fail
          go_roundw
          case rel => exact ⟨(m : Int) - 1, by omega, by omega, by go_num, HN.out, HB.out⟩
          case measure => simp [intOf]
      · have hs := str_ne_16 hn
        have HN : Hid (∀ (k : Nat) (c : Cel), (m : Int) - 1 < (k : Int) → cs[k]? = some c → ¬ c.hit nm ar) := fun k c' hk hc' => by
          by_cases e : k = m
          · subst e; rw [HC.out] at hc'; cases hc'; exact fun hh => hn hh.1
          · exact HNO.out k c' (by omega) hc'
        clear hn
        go_wp2_with fail
        go_roundw
        case rel => exact ⟨(m : Int) - 1, by omega, by omega, by go_num, HN.out, HB.out⟩
        case measure => simp [intOf]
    · obtain rfl : i = -1 := by omega
      have HN : Hid (FindR cs nm ar (-1)) := .inl ⟨rfl, fun k c hc => HNO.out k c (by omega) hc⟩
      go_wp2_with fail
      go_ret
      exact ⟨_, rfl, HN.out, HB.out⟩
end Go.Proofs.YtgochgcchkdlmaaDoor
