/-
  Contracts of the reference (package ontimeref15): in, declared, Node.
-/
import Derived.Test.YtnegdmhmhdojbaaDoorTreeBase
import Derived.Test.YtnegdmhmhdojbaaDoorMemSet
import Derived.Test.YtnegdmhmhdojbaaDoorAstAts
import Derived.Test.YtnegdmhmhdojbaaDoorPathRowsT
import Derived.LoopTactic
namespace Go.Proofs.YtnegdmhmhdojbaaDoor
set_option linter.unusedVariables false
set_option linter.unusedSimpArgs false
open Go.RowKit
set_option maxRecDepth 100000
set_option maxHeartbeats 4000000

theorem str_ne {x y : ByteArray} (h : x ≠ y) : (x.toList == y.toList) = false := by
  rw [beq_eq_false_iff_ne]
  exact fun h2 => h (ByteArray.ext (Array.toList_inj.1 (by rw [ByteArray.toList_eq, ByteArray.toList_eq] at h2; exact h2)))
theorem memB_take {l : List ByteArray} {s : ByteArray} {j : Nat} (hj : j < l.length) (h : memB (l.take j) s = false) (hx : l.getD j ⟨#[]⟩ ≠ s) : memB (l.take (j + 1)) s = false := by
  have e : l.take (j + 1) = l.take j ++ [l.getD j ⟨#[]⟩] := by
    rw [List.take_succ_eq_append_getElem hj]; simp [hj]
  rw [e, memB_snoc, h, Bool.false_or]
  exact decide_eq_false hx
theorem memB_hit {l : List ByteArray} {s : ByteArray} {j : Nat} (hj : j < l.length) (hx : l.getD j ⟨#[]⟩ = s) : memB l s = true := by
  rw [memB_iff, ← hx]
  simp [hj]
theorem in15_any (l : List ByteArray) (s : ByteArray) (w : World) (a : Option Addr) (c : Nat) (hl : StrsAt w a l) :
    Calls Tryd.prog 56 #[.slice a l.length c, .string s] w fun e w' => e = .returned (.bool (memB l s)) ∧ Below w.heap.size w w' := by
  have HL := Lib.hid hl.2
  have hlen := hl.1
  clear hl
  go_enter Tryd.func56, Tryd.ntmps56
  go_wp2_with fail
  go_loopw [5] (fun i wr => ∃ j : Nat, j ≤ l.length ∧ i = .int .i64 j ∧ memB (l.take j) s = false ∧ Below w.heap.size w wr) (fun i _ => l.length - (intOf i).toNat)
  case atStart => exact ⟨0, Nat.zero_le _, rfl, rfl, Below.refl _ _⟩
  case round =>
    obtain ⟨j, hj, rfl, hall, hB⟩ := hrel
    have HA := Lib.hid hall
    have HB := Lib.hid hB
    clear hall
    by_cases hlt : j < l.length
    · obtain ⟨b, off, rfl, hc, _⟩ := HL.out j hlt
      obtain ⟨x, hx⟩ : ∃ x, l.getD j ⟨#[]⟩ = x := ⟨_, rfl⟩
      rw [hx] at hc
      have f1 := cell_below hB hc
      have HX := Lib.hid hx
      have hj0 : (0 : Int) ≤ (j : Int) := by omega
      have hj1 : (j : Int) < (l.length : Int) := by omega
      clear hc hB hx
      by_cases he : x = s
      · have hb : (x.toList == s.toList) = true := by simp [he]
        have HE : Hid (memB l s = true) := memB_hit hlt (HX.out.trans he)
        clear he
        go_wp2_with fail
        go_ret
        exact ⟨by rw [HE.out]; rfl, HB.out⟩
      · have hb := str_ne he
        have HN : Hid (memB (l.take (j + 1)) s = false) := memB_take hlt HA.out (by rw [HX.out]; exact he)
        clear he
        go_wp2_with fail
        go_roundw
        case rel => exact ⟨j + 1, by omega, by go_num, HN.out, HB.out⟩
        case measure => simp [intOf]; omega
    · obtain rfl : j = l.length := by omega
      clear hB
      go_wp2_with fail
      go_ret
      exact ⟨by have := HA.out; rw [List.take_length] at this; rw [this]; rfl, HB.out⟩
theorem declared_any (l : List Arr) (s : ByteArray) (w : World) (a : Option Addr) (c : Nat) (hl : ArrsAt w a l) :
    Calls Tryd.prog 51 #[.slice a l.length c, .string s] w fun e w' => e = .returned (.bool (memB (l.map (·.name)) s)) ∧ Below w.heap.size w w' := by
  have HL := Lib.hid hl.2
  have hlen := hl.1
  clear hl
  obtain ⟨m, hm⟩ : ∃ m, l.map (·.name) = m := ⟨_, rfl⟩
  have hml : m.length = l.length := by rw [← hm]; simp
  have HM : Hid (∀ j, j < l.length → m.getD j ⟨#[]⟩ = (l.getD j Arr.none).name) := fun j hj => by rw [← hm]; simp [hj]
  have HML := Lib.hid hml
  rw [hm]
  clear hm hml
  go_enter Tryd.func51, Tryd.ntmps51
  go_wp2_with fail
  go_loopw [5] (fun i wr => ∃ j : Nat, j ≤ l.length ∧ i = .int .i64 j ∧ memB (m.take j) s = false ∧ Below w.heap.size w wr) (fun i _ => l.length - (intOf i).toNat)
  case atStart => exact ⟨0, Nat.zero_le _, rfl, rfl, Below.refl _ _⟩
  case round =>
    obtain ⟨j, hj, rfl, hall, hB⟩ := hrel
    have HA := Lib.hid hall
    have HB := Lib.hid hB
    clear hall
    by_cases hlt : j < l.length
    · obtain ⟨b, off, rfl, hc, _⟩ := HL.out j hlt
      obtain ⟨x, hx⟩ : ∃ x, (l.getD j Arr.none).name = x := ⟨_, rfl⟩
      rw [hx] at hc
      have f1 := cell_below hB hc
      have HX : Hid (m.getD j ⟨#[]⟩ = x) := (HM.out j hlt).trans hx
      have hj0 : (0 : Int) ≤ (j : Int) := by omega
      have hj1 : (j : Int) < (l.length : Int) := by omega
      clear hc hB hx
      by_cases he : x = s
      · have hb : (x.toList == s.toList) = true := by simp [he]
        have HE : Hid (memB m s = true) := memB_hit (by have := HML.out; omega) (HX.out.trans he)
        clear he
        go_wp2_with fail
        go_ret
        exact ⟨by rw [HE.out]; rfl, HB.out⟩
      · have hb := str_ne he
        have HN : Hid (memB (m.take (j + 1)) s = false) := memB_take (by have := HML.out; omega) HA.out (by rw [HX.out]; exact he)
        clear he
        go_wp2_with fail
        go_roundw
        case rel => exact ⟨j + 1, by omega, by go_num, HN.out, HB.out⟩
        case measure => simp [intOf]; omega
    · obtain rfl : j = l.length := by omega
      clear hB
      go_wp2_with fail
      go_ret
      exact ⟨by have := HA.out; rw [← HML.out, List.take_length] at this; rw [this]; rfl, HB.out⟩
/-- the node at a path that is there -/
theorem node15_any (t u0 : Tree) (p : List Int) (w : World) (a pa : Option Addr) (c pc : Nat) (hr : Rep w t a) (hp : IRow w pa p) (h0 : t.at p = some u0) :
    Calls Tryd.prog 55 #[t.val a c, .slice pa p.length pc] w fun e w' => ∃ a' c', e = .returned (u0.val a' c') ∧ Rep w' u0 a' ∧ Below w.heap.size w w' := by
  have HPK := Lib.hid hp.2
  have hpl := hp.1
  have HR := Lib.hid hr
  have H0 := Lib.hid h0
  clear hp hr h0
  go_enter Tryd.func55, Tryd.ntmps55
  go_wp2_with fail
  go_loopw [5] (fun i wr => ∃ (j : Nat) (u : Tree) (b : Option Addr) (d : Nat), j ≤ p.length ∧ i = .int .i64 j ∧ t.at (p.take j) = some u ∧ Rep w u b ∧
      wr.heap[w.heap.size]? = some (.cells #[.int .u8 u.kind, .int .i64 u.num, .string u.name, .slice b u.len d] 43 (0, 0)) ∧
      wr.heap[w.heap.size + 1]? = some (.cells #[.int .u8 0, .int .i64 0, .string ⟨#[]⟩, .slice none 0 0] 43 (0, 0)) ∧ Below w.heap.size w wr) (fun i _ => p.length - (intOf i).toNat)
  case atStart =>
    refine ⟨0, t, a, c, Nat.zero_le _, rfl, rfl, HR.out, ?_, ?_, two_alloc⟩
    · rw [Below.heap_alloc _ _ _ (by simp)]; exact World.alloc_heap_new w _
    · have := World.alloc_heap_new (w.alloc (boxObj t a c)) (boxObj noTree none 0)
      rw [World.size_alloc] at this
      exact this
  case round =>
    obtain ⟨j, u, b, d, hj, rfl, hat, hru, hb0, hb1, hB⟩ := hrel
    have HAT := Lib.hid hat
    have HRU := Lib.hid hru
    have HB0 := Lib.hid hb0
    have HB1 := Lib.hid hb1
    have HB := Lib.hid hB
    obtain ⟨⟨x0, x1, x2, x3⟩, fx0, fx1, fx2, fx3⟩ := blk4 hb0
    clear hat hru hb0 hb1
    by_cases hlt : j < p.length
    · obtain ⟨pb, po, rfl, hcell⟩ := HPK.out j hlt
      obtain ⟨k, hk⟩ : ∃ k, p.getD j 0 = k := ⟨_, rfl⟩
      rw [hk] at hcell
      have hcr := cell_below hB hcell
      have HK := Lib.hid hk
      clear hk hcell
      have HP1 := Lib.hid (take_next p j hlt)
      have HAX : Hid (t.at (p.take (j + 1)) = if 0 ≤ k ∧ k < (u.len : Int) then some (u.kid k.toNat) else none) := by
        show _ = _
        rw [HP1.out, Tree.at_snoc, HAT.out, HK.out]
        rfl
      have hin : 0 ≤ k ∧ k < (u.len : Int) := by
        by_cases h : 0 ≤ k ∧ k < (u.len : Int)
        · exact h
        · have h1 : t.at (p.take (j + 1)) = none := by rw [HAX.out, if_neg h]
          have h2 := Tree.at_none (q := p.drop (j + 1)) h1
          rw [List.take_append_drop, H0.out] at h2
          cases h2
      obtain ⟨m, rfl⟩ := Int.eq_ofNat_of_zero_le hin.1
      have hm : m < u.len := by omega
      have hm0 : (0 : Int) ≤ (m : Int) := by omega
      have hm1 : (m : Int) < (u.len : Int) := by omega
      have hj0 : (0 : Int) ≤ (j : Int) := by omega
      have hj1 : (j : Int) < (p.length : Int) := by omega
      rcases HRU.out.kids with h0 | ⟨ub, uo, rfl, hc⟩
      · omega
      obtain ⟨ai, ci, hn, hrk⟩ := hc m hm
      have hlen := HRU.out.fits.len
      have HAK : Hid (t.at (p.take (j + 1)) = some (u.kid m)) := by
        show _ = _
        rw [HAX.out, if_pos ⟨hm0, hm1⟩, Int.toNat_natCast]
      have HRK := Lib.hid hrk
      obtain ⟨f0, f1, f2, f3⟩ := hn.below hB hn.lt
      clear hc hrk hn hin hB
      go_wp2_with fail
      go_still_tail 8, (by kernel_rfl)
      change wpList _ _ _ _ _ wr.drew
      generalize hwd : wr.drew = wd
      have hBd : Below w.heap.size w wd := by rw [← hwd]; exact HB.out.drew
      have HB0d : Hid (wd.heap[w.heap.size]? = some (.cells #[.int .u8 u.kind, .int .i64 u.num, .string u.name, .slice (some ⟨ub, uo, none⟩) u.len d] 43 (0, 0))) := by rw [← hwd]; exact HB0.out
      have HB1d : Hid (wd.heap[w.heap.size + 1]? = some (.cells #[.int .u8 0, .int .i64 0, .string ⟨#[]⟩, .slice none 0 0] 43 (0, 0))) := by rw [← hwd]; exact HB1.out
      clear hwd x0 x1 x2 x3 fx0 fx1 fx2 fx3 f0 f1 f2 f3 hcr
      obtain ⟨⟨x0, x1, x2, x3⟩, fx0, fx1, fx2, fx3⟩ := blk4 HB0d.out
      go_wp2_with fail
      go_roundw
      case rel => exact ⟨j + 1, u.kid m, ai, ci, by omega, by go_num, HAK.out, HRK.out, set4_at HB0d.out, (set4_other (by omega)).trans HB1d.out, set4_below hBd (Nat.le_refl _)⟩
      case measure => simp [intOf]; omega
    · obtain rfl : j = p.length := by omega
      have HAT' : Hid (u = u0) := by
        have h := HAT.out
        rw [List.take_length, H0.out] at h
        injection h with h
        exact h.symm
      have hz : w.heap.size + 1 < wr.heap.size := mem_lt HB1.out
      obtain ⟨⟨y0, y1, y2, y3⟩, fy0, fy1, fy2, fy3⟩ := blk4 HB1.out
      clear hB
      go_wp2_with fail
      have HB9 := Lib.hid (set4_at (y0 := .int .u8 u.kind) (y1 := .int .i64 u.num) (y2 := .string u.name) (y3 := .slice b u.len d) HB1.out)
      obtain ⟨⟨z0, z1, z2, z3⟩, _⟩ := blk4 HB9.out
      refine bodyPost_ret (v := u.val b d) (by simp [results, Tryd.results55, go_sem, z0, z1, z2, z3]) rfl ⟨b, d, ?_, ?_, set4_below HB.out (by omega)⟩
      · rw [HAT'.out]
      · rw [← HAT'.out]
        exact HRU.out.below (set4_below HB.out (by omega))
end Go.Proofs.YtnegdmhmhdojbaaDoor
