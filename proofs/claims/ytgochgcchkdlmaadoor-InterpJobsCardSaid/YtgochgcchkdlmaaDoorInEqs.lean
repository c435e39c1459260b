/-
  InEqs: several texts in one (InSmall, InSame, InGreat).
-/
import Derived.Test.YtgochgcchkdlmaaDoorPuts
import Derived.Test.YtgochgcchkdlmaaDoorInMems
import Derived.Test.YtgochgcchkdlmaaDoorInJobs
import Derived.WalkLawsBesides
import Derived.Laws.StructEq
import Derived.Test.YtgochgcchkdlmaaDoorPrgTask
/-
  Contracts: small, lists (package ontimelaw16).
-/
namespace Go.Proofs.YtgochgcchkdlmaaDoor
set_option linter.unusedVariables false
set_option linter.unusedSimpArgs false
open Go.RowKit Go.Maps
set_option maxRecDepth 100000
set_option maxHeartbeats 80000000

def smallP (L : List (List Int)) : Bool := L.all (fun r => decide (r.length ≤ 70)) && decide (L.length ≤ 10)
theorem small_any (L : List (List Int)) (b : Option Addr) (d : Nat) (w : World) (hm : ContAt w b L) :
    Calls Tryd.prog 33 #[.slice b L.length d] w fun e w' => e = .returned (.bool (smallP L)) ∧ Below w.heap.size w w' := by
  have HM := Lib.hid hm
  have hmf := hm.fits
  clear hm
  go_enter Tryd.func33, Tryd.ntmps33
  go_wp2_with fail
  go_loopw [7] (fun i wr => ∃ j : Nat, j ≤ L.length ∧ i = .int .i64 j ∧ (L.take j).all (fun r => decide (r.length ≤ 70)) = true ∧ Below w.heap.size w wr) (fun i _ => L.length - (intOf i).toNat)
  case atStart => exact ⟨0, Nat.zero_le _, rfl, rfl, Below.refl _ _⟩
  case round =>
    obtain ⟨j, hj, rfl, hd, hB⟩ := hrel
    have HD := Lib.hid hd
    have HB := Lib.hid hB
    have hk0 : (0 : Int) ≤ (j : Int) := by omega
    clear hd hB
    by_cases hlt : j < L.length
    · have hlt2 : (j : Int) < (L.length : Int) := by omega
      obtain ⟨r, hr⟩ : ∃ r, L[j]? = some r := ⟨_, List.getElem?_eq_getElem hlt⟩
      obtain ⟨b2, o2, rfl, ra, rc, hcell, _, hw⟩ := (HM.out.below HB.out).row hr
      have hrf := hw.fits
      have HR := Lib.hid hr
      by_cases he : r.length ≤ 70
      · have hb : decide ((70 : Int) < (r.length : Int)) = false := by simp; omega
        have HN : Hid ((L.take (j + 1)).all (fun r => decide (r.length ≤ 70)) = true) := by
          show _ = _
          rw [List.take_add_one, HR.out, List.all_append, HD.out]
          simp [he]
        clear he hr hw
        go_wp2_with fail
        go_roundw
        case rel => exact ⟨j + 1, by omega, by go_num, HN.out, HB.out⟩
        case measure => simp [intOf]; omega
      · have hb : decide ((70 : Int) < (r.length : Int)) = true := by simp; omega
        have HN : Hid (smallP L = false) := by
          show _ = _
          unfold smallP
          rw [Bool.and_eq_false_iff]
          refine .inl (Bool.eq_false_iff.2 (fun h => he ?_))
          simpa using List.all_eq_true.1 h r (List.mem_of_getElem? HR.out)
        clear he hr hw
        go_wp2_with fail
        go_ret
        exact ⟨by rw [HN.out]; rfl, HB.out⟩
    · obtain rfl : j = L.length := by omega
      have HN : Hid (smallP L = decide (L.length ≤ 10)) := by
        have h := HD.out
        rw [List.take_length] at h
        show _ = _
        unfold smallP
        rw [h, Bool.true_and]
      by_cases he : L.length ≤ 10
      · have hb : decide ((L.length : Int) ≤ 10) = true := by simp; omega
        have HE := Lib.hid he
        clear he
        go_wp2_with fail
        go_ret
        exact ⟨by rw [HN.out, decide_eq_true HE.out]; rfl, HB.out⟩
      · have hb : decide ((L.length : Int) ≤ 10) = false := by simp; omega
        have HE := Lib.hid he
        clear he
        go_wp2_with fail
        go_ret
        exact ⟨by rw [HN.out, decide_eq_false HE.out]; rfl, HB.out⟩
theorem take_all {α : Type} [DecidableEq α] {a b : List α} {j : Nat} {x y : α} (h1 : a[j]? = some x) (h2 : b[j]? = some y) (h : a.take j = b.take j) : (a.take (j + 1) = b.take (j + 1)) = (x = y) := by
  rw [List.take_add_one, List.take_add_one, h1, h2, h]
  simp
theorem lists_any (L T : List (List Int)) (a b : Option Addr) (c d : Nat) (w : World) (hl : ContAt w a L) (hm : ContAt w b T) :
    Calls Tryd.prog 16 #[.slice a L.length c, .slice b T.length d] w fun e w' => e = .returned (.bool (decide (L = T))) ∧ Below w.heap.size w w' := by
  have HL := Lib.hid hl
  have HM := Lib.hid hm
  have hlf := hl.fits
  have hmf := hm.fits
  clear hl hm
  by_cases hlen : L.length = T.length
  · have q0 : ((L.length : Int) != (T.length : Int)) = false := by simp [hlen]
    have HLEN := Lib.hid hlen
    clear hlen
    go_enter Tryd.func16, Tryd.ntmps16
    go_wp2_with fail
    go_loopw [14] (fun i wr => ∃ j : Nat, j ≤ L.length ∧ i = .int .i64 j ∧ L.take j = T.take j ∧ Below w.heap.size w wr) (fun i _ => L.length - (intOf i).toNat)
    case atStart => exact ⟨0, Nat.zero_le _, rfl, rfl, Below.refl _ _⟩
    case round =>
      obtain ⟨j, hj, rfl, hd, hB⟩ := hrel
      have HD := Lib.hid hd
      have HB := Lib.hid hB
      have hk0 : (0 : Int) ≤ (j : Int) := by omega
      clear hd hB
      by_cases hlt : j < L.length
      · have hlt2 : (j : Int) < (L.length : Int) := by omega
        have hlt3 : (j : Int) < (T.length : Int) := by have := HLEN.out; omega
        obtain ⟨r, hr⟩ : ∃ r, L[j]? = some r := ⟨_, List.getElem?_eq_getElem hlt⟩
        obtain ⟨s, hs⟩ : ∃ r, T[j]? = some r := ⟨_, List.getElem?_eq_getElem (by have := HLEN.out; omega)⟩
        obtain ⟨b1, o1, rfl, ra, rc, hc1, _, hw1⟩ := (HL.out.below HB.out).row hr
        obtain ⟨b2, o2, rfl, sa, sc, hc2, _, hw2⟩ := (HM.out.below HB.out).row hs
        have hrf := hw1.fits
        have hsf := hw2.fits
        have HW1 := Lib.hid hw1
        have HW2 := Lib.hid hw2
        have hbl1 := World.block_lt_of_cell? _ _ hc1
        have hbl2 := World.block_lt_of_cell? _ _ hc2
        have HC1 := Lib.hid hc1
        have HC2 := Lib.hid hc2
        have HTK : Hid ((L.take (j + 1) = T.take (j + 1)) = (r = s)) := take_all hr hs HD.out
        have HNE : Hid (r ≠ s → decide (L = T) = false) := fun h => by
          refine decide_eq_false (fun e => h ?_)
          rw [e, hs] at hr
          exact (Option.some.inj hr).symm
        clear hr hs hw1 hw2
        go_wp2_with fail
        go_quiet (fail)
        generalize hwq : World.drewN wr _ = wq
        have HQ : Hid (Below wr.heap.size wr wq) := mem_drawn (Below.refl _ _) hwq
        clear hwq hc1 hc2
        by_cases he : r.length = s.length
        · have hb : ((r.length : Int) != (s.length : Int)) = false := by simp [he]
          have HE := Lib.hid he
          have hc1 := cell_stay HQ.out HC1.out
          have hq1 := World.block_lt_of_cell? _ _ hc1
          clear he
          go_wp2_with fail
          clear hc1 hq1
          obtain ⟨wp, hwp⟩ : ∃ wp : World, wp = wr := ⟨_, rfl⟩
          subst hwp
          go_loopw [33] (fun i wx => ∃ k : Nat, k ≤ r.length ∧ i = .int .i64 k ∧ r.take k = s.take k ∧ Below wp.heap.size wp wx) (fun i _ => r.length - (intOf i).toNat)
          case atStart => exact ⟨0, Nat.zero_le _, rfl, rfl, HQ.out⟩
          case round =>
            obtain ⟨k, hk, rfl, hdk, hBk⟩ := hrel
            have HDK := Lib.hid hdk
            have HBK := Lib.hid hBk
            have hkk0 : (0 : Int) ≤ (k : Int) := by omega
            clear hdk hBk
            by_cases hkt : k < r.length
            · have hkt2 : (k : Int) < (r.length : Int) := by omega
              have hkt3 : (k : Int) < (s.length : Int) := by have := HE.out; omega
              have hkt4 : k < s.length := by have := HE.out; omega
              obtain ⟨x, hx⟩ : ∃ x, r[k]? = some x := ⟨_, List.getElem?_eq_getElem hkt⟩
              obtain ⟨y, hy⟩ : ∃ y, s[k]? = some y := ⟨_, List.getElem?_eq_getElem hkt4⟩
              have hc1 := cell_stay HBK.out HC1.out
              have hc2 := cell_stay HBK.out HC2.out
              have hq1 := World.block_lt_of_cell? _ _ hc1
              have hq2 := World.block_lt_of_cell? _ _ hc2
              obtain ⟨v1, n1, rfl, e1⟩ := (HW1.out.at_).resolve_left (by omega)
              obtain ⟨v2, n2, rfl, e2⟩ := (HW2.out.at_).resolve_left (by omega)
              have g1 := cell_stay HBK.out (e1 k x hx)
              have g2 := cell_stay HBK.out (e2 k y hy)
              have hq3 := World.block_lt_of_cell? _ _ g1
              have hq4 := World.block_lt_of_cell? _ _ g2
              have HTX : Hid ((r.take (k + 1) = s.take (k + 1)) = (x = y)) := take_all hx hy HDK.out
              have HNX : Hid (x ≠ y → decide (L = T) = false) := fun h => HNE.out (fun e => h (by
                rw [e, hy] at hx
                exact (Option.some.inj hx).symm))
              clear hx hy e1 e2
              go_wp2_with fail
              go_quiet (fail)
              generalize hwq : World.drewN wr _ = wq
              have HQ2 : Hid (Below wr.heap.size wr wq) := mem_drawn (Below.refl _ _) hwq
              clear hwq hc1 hc2 g1 g2
              by_cases hxy : x = y
              · have hbx : (x != y) = false := by simp [hxy]
                have HN : Hid (r.take (k + 1) = s.take (k + 1)) := by show _ = _; rw [HTX.out]; exact hxy
                clear hxy
                go_wp2_with fail
                go_roundw
                case rel => exact ⟨k + 1, by omega, by go_num, HN.out, mem_then HBK.out HQ2.out⟩
                case measure => simp [intOf]; omega
              · have hbx : (x != y) = true := by simp [hxy]
                have HN := Lib.hid (HNX.out hxy)
                clear hxy
                go_wp2_with fail
                go_ret
                exact ⟨by rw [HN.out]; rfl, mem_then HB.out (mem_then HBK.out HQ2.out)⟩
            · obtain rfl : k = r.length := by omega
              have HN : Hid (L.take (j + 1) = T.take (j + 1)) := by
                have h := HDK.out
                rw [List.take_length, HE.out, List.take_length] at h
                show _ = _
                rw [HTK.out]
                exact h
              go_wp2_with fail
              go_roundw
              case rel => exact ⟨j + 1, by omega, by go_num, HN.out, mem_then HB.out HBK.out⟩
              case measure => simp [intOf]; omega
        · have hb : ((r.length : Int) != (s.length : Int)) = true := by simp; omega
          have HN := Lib.hid (HNE.out (fun e => he (by rw [e])))
          clear he
          go_wp2_with fail
          go_ret
          exact ⟨by rw [HN.out]; rfl, mem_then HB.out HQ.out⟩
      · obtain rfl : j = L.length := by omega
        have HN : Hid (decide (L = T) = true) := by
          have h := HD.out
          rw [List.take_length, HLEN.out, List.take_length] at h
          exact decide_eq_true h
        go_wp2_with fail
        go_ret
        exact ⟨by rw [HN.out]; rfl, HB.out⟩
  · have q0 : ((L.length : Int) != (T.length : Int)) = true := by simp; omega
    have HN : Hid (decide (L = T) = false) := decide_eq_false (fun e => hlen (by rw [e]))
    clear hlen
    go_enter Tryd.func16, Tryd.ntmps16
    go_wp2_with fail
    go_ret
    exact ⟨by rw [HN.out]; rfl, Below.refl _ _⟩
end Go.Proofs.YtgochgcchkdlmaaDoor

/-
  Contracts: outputs, Equal, same (package ontimelaw16).
-/
namespace Go.Proofs.YtgochgcchkdlmaaDoor
set_option linter.unusedVariables false
set_option linter.unusedSimpArgs false
open Go.RowKit Go.Maps
set_option maxRecDepth 100000
set_option maxHeartbeats 80000000

theorem out_cmp (W : World) (x y : Int × Int) : (binOp .neq 80 (.agg #[.int .i64 x.1, .int .i32 x.2]) (.agg #[.int .i64 y.1, .int .i32 y.2])).run Tryd.prog W = .ok (.bool (!(x.1 == y.1 && x.2 == y.2))) W := by
  have u3 := Tryd.underlying3
  have a3 := Tryd.isAgg3
  have z3 := Tryd.sizeOf3
  have u9 := Tryd.underlying21
  have a9 := Tryd.isAgg21
  have z9 := Tryd.sizeOf21
  have hS : Tryd.prog.underlying 80 = some (.struct (Tryd.prog.fieldsOf 80)) := by kernel_rfl
  have hp : Tryd.prog.stoodInHeld 80 = false := by kernel_rfl
  rw [run_neq_struct, show (10000 : Nat) = 9999 + 1 from rfl, run_equalIn_agg W 9999 80 _ _ hS hp]
  simp only [Program.fieldsOf, Tryd.underlying80]
  go_simp
  by_cases h1 : x.1 = y.1 <;> by_cases h2 : x.2 = y.2 <;> simp [h1, h2]
theorem out_cmp2 (W : World) (x y : Int × Int) : (binOp .neq 80 (.agg #[.int .i64 x.1, .int .i32 x.2]) (.agg #[.int .i64 y.1, .int .i32 y.2])).run Tryd.prog W = .ok (.bool (decide (x ≠ y))) W := by
  rw [out_cmp]
  congr 2
  obtain ⟨a, b⟩ := x
  obtain ⟨c, d⟩ := y
  by_cases h1 : a = c <;> by_cases h2 : b = d <;> simp [h1, h2]
theorem outputs_any (L T : List (Int × Int)) (a b : Option Addr) (c d : Nat) (w : World) (hl : OutAt w a L) (hm : OutAt w b T) :
    Calls Tryd.prog 25 #[.slice a L.length c, .slice b T.length d] w fun e w' => e = .returned (.bool (decide (L = T))) ∧ Below w.heap.size w w' := by
  have HL := Lib.hid hl
  have HM := Lib.hid hm
  have hlf := hl.1
  have hmf := hm.1
  clear hl hm
  by_cases hlen : L.length = T.length
  · have q0 : ((L.length : Int) != (T.length : Int)) = false := by simp [hlen]
    have HLEN := Lib.hid hlen
    clear hlen
    go_enter Tryd.func25, Tryd.ntmps25
    go_wp2_with fail
    go_loopw [13] (fun i wr => ∃ j : Nat, j ≤ L.length ∧ i = .int .i64 j ∧ L.take j = T.take j ∧ Below w.heap.size w wr) (fun i _ => L.length - (intOf i).toNat)
    case atStart => exact ⟨0, Nat.zero_le _, rfl, rfl, Below.refl _ _⟩
    case round =>
      obtain ⟨j, hj, rfl, hd, hB⟩ := hrel
      have HD := Lib.hid hd
      have HB := Lib.hid hB
      have hk0 : (0 : Int) ≤ (j : Int) := by omega
      clear hd hB
      by_cases hlt : j < L.length
      · have hlt2 : (j : Int) < (L.length : Int) := by omega
        have hlt3 : (j : Int) < (T.length : Int) := by have := HLEN.out; omega
        obtain ⟨x, hx⟩ : ∃ r, L[j]? = some r := ⟨_, List.getElem?_eq_getElem hlt⟩
        obtain ⟨y, hy⟩ : ∃ r, T[j]? = some r := ⟨_, List.getElem?_eq_getElem (by have := HLEN.out; omega)⟩
        obtain ⟨b1, o1, rfl, p1, p2⟩ := HL.out.2 j x hx
        obtain ⟨b2, o2, rfl, q1, q2⟩ := HM.out.2 j y hy
        replace p1 := cell_stay HB.out p1
        replace p2 := cell_stay HB.out p2
        replace q1 := cell_stay HB.out q1
        replace q2 := cell_stay HB.out q2
        have hbl1 := World.block_lt_of_cell? _ _ p1
        have hbl2 := World.block_lt_of_cell? _ _ q1
        have HTK : Hid ((L.take (j + 1) = T.take (j + 1)) = (x = y)) := take_all hx hy HD.out
        have HNE : Hid (x ≠ y → decide (L = T) = false) := fun h => by
          refine decide_eq_false (fun e => h ?_)
          rw [e, hy] at hx
          exact (Option.some.inj hx).symm
        clear hx hy
        by_cases he : x = y
        · have hcmp : ∀ W, (binOp .neq 80 (.agg #[.int .i64 x.1, .int .i32 x.2]) (.agg #[.int .i64 y.1, .int .i32 y.2])).run Tryd.prog W = .ok (.bool false) W := fun W => by rw [out_cmp2, decide_eq_false (fun h => h he)]
          have HN : Hid (L.take (j + 1) = T.take (j + 1)) := by show _ = _; rw [HTK.out]; exact he
          clear he
          go_wp2_with fail
          go_quiet (fail)
          generalize hwq : World.drewN wr _ = wq
          have HQ : Hid (Below wr.heap.size wr wq) := mem_drawn (Below.refl _ _) hwq
          clear hwq p1 p2 q1 q2 hcmp
          go_wp2_with fail
          go_roundw
          case rel => exact ⟨j + 1, by omega, by go_num, HN.out, mem_then HB.out HQ.out⟩
          case measure => simp [intOf]; omega
        · have hcmp : ∀ W, (binOp .neq 80 (.agg #[.int .i64 x.1, .int .i32 x.2]) (.agg #[.int .i64 y.1, .int .i32 y.2])).run Tryd.prog W = .ok (.bool true) W := fun W => by rw [out_cmp2, decide_eq_true he]
          have HN := Lib.hid (HNE.out he)
          clear he
          go_wp2_with fail
          go_quiet (fail)
          generalize hwq : World.drewN wr _ = wq
          have HQ : Hid (Below wr.heap.size wr wq) := mem_drawn (Below.refl _ _) hwq
          clear hwq p1 p2 q1 q2 hcmp
          go_wp2_with fail
          go_ret
          exact ⟨by rw [HN.out]; rfl, mem_then HB.out HQ.out⟩
      · obtain rfl : j = L.length := by omega
        have HN : Hid (decide (L = T) = true) := by
          have h := HD.out
          rw [List.take_length, HLEN.out, List.take_length] at h
          exact decide_eq_true h
        go_wp2_with fail
        go_ret
        exact ⟨by rw [HN.out]; rfl, HB.out⟩
  · have q0 : ((L.length : Int) != (T.length : Int)) = true := by simp; omega
    have HN : Hid (decide (L = T) = false) := decide_eq_false (fun e => hlen (by rw [e]))
    clear hlen
    go_enter Tryd.func25, Tryd.ntmps25
    go_wp2_with fail
    go_ret
    exact ⟨by rw [HN.out]; rfl, Below.refl _ _⟩
deriving instance DecidableEq for Mem
def eqN (M N : Mem) : Int := if M = N then 1 else 0
theorem equal_any (M N : Mem) (w : World) (ma ms na ns : Option Addr) (mac msc nac nsc : Nat) (hm : MemAt w M ma ms) (hn : MemAt w N na ns) :
    Calls Tryd.prog 15 #[M.val ma mac ms msc, N.val na nac ns nsc] w fun e w' => e = .returned (.int .i64 (eqN M N)) ∧ Below w.heap.size w w' := by
  have hml := hm.1.fits
  have hmsl := hm.2.fits
  have hnl := hn.1.fits
  have hnsl := hn.2.fits
  obtain ⟨W, hW⟩ : ∃ W : World, w.alloc (memObj M ma mac ms msc) = W := ⟨_, rfl⟩
  have hBW : Below w.heap.size w W := by rw [← hW]; exact mem_alloc _ _
  have hXW : W.heap[w.heap.size]? = some (memObj M ma mac ms msc) := by rw [← hW]; exact mem_new _ _
  obtain ⟨W2, hW2⟩ : ∃ W2 : World, W.alloc (memObj N na nac ns nsc) = W2 := ⟨_, rfl⟩
  have hBW2 : Below W.heap.size W W2 := by rw [← hW2]; exact mem_alloc _ _
  have hXW2 : W2.heap[W.heap.size]? = some (memObj N na nac ns nsc) := by rw [← hW2]; exact mem_new _ _
  have HB2 : Hid (Below w.heap.size w W2) := mem_then hBW hBW2
  have HK : Hid (∀ w', Below W2.heap.size W2 w' → w'.heap[w.heap.size]? = some (memObj M ma mac ms msc) ∧ w'.heap[W.heap.size]? = some (memObj N na nac ns nsc) ∧ MemAt w' M ma ms ∧ MemAt w' N na ns ∧ Below w.heap.size w w') := fun w' hw => by
    have hb := mem_then HB2.out hw
    exact ⟨mem_keep (mem_keep hXW hBW2) hw, mem_keep hXW2 hw, hm.below hb, hn.below hb, hb⟩
  obtain ⟨hx1, hx2, hm2, hn2, _⟩ := HK.out W2 (Below.refl _ _)
  have x0 := mem_cell hx1 0
  have x1 := mem_cell hx1 1
  have y0 := mem_cell hx2 0
  have y1 := mem_cell hx2 1
  simp only [List.getElem?_toArray, List.getElem?_cons_zero, List.getElem?_cons_succ] at x0 x1 y0 y1
  have HLS := Lib.hid (lists_any M.shared N.shared ms ns msc nsc W2 hm2.2 hn2.2)
  clear hm hn hBW hXW hBW2 hXW2 hx1 hx2 hm2 hn2
  by_cases hlen : M.arrays.length = N.arrays.length
  · have q0 : ((M.arrays.length : Int) != (N.arrays.length : Int)) = false := by simp [hlen]
    have HLEN := Lib.hid hlen
    clear hlen
    go_enter Tryd.func15, Tryd.ntmps15
    go_wp2_with fail
    clear hW hW2 x0 x1 y0 y1
    refine HLS.out.mono ?_
    rintro e w4 ⟨rfl, hB4⟩
    have HB4 := Lib.hid hB4
    clear HLS hB4
    by_cases hsh : M.shared = N.shared
    · have hd : decide (M.shared = N.shared) = true := decide_eq_true hsh
      have HSH := Lib.hid hsh
      obtain ⟨hx1, hx2, _⟩ := HK.out w4 HB4.out
      have x0 := mem_cell hx1 0
      simp only [List.getElem?_toArray, List.getElem?_cons_zero] at x0
      clear hsh hx1 hx2
      go_wp2_with fail
      clear x0
      go_loopw [24] (fun i wr => ∃ j : Nat, j ≤ M.arrays.length ∧ i = .int .i64 j ∧ M.arrays.take j = N.arrays.take j ∧ Below W2.heap.size W2 wr) (fun i _ => M.arrays.length - (intOf i).toNat)
      case atStart => exact ⟨0, Nat.zero_le _, rfl, rfl, HB4.out⟩
      case round =>
        obtain ⟨j, hj, rfl, hd, hB⟩ := hrel
        have HD := Lib.hid hd
        have HB := Lib.hid hB
        have hk0 : (0 : Int) ≤ (j : Int) := by omega
        clear hd hB
        by_cases hlt : j < M.arrays.length
        · have hlt2 : (j : Int) < (M.arrays.length : Int) := by omega
          have hlt3 : (j : Int) < (N.arrays.length : Int) := by have := HLEN.out; omega
          obtain ⟨r, hr⟩ : ∃ r, M.arrays[j]? = some r := ⟨_, List.getElem?_eq_getElem hlt⟩
          obtain ⟨s, hs⟩ : ∃ r, N.arrays[j]? = some r := ⟨_, List.getElem?_eq_getElem (by have := HLEN.out; omega)⟩
          obtain ⟨hx1, hx2, hm2, hn2, _⟩ := HK.out wr HB.out
          obtain ⟨b1, o1, rfl, ra, rc, hc1, _, hw1⟩ := hm2.1.row hr
          obtain ⟨b2, o2, rfl, sa, sc, hc2, _, hw2⟩ := hn2.1.row hs
          have x0 := mem_cell hx1 0
          have y0 := mem_cell hx2 0
          simp only [List.getElem?_toArray, List.getElem?_cons_zero, List.getElem?_cons_succ] at x0 y0
          have hl1 := World.block_lt_of_cell? _ _ x0
          have hl2 := World.block_lt_of_cell? _ _ y0
          have hbl1 := World.block_lt_of_cell? _ _ hc1
          have hbl2 := World.block_lt_of_cell? _ _ hc2
          have HLX : Hid (∀ w', Below wr.heap.size wr w' → Calls Tryd.prog 16 #[.slice ra r.length rc, .slice sa s.length sc] w' fun e w'' => e = .returned (.bool (decide (r = s))) ∧ Below w'.heap.size w' w'') := fun w' hw => lists_any r s ra sa rc sc w' (hw1.below hw) (hw2.below hw)
          have HTK : Hid ((M.arrays.take (j + 1) = N.arrays.take (j + 1)) = (r = s)) := take_all hr hs HD.out
          have HNE : Hid (r ≠ s → eqN M N = 0) := fun h => by
            refine if_neg (fun e => h ?_)
            rw [e, hs] at hr
            exact (Option.some.inj hr).symm
          have HC1 := Lib.hid hc1
          have HC2 := Lib.hid hc2
          clear hr hs hx1 hx2 hm2 hn2 hw1 hw2
          go_upto_region 6 with fail
          clear x0 y0 hc1 hc2 hl1 hl2
          have hD0 : Below wr.heap.size wr (World.drew wr) := (Below.refl _ _).drew
          refine wp_region_held_drew (S := fun w' => Below wr.heap.size wr w') (by kernel_rfl) hD0 (fun hHeld => ?_)
          generalize hwd : World.drew wr = v1 at hHeld hD0 ⊢
          clear hwd hD0
          refine hT 0 (.pointer (some ⟨w.heap.size, 0, none⟩)) rfl (hy := ?_) (h := ?_)
          · intro w' hSw; go_simp
          (try simp only [Act.put, pA, pB, pD, pE, pF])
          refine hT 1 (.slice (some ⟨b1, o1, none⟩) M.arrays.length mac) rfl (hy := ?_) (h := ?_)
          · intro w' hSw; have z0 := mem_cell (HK.out _ (mem_then HB.out hSw)).1 0; simp only [List.getElem?_toArray, List.getElem?_cons_zero, List.getElem?_cons_succ] at z0; go_simp
          (try simp only [Act.put, pA, pB, pC, pD, pE, pF])
          refine hT 2 (.int .i64 (j : Int)) rfl (hy := ?_) (h := ?_)
          · intro w' hSw; go_simp
          (try simp only [Act.put, pA, pB, pC, pD, pE, pF])
          refine hT 3 (.pointer (some ⟨b1, o1 + j, none⟩)) rfl (hy := ?_) (h := ?_)
          · intro w' hSw; go_simp
          (try simp only [Act.put, pA, pB, pC, pD, pE, pF])
          refine hT 4 (.slice ra r.length rc) rfl (hy := ?_) (h := ?_)
          · intro w' hSw; have z0 := cell_stay hSw HC1.out; go_simp
          (try simp only [Act.put, pA, pB, pC, pD, pE, pF])
          refine hT 5 (.pointer (some ⟨W.heap.size, 0, none⟩)) rfl (hy := ?_) (h := ?_)
          · intro w' hSw; go_simp
          (try simp only [Act.put, pA, pB, pC, pD, pE, pF])
          refine hT 6 (.slice (some ⟨b2, o2, none⟩) N.arrays.length nac) rfl (hy := ?_) (h := ?_)
          · intro w' hSw; have z0 := mem_cell (HK.out _ (mem_then HB.out hSw)).2.1 0; simp only [List.getElem?_toArray, List.getElem?_cons_zero, List.getElem?_cons_succ] at z0; go_simp
          (try simp only [Act.put, pA, pB, pC, pD, pE, pF])
          refine hT 7 (.int .i64 (j : Int)) rfl (hy := ?_) (h := ?_)
          · intro w' hSw; go_simp
          (try simp only [Act.put, pA, pB, pC, pD, pE, pF])
          refine hT 8 (.pointer (some ⟨b2, o2 + j, none⟩)) rfl (hy := ?_) (h := ?_)
          · intro w' hSw; go_simp
          (try simp only [Act.put, pA, pB, pC, pD, pE, pF])
          refine hT 9 (.slice sa s.length sc) rfl (hy := ?_) (h := ?_)
          · intro w' hSw; have z0 := cell_stay hSw HC2.out; go_simp
          (try simp only [Act.put, pA, pB, pC, pD, pE, pF])
          have h9 := HLX.out v1 hHeld
          have H9 := Lib.hid h9
          have HB3 := Lib.hid hHeld
          clear h9
          refine hR 10 rfl (fun K hK => ?_)
          go_simp
          refine H9.out.mono ?_
          rintro e w3 ⟨rfl, hB3⟩
          have HB4x := Lib.hid (mem_then HB3.out hB3)
          clear H9 hB3
          refine hK.out _ _ (HB4x.out) (fun hHeld => ?_)
          clear hK K
          rename_i hOld
          clear hOld
          (try simp only [Act.put, pA, pB, pC, pD, pE, pF])
          by_cases he : r = s
          · have hd : decide (r = s) = true := decide_eq_true he
            have HN : Hid (M.arrays.take (j + 1) = N.arrays.take (j + 1)) := by show _ = _; rw [HTK.out]; exact he
            clear he
            refine hT 11 (.bool false) rfl (hy := ?_) (h := ?_)
            · intro w' hSw; go_simp
            (try simp only [Act.put, pA, pB, pC, pD, pE, pF])
            refine wpAnyH_done (by kernel_rfl) ?_ _
            go_wp2_with fail
            go_roundw
            case rel => exact ⟨j + 1, by omega, by go_num, HN.out, mem_then HB.out HB4x.out⟩
            case measure => simp [intOf]; omega
          · have hd : decide (r = s) = false := decide_eq_false he
            have HN := Lib.hid (HNE.out he)
            clear he
            refine hT 11 (.bool true) rfl (hy := ?_) (h := ?_)
            · intro w' hSw; go_simp
            (try simp only [Act.put, pA, pB, pC, pD, pE, pF])
            refine wpAnyH_done (by kernel_rfl) ?_ _
            go_wp2_with fail
            go_ret
            exact ⟨by rw [HN.out]; rfl, (HK.out _ (mem_then HB.out HB4x.out)).2.2.2.2⟩
        · obtain rfl : j = M.arrays.length := by omega
          have HN : Hid (eqN M N = 1) := by
            have h := HD.out
            rw [List.take_length, HLEN.out, List.take_length] at h
            refine if_pos ?_
            cases M
            cases N
            rw [Mem.mk.injEq]
            exact ⟨h, HSH.out⟩
          go_wp2_with fail
          go_ret
          exact ⟨by rw [HN.out]; rfl, (HK.out _ HB.out).2.2.2.2⟩
    · have hd : decide (M.shared = N.shared) = false := decide_eq_false hsh
      have HN : Hid (eqN M N = 0) := if_neg (fun e => hsh (by rw [e]))
      clear hsh
      go_wp2_with fail
      go_ret
      exact ⟨by rw [HN.out]; rfl, (HK.out _ HB4.out).2.2.2.2⟩
  · have q0 : ((M.arrays.length : Int) != (N.arrays.length : Int)) = true := by simp; omega
    have HN : Hid (eqN M N = 0) := if_neg (fun e => hlen (by rw [e]))
    clear hlen
    go_enter Tryd.func15, Tryd.ntmps15
    go_wp2_with fail
    go_ret
    exact ⟨by rw [HN.out]; rfl, by first | exact HB2.out | (rw [hW2]; exact HB2.out) | (rw [hW, hW2]; exact HB2.out)⟩
def sameP (R S : Res) (all : Bool) : Bool := decide (R.mem = S.mem) && (decide (R.out = S.out) && (decide (R.rd = S.rd) && (decide (R.err = S.err) && (!all || decide (R.st = S.st)))))
theorem same_any (R S : Res) (al : Bool) (w : World) (aa sa oa ba ta pa : Option Addr) (ac sc oc bc tc pc : Nat) (hr : ResAt w R aa sa oa) (hs : ResAt w S ba ta pa) :
    Calls Tryd.prog 20 #[R.val aa ac sa sc oa oc, S.val ba bc ta tc pa pc, .bool al] w fun e w' => e = .returned (.bool (sameP R S al)) ∧ Below w.heap.size w w' := by
  obtain ⟨W, hW⟩ : ∃ W : World, w.alloc (resObj (.slice aa R.mem.arrays.length ac) (.slice sa R.mem.shared.length sc) (.slice oa R.out.length oc) R.rd R.st R.err) = W := ⟨_, rfl⟩
  have hBW : Below w.heap.size w W := by rw [← hW]; exact mem_alloc _ _
  have hXW : W.heap[w.heap.size]? = some (resObj (.slice aa R.mem.arrays.length ac) (.slice sa R.mem.shared.length sc) (.slice oa R.out.length oc) R.rd R.st R.err) := by rw [← hW]; exact mem_new _ _
  obtain ⟨W2, hW2⟩ : ∃ W2 : World, W.alloc (resObj (.slice ba S.mem.arrays.length bc) (.slice ta S.mem.shared.length tc) (.slice pa S.out.length pc) S.rd S.st S.err) = W2 := ⟨_, rfl⟩
  have hBW2 : Below W.heap.size W W2 := by rw [← hW2]; exact mem_alloc _ _
  have hXW2 : W2.heap[W.heap.size]? = some (resObj (.slice ba S.mem.arrays.length bc) (.slice ta S.mem.shared.length tc) (.slice pa S.out.length pc) S.rd S.st S.err) := by rw [← hW2]; exact mem_new _ _
  have HB2 : Hid (Below w.heap.size w W2) := mem_then hBW hBW2
  have HK : Hid (∀ w', Below W2.heap.size W2 w' → w'.heap[w.heap.size]? = some (resObj (.slice aa R.mem.arrays.length ac) (.slice sa R.mem.shared.length sc) (.slice oa R.out.length oc) R.rd R.st R.err) ∧ w'.heap[W.heap.size]? = some (resObj (.slice ba S.mem.arrays.length bc) (.slice ta S.mem.shared.length tc) (.slice pa S.out.length pc) S.rd S.st S.err) ∧ ResAt w' R aa sa oa ∧ ResAt w' S ba ta pa ∧ Below w.heap.size w w') := fun w' hw => by
    have hb := mem_then HB2.out hw
    exact ⟨mem_keep (mem_keep hXW hBW2) hw, mem_keep hXW2 hw, ⟨hr.mem.below hb, hr.out.below hb⟩, ⟨hs.mem.below hb, hs.out.below hb⟩, hb⟩
  obtain ⟨hx1, hx2, hr2, hs2, _⟩ := HK.out W2 (Below.refl _ _)
  obtain ⟨x0, x1, x2, x3, x4, x5⟩ := res_cells hx1
  obtain ⟨y0, y1, y2, y3, y4, y5⟩ := res_cells hx2
  have HEQ := Lib.hid (equal_any R.mem S.mem W2 aa sa ba ta ac sc bc tc hr2.mem hs2.mem)
  clear hr hs hBW hXW hBW2 hXW2 hx1 hx2 hr2 hs2
  go_enter Tryd.func20, Tryd.ntmps20
  go_wp2_with fail
  clear hW hW2 x0 x1 x2 x3 x4 x5 y0 y1 y2 y3 y4 y5
  refine HEQ.out.mono ?_
  rintro e w4 ⟨rfl, hB4⟩
  have HB4 := Lib.hid hB4
  clear HEQ hB4
  obtain ⟨hx1, hx2, hr2, hs2, _⟩ := HK.out w4 HB4.out
  obtain ⟨x0, x1, x2, x3, x4, x5⟩ := res_cells hx1
  obtain ⟨y0, y1, y2, y3, y4, y5⟩ := res_cells hx2
  by_cases hm : R.mem = S.mem
  · have he : eqN R.mem S.mem = 1 := if_pos hm
    have HM := Lib.hid (decide_eq_true hm)
    have HO := Lib.hid (outputs_any R.out S.out oa pa oc pc w4 hr2.out hs2.out)
    clear hm hx1 hx2 hr2 hs2
    go_wp2_with fail
    clear x0 x1 x2 x3 x4 x5 y0 y1 y2 y3 y4 y5
    refine HO.out.mono ?_
    rintro e w5 ⟨rfl, hB5⟩
    have HB5 := Lib.hid (mem_then HB4.out hB5)
    clear HO hB5
    obtain ⟨hx1, hx2, _⟩ := HK.out w5 HB5.out
    obtain ⟨x0, x1, x2, x3, x4, x5⟩ := res_cells hx1
    obtain ⟨y0, y1, y2, y3, y4, y5⟩ := res_cells hx2
    have HFIN : Hid (Below w.heap.size w w5) := (HK.out w5 HB5.out).2.2.2.2
    clear hx1 hx2
    cases ho : decide (R.out = S.out) with
    | false =>
      have HN : Hid (sameP R S al = false) := by show _ = _; unfold sameP; rw [ho]; simp
      clear ho
      go_wp2_with fail
      go_ret
      exact ⟨by rw [HN.out]; rfl, HFIN.out⟩
    | true =>
      have HO := Lib.hid ho
      clear ho
      by_cases h3 : (R.rd : Int) = (S.rd : Int)
      · have b3 : decide ((R.rd : Int) = (S.rd : Int)) = true := decide_eq_true h3
        have b3' : ((R.rd : Int) == (S.rd : Int)) = true := by simpa using h3
        have H3 : Hid (decide (R.rd = S.rd) = true) := decide_eq_true (by omega)
        by_cases h5 : R.err = S.err
        · have b5 : decide (R.err = S.err) = true := decide_eq_true h5
          have b5' : (R.err == S.err) = true := by simpa using h5
          have H5 := Lib.hid b5
          cases al with
          | false =>
            have HN : Hid (sameP R S false = true) := by show _ = _; unfold sameP; rw [HM.out, HO.out, H3.out, H5.out]; rfl
            clear h3 h5
            go_wp2_with fail
            go_ret
            exact ⟨by rw [HN.out]; rfl, HFIN.out⟩
          | true =>
            by_cases h4 : (R.st : Int) = (S.st : Int)
            · have b4 : decide ((R.st : Int) = (S.st : Int)) = true := decide_eq_true h4
              have b4' : ((R.st : Int) == (S.st : Int)) = true := by simpa using h4
              have HN : Hid (sameP R S true = true) := by show _ = _; unfold sameP; rw [HM.out, HO.out, H3.out, H5.out, decide_eq_true (show R.st = S.st by omega)]; rfl
              clear h3 h5 h4
              go_wp2_with fail
              go_ret
              exact ⟨by rw [HN.out]; rfl, HFIN.out⟩
            · have b4 : decide ((R.st : Int) = (S.st : Int)) = false := decide_eq_false h4
              have b4' : ((R.st : Int) == (S.st : Int)) = false := by simpa using h4
              have HN : Hid (sameP R S true = false) := by show _ = _; unfold sameP; rw [decide_eq_false (show ¬ R.st = S.st by omega)]; simp
              clear h3 h5 h4
              go_wp2_with fail
              go_ret
              exact ⟨by rw [HN.out]; rfl, HFIN.out⟩
        · have b5 : decide (R.err = S.err) = false := decide_eq_false h5
          have b5' : (R.err == S.err) = false := by simpa using h5
          have HN : Hid (sameP R S al = false) := by show _ = _; unfold sameP; rw [b5]; simp
          clear h3 h5
          go_wp2_with fail
          go_ret
          exact ⟨by rw [HN.out]; rfl, HFIN.out⟩
      · have b3 : decide ((R.rd : Int) = (S.rd : Int)) = false := decide_eq_false h3
        have b3' : ((R.rd : Int) == (S.rd : Int)) = false := by simpa using h3
        have HN : Hid (sameP R S al = false) := by show _ = _; unfold sameP; rw [decide_eq_false (show ¬ R.rd = S.rd by omega)]; simp
        clear h3
        go_wp2_with fail
        go_ret
        exact ⟨by rw [HN.out]; rfl, HFIN.out⟩
  · have he : eqN R.mem S.mem = 0 := if_neg hm
    have HN : Hid (sameP R S al = false) := by show _ = _; unfold sameP; rw [decide_eq_false hm, Bool.false_and]
    have HFIN : Hid (Below w.heap.size w w4) := (HK.out w4 HB4.out).2.2.2.2
    clear hm hx1 hx2 hr2 hs2
    go_wp2_with fail
    go_ret
    exact ⟨by rw [HN.out]; rfl, HFIN.out⟩
end Go.Proofs.YtgochgcchkdlmaaDoor

/-
  Contract: Great (package ontimelaw16).
-/
namespace Go.Proofs.YtgochgcchkdlmaaDoor
set_option linter.unusedVariables false
set_option linter.unusedSimpArgs false
open Go.RowKit Go.Maps
set_option maxRecDepth 100000
set_option maxHeartbeats 80000000

noncomputable def bigP (p : Prg) (M : Mem) (n : Nat) : Bool := prgGreat p || (!smallP M.shared || (decide (10 < M.arrays.length) || (decide (40 < n) || M.arrays.any (fun r => !smallP r))))
noncomputable def bigN (p : Prg) (M : Mem) (n : Nat) : Int := if bigP p M n then 1 else 0
theorem bigN_t {p : Prg} {M : Mem} {n : Nat} (h : bigP p M n = true) : bigN p M n = 1 := if_pos h
theorem bigN_f {p : Prg} {M : Mem} {n : Nat} (h : bigP p M n = false) : bigN p M n = 0 := if_neg (by rw [h]; decide)
theorem great16_any (p : Prg) (M : Mem) (n : Nat) (w : World) (sa ta : Option Addr) (sc tc : Nat) (ma ms : Option Addr) (mac msc : Nat) (ia : Option Addr) (ic : Nat) (hp : PrgAt w p sa ta) (hm : MemAt w M ma ms) (hn : n ≤ 9223372036854775807) :
    Calls Tryd.prog 12 #[p.val sa sc ta tc, M.val ma mac ms msc, .slice ia n ic] w fun e w' => e = .returned (.int .i64 (bigN p M n)) ∧ Below w.heap.size w w' := by
  have hml := hm.1.fits
  have hmsl := hm.2.fits
  have hsl := hp.1.1
  have htl := hp.2.1
  obtain ⟨W, hW⟩ : ∃ W : World, w.alloc (prgObj p sa sc ta tc) = W := ⟨_, rfl⟩
  have hBW : Below w.heap.size w W := by rw [← hW]; exact mem_alloc _ _
  have hXW : W.heap[w.heap.size]? = some (prgObj p sa sc ta tc) := by rw [← hW]; exact mem_new _ _
  obtain ⟨W2, hW2⟩ : ∃ W2 : World, W.alloc (memObj M ma mac ms msc) = W2 := ⟨_, rfl⟩
  have hBW2 : Below W.heap.size W W2 := by rw [← hW2]; exact mem_alloc _ _
  have hXW2 : W2.heap[W.heap.size]? = some (memObj M ma mac ms msc) := by rw [← hW2]; exact mem_new _ _
  have HK : Hid (∀ w', Below W2.heap.size W2 w' → w'.heap[w.heap.size]? = some (prgObj p sa sc ta tc) ∧ w'.heap[W.heap.size]? = some (memObj M ma mac ms msc) ∧ PrgAt w' p sa ta ∧ MemAt w' M ma ms ∧ Below w.heap.size w w') := fun w' hw => by
    have hb := mem_then (mem_then hBW hBW2) hw
    exact ⟨mem_keep (mem_keep hXW hBW2) hw, mem_keep hXW2 hw, hp.below hb, hm.below hb, hb⟩
  obtain ⟨hx1, _, hp2, _, _⟩ := HK.out W2 (Below.refl _ _)
  have x0 := mem_cell hx1 0
  have x1 := mem_cell hx1 1
  simp only [List.getElem?_toArray, List.getElem?_cons_zero, List.getElem?_cons_succ] at x0 x1
  have HG := Lib.hid (great_any p W2 sa ta sc tc hp2)
  clear hp hm hBW hXW hBW2 hXW2 hx1 hp2
  go_enter Tryd.func12, Tryd.ntmps12
  go_wp2_with fail
  clear hW hW2 x0 x1
  refine HG.out.mono ?_
  rintro e w1 ⟨rfl, hB1⟩
  have HB1 := Lib.hid hB1
  have HFIN := Lib.hid (HK.out w1 hB1).2.2.2.2
  obtain ⟨hx1, hx2, hp2, hm2, _⟩ := HK.out w1 hB1
  have y0 := mem_cell hx2 0
  have y1 := mem_cell hx2 1
  simp only [List.getElem?_toArray, List.getElem?_cons_zero, List.getElem?_cons_succ] at y0 y1
  have HSM := Lib.hid (small_any M.shared ms msc w1 hm2.2)
  clear HG hB1 hx1 hx2 hp2 hm2
  cases hgr : prgGreat p with
  | true =>
    have hgn : greatN p = 1 := if_pos hgr
    have HN : Hid (bigN p M n = 1) := bigN_t (by unfold bigP; rw [hgr, Bool.true_or])
    clear hgr
    go_wp2_with fail
    go_ret
    exact ⟨by rw [HN.out]; rfl, HFIN.out⟩
  | false =>
  have hgn : greatN p = 0 := if_neg (by rw [hgr]; decide)
  have HGR := Lib.hid hgr
  clear hgr
  go_wp2_with fail
  clear y0 y1
  refine HSM.out.mono ?_
  rintro e w2 ⟨rfl, hB2⟩
  have HB2 := Lib.hid (mem_then HB1.out hB2)
  have HFIN2 := Lib.hid (HK.out w2 HB2.out).2.2.2.2
  obtain ⟨_, hx2, _, _, _⟩ := HK.out w2 HB2.out
  have y0 := mem_cell hx2 0
  simp only [List.getElem?_toArray, List.getElem?_cons_zero, List.getElem?_cons_succ] at y0
  clear HSM hB2 hx2
  cases hsm : smallP M.shared with
  | false =>
    have HN : Hid (bigN p M n = 1) := bigN_t (by unfold bigP; rw [hsm]; simp)
    clear hsm
    go_wp2_with fail
    go_ret
    exact ⟨by rw [HN.out]; rfl, HFIN2.out⟩
  | true =>
  have HSMT := Lib.hid hsm
  clear hsm
  by_cases h1 : 10 < M.arrays.length
  · have hd : decide ((10 : Int) < (M.arrays.length : Int)) = true := by simp; omega
    have HN : Hid (bigN p M n = 1) := bigN_t (by unfold bigP; rw [decide_eq_true h1]; simp)
    clear h1
    go_wp2_with fail
    go_ret
    exact ⟨by rw [HN.out]; rfl, HFIN2.out⟩
  have hd1 : decide ((10 : Int) < (M.arrays.length : Int)) = false := by simp; omega
  have H1 : Hid (decide (10 < M.arrays.length) = false) := decide_eq_false h1
  clear h1
  by_cases h2 : 40 < n
  · have hd : decide ((40 : Int) < (n : Int)) = true := by simp; omega
    have HN : Hid (bigN p M n = 1) := bigN_t (by unfold bigP; rw [decide_eq_true h2]; simp)
    clear h2
    go_wp2_with fail
    go_ret
    exact ⟨by rw [HN.out]; rfl, HFIN2.out⟩
  have hd2 : decide ((40 : Int) < (n : Int)) = false := by simp; omega
  have H2 : Hid (decide (40 < n) = false) := decide_eq_false h2
  clear h2
  go_wp2_with fail
  clear y0
  go_loopw [32] (fun i wr => ∃ j : Nat, j ≤ M.arrays.length ∧ i = .int .i64 j ∧ (M.arrays.take j).any (fun r => !smallP r) = false ∧ Below W2.heap.size W2 wr) (fun i _ => M.arrays.length - (intOf i).toNat)
  case atStart => exact ⟨0, Nat.zero_le _, rfl, rfl, HB2.out⟩
  case round =>
    obtain ⟨j, hj, rfl, hd, hB⟩ := hrel
    have HD := Lib.hid hd
    have HB := Lib.hid hB
    have hk0 : (0 : Int) ≤ (j : Int) := by omega
    clear hd hB
    by_cases hlt : j < M.arrays.length
    · have hlt2 : (j : Int) < (M.arrays.length : Int) := by omega
      obtain ⟨r, hr⟩ : ∃ r, M.arrays[j]? = some r := ⟨_, List.getElem?_eq_getElem hlt⟩
      obtain ⟨_, _, _, hm2, _⟩ := HK.out wr HB.out
      obtain ⟨b1, o1, rfl, ra, rc, hc1, _, hw1⟩ := hm2.1.row hr
      have hrf := hw1.fits
      have HS := Lib.hid (small_any r ra rc wr hw1)
      have HR := Lib.hid hr
      clear hr hm2 hw1
      go_wp2_with fail
      clear hc1
      refine HS.out.mono ?_
      rintro e w3 ⟨rfl, hB3⟩
      have HB3 := Lib.hid (mem_then HB.out hB3)
      clear HS hB3
      cases hs : smallP r with
      | true =>
        have HN : Hid ((M.arrays.take (j + 1)).any (fun r => !smallP r) = false) := by
          show _ = _
          rw [List.take_add_one, HR.out, List.any_append, HD.out]
          simp [hs]
        clear hs
        go_wp2_with fail
        go_roundw
        case rel => exact ⟨j + 1, by omega, by go_num, HN.out, HB3.out⟩
        case measure => simp [intOf]; omega
      | false =>
        have HN : Hid (bigN p M n = 1) := bigN_t (by
          unfold bigP
          rw [List.any_eq_true.2 ⟨r, List.mem_of_getElem? HR.out, by rw [hs]; rfl⟩]
          simp)
        clear hs
        go_wp2_with fail
        go_ret
        exact ⟨by rw [HN.out]; rfl, (HK.out _ HB3.out).2.2.2.2⟩
    · obtain rfl : j = M.arrays.length := by omega
      have HN : Hid (bigN p M n = 0) := bigN_f (by
        have h := HD.out
        rw [List.take_length] at h
        unfold bigP
        rw [HGR.out, HSMT.out, H1.out, H2.out, h]
        rfl)
      go_wp2_with fail
      go_ret
      exact ⟨by rw [HN.out]; rfl, (HK.out _ HB.out).2.2.2.2⟩
end Go.Proofs.YtgochgcchkdlmaaDoor
