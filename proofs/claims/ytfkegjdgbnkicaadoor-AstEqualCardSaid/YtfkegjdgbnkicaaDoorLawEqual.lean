/-
  The statement AstEqual, walked (package ontimelaw12), over the contract of awake.
-/
import Derived.Test.YtfkegjdgbnkicaaDoorLawKinds
import Derived.Test.YtfkegjdgbnkicaaDoorRefEqual
namespace Go.Proofs.YtfkegjdgbnkicaaDoor
open Go.RowKit
set_option maxRecDepth 100000

/-- the box of a node -/
abbrev nodeObj (t : Tree) (a : Option Addr) (c : Nat) : Obj := .cells #[.int .u8 t.kind, .int .i64 t.num, .string t.name, .slice a t.len c] 24
/-- three boxes, and what lies there since -/
abbrev wThree (w : World) (o1 o2 o3 : Obj) : World := ((w.alloc o1).alloc o2).alloc o3
theorem b3_of {w W : World} {o1 o2 o3 : Obj} (h : Below (w.heap.size + 1 + 1 + 1) (wThree w o1 o2 o3) W) : Below w.heap.size w W :=
  ((((Below.refl _ w).alloc (Nat.le_refl _) _).alloc (by simp) _).alloc (by simp; omega) _).trans (h.mono (by omega))
theorem b3_size {w W : World} {o1 o2 o3 : Obj} (h : Below (w.heap.size + 1 + 1 + 1) (wThree w o1 o2 o3) W) : w.heap.size + 1 + 1 + 1 ≤ W.heap.size := by have := h.size; simpa using this
theorem b3_trans {w W W' : World} {o1 o2 o3 : Obj} (h : Below (w.heap.size + 1 + 1 + 1) (wThree w o1 o2 o3) W) (h1 : Below W.heap.size W W') : Below (w.heap.size + 1 + 1 + 1) (wThree w o1 o2 o3) W' := h.trans (h1.mono (b3_size h))
theorem b3_drew {w W : World} {o1 o2 o3 : Obj} (h : Below (w.heap.size + 1 + 1 + 1) (wThree w o1 o2 o3) W) : Below (w.heap.size + 1 + 1 + 1) (wThree w o1 o2 o3) W.drew := h.drew
theorem b3_cells {w W : World} {x0 x1 x2 x3 y0 y1 y2 y3 z0 z1 z2 z3 : Value} {T : TypeId} (h : Below (w.heap.size + 1 + 1 + 1) (wThree w (.cells #[x0, x1, x2, x3] T) (.cells #[y0, y1, y2, y3] T) (.cells #[z0, z1, z2, z3] T)) W) :
    W.cell? ⟨w.heap.size, 0, none⟩ = some x0 ∧ W.cell? ⟨w.heap.size, 1, none⟩ = some x1 ∧ W.cell? ⟨w.heap.size, 2, none⟩ = some x2 ∧ W.cell? ⟨w.heap.size, 3, none⟩ = some x3 ∧
    W.cell? ⟨w.heap.size + 1, 0, none⟩ = some y0 ∧ W.cell? ⟨w.heap.size + 1, 1, none⟩ = some y1 ∧ W.cell? ⟨w.heap.size + 1, 2, none⟩ = some y2 ∧ W.cell? ⟨w.heap.size + 1, 3, none⟩ = some y3 ∧
    W.cell? ⟨w.heap.size + 1 + 1, 0, none⟩ = some z0 ∧ W.cell? ⟨w.heap.size + 1 + 1, 1, none⟩ = some z1 ∧ W.cell? ⟨w.heap.size + 1 + 1, 2, none⟩ = some z2 ∧ W.cell? ⟨w.heap.size + 1 + 1, 3, none⟩ = some z3 ∧
    Below (w.heap.size + 1 + 1 + 1) (wThree w (.cells #[x0, x1, x2, x3] T) (.cells #[y0, y1, y2, y3] T) (.cells #[z0, z1, z2, z3] T)) W := by
  have hx : ∀ i, W.cell? ⟨w.heap.size, i, none⟩ = (#[x0, x1, x2, x3] : Array Value)[i]? := fun i =>
    (h.cell (p := ⟨w.heap.size, i, none⟩) (by show w.heap.size < _; omega)).trans ((World.cell?_alloc_lt _ _ _ (by simp; omega)).trans ((World.cell?_alloc_lt _ _ _ (by simp)).trans (World.cell?_alloc_new w _ T i)))
  have hy : ∀ i, W.cell? ⟨w.heap.size + 1, i, none⟩ = (#[y0, y1, y2, y3] : Array Value)[i]? := fun i => by
    refine (h.cell (p := ⟨w.heap.size + 1, i, none⟩) (by show w.heap.size + 1 < _; omega)).trans ((World.cell?_alloc_lt _ _ _ (by simp)).trans ?_)
    have := World.cell?_alloc_new (w.alloc (.cells #[x0, x1, x2, x3] T)) #[y0, y1, y2, y3] T i
    rw [World.size_alloc] at this
    exact this
  have hz : ∀ i, W.cell? ⟨w.heap.size + 1 + 1, i, none⟩ = (#[z0, z1, z2, z3] : Array Value)[i]? := fun i => by
    refine (h.cell (p := ⟨w.heap.size + 1 + 1, i, none⟩) (by show w.heap.size + 1 + 1 < _; omega)).trans ?_
    have := World.cell?_alloc_new ((w.alloc (.cells #[x0, x1, x2, x3] T)).alloc (.cells #[y0, y1, y2, y3] T)) #[z0, z1, z2, z3] T i
    rw [World.size_alloc, World.size_alloc] at this
    exact this
  exact ⟨hx 0, hx 1, hx 2, hx 3, hy 0, hy 1, hy 2, hy 3, hz 0, hz 1, hz 2, hz 3, h⟩

set_option maxHeartbeats 4000000 in
theorem astEqual_of (HW : AwakeAt) (t u v : Tree) (w : World) (a b c : Option Addr) (ca cb cc : Nat) (ht : Rep w t a) (hu : Rep w u b) (hv : Rep w v c) (hg : SignsIn w) :
    Calls Tryd.prog 8 #[t.val a ca, u.val b cb, v.val c cc] w fun e w' => e = .returned (.bool true) ∧ Below w.heap.size w w' := by
  have HT := Lib.hid ht
  have HU := Lib.hid hu
  have HV := Lib.hid hv
  have HG := Lib.hid hg
  have HB0 : Hid (Below (w.heap.size + 1 + 1 + 1) (wThree w (nodeObj t a ca) (nodeObj u b cb) (nodeObj v c cc)) (wThree w (nodeObj t a ca) (nodeObj u b cb) (nodeObj v c cc))) := Below.refl _ _
  clear ht hu hv hg
  go_enter Tryd.func8, Tryd.ntmps8
  go_wp2_with fail
  refine (HW _ (HG.out.below (b3_of HB0.out))).mono ?_
  rintro e w1 ⟨rfl, hB1⟩
  have HB1 := Lib.hid (b3_trans HB0.out hB1)
  obtain ⟨x0, x1, x2, x3, y0, y1, y2, y3, z0, z1, z2, z3, _⟩ := b3_cells HB1.out
  clear hB1
  go_wp2_with fail
  by_cases hbig : t.big
  · refine (big_yes t _ a ca (HT.out.below (b3_of HB1.out)) hbig).mono ?_
    rintro e w2 ⟨rfl, hB2⟩
    have HB2 := Lib.hid (b3_trans HB1.out hB2)
    clear hB2 x0 x1 x2 x3 y0 y1 y2 y3 z0 z1 z2 z3
    go_wp2_with fail
    go_ret
    exact ⟨rfl, b3_of HB2.out⟩
  refine (big_no t _ a ca (HT.out.below (b3_of HB1.out)) hbig).mono ?_
  rintro e w2 ⟨rfl, hB2⟩
  have HB2 := Lib.hid (b3_trans HB1.out hB2)
  clear hB2 x0 x1 x2 x3 y0 y1 y2 y3 z0 z1 z2 z3 hbig
  obtain ⟨x0, x1, x2, x3, y0, y1, y2, y3, z0, z1, z2, z3, _⟩ := b3_cells HB2.out
  go_wp2_with fail
  by_cases hbig : u.big
  · refine (big_yes u _ b cb (HU.out.below (b3_of HB2.out)) hbig).mono ?_
    rintro e w3 ⟨rfl, hB3⟩
    have HB3 := Lib.hid (b3_trans HB2.out hB3)
    clear hB3 x0 x1 x2 x3 y0 y1 y2 y3 z0 z1 z2 z3
    go_wp2_with fail
    go_ret
    exact ⟨rfl, b3_of HB3.out⟩
  refine (big_no u _ b cb (HU.out.below (b3_of HB2.out)) hbig).mono ?_
  rintro e w3 ⟨rfl, hB3⟩
  have HB3 := Lib.hid (b3_trans HB2.out hB3)
  clear hB3 x0 x1 x2 x3 y0 y1 y2 y3 z0 z1 z2 z3 hbig
  obtain ⟨x0, x1, x2, x3, y0, y1, y2, y3, z0, z1, z2, z3, _⟩ := b3_cells HB3.out
  go_wp2_with fail
  by_cases hbig : v.big
  · refine (big_yes v _ c cc (HV.out.below (b3_of HB3.out)) hbig).mono ?_
    rintro e w4 ⟨rfl, hB4⟩
    have HB4 := Lib.hid (b3_trans HB3.out hB4)
    clear hB4 x0 x1 x2 x3 y0 y1 y2 y3 z0 z1 z2 z3
    go_wp2_with fail
    go_ret
    exact ⟨rfl, b3_of HB4.out⟩
  refine (big_no v _ c cc (HV.out.below (b3_of HB3.out)) hbig).mono ?_
  rintro e w4 ⟨rfl, hB4⟩
  have HB4 := Lib.hid (b3_trans HB3.out hB4)
  clear hB4 x0 x1 x2 x3 y0 y1 y2 y3 z0 z1 z2 z3 hbig
  obtain ⟨x0, x1, x2, x3, y0, y1, y2, y3, z0, z1, z2, z3, _⟩ := b3_cells HB4.out
  go_wp2_with fail
  -- Equal(a, b) && Equal(b, c) && !Equal(a, c)
  refine (equal_any t u _ a b ca cb (HT.out.below (b3_of HB4.out)) (HU.out.below (b3_of HB4.out))).mono ?_
  rintro e w5 ⟨rfl, hB5⟩
  have HB5 := Lib.hid (b3_trans HB4.out hB5)
  clear hB5 x0 x1 x2 x3 y0 y1 y2 y3 z0 z1 z2 z3
  obtain ⟨x0, x1, x2, x3, y0, y1, y2, y3, z0, z1, z2, z3, _⟩ := b3_cells HB5.out
  have haa := eqT_self t
  cases hab : eqT t u with
  | false =>
    have hba : eqT u t = false := (eqT_comm u t).trans hab
    go_wp2_with fail
    go_region_held3 (fun w' => w'.cell? ⟨w.heap.size, 0, none⟩ = some (.int .u8 t.kind) ∧ w'.cell? ⟨w.heap.size, 1, none⟩ = some (.int .i64 t.num) ∧ w'.cell? ⟨w.heap.size, 2, none⟩ = some (.string t.name) ∧ w'.cell? ⟨w.heap.size, 3, none⟩ = some (.slice a t.len ca) ∧ w'.cell? ⟨w.heap.size + 1, 0, none⟩ = some (.int .u8 u.kind) ∧ w'.cell? ⟨w.heap.size + 1, 1, none⟩ = some (.int .i64 u.num) ∧ w'.cell? ⟨w.heap.size + 1, 2, none⟩ = some (.string u.name) ∧ w'.cell? ⟨w.heap.size + 1, 3, none⟩ = some (.slice b u.len cb) ∧ w'.cell? ⟨w.heap.size + 1 + 1, 0, none⟩ = some (.int .u8 v.kind) ∧ w'.cell? ⟨w.heap.size + 1 + 1, 1, none⟩ = some (.int .i64 v.num) ∧ w'.cell? ⟨w.heap.size + 1 + 1, 2, none⟩ = some (.string v.name) ∧ w'.cell? ⟨w.heap.size + 1 + 1, 3, none⟩ = some (.slice c v.len cc) ∧ Below (w.heap.size + 1 + 1 + 1) (wThree w (nodeObj t a ca) (nodeObj u b cb) (nodeObj v c cc)) w')
      (first | (go_split_ands; exact b3_cells (b3_trans (by assumption) hB9)) | (go_split_ands; exact b3_cells (b3_drew (by assumption))) | (go_split_ands; exact b3_cells (by assumption)))
      (first
        | (go_at_call 32; go_split_ands; refine (equal_any _ _ _ _ _ _ _ (by first | exact HT.out.below (b3_of (by assumption)) | exact HU.out.below (b3_of (by assumption))) (by first | exact HT.out.below (b3_of (by assumption)) | exact HU.out.below (b3_of (by assumption)))).mono ?_; rintro e w9 ⟨rfl, hB9⟩)
        | (go_at_call 29; go_split_ands; refine (refEqual_any _ _ _ _ _ _ _ (by first | exact HT.out.below (b3_of (by assumption)) | exact HU.out.below (b3_of (by assumption))) (by first | exact HT.out.below (b3_of (by assumption)) | exact HU.out.below (b3_of (by assumption)))).mono ?_; rintro e w9 ⟨rfl, hB9⟩))
    go_split_ands
    go_wp2_with fail
    go_ret
    exact ⟨rfl, b3_of (by assumption)⟩
  | true =>
    have hba : eqT u t = true := (eqT_comm u t).trans hab
    go_wp2_with fail
    refine (equal_any u v _ b c cb cc (HU.out.below (b3_of HB5.out)) (HV.out.below (b3_of HB5.out))).mono ?_
    rintro e w6 ⟨rfl, hB6⟩
    have HB6 := Lib.hid (b3_trans HB5.out hB6)
    clear hB6 x0 x1 x2 x3 y0 y1 y2 y3 z0 z1 z2 z3
    obtain ⟨x0, x1, x2, x3, y0, y1, y2, y3, z0, z1, z2, z3, _⟩ := b3_cells HB6.out
    cases hbc : eqT u v with
    | false =>
      go_wp2_with fail
      go_region_held3 (fun w' => w'.cell? ⟨w.heap.size, 0, none⟩ = some (.int .u8 t.kind) ∧ w'.cell? ⟨w.heap.size, 1, none⟩ = some (.int .i64 t.num) ∧ w'.cell? ⟨w.heap.size, 2, none⟩ = some (.string t.name) ∧ w'.cell? ⟨w.heap.size, 3, none⟩ = some (.slice a t.len ca) ∧ w'.cell? ⟨w.heap.size + 1, 0, none⟩ = some (.int .u8 u.kind) ∧ w'.cell? ⟨w.heap.size + 1, 1, none⟩ = some (.int .i64 u.num) ∧ w'.cell? ⟨w.heap.size + 1, 2, none⟩ = some (.string u.name) ∧ w'.cell? ⟨w.heap.size + 1, 3, none⟩ = some (.slice b u.len cb) ∧ w'.cell? ⟨w.heap.size + 1 + 1, 0, none⟩ = some (.int .u8 v.kind) ∧ w'.cell? ⟨w.heap.size + 1 + 1, 1, none⟩ = some (.int .i64 v.num) ∧ w'.cell? ⟨w.heap.size + 1 + 1, 2, none⟩ = some (.string v.name) ∧ w'.cell? ⟨w.heap.size + 1 + 1, 3, none⟩ = some (.slice c v.len cc) ∧ Below (w.heap.size + 1 + 1 + 1) (wThree w (nodeObj t a ca) (nodeObj u b cb) (nodeObj v c cc)) w')
        (first | (go_split_ands; exact b3_cells (b3_trans (by assumption) hB9)) | (go_split_ands; exact b3_cells (b3_drew (by assumption))) | (go_split_ands; exact b3_cells (by assumption)))
        (first
          | (go_at_call 32; go_split_ands; refine (equal_any _ _ _ _ _ _ _ (by first | exact HT.out.below (b3_of (by assumption)) | exact HU.out.below (b3_of (by assumption))) (by first | exact HT.out.below (b3_of (by assumption)) | exact HU.out.below (b3_of (by assumption)))).mono ?_; rintro e w9 ⟨rfl, hB9⟩)
          | (go_at_call 29; go_split_ands; refine (refEqual_any _ _ _ _ _ _ _ (by first | exact HT.out.below (b3_of (by assumption)) | exact HU.out.below (b3_of (by assumption))) (by first | exact HT.out.below (b3_of (by assumption)) | exact HU.out.below (b3_of (by assumption)))).mono ?_; rintro e w9 ⟨rfl, hB9⟩))
      go_split_ands
      go_wp2_with fail
      go_ret
      exact ⟨rfl, b3_of (by assumption)⟩
    | true =>
      have hac : eqT t v = true := eqT_true.2 ((eqT_true.1 hab).trans (eqT_true.1 hbc))
      go_wp2_with fail
      refine (equal_any t v _ a c ca cc (HT.out.below (b3_of HB6.out)) (HV.out.below (b3_of HB6.out))).mono ?_
      rintro e w7 ⟨rfl, hB7⟩
      have HB7 := Lib.hid (b3_trans HB6.out hB7)
      clear hB7 x0 x1 x2 x3 y0 y1 y2 y3 z0 z1 z2 z3
      obtain ⟨x0, x1, x2, x3, y0, y1, y2, y3, z0, z1, z2, z3, _⟩ := b3_cells HB7.out
      go_wp2_with fail
      go_region_held3 (fun w' => w'.cell? ⟨w.heap.size, 0, none⟩ = some (.int .u8 t.kind) ∧ w'.cell? ⟨w.heap.size, 1, none⟩ = some (.int .i64 t.num) ∧ w'.cell? ⟨w.heap.size, 2, none⟩ = some (.string t.name) ∧ w'.cell? ⟨w.heap.size, 3, none⟩ = some (.slice a t.len ca) ∧ w'.cell? ⟨w.heap.size + 1, 0, none⟩ = some (.int .u8 u.kind) ∧ w'.cell? ⟨w.heap.size + 1, 1, none⟩ = some (.int .i64 u.num) ∧ w'.cell? ⟨w.heap.size + 1, 2, none⟩ = some (.string u.name) ∧ w'.cell? ⟨w.heap.size + 1, 3, none⟩ = some (.slice b u.len cb) ∧ w'.cell? ⟨w.heap.size + 1 + 1, 0, none⟩ = some (.int .u8 v.kind) ∧ w'.cell? ⟨w.heap.size + 1 + 1, 1, none⟩ = some (.int .i64 v.num) ∧ w'.cell? ⟨w.heap.size + 1 + 1, 2, none⟩ = some (.string v.name) ∧ w'.cell? ⟨w.heap.size + 1 + 1, 3, none⟩ = some (.slice c v.len cc) ∧ Below (w.heap.size + 1 + 1 + 1) (wThree w (nodeObj t a ca) (nodeObj u b cb) (nodeObj v c cc)) w')
        (first | (go_split_ands; exact b3_cells (b3_trans (by assumption) hB9)) | (go_split_ands; exact b3_cells (b3_drew (by assumption))) | (go_split_ands; exact b3_cells (by assumption)))
        (first
          | (go_at_call 32; go_split_ands; refine (equal_any _ _ _ _ _ _ _ (by first | exact HT.out.below (b3_of (by assumption)) | exact HU.out.below (b3_of (by assumption))) (by first | exact HT.out.below (b3_of (by assumption)) | exact HU.out.below (b3_of (by assumption)))).mono ?_; rintro e w9 ⟨rfl, hB9⟩)
          | (go_at_call 29; go_split_ands; refine (refEqual_any _ _ _ _ _ _ _ (by first | exact HT.out.below (b3_of (by assumption)) | exact HU.out.below (b3_of (by assumption))) (by first | exact HT.out.below (b3_of (by assumption)) | exact HU.out.below (b3_of (by assumption)))).mono ?_; rintro e w9 ⟨rfl, hB9⟩))
      go_split_ands
      go_wp2_with fail
      go_ret
      exact ⟨rfl, b3_of (by assumption)⟩
end Go.Proofs.YtfkegjdgbnkicaaDoor
