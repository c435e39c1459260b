/-
  Contracts: run, behaves (package ontimelaw19): two functions whose runs are alike behave the same.
-/
import Derived.Test.YteknhnnlhhgppaaDoorMg14
import Derived.Test.YteknhnnlhhgppaaDoorIrRunC
import Derived.Test.YteknhnnlhhgppaaDoorMergeV
import Derived.Test.YteknhnnlhhgppaaDoorMg16
import Derived.Deep.RegionHeld
import Derived.Deep.RegionHeld3
import Derived.Deep.DeepCutAuto
namespace Go.Proofs.YteknhnnlhhgppaaDoor
set_option linter.unusedVariables false
set_option linter.unusedSimpArgs false
open Go.RowKit
set_option maxRecDepth 100000
set_option maxHeartbeats 16000000

/-! ### a result in memory -/
abbrev ocObj (va vo vu : Value) (rd st err : Int) : Obj := .cells #[va, vo, vu, .int .i64 rd, .int .i64 st, .int .i64 err] 111
abbrev zOc : Obj := ocObj (.slice none 0 0) (.slice none 0 0) (.slice none 0 0) 0 0 0
abbrev Oc.obj (R : Oc) (aa : Option Addr) (ac : Nat) (sa : Option Addr) (sc : Nat) (oa : Option Addr) (oc : Nat) : Obj := ocObj (.slice aa R.arrays.length ac) (.slice sa R.objects.length sc) (.slice oa R.out.length oc) R.read R.steps R.err
abbrev Oc.val (R : Oc) (aa : Option Addr) (ac : Nat) (sa : Option Addr) (sc : Nat) (oa : Option Addr) (oc : Nat) : Value := .agg #[.slice aa R.arrays.length ac, .slice sa R.objects.length sc, .slice oa R.out.length oc, .int .i64 (R.read : Int), .int .i64 (R.steps : Int), .int .i64 R.err]
def OcIn (w : World) (R : Oc) (aa sa oa : Option Addr) : Prop := ContAt w aa R.arrays ∧ ContAt w sa R.objects ∧ OutsAt w oa R.out
def OcTy (w : World) (R : Oc) (aa sa : Option Addr) : Prop := OcRowTy w aa R.arrays.length ∧ OcRowTy w sa R.objects.length
def RunQ (R : Oc) (w : World) (e : Ending) (w' : World) : Prop := ∃ aa ac sa sc oa oc, e = .returned (R.val aa ac sa sc oa oc) ∧ OcIn w' R aa sa oa ∧ Below w.heap.size w w' ∧ R.out.length ≤ oc ∧ OcTy w' R aa sa
theorem OcIn.below {w w' : World} {R : Oc} {aa sa oa : Option Addr} (h : OcIn w R aa sa oa) (hb : Below w.heap.size w w') : OcIn w' R aa sa oa := ⟨h.1.below hb, h.2.1.below hb, h.2.2.below hb⟩
theorem OcRowTy.below {w w' : World} {a : Option Addr} {n : Nat} (h : OcRowTy w a n) (hb : Below w.heap.size w w') : OcRowTy w' a n := h.imp id (fun ⟨b, off, arr, ha, hc⟩ => ⟨b, off, arr, ha, mem_keep hc hb⟩)
theorem OcTy.below {w w' : World} {R : Oc} {aa sa : Option Addr} (h : OcTy w R aa sa) (hb : Below w.heap.size w w') : OcTy w' R aa sa := ⟨h.1.below hb, h.2.below hb⟩
theorem oc_cells {w : World} {b : Nat} {x0 x1 x2 x3 x4 x5 : Value} {T : TypeId} (h : w.heap[b]? = some (.cells #[x0, x1, x2, x3, x4, x5] T)) :
    w.cell? ⟨b, 0, none⟩ = some x0 ∧ w.cell? ⟨b, 1, none⟩ = some x1 ∧ w.cell? ⟨b, 2, none⟩ = some x2 ∧ w.cell? ⟨b, 3, none⟩ = some x3 ∧ w.cell? ⟨b, 4, none⟩ = some x4 ∧ w.cell? ⟨b, 5, none⟩ = some x5 :=
  ⟨mem_cell h 0, mem_cell h 1, mem_cell h 2, mem_cell h 3, mem_cell h 4, mem_cell h 5⟩
/-- six stores into a result's box -/
def put6 (w : World) (b : Nat) (x0 x1 x2 x3 x4 x5 : Value) : World :=
  (((((w.setCell ⟨b, 0, none⟩ x0).setCell ⟨b, 1, none⟩ x1).setCell ⟨b, 2, none⟩ x2).setCell ⟨b, 3, none⟩ x3).setCell ⟨b, 4, none⟩ x4).setCell ⟨b, 5, none⟩ x5
theorem put6_at {w : World} {b : Nat} {y0 y1 y2 y3 y4 y5 x0 x1 x2 x3 x4 x5 : Value} {T : TypeId} (h : w.heap[b]? = some (.cells #[y0, y1, y2, y3, y4, y5] T)) : (put6 w b x0 x1 x2 x3 x4 x5).heap[b]? = some (.cells #[x0, x1, x2, x3, x4, x5] T) := by
  unfold put6
  rw [mem_set (mem_set (mem_set (mem_set (mem_set (mem_set h)))))]
  rfl
theorem put6_far {w : World} {b k : Nat} {x0 x1 x2 x3 x4 x5 : Value} (h : k ≠ b) : (put6 w b x0 x1 x2 x3 x4 x5).heap[k]? = w.heap[k]? := by
  unfold put6
  rw [Below.heap_setCell _ _ _ _ h, Below.heap_setCell _ _ _ _ h, Below.heap_setCell _ _ _ _ h, Below.heap_setCell _ _ _ _ h, Below.heap_setCell _ _ _ _ h, Below.heap_setCell _ _ _ _ h]
theorem put6_below {B : Nat} {a w : World} {b : Nat} {x0 x1 x2 x3 x4 x5 : Value} (h : Below B a w) (hb : B ≤ b) : Below B a (put6 w b x0 x1 x2 x3 x4 x5) :=
  (((((h.setCell (p := ⟨b, 0, none⟩) hb _).setCell (p := ⟨b, 1, none⟩) hb _).setCell (p := ⟨b, 2, none⟩) hb _).setCell (p := ⟨b, 3, none⟩) hb _).setCell (p := ⟨b, 4, none⟩) hb _).setCell (p := ⟨b, 5, none⟩) hb _
/-- a box of zeros holds no word -/
theorem zOc_word {w : World} {b o : Nat} {x : Int} (h : w.heap[b]? = some zOc) : w.cell? ⟨b, o, none⟩ ≠ some (.int .i32 x) := by
  rw [mem_cell h]
  match o with
  | 0 => intro h; cases h
  | 1 => intro h; cases h
  | 2 => intro h; cases h
  | 3 => intro h; cases h
  | 4 => intro h; cases h
  | 5 => intro h; cases h
  | o + 6 => intro h; cases h
theorem WordsAt.stored {U E : World} {b : Nat} {a : Option Addr} {l : List Int} (hz : U.heap[b]? = some zOc) (h : ∀ k, k ≠ b → E.heap[k]? = U.heap[k]?) (hw : WordsAt U a l) : WordsAt E a l := by
  refine ⟨hw.fits, hw.words, ?_⟩
  rcases hw.at_ with h0 | ⟨b', off, ha, hk⟩
  · exact .inl h0
  · refine .inr ⟨b', off, ha, fun k x hx => ?_⟩
    have h1 := hk k x hx
    by_cases e : b' = b
    · subst e; exact absurd h1 (zOc_word hz)
    · exact (World.cell?_of_block (a := ⟨b', off + k, none⟩) (h b' e)).trans h1
theorem OutsAt.stored {U E : World} {b : Nat} {a : Option Addr} {l : List (Int × Int)} (hz : U.heap[b]? = some zOc) (h : ∀ k, k ≠ b → E.heap[k]? = U.heap[k]?) (hw : OutsAt U a l) : OutsAt E a l := by
  refine ⟨hw.fits, ?_⟩
  rcases hw.at_ with h0 | ⟨b', off, ha, hk⟩
  · exact .inl h0
  · refine .inr ⟨b', off, ha, fun k x hx => ?_⟩
    obtain ⟨h1, h2⟩ := hk k x hx
    by_cases e : b' = b
    · subst e; exact absurd h2 (zOc_word hz)
    · exact ⟨(World.cell?_of_block (a := ⟨b', off + k * 2, none⟩) (h b' e)).trans h1, (World.cell?_of_block (a := ⟨b', off + k * 2 + 1, none⟩) (h b' e)).trans h2⟩
theorem ContAt.stored {U E : World} {b : Nat} {a : Option Addr} {l : List (List Int)} (hz : U.heap[b]? = some zOc) (h : ∀ k, k ≠ b → E.heap[k]? = U.heap[k]?) (hw : ContAt U a l) (ht : OcRowTy U a l.length) : ContAt E a l ∧ OcRowTy E a l.length := by
  rcases ht with h0 | ⟨b', off, arr, ha, hc⟩
  · exact ⟨⟨hw.fits, .inl h0⟩, .inl h0⟩
  · have hne : b' ≠ b := by
      rintro rfl
      rw [hz] at hc
      injection hc with hc
      injection hc with _ hc
      exact absurd hc (by decide)
    refine ⟨⟨hw.fits, ?_⟩, .inr ⟨b', off, arr, ha, (h b' hne).trans hc⟩⟩
    rcases hw.at_ with h0 | ⟨b2, off2, ha2, hk⟩
    · exact .inl h0
    · rw [ha] at ha2
      cases ha2
      refine .inr ⟨b', off, ha, fun k r hr => ?_⟩
      obtain ⟨ra, rc, h1, h2, h3⟩ := hk k r hr
      exact ⟨ra, rc, (World.cell?_of_block (a := ⟨b', off + k, none⟩) (h b' hne)).trans h1, h2, h3.stored hz h⟩
theorem OcIn.stored {U E : World} {b : Nat} {R : Oc} {aa sa oa : Option Addr} (hz : U.heap[b]? = some zOc) (h : ∀ k, k ≠ b → E.heap[k]? = U.heap[k]?) (hr : OcIn U R aa sa oa) (ht : OcTy U R aa sa) : OcIn E R aa sa oa ∧ OcTy E R aa sa := by
  obtain ⟨a1, a2⟩ := hr.1.stored hz h ht.1
  obtain ⟨b1, b2⟩ := hr.2.1.stored hz h ht.2
  exact ⟨⟨a1, b1, hr.2.2.stored hz h⟩, a2, b2⟩
/-! ### a call's other arguments -/
structure CallAt (w : World) (shared : List (ByteArray × Int)) (arrays objects : List (List Int)) (inp : List Int) (sa ara oba ia : Option Addr) : Prop where
  sh : ArrsAt w sa shared
  ar : ContAt w ara arrays
  ob : ContAt w oba objects
  inp : WordsAt w ia inp
theorem CallAt.below {w w' : World} {shared : List (ByteArray × Int)} {arrays objects : List (List Int)} {inp : List Int} {sa ara oba ia : Option Addr} (h : CallAt w shared arrays objects inp sa ara oba ia) (hb : Below w.heap.size w w') : CallAt w' shared arrays objects inp sa ara oba ia :=
  ⟨h.sh.below hb, h.ar.below hb, h.ob.below hb, h.inp.below hb⟩
/-- what a memory can hold -/
structure CallSz (shared : List (ByteArray × Int)) (arrays objects : List (List Int)) : Prop where
  sh : shared.length * 24 ≤ 140737488351232
  ar : ∀ r ∈ arrays, r.length * 4 ≤ 140737488351232
  ob : ∀ r ∈ objects, r.length * 4 ≤ 140737488351232
abbrev callV (f : Fn) (aa : Option Addr) (ac : Nat) (ba : Option Addr) (bc : Nat) (shared : List (ByteArray × Int)) (arrays objects : List (List Int)) (inp : List Int) (sa : Option Addr) (sc : Nat) (ara : Option Addr) (arc : Nat) (oba : Option Addr) (obc : Nat) (ia : Option Addr) (ic : Nat) : Value :=
  .agg #[.string f.name, .int .i64 f.regs, .slice aa f.arrays.length ac, .slice ba f.blocks.length bc, .slice sa shared.length sc, .slice ara arrays.length arc, .slice oba objects.length obc, .slice ia inp.length ic]
theorem run19_any (cf f : Fn) (shared : List (ByteArray × Int)) (arrays objects : List (List Int)) (inp : List Int) (ca cb aa ba sa ara oba ia : Option Addr) (cac cbc ac bc sc arc obc ic : Nat) (w : World) (hf : FnAt w f aa ba) (hc : CallAt w shared arrays objects inp sa ara oba ia) (hz : CallSz shared arrays objects) :
    Calls Tryd.prog 60 #[callV cf ca cac cb cbc shared arrays objects inp sa sc ara arc oba obc ia ic, .agg #[.string f.name, .int .i64 f.regs, .slice aa f.arrays.length ac, .slice ba f.blocks.length bc]] w (RunQ (runOf f shared arrays objects inp 600) w) := by
  have HF := Lib.hid hf
  have HC := Lib.hid hc
  have HZ := Lib.hid hz
  clear hf hc hz
  obtain ⟨W, hW⟩ : ∃ W : World, ((w.alloc (.cells #[.string cf.name, .int .i64 cf.regs, .slice ca cf.arrays.length cac, .slice cb cf.blocks.length cbc, .slice sa shared.length sc, .slice ara arrays.length arc, .slice oba objects.length obc, .slice ia inp.length ic] 68)).alloc (.cells #[.string f.name, .int .i64 f.regs, .slice aa f.arrays.length ac, .slice ba f.blocks.length bc] 25)).alloc zOc = W := ⟨_, rfl⟩
  obtain ⟨h0, h1, h2, hB⟩ := mem_three w (.cells #[.string cf.name, .int .i64 cf.regs, .slice ca cf.arrays.length cac, .slice cb cf.blocks.length cbc, .slice sa shared.length sc, .slice ara arrays.length arc, .slice oba objects.length obc, .slice ia inp.length ic] 68) (.cells #[.string f.name, .int .i64 f.regs, .slice aa f.arrays.length ac, .slice ba f.blocks.length bc] 25) zOc
  rw [hW] at h0 h1 h2 hB
  have H2 := Lib.hid h2
  have HB := Lib.hid hB
  have x4 : W.cell? ⟨w.heap.size, 4, none⟩ = some (.slice sa shared.length sc) := mem_cell h0 4
  have x5 : W.cell? ⟨w.heap.size, 5, none⟩ = some (.slice ara arrays.length arc) := mem_cell h0 5
  have x6 : W.cell? ⟨w.heap.size, 6, none⟩ = some (.slice oba objects.length obc) := mem_cell h0 6
  have x7 : W.cell? ⟨w.heap.size, 7, none⟩ = some (.slice ia inp.length ic) := mem_cell h0 7
  have y0 : W.cell? ⟨w.heap.size + 1, 0, none⟩ = some (.string f.name) := mem_cell h1 0
  have y1 : W.cell? ⟨w.heap.size + 1, 1, none⟩ = some (.int .i64 f.regs) := mem_cell h1 1
  have y2 : W.cell? ⟨w.heap.size + 1, 2, none⟩ = some (.slice aa f.arrays.length ac) := mem_cell h1 2
  have y3 : W.cell? ⟨w.heap.size + 1, 3, none⟩ = some (.slice ba f.blocks.length bc) := mem_cell h1 3
  clear h0 h1 h2 hB
  obtain ⟨R, hR⟩ : ∃ R, runOf f shared arrays objects inp 600 = R := ⟨_, rfl⟩
  rw [hR]
  have HR := Lib.hid hR
  clear hR
  unfold callV
  unfold zOc ocObj at hW
  go_enter Tryd.func60, Tryd.ntmps60
  go_wp2_with fail
  clear hW x4 x5 x6 x7 y0 y1 y2 y3
  refine (run_wide f shared arrays objects inp 600 aa ba sa ara oba ia ac bc sc arc obc ic W (HF.out.below HB.out) (HC.out.sh.below HB.out) HZ.out.sh (HC.out.ar.below HB.out) (HC.out.ob.below HB.out) HZ.out.ar HZ.out.ob (HC.out.inp.below HB.out) (by decide)).mono ?_
  rintro e w1 ⟨v, rfl, hoc, hB1⟩
  rw [HR.out] at hoc
  obtain ⟨va, vo, vu, vac, voc, vuc, rfl, h1, h2⟩ := hoc
  have HIN : Hid (OcIn w1 R va vo vu) := ⟨h1.1, h1.2.1, h1.2.2.1⟩
  have HTY : Hid (OcTy w1 R va vo) := h2
  have HCAP := Lib.hid h1.2.2.2.1
  have HX : Hid (w1.heap[w.heap.size + 1 + 1]? = some zOc) := mem_keep H2.out hB1
  have HB1 := Lib.hid (mem_then HB.out hB1)
  clear h1 h2 hB1
  obtain ⟨q0, q1, q2, q3, q4, q5⟩ := oc_cells HX.out
  have z0 := mem_free HX.out 0
  have z1 := mem_free HX.out 1
  have z2 := mem_free HX.out 2
  have z3 := mem_free HX.out 3
  have z4 := mem_free HX.out 4
  have z5 := mem_free HX.out 5
  obtain ⟨U, hU⟩ : ∃ U : World, put6 w1 (w.heap.size + 1 + 1) (.slice va R.arrays.length vac) (.slice vo R.objects.length voc) (.slice vu R.out.length vuc) (.int .i64 (R.read : Int)) (.int .i64 (R.steps : Int)) (.int .i64 R.err) = U := ⟨_, rfl⟩
  have HFAR : Hid (∀ k, k ≠ w.heap.size + 1 + 1 → U.heap[k]? = w1.heap[k]?) := fun k hk => by rw [← hU]; exact put6_far hk
  have HU : Hid (U.heap[w.heap.size + 1 + 1]? = some (Oc.obj R va vac vo voc vu vuc)) := by show _ = _; rw [← hU]; exact put6_at HX.out
  have HBU : Hid (Below w.heap.size w U) := by show Below _ _ _; rw [← hU]; exact put6_below HB1.out (by omega)
  have HIU := Lib.hid (OcIn.stored HX.out HFAR.out HIN.out HTY.out)
  unfold put6 at hU
  go_wp2_with fail
  clear hU q0 q1 q2 q3 q4 q5 z0 z1 z2 z3 z4 z5
  obtain ⟨p0, p1, p2, p3, p4, p5⟩ := oc_cells HU.out
  exact bodyPost_ret (v := R.val va vac vo voc vu vuc) (by simp [results, Tryd.results60, go_sem, p0, p1, p2, p3, p4, p5]) rfl ⟨va, vac, vo, voc, vu, vuc, rfl, HIU.out.1, HBU.out, HCAP.out, HIU.out.2⟩
theorem behaves_any (f g : Fn) (shared : List (ByteArray × Int)) (arrays objects : List (List Int)) (inp : List Int) (aa ba ga gb sa ara oba ia : Option Addr) (ac bc gac gbc sc arc obc ic : Nat) (w : World) (hf : FnAt w f aa ba) (hg : FnAt w g ga gb) (hc : CallAt w shared arrays objects inp sa ara oba ia) (hz : CallSz shared arrays objects)
    (hrs : (runOf f shared arrays objects inp 600).err = 3 ∨ (runOf g shared arrays objects inp 600).err = 13 ∨ Oc.like (runOf f shared arrays objects inp 600) (runOf g shared arrays objects inp 600)) :
    Calls Tryd.prog 34 #[callV f aa ac ba bc shared arrays objects inp sa sc ara arc oba obc ia ic, .agg #[.string f.name, .int .i64 f.regs, .slice aa f.arrays.length ac, .slice ba f.blocks.length bc], .agg #[.string g.name, .int .i64 g.regs, .slice ga g.arrays.length gac, .slice gb g.blocks.length gbc]] w
      fun e w' => e = .returned (.bool true) ∧ Below w.heap.size w w' := by
  have HF := Lib.hid hf
  have HG := Lib.hid hg
  have HC := Lib.hid hc
  have HZ := Lib.hid hz
  clear hf hg hc hz
  obtain ⟨E0, hE0⟩ : ∃ W : World, ((w.alloc (.cells #[.string f.name, .int .i64 f.regs, .slice aa f.arrays.length ac, .slice ba f.blocks.length bc, .slice sa shared.length sc, .slice ara arrays.length arc, .slice oba objects.length obc, .slice ia inp.length ic] 68)).alloc (.cells #[.string f.name, .int .i64 f.regs, .slice aa f.arrays.length ac, .slice ba f.blocks.length bc] 25)).alloc (.cells #[.string g.name, .int .i64 g.regs, .slice ga g.arrays.length gac, .slice gb g.blocks.length gbc] 25) = W := ⟨_, rfl⟩
  obtain ⟨h0, h1, h2, hB⟩ := mem_three w (.cells #[.string f.name, .int .i64 f.regs, .slice aa f.arrays.length ac, .slice ba f.blocks.length bc, .slice sa shared.length sc, .slice ara arrays.length arc, .slice oba objects.length obc, .slice ia inp.length ic] 68) (.cells #[.string f.name, .int .i64 f.regs, .slice aa f.arrays.length ac, .slice ba f.blocks.length bc] 25) (.cells #[.string g.name, .int .i64 g.regs, .slice ga g.arrays.length gac, .slice gb g.blocks.length gbc] 25)
  rw [hE0] at h0 h1 h2 hB
  have HB := Lib.hid hB
  have KC : Hid (∀ w', Below E0.heap.size E0 w' → w'.cell? ⟨w.heap.size, 0, none⟩ = some (.string f.name) ∧ w'.cell? ⟨w.heap.size, 1, none⟩ = some (.int .i64 f.regs) ∧ w'.cell? ⟨w.heap.size, 2, none⟩ = some (.slice aa f.arrays.length ac) ∧ w'.cell? ⟨w.heap.size, 3, none⟩ = some (.slice ba f.blocks.length bc) ∧
      w'.cell? ⟨w.heap.size, 4, none⟩ = some (.slice sa shared.length sc) ∧ w'.cell? ⟨w.heap.size, 5, none⟩ = some (.slice ara arrays.length arc) ∧ w'.cell? ⟨w.heap.size, 6, none⟩ = some (.slice oba objects.length obc) ∧ w'.cell? ⟨w.heap.size, 7, none⟩ = some (.slice ia inp.length ic)) := fun w' h => by
    have h9 := mem_keep h0 h
    exact ⟨mem_cell h9 0, mem_cell h9 1, mem_cell h9 2, mem_cell h9 3, mem_cell h9 4, mem_cell h9 5, mem_cell h9 6, mem_cell h9 7⟩
  have KF : Hid (∀ w', Below E0.heap.size E0 w' → w'.cell? ⟨w.heap.size + 1, 0, none⟩ = some (.string f.name) ∧ w'.cell? ⟨w.heap.size + 1, 1, none⟩ = some (.int .i64 f.regs) ∧ w'.cell? ⟨w.heap.size + 1, 2, none⟩ = some (.slice aa f.arrays.length ac) ∧ w'.cell? ⟨w.heap.size + 1, 3, none⟩ = some (.slice ba f.blocks.length bc)) := fun w' h => by
    have h9 := mem_keep h1 h
    exact ⟨mem_cell h9 0, mem_cell h9 1, mem_cell h9 2, mem_cell h9 3⟩
  have KG : Hid (∀ w', Below E0.heap.size E0 w' → w'.cell? ⟨w.heap.size + 1 + 1, 0, none⟩ = some (.string g.name) ∧ w'.cell? ⟨w.heap.size + 1 + 1, 1, none⟩ = some (.int .i64 g.regs) ∧ w'.cell? ⟨w.heap.size + 1 + 1, 2, none⟩ = some (.slice ga g.arrays.length gac) ∧ w'.cell? ⟨w.heap.size + 1 + 1, 3, none⟩ = some (.slice gb g.blocks.length gbc)) := fun w' h => by
    have h9 := mem_keep h2 h
    exact ⟨mem_cell h9 0, mem_cell h9 1, mem_cell h9 2, mem_cell h9 3⟩
  clear h0 h1 h2 hB
  have J1 : Hid (∀ w', Below E0.heap.size E0 w' → Calls Tryd.prog 60 #[callV f aa ac ba bc shared arrays objects inp sa sc ara arc oba obc ia ic, .agg #[.string f.name, .int .i64 f.regs, .slice aa f.arrays.length ac, .slice ba f.blocks.length bc]] w' (RunQ (runOf f shared arrays objects inp 600) w')) := fun w' hw =>
    run19_any f f shared arrays objects inp aa ba aa ba sa ara oba ia ac bc ac bc sc arc obc ic w' (HF.out.below (mem_then HB.out hw)) (HC.out.below (mem_then HB.out hw)) HZ.out
  have J2 : Hid (∀ w', Below E0.heap.size E0 w' → Calls Tryd.prog 60 #[callV f aa ac ba bc shared arrays objects inp sa sc ara arc oba obc ia ic, .agg #[.string g.name, .int .i64 g.regs, .slice ga g.arrays.length gac, .slice gb g.blocks.length gbc]] w' (RunQ (runOf g shared arrays objects inp 600) w')) := fun w' hw =>
    run19_any f g shared arrays objects inp aa ba ga gb sa ara oba ia ac bc gac gbc sc arc obc ic w' (HG.out.below (mem_then HB.out hw)) (HC.out.below (mem_then HB.out hw)) HZ.out
  obtain ⟨R, hR⟩ : ∃ R, runOf f shared arrays objects inp 600 = R := ⟨_, rfl⟩
  obtain ⟨S, hS⟩ : ∃ R, runOf g shared arrays objects inp 600 = R := ⟨_, rfl⟩
  rw [hR] at J1 hrs
  rw [hS] at J2 hrs
  have HRS := Lib.hid hrs
  clear hR hS hrs HF HG HC HZ
  show Calls _ _ #[.agg #[_, _, _, _, _, _, _, _], _, _] _ _
  go_enter Tryd.func34, Tryd.ntmps34
  go_upto_region 1 with fail
  clear hE0
  go_cut [7, 8] (fun s1 s2 w' => ∃ b1 b2 aa ac ra rc oa oc ba bc rb rd ob od, s1 = .pointer (some ⟨b1, 0, none⟩) ∧ s2 = .pointer (some ⟨b2, 0, none⟩) ∧ w'.heap[b1]? = some (Oc.obj R aa ac ra rc oa oc) ∧ w'.heap[b2]? = some (Oc.obj S ba bc rb rd ob od) ∧ OcIn w' R aa ra oa ∧ OcIn w' S ba rb ob ∧ Below E0.heap.size E0 w')
  case first =>
    have hD0 : Below E0.heap.size E0 (World.drew E0) := (Below.refl _ _).drew
    refine wp_region_held_drew (S := fun w' => Below E0.heap.size E0 w') (by kernel_rfl) hD0 (fun hHeld => ?_)
    generalize hwd : World.drew E0 = v1 at hHeld hD0 ⊢
    clear hwd hD0
    have HHV := Lib.hid hHeld
    refine wpAnyH_take (i := 0) (v := callV f aa ac ba bc shared arrays objects inp sa sc ara arc oba obc ia ic) rfl (by kernel_rfl) (by kernel_rfl) (by kernel_rfl) (fun _ _ _ h => h) (Or.inl ⟨by rfl, ?_⟩) (by assumption) ?_
    · intro w' hSw; obtain ⟨z0, z1, z2, z3, z4, z5, z6, z7⟩ := KC.out _ hSw; go_simp
    (try simp only [Act.put, List.getElem_toArray, List.getElem_cons_zero, List.setIfInBounds_toArray, List.set_cons_zero, List.set_cons_succ])
    refine wpAnyH_take (i := 1) (v := .agg #[.string f.name, .int .i64 f.regs, .slice aa f.arrays.length ac, .slice ba f.blocks.length bc]) rfl (by kernel_rfl) (by kernel_rfl) (by kernel_rfl) (fun _ _ _ h => h) (Or.inl ⟨by rfl, ?_⟩) (by assumption) ?_
    · intro w' hSw; obtain ⟨z0, z1, z2, z3⟩ := KF.out _ hSw; go_simp
    (try simp only [Act.put, List.getElem_toArray, List.getElem_cons_zero, List.getElem_cons_succ, List.setIfInBounds_toArray, List.set_cons_zero, List.set_cons_succ])
    refine wpAnyH_take (i := 3) (v := callV f aa ac ba bc shared arrays objects inp sa sc ara arc oba obc ia ic) rfl (by kernel_rfl) (by kernel_rfl) (by kernel_rfl) (fun _ _ _ h => h) (Or.inl ⟨by rfl, ?_⟩) (by assumption) ?_
    · intro w' hSw; obtain ⟨z0, z1, z2, z3, z4, z5, z6, z7⟩ := KC.out _ hSw; go_simp
    (try simp only [Act.put, List.getElem_toArray, List.getElem_cons_zero, List.getElem_cons_succ, List.setIfInBounds_toArray, List.set_cons_zero, List.set_cons_succ])
    refine wpAnyH_take (i := 4) (v := .agg #[.string g.name, .int .i64 g.regs, .slice ga g.arrays.length gac, .slice gb g.blocks.length gbc]) rfl (by kernel_rfl) (by kernel_rfl) (by kernel_rfl) (fun _ _ _ h => h) (Or.inl ⟨by rfl, ?_⟩) (by assumption) ?_
    · intro w' hSw; obtain ⟨z0, z1, z2, z3⟩ := KG.out _ hSw; go_simp
    (try simp only [Act.put, List.getElem_toArray, List.getElem_cons_zero, List.getElem_cons_succ, List.setIfInBounds_toArray, List.set_cons_zero, List.set_cons_succ])
    refine wpAnyH_ready (rs := [2, 6, 7]) (by kernel_rfl) (by simp) (AllReadyH.cons rfl (fun K hK => ?_) (AllReadyH.cons rfl (fun K hK => ?_) (AllReadyH.cons rfl (fun K hK => ?_) AllReadyH.nil)))
    · go_simp
      refine (J1.out v1 HHV.out).mono ?_
      rintro e w_1 ⟨aa, ac, ara, arc, aoa, aoc, rfl, hra, hB_1, _, hty⟩
      have HB_1 := Lib.hid (mem_then HHV.out hB_1)
      have HS4_1 := Lib.hid (And.intro hra hty)
      clear hra hty hB_1
      refine hK.out _ _ (HB_1.out) (fun hHeld => ?_)
      clear hK K
      rename_i hOld
      clear hOld
      (try simp only [Act.put, List.getElem_toArray, List.getElem_cons_zero, List.getElem_cons_succ, List.setIfInBounds_toArray, List.set_cons_zero, List.set_cons_succ])
      refine wpAnyH_ready (rs := [5, 6, 7]) (by kernel_rfl) (by simp) (AllReadyH.cons rfl (fun K hK => ?_) (AllReadyH.cons rfl (fun K hK => ?_) (AllReadyH.cons rfl (fun K hK => ?_) AllReadyH.nil)))
      · go_simp
        refine (J2.out w_1 HB_1.out).mono ?_
        rintro e w_2 ⟨ba, bc, bra, brc, boa, boc, rfl, hra, hB_2, _, hty⟩
        have HB_2 := Lib.hid (mem_then HB_1.out hB_2)
        have HS4_2 := Lib.hid (And.intro (OcIn.below HS4_1.out.1 hB_2) (OcTy.below HS4_1.out.2 hB_2))
        have HS9_2 := Lib.hid (And.intro hra hty)
        clear hra hty hB_2
        refine hK.out _ _ (HB_2.out) (fun hHeld => ?_)
        clear hK K
        rename_i hOld
        clear hOld
        (try simp only [Act.put, List.getElem_toArray, List.getElem_cons_zero, List.getElem_cons_succ, List.setIfInBounds_toArray, List.set_cons_zero, List.set_cons_succ])
        refine wpAnyH_ready (rs := [6, 7]) (by kernel_rfl) (by simp) (AllReadyH.cons rfl (fun K hK => ?_) (AllReadyH.cons rfl (fun K hK => ?_) AllReadyH.nil))
        · go_simp
          refine hK.out _ _ (mem_then HB_2.out (mem_alloc _ _)) (fun hHeld => ?_)
          clear hK K
          rename_i hOld
          clear hOld
          (try simp only [Act.put, List.getElem_toArray, List.getElem_cons_zero, List.getElem_cons_succ, List.setIfInBounds_toArray, List.set_cons_zero, List.set_cons_succ])
          have hz_3 : (w_2.alloc zOc).heap[w_2.heap.size]? = some zOc := mem_new _ _
          have hzB_3 := mem_alloc w_2 zOc
          generalize hQ_3 : w_2.alloc zOc = U_3 at hz_3 hzB_3 hHeld ⊢
          clear hQ_3
          have HB_3 := Lib.hid (mem_then HB_2.out hzB_3)
          have HGA : Hid (E0.heap.size ≤ w_2.heap.size) := HB_2.out.size
          have HS4_3 := Lib.hid (And.intro (OcIn.below HS4_2.out.1 hzB_3) (OcTy.below HS4_2.out.2 hzB_3))
          have HS9_3 := Lib.hid (And.intro (OcIn.below HS9_2.out.1 hzB_3) (OcTy.below HS9_2.out.2 hzB_3))
          have HZA3 := Lib.hid hz_3
          clear hz_3 hzB_3
          refine wpAnyH_ready (rs := [7]) (by kernel_rfl) (by simp) (AllReadyH.cons rfl (fun K hK => ?_) AllReadyH.nil)
          go_simp
          refine hK.out _ _ (mem_then HB_3.out (mem_alloc _ _)) (fun hHeld => ?_)
          clear hK K
          rename_i hOld
          clear hOld
          (try simp only [Act.put, List.getElem_toArray, List.getElem_cons_zero, List.getElem_cons_succ, List.setIfInBounds_toArray, List.set_cons_zero, List.set_cons_succ])
          have hz_4 : (U_3.alloc zOc).heap[U_3.heap.size]? = some zOc := mem_new _ _
          have hzB_4 := mem_alloc U_3 zOc
          generalize hQ_4 : U_3.alloc zOc = U_4 at hz_4 hzB_4 hHeld ⊢
          clear hQ_4
          have HB_4 := Lib.hid (mem_then HB_3.out hzB_4)
          have hlo_4 := mem_lt HZA3.out
          have HNE : Hid (w_2.heap.size ≠ U_3.heap.size) := fun e => by omega
          clear hlo_4
          have HGB : Hid (E0.heap.size ≤ U_3.heap.size) := HB_3.out.size
          have HZA4 := Lib.hid (mem_keep HZA3.out hzB_4)
          have HS4_4 := Lib.hid (And.intro (OcIn.below HS4_3.out.1 hzB_4) (OcTy.below HS4_3.out.2 hzB_4))
          have HS9_4 := Lib.hid (And.intro (OcIn.below HS9_3.out.1 hzB_4) (OcTy.below HS9_3.out.2 hzB_4))
          have HZB4 := Lib.hid hz_4
          clear hz_4 hzB_4
          obtain ⟨bA, hbA⟩ : ∃ b, w_2.heap.size = b := ⟨_, rfl⟩
          obtain ⟨bB, hbB⟩ : ∃ b, U_3.heap.size = b := ⟨_, rfl⟩
          have HZA := HZA4
          have HZB := HZB4
          have HSA := HS4_4
          have HSB := HS9_4
          have HBE := HB_4
          rw [hbA] at HZA HNE HGA
          rw [hbB] at HZB HNE HGB
          try rw [hbA]
          try rw [hbB]
          clear hbA hbB
          obtain ⟨EW, hEW⟩ : ∃ E : World, U_4 = E := ⟨_, rfl⟩
          rw [hEW] at HZA HZB HSA HSB HBE hHeld ⊢
          clear hEW
          obtain ⟨y0, y1, y2, y3, y4, y5⟩ := oc_cells HZA.out
          have f0 := mem_free HZA.out 0
          have f1 := mem_free HZA.out 1
          have f2 := mem_free HZA.out 2
          have f3 := mem_free HZA.out 3
          have f4 := mem_free HZA.out 4
          have f5 := mem_free HZA.out 5
          obtain ⟨U2, hU2⟩ : ∃ U2 : World, put6 EW bA (.slice aa R.arrays.length ac) (.slice ara R.objects.length arc) (.slice aoa R.out.length aoc) (.int .i64 (R.read : Int)) (.int .i64 (R.steps : Int)) (.int .i64 R.err) = U2 := ⟨_, rfl⟩
          have HFAR2 : Hid (∀ k, k ≠ bA → U2.heap[k]? = EW.heap[k]?) := fun k hk => by rw [← hU2]; exact put6_far hk
          have HA2' : Hid (U2.heap[bA]? = some (Oc.obj R aa ac ara arc aoa aoc)) := by show _ = _; rw [← hU2]; exact put6_at HZA.out
          have HZB2 : Hid (U2.heap[bB]? = some zOc) := (HFAR2.out bB (fun e => HNE.out e.symm)).trans HZB.out
          have HBU2 : Hid (Below E0.heap.size E0 U2) := by show Below _ _ _; rw [← hU2]; exact put6_below HBE.out HGA.out
          have HSA2 := Lib.hid (OcIn.stored HZA.out HFAR2.out HSA.out.1 HSA.out.2)
          have HSB2 := Lib.hid (OcIn.stored HZA.out HFAR2.out HSB.out.1 HSB.out.2)
          obtain ⟨p0, p1, p2, p3, p4, p5⟩ := oc_cells HZB2.out
          have g0 := mem_free HZB2.out 0
          have g1 := mem_free HZB2.out 1
          have g2 := mem_free HZB2.out 2
          have g3 := mem_free HZB2.out 3
          have g4 := mem_free HZB2.out 4
          have g5 := mem_free HZB2.out 5
          obtain ⟨U3, hU3⟩ : ∃ U3 : World, put6 U2 bB (.slice ba S.arrays.length bc) (.slice bra S.objects.length brc) (.slice boa S.out.length boc) (.int .i64 (S.read : Int)) (.int .i64 (S.steps : Int)) (.int .i64 S.err) = U3 := ⟨_, rfl⟩
          have HFAR3 : Hid (∀ k, k ≠ bB → U3.heap[k]? = U2.heap[k]?) := fun k hk => by rw [← hU3]; exact put6_far hk
          have HB3' : Hid (U3.heap[bB]? = some (Oc.obj S ba bc bra brc boa boc)) := by show _ = _; rw [← hU3]; exact put6_at HZB2.out
          have HA3' : Hid (U3.heap[bA]? = some (Oc.obj R aa ac ara arc aoa aoc)) := (HFAR3.out bA HNE.out).trans HA2'.out
          have HBU3 : Hid (Below E0.heap.size E0 U3) := by show Below _ _ _; rw [← hU3]; exact put6_below HBU2.out HGB.out
          have HSA3 := Lib.hid (OcIn.stored HZB2.out HFAR3.out HSA2.out.1 HSA2.out.2)
          have HSB3 := Lib.hid (OcIn.stored HZB2.out HFAR3.out HSB2.out.1 HSB2.out.2)
          unfold put6 at hU2 hU3
          refine wpAnyH_ready (rs := [8]) (by kernel_rfl) (by simp) (AllReadyH.cons rfl (fun K hK => ?_) AllReadyH.nil)
          go_simp
          try rw [hU2]
          refine hK.out _ _ (HBU2.out) (fun hHeld => ?_)
          clear hK K
          rename_i hOld
          clear hOld
          (try simp only [Act.put, List.getElem_toArray, List.getElem_cons_zero, List.getElem_cons_succ, List.setIfInBounds_toArray, List.set_cons_zero, List.set_cons_succ])
          refine wpAnyH_ready (rs := [9]) (by kernel_rfl) (by simp) (AllReadyH.cons rfl (fun K hK => ?_) AllReadyH.nil)
          go_simp
          try rw [hU3]
          refine hK.out _ _ (HBU3.out) (fun hHeld => ?_)
          clear hK K
          rename_i hOld
          clear hOld
          (try simp only [Act.put, List.getElem_toArray, List.getElem_cons_zero, List.getElem_cons_succ, List.setIfInBounds_toArray, List.set_cons_zero, List.set_cons_succ])
          clear hHeld y0 y1 y2 y3 y4 y5 f0 f1 f2 f3 f4 f5 p0 p1 p2 p3 p4 p5 g0 g1 g2 g3 g4 g5 hU2 hU3
          refine wpAnyH_done (by kernel_rfl) ?_ _
          go_wp2_with fail
          go_meet
          exact ⟨bA, bB, aa, ac, ara, arc, aoa, aoc, ba, bc, bra, brc, boa, boc, rfl, rfl, HA3'.out, HB3'.out, HSA3.out.1, HSB3.out.1, HBU3.out⟩
        · go_simp
          refine hK.out _ _ (mem_then HB_2.out (mem_alloc _ _)) (fun hHeld => ?_)
          clear hK K
          rename_i hOld
          clear hOld
          (try simp only [Act.put, List.getElem_toArray, List.getElem_cons_zero, List.getElem_cons_succ, List.setIfInBounds_toArray, List.set_cons_zero, List.set_cons_succ])
          have hz_5 : (w_2.alloc zOc).heap[w_2.heap.size]? = some zOc := mem_new _ _
          have hzB_5 := mem_alloc w_2 zOc
          generalize hQ_5 : w_2.alloc zOc = U_5 at hz_5 hzB_5 hHeld ⊢
          clear hQ_5
          have HB_5 := Lib.hid (mem_then HB_2.out hzB_5)
          have HGB : Hid (E0.heap.size ≤ w_2.heap.size) := HB_2.out.size
          have HS4_5 := Lib.hid (And.intro (OcIn.below HS4_2.out.1 hzB_5) (OcTy.below HS4_2.out.2 hzB_5))
          have HS9_5 := Lib.hid (And.intro (OcIn.below HS9_2.out.1 hzB_5) (OcTy.below HS9_2.out.2 hzB_5))
          have HZB5 := Lib.hid hz_5
          clear hz_5 hzB_5
          refine wpAnyH_ready (rs := [6]) (by kernel_rfl) (by simp) (AllReadyH.cons rfl (fun K hK => ?_) AllReadyH.nil)
          go_simp
          refine hK.out _ _ (mem_then HB_5.out (mem_alloc _ _)) (fun hHeld => ?_)
          clear hK K
          rename_i hOld
          clear hOld
          (try simp only [Act.put, List.getElem_toArray, List.getElem_cons_zero, List.getElem_cons_succ, List.setIfInBounds_toArray, List.set_cons_zero, List.set_cons_succ])
          have hz_6 : (U_5.alloc zOc).heap[U_5.heap.size]? = some zOc := mem_new _ _
          have hzB_6 := mem_alloc U_5 zOc
          generalize hQ_6 : U_5.alloc zOc = U_6 at hz_6 hzB_6 hHeld ⊢
          clear hQ_6
          have HB_6 := Lib.hid (mem_then HB_5.out hzB_6)
          have hlo_6 := mem_lt HZB5.out
          have HNE : Hid (U_5.heap.size ≠ w_2.heap.size) := fun e => by omega
          clear hlo_6
          have HGA : Hid (E0.heap.size ≤ U_5.heap.size) := HB_5.out.size
          have HZB6 := Lib.hid (mem_keep HZB5.out hzB_6)
          have HS4_6 := Lib.hid (And.intro (OcIn.below HS4_5.out.1 hzB_6) (OcTy.below HS4_5.out.2 hzB_6))
          have HS9_6 := Lib.hid (And.intro (OcIn.below HS9_5.out.1 hzB_6) (OcTy.below HS9_5.out.2 hzB_6))
          have HZA6 := Lib.hid hz_6
          clear hz_6 hzB_6
          obtain ⟨bA, hbA⟩ : ∃ b, U_5.heap.size = b := ⟨_, rfl⟩
          obtain ⟨bB, hbB⟩ : ∃ b, w_2.heap.size = b := ⟨_, rfl⟩
          have HZA := HZA6
          have HZB := HZB6
          have HSA := HS4_6
          have HSB := HS9_6
          have HBE := HB_6
          rw [hbA] at HZA HNE HGA
          rw [hbB] at HZB HNE HGB
          try rw [hbA]
          try rw [hbB]
          clear hbA hbB
          obtain ⟨EW, hEW⟩ : ∃ E : World, U_6 = E := ⟨_, rfl⟩
          rw [hEW] at HZA HZB HSA HSB HBE hHeld ⊢
          clear hEW
          obtain ⟨y0, y1, y2, y3, y4, y5⟩ := oc_cells HZA.out
          have f0 := mem_free HZA.out 0
          have f1 := mem_free HZA.out 1
          have f2 := mem_free HZA.out 2
          have f3 := mem_free HZA.out 3
          have f4 := mem_free HZA.out 4
          have f5 := mem_free HZA.out 5
          obtain ⟨U2, hU2⟩ : ∃ U2 : World, put6 EW bA (.slice aa R.arrays.length ac) (.slice ara R.objects.length arc) (.slice aoa R.out.length aoc) (.int .i64 (R.read : Int)) (.int .i64 (R.steps : Int)) (.int .i64 R.err) = U2 := ⟨_, rfl⟩
          have HFAR2 : Hid (∀ k, k ≠ bA → U2.heap[k]? = EW.heap[k]?) := fun k hk => by rw [← hU2]; exact put6_far hk
          have HA2' : Hid (U2.heap[bA]? = some (Oc.obj R aa ac ara arc aoa aoc)) := by show _ = _; rw [← hU2]; exact put6_at HZA.out
          have HZB2 : Hid (U2.heap[bB]? = some zOc) := (HFAR2.out bB (fun e => HNE.out e.symm)).trans HZB.out
          have HBU2 : Hid (Below E0.heap.size E0 U2) := by show Below _ _ _; rw [← hU2]; exact put6_below HBE.out HGA.out
          have HSA2 := Lib.hid (OcIn.stored HZA.out HFAR2.out HSA.out.1 HSA.out.2)
          have HSB2 := Lib.hid (OcIn.stored HZA.out HFAR2.out HSB.out.1 HSB.out.2)
          obtain ⟨p0, p1, p2, p3, p4, p5⟩ := oc_cells HZB2.out
          have g0 := mem_free HZB2.out 0
          have g1 := mem_free HZB2.out 1
          have g2 := mem_free HZB2.out 2
          have g3 := mem_free HZB2.out 3
          have g4 := mem_free HZB2.out 4
          have g5 := mem_free HZB2.out 5
          obtain ⟨U3, hU3⟩ : ∃ U3 : World, put6 U2 bB (.slice ba S.arrays.length bc) (.slice bra S.objects.length brc) (.slice boa S.out.length boc) (.int .i64 (S.read : Int)) (.int .i64 (S.steps : Int)) (.int .i64 S.err) = U3 := ⟨_, rfl⟩
          have HFAR3 : Hid (∀ k, k ≠ bB → U3.heap[k]? = U2.heap[k]?) := fun k hk => by rw [← hU3]; exact put6_far hk
          have HB3' : Hid (U3.heap[bB]? = some (Oc.obj S ba bc bra brc boa boc)) := by show _ = _; rw [← hU3]; exact put6_at HZB2.out
          have HA3' : Hid (U3.heap[bA]? = some (Oc.obj R aa ac ara arc aoa aoc)) := (HFAR3.out bA HNE.out).trans HA2'.out
          have HBU3 : Hid (Below E0.heap.size E0 U3) := by show Below _ _ _; rw [← hU3]; exact put6_below HBU2.out HGB.out
          have HSA3 := Lib.hid (OcIn.stored HZB2.out HFAR3.out HSA2.out.1 HSA2.out.2)
          have HSB3 := Lib.hid (OcIn.stored HZB2.out HFAR3.out HSB2.out.1 HSB2.out.2)
          unfold put6 at hU2 hU3
          refine wpAnyH_ready (rs := [8]) (by kernel_rfl) (by simp) (AllReadyH.cons rfl (fun K hK => ?_) AllReadyH.nil)
          go_simp
          try rw [hU2]
          refine hK.out _ _ (HBU2.out) (fun hHeld => ?_)
          clear hK K
          rename_i hOld
          clear hOld
          (try simp only [Act.put, List.getElem_toArray, List.getElem_cons_zero, List.getElem_cons_succ, List.setIfInBounds_toArray, List.set_cons_zero, List.set_cons_succ])
          refine wpAnyH_ready (rs := [9]) (by kernel_rfl) (by simp) (AllReadyH.cons rfl (fun K hK => ?_) AllReadyH.nil)
          go_simp
          try rw [hU3]
          refine hK.out _ _ (HBU3.out) (fun hHeld => ?_)
          clear hK K
          rename_i hOld
          clear hOld
          (try simp only [Act.put, List.getElem_toArray, List.getElem_cons_zero, List.getElem_cons_succ, List.setIfInBounds_toArray, List.set_cons_zero, List.set_cons_succ])
          clear hHeld y0 y1 y2 y3 y4 y5 f0 f1 f2 f3 f4 f5 p0 p1 p2 p3 p4 p5 g0 g1 g2 g3 g4 g5 hU2 hU3
          refine wpAnyH_done (by kernel_rfl) ?_ _
          go_wp2_with fail
          go_meet
          exact ⟨bA, bB, aa, ac, ara, arc, aoa, aoc, ba, bc, bra, brc, boa, boc, rfl, rfl, HA3'.out, HB3'.out, HSA3.out.1, HSB3.out.1, HBU3.out⟩
      · go_simp
        refine hK.out _ _ (mem_then HB_1.out (mem_alloc _ _)) (fun hHeld => ?_)
        clear hK K
        rename_i hOld
        clear hOld
        (try simp only [Act.put, List.getElem_toArray, List.getElem_cons_zero, List.getElem_cons_succ, List.setIfInBounds_toArray, List.set_cons_zero, List.set_cons_succ])
        have hz_7 : (w_1.alloc zOc).heap[w_1.heap.size]? = some zOc := mem_new _ _
        have hzB_7 := mem_alloc w_1 zOc
        generalize hQ_7 : w_1.alloc zOc = U_7 at hz_7 hzB_7 hHeld ⊢
        clear hQ_7
        have HB_7 := Lib.hid (mem_then HB_1.out hzB_7)
        have HGA : Hid (E0.heap.size ≤ w_1.heap.size) := HB_1.out.size
        have HS4_7 := Lib.hid (And.intro (OcIn.below HS4_1.out.1 hzB_7) (OcTy.below HS4_1.out.2 hzB_7))
        have HZA7 := Lib.hid hz_7
        clear hz_7 hzB_7
        refine wpAnyH_ready (rs := [5, 7]) (by kernel_rfl) (by simp) (AllReadyH.cons rfl (fun K hK => ?_) (AllReadyH.cons rfl (fun K hK => ?_) AllReadyH.nil))
        · go_simp
          refine (J2.out U_7 HB_7.out).mono ?_
          rintro e w_8 ⟨ba, bc, bra, brc, boa, boc, rfl, hra, hB_8, _, hty⟩
          have HB_8 := Lib.hid (mem_then HB_7.out hB_8)
          have HZA8 := Lib.hid (mem_keep HZA7.out hB_8)
          have HS4_8 := Lib.hid (And.intro (OcIn.below HS4_7.out.1 hB_8) (OcTy.below HS4_7.out.2 hB_8))
          have HS9_8 := Lib.hid (And.intro hra hty)
          clear hra hty hB_8
          refine hK.out _ _ (HB_8.out) (fun hHeld => ?_)
          clear hK K
          rename_i hOld
          clear hOld
          (try simp only [Act.put, List.getElem_toArray, List.getElem_cons_zero, List.getElem_cons_succ, List.setIfInBounds_toArray, List.set_cons_zero, List.set_cons_succ])
          refine wpAnyH_ready (rs := [7]) (by kernel_rfl) (by simp) (AllReadyH.cons rfl (fun K hK => ?_) AllReadyH.nil)
          go_simp
          refine hK.out _ _ (mem_then HB_8.out (mem_alloc _ _)) (fun hHeld => ?_)
          clear hK K
          rename_i hOld
          clear hOld
          (try simp only [Act.put, List.getElem_toArray, List.getElem_cons_zero, List.getElem_cons_succ, List.setIfInBounds_toArray, List.set_cons_zero, List.set_cons_succ])
          have hz_9 : (w_8.alloc zOc).heap[w_8.heap.size]? = some zOc := mem_new _ _
          have hzB_9 := mem_alloc w_8 zOc
          generalize hQ_9 : w_8.alloc zOc = U_9 at hz_9 hzB_9 hHeld ⊢
          clear hQ_9
          have HB_9 := Lib.hid (mem_then HB_8.out hzB_9)
          have hlo_9 := mem_lt HZA8.out
          have HNE : Hid (w_1.heap.size ≠ w_8.heap.size) := fun e => by omega
          clear hlo_9
          have HGB : Hid (E0.heap.size ≤ w_8.heap.size) := HB_8.out.size
          have HZA9 := Lib.hid (mem_keep HZA8.out hzB_9)
          have HS4_9 := Lib.hid (And.intro (OcIn.below HS4_8.out.1 hzB_9) (OcTy.below HS4_8.out.2 hzB_9))
          have HS9_9 := Lib.hid (And.intro (OcIn.below HS9_8.out.1 hzB_9) (OcTy.below HS9_8.out.2 hzB_9))
          have HZB9 := Lib.hid hz_9
          clear hz_9 hzB_9
          obtain ⟨bA, hbA⟩ : ∃ b, w_1.heap.size = b := ⟨_, rfl⟩
          obtain ⟨bB, hbB⟩ : ∃ b, w_8.heap.size = b := ⟨_, rfl⟩
          have HZA := HZA9
          have HZB := HZB9
          have HSA := HS4_9
          have HSB := HS9_9
          have HBE := HB_9
          rw [hbA] at HZA HNE HGA
          rw [hbB] at HZB HNE HGB
          try rw [hbA]
          try rw [hbB]
          clear hbA hbB
          obtain ⟨EW, hEW⟩ : ∃ E : World, U_9 = E := ⟨_, rfl⟩
          rw [hEW] at HZA HZB HSA HSB HBE hHeld ⊢
          clear hEW
          obtain ⟨y0, y1, y2, y3, y4, y5⟩ := oc_cells HZA.out
          have f0 := mem_free HZA.out 0
          have f1 := mem_free HZA.out 1
          have f2 := mem_free HZA.out 2
          have f3 := mem_free HZA.out 3
          have f4 := mem_free HZA.out 4
          have f5 := mem_free HZA.out 5
          obtain ⟨U2, hU2⟩ : ∃ U2 : World, put6 EW bA (.slice aa R.arrays.length ac) (.slice ara R.objects.length arc) (.slice aoa R.out.length aoc) (.int .i64 (R.read : Int)) (.int .i64 (R.steps : Int)) (.int .i64 R.err) = U2 := ⟨_, rfl⟩
          have HFAR2 : Hid (∀ k, k ≠ bA → U2.heap[k]? = EW.heap[k]?) := fun k hk => by rw [← hU2]; exact put6_far hk
          have HA2' : Hid (U2.heap[bA]? = some (Oc.obj R aa ac ara arc aoa aoc)) := by show _ = _; rw [← hU2]; exact put6_at HZA.out
          have HZB2 : Hid (U2.heap[bB]? = some zOc) := (HFAR2.out bB (fun e => HNE.out e.symm)).trans HZB.out
          have HBU2 : Hid (Below E0.heap.size E0 U2) := by show Below _ _ _; rw [← hU2]; exact put6_below HBE.out HGA.out
          have HSA2 := Lib.hid (OcIn.stored HZA.out HFAR2.out HSA.out.1 HSA.out.2)
          have HSB2 := Lib.hid (OcIn.stored HZA.out HFAR2.out HSB.out.1 HSB.out.2)
          obtain ⟨p0, p1, p2, p3, p4, p5⟩ := oc_cells HZB2.out
          have g0 := mem_free HZB2.out 0
          have g1 := mem_free HZB2.out 1
          have g2 := mem_free HZB2.out 2
          have g3 := mem_free HZB2.out 3
          have g4 := mem_free HZB2.out 4
          have g5 := mem_free HZB2.out 5
          obtain ⟨U3, hU3⟩ : ∃ U3 : World, put6 U2 bB (.slice ba S.arrays.length bc) (.slice bra S.objects.length brc) (.slice boa S.out.length boc) (.int .i64 (S.read : Int)) (.int .i64 (S.steps : Int)) (.int .i64 S.err) = U3 := ⟨_, rfl⟩
          have HFAR3 : Hid (∀ k, k ≠ bB → U3.heap[k]? = U2.heap[k]?) := fun k hk => by rw [← hU3]; exact put6_far hk
          have HB3' : Hid (U3.heap[bB]? = some (Oc.obj S ba bc bra brc boa boc)) := by show _ = _; rw [← hU3]; exact put6_at HZB2.out
          have HA3' : Hid (U3.heap[bA]? = some (Oc.obj R aa ac ara arc aoa aoc)) := (HFAR3.out bA HNE.out).trans HA2'.out
          have HBU3 : Hid (Below E0.heap.size E0 U3) := by show Below _ _ _; rw [← hU3]; exact put6_below HBU2.out HGB.out
          have HSA3 := Lib.hid (OcIn.stored HZB2.out HFAR3.out HSA2.out.1 HSA2.out.2)
          have HSB3 := Lib.hid (OcIn.stored HZB2.out HFAR3.out HSB2.out.1 HSB2.out.2)
          unfold put6 at hU2 hU3
          refine wpAnyH_ready (rs := [8]) (by kernel_rfl) (by simp) (AllReadyH.cons rfl (fun K hK => ?_) AllReadyH.nil)
          go_simp
          try rw [hU2]
          refine hK.out _ _ (HBU2.out) (fun hHeld => ?_)
          clear hK K
          rename_i hOld
          clear hOld
          (try simp only [Act.put, List.getElem_toArray, List.getElem_cons_zero, List.getElem_cons_succ, List.setIfInBounds_toArray, List.set_cons_zero, List.set_cons_succ])
          refine wpAnyH_ready (rs := [9]) (by kernel_rfl) (by simp) (AllReadyH.cons rfl (fun K hK => ?_) AllReadyH.nil)
          go_simp
          try rw [hU3]
          refine hK.out _ _ (HBU3.out) (fun hHeld => ?_)
          clear hK K
          rename_i hOld
          clear hOld
          (try simp only [Act.put, List.getElem_toArray, List.getElem_cons_zero, List.getElem_cons_succ, List.setIfInBounds_toArray, List.set_cons_zero, List.set_cons_succ])
          clear hHeld y0 y1 y2 y3 y4 y5 f0 f1 f2 f3 f4 f5 p0 p1 p2 p3 p4 p5 g0 g1 g2 g3 g4 g5 hU2 hU3
          refine wpAnyH_done (by kernel_rfl) ?_ _
          go_wp2_with fail
          go_meet
          exact ⟨bA, bB, aa, ac, ara, arc, aoa, aoc, ba, bc, bra, brc, boa, boc, rfl, rfl, HA3'.out, HB3'.out, HSA3.out.1, HSB3.out.1, HBU3.out⟩
        · go_simp
          refine hK.out _ _ (mem_then HB_7.out (mem_alloc _ _)) (fun hHeld => ?_)
          clear hK K
          rename_i hOld
          clear hOld
          (try simp only [Act.put, List.getElem_toArray, List.getElem_cons_zero, List.getElem_cons_succ, List.setIfInBounds_toArray, List.set_cons_zero, List.set_cons_succ])
          have hz_10 : (U_7.alloc zOc).heap[U_7.heap.size]? = some zOc := mem_new _ _
          have hzB_10 := mem_alloc U_7 zOc
          generalize hQ_10 : U_7.alloc zOc = U_10 at hz_10 hzB_10 hHeld ⊢
          clear hQ_10
          have HB_10 := Lib.hid (mem_then HB_7.out hzB_10)
          have hlo_10 := mem_lt HZA7.out
          have HNE : Hid (w_1.heap.size ≠ U_7.heap.size) := fun e => by omega
          clear hlo_10
          have HGB : Hid (E0.heap.size ≤ U_7.heap.size) := HB_7.out.size
          have HZA10 := Lib.hid (mem_keep HZA7.out hzB_10)
          have HS4_10 := Lib.hid (And.intro (OcIn.below HS4_7.out.1 hzB_10) (OcTy.below HS4_7.out.2 hzB_10))
          have HZB10 := Lib.hid hz_10
          clear hz_10 hzB_10
          refine wpAnyH_ready (rs := [5]) (by kernel_rfl) (by simp) (AllReadyH.cons rfl (fun K hK => ?_) AllReadyH.nil)
          go_simp
          refine (J2.out U_10 HB_10.out).mono ?_
          rintro e w_11 ⟨ba, bc, bra, brc, boa, boc, rfl, hra, hB_11, _, hty⟩
          have HB_11 := Lib.hid (mem_then HB_10.out hB_11)
          have HZA11 := Lib.hid (mem_keep HZA10.out hB_11)
          have HZB11 := Lib.hid (mem_keep HZB10.out hB_11)
          have HS4_11 := Lib.hid (And.intro (OcIn.below HS4_10.out.1 hB_11) (OcTy.below HS4_10.out.2 hB_11))
          have HS9_11 := Lib.hid (And.intro hra hty)
          clear hra hty hB_11
          refine hK.out _ _ (HB_11.out) (fun hHeld => ?_)
          clear hK K
          rename_i hOld
          clear hOld
          (try simp only [Act.put, List.getElem_toArray, List.getElem_cons_zero, List.getElem_cons_succ, List.setIfInBounds_toArray, List.set_cons_zero, List.set_cons_succ])
          obtain ⟨bA, hbA⟩ : ∃ b, w_1.heap.size = b := ⟨_, rfl⟩
          obtain ⟨bB, hbB⟩ : ∃ b, U_7.heap.size = b := ⟨_, rfl⟩
          have HZA := HZA11
          have HZB := HZB11
          have HSA := HS4_11
          have HSB := HS9_11
          have HBE := HB_11
          rw [hbA] at HZA HNE HGA
          rw [hbB] at HZB HNE HGB
          try rw [hbA]
          try rw [hbB]
          clear hbA hbB
          obtain ⟨EW, hEW⟩ : ∃ E : World, w_11 = E := ⟨_, rfl⟩
          rw [hEW] at HZA HZB HSA HSB HBE hHeld ⊢
          clear hEW
          obtain ⟨y0, y1, y2, y3, y4, y5⟩ := oc_cells HZA.out
          have f0 := mem_free HZA.out 0
          have f1 := mem_free HZA.out 1
          have f2 := mem_free HZA.out 2
          have f3 := mem_free HZA.out 3
          have f4 := mem_free HZA.out 4
          have f5 := mem_free HZA.out 5
          obtain ⟨U2, hU2⟩ : ∃ U2 : World, put6 EW bA (.slice aa R.arrays.length ac) (.slice ara R.objects.length arc) (.slice aoa R.out.length aoc) (.int .i64 (R.read : Int)) (.int .i64 (R.steps : Int)) (.int .i64 R.err) = U2 := ⟨_, rfl⟩
          have HFAR2 : Hid (∀ k, k ≠ bA → U2.heap[k]? = EW.heap[k]?) := fun k hk => by rw [← hU2]; exact put6_far hk
          have HA2' : Hid (U2.heap[bA]? = some (Oc.obj R aa ac ara arc aoa aoc)) := by show _ = _; rw [← hU2]; exact put6_at HZA.out
          have HZB2 : Hid (U2.heap[bB]? = some zOc) := (HFAR2.out bB (fun e => HNE.out e.symm)).trans HZB.out
          have HBU2 : Hid (Below E0.heap.size E0 U2) := by show Below _ _ _; rw [← hU2]; exact put6_below HBE.out HGA.out
          have HSA2 := Lib.hid (OcIn.stored HZA.out HFAR2.out HSA.out.1 HSA.out.2)
          have HSB2 := Lib.hid (OcIn.stored HZA.out HFAR2.out HSB.out.1 HSB.out.2)
          obtain ⟨p0, p1, p2, p3, p4, p5⟩ := oc_cells HZB2.out
          have g0 := mem_free HZB2.out 0
          have g1 := mem_free HZB2.out 1
          have g2 := mem_free HZB2.out 2
          have g3 := mem_free HZB2.out 3
          have g4 := mem_free HZB2.out 4
          have g5 := mem_free HZB2.out 5
          obtain ⟨U3, hU3⟩ : ∃ U3 : World, put6 U2 bB (.slice ba S.arrays.length bc) (.slice bra S.objects.length brc) (.slice boa S.out.length boc) (.int .i64 (S.read : Int)) (.int .i64 (S.steps : Int)) (.int .i64 S.err) = U3 := ⟨_, rfl⟩
          have HFAR3 : Hid (∀ k, k ≠ bB → U3.heap[k]? = U2.heap[k]?) := fun k hk => by rw [← hU3]; exact put6_far hk
          have HB3' : Hid (U3.heap[bB]? = some (Oc.obj S ba bc bra brc boa boc)) := by show _ = _; rw [← hU3]; exact put6_at HZB2.out
          have HA3' : Hid (U3.heap[bA]? = some (Oc.obj R aa ac ara arc aoa aoc)) := (HFAR3.out bA HNE.out).trans HA2'.out
          have HBU3 : Hid (Below E0.heap.size E0 U3) := by show Below _ _ _; rw [← hU3]; exact put6_below HBU2.out HGB.out
          have HSA3 := Lib.hid (OcIn.stored HZB2.out HFAR3.out HSA2.out.1 HSA2.out.2)
          have HSB3 := Lib.hid (OcIn.stored HZB2.out HFAR3.out HSB2.out.1 HSB2.out.2)
          unfold put6 at hU2 hU3
          refine wpAnyH_ready (rs := [8]) (by kernel_rfl) (by simp) (AllReadyH.cons rfl (fun K hK => ?_) AllReadyH.nil)
          go_simp
          try rw [hU2]
          refine hK.out _ _ (HBU2.out) (fun hHeld => ?_)
          clear hK K
          rename_i hOld
          clear hOld
          (try simp only [Act.put, List.getElem_toArray, List.getElem_cons_zero, List.getElem_cons_succ, List.setIfInBounds_toArray, List.set_cons_zero, List.set_cons_succ])
          refine wpAnyH_ready (rs := [9]) (by kernel_rfl) (by simp) (AllReadyH.cons rfl (fun K hK => ?_) AllReadyH.nil)
          go_simp
          try rw [hU3]
          refine hK.out _ _ (HBU3.out) (fun hHeld => ?_)
          clear hK K
          rename_i hOld
          clear hOld
          (try simp only [Act.put, List.getElem_toArray, List.getElem_cons_zero, List.getElem_cons_succ, List.setIfInBounds_toArray, List.set_cons_zero, List.set_cons_succ])
          clear hHeld y0 y1 y2 y3 y4 y5 f0 f1 f2 f3 f4 f5 p0 p1 p2 p3 p4 p5 g0 g1 g2 g3 g4 g5 hU2 hU3
          refine wpAnyH_done (by kernel_rfl) ?_ _
          go_wp2_with fail
          go_meet
          exact ⟨bA, bB, aa, ac, ara, arc, aoa, aoc, ba, bc, bra, brc, boa, boc, rfl, rfl, HA3'.out, HB3'.out, HSA3.out.1, HSB3.out.1, HBU3.out⟩
      · go_simp
        refine hK.out _ _ (mem_then HB_1.out (mem_alloc _ _)) (fun hHeld => ?_)
        clear hK K
        rename_i hOld
        clear hOld
        (try simp only [Act.put, List.getElem_toArray, List.getElem_cons_zero, List.getElem_cons_succ, List.setIfInBounds_toArray, List.set_cons_zero, List.set_cons_succ])
        have hz_12 : (w_1.alloc zOc).heap[w_1.heap.size]? = some zOc := mem_new _ _
        have hzB_12 := mem_alloc w_1 zOc
        generalize hQ_12 : w_1.alloc zOc = U_12 at hz_12 hzB_12 hHeld ⊢
        clear hQ_12
        have HB_12 := Lib.hid (mem_then HB_1.out hzB_12)
        have HGB : Hid (E0.heap.size ≤ w_1.heap.size) := HB_1.out.size
        have HS4_12 := Lib.hid (And.intro (OcIn.below HS4_1.out.1 hzB_12) (OcTy.below HS4_1.out.2 hzB_12))
        have HZB12 := Lib.hid hz_12
        clear hz_12 hzB_12
        refine wpAnyH_ready (rs := [5, 6]) (by kernel_rfl) (by simp) (AllReadyH.cons rfl (fun K hK => ?_) (AllReadyH.cons rfl (fun K hK => ?_) AllReadyH.nil))
        · go_simp
          refine (J2.out U_12 HB_12.out).mono ?_
          rintro e w_13 ⟨ba, bc, bra, brc, boa, boc, rfl, hra, hB_13, _, hty⟩
          have HB_13 := Lib.hid (mem_then HB_12.out hB_13)
          have HZB13 := Lib.hid (mem_keep HZB12.out hB_13)
          have HS4_13 := Lib.hid (And.intro (OcIn.below HS4_12.out.1 hB_13) (OcTy.below HS4_12.out.2 hB_13))
          have HS9_13 := Lib.hid (And.intro hra hty)
          clear hra hty hB_13
          refine hK.out _ _ (HB_13.out) (fun hHeld => ?_)
          clear hK K
          rename_i hOld
          clear hOld
          (try simp only [Act.put, List.getElem_toArray, List.getElem_cons_zero, List.getElem_cons_succ, List.setIfInBounds_toArray, List.set_cons_zero, List.set_cons_succ])
          refine wpAnyH_ready (rs := [6]) (by kernel_rfl) (by simp) (AllReadyH.cons rfl (fun K hK => ?_) AllReadyH.nil)
          go_simp
          refine hK.out _ _ (mem_then HB_13.out (mem_alloc _ _)) (fun hHeld => ?_)
          clear hK K
          rename_i hOld
          clear hOld
          (try simp only [Act.put, List.getElem_toArray, List.getElem_cons_zero, List.getElem_cons_succ, List.setIfInBounds_toArray, List.set_cons_zero, List.set_cons_succ])
          have hz_14 : (w_13.alloc zOc).heap[w_13.heap.size]? = some zOc := mem_new _ _
          have hzB_14 := mem_alloc w_13 zOc
          generalize hQ_14 : w_13.alloc zOc = U_14 at hz_14 hzB_14 hHeld ⊢
          clear hQ_14
          have HB_14 := Lib.hid (mem_then HB_13.out hzB_14)
          have hlo_14 := mem_lt HZB13.out
          have HNE : Hid (w_13.heap.size ≠ w_1.heap.size) := fun e => by omega
          clear hlo_14
          have HGA : Hid (E0.heap.size ≤ w_13.heap.size) := HB_13.out.size
          have HZB14 := Lib.hid (mem_keep HZB13.out hzB_14)
          have HS4_14 := Lib.hid (And.intro (OcIn.below HS4_13.out.1 hzB_14) (OcTy.below HS4_13.out.2 hzB_14))
          have HS9_14 := Lib.hid (And.intro (OcIn.below HS9_13.out.1 hzB_14) (OcTy.below HS9_13.out.2 hzB_14))
          have HZA14 := Lib.hid hz_14
          clear hz_14 hzB_14
          obtain ⟨bA, hbA⟩ : ∃ b, w_13.heap.size = b := ⟨_, rfl⟩
          obtain ⟨bB, hbB⟩ : ∃ b, w_1.heap.size = b := ⟨_, rfl⟩
          have HZA := HZA14
          have HZB := HZB14
          have HSA := HS4_14
          have HSB := HS9_14
          have HBE := HB_14
          rw [hbA] at HZA HNE HGA
          rw [hbB] at HZB HNE HGB
          try rw [hbA]
          try rw [hbB]
          clear hbA hbB
          obtain ⟨EW, hEW⟩ : ∃ E : World, U_14 = E := ⟨_, rfl⟩
          rw [hEW] at HZA HZB HSA HSB HBE hHeld ⊢
          clear hEW
          obtain ⟨y0, y1, y2, y3, y4, y5⟩ := oc_cells HZA.out
          have f0 := mem_free HZA.out 0
          have f1 := mem_free HZA.out 1
          have f2 := mem_free HZA.out 2
          have f3 := mem_free HZA.out 3
          have f4 := mem_free HZA.out 4
          have f5 := mem_free HZA.out 5
          obtain ⟨U2, hU2⟩ : ∃ U2 : World, put6 EW bA (.slice aa R.arrays.length ac) (.slice ara R.objects.length arc) (.slice aoa R.out.length aoc) (.int .i64 (R.read : Int)) (.int .i64 (R.steps : Int)) (.int .i64 R.err) = U2 := ⟨_, rfl⟩
          have HFAR2 : Hid (∀ k, k ≠ bA → U2.heap[k]? = EW.heap[k]?) := fun k hk => by rw [← hU2]; exact put6_far hk
          have HA2' : Hid (U2.heap[bA]? = some (Oc.obj R aa ac ara arc aoa aoc)) := by show _ = _; rw [← hU2]; exact put6_at HZA.out
          have HZB2 : Hid (U2.heap[bB]? = some zOc) := (HFAR2.out bB (fun e => HNE.out e.symm)).trans HZB.out
          have HBU2 : Hid (Below E0.heap.size E0 U2) := by show Below _ _ _; rw [← hU2]; exact put6_below HBE.out HGA.out
          have HSA2 := Lib.hid (OcIn.stored HZA.out HFAR2.out HSA.out.1 HSA.out.2)
          have HSB2 := Lib.hid (OcIn.stored HZA.out HFAR2.out HSB.out.1 HSB.out.2)
          obtain ⟨p0, p1, p2, p3, p4, p5⟩ := oc_cells HZB2.out
          have g0 := mem_free HZB2.out 0
          have g1 := mem_free HZB2.out 1
          have g2 := mem_free HZB2.out 2
          have g3 := mem_free HZB2.out 3
          have g4 := mem_free HZB2.out 4
          have g5 := mem_free HZB2.out 5
          obtain ⟨U3, hU3⟩ : ∃ U3 : World, put6 U2 bB (.slice ba S.arrays.length bc) (.slice bra S.objects.length brc) (.slice boa S.out.length boc) (.int .i64 (S.read : Int)) (.int .i64 (S.steps : Int)) (.int .i64 S.err) = U3 := ⟨_, rfl⟩
          have HFAR3 : Hid (∀ k, k ≠ bB → U3.heap[k]? = U2.heap[k]?) := fun k hk => by rw [← hU3]; exact put6_far hk
          have HB3' : Hid (U3.heap[bB]? = some (Oc.obj S ba bc bra brc boa boc)) := by show _ = _; rw [← hU3]; exact put6_at HZB2.out
          have HA3' : Hid (U3.heap[bA]? = some (Oc.obj R aa ac ara arc aoa aoc)) := (HFAR3.out bA HNE.out).trans HA2'.out
          have HBU3 : Hid (Below E0.heap.size E0 U3) := by show Below _ _ _; rw [← hU3]; exact put6_below HBU2.out HGB.out
          have HSA3 := Lib.hid (OcIn.stored HZB2.out HFAR3.out HSA2.out.1 HSA2.out.2)
          have HSB3 := Lib.hid (OcIn.stored HZB2.out HFAR3.out HSB2.out.1 HSB2.out.2)
          unfold put6 at hU2 hU3
          refine wpAnyH_ready (rs := [8]) (by kernel_rfl) (by simp) (AllReadyH.cons rfl (fun K hK => ?_) AllReadyH.nil)
          go_simp
          try rw [hU2]
          refine hK.out _ _ (HBU2.out) (fun hHeld => ?_)
          clear hK K
          rename_i hOld
          clear hOld
          (try simp only [Act.put, List.getElem_toArray, List.getElem_cons_zero, List.getElem_cons_succ, List.setIfInBounds_toArray, List.set_cons_zero, List.set_cons_succ])
          refine wpAnyH_ready (rs := [9]) (by kernel_rfl) (by simp) (AllReadyH.cons rfl (fun K hK => ?_) AllReadyH.nil)
          go_simp
          try rw [hU3]
          refine hK.out _ _ (HBU3.out) (fun hHeld => ?_)
          clear hK K
          rename_i hOld
          clear hOld
          (try simp only [Act.put, List.getElem_toArray, List.getElem_cons_zero, List.getElem_cons_succ, List.setIfInBounds_toArray, List.set_cons_zero, List.set_cons_succ])
          clear hHeld y0 y1 y2 y3 y4 y5 f0 f1 f2 f3 f4 f5 p0 p1 p2 p3 p4 p5 g0 g1 g2 g3 g4 g5 hU2 hU3
          refine wpAnyH_done (by kernel_rfl) ?_ _
          go_wp2_with fail
          go_meet
          exact ⟨bA, bB, aa, ac, ara, arc, aoa, aoc, ba, bc, bra, brc, boa, boc, rfl, rfl, HA3'.out, HB3'.out, HSA3.out.1, HSB3.out.1, HBU3.out⟩
        · go_simp
          refine hK.out _ _ (mem_then HB_12.out (mem_alloc _ _)) (fun hHeld => ?_)
          clear hK K
          rename_i hOld
          clear hOld
          (try simp only [Act.put, List.getElem_toArray, List.getElem_cons_zero, List.getElem_cons_succ, List.setIfInBounds_toArray, List.set_cons_zero, List.set_cons_succ])
          have hz_15 : (U_12.alloc zOc).heap[U_12.heap.size]? = some zOc := mem_new _ _
          have hzB_15 := mem_alloc U_12 zOc
          generalize hQ_15 : U_12.alloc zOc = U_15 at hz_15 hzB_15 hHeld ⊢
          clear hQ_15
          have HB_15 := Lib.hid (mem_then HB_12.out hzB_15)
          have hlo_15 := mem_lt HZB12.out
          have HNE : Hid (U_12.heap.size ≠ w_1.heap.size) := fun e => by omega
          clear hlo_15
          have HGA : Hid (E0.heap.size ≤ U_12.heap.size) := HB_12.out.size
          have HZB15 := Lib.hid (mem_keep HZB12.out hzB_15)
          have HS4_15 := Lib.hid (And.intro (OcIn.below HS4_12.out.1 hzB_15) (OcTy.below HS4_12.out.2 hzB_15))
          have HZA15 := Lib.hid hz_15
          clear hz_15 hzB_15
          refine wpAnyH_ready (rs := [5]) (by kernel_rfl) (by simp) (AllReadyH.cons rfl (fun K hK => ?_) AllReadyH.nil)
          go_simp
          refine (J2.out U_15 HB_15.out).mono ?_
          rintro e w_16 ⟨ba, bc, bra, brc, boa, boc, rfl, hra, hB_16, _, hty⟩
          have HB_16 := Lib.hid (mem_then HB_15.out hB_16)
          have HZA16 := Lib.hid (mem_keep HZA15.out hB_16)
          have HZB16 := Lib.hid (mem_keep HZB15.out hB_16)
          have HS4_16 := Lib.hid (And.intro (OcIn.below HS4_15.out.1 hB_16) (OcTy.below HS4_15.out.2 hB_16))
          have HS9_16 := Lib.hid (And.intro hra hty)
          clear hra hty hB_16
          refine hK.out _ _ (HB_16.out) (fun hHeld => ?_)
          clear hK K
          rename_i hOld
          clear hOld
          (try simp only [Act.put, List.getElem_toArray, List.getElem_cons_zero, List.getElem_cons_succ, List.setIfInBounds_toArray, List.set_cons_zero, List.set_cons_succ])
          obtain ⟨bA, hbA⟩ : ∃ b, U_12.heap.size = b := ⟨_, rfl⟩
          obtain ⟨bB, hbB⟩ : ∃ b, w_1.heap.size = b := ⟨_, rfl⟩
          have HZA := HZA16
          have HZB := HZB16
          have HSA := HS4_16
          have HSB := HS9_16
          have HBE := HB_16
          rw [hbA] at HZA HNE HGA
          rw [hbB] at HZB HNE HGB
          try rw [hbA]
          try rw [hbB]
          clear hbA hbB
          obtain ⟨EW, hEW⟩ : ∃ E : World, w_16 = E := ⟨_, rfl⟩
          rw [hEW] at HZA HZB HSA HSB HBE hHeld ⊢
          clear hEW
          obtain ⟨y0, y1, y2, y3, y4, y5⟩ := oc_cells HZA.out
          have f0 := mem_free HZA.out 0
          have f1 := mem_free HZA.out 1
          have f2 := mem_free HZA.out 2
          have f3 := mem_free HZA.out 3
          have f4 := mem_free HZA.out 4
          have f5 := mem_free HZA.out 5
          obtain ⟨U2, hU2⟩ : ∃ U2 : World, put6 EW bA (.slice aa R.arrays.length ac) (.slice ara R.objects.length arc) (.slice aoa R.out.length aoc) (.int .i64 (R.read : Int)) (.int .i64 (R.steps : Int)) (.int .i64 R.err) = U2 := ⟨_, rfl⟩
          have HFAR2 : Hid (∀ k, k ≠ bA → U2.heap[k]? = EW.heap[k]?) := fun k hk => by rw [← hU2]; exact put6_far hk
          have HA2' : Hid (U2.heap[bA]? = some (Oc.obj R aa ac ara arc aoa aoc)) := by show _ = _; rw [← hU2]; exact put6_at HZA.out
          have HZB2 : Hid (U2.heap[bB]? = some zOc) := (HFAR2.out bB (fun e => HNE.out e.symm)).trans HZB.out
          have HBU2 : Hid (Below E0.heap.size E0 U2) := by show Below _ _ _; rw [← hU2]; exact put6_below HBE.out HGA.out
          have HSA2 := Lib.hid (OcIn.stored HZA.out HFAR2.out HSA.out.1 HSA.out.2)
          have HSB2 := Lib.hid (OcIn.stored HZA.out HFAR2.out HSB.out.1 HSB.out.2)
          obtain ⟨p0, p1, p2, p3, p4, p5⟩ := oc_cells HZB2.out
          have g0 := mem_free HZB2.out 0
          have g1 := mem_free HZB2.out 1
          have g2 := mem_free HZB2.out 2
          have g3 := mem_free HZB2.out 3
          have g4 := mem_free HZB2.out 4
          have g5 := mem_free HZB2.out 5
          obtain ⟨U3, hU3⟩ : ∃ U3 : World, put6 U2 bB (.slice ba S.arrays.length bc) (.slice bra S.objects.length brc) (.slice boa S.out.length boc) (.int .i64 (S.read : Int)) (.int .i64 (S.steps : Int)) (.int .i64 S.err) = U3 := ⟨_, rfl⟩
          have HFAR3 : Hid (∀ k, k ≠ bB → U3.heap[k]? = U2.heap[k]?) := fun k hk => by rw [← hU3]; exact put6_far hk
          have HB3' : Hid (U3.heap[bB]? = some (Oc.obj S ba bc bra brc boa boc)) := by show _ = _; rw [← hU3]; exact put6_at HZB2.out
          have HA3' : Hid (U3.heap[bA]? = some (Oc.obj R aa ac ara arc aoa aoc)) := (HFAR3.out bA HNE.out).trans HA2'.out
          have HBU3 : Hid (Below E0.heap.size E0 U3) := by show Below _ _ _; rw [← hU3]; exact put6_below HBU2.out HGB.out
          have HSA3 := Lib.hid (OcIn.stored HZB2.out HFAR3.out HSA2.out.1 HSA2.out.2)
          have HSB3 := Lib.hid (OcIn.stored HZB2.out HFAR3.out HSB2.out.1 HSB2.out.2)
          unfold put6 at hU2 hU3
          refine wpAnyH_ready (rs := [8]) (by kernel_rfl) (by simp) (AllReadyH.cons rfl (fun K hK => ?_) AllReadyH.nil)
          go_simp
          try rw [hU2]
          refine hK.out _ _ (HBU2.out) (fun hHeld => ?_)
          clear hK K
          rename_i hOld
          clear hOld
          (try simp only [Act.put, List.getElem_toArray, List.getElem_cons_zero, List.getElem_cons_succ, List.setIfInBounds_toArray, List.set_cons_zero, List.set_cons_succ])
          refine wpAnyH_ready (rs := [9]) (by kernel_rfl) (by simp) (AllReadyH.cons rfl (fun K hK => ?_) AllReadyH.nil)
          go_simp
          try rw [hU3]
          refine hK.out _ _ (HBU3.out) (fun hHeld => ?_)
          clear hK K
          rename_i hOld
          clear hOld
          (try simp only [Act.put, List.getElem_toArray, List.getElem_cons_zero, List.getElem_cons_succ, List.setIfInBounds_toArray, List.set_cons_zero, List.set_cons_succ])
          clear hHeld y0 y1 y2 y3 y4 y5 f0 f1 f2 f3 f4 f5 p0 p1 p2 p3 p4 p5 g0 g1 g2 g3 g4 g5 hU2 hU3
          refine wpAnyH_done (by kernel_rfl) ?_ _
          go_wp2_with fail
          go_meet
          exact ⟨bA, bB, aa, ac, ara, arc, aoa, aoc, ba, bc, bra, brc, boa, boc, rfl, rfl, HA3'.out, HB3'.out, HSA3.out.1, HSB3.out.1, HBU3.out⟩
    · go_simp
      refine hK.out _ _ (mem_then HHV.out (mem_alloc _ _)) (fun hHeld => ?_)
      clear hK K
      rename_i hOld
      clear hOld
      (try simp only [Act.put, List.getElem_toArray, List.getElem_cons_zero, List.getElem_cons_succ, List.setIfInBounds_toArray, List.set_cons_zero, List.set_cons_succ])
      have hz_17 : (v1.alloc zOc).heap[v1.heap.size]? = some zOc := mem_new _ _
      have hzB_17 := mem_alloc v1 zOc
      generalize hQ_17 : v1.alloc zOc = U_17 at hz_17 hzB_17 hHeld ⊢
      clear hQ_17
      have HB_17 := Lib.hid (mem_then HHV.out hzB_17)
      have HGA : Hid (E0.heap.size ≤ v1.heap.size) := HHV.out.size
      have HZA17 := Lib.hid hz_17
      clear hz_17 hzB_17
      refine wpAnyH_ready (rs := [2, 7]) (by kernel_rfl) (by simp) (AllReadyH.cons rfl (fun K hK => ?_) (AllReadyH.cons rfl (fun K hK => ?_) AllReadyH.nil))
      · go_simp
        refine (J1.out U_17 HB_17.out).mono ?_
        rintro e w_18 ⟨aa, ac, ara, arc, aoa, aoc, rfl, hra, hB_18, _, hty⟩
        have HB_18 := Lib.hid (mem_then HB_17.out hB_18)
        have HZA18 := Lib.hid (mem_keep HZA17.out hB_18)
        have HS4_18 := Lib.hid (And.intro hra hty)
        clear hra hty hB_18
        refine hK.out _ _ (HB_18.out) (fun hHeld => ?_)
        clear hK K
        rename_i hOld
        clear hOld
        (try simp only [Act.put, List.getElem_toArray, List.getElem_cons_zero, List.getElem_cons_succ, List.setIfInBounds_toArray, List.set_cons_zero, List.set_cons_succ])
        refine wpAnyH_ready (rs := [5, 7]) (by kernel_rfl) (by simp) (AllReadyH.cons rfl (fun K hK => ?_) (AllReadyH.cons rfl (fun K hK => ?_) AllReadyH.nil))
        · go_simp
          refine (J2.out w_18 HB_18.out).mono ?_
          rintro e w_19 ⟨ba, bc, bra, brc, boa, boc, rfl, hra, hB_19, _, hty⟩
          have HB_19 := Lib.hid (mem_then HB_18.out hB_19)
          have HZA19 := Lib.hid (mem_keep HZA18.out hB_19)
          have HS4_19 := Lib.hid (And.intro (OcIn.below HS4_18.out.1 hB_19) (OcTy.below HS4_18.out.2 hB_19))
          have HS9_19 := Lib.hid (And.intro hra hty)
          clear hra hty hB_19
          refine hK.out _ _ (HB_19.out) (fun hHeld => ?_)
          clear hK K
          rename_i hOld
          clear hOld
          (try simp only [Act.put, List.getElem_toArray, List.getElem_cons_zero, List.getElem_cons_succ, List.setIfInBounds_toArray, List.set_cons_zero, List.set_cons_succ])
          refine wpAnyH_ready (rs := [7]) (by kernel_rfl) (by simp) (AllReadyH.cons rfl (fun K hK => ?_) AllReadyH.nil)
          go_simp
          refine hK.out _ _ (mem_then HB_19.out (mem_alloc _ _)) (fun hHeld => ?_)
          clear hK K
          rename_i hOld
          clear hOld
          (try simp only [Act.put, List.getElem_toArray, List.getElem_cons_zero, List.getElem_cons_succ, List.setIfInBounds_toArray, List.set_cons_zero, List.set_cons_succ])
          have hz_20 : (w_19.alloc zOc).heap[w_19.heap.size]? = some zOc := mem_new _ _
          have hzB_20 := mem_alloc w_19 zOc
          generalize hQ_20 : w_19.alloc zOc = U_20 at hz_20 hzB_20 hHeld ⊢
          clear hQ_20
          have HB_20 := Lib.hid (mem_then HB_19.out hzB_20)
          have hlo_20 := mem_lt HZA19.out
          have HNE : Hid (v1.heap.size ≠ w_19.heap.size) := fun e => by omega
          clear hlo_20
          have HGB : Hid (E0.heap.size ≤ w_19.heap.size) := HB_19.out.size
          have HZA20 := Lib.hid (mem_keep HZA19.out hzB_20)
          have HS4_20 := Lib.hid (And.intro (OcIn.below HS4_19.out.1 hzB_20) (OcTy.below HS4_19.out.2 hzB_20))
          have HS9_20 := Lib.hid (And.intro (OcIn.below HS9_19.out.1 hzB_20) (OcTy.below HS9_19.out.2 hzB_20))
          have HZB20 := Lib.hid hz_20
          clear hz_20 hzB_20
          obtain ⟨bA, hbA⟩ : ∃ b, v1.heap.size = b := ⟨_, rfl⟩
          obtain ⟨bB, hbB⟩ : ∃ b, w_19.heap.size = b := ⟨_, rfl⟩
          have HZA := HZA20
          have HZB := HZB20
          have HSA := HS4_20
          have HSB := HS9_20
          have HBE := HB_20
          rw [hbA] at HZA HNE HGA
          rw [hbB] at HZB HNE HGB
          try rw [hbA]
          try rw [hbB]
          clear hbA hbB
          obtain ⟨EW, hEW⟩ : ∃ E : World, U_20 = E := ⟨_, rfl⟩
          rw [hEW] at HZA HZB HSA HSB HBE hHeld ⊢
          clear hEW
          obtain ⟨y0, y1, y2, y3, y4, y5⟩ := oc_cells HZA.out
          have f0 := mem_free HZA.out 0
          have f1 := mem_free HZA.out 1
          have f2 := mem_free HZA.out 2
          have f3 := mem_free HZA.out 3
          have f4 := mem_free HZA.out 4
          have f5 := mem_free HZA.out 5
          obtain ⟨U2, hU2⟩ : ∃ U2 : World, put6 EW bA (.slice aa R.arrays.length ac) (.slice ara R.objects.length arc) (.slice aoa R.out.length aoc) (.int .i64 (R.read : Int)) (.int .i64 (R.steps : Int)) (.int .i64 R.err) = U2 := ⟨_, rfl⟩
          have HFAR2 : Hid (∀ k, k ≠ bA → U2.heap[k]? = EW.heap[k]?) := fun k hk => by rw [← hU2]; exact put6_far hk
          have HA2' : Hid (U2.heap[bA]? = some (Oc.obj R aa ac ara arc aoa aoc)) := by show _ = _; rw [← hU2]; exact put6_at HZA.out
          have HZB2 : Hid (U2.heap[bB]? = some zOc) := (HFAR2.out bB (fun e => HNE.out e.symm)).trans HZB.out
          have HBU2 : Hid (Below E0.heap.size E0 U2) := by show Below _ _ _; rw [← hU2]; exact put6_below HBE.out HGA.out
          have HSA2 := Lib.hid (OcIn.stored HZA.out HFAR2.out HSA.out.1 HSA.out.2)
          have HSB2 := Lib.hid (OcIn.stored HZA.out HFAR2.out HSB.out.1 HSB.out.2)
          obtain ⟨p0, p1, p2, p3, p4, p5⟩ := oc_cells HZB2.out
          have g0 := mem_free HZB2.out 0
          have g1 := mem_free HZB2.out 1
          have g2 := mem_free HZB2.out 2
          have g3 := mem_free HZB2.out 3
          have g4 := mem_free HZB2.out 4
          have g5 := mem_free HZB2.out 5
          obtain ⟨U3, hU3⟩ : ∃ U3 : World, put6 U2 bB (.slice ba S.arrays.length bc) (.slice bra S.objects.length brc) (.slice boa S.out.length boc) (.int .i64 (S.read : Int)) (.int .i64 (S.steps : Int)) (.int .i64 S.err) = U3 := ⟨_, rfl⟩
          have HFAR3 : Hid (∀ k, k ≠ bB → U3.heap[k]? = U2.heap[k]?) := fun k hk => by rw [← hU3]; exact put6_far hk
          have HB3' : Hid (U3.heap[bB]? = some (Oc.obj S ba bc bra brc boa boc)) := by show _ = _; rw [← hU3]; exact put6_at HZB2.out
          have HA3' : Hid (U3.heap[bA]? = some (Oc.obj R aa ac ara arc aoa aoc)) := (HFAR3.out bA HNE.out).trans HA2'.out
          have HBU3 : Hid (Below E0.heap.size E0 U3) := by show Below _ _ _; rw [← hU3]; exact put6_below HBU2.out HGB.out
          have HSA3 := Lib.hid (OcIn.stored HZB2.out HFAR3.out HSA2.out.1 HSA2.out.2)
          have HSB3 := Lib.hid (OcIn.stored HZB2.out HFAR3.out HSB2.out.1 HSB2.out.2)
          unfold put6 at hU2 hU3
          refine wpAnyH_ready (rs := [8]) (by kernel_rfl) (by simp) (AllReadyH.cons rfl (fun K hK => ?_) AllReadyH.nil)
          go_simp
          try rw [hU2]
          refine hK.out _ _ (HBU2.out) (fun hHeld => ?_)
          clear hK K
          rename_i hOld
          clear hOld
          (try simp only [Act.put, List.getElem_toArray, List.getElem_cons_zero, List.getElem_cons_succ, List.setIfInBounds_toArray, List.set_cons_zero, List.set_cons_succ])
          refine wpAnyH_ready (rs := [9]) (by kernel_rfl) (by simp) (AllReadyH.cons rfl (fun K hK => ?_) AllReadyH.nil)
          go_simp
          try rw [hU3]
          refine hK.out _ _ (HBU3.out) (fun hHeld => ?_)
          clear hK K
          rename_i hOld
          clear hOld
          (try simp only [Act.put, List.getElem_toArray, List.getElem_cons_zero, List.getElem_cons_succ, List.setIfInBounds_toArray, List.set_cons_zero, List.set_cons_succ])
          clear hHeld y0 y1 y2 y3 y4 y5 f0 f1 f2 f3 f4 f5 p0 p1 p2 p3 p4 p5 g0 g1 g2 g3 g4 g5 hU2 hU3
          refine wpAnyH_done (by kernel_rfl) ?_ _
          go_wp2_with fail
          go_meet
          exact ⟨bA, bB, aa, ac, ara, arc, aoa, aoc, ba, bc, bra, brc, boa, boc, rfl, rfl, HA3'.out, HB3'.out, HSA3.out.1, HSB3.out.1, HBU3.out⟩
        · go_simp
          refine hK.out _ _ (mem_then HB_18.out (mem_alloc _ _)) (fun hHeld => ?_)
          clear hK K
          rename_i hOld
          clear hOld
          (try simp only [Act.put, List.getElem_toArray, List.getElem_cons_zero, List.getElem_cons_succ, List.setIfInBounds_toArray, List.set_cons_zero, List.set_cons_succ])
          have hz_21 : (w_18.alloc zOc).heap[w_18.heap.size]? = some zOc := mem_new _ _
          have hzB_21 := mem_alloc w_18 zOc
          generalize hQ_21 : w_18.alloc zOc = U_21 at hz_21 hzB_21 hHeld ⊢
          clear hQ_21
          have HB_21 := Lib.hid (mem_then HB_18.out hzB_21)
          have hlo_21 := mem_lt HZA18.out
          have HNE : Hid (v1.heap.size ≠ w_18.heap.size) := fun e => by omega
          clear hlo_21
          have HGB : Hid (E0.heap.size ≤ w_18.heap.size) := HB_18.out.size
          have HZA21 := Lib.hid (mem_keep HZA18.out hzB_21)
          have HS4_21 := Lib.hid (And.intro (OcIn.below HS4_18.out.1 hzB_21) (OcTy.below HS4_18.out.2 hzB_21))
          have HZB21 := Lib.hid hz_21
          clear hz_21 hzB_21
          refine wpAnyH_ready (rs := [5]) (by kernel_rfl) (by simp) (AllReadyH.cons rfl (fun K hK => ?_) AllReadyH.nil)
          go_simp
          refine (J2.out U_21 HB_21.out).mono ?_
          rintro e w_22 ⟨ba, bc, bra, brc, boa, boc, rfl, hra, hB_22, _, hty⟩
          have HB_22 := Lib.hid (mem_then HB_21.out hB_22)
          have HZA22 := Lib.hid (mem_keep HZA21.out hB_22)
          have HZB22 := Lib.hid (mem_keep HZB21.out hB_22)
          have HS4_22 := Lib.hid (And.intro (OcIn.below HS4_21.out.1 hB_22) (OcTy.below HS4_21.out.2 hB_22))
          have HS9_22 := Lib.hid (And.intro hra hty)
          clear hra hty hB_22
          refine hK.out _ _ (HB_22.out) (fun hHeld => ?_)
          clear hK K
          rename_i hOld
          clear hOld
          (try simp only [Act.put, List.getElem_toArray, List.getElem_cons_zero, List.getElem_cons_succ, List.setIfInBounds_toArray, List.set_cons_zero, List.set_cons_succ])
          obtain ⟨bA, hbA⟩ : ∃ b, v1.heap.size = b := ⟨_, rfl⟩
          obtain ⟨bB, hbB⟩ : ∃ b, w_18.heap.size = b := ⟨_, rfl⟩
          have HZA := HZA22
          have HZB := HZB22
          have HSA := HS4_22
          have HSB := HS9_22
          have HBE := HB_22
          rw [hbA] at HZA HNE HGA
          rw [hbB] at HZB HNE HGB
          try rw [hbA]
          try rw [hbB]
          clear hbA hbB
          obtain ⟨EW, hEW⟩ : ∃ E : World, w_22 = E := ⟨_, rfl⟩
          rw [hEW] at HZA HZB HSA HSB HBE hHeld ⊢
          clear hEW
          obtain ⟨y0, y1, y2, y3, y4, y5⟩ := oc_cells HZA.out
          have f0 := mem_free HZA.out 0
          have f1 := mem_free HZA.out 1
          have f2 := mem_free HZA.out 2
          have f3 := mem_free HZA.out 3
          have f4 := mem_free HZA.out 4
          have f5 := mem_free HZA.out 5
          obtain ⟨U2, hU2⟩ : ∃ U2 : World, put6 EW bA (.slice aa R.arrays.length ac) (.slice ara R.objects.length arc) (.slice aoa R.out.length aoc) (.int .i64 (R.read : Int)) (.int .i64 (R.steps : Int)) (.int .i64 R.err) = U2 := ⟨_, rfl⟩
          have HFAR2 : Hid (∀ k, k ≠ bA → U2.heap[k]? = EW.heap[k]?) := fun k hk => by rw [← hU2]; exact put6_far hk
          have HA2' : Hid (U2.heap[bA]? = some (Oc.obj R aa ac ara arc aoa aoc)) := by show _ = _; rw [← hU2]; exact put6_at HZA.out
          have HZB2 : Hid (U2.heap[bB]? = some zOc) := (HFAR2.out bB (fun e => HNE.out e.symm)).trans HZB.out
          have HBU2 : Hid (Below E0.heap.size E0 U2) := by show Below _ _ _; rw [← hU2]; exact put6_below HBE.out HGA.out
          have HSA2 := Lib.hid (OcIn.stored HZA.out HFAR2.out HSA.out.1 HSA.out.2)
          have HSB2 := Lib.hid (OcIn.stored HZA.out HFAR2.out HSB.out.1 HSB.out.2)
          obtain ⟨p0, p1, p2, p3, p4, p5⟩ := oc_cells HZB2.out
          have g0 := mem_free HZB2.out 0
          have g1 := mem_free HZB2.out 1
          have g2 := mem_free HZB2.out 2
          have g3 := mem_free HZB2.out 3
          have g4 := mem_free HZB2.out 4
          have g5 := mem_free HZB2.out 5
          obtain ⟨U3, hU3⟩ : ∃ U3 : World, put6 U2 bB (.slice ba S.arrays.length bc) (.slice bra S.objects.length brc) (.slice boa S.out.length boc) (.int .i64 (S.read : Int)) (.int .i64 (S.steps : Int)) (.int .i64 S.err) = U3 := ⟨_, rfl⟩
          have HFAR3 : Hid (∀ k, k ≠ bB → U3.heap[k]? = U2.heap[k]?) := fun k hk => by rw [← hU3]; exact put6_far hk
          have HB3' : Hid (U3.heap[bB]? = some (Oc.obj S ba bc bra brc boa boc)) := by show _ = _; rw [← hU3]; exact put6_at HZB2.out
          have HA3' : Hid (U3.heap[bA]? = some (Oc.obj R aa ac ara arc aoa aoc)) := (HFAR3.out bA HNE.out).trans HA2'.out
          have HBU3 : Hid (Below E0.heap.size E0 U3) := by show Below _ _ _; rw [← hU3]; exact put6_below HBU2.out HGB.out
          have HSA3 := Lib.hid (OcIn.stored HZB2.out HFAR3.out HSA2.out.1 HSA2.out.2)
          have HSB3 := Lib.hid (OcIn.stored HZB2.out HFAR3.out HSB2.out.1 HSB2.out.2)
          unfold put6 at hU2 hU3
          refine wpAnyH_ready (rs := [8]) (by kernel_rfl) (by simp) (AllReadyH.cons rfl (fun K hK => ?_) AllReadyH.nil)
          go_simp
          try rw [hU2]
          refine hK.out _ _ (HBU2.out) (fun hHeld => ?_)
          clear hK K
          rename_i hOld
          clear hOld
          (try simp only [Act.put, List.getElem_toArray, List.getElem_cons_zero, List.getElem_cons_succ, List.setIfInBounds_toArray, List.set_cons_zero, List.set_cons_succ])
          refine wpAnyH_ready (rs := [9]) (by kernel_rfl) (by simp) (AllReadyH.cons rfl (fun K hK => ?_) AllReadyH.nil)
          go_simp
          try rw [hU3]
          refine hK.out _ _ (HBU3.out) (fun hHeld => ?_)
          clear hK K
          rename_i hOld
          clear hOld
          (try simp only [Act.put, List.getElem_toArray, List.getElem_cons_zero, List.getElem_cons_succ, List.setIfInBounds_toArray, List.set_cons_zero, List.set_cons_succ])
          clear hHeld y0 y1 y2 y3 y4 y5 f0 f1 f2 f3 f4 f5 p0 p1 p2 p3 p4 p5 g0 g1 g2 g3 g4 g5 hU2 hU3
          refine wpAnyH_done (by kernel_rfl) ?_ _
          go_wp2_with fail
          go_meet
          exact ⟨bA, bB, aa, ac, ara, arc, aoa, aoc, ba, bc, bra, brc, boa, boc, rfl, rfl, HA3'.out, HB3'.out, HSA3.out.1, HSB3.out.1, HBU3.out⟩
      · go_simp
        refine hK.out _ _ (mem_then HB_17.out (mem_alloc _ _)) (fun hHeld => ?_)
        clear hK K
        rename_i hOld
        clear hOld
        (try simp only [Act.put, List.getElem_toArray, List.getElem_cons_zero, List.getElem_cons_succ, List.setIfInBounds_toArray, List.set_cons_zero, List.set_cons_succ])
        have hz_23 : (U_17.alloc zOc).heap[U_17.heap.size]? = some zOc := mem_new _ _
        have hzB_23 := mem_alloc U_17 zOc
        generalize hQ_23 : U_17.alloc zOc = U_23 at hz_23 hzB_23 hHeld ⊢
        clear hQ_23
        have HB_23 := Lib.hid (mem_then HB_17.out hzB_23)
        have hlo_23 := mem_lt HZA17.out
        have HNE : Hid (v1.heap.size ≠ U_17.heap.size) := fun e => by omega
        clear hlo_23
        have HGB : Hid (E0.heap.size ≤ U_17.heap.size) := HB_17.out.size
        have HZA23 := Lib.hid (mem_keep HZA17.out hzB_23)
        have HZB23 := Lib.hid hz_23
        clear hz_23 hzB_23
        refine wpAnyH_ready (rs := [2]) (by kernel_rfl) (by simp) (AllReadyH.cons rfl (fun K hK => ?_) AllReadyH.nil)
        go_simp
        refine (J1.out U_23 HB_23.out).mono ?_
        rintro e w_24 ⟨aa, ac, ara, arc, aoa, aoc, rfl, hra, hB_24, _, hty⟩
        have HB_24 := Lib.hid (mem_then HB_23.out hB_24)
        have HZA24 := Lib.hid (mem_keep HZA23.out hB_24)
        have HZB24 := Lib.hid (mem_keep HZB23.out hB_24)
        have HS4_24 := Lib.hid (And.intro hra hty)
        clear hra hty hB_24
        refine hK.out _ _ (HB_24.out) (fun hHeld => ?_)
        clear hK K
        rename_i hOld
        clear hOld
        (try simp only [Act.put, List.getElem_toArray, List.getElem_cons_zero, List.getElem_cons_succ, List.setIfInBounds_toArray, List.set_cons_zero, List.set_cons_succ])
        refine wpAnyH_ready (rs := [5]) (by kernel_rfl) (by simp) (AllReadyH.cons rfl (fun K hK => ?_) AllReadyH.nil)
        go_simp
        refine (J2.out w_24 HB_24.out).mono ?_
        rintro e w_25 ⟨ba, bc, bra, brc, boa, boc, rfl, hra, hB_25, _, hty⟩
        have HB_25 := Lib.hid (mem_then HB_24.out hB_25)
        have HZA25 := Lib.hid (mem_keep HZA24.out hB_25)
        have HZB25 := Lib.hid (mem_keep HZB24.out hB_25)
        have HS4_25 := Lib.hid (And.intro (OcIn.below HS4_24.out.1 hB_25) (OcTy.below HS4_24.out.2 hB_25))
        have HS9_25 := Lib.hid (And.intro hra hty)
        clear hra hty hB_25
        refine hK.out _ _ (HB_25.out) (fun hHeld => ?_)
        clear hK K
        rename_i hOld
        clear hOld
        (try simp only [Act.put, List.getElem_toArray, List.getElem_cons_zero, List.getElem_cons_succ, List.setIfInBounds_toArray, List.set_cons_zero, List.set_cons_succ])
        obtain ⟨bA, hbA⟩ : ∃ b, v1.heap.size = b := ⟨_, rfl⟩
        obtain ⟨bB, hbB⟩ : ∃ b, U_17.heap.size = b := ⟨_, rfl⟩
        have HZA := HZA25
        have HZB := HZB25
        have HSA := HS4_25
        have HSB := HS9_25
        have HBE := HB_25
        rw [hbA] at HZA HNE HGA
        rw [hbB] at HZB HNE HGB
        try rw [hbA]
        try rw [hbB]
        clear hbA hbB
        obtain ⟨EW, hEW⟩ : ∃ E : World, w_25 = E := ⟨_, rfl⟩
        rw [hEW] at HZA HZB HSA HSB HBE hHeld ⊢
        clear hEW
        obtain ⟨y0, y1, y2, y3, y4, y5⟩ := oc_cells HZA.out
        have f0 := mem_free HZA.out 0
        have f1 := mem_free HZA.out 1
        have f2 := mem_free HZA.out 2
        have f3 := mem_free HZA.out 3
        have f4 := mem_free HZA.out 4
        have f5 := mem_free HZA.out 5
        obtain ⟨U2, hU2⟩ : ∃ U2 : World, put6 EW bA (.slice aa R.arrays.length ac) (.slice ara R.objects.length arc) (.slice aoa R.out.length aoc) (.int .i64 (R.read : Int)) (.int .i64 (R.steps : Int)) (.int .i64 R.err) = U2 := ⟨_, rfl⟩
        have HFAR2 : Hid (∀ k, k ≠ bA → U2.heap[k]? = EW.heap[k]?) := fun k hk => by rw [← hU2]; exact put6_far hk
        have HA2' : Hid (U2.heap[bA]? = some (Oc.obj R aa ac ara arc aoa aoc)) := by show _ = _; rw [← hU2]; exact put6_at HZA.out
        have HZB2 : Hid (U2.heap[bB]? = some zOc) := (HFAR2.out bB (fun e => HNE.out e.symm)).trans HZB.out
        have HBU2 : Hid (Below E0.heap.size E0 U2) := by show Below _ _ _; rw [← hU2]; exact put6_below HBE.out HGA.out
        have HSA2 := Lib.hid (OcIn.stored HZA.out HFAR2.out HSA.out.1 HSA.out.2)
        have HSB2 := Lib.hid (OcIn.stored HZA.out HFAR2.out HSB.out.1 HSB.out.2)
        obtain ⟨p0, p1, p2, p3, p4, p5⟩ := oc_cells HZB2.out
        have g0 := mem_free HZB2.out 0
        have g1 := mem_free HZB2.out 1
        have g2 := mem_free HZB2.out 2
        have g3 := mem_free HZB2.out 3
        have g4 := mem_free HZB2.out 4
        have g5 := mem_free HZB2.out 5
        obtain ⟨U3, hU3⟩ : ∃ U3 : World, put6 U2 bB (.slice ba S.arrays.length bc) (.slice bra S.objects.length brc) (.slice boa S.out.length boc) (.int .i64 (S.read : Int)) (.int .i64 (S.steps : Int)) (.int .i64 S.err) = U3 := ⟨_, rfl⟩
        have HFAR3 : Hid (∀ k, k ≠ bB → U3.heap[k]? = U2.heap[k]?) := fun k hk => by rw [← hU3]; exact put6_far hk
        have HB3' : Hid (U3.heap[bB]? = some (Oc.obj S ba bc bra brc boa boc)) := by show _ = _; rw [← hU3]; exact put6_at HZB2.out
        have HA3' : Hid (U3.heap[bA]? = some (Oc.obj R aa ac ara arc aoa aoc)) := (HFAR3.out bA HNE.out).trans HA2'.out
        have HBU3 : Hid (Below E0.heap.size E0 U3) := by show Below _ _ _; rw [← hU3]; exact put6_below HBU2.out HGB.out
        have HSA3 := Lib.hid (OcIn.stored HZB2.out HFAR3.out HSA2.out.1 HSA2.out.2)
        have HSB3 := Lib.hid (OcIn.stored HZB2.out HFAR3.out HSB2.out.1 HSB2.out.2)
        unfold put6 at hU2 hU3
        refine wpAnyH_ready (rs := [8]) (by kernel_rfl) (by simp) (AllReadyH.cons rfl (fun K hK => ?_) AllReadyH.nil)
        go_simp
        try rw [hU2]
        refine hK.out _ _ (HBU2.out) (fun hHeld => ?_)
        clear hK K
        rename_i hOld
        clear hOld
        (try simp only [Act.put, List.getElem_toArray, List.getElem_cons_zero, List.getElem_cons_succ, List.setIfInBounds_toArray, List.set_cons_zero, List.set_cons_succ])
        refine wpAnyH_ready (rs := [9]) (by kernel_rfl) (by simp) (AllReadyH.cons rfl (fun K hK => ?_) AllReadyH.nil)
        go_simp
        try rw [hU3]
        refine hK.out _ _ (HBU3.out) (fun hHeld => ?_)
        clear hK K
        rename_i hOld
        clear hOld
        (try simp only [Act.put, List.getElem_toArray, List.getElem_cons_zero, List.getElem_cons_succ, List.setIfInBounds_toArray, List.set_cons_zero, List.set_cons_succ])
        clear hHeld y0 y1 y2 y3 y4 y5 f0 f1 f2 f3 f4 f5 p0 p1 p2 p3 p4 p5 g0 g1 g2 g3 g4 g5 hU2 hU3
        refine wpAnyH_done (by kernel_rfl) ?_ _
        go_wp2_with fail
        go_meet
        exact ⟨bA, bB, aa, ac, ara, arc, aoa, aoc, ba, bc, bra, brc, boa, boc, rfl, rfl, HA3'.out, HB3'.out, HSA3.out.1, HSB3.out.1, HBU3.out⟩
    · go_simp
      refine hK.out _ _ (mem_then HHV.out (mem_alloc _ _)) (fun hHeld => ?_)
      clear hK K
      rename_i hOld
      clear hOld
      (try simp only [Act.put, List.getElem_toArray, List.getElem_cons_zero, List.getElem_cons_succ, List.setIfInBounds_toArray, List.set_cons_zero, List.set_cons_succ])
      have hz_26 : (v1.alloc zOc).heap[v1.heap.size]? = some zOc := mem_new _ _
      have hzB_26 := mem_alloc v1 zOc
      generalize hQ_26 : v1.alloc zOc = U_26 at hz_26 hzB_26 hHeld ⊢
      clear hQ_26
      have HB_26 := Lib.hid (mem_then HHV.out hzB_26)
      have HGB : Hid (E0.heap.size ≤ v1.heap.size) := HHV.out.size
      have HZB26 := Lib.hid hz_26
      clear hz_26 hzB_26
      refine wpAnyH_ready (rs := [2, 6]) (by kernel_rfl) (by simp) (AllReadyH.cons rfl (fun K hK => ?_) (AllReadyH.cons rfl (fun K hK => ?_) AllReadyH.nil))
      · go_simp
        refine (J1.out U_26 HB_26.out).mono ?_
        rintro e w_27 ⟨aa, ac, ara, arc, aoa, aoc, rfl, hra, hB_27, _, hty⟩
        have HB_27 := Lib.hid (mem_then HB_26.out hB_27)
        have HZB27 := Lib.hid (mem_keep HZB26.out hB_27)
        have HS4_27 := Lib.hid (And.intro hra hty)
        clear hra hty hB_27
        refine hK.out _ _ (HB_27.out) (fun hHeld => ?_)
        clear hK K
        rename_i hOld
        clear hOld
        (try simp only [Act.put, List.getElem_toArray, List.getElem_cons_zero, List.getElem_cons_succ, List.setIfInBounds_toArray, List.set_cons_zero, List.set_cons_succ])
        refine wpAnyH_ready (rs := [5, 6]) (by kernel_rfl) (by simp) (AllReadyH.cons rfl (fun K hK => ?_) (AllReadyH.cons rfl (fun K hK => ?_) AllReadyH.nil))
        · go_simp
          refine (J2.out w_27 HB_27.out).mono ?_
          rintro e w_28 ⟨ba, bc, bra, brc, boa, boc, rfl, hra, hB_28, _, hty⟩
          have HB_28 := Lib.hid (mem_then HB_27.out hB_28)
          have HZB28 := Lib.hid (mem_keep HZB27.out hB_28)
          have HS4_28 := Lib.hid (And.intro (OcIn.below HS4_27.out.1 hB_28) (OcTy.below HS4_27.out.2 hB_28))
          have HS9_28 := Lib.hid (And.intro hra hty)
          clear hra hty hB_28
          refine hK.out _ _ (HB_28.out) (fun hHeld => ?_)
          clear hK K
          rename_i hOld
          clear hOld
          (try simp only [Act.put, List.getElem_toArray, List.getElem_cons_zero, List.getElem_cons_succ, List.setIfInBounds_toArray, List.set_cons_zero, List.set_cons_succ])
          refine wpAnyH_ready (rs := [6]) (by kernel_rfl) (by simp) (AllReadyH.cons rfl (fun K hK => ?_) AllReadyH.nil)
          go_simp
          refine hK.out _ _ (mem_then HB_28.out (mem_alloc _ _)) (fun hHeld => ?_)
          clear hK K
          rename_i hOld
          clear hOld
          (try simp only [Act.put, List.getElem_toArray, List.getElem_cons_zero, List.getElem_cons_succ, List.setIfInBounds_toArray, List.set_cons_zero, List.set_cons_succ])
          have hz_29 : (w_28.alloc zOc).heap[w_28.heap.size]? = some zOc := mem_new _ _
          have hzB_29 := mem_alloc w_28 zOc
          generalize hQ_29 : w_28.alloc zOc = U_29 at hz_29 hzB_29 hHeld ⊢
          clear hQ_29
          have HB_29 := Lib.hid (mem_then HB_28.out hzB_29)
          have hlo_29 := mem_lt HZB28.out
          have HNE : Hid (w_28.heap.size ≠ v1.heap.size) := fun e => by omega
          clear hlo_29
          have HGA : Hid (E0.heap.size ≤ w_28.heap.size) := HB_28.out.size
          have HZB29 := Lib.hid (mem_keep HZB28.out hzB_29)
          have HS4_29 := Lib.hid (And.intro (OcIn.below HS4_28.out.1 hzB_29) (OcTy.below HS4_28.out.2 hzB_29))
          have HS9_29 := Lib.hid (And.intro (OcIn.below HS9_28.out.1 hzB_29) (OcTy.below HS9_28.out.2 hzB_29))
          have HZA29 := Lib.hid hz_29
          clear hz_29 hzB_29
          obtain ⟨bA, hbA⟩ : ∃ b, w_28.heap.size = b := ⟨_, rfl⟩
          obtain ⟨bB, hbB⟩ : ∃ b, v1.heap.size = b := ⟨_, rfl⟩
          have HZA := HZA29
          have HZB := HZB29
          have HSA := HS4_29
          have HSB := HS9_29
          have HBE := HB_29
          rw [hbA] at HZA HNE HGA
          rw [hbB] at HZB HNE HGB
          try rw [hbA]
          try rw [hbB]
          clear hbA hbB
          obtain ⟨EW, hEW⟩ : ∃ E : World, U_29 = E := ⟨_, rfl⟩
          rw [hEW] at HZA HZB HSA HSB HBE hHeld ⊢
          clear hEW
          obtain ⟨y0, y1, y2, y3, y4, y5⟩ := oc_cells HZA.out
          have f0 := mem_free HZA.out 0
          have f1 := mem_free HZA.out 1
          have f2 := mem_free HZA.out 2
          have f3 := mem_free HZA.out 3
          have f4 := mem_free HZA.out 4
          have f5 := mem_free HZA.out 5
          obtain ⟨U2, hU2⟩ : ∃ U2 : World, put6 EW bA (.slice aa R.arrays.length ac) (.slice ara R.objects.length arc) (.slice aoa R.out.length aoc) (.int .i64 (R.read : Int)) (.int .i64 (R.steps : Int)) (.int .i64 R.err) = U2 := ⟨_, rfl⟩
          have HFAR2 : Hid (∀ k, k ≠ bA → U2.heap[k]? = EW.heap[k]?) := fun k hk => by rw [← hU2]; exact put6_far hk
          have HA2' : Hid (U2.heap[bA]? = some (Oc.obj R aa ac ara arc aoa aoc)) := by show _ = _; rw [← hU2]; exact put6_at HZA.out
          have HZB2 : Hid (U2.heap[bB]? = some zOc) := (HFAR2.out bB (fun e => HNE.out e.symm)).trans HZB.out
          have HBU2 : Hid (Below E0.heap.size E0 U2) := by show Below _ _ _; rw [← hU2]; exact put6_below HBE.out HGA.out
          have HSA2 := Lib.hid (OcIn.stored HZA.out HFAR2.out HSA.out.1 HSA.out.2)
          have HSB2 := Lib.hid (OcIn.stored HZA.out HFAR2.out HSB.out.1 HSB.out.2)
          obtain ⟨p0, p1, p2, p3, p4, p5⟩ := oc_cells HZB2.out
          have g0 := mem_free HZB2.out 0
          have g1 := mem_free HZB2.out 1
          have g2 := mem_free HZB2.out 2
          have g3 := mem_free HZB2.out 3
          have g4 := mem_free HZB2.out 4
          have g5 := mem_free HZB2.out 5
          obtain ⟨U3, hU3⟩ : ∃ U3 : World, put6 U2 bB (.slice ba S.arrays.length bc) (.slice bra S.objects.length brc) (.slice boa S.out.length boc) (.int .i64 (S.read : Int)) (.int .i64 (S.steps : Int)) (.int .i64 S.err) = U3 := ⟨_, rfl⟩
          have HFAR3 : Hid (∀ k, k ≠ bB → U3.heap[k]? = U2.heap[k]?) := fun k hk => by rw [← hU3]; exact put6_far hk
          have HB3' : Hid (U3.heap[bB]? = some (Oc.obj S ba bc bra brc boa boc)) := by show _ = _; rw [← hU3]; exact put6_at HZB2.out
          have HA3' : Hid (U3.heap[bA]? = some (Oc.obj R aa ac ara arc aoa aoc)) := (HFAR3.out bA HNE.out).trans HA2'.out
          have HBU3 : Hid (Below E0.heap.size E0 U3) := by show Below _ _ _; rw [← hU3]; exact put6_below HBU2.out HGB.out
          have HSA3 := Lib.hid (OcIn.stored HZB2.out HFAR3.out HSA2.out.1 HSA2.out.2)
          have HSB3 := Lib.hid (OcIn.stored HZB2.out HFAR3.out HSB2.out.1 HSB2.out.2)
          unfold put6 at hU2 hU3
          refine wpAnyH_ready (rs := [8]) (by kernel_rfl) (by simp) (AllReadyH.cons rfl (fun K hK => ?_) AllReadyH.nil)
          go_simp
          try rw [hU2]
          refine hK.out _ _ (HBU2.out) (fun hHeld => ?_)
          clear hK K
          rename_i hOld
          clear hOld
          (try simp only [Act.put, List.getElem_toArray, List.getElem_cons_zero, List.getElem_cons_succ, List.setIfInBounds_toArray, List.set_cons_zero, List.set_cons_succ])
          refine wpAnyH_ready (rs := [9]) (by kernel_rfl) (by simp) (AllReadyH.cons rfl (fun K hK => ?_) AllReadyH.nil)
          go_simp
          try rw [hU3]
          refine hK.out _ _ (HBU3.out) (fun hHeld => ?_)
          clear hK K
          rename_i hOld
          clear hOld
          (try simp only [Act.put, List.getElem_toArray, List.getElem_cons_zero, List.getElem_cons_succ, List.setIfInBounds_toArray, List.set_cons_zero, List.set_cons_succ])
          clear hHeld y0 y1 y2 y3 y4 y5 f0 f1 f2 f3 f4 f5 p0 p1 p2 p3 p4 p5 g0 g1 g2 g3 g4 g5 hU2 hU3
          refine wpAnyH_done (by kernel_rfl) ?_ _
          go_wp2_with fail
          go_meet
          exact ⟨bA, bB, aa, ac, ara, arc, aoa, aoc, ba, bc, bra, brc, boa, boc, rfl, rfl, HA3'.out, HB3'.out, HSA3.out.1, HSB3.out.1, HBU3.out⟩
        · go_simp
          refine hK.out _ _ (mem_then HB_27.out (mem_alloc _ _)) (fun hHeld => ?_)
          clear hK K
          rename_i hOld
          clear hOld
          (try simp only [Act.put, List.getElem_toArray, List.getElem_cons_zero, List.getElem_cons_succ, List.setIfInBounds_toArray, List.set_cons_zero, List.set_cons_succ])
          have hz_30 : (w_27.alloc zOc).heap[w_27.heap.size]? = some zOc := mem_new _ _
          have hzB_30 := mem_alloc w_27 zOc
          generalize hQ_30 : w_27.alloc zOc = U_30 at hz_30 hzB_30 hHeld ⊢
          clear hQ_30
          have HB_30 := Lib.hid (mem_then HB_27.out hzB_30)
          have hlo_30 := mem_lt HZB27.out
          have HNE : Hid (w_27.heap.size ≠ v1.heap.size) := fun e => by omega
          clear hlo_30
          have HGA : Hid (E0.heap.size ≤ w_27.heap.size) := HB_27.out.size
          have HZB30 := Lib.hid (mem_keep HZB27.out hzB_30)
          have HS4_30 := Lib.hid (And.intro (OcIn.below HS4_27.out.1 hzB_30) (OcTy.below HS4_27.out.2 hzB_30))
          have HZA30 := Lib.hid hz_30
          clear hz_30 hzB_30
          refine wpAnyH_ready (rs := [5]) (by kernel_rfl) (by simp) (AllReadyH.cons rfl (fun K hK => ?_) AllReadyH.nil)
          go_simp
          refine (J2.out U_30 HB_30.out).mono ?_
          rintro e w_31 ⟨ba, bc, bra, brc, boa, boc, rfl, hra, hB_31, _, hty⟩
          have HB_31 := Lib.hid (mem_then HB_30.out hB_31)
          have HZA31 := Lib.hid (mem_keep HZA30.out hB_31)
          have HZB31 := Lib.hid (mem_keep HZB30.out hB_31)
          have HS4_31 := Lib.hid (And.intro (OcIn.below HS4_30.out.1 hB_31) (OcTy.below HS4_30.out.2 hB_31))
          have HS9_31 := Lib.hid (And.intro hra hty)
          clear hra hty hB_31
          refine hK.out _ _ (HB_31.out) (fun hHeld => ?_)
          clear hK K
          rename_i hOld
          clear hOld
          (try simp only [Act.put, List.getElem_toArray, List.getElem_cons_zero, List.getElem_cons_succ, List.setIfInBounds_toArray, List.set_cons_zero, List.set_cons_succ])
          obtain ⟨bA, hbA⟩ : ∃ b, w_27.heap.size = b := ⟨_, rfl⟩
          obtain ⟨bB, hbB⟩ : ∃ b, v1.heap.size = b := ⟨_, rfl⟩
          have HZA := HZA31
          have HZB := HZB31
          have HSA := HS4_31
          have HSB := HS9_31
          have HBE := HB_31
          rw [hbA] at HZA HNE HGA
          rw [hbB] at HZB HNE HGB
          try rw [hbA]
          try rw [hbB]
          clear hbA hbB
          obtain ⟨EW, hEW⟩ : ∃ E : World, w_31 = E := ⟨_, rfl⟩
          rw [hEW] at HZA HZB HSA HSB HBE hHeld ⊢
          clear hEW
          obtain ⟨y0, y1, y2, y3, y4, y5⟩ := oc_cells HZA.out
          have f0 := mem_free HZA.out 0
          have f1 := mem_free HZA.out 1
          have f2 := mem_free HZA.out 2
          have f3 := mem_free HZA.out 3
          have f4 := mem_free HZA.out 4
          have f5 := mem_free HZA.out 5
          obtain ⟨U2, hU2⟩ : ∃ U2 : World, put6 EW bA (.slice aa R.arrays.length ac) (.slice ara R.objects.length arc) (.slice aoa R.out.length aoc) (.int .i64 (R.read : Int)) (.int .i64 (R.steps : Int)) (.int .i64 R.err) = U2 := ⟨_, rfl⟩
          have HFAR2 : Hid (∀ k, k ≠ bA → U2.heap[k]? = EW.heap[k]?) := fun k hk => by rw [← hU2]; exact put6_far hk
          have HA2' : Hid (U2.heap[bA]? = some (Oc.obj R aa ac ara arc aoa aoc)) := by show _ = _; rw [← hU2]; exact put6_at HZA.out
          have HZB2 : Hid (U2.heap[bB]? = some zOc) := (HFAR2.out bB (fun e => HNE.out e.symm)).trans HZB.out
          have HBU2 : Hid (Below E0.heap.size E0 U2) := by show Below _ _ _; rw [← hU2]; exact put6_below HBE.out HGA.out
          have HSA2 := Lib.hid (OcIn.stored HZA.out HFAR2.out HSA.out.1 HSA.out.2)
          have HSB2 := Lib.hid (OcIn.stored HZA.out HFAR2.out HSB.out.1 HSB.out.2)
          obtain ⟨p0, p1, p2, p3, p4, p5⟩ := oc_cells HZB2.out
          have g0 := mem_free HZB2.out 0
          have g1 := mem_free HZB2.out 1
          have g2 := mem_free HZB2.out 2
          have g3 := mem_free HZB2.out 3
          have g4 := mem_free HZB2.out 4
          have g5 := mem_free HZB2.out 5
          obtain ⟨U3, hU3⟩ : ∃ U3 : World, put6 U2 bB (.slice ba S.arrays.length bc) (.slice bra S.objects.length brc) (.slice boa S.out.length boc) (.int .i64 (S.read : Int)) (.int .i64 (S.steps : Int)) (.int .i64 S.err) = U3 := ⟨_, rfl⟩
          have HFAR3 : Hid (∀ k, k ≠ bB → U3.heap[k]? = U2.heap[k]?) := fun k hk => by rw [← hU3]; exact put6_far hk
          have HB3' : Hid (U3.heap[bB]? = some (Oc.obj S ba bc bra brc boa boc)) := by show _ = _; rw [← hU3]; exact put6_at HZB2.out
          have HA3' : Hid (U3.heap[bA]? = some (Oc.obj R aa ac ara arc aoa aoc)) := (HFAR3.out bA HNE.out).trans HA2'.out
          have HBU3 : Hid (Below E0.heap.size E0 U3) := by show Below _ _ _; rw [← hU3]; exact put6_below HBU2.out HGB.out
          have HSA3 := Lib.hid (OcIn.stored HZB2.out HFAR3.out HSA2.out.1 HSA2.out.2)
          have HSB3 := Lib.hid (OcIn.stored HZB2.out HFAR3.out HSB2.out.1 HSB2.out.2)
          unfold put6 at hU2 hU3
          refine wpAnyH_ready (rs := [8]) (by kernel_rfl) (by simp) (AllReadyH.cons rfl (fun K hK => ?_) AllReadyH.nil)
          go_simp
          try rw [hU2]
          refine hK.out _ _ (HBU2.out) (fun hHeld => ?_)
          clear hK K
          rename_i hOld
          clear hOld
          (try simp only [Act.put, List.getElem_toArray, List.getElem_cons_zero, List.getElem_cons_succ, List.setIfInBounds_toArray, List.set_cons_zero, List.set_cons_succ])
          refine wpAnyH_ready (rs := [9]) (by kernel_rfl) (by simp) (AllReadyH.cons rfl (fun K hK => ?_) AllReadyH.nil)
          go_simp
          try rw [hU3]
          refine hK.out _ _ (HBU3.out) (fun hHeld => ?_)
          clear hK K
          rename_i hOld
          clear hOld
          (try simp only [Act.put, List.getElem_toArray, List.getElem_cons_zero, List.getElem_cons_succ, List.setIfInBounds_toArray, List.set_cons_zero, List.set_cons_succ])
          clear hHeld y0 y1 y2 y3 y4 y5 f0 f1 f2 f3 f4 f5 p0 p1 p2 p3 p4 p5 g0 g1 g2 g3 g4 g5 hU2 hU3
          refine wpAnyH_done (by kernel_rfl) ?_ _
          go_wp2_with fail
          go_meet
          exact ⟨bA, bB, aa, ac, ara, arc, aoa, aoc, ba, bc, bra, brc, boa, boc, rfl, rfl, HA3'.out, HB3'.out, HSA3.out.1, HSB3.out.1, HBU3.out⟩
      · go_simp
        refine hK.out _ _ (mem_then HB_26.out (mem_alloc _ _)) (fun hHeld => ?_)
        clear hK K
        rename_i hOld
        clear hOld
        (try simp only [Act.put, List.getElem_toArray, List.getElem_cons_zero, List.getElem_cons_succ, List.setIfInBounds_toArray, List.set_cons_zero, List.set_cons_succ])
        have hz_32 : (U_26.alloc zOc).heap[U_26.heap.size]? = some zOc := mem_new _ _
        have hzB_32 := mem_alloc U_26 zOc
        generalize hQ_32 : U_26.alloc zOc = U_32 at hz_32 hzB_32 hHeld ⊢
        clear hQ_32
        have HB_32 := Lib.hid (mem_then HB_26.out hzB_32)
        have hlo_32 := mem_lt HZB26.out
        have HNE : Hid (U_26.heap.size ≠ v1.heap.size) := fun e => by omega
        clear hlo_32
        have HGA : Hid (E0.heap.size ≤ U_26.heap.size) := HB_26.out.size
        have HZB32 := Lib.hid (mem_keep HZB26.out hzB_32)
        have HZA32 := Lib.hid hz_32
        clear hz_32 hzB_32
        refine wpAnyH_ready (rs := [2]) (by kernel_rfl) (by simp) (AllReadyH.cons rfl (fun K hK => ?_) AllReadyH.nil)
        go_simp
        refine (J1.out U_32 HB_32.out).mono ?_
        rintro e w_33 ⟨aa, ac, ara, arc, aoa, aoc, rfl, hra, hB_33, _, hty⟩
        have HB_33 := Lib.hid (mem_then HB_32.out hB_33)
        have HZA33 := Lib.hid (mem_keep HZA32.out hB_33)
        have HZB33 := Lib.hid (mem_keep HZB32.out hB_33)
        have HS4_33 := Lib.hid (And.intro hra hty)
        clear hra hty hB_33
        refine hK.out _ _ (HB_33.out) (fun hHeld => ?_)
        clear hK K
        rename_i hOld
        clear hOld
        (try simp only [Act.put, List.getElem_toArray, List.getElem_cons_zero, List.getElem_cons_succ, List.setIfInBounds_toArray, List.set_cons_zero, List.set_cons_succ])
        refine wpAnyH_ready (rs := [5]) (by kernel_rfl) (by simp) (AllReadyH.cons rfl (fun K hK => ?_) AllReadyH.nil)
        go_simp
        refine (J2.out w_33 HB_33.out).mono ?_
        rintro e w_34 ⟨ba, bc, bra, brc, boa, boc, rfl, hra, hB_34, _, hty⟩
        have HB_34 := Lib.hid (mem_then HB_33.out hB_34)
        have HZA34 := Lib.hid (mem_keep HZA33.out hB_34)
        have HZB34 := Lib.hid (mem_keep HZB33.out hB_34)
        have HS4_34 := Lib.hid (And.intro (OcIn.below HS4_33.out.1 hB_34) (OcTy.below HS4_33.out.2 hB_34))
        have HS9_34 := Lib.hid (And.intro hra hty)
        clear hra hty hB_34
        refine hK.out _ _ (HB_34.out) (fun hHeld => ?_)
        clear hK K
        rename_i hOld
        clear hOld
        (try simp only [Act.put, List.getElem_toArray, List.getElem_cons_zero, List.getElem_cons_succ, List.setIfInBounds_toArray, List.set_cons_zero, List.set_cons_succ])
        obtain ⟨bA, hbA⟩ : ∃ b, U_26.heap.size = b := ⟨_, rfl⟩
        obtain ⟨bB, hbB⟩ : ∃ b, v1.heap.size = b := ⟨_, rfl⟩
        have HZA := HZA34
        have HZB := HZB34
        have HSA := HS4_34
        have HSB := HS9_34
        have HBE := HB_34
        rw [hbA] at HZA HNE HGA
        rw [hbB] at HZB HNE HGB
        try rw [hbA]
        try rw [hbB]
        clear hbA hbB
        obtain ⟨EW, hEW⟩ : ∃ E : World, w_34 = E := ⟨_, rfl⟩
        rw [hEW] at HZA HZB HSA HSB HBE hHeld ⊢
        clear hEW
        obtain ⟨y0, y1, y2, y3, y4, y5⟩ := oc_cells HZA.out
        have f0 := mem_free HZA.out 0
        have f1 := mem_free HZA.out 1
        have f2 := mem_free HZA.out 2
        have f3 := mem_free HZA.out 3
        have f4 := mem_free HZA.out 4
        have f5 := mem_free HZA.out 5
        obtain ⟨U2, hU2⟩ : ∃ U2 : World, put6 EW bA (.slice aa R.arrays.length ac) (.slice ara R.objects.length arc) (.slice aoa R.out.length aoc) (.int .i64 (R.read : Int)) (.int .i64 (R.steps : Int)) (.int .i64 R.err) = U2 := ⟨_, rfl⟩
        have HFAR2 : Hid (∀ k, k ≠ bA → U2.heap[k]? = EW.heap[k]?) := fun k hk => by rw [← hU2]; exact put6_far hk
        have HA2' : Hid (U2.heap[bA]? = some (Oc.obj R aa ac ara arc aoa aoc)) := by show _ = _; rw [← hU2]; exact put6_at HZA.out
        have HZB2 : Hid (U2.heap[bB]? = some zOc) := (HFAR2.out bB (fun e => HNE.out e.symm)).trans HZB.out
        have HBU2 : Hid (Below E0.heap.size E0 U2) := by show Below _ _ _; rw [← hU2]; exact put6_below HBE.out HGA.out
        have HSA2 := Lib.hid (OcIn.stored HZA.out HFAR2.out HSA.out.1 HSA.out.2)
        have HSB2 := Lib.hid (OcIn.stored HZA.out HFAR2.out HSB.out.1 HSB.out.2)
        obtain ⟨p0, p1, p2, p3, p4, p5⟩ := oc_cells HZB2.out
        have g0 := mem_free HZB2.out 0
        have g1 := mem_free HZB2.out 1
        have g2 := mem_free HZB2.out 2
        have g3 := mem_free HZB2.out 3
        have g4 := mem_free HZB2.out 4
        have g5 := mem_free HZB2.out 5
        obtain ⟨U3, hU3⟩ : ∃ U3 : World, put6 U2 bB (.slice ba S.arrays.length bc) (.slice bra S.objects.length brc) (.slice boa S.out.length boc) (.int .i64 (S.read : Int)) (.int .i64 (S.steps : Int)) (.int .i64 S.err) = U3 := ⟨_, rfl⟩
        have HFAR3 : Hid (∀ k, k ≠ bB → U3.heap[k]? = U2.heap[k]?) := fun k hk => by rw [← hU3]; exact put6_far hk
        have HB3' : Hid (U3.heap[bB]? = some (Oc.obj S ba bc bra brc boa boc)) := by show _ = _; rw [← hU3]; exact put6_at HZB2.out
        have HA3' : Hid (U3.heap[bA]? = some (Oc.obj R aa ac ara arc aoa aoc)) := (HFAR3.out bA HNE.out).trans HA2'.out
        have HBU3 : Hid (Below E0.heap.size E0 U3) := by show Below _ _ _; rw [← hU3]; exact put6_below HBU2.out HGB.out
        have HSA3 := Lib.hid (OcIn.stored HZB2.out HFAR3.out HSA2.out.1 HSA2.out.2)
        have HSB3 := Lib.hid (OcIn.stored HZB2.out HFAR3.out HSB2.out.1 HSB2.out.2)
        unfold put6 at hU2 hU3
        refine wpAnyH_ready (rs := [8]) (by kernel_rfl) (by simp) (AllReadyH.cons rfl (fun K hK => ?_) AllReadyH.nil)
        go_simp
        try rw [hU2]
        refine hK.out _ _ (HBU2.out) (fun hHeld => ?_)
        clear hK K
        rename_i hOld
        clear hOld
        (try simp only [Act.put, List.getElem_toArray, List.getElem_cons_zero, List.getElem_cons_succ, List.setIfInBounds_toArray, List.set_cons_zero, List.set_cons_succ])
        refine wpAnyH_ready (rs := [9]) (by kernel_rfl) (by simp) (AllReadyH.cons rfl (fun K hK => ?_) AllReadyH.nil)
        go_simp
        try rw [hU3]
        refine hK.out _ _ (HBU3.out) (fun hHeld => ?_)
        clear hK K
        rename_i hOld
        clear hOld
        (try simp only [Act.put, List.getElem_toArray, List.getElem_cons_zero, List.getElem_cons_succ, List.setIfInBounds_toArray, List.set_cons_zero, List.set_cons_succ])
        clear hHeld y0 y1 y2 y3 y4 y5 f0 f1 f2 f3 f4 f5 p0 p1 p2 p3 p4 p5 g0 g1 g2 g3 g4 g5 hU2 hU3
        refine wpAnyH_done (by kernel_rfl) ?_ _
        go_wp2_with fail
        go_meet
        exact ⟨bA, bB, aa, ac, ara, arc, aoa, aoc, ba, bc, bra, brc, boa, boc, rfl, rfl, HA3'.out, HB3'.out, HSA3.out.1, HSB3.out.1, HBU3.out⟩
  case rest =>
    obtain ⟨d1, d2, va, vac, vo, voc, vu, vuc, xa, xac, xo, xoc, xu, xuc, rfl, rfl, hxr, hxs, hrr, hrx, hBE⟩ := hcut
    obtain ⟨G, hGc⟩ : ∃ G : World, G = wc := ⟨_, rfl⟩
    subst hGc
    have HBG := Lib.hid hBE
    have HXR := Lib.hid hxr
    have HXS := Lib.hid hxs
    have HRR := Lib.hid hrr
    have HRX := Lib.hid hrx
    have HBW := Lib.hid (mem_then HB.out hBE)
    obtain ⟨x0, x1, x2, x3, x4, x5⟩ := oc_cells hxr
    obtain ⟨z0, z1, z2, z3, z4, z5⟩ := oc_cells hxs
    clear hrr hrx hBE hxr hxs
    by_cases h13 : R.err = 13
    · have b1' : decide (R.err = 13) = true := decide_eq_true h13
      have b1 : (R.err == 13) = true := by simpa using h13
      clear h13
      go_wp2_with fail
      go_ret
      exact ⟨rfl, HBW.out⟩
    have b1 : (R.err == 13) = false := by simpa using h13
    have b1' : decide (R.err = 13) = false := decide_eq_false h13
    by_cases h14 : S.err = 13
    · have b2' : decide (S.err = 13) = true := decide_eq_true h14
      have b2 : (S.err == 13) = true := by simpa using h14
      clear h13 h14
      go_wp2_with fail
      go_ret
      exact ⟨rfl, HBW.out⟩
    have b2 : (S.err == 13) = false := by simpa using h14
    have b2' : decide (S.err = 13) = false := decide_eq_false h14
    by_cases h15 : R.err = 3
    · have b3' : decide (R.err = 3) = true := decide_eq_true h15
      have b3 : (R.err == 3) = true := by simpa using h15
      clear h13 h14 h15
      go_wp2_with fail
      go_ret
      exact ⟨rfl, HBW.out⟩
    have b3 : (R.err == 3) = false := by simpa using h15
    have b3' : decide (R.err = 3) = false := decide_eq_false h15
    have hlike : Oc.like R S := by
      rcases HRS.out with h | h | h
      · exact absurd h h15
      · exact absurd h h14
      · exact h
    clear h13 h14 h15 HRS
    obtain ⟨Sa, So, Su, Sr, Ss, Se⟩ := S
    obtain ⟨rfl, rfl, rfl, rfl, rfl⟩ := hlike
    clear b2 b2'
    go_wp2_with fail
    clear x0 x1 x2 x3 x4 x5 z0 z1 z2 z3 z4 z5
    refine (outs19_any R.out vu xu vuc xuc _ HRR.out.2.2 HRX.out.2.2).mono ?_
    rintro e G1 ⟨rfl, hD1⟩
    have HD1 := Lib.hid (below_drew hD1)
    have HB1 := Lib.hid (mem_then HBW.out (below_drew hD1))
    obtain ⟨x0, x1, x2, x3, x4, x5⟩ := oc_cells (mem_keep HXR.out (below_drew hD1))
    obtain ⟨z0, z1, z2, z3, z4, z5⟩ := oc_cells (mem_keep HXS.out (below_drew hD1))
    clear hD1
    go_wp2_with fail
    clear x0 x1 x2 x3 x4 x5 z0 z1 z2 z3 z4 z5
    refine (words19_any R.arrays va xa vac xac _ (HRR.out.1.below HD1.out) (HRX.out.1.below HD1.out)).mono ?_
    rintro e G2 ⟨rfl, hD2⟩
    have HD2 := Lib.hid (mem_then HD1.out (below_drew hD2))
    have HB2 := Lib.hid (mem_then HB1.out (below_drew hD2))
    clear hD2
    obtain ⟨x0, x1, x2, x3, x4, x5⟩ := oc_cells (mem_keep HXR.out HD2.out)
    obtain ⟨z0, z1, z2, z3, z4, z5⟩ := oc_cells (mem_keep HXS.out HD2.out)
    go_wp2_with fail
    clear x0 x1 x2 x3 x4 x5 z0 z1 z2 z3 z4 z5
    refine (words19_any R.objects vo xo voc xoc _ (HRR.out.2.1.below HD2.out) (HRX.out.2.1.below HD2.out)).mono ?_
    rintro e G3 ⟨rfl, hD3⟩
    have HB3 := Lib.hid (mem_then HB2.out (below_drew hD3))
    clear hD3
    go_wp2_with fail
    go_ret
    exact ⟨rfl, HB3.out⟩
end Go.Proofs.YteknhnnlhhgppaaDoor
