/-
  The law CheckUndeclared: without the declaration of a scalar variable exactly its mentions are faults.
-/
import Derived.Test.YtnegdmhmhdojbaaDoorChkUndeclP
import Derived.Test.YtnegdmhmhdojbaaDoorApps
import Derived.Test.YtnegdmhmhdojbaaDoorSmalls
import Derived.Test.YtnegdmhmhdojbaaDoorChkAwake
namespace Go.Proofs.YtnegdmhmhdojbaaDoor
set_option linter.unusedVariables false
set_option linter.unusedSimpArgs false
open Go.RowKit
set_option maxRecDepth 100000
set_option maxHeartbeats 80000000

theorem str_info : (Tryd.prog.info? 9).map (fun i => (i.zero, i.size, i.bytes)) = some (some (.string ⟨#[]⟩), 1, 16) := by kernel_rfl
theorem StrsAt.take {w : World} {a : Option Addr} {l : List ByteArray} (h : StrsAt w a l) (j : Nat) : StrsAt w a (l.take j) := by
  refine ⟨by have := h.1; rw [List.length_take]; omega, fun i hi => ?_⟩
  rw [List.length_take] at hi
  obtain ⟨b, off, ha, hc, hs⟩ := h.2 i (by omega)
  have e : (l.take j).getD i ⟨#[]⟩ = l.getD i ⟨#[]⟩ := by
    simp only [List.getD_eq_getElem?_getD]
    rw [List.getElem?_take_of_lt (by omega)]
  rw [e]
  exact ⟨b, off, ha, hc, hs⟩
theorem StrsAt.drop {w : World} {vb vo : Nat} {l : List ByteArray} (h : StrsAt w (some ⟨vb, vo, none⟩) l) (j : Nat) : StrsAt w (some ⟨vb, vo + j, none⟩) (l.drop j) := by
  refine ⟨by have := h.1; rw [List.length_drop]; omega, fun i hi => ?_⟩
  rw [List.length_drop] at hi
  obtain ⟨b, off, ha, hc, hs⟩ := h.2 (j + i) (by omega)
  cases ha
  have e : (l.drop j).getD i ⟨#[]⟩ = l.getD (j + i) ⟨#[]⟩ := by
    simp only [List.getD_eq_getElem?_getD]
    rw [List.getElem?_drop]
  rw [e]
  exact ⟨vb, vo + j, rfl, by rw [show vo + j + i = vo + (j + i) by omega]; exact hc, hs⟩
theorem list13 {α : Type} {l : List α} (h : l.length = 13) : ∃ a0 a1 a2 a3 a4 a5 a6 a7 a8 a9 a10 a11 a12, l = [a0, a1, a2, a3, a4, a5, a6, a7, a8, a9, a10, a11, a12] := by
  match l, h with
  | [a0, a1, a2, a3, a4, a5, a6, a7, a8, a9, a10, a11, a12], _ => exact ⟨a0, a1, a2, a3, a4, a5, a6, a7, a8, a9, a10, a11, a12, rfl⟩
/-- the row is stored, the other objects stay -/
theorem AppSt.put2 {W w : World} {Ks : List (Nat × Obj)} {e : TypeId} {size n ub k c : Nat} {xs : List Value} {A : Option Addr} {arr : Array Value} {T : TypeId} (h : AppSt W Ks e size (.slice A n c) n xs w) (hu : (ub, Obj.cells arr T) ∈ Ks) (hW : W.heap.size ≤ ub) :
    AppEnd W ub arr T e size k n xs (w.setCell ⟨ub, k, none⟩ (.slice A n c)) ∧ ∀ x ∈ Ks, x.1 ≠ ub → (w.setCell ⟨ub, k, none⟩ (.slice A n c)).heap[x.1]? = some x.2 :=
  ⟨h.put hu hW, fun x hx hn => (Below.heap_setCell _ _ _ _ hn).trans (h.blk x hx).1⟩
/-- what region 9 leaves -/
def UdEnd (W : World) (t : Tsk) (y : Nat) (q : TskPlace) (nb : Nat) (name : ByteArray) (w' : World) : Prop :=
  ∃ A c, w'.heap[W.heap.size]? = some (tskObj (dropV t y) ⟨A, c, q.aa, q.ac, q.ka, q.kc⟩) ∧ StrsAt w' A (dropV t y).vars ∧ w'.heap[nb]? = some (.cells #[.string name] 9) ∧ Below W.heap.size W w'
theorem ud_end {w2 w' : World} {t : Tsk} {y nb : Nat} {q : TskPlace} {v : ByteArray} (hy : y < t.vars.length) (hs : ∀ s ∈ t.vars, s.size ≤ 9223372036854775807) (hn : w2.heap.size < nb)
    (h : AppEnd w2 w2.heap.size (t.cells q) 45 9 1 2 (y + (t.vars.length - (y + 1))) ((t.vars.take y).map Value.string ++ (t.vars.drop (y + 1)).map Value.string) w' ∧ ∀ x ∈ [(w2.heap.size, tskObj t q), (nb, Obj.cells #[Value.string v] 9)], x.1 ≠ w2.heap.size → w'.heap[x.1]? = some x.2) : UdEnd w2 t y q nb v w' := by
  obtain ⟨⟨A, c, hbx, hown, hBe⟩, hks⟩ := h
  refine ⟨A, c, ?_, ?_, hks (nb, .cells #[.string v] 9) (by simp) (fun e => by have e : nb = w2.heap.size := e; omega), hBe⟩
  · show _ = some (Obj.cells #[.string t.name, .int .i64 t.period, .slice A (t.vars.take y ++ t.vars.drop (y + 1)).length c, .slice q.aa t.arrays.length q.ac, .int .u8 t.body.kind, .int .i64 t.body.num, .string t.body.name, .slice q.ka t.body.len q.kc] 45)
    rw [List.length_append, List.length_take, List.length_drop, Nat.min_eq_left (by omega)]
    exact hbx
  · show StrsAt w' A (t.vars.take y ++ t.vars.drop (y + 1))
    refine strs_own (c := c) (by rw [List.length_append, List.length_take, List.length_drop, Nat.min_eq_left (by omega), List.map_append]; exact hown) (fun s hs' => ?_)
    refine hs s ?_
    rcases List.mem_append.1 hs' with hs' | hs'
    · exact List.mem_of_mem_take hs'
    · exact List.mem_of_mem_drop hs'
/-- the contract of the closure -/
theorem isVar_any (name : ByteArray) (nb : Nat) (x : Tree) (w : World) (a : Option Addr) (c : Nat) (hx : Rep w x a) (hn : w.heap[nb]? = some (.cells #[.string name] 9)) :
    Calls Tryd.prog 30 #[x.val a c, .pointer (some ⟨nb, 0, none⟩)] w fun e w' => e = .returned (.bool (isVarF name x)) ∧ Below w.heap.size w w' := by
  have HN := Lib.hid hn
  have hfit := hx.fits
  have c0 := mem_cell hn 0
  simp only [List.getElem?_toArray, List.getElem?_cons_zero] at c0
  have hlt := mem_lt hn
  clear hn hx
  go_enter Tryd.func30, Tryd.ntmps30
  by_cases h1 : x.kind = 2
  · have hb1 : (x.kind == 2) = true := by simp [h1]
    by_cases h2 : x.name = name
    · have hb2 : (x.name.toList == name.toList) = true := by simp [h2]
      have HE : Hid (isVarF name x = true) := by show _ = _; unfold isVarF; simp [h1, h2]
      clear h1 h2
      go_wp2_with fail
      go_ret
      exact ⟨by rw [HE.out]; rfl, mem_alloc _ _⟩
    · have hb2 : (x.name.toList == name.toList) = false := by
        rw [beq_eq_false_iff_ne]
        exact fun h => h2 (ByteArray.ext (Array.toList_inj.1 (by rw [ByteArray.toList_eq, ByteArray.toList_eq] at h; exact h)))
      have HE : Hid (isVarF name x = false) := by show _ = _; unfold isVarF; simp [h2]
      clear h1 h2
      go_wp2_with fail
      go_ret
      exact ⟨by rw [HE.out]; rfl, mem_alloc _ _⟩
  · have hb1 : (x.kind == 2) = false := by simpa using h1
    have HE : Hid (isVarF name x = false) := by show _ = _; unfold isVarF; simp [h1]
    clear h1
    go_wp2_with fail
    go_ret
    exact ⟨by rw [HE.out]; rfl, mem_alloc _ _⟩
theorem checkUndeclared_any (p : Prg) (k wh : Int) (w : World) (sa ta : Option Addr) (sc tc : Nat) (hp : PrgAt w p sa ta) (hg : SignsIn w) (hk : 0 ≤ k ∧ k ≤ 255) (hwh : 0 ≤ wh ∧ wh ≤ 255) (hcaps : VarsCap w ta p.tasks) :
    Calls Tryd.prog 7 #[p.val sa sc ta tc, .int .u8 k, .int .u8 wh] w fun e w' => e = .returned (.bool true) ∧ Below w.heap.size w w' := by
  have hsl := hp.1.1
  have htl := hp.2.1
  obtain ⟨W, hW⟩ : ∃ W : World, w.alloc (prgObj p sa sc ta tc) = W := ⟨_, rfl⟩
  have HBW : Hid (Below w.heap.size w W) := by show Below _ _ _; rw [← hW]; exact mem_alloc _ _
  have HBX : Hid (W.heap[w.heap.size]? = some (prgObj p sa sc ta tc)) := by show _ = _; rw [← hW]; exact mem_new _ _
  have HP := Lib.hid (hp.below HBW.out)
  have HG := Lib.hid (hg.below HBW.out)
  -- what every later world keeps
  have HK : Hid (∀ w', Below W.heap.size W w' → Below w.heap.size w w' ∧ w'.cell? ⟨w.heap.size, 0, none⟩ = some (.slice sa p.shared.length sc) ∧ w'.cell? ⟨w.heap.size, 1, none⟩ = some (.slice ta p.tasks.length tc) ∧ PrgAt w' p sa ta ∧ SignsIn w') := fun w' h => by
    have hb := mem_keep HBX.out h
    exact ⟨HBW.out.trans (h.mono HBW.out.size), mem_cell hb 0, mem_cell hb 1, HP.out.below h, HG.out.below h⟩
  have HP00 := Lib.hid hp
  have HCAPS := Lib.hid hcaps
  clear hp hg hcaps
  go_enter Tryd.func7, Tryd.ntmps7
  go_wp2_with fail
  clear hW
  refine (awake15_any W HG.out).mono ?_
  rintro e w1 ⟨rfl, hB1⟩
  have HB1 := Lib.hid hB1
  obtain ⟨_, y0, y1, hp1, hg1⟩ := HK.out w1 hB1
  have HP1 := Lib.hid hp1
  have HG1 := Lib.hid hg1
  clear hp1 hg1 hB1
  go_wp2_with fail
  clear y0 y1
  refine (clean_any p w1 sa ta sc tc HP1.out HG1.out).mono ?_
  rintro e w2 ⟨rfl, hB2⟩
  have HB2 : Hid (Below W.heap.size W w2) := mem_then HB1.out hB2
  obtain ⟨_, y0, y1, hp2, hg2⟩ := HK.out w2 HB2.out
  have HP2 := Lib.hid hp2
  have HG2 := Lib.hid hg2
  have HAW : Hid (∀ w', Below W.heap.size W w' → Calls Tryd.prog 12 #[] w' fun e w'' => e = .returned (.bool true) ∧ Below w.heap.size w w'') := fun w' h => by
    refine (awake15_any w' (HG.out.below h)).mono ?_
    rintro e w9 ⟨he, hB9⟩
    exact ⟨he, (HK.out w9 (mem_then h hB9)).1⟩
  clear hB2 hp2 hg2
  cases hs : cleanP p with
  | false =>
    go_wp2_with fail
    refine (HAW.out w2 HB2.out).mono ?_
    rintro e w3 ⟨rfl, hB3⟩
    have HB3 := Lib.hid hB3
    clear hB3
    go_wp2_with fail
    go_ret
    exact ⟨rfl, HB3.out⟩
  | true =>
  have HOK : Hid (okP p = true) := by
    unfold cleanP at hs
    exact (Bool.and_eq_true _ _ ▸ hs).2
  clear hs
  by_cases h0 : p.tasks.length = 0
  · have hz : ((p.tasks.length : Int) == 0) = true := by simp [h0]
    clear h0
    go_wp2_with fail
    refine (HAW.out w2 HB2.out).mono ?_
    rintro e w3 ⟨rfl, hB3⟩
    have HB3 := Lib.hid hB3
    clear hB3
    go_wp2_with fail
    go_ret
    exact ⟨rfl, HB3.out⟩
  have hz : ((p.tasks.length : Int) == 0) = false := by rw [beq_eq_false_iff_ne]; omega
  have hlen0 : (p.tasks.length : Int) ≠ 0 := by omega
  obtain ⟨i, hi⟩ : ∃ i : Nat, k % (p.tasks.length : Int) = (i : Int) := ⟨(k % (p.tasks.length : Int)).toNat, by have := Int.emod_nonneg k hlen0; omega⟩
  have hil : i < p.tasks.length := by have := Int.emod_lt_of_pos k (show (0 : Int) < (p.tasks.length : Int) by omega); omega
  have hi2 : (i : Int) < (p.tasks.length : Int) := by omega
  have hi0 : (0 : Int) ≤ (i : Int) := by omega
  have HLE := Lib.hid (prgOk_le (okP_parts HOK.out).1)
  obtain ⟨tb, tf, q, rfl, hc, hin⟩ := HP2.out.2.2 i hil
  obtain ⟨t, ht⟩ : ∃ t, p.tasks.getD i Tsk.none = t := ⟨_, rfl⟩
  have hvcap := caps_at HP00.out.2 HCAPS.out (HK.out w2 HB2.out).1 hil rfl hc
  rw [ht] at hc hin hvcap
  have HT := Lib.hid ht
  have HIN := Lib.hid hin
  obtain ⟨⟨g0, g1, g2, g3, g4, g5, g6, g7⟩, _⟩ := tsk_cells (Below.refl _ _) hc
  obtain ⟨D, hD⟩ : ∃ D : World, w2.alloc (tskObj t q) = D := ⟨_, rfl⟩
  have hBD : Below w2.heap.size w2 D := by rw [← hD]; exact mem_alloc _ _
  have HBD : Hid (Below W.heap.size W D) := mem_then HB2.out hBD
  have HB2D := Lib.hid hBD
  have HTX : Hid (D.heap[w2.heap.size]? = some (tskObj t q)) := by show _ = _; rw [← hD]; exact mem_new _ _
  have HLT : Hid (w.heap.size < w2.heap.size) := Nat.lt_of_lt_of_le (mem_lt HBX.out) HB2.out.size
  have HINW : Hid (TskIn D t q) := HIN.out.below hBD
  obtain ⟨ti, hti, hz0, hz1, hz2⟩ := info_parts str_info
  have HK2 : Hid (∀ w', Below D.heap.size D w' → Below w.heap.size w w' ∧ w'.cell? ⟨w.heap.size, 0, none⟩ = some (.slice sa p.shared.length sc) ∧ w'.cell? ⟨w.heap.size, 1, none⟩ = some (.slice (some ⟨tb, tf, none⟩) p.tasks.length tc) ∧ PrgAt w' p sa (some ⟨tb, tf, none⟩) ∧ SignsIn w' ∧ w'.heap[w2.heap.size]? = some (tskObj t q) ∧ TskIn w' t q) := fun w' h => by
    obtain ⟨h1, h2, h3, h4, h5⟩ := HK.out w' (mem_then HBD.out h)
    exact ⟨h1, h2, h3, h4, h5, mem_keep HTX.out h, HINW.out.below h⟩
  have x2 : D.cell? ⟨w2.heap.size, 2, none⟩ = some (.slice q.va t.vars.length q.vc) := mem_cell HTX.out 2
  have hvl := HINW.out.vars.1
  have hal := HINW.out.arrays.1
  clear ht hc hin hBD h0
  by_cases hv0 : t.vars.length = 0
  · have hzv : ((t.vars.length : Int) == 0) = true := by simp [hv0]
    clear hv0
    go_wp2_with fail
    clear hD
    go_ret
    exact ⟨rfl, (HK2.out D (Below.refl _ _)).1⟩
  have hzv : ((t.vars.length : Int) == 0) = false := by rw [beq_eq_false_iff_ne]; omega
  have hv3 : (0 : Int) < (t.vars.length : Int) := by omega
  have hy0 : (t.vars.length : Int) ≠ 0 := by omega
  obtain ⟨y, hy⟩ : ∃ y : Nat, wh % (t.vars.length : Int) = (y : Int) := ⟨(wh % (t.vars.length : Int)).toNat, by have := Int.emod_nonneg wh hy0; omega⟩
  have hyl : y < t.vars.length := by have := Int.emod_lt_of_pos wh hv3; omega
  have hyl2 : (y : Int) < (t.vars.length : Int) := by omega
  have hyl0 : (0 : Int) ≤ (y : Int) := by omega
  obtain ⟨qva, qvc, qaa, qac, qka, qkc⟩ := q
  obtain ⟨vb, vo, hva, hvc, _⟩ := HINW.out.vars.2 y hyl
  obtain ⟨v, hv⟩ : ∃ v, t.vars.getD y ⟨#[]⟩ = v := ⟨_, rfl⟩
  rw [hv] at hvc
  have HV := Lib.hid hv
  obtain rfl : qva = some ⟨vb, vo, none⟩ := hva
  have hvcap : t.vars.length ≤ qvc := hvcap
  go_upto_region 7 with fail
  simp only [hi]
  clear g0 g1 g2 g3 g4 g5 g6 g7
  go_upto_region 8 with fail
  simp only [hy]
  clear hy hv hD
  obtain ⟨E, hE⟩ : ∃ E : World, D.alloc (.cells #[.string v] 9) = E := ⟨_, rfl⟩
  have HAud9 : Hid (AppSt w2 [(w2.heap.size, tskObj t ⟨some ⟨vb, vo, none⟩, qvc, qaa, qac, qka, qkc⟩), (D.heap.size, .cells #[.string v] 9)] 9 1 (.slice none 0 0) 0 [] E) := by
    show AppSt _ _ _ _ _ _ _ _
    have hBE : Below D.heap.size D E := by rw [← hE]; exact mem_alloc _ _
    refine AppSt.begin (HB2D.out.trans (hBE.mono HB2D.out.size)) (fun x hx => ?_)
    rcases List.mem_cons.1 hx with rfl | hx
    · exact mem_keep HTX.out hBE
    · obtain rfl := List.mem_singleton.1 hx
      show E.heap[D.heap.size]? = _
      rw [← hE]; exact mem_new _ _
  have HS1 : Hid (Src w2 (some ⟨vb, vo, none⟩) y 1 ((t.vars.take y).map Value.string)) := by
    have h := (HIN.out.vars.take y).src
    rwa [List.length_take, Nat.min_eq_left (by omega)] at h
  obtain ⟨A2, hA2⟩ : ∃ A2 : Addr, A2 = if qvc = y + 1 then ⟨vb, vo, none⟩ else ⟨vb, vo + (y + 1), none⟩ := ⟨_, rfl⟩
  have HADR := Lib.hid hA2
  have HS2 : Hid (Src w2 (some A2) (t.vars.length - (y + 1)) 1 ((t.vars.drop (y + 1)).map Value.string)) := by
    have h := (HIN.out.vars.drop (y + 1)).src
    rw [List.length_drop] at h
    by_cases hq : qvc = y + 1
    · have h0 : t.vars.length - (y + 1) = 0 := by omega
      exact ⟨h.1, .inl h0⟩
    · show Src _ _ _ _ _
      rw [hA2, if_neg hq]
      exact h
  clear hA2
  go_wp2_with fail
  clear hE
  have hj1 : (0 : Int) ≤ (y : Int) + 1 := by omega
  have hj3 : (y : Int) + 1 ≤ (qvc : Int) := by omega
  have hj4 : (y : Int) ≤ (qvc : Int) := by omega
  have hj5 : y + 1 ≤ qvc := by omega
  have hj6 : (y : Int) + 1 ≤ (t.vars.length : Int) := by omega
  have hj7 : IntKind.i64.wrap ((y : Int) + 1) = (y : Int) + 1 := by rw [IntKind.wrap_i64]; omega
  have hj8 : ((y : Int) + 1).toNat = y + 1 := by omega
  have hj9 : y ≤ qvc := by omega
  have hj10 : y + 1 ≤ t.vars.length := by omega
  have hj11 : t.vars.length ≤ 1000 := by
    have h1 := HLE.out.2.2 i hil
    rw [HT.out] at h1
    have h2 := (tskOk_le h1).1
    omega
  refine cut_runA (RunEnd 51 13 (fun w' => AppEnd w2 w2.heap.size (t.cells ⟨some ⟨vb, vo, none⟩, qvc, qaa, qac, qka, qkc⟩) 45 9 1 2 (y + (t.vars.length - (y + 1))) ((t.vars.take y).map Value.string ++ (t.vars.drop (y + 1)).map Value.string) w' ∧ ∀ x ∈ [(w2.heap.size, tskObj t ⟨some ⟨vb, vo, none⟩, qvc, qaa, qac, qka, qkc⟩), (D.heap.size, Obj.cells #[Value.string v] 9)], x.1 ≠ w2.heap.size → w'.heap[x.1]? = some x.2)) ?_ ?_
  · skip
    refine wp_region_held_drew (S := fun w' => Below w2.heap.size w2 w') (by kernel_rfl) (HAud9.out.bel.drew) (fun hHeld => ?_)
    have HA0 : Hid (AppSt w2 [(w2.heap.size, tskObj t ⟨some ⟨vb, vo, none⟩, qvc, qaa, qac, qka, qkc⟩), (D.heap.size, .cells #[.string v] 9)] 9 1 (.slice none 0 0) 0 [] (World.drew _)) := AppSt.begin hHeld (fun x hx => by have := (HAud9.out.blk x hx).1; exact this)
    generalize hw0 : World.drew _ = v0 at hHeld HA0 ⊢
    clear hw0
    refine wpAnyH_take (i := 1) (v := .pointer (some ⟨w2.heap.size, 2, none⟩)) rfl (by kernel_rfl) (by kernel_rfl) (by kernel_rfl) (fun _ _ _ h => h) (Or.inl ⟨by rfl, ?_⟩) (by assumption) ?_
    · intro w' hSw; go_simp
    (try simp only [Act.put, List.getElem_toArray, List.getElem_cons_zero, List.getElem_cons_succ, List.setIfInBounds_toArray, List.set_cons_zero, List.set_cons_succ])
    refine wpAnyH_take (i := 3) (v := .int .i64 (y : Int)) rfl (by kernel_rfl) (by kernel_rfl) (by kernel_rfl) (fun _ _ _ h => h) (Or.inl ⟨by rfl, ?_⟩) (by assumption) ?_
    · intro w' hSw; go_simp
    (try simp only [Act.put, List.getElem_toArray, List.getElem_cons_zero, List.getElem_cons_succ, List.setIfInBounds_toArray, List.set_cons_zero, List.set_cons_succ])
    refine wpAnyH_take (i := 6) (v := .pointer (some ⟨w2.heap.size, 2, none⟩)) rfl (by kernel_rfl) (by kernel_rfl) (by kernel_rfl) (fun _ _ _ h => h) (Or.inl ⟨by rfl, ?_⟩) (by assumption) ?_
    · intro w' hSw; go_simp
    (try simp only [Act.put, List.getElem_toArray, List.getElem_cons_zero, List.getElem_cons_succ, List.setIfInBounds_toArray, List.set_cons_zero, List.set_cons_succ])
    refine wpAnyH_take (i := 8) (v := .int .i64 (y : Int)) rfl (by kernel_rfl) (by kernel_rfl) (by kernel_rfl) (fun _ _ _ h => h) (Or.inl ⟨by rfl, ?_⟩) (by assumption) ?_
    · intro w' hSw; go_simp
    (try simp only [Act.put, List.getElem_toArray, List.getElem_cons_zero, List.getElem_cons_succ, List.setIfInBounds_toArray, List.set_cons_zero, List.set_cons_succ])
    refine wpAnyH_take (i := 9) (v := .int .i64 ((y : Int) + 1)) rfl (by kernel_rfl) (by kernel_rfl) (by kernel_rfl) (fun _ _ _ h => h) (Or.inl ⟨by rfl, ?_⟩) (by assumption) ?_
    · intro w' hSw; go_simp
    (try simp only [Act.put, List.getElem_toArray, List.getElem_cons_zero, List.getElem_cons_succ, List.setIfInBounds_toArray, List.set_cons_zero, List.set_cons_succ])
    refine wpAnyH_ready (rs := [0, 2, 7]) (by kernel_rfl) (by simp) (AllReadyH.cons rfl (fun K hK => ?_) (AllReadyH.cons rfl (fun K hK => ?_) (AllReadyH.cons rfl (fun K hK => ?_) AllReadyH.nil)))
    · skip
      go_simp
      have HA1 := Lib.hid HA0.out.start
      refine hK.out _ _ HA1.out.bel (fun hHeld => ?_)
      clear hK K
      rename_i hOld
      clear hOld
      (try simp only [Act.put, List.getElem_toArray, List.getElem_cons_zero, List.getElem_cons_succ, List.setIfInBounds_toArray, List.set_cons_zero, List.set_cons_succ])
      generalize hw : World.alloc v0 _ = v1 at hHeld HA1 ⊢
      clear hw
      refine wpAnyH_ready (rs := [2, 7]) (by kernel_rfl) (by simp) (AllReadyH.cons rfl (fun K hK => ?_) (AllReadyH.cons rfl (fun K hK => ?_) AllReadyH.nil))
      · skip
        have q0 := (HA1.out.blk (w2.heap.size, tskObj t ⟨some ⟨vb, vo, none⟩, qvc, qaa, qac, qka, qkc⟩) (by simp)).1
        have q1 : v1.cell? ⟨w2.heap.size, 2, none⟩ = some (.slice (some ⟨vb, vo, none⟩) t.vars.length qvc) := (mem_cell q0 2).trans rfl
        go_simp
        refine hK.out _ _ HA1.out.bel (fun hHeld => ?_)
        clear hK K q0 q1
        rename_i hOld
        clear hOld
        (try simp only [Act.put, List.getElem_toArray, List.getElem_cons_zero, List.getElem_cons_succ, List.setIfInBounds_toArray, List.set_cons_zero, List.set_cons_succ])
        refine wpAnyH_take (i := 4) (v := .slice (some ⟨vb, vo, none⟩) y qvc) rfl (by kernel_rfl) (by kernel_rfl) (by kernel_rfl) (fun _ _ _ h => h) (Or.inl ⟨by rfl, ?_⟩) (by assumption) ?_
        · intro w' hSw; go_simp
        (try simp only [Act.put, List.getElem_toArray, List.getElem_cons_zero, List.getElem_cons_succ, List.setIfInBounds_toArray, List.set_cons_zero, List.set_cons_succ])
        refine wpAnyH_ready (rs := [5, 7]) (by kernel_rfl) (by simp) (AllReadyH.cons rfl (fun K hK => ?_) (AllReadyH.cons rfl (fun K hK => ?_) AllReadyH.nil))
        · skip
          refine step_append_src _ rfl (.tmp 51) (.tmp 55) 40 rfl w2.heap.size 9 ti _ 1 16 Tryd.underlying40 hti hz0 hz1 hz2 rfl (by decide) (.slice (some ⟨v0.heap.size, 0, none⟩) 0 0) 0 [] (by simp [Act.eval]) HA1.out.own (some ⟨vb, vo, none⟩) y qvc ((t.vars.take y).map Value.string) (by simp [Act.eval]) (HS1.out.below HA1.out.bel) strs_ones (by unfold maxLen; omega) (by omega) HA1.out.bel.size ?_
          intro r2 v2 hown hgrow hplace
          rw [Nat.zero_add, List.nil_append] at hown
          obtain ⟨ra2, rc2, rfl⟩ := own_val hown
          have HA2 := Lib.hid (HA1.out.grow hown hgrow hplace)
          refine hK.out _ _ HA2.out.bel (fun hHeld => ?_)
          clear hK K hown hgrow hplace
          rename_i hOld
          clear hOld
          (try simp only [Act.put, List.getElem_toArray, List.getElem_cons_zero, List.getElem_cons_succ, List.setIfInBounds_toArray, List.set_cons_zero, List.set_cons_succ])
          refine wpAnyH_ready (rs := [7]) (by kernel_rfl) (by simp) (AllReadyH.cons rfl (fun K hK => ?_) AllReadyH.nil)
          have q0 := (HA2.out.blk (w2.heap.size, tskObj t ⟨some ⟨vb, vo, none⟩, qvc, qaa, qac, qka, qkc⟩) (by simp)).1
          have q1 : v2.cell? ⟨w2.heap.size, 2, none⟩ = some (.slice (some ⟨vb, vo, none⟩) t.vars.length qvc) := (mem_cell q0 2).trans rfl
          go_simp
          refine hK.out _ _ HA2.out.bel (fun hHeld => ?_)
          clear hK K q0 q1
          rename_i hOld
          clear hOld
          (try simp only [Act.put, List.getElem_toArray, List.getElem_cons_zero, List.getElem_cons_succ, List.setIfInBounds_toArray, List.set_cons_zero, List.set_cons_succ])
          refine wpAnyH_take (i := 10) (v := .slice (some A2) (t.vars.length - (y + 1)) (qvc - (y + 1))) rfl (by kernel_rfl) (by kernel_rfl) (by kernel_rfl) (fun _ _ _ h => h) (Or.inl ⟨by rfl, ?_⟩) (by assumption) ?_
          · intro w' hSw; go_simp; (rw [HADR.out]; split <;> rfl)
          (try simp only [Act.put, List.getElem_toArray, List.getElem_cons_zero, List.getElem_cons_succ, List.setIfInBounds_toArray, List.set_cons_zero, List.set_cons_succ])
          refine wpAnyH_ready (rs := [11]) (by kernel_rfl) (by simp) (AllReadyH.cons rfl (fun K hK => ?_) AllReadyH.nil)
          refine step_append_src _ rfl (.tmp 56) (.tmp 61) 40 rfl w2.heap.size 9 ti _ 1 16 Tryd.underlying40 hti hz0 hz1 hz2 rfl (by decide) (.slice ra2 y rc2) y (((t.vars.take y).map Value.string)) (by simp [Act.eval]) HA2.out.own (some A2) (t.vars.length - (y + 1)) (qvc - (y + 1)) ((t.vars.drop (y + 1)).map Value.string) (by simp [Act.eval]) (HS2.out.below HA2.out.bel) strs_ones (by unfold maxLen; omega) (by omega) HA2.out.bel.size ?_
          intro r3 v3 hown hgrow hplace
          obtain ⟨ra3, rc3, rfl⟩ := own_val hown
          have HA3 := Lib.hid (HA2.out.grow hown hgrow hplace)
          refine hK.out _ _ HA3.out.bel (fun hHeld => ?_)
          clear hK K hown hgrow hplace
          rename_i hOld
          clear hOld
          (try simp only [Act.put, List.getElem_toArray, List.getElem_cons_zero, List.getElem_cons_succ, List.setIfInBounds_toArray, List.set_cons_zero, List.set_cons_succ])
          refine wpAnyH_take (i := 12) (v := .pointer (some ⟨w2.heap.size, 2, none⟩)) rfl (by kernel_rfl) (by kernel_rfl) (by kernel_rfl) (fun _ _ _ h => h) (Or.inl ⟨by rfl, ?_⟩) (by assumption) ?_
          · intro w' hSw; go_simp
          (try simp only [Act.put, List.getElem_toArray, List.getElem_cons_zero, List.getElem_cons_succ, List.setIfInBounds_toArray, List.set_cons_zero, List.set_cons_succ])
          have b0 := (HA3.out.blk (w2.heap.size, tskObj t ⟨some ⟨vb, vo, none⟩, qvc, qaa, qac, qka, qkc⟩) (by simp)).1
          have f0 := mem_free b0 2
          have f1 := mem_cell b0 2
          have f1 : v3.cell? ⟨w2.heap.size, 2, none⟩ = some (.slice (some ⟨vb, vo, none⟩) t.vars.length qvc) := f1.trans rfl
          have HEND := Lib.hid (AppSt.put2 (k := 2) HA3.out (ub := w2.heap.size) (arr := (t.cells ⟨some ⟨vb, vo, none⟩, qvc, qaa, qac, qka, qkc⟩)) (T := 45) (show (w2.heap.size, tskObj t ⟨some ⟨vb, vo, none⟩, qvc, qaa, qac, qka, qkc⟩) ∈ _ by simp) (by exact Nat.le_refl _))
          clear b0
          refine wpAnyH_ready (rs := [13]) (by kernel_rfl) (by simp) (AllReadyH.cons rfl (fun K hK => ?_) AllReadyH.nil)
          go_simp
          clear f0 f1
          generalize World.setCell _ _ _ = wS at HEND ⊢
          refine hK.out _ _ ((let ⟨⟨_, _, _, _, h⟩, _⟩ := HEND.out; h)) (fun hHeld => ?_)
          clear hK K
          rename_i hOld
          clear hOld
          (try simp only [Act.put, List.getElem_toArray, List.getElem_cons_zero, List.getElem_cons_succ, List.setIfInBounds_toArray, List.set_cons_zero, List.set_cons_succ])
          refine wpAnyH_done (by kernel_rfl) ?_ _
          exact ⟨[_, _, _, _, _, _, _, _, _, _, _, _, _], rfl, (by simp only [putAll, List.setIfInBounds_toArray, List.set_cons_zero, List.set_cons_succ]; rfl), HEND.out⟩
        · skip
          have q0 := (HA1.out.blk (w2.heap.size, tskObj t ⟨some ⟨vb, vo, none⟩, qvc, qaa, qac, qka, qkc⟩) (by simp)).1
          have q1 : v1.cell? ⟨w2.heap.size, 2, none⟩ = some (.slice (some ⟨vb, vo, none⟩) t.vars.length qvc) := (mem_cell q0 2).trans rfl
          go_simp
          refine hK.out _ _ HA1.out.bel (fun hHeld => ?_)
          clear hK K q0 q1
          rename_i hOld
          clear hOld
          (try simp only [Act.put, List.getElem_toArray, List.getElem_cons_zero, List.getElem_cons_succ, List.setIfInBounds_toArray, List.set_cons_zero, List.set_cons_succ])
          refine wpAnyH_take (i := 10) (v := .slice (some A2) (t.vars.length - (y + 1)) (qvc - (y + 1))) rfl (by kernel_rfl) (by kernel_rfl) (by kernel_rfl) (fun _ _ _ h => h) (Or.inl ⟨by rfl, ?_⟩) (by assumption) ?_
          · intro w' hSw; go_simp; (rw [HADR.out]; split <;> rfl)
          (try simp only [Act.put, List.getElem_toArray, List.getElem_cons_zero, List.getElem_cons_succ, List.setIfInBounds_toArray, List.set_cons_zero, List.set_cons_succ])
          refine wpAnyH_ready (rs := [5]) (by kernel_rfl) (by simp) (AllReadyH.cons rfl (fun K hK => ?_) AllReadyH.nil)
          refine step_append_src _ rfl (.tmp 51) (.tmp 55) 40 rfl w2.heap.size 9 ti _ 1 16 Tryd.underlying40 hti hz0 hz1 hz2 rfl (by decide) (.slice (some ⟨v0.heap.size, 0, none⟩) 0 0) 0 [] (by simp [Act.eval]) HA1.out.own (some ⟨vb, vo, none⟩) y qvc ((t.vars.take y).map Value.string) (by simp [Act.eval]) (HS1.out.below HA1.out.bel) strs_ones (by unfold maxLen; omega) (by omega) HA1.out.bel.size ?_
          intro r2 v2 hown hgrow hplace
          rw [Nat.zero_add, List.nil_append] at hown
          obtain ⟨ra2, rc2, rfl⟩ := own_val hown
          have HA2 := Lib.hid (HA1.out.grow hown hgrow hplace)
          refine hK.out _ _ HA2.out.bel (fun hHeld => ?_)
          clear hK K hown hgrow hplace
          rename_i hOld
          clear hOld
          (try simp only [Act.put, List.getElem_toArray, List.getElem_cons_zero, List.getElem_cons_succ, List.setIfInBounds_toArray, List.set_cons_zero, List.set_cons_succ])
          refine wpAnyH_ready (rs := [11]) (by kernel_rfl) (by simp) (AllReadyH.cons rfl (fun K hK => ?_) AllReadyH.nil)
          refine step_append_src _ rfl (.tmp 56) (.tmp 61) 40 rfl w2.heap.size 9 ti _ 1 16 Tryd.underlying40 hti hz0 hz1 hz2 rfl (by decide) (.slice ra2 y rc2) y (((t.vars.take y).map Value.string)) (by simp [Act.eval]) HA2.out.own (some A2) (t.vars.length - (y + 1)) (qvc - (y + 1)) ((t.vars.drop (y + 1)).map Value.string) (by simp [Act.eval]) (HS2.out.below HA2.out.bel) strs_ones (by unfold maxLen; omega) (by omega) HA2.out.bel.size ?_
          intro r3 v3 hown hgrow hplace
          obtain ⟨ra3, rc3, rfl⟩ := own_val hown
          have HA3 := Lib.hid (HA2.out.grow hown hgrow hplace)
          refine hK.out _ _ HA3.out.bel (fun hHeld => ?_)
          clear hK K hown hgrow hplace
          rename_i hOld
          clear hOld
          (try simp only [Act.put, List.getElem_toArray, List.getElem_cons_zero, List.getElem_cons_succ, List.setIfInBounds_toArray, List.set_cons_zero, List.set_cons_succ])
          refine wpAnyH_take (i := 12) (v := .pointer (some ⟨w2.heap.size, 2, none⟩)) rfl (by kernel_rfl) (by kernel_rfl) (by kernel_rfl) (fun _ _ _ h => h) (Or.inl ⟨by rfl, ?_⟩) (by assumption) ?_
          · intro w' hSw; go_simp
          (try simp only [Act.put, List.getElem_toArray, List.getElem_cons_zero, List.getElem_cons_succ, List.setIfInBounds_toArray, List.set_cons_zero, List.set_cons_succ])
          have b0 := (HA3.out.blk (w2.heap.size, tskObj t ⟨some ⟨vb, vo, none⟩, qvc, qaa, qac, qka, qkc⟩) (by simp)).1
          have f0 := mem_free b0 2
          have f1 := mem_cell b0 2
          have f1 : v3.cell? ⟨w2.heap.size, 2, none⟩ = some (.slice (some ⟨vb, vo, none⟩) t.vars.length qvc) := f1.trans rfl
          have HEND := Lib.hid (AppSt.put2 (k := 2) HA3.out (ub := w2.heap.size) (arr := (t.cells ⟨some ⟨vb, vo, none⟩, qvc, qaa, qac, qka, qkc⟩)) (T := 45) (show (w2.heap.size, tskObj t ⟨some ⟨vb, vo, none⟩, qvc, qaa, qac, qka, qkc⟩) ∈ _ by simp) (by exact Nat.le_refl _))
          clear b0
          refine wpAnyH_ready (rs := [13]) (by kernel_rfl) (by simp) (AllReadyH.cons rfl (fun K hK => ?_) AllReadyH.nil)
          go_simp
          clear f0 f1
          generalize World.setCell _ _ _ = wS at HEND ⊢
          refine hK.out _ _ ((let ⟨⟨_, _, _, _, h⟩, _⟩ := HEND.out; h)) (fun hHeld => ?_)
          clear hK K
          rename_i hOld
          clear hOld
          (try simp only [Act.put, List.getElem_toArray, List.getElem_cons_zero, List.getElem_cons_succ, List.setIfInBounds_toArray, List.set_cons_zero, List.set_cons_succ])
          refine wpAnyH_done (by kernel_rfl) ?_ _
          exact ⟨[_, _, _, _, _, _, _, _, _, _, _, _, _], rfl, (by simp only [putAll, List.setIfInBounds_toArray, List.set_cons_zero, List.set_cons_succ]; rfl), HEND.out⟩
      · skip
        have q0 := (HA1.out.blk (w2.heap.size, tskObj t ⟨some ⟨vb, vo, none⟩, qvc, qaa, qac, qka, qkc⟩) (by simp)).1
        have q1 : v1.cell? ⟨w2.heap.size, 2, none⟩ = some (.slice (some ⟨vb, vo, none⟩) t.vars.length qvc) := (mem_cell q0 2).trans rfl
        go_simp
        refine hK.out _ _ HA1.out.bel (fun hHeld => ?_)
        clear hK K q0 q1
        rename_i hOld
        clear hOld
        (try simp only [Act.put, List.getElem_toArray, List.getElem_cons_zero, List.getElem_cons_succ, List.setIfInBounds_toArray, List.set_cons_zero, List.set_cons_succ])
        refine wpAnyH_take (i := 10) (v := .slice (some A2) (t.vars.length - (y + 1)) (qvc - (y + 1))) rfl (by kernel_rfl) (by kernel_rfl) (by kernel_rfl) (fun _ _ _ h => h) (Or.inl ⟨by rfl, ?_⟩) (by assumption) ?_
        · intro w' hSw; go_simp; (rw [HADR.out]; split <;> rfl)
        (try simp only [Act.put, List.getElem_toArray, List.getElem_cons_zero, List.getElem_cons_succ, List.setIfInBounds_toArray, List.set_cons_zero, List.set_cons_succ])
        refine wpAnyH_ready (rs := [2]) (by kernel_rfl) (by simp) (AllReadyH.cons rfl (fun K hK => ?_) AllReadyH.nil)
        have q0 := (HA1.out.blk (w2.heap.size, tskObj t ⟨some ⟨vb, vo, none⟩, qvc, qaa, qac, qka, qkc⟩) (by simp)).1
        have q1 : v1.cell? ⟨w2.heap.size, 2, none⟩ = some (.slice (some ⟨vb, vo, none⟩) t.vars.length qvc) := (mem_cell q0 2).trans rfl
        go_simp
        refine hK.out _ _ HA1.out.bel (fun hHeld => ?_)
        clear hK K q0 q1
        rename_i hOld
        clear hOld
        (try simp only [Act.put, List.getElem_toArray, List.getElem_cons_zero, List.getElem_cons_succ, List.setIfInBounds_toArray, List.set_cons_zero, List.set_cons_succ])
        refine wpAnyH_take (i := 4) (v := .slice (some ⟨vb, vo, none⟩) y qvc) rfl (by kernel_rfl) (by kernel_rfl) (by kernel_rfl) (fun _ _ _ h => h) (Or.inl ⟨by rfl, ?_⟩) (by assumption) ?_
        · intro w' hSw; go_simp
        (try simp only [Act.put, List.getElem_toArray, List.getElem_cons_zero, List.getElem_cons_succ, List.setIfInBounds_toArray, List.set_cons_zero, List.set_cons_succ])
        refine wpAnyH_ready (rs := [5]) (by kernel_rfl) (by simp) (AllReadyH.cons rfl (fun K hK => ?_) AllReadyH.nil)
        refine step_append_src _ rfl (.tmp 51) (.tmp 55) 40 rfl w2.heap.size 9 ti _ 1 16 Tryd.underlying40 hti hz0 hz1 hz2 rfl (by decide) (.slice (some ⟨v0.heap.size, 0, none⟩) 0 0) 0 [] (by simp [Act.eval]) HA1.out.own (some ⟨vb, vo, none⟩) y qvc ((t.vars.take y).map Value.string) (by simp [Act.eval]) (HS1.out.below HA1.out.bel) strs_ones (by unfold maxLen; omega) (by omega) HA1.out.bel.size ?_
        intro r2 v2 hown hgrow hplace
        rw [Nat.zero_add, List.nil_append] at hown
        obtain ⟨ra2, rc2, rfl⟩ := own_val hown
        have HA2 := Lib.hid (HA1.out.grow hown hgrow hplace)
        refine hK.out _ _ HA2.out.bel (fun hHeld => ?_)
        clear hK K hown hgrow hplace
        rename_i hOld
        clear hOld
        (try simp only [Act.put, List.getElem_toArray, List.getElem_cons_zero, List.getElem_cons_succ, List.setIfInBounds_toArray, List.set_cons_zero, List.set_cons_succ])
        refine wpAnyH_ready (rs := [11]) (by kernel_rfl) (by simp) (AllReadyH.cons rfl (fun K hK => ?_) AllReadyH.nil)
        refine step_append_src _ rfl (.tmp 56) (.tmp 61) 40 rfl w2.heap.size 9 ti _ 1 16 Tryd.underlying40 hti hz0 hz1 hz2 rfl (by decide) (.slice ra2 y rc2) y (((t.vars.take y).map Value.string)) (by simp [Act.eval]) HA2.out.own (some A2) (t.vars.length - (y + 1)) (qvc - (y + 1)) ((t.vars.drop (y + 1)).map Value.string) (by simp [Act.eval]) (HS2.out.below HA2.out.bel) strs_ones (by unfold maxLen; omega) (by omega) HA2.out.bel.size ?_
        intro r3 v3 hown hgrow hplace
        obtain ⟨ra3, rc3, rfl⟩ := own_val hown
        have HA3 := Lib.hid (HA2.out.grow hown hgrow hplace)
        refine hK.out _ _ HA3.out.bel (fun hHeld => ?_)
        clear hK K hown hgrow hplace
        rename_i hOld
        clear hOld
        (try simp only [Act.put, List.getElem_toArray, List.getElem_cons_zero, List.getElem_cons_succ, List.setIfInBounds_toArray, List.set_cons_zero, List.set_cons_succ])
        refine wpAnyH_take (i := 12) (v := .pointer (some ⟨w2.heap.size, 2, none⟩)) rfl (by kernel_rfl) (by kernel_rfl) (by kernel_rfl) (fun _ _ _ h => h) (Or.inl ⟨by rfl, ?_⟩) (by assumption) ?_
        · intro w' hSw; go_simp
        (try simp only [Act.put, List.getElem_toArray, List.getElem_cons_zero, List.getElem_cons_succ, List.setIfInBounds_toArray, List.set_cons_zero, List.set_cons_succ])
        have b0 := (HA3.out.blk (w2.heap.size, tskObj t ⟨some ⟨vb, vo, none⟩, qvc, qaa, qac, qka, qkc⟩) (by simp)).1
        have f0 := mem_free b0 2
        have f1 := mem_cell b0 2
        have f1 : v3.cell? ⟨w2.heap.size, 2, none⟩ = some (.slice (some ⟨vb, vo, none⟩) t.vars.length qvc) := f1.trans rfl
        have HEND := Lib.hid (AppSt.put2 (k := 2) HA3.out (ub := w2.heap.size) (arr := (t.cells ⟨some ⟨vb, vo, none⟩, qvc, qaa, qac, qka, qkc⟩)) (T := 45) (show (w2.heap.size, tskObj t ⟨some ⟨vb, vo, none⟩, qvc, qaa, qac, qka, qkc⟩) ∈ _ by simp) (by exact Nat.le_refl _))
        clear b0
        refine wpAnyH_ready (rs := [13]) (by kernel_rfl) (by simp) (AllReadyH.cons rfl (fun K hK => ?_) AllReadyH.nil)
        go_simp
        clear f0 f1
        generalize World.setCell _ _ _ = wS at HEND ⊢
        refine hK.out _ _ ((let ⟨⟨_, _, _, _, h⟩, _⟩ := HEND.out; h)) (fun hHeld => ?_)
        clear hK K
        rename_i hOld
        clear hOld
        (try simp only [Act.put, List.getElem_toArray, List.getElem_cons_zero, List.getElem_cons_succ, List.setIfInBounds_toArray, List.set_cons_zero, List.set_cons_succ])
        refine wpAnyH_done (by kernel_rfl) ?_ _
        exact ⟨[_, _, _, _, _, _, _, _, _, _, _, _, _], rfl, (by simp only [putAll, List.setIfInBounds_toArray, List.set_cons_zero, List.set_cons_succ]; rfl), HEND.out⟩
    · skip
      have q0 := (HA0.out.blk (w2.heap.size, tskObj t ⟨some ⟨vb, vo, none⟩, qvc, qaa, qac, qka, qkc⟩) (by simp)).1
      have q1 : v0.cell? ⟨w2.heap.size, 2, none⟩ = some (.slice (some ⟨vb, vo, none⟩) t.vars.length qvc) := (mem_cell q0 2).trans rfl
      go_simp
      refine hK.out _ _ HA0.out.bel (fun hHeld => ?_)
      clear hK K q0 q1
      rename_i hOld
      clear hOld
      (try simp only [Act.put, List.getElem_toArray, List.getElem_cons_zero, List.getElem_cons_succ, List.setIfInBounds_toArray, List.set_cons_zero, List.set_cons_succ])
      refine wpAnyH_take (i := 4) (v := .slice (some ⟨vb, vo, none⟩) y qvc) rfl (by kernel_rfl) (by kernel_rfl) (by kernel_rfl) (fun _ _ _ h => h) (Or.inl ⟨by rfl, ?_⟩) (by assumption) ?_
      · intro w' hSw; go_simp
      (try simp only [Act.put, List.getElem_toArray, List.getElem_cons_zero, List.getElem_cons_succ, List.setIfInBounds_toArray, List.set_cons_zero, List.set_cons_succ])
      refine wpAnyH_ready (rs := [0, 7]) (by kernel_rfl) (by simp) (AllReadyH.cons rfl (fun K hK => ?_) (AllReadyH.cons rfl (fun K hK => ?_) AllReadyH.nil))
      · skip
        go_simp
        have HA1 := Lib.hid HA0.out.start
        refine hK.out _ _ HA1.out.bel (fun hHeld => ?_)
        clear hK K
        rename_i hOld
        clear hOld
        (try simp only [Act.put, List.getElem_toArray, List.getElem_cons_zero, List.getElem_cons_succ, List.setIfInBounds_toArray, List.set_cons_zero, List.set_cons_succ])
        generalize hw : World.alloc v0 _ = v1 at hHeld HA1 ⊢
        clear hw
        refine wpAnyH_ready (rs := [5, 7]) (by kernel_rfl) (by simp) (AllReadyH.cons rfl (fun K hK => ?_) (AllReadyH.cons rfl (fun K hK => ?_) AllReadyH.nil))
        · skip
          refine step_append_src _ rfl (.tmp 51) (.tmp 55) 40 rfl w2.heap.size 9 ti _ 1 16 Tryd.underlying40 hti hz0 hz1 hz2 rfl (by decide) (.slice (some ⟨v0.heap.size, 0, none⟩) 0 0) 0 [] (by simp [Act.eval]) HA1.out.own (some ⟨vb, vo, none⟩) y qvc ((t.vars.take y).map Value.string) (by simp [Act.eval]) (HS1.out.below HA1.out.bel) strs_ones (by unfold maxLen; omega) (by omega) HA1.out.bel.size ?_
          intro r2 v2 hown hgrow hplace
          rw [Nat.zero_add, List.nil_append] at hown
          obtain ⟨ra2, rc2, rfl⟩ := own_val hown
          have HA2 := Lib.hid (HA1.out.grow hown hgrow hplace)
          refine hK.out _ _ HA2.out.bel (fun hHeld => ?_)
          clear hK K hown hgrow hplace
          rename_i hOld
          clear hOld
          (try simp only [Act.put, List.getElem_toArray, List.getElem_cons_zero, List.getElem_cons_succ, List.setIfInBounds_toArray, List.set_cons_zero, List.set_cons_succ])
          refine wpAnyH_ready (rs := [7]) (by kernel_rfl) (by simp) (AllReadyH.cons rfl (fun K hK => ?_) AllReadyH.nil)
          have q0 := (HA2.out.blk (w2.heap.size, tskObj t ⟨some ⟨vb, vo, none⟩, qvc, qaa, qac, qka, qkc⟩) (by simp)).1
          have q1 : v2.cell? ⟨w2.heap.size, 2, none⟩ = some (.slice (some ⟨vb, vo, none⟩) t.vars.length qvc) := (mem_cell q0 2).trans rfl
          go_simp
          refine hK.out _ _ HA2.out.bel (fun hHeld => ?_)
          clear hK K q0 q1
          rename_i hOld
          clear hOld
          (try simp only [Act.put, List.getElem_toArray, List.getElem_cons_zero, List.getElem_cons_succ, List.setIfInBounds_toArray, List.set_cons_zero, List.set_cons_succ])
          refine wpAnyH_take (i := 10) (v := .slice (some A2) (t.vars.length - (y + 1)) (qvc - (y + 1))) rfl (by kernel_rfl) (by kernel_rfl) (by kernel_rfl) (fun _ _ _ h => h) (Or.inl ⟨by rfl, ?_⟩) (by assumption) ?_
          · intro w' hSw; go_simp; (rw [HADR.out]; split <;> rfl)
          (try simp only [Act.put, List.getElem_toArray, List.getElem_cons_zero, List.getElem_cons_succ, List.setIfInBounds_toArray, List.set_cons_zero, List.set_cons_succ])
          refine wpAnyH_ready (rs := [11]) (by kernel_rfl) (by simp) (AllReadyH.cons rfl (fun K hK => ?_) AllReadyH.nil)
          refine step_append_src _ rfl (.tmp 56) (.tmp 61) 40 rfl w2.heap.size 9 ti _ 1 16 Tryd.underlying40 hti hz0 hz1 hz2 rfl (by decide) (.slice ra2 y rc2) y (((t.vars.take y).map Value.string)) (by simp [Act.eval]) HA2.out.own (some A2) (t.vars.length - (y + 1)) (qvc - (y + 1)) ((t.vars.drop (y + 1)).map Value.string) (by simp [Act.eval]) (HS2.out.below HA2.out.bel) strs_ones (by unfold maxLen; omega) (by omega) HA2.out.bel.size ?_
          intro r3 v3 hown hgrow hplace
          obtain ⟨ra3, rc3, rfl⟩ := own_val hown
          have HA3 := Lib.hid (HA2.out.grow hown hgrow hplace)
          refine hK.out _ _ HA3.out.bel (fun hHeld => ?_)
          clear hK K hown hgrow hplace
          rename_i hOld
          clear hOld
          (try simp only [Act.put, List.getElem_toArray, List.getElem_cons_zero, List.getElem_cons_succ, List.setIfInBounds_toArray, List.set_cons_zero, List.set_cons_succ])
          refine wpAnyH_take (i := 12) (v := .pointer (some ⟨w2.heap.size, 2, none⟩)) rfl (by kernel_rfl) (by kernel_rfl) (by kernel_rfl) (fun _ _ _ h => h) (Or.inl ⟨by rfl, ?_⟩) (by assumption) ?_
          · intro w' hSw; go_simp
          (try simp only [Act.put, List.getElem_toArray, List.getElem_cons_zero, List.getElem_cons_succ, List.setIfInBounds_toArray, List.set_cons_zero, List.set_cons_succ])
          have b0 := (HA3.out.blk (w2.heap.size, tskObj t ⟨some ⟨vb, vo, none⟩, qvc, qaa, qac, qka, qkc⟩) (by simp)).1
          have f0 := mem_free b0 2
          have f1 := mem_cell b0 2
          have f1 : v3.cell? ⟨w2.heap.size, 2, none⟩ = some (.slice (some ⟨vb, vo, none⟩) t.vars.length qvc) := f1.trans rfl
          have HEND := Lib.hid (AppSt.put2 (k := 2) HA3.out (ub := w2.heap.size) (arr := (t.cells ⟨some ⟨vb, vo, none⟩, qvc, qaa, qac, qka, qkc⟩)) (T := 45) (show (w2.heap.size, tskObj t ⟨some ⟨vb, vo, none⟩, qvc, qaa, qac, qka, qkc⟩) ∈ _ by simp) (by exact Nat.le_refl _))
          clear b0
          refine wpAnyH_ready (rs := [13]) (by kernel_rfl) (by simp) (AllReadyH.cons rfl (fun K hK => ?_) AllReadyH.nil)
          go_simp
          clear f0 f1
          generalize World.setCell _ _ _ = wS at HEND ⊢
          refine hK.out _ _ ((let ⟨⟨_, _, _, _, h⟩, _⟩ := HEND.out; h)) (fun hHeld => ?_)
          clear hK K
          rename_i hOld
          clear hOld
          (try simp only [Act.put, List.getElem_toArray, List.getElem_cons_zero, List.getElem_cons_succ, List.setIfInBounds_toArray, List.set_cons_zero, List.set_cons_succ])
          refine wpAnyH_done (by kernel_rfl) ?_ _
          exact ⟨[_, _, _, _, _, _, _, _, _, _, _, _, _], rfl, (by simp only [putAll, List.setIfInBounds_toArray, List.set_cons_zero, List.set_cons_succ]; rfl), HEND.out⟩
        · skip
          have q0 := (HA1.out.blk (w2.heap.size, tskObj t ⟨some ⟨vb, vo, none⟩, qvc, qaa, qac, qka, qkc⟩) (by simp)).1
          have q1 : v1.cell? ⟨w2.heap.size, 2, none⟩ = some (.slice (some ⟨vb, vo, none⟩) t.vars.length qvc) := (mem_cell q0 2).trans rfl
          go_simp
          refine hK.out _ _ HA1.out.bel (fun hHeld => ?_)
          clear hK K q0 q1
          rename_i hOld
          clear hOld
          (try simp only [Act.put, List.getElem_toArray, List.getElem_cons_zero, List.getElem_cons_succ, List.setIfInBounds_toArray, List.set_cons_zero, List.set_cons_succ])
          refine wpAnyH_take (i := 10) (v := .slice (some A2) (t.vars.length - (y + 1)) (qvc - (y + 1))) rfl (by kernel_rfl) (by kernel_rfl) (by kernel_rfl) (fun _ _ _ h => h) (Or.inl ⟨by rfl, ?_⟩) (by assumption) ?_
          · intro w' hSw; go_simp; (rw [HADR.out]; split <;> rfl)
          (try simp only [Act.put, List.getElem_toArray, List.getElem_cons_zero, List.getElem_cons_succ, List.setIfInBounds_toArray, List.set_cons_zero, List.set_cons_succ])
          refine wpAnyH_ready (rs := [5]) (by kernel_rfl) (by simp) (AllReadyH.cons rfl (fun K hK => ?_) AllReadyH.nil)
          refine step_append_src _ rfl (.tmp 51) (.tmp 55) 40 rfl w2.heap.size 9 ti _ 1 16 Tryd.underlying40 hti hz0 hz1 hz2 rfl (by decide) (.slice (some ⟨v0.heap.size, 0, none⟩) 0 0) 0 [] (by simp [Act.eval]) HA1.out.own (some ⟨vb, vo, none⟩) y qvc ((t.vars.take y).map Value.string) (by simp [Act.eval]) (HS1.out.below HA1.out.bel) strs_ones (by unfold maxLen; omega) (by omega) HA1.out.bel.size ?_
          intro r2 v2 hown hgrow hplace
          rw [Nat.zero_add, List.nil_append] at hown
          obtain ⟨ra2, rc2, rfl⟩ := own_val hown
          have HA2 := Lib.hid (HA1.out.grow hown hgrow hplace)
          refine hK.out _ _ HA2.out.bel (fun hHeld => ?_)
          clear hK K hown hgrow hplace
          rename_i hOld
          clear hOld
          (try simp only [Act.put, List.getElem_toArray, List.getElem_cons_zero, List.getElem_cons_succ, List.setIfInBounds_toArray, List.set_cons_zero, List.set_cons_succ])
          refine wpAnyH_ready (rs := [11]) (by kernel_rfl) (by simp) (AllReadyH.cons rfl (fun K hK => ?_) AllReadyH.nil)
          refine step_append_src _ rfl (.tmp 56) (.tmp 61) 40 rfl w2.heap.size 9 ti _ 1 16 Tryd.underlying40 hti hz0 hz1 hz2 rfl (by decide) (.slice ra2 y rc2) y (((t.vars.take y).map Value.string)) (by simp [Act.eval]) HA2.out.own (some A2) (t.vars.length - (y + 1)) (qvc - (y + 1)) ((t.vars.drop (y + 1)).map Value.string) (by simp [Act.eval]) (HS2.out.below HA2.out.bel) strs_ones (by unfold maxLen; omega) (by omega) HA2.out.bel.size ?_
          intro r3 v3 hown hgrow hplace
          obtain ⟨ra3, rc3, rfl⟩ := own_val hown
          have HA3 := Lib.hid (HA2.out.grow hown hgrow hplace)
          refine hK.out _ _ HA3.out.bel (fun hHeld => ?_)
          clear hK K hown hgrow hplace
          rename_i hOld
          clear hOld
          (try simp only [Act.put, List.getElem_toArray, List.getElem_cons_zero, List.getElem_cons_succ, List.setIfInBounds_toArray, List.set_cons_zero, List.set_cons_succ])
          refine wpAnyH_take (i := 12) (v := .pointer (some ⟨w2.heap.size, 2, none⟩)) rfl (by kernel_rfl) (by kernel_rfl) (by kernel_rfl) (fun _ _ _ h => h) (Or.inl ⟨by rfl, ?_⟩) (by assumption) ?_
          · intro w' hSw; go_simp
          (try simp only [Act.put, List.getElem_toArray, List.getElem_cons_zero, List.getElem_cons_succ, List.setIfInBounds_toArray, List.set_cons_zero, List.set_cons_succ])
          have b0 := (HA3.out.blk (w2.heap.size, tskObj t ⟨some ⟨vb, vo, none⟩, qvc, qaa, qac, qka, qkc⟩) (by simp)).1
          have f0 := mem_free b0 2
          have f1 := mem_cell b0 2
          have f1 : v3.cell? ⟨w2.heap.size, 2, none⟩ = some (.slice (some ⟨vb, vo, none⟩) t.vars.length qvc) := f1.trans rfl
          have HEND := Lib.hid (AppSt.put2 (k := 2) HA3.out (ub := w2.heap.size) (arr := (t.cells ⟨some ⟨vb, vo, none⟩, qvc, qaa, qac, qka, qkc⟩)) (T := 45) (show (w2.heap.size, tskObj t ⟨some ⟨vb, vo, none⟩, qvc, qaa, qac, qka, qkc⟩) ∈ _ by simp) (by exact Nat.le_refl _))
          clear b0
          refine wpAnyH_ready (rs := [13]) (by kernel_rfl) (by simp) (AllReadyH.cons rfl (fun K hK => ?_) AllReadyH.nil)
          go_simp
          clear f0 f1
          generalize World.setCell _ _ _ = wS at HEND ⊢
          refine hK.out _ _ ((let ⟨⟨_, _, _, _, h⟩, _⟩ := HEND.out; h)) (fun hHeld => ?_)
          clear hK K
          rename_i hOld
          clear hOld
          (try simp only [Act.put, List.getElem_toArray, List.getElem_cons_zero, List.getElem_cons_succ, List.setIfInBounds_toArray, List.set_cons_zero, List.set_cons_succ])
          refine wpAnyH_done (by kernel_rfl) ?_ _
          exact ⟨[_, _, _, _, _, _, _, _, _, _, _, _, _], rfl, (by simp only [putAll, List.setIfInBounds_toArray, List.set_cons_zero, List.set_cons_succ]; rfl), HEND.out⟩
      · skip
        have q0 := (HA0.out.blk (w2.heap.size, tskObj t ⟨some ⟨vb, vo, none⟩, qvc, qaa, qac, qka, qkc⟩) (by simp)).1
        have q1 : v0.cell? ⟨w2.heap.size, 2, none⟩ = some (.slice (some ⟨vb, vo, none⟩) t.vars.length qvc) := (mem_cell q0 2).trans rfl
        go_simp
        refine hK.out _ _ HA0.out.bel (fun hHeld => ?_)
        clear hK K q0 q1
        rename_i hOld
        clear hOld
        (try simp only [Act.put, List.getElem_toArray, List.getElem_cons_zero, List.getElem_cons_succ, List.setIfInBounds_toArray, List.set_cons_zero, List.set_cons_succ])
        refine wpAnyH_take (i := 10) (v := .slice (some A2) (t.vars.length - (y + 1)) (qvc - (y + 1))) rfl (by kernel_rfl) (by kernel_rfl) (by kernel_rfl) (fun _ _ _ h => h) (Or.inl ⟨by rfl, ?_⟩) (by assumption) ?_
        · intro w' hSw; go_simp; (rw [HADR.out]; split <;> rfl)
        (try simp only [Act.put, List.getElem_toArray, List.getElem_cons_zero, List.getElem_cons_succ, List.setIfInBounds_toArray, List.set_cons_zero, List.set_cons_succ])
        refine wpAnyH_ready (rs := [0]) (by kernel_rfl) (by simp) (AllReadyH.cons rfl (fun K hK => ?_) AllReadyH.nil)
        go_simp
        have HA1 := Lib.hid HA0.out.start
        refine hK.out _ _ HA1.out.bel (fun hHeld => ?_)
        clear hK K
        rename_i hOld
        clear hOld
        (try simp only [Act.put, List.getElem_toArray, List.getElem_cons_zero, List.getElem_cons_succ, List.setIfInBounds_toArray, List.set_cons_zero, List.set_cons_succ])
        generalize hw : World.alloc v0 _ = v1 at hHeld HA1 ⊢
        clear hw
        refine wpAnyH_ready (rs := [5]) (by kernel_rfl) (by simp) (AllReadyH.cons rfl (fun K hK => ?_) AllReadyH.nil)
        refine step_append_src _ rfl (.tmp 51) (.tmp 55) 40 rfl w2.heap.size 9 ti _ 1 16 Tryd.underlying40 hti hz0 hz1 hz2 rfl (by decide) (.slice (some ⟨v0.heap.size, 0, none⟩) 0 0) 0 [] (by simp [Act.eval]) HA1.out.own (some ⟨vb, vo, none⟩) y qvc ((t.vars.take y).map Value.string) (by simp [Act.eval]) (HS1.out.below HA1.out.bel) strs_ones (by unfold maxLen; omega) (by omega) HA1.out.bel.size ?_
        intro r2 v2 hown hgrow hplace
        rw [Nat.zero_add, List.nil_append] at hown
        obtain ⟨ra2, rc2, rfl⟩ := own_val hown
        have HA2 := Lib.hid (HA1.out.grow hown hgrow hplace)
        refine hK.out _ _ HA2.out.bel (fun hHeld => ?_)
        clear hK K hown hgrow hplace
        rename_i hOld
        clear hOld
        (try simp only [Act.put, List.getElem_toArray, List.getElem_cons_zero, List.getElem_cons_succ, List.setIfInBounds_toArray, List.set_cons_zero, List.set_cons_succ])
        refine wpAnyH_ready (rs := [11]) (by kernel_rfl) (by simp) (AllReadyH.cons rfl (fun K hK => ?_) AllReadyH.nil)
        refine step_append_src _ rfl (.tmp 56) (.tmp 61) 40 rfl w2.heap.size 9 ti _ 1 16 Tryd.underlying40 hti hz0 hz1 hz2 rfl (by decide) (.slice ra2 y rc2) y (((t.vars.take y).map Value.string)) (by simp [Act.eval]) HA2.out.own (some A2) (t.vars.length - (y + 1)) (qvc - (y + 1)) ((t.vars.drop (y + 1)).map Value.string) (by simp [Act.eval]) (HS2.out.below HA2.out.bel) strs_ones (by unfold maxLen; omega) (by omega) HA2.out.bel.size ?_
        intro r3 v3 hown hgrow hplace
        obtain ⟨ra3, rc3, rfl⟩ := own_val hown
        have HA3 := Lib.hid (HA2.out.grow hown hgrow hplace)
        refine hK.out _ _ HA3.out.bel (fun hHeld => ?_)
        clear hK K hown hgrow hplace
        rename_i hOld
        clear hOld
        (try simp only [Act.put, List.getElem_toArray, List.getElem_cons_zero, List.getElem_cons_succ, List.setIfInBounds_toArray, List.set_cons_zero, List.set_cons_succ])
        refine wpAnyH_take (i := 12) (v := .pointer (some ⟨w2.heap.size, 2, none⟩)) rfl (by kernel_rfl) (by kernel_rfl) (by kernel_rfl) (fun _ _ _ h => h) (Or.inl ⟨by rfl, ?_⟩) (by assumption) ?_
        · intro w' hSw; go_simp
        (try simp only [Act.put, List.getElem_toArray, List.getElem_cons_zero, List.getElem_cons_succ, List.setIfInBounds_toArray, List.set_cons_zero, List.set_cons_succ])
        have b0 := (HA3.out.blk (w2.heap.size, tskObj t ⟨some ⟨vb, vo, none⟩, qvc, qaa, qac, qka, qkc⟩) (by simp)).1
        have f0 := mem_free b0 2
        have f1 := mem_cell b0 2
        have f1 : v3.cell? ⟨w2.heap.size, 2, none⟩ = some (.slice (some ⟨vb, vo, none⟩) t.vars.length qvc) := f1.trans rfl
        have HEND := Lib.hid (AppSt.put2 (k := 2) HA3.out (ub := w2.heap.size) (arr := (t.cells ⟨some ⟨vb, vo, none⟩, qvc, qaa, qac, qka, qkc⟩)) (T := 45) (show (w2.heap.size, tskObj t ⟨some ⟨vb, vo, none⟩, qvc, qaa, qac, qka, qkc⟩) ∈ _ by simp) (by exact Nat.le_refl _))
        clear b0
        refine wpAnyH_ready (rs := [13]) (by kernel_rfl) (by simp) (AllReadyH.cons rfl (fun K hK => ?_) AllReadyH.nil)
        go_simp
        clear f0 f1
        generalize World.setCell _ _ _ = wS at HEND ⊢
        refine hK.out _ _ ((let ⟨⟨_, _, _, _, h⟩, _⟩ := HEND.out; h)) (fun hHeld => ?_)
        clear hK K
        rename_i hOld
        clear hOld
        (try simp only [Act.put, List.getElem_toArray, List.getElem_cons_zero, List.getElem_cons_succ, List.setIfInBounds_toArray, List.set_cons_zero, List.set_cons_succ])
        refine wpAnyH_done (by kernel_rfl) ?_ _
        exact ⟨[_, _, _, _, _, _, _, _, _, _, _, _, _], rfl, (by simp only [putAll, List.setIfInBounds_toArray, List.set_cons_zero, List.set_cons_succ]; rfl), HEND.out⟩
    · skip
      have q0 := (HA0.out.blk (w2.heap.size, tskObj t ⟨some ⟨vb, vo, none⟩, qvc, qaa, qac, qka, qkc⟩) (by simp)).1
      have q1 : v0.cell? ⟨w2.heap.size, 2, none⟩ = some (.slice (some ⟨vb, vo, none⟩) t.vars.length qvc) := (mem_cell q0 2).trans rfl
      go_simp
      refine hK.out _ _ HA0.out.bel (fun hHeld => ?_)
      clear hK K q0 q1
      rename_i hOld
      clear hOld
      (try simp only [Act.put, List.getElem_toArray, List.getElem_cons_zero, List.getElem_cons_succ, List.setIfInBounds_toArray, List.set_cons_zero, List.set_cons_succ])
      refine wpAnyH_take (i := 10) (v := .slice (some A2) (t.vars.length - (y + 1)) (qvc - (y + 1))) rfl (by kernel_rfl) (by kernel_rfl) (by kernel_rfl) (fun _ _ _ h => h) (Or.inl ⟨by rfl, ?_⟩) (by assumption) ?_
      · intro w' hSw; go_simp; (rw [HADR.out]; split <;> rfl)
      (try simp only [Act.put, List.getElem_toArray, List.getElem_cons_zero, List.getElem_cons_succ, List.setIfInBounds_toArray, List.set_cons_zero, List.set_cons_succ])
      refine wpAnyH_ready (rs := [0, 2]) (by kernel_rfl) (by simp) (AllReadyH.cons rfl (fun K hK => ?_) (AllReadyH.cons rfl (fun K hK => ?_) AllReadyH.nil))
      · skip
        go_simp
        have HA1 := Lib.hid HA0.out.start
        refine hK.out _ _ HA1.out.bel (fun hHeld => ?_)
        clear hK K
        rename_i hOld
        clear hOld
        (try simp only [Act.put, List.getElem_toArray, List.getElem_cons_zero, List.getElem_cons_succ, List.setIfInBounds_toArray, List.set_cons_zero, List.set_cons_succ])
        generalize hw : World.alloc v0 _ = v1 at hHeld HA1 ⊢
        clear hw
        refine wpAnyH_ready (rs := [2]) (by kernel_rfl) (by simp) (AllReadyH.cons rfl (fun K hK => ?_) AllReadyH.nil)
        have q0 := (HA1.out.blk (w2.heap.size, tskObj t ⟨some ⟨vb, vo, none⟩, qvc, qaa, qac, qka, qkc⟩) (by simp)).1
        have q1 : v1.cell? ⟨w2.heap.size, 2, none⟩ = some (.slice (some ⟨vb, vo, none⟩) t.vars.length qvc) := (mem_cell q0 2).trans rfl
        go_simp
        refine hK.out _ _ HA1.out.bel (fun hHeld => ?_)
        clear hK K q0 q1
        rename_i hOld
        clear hOld
        (try simp only [Act.put, List.getElem_toArray, List.getElem_cons_zero, List.getElem_cons_succ, List.setIfInBounds_toArray, List.set_cons_zero, List.set_cons_succ])
        refine wpAnyH_take (i := 4) (v := .slice (some ⟨vb, vo, none⟩) y qvc) rfl (by kernel_rfl) (by kernel_rfl) (by kernel_rfl) (fun _ _ _ h => h) (Or.inl ⟨by rfl, ?_⟩) (by assumption) ?_
        · intro w' hSw; go_simp
        (try simp only [Act.put, List.getElem_toArray, List.getElem_cons_zero, List.getElem_cons_succ, List.setIfInBounds_toArray, List.set_cons_zero, List.set_cons_succ])
        refine wpAnyH_ready (rs := [5]) (by kernel_rfl) (by simp) (AllReadyH.cons rfl (fun K hK => ?_) AllReadyH.nil)
        refine step_append_src _ rfl (.tmp 51) (.tmp 55) 40 rfl w2.heap.size 9 ti _ 1 16 Tryd.underlying40 hti hz0 hz1 hz2 rfl (by decide) (.slice (some ⟨v0.heap.size, 0, none⟩) 0 0) 0 [] (by simp [Act.eval]) HA1.out.own (some ⟨vb, vo, none⟩) y qvc ((t.vars.take y).map Value.string) (by simp [Act.eval]) (HS1.out.below HA1.out.bel) strs_ones (by unfold maxLen; omega) (by omega) HA1.out.bel.size ?_
        intro r2 v2 hown hgrow hplace
        rw [Nat.zero_add, List.nil_append] at hown
        obtain ⟨ra2, rc2, rfl⟩ := own_val hown
        have HA2 := Lib.hid (HA1.out.grow hown hgrow hplace)
        refine hK.out _ _ HA2.out.bel (fun hHeld => ?_)
        clear hK K hown hgrow hplace
        rename_i hOld
        clear hOld
        (try simp only [Act.put, List.getElem_toArray, List.getElem_cons_zero, List.getElem_cons_succ, List.setIfInBounds_toArray, List.set_cons_zero, List.set_cons_succ])
        refine wpAnyH_ready (rs := [11]) (by kernel_rfl) (by simp) (AllReadyH.cons rfl (fun K hK => ?_) AllReadyH.nil)
        refine step_append_src _ rfl (.tmp 56) (.tmp 61) 40 rfl w2.heap.size 9 ti _ 1 16 Tryd.underlying40 hti hz0 hz1 hz2 rfl (by decide) (.slice ra2 y rc2) y (((t.vars.take y).map Value.string)) (by simp [Act.eval]) HA2.out.own (some A2) (t.vars.length - (y + 1)) (qvc - (y + 1)) ((t.vars.drop (y + 1)).map Value.string) (by simp [Act.eval]) (HS2.out.below HA2.out.bel) strs_ones (by unfold maxLen; omega) (by omega) HA2.out.bel.size ?_
        intro r3 v3 hown hgrow hplace
        obtain ⟨ra3, rc3, rfl⟩ := own_val hown
        have HA3 := Lib.hid (HA2.out.grow hown hgrow hplace)
        refine hK.out _ _ HA3.out.bel (fun hHeld => ?_)
        clear hK K hown hgrow hplace
        rename_i hOld
        clear hOld
        (try simp only [Act.put, List.getElem_toArray, List.getElem_cons_zero, List.getElem_cons_succ, List.setIfInBounds_toArray, List.set_cons_zero, List.set_cons_succ])
        refine wpAnyH_take (i := 12) (v := .pointer (some ⟨w2.heap.size, 2, none⟩)) rfl (by kernel_rfl) (by kernel_rfl) (by kernel_rfl) (fun _ _ _ h => h) (Or.inl ⟨by rfl, ?_⟩) (by assumption) ?_
        · intro w' hSw; go_simp
        (try simp only [Act.put, List.getElem_toArray, List.getElem_cons_zero, List.getElem_cons_succ, List.setIfInBounds_toArray, List.set_cons_zero, List.set_cons_succ])
        have b0 := (HA3.out.blk (w2.heap.size, tskObj t ⟨some ⟨vb, vo, none⟩, qvc, qaa, qac, qka, qkc⟩) (by simp)).1
        have f0 := mem_free b0 2
        have f1 := mem_cell b0 2
        have f1 : v3.cell? ⟨w2.heap.size, 2, none⟩ = some (.slice (some ⟨vb, vo, none⟩) t.vars.length qvc) := f1.trans rfl
        have HEND := Lib.hid (AppSt.put2 (k := 2) HA3.out (ub := w2.heap.size) (arr := (t.cells ⟨some ⟨vb, vo, none⟩, qvc, qaa, qac, qka, qkc⟩)) (T := 45) (show (w2.heap.size, tskObj t ⟨some ⟨vb, vo, none⟩, qvc, qaa, qac, qka, qkc⟩) ∈ _ by simp) (by exact Nat.le_refl _))
        clear b0
        refine wpAnyH_ready (rs := [13]) (by kernel_rfl) (by simp) (AllReadyH.cons rfl (fun K hK => ?_) AllReadyH.nil)
        go_simp
        clear f0 f1
        generalize World.setCell _ _ _ = wS at HEND ⊢
        refine hK.out _ _ ((let ⟨⟨_, _, _, _, h⟩, _⟩ := HEND.out; h)) (fun hHeld => ?_)
        clear hK K
        rename_i hOld
        clear hOld
        (try simp only [Act.put, List.getElem_toArray, List.getElem_cons_zero, List.getElem_cons_succ, List.setIfInBounds_toArray, List.set_cons_zero, List.set_cons_succ])
        refine wpAnyH_done (by kernel_rfl) ?_ _
        exact ⟨[_, _, _, _, _, _, _, _, _, _, _, _, _], rfl, (by simp only [putAll, List.setIfInBounds_toArray, List.set_cons_zero, List.set_cons_succ]; rfl), HEND.out⟩
      · skip
        have q0 := (HA0.out.blk (w2.heap.size, tskObj t ⟨some ⟨vb, vo, none⟩, qvc, qaa, qac, qka, qkc⟩) (by simp)).1
        have q1 : v0.cell? ⟨w2.heap.size, 2, none⟩ = some (.slice (some ⟨vb, vo, none⟩) t.vars.length qvc) := (mem_cell q0 2).trans rfl
        go_simp
        refine hK.out _ _ HA0.out.bel (fun hHeld => ?_)
        clear hK K q0 q1
        rename_i hOld
        clear hOld
        (try simp only [Act.put, List.getElem_toArray, List.getElem_cons_zero, List.getElem_cons_succ, List.setIfInBounds_toArray, List.set_cons_zero, List.set_cons_succ])
        refine wpAnyH_take (i := 4) (v := .slice (some ⟨vb, vo, none⟩) y qvc) rfl (by kernel_rfl) (by kernel_rfl) (by kernel_rfl) (fun _ _ _ h => h) (Or.inl ⟨by rfl, ?_⟩) (by assumption) ?_
        · intro w' hSw; go_simp
        (try simp only [Act.put, List.getElem_toArray, List.getElem_cons_zero, List.getElem_cons_succ, List.setIfInBounds_toArray, List.set_cons_zero, List.set_cons_succ])
        refine wpAnyH_ready (rs := [0]) (by kernel_rfl) (by simp) (AllReadyH.cons rfl (fun K hK => ?_) AllReadyH.nil)
        go_simp
        have HA1 := Lib.hid HA0.out.start
        refine hK.out _ _ HA1.out.bel (fun hHeld => ?_)
        clear hK K
        rename_i hOld
        clear hOld
        (try simp only [Act.put, List.getElem_toArray, List.getElem_cons_zero, List.getElem_cons_succ, List.setIfInBounds_toArray, List.set_cons_zero, List.set_cons_succ])
        generalize hw : World.alloc v0 _ = v1 at hHeld HA1 ⊢
        clear hw
        refine wpAnyH_ready (rs := [5]) (by kernel_rfl) (by simp) (AllReadyH.cons rfl (fun K hK => ?_) AllReadyH.nil)
        refine step_append_src _ rfl (.tmp 51) (.tmp 55) 40 rfl w2.heap.size 9 ti _ 1 16 Tryd.underlying40 hti hz0 hz1 hz2 rfl (by decide) (.slice (some ⟨v0.heap.size, 0, none⟩) 0 0) 0 [] (by simp [Act.eval]) HA1.out.own (some ⟨vb, vo, none⟩) y qvc ((t.vars.take y).map Value.string) (by simp [Act.eval]) (HS1.out.below HA1.out.bel) strs_ones (by unfold maxLen; omega) (by omega) HA1.out.bel.size ?_
        intro r2 v2 hown hgrow hplace
        rw [Nat.zero_add, List.nil_append] at hown
        obtain ⟨ra2, rc2, rfl⟩ := own_val hown
        have HA2 := Lib.hid (HA1.out.grow hown hgrow hplace)
        refine hK.out _ _ HA2.out.bel (fun hHeld => ?_)
        clear hK K hown hgrow hplace
        rename_i hOld
        clear hOld
        (try simp only [Act.put, List.getElem_toArray, List.getElem_cons_zero, List.getElem_cons_succ, List.setIfInBounds_toArray, List.set_cons_zero, List.set_cons_succ])
        refine wpAnyH_ready (rs := [11]) (by kernel_rfl) (by simp) (AllReadyH.cons rfl (fun K hK => ?_) AllReadyH.nil)
        refine step_append_src _ rfl (.tmp 56) (.tmp 61) 40 rfl w2.heap.size 9 ti _ 1 16 Tryd.underlying40 hti hz0 hz1 hz2 rfl (by decide) (.slice ra2 y rc2) y (((t.vars.take y).map Value.string)) (by simp [Act.eval]) HA2.out.own (some A2) (t.vars.length - (y + 1)) (qvc - (y + 1)) ((t.vars.drop (y + 1)).map Value.string) (by simp [Act.eval]) (HS2.out.below HA2.out.bel) strs_ones (by unfold maxLen; omega) (by omega) HA2.out.bel.size ?_
        intro r3 v3 hown hgrow hplace
        obtain ⟨ra3, rc3, rfl⟩ := own_val hown
        have HA3 := Lib.hid (HA2.out.grow hown hgrow hplace)
        refine hK.out _ _ HA3.out.bel (fun hHeld => ?_)
        clear hK K hown hgrow hplace
        rename_i hOld
        clear hOld
        (try simp only [Act.put, List.getElem_toArray, List.getElem_cons_zero, List.getElem_cons_succ, List.setIfInBounds_toArray, List.set_cons_zero, List.set_cons_succ])
        refine wpAnyH_take (i := 12) (v := .pointer (some ⟨w2.heap.size, 2, none⟩)) rfl (by kernel_rfl) (by kernel_rfl) (by kernel_rfl) (fun _ _ _ h => h) (Or.inl ⟨by rfl, ?_⟩) (by assumption) ?_
        · intro w' hSw; go_simp
        (try simp only [Act.put, List.getElem_toArray, List.getElem_cons_zero, List.getElem_cons_succ, List.setIfInBounds_toArray, List.set_cons_zero, List.set_cons_succ])
        have b0 := (HA3.out.blk (w2.heap.size, tskObj t ⟨some ⟨vb, vo, none⟩, qvc, qaa, qac, qka, qkc⟩) (by simp)).1
        have f0 := mem_free b0 2
        have f1 := mem_cell b0 2
        have f1 : v3.cell? ⟨w2.heap.size, 2, none⟩ = some (.slice (some ⟨vb, vo, none⟩) t.vars.length qvc) := f1.trans rfl
        have HEND := Lib.hid (AppSt.put2 (k := 2) HA3.out (ub := w2.heap.size) (arr := (t.cells ⟨some ⟨vb, vo, none⟩, qvc, qaa, qac, qka, qkc⟩)) (T := 45) (show (w2.heap.size, tskObj t ⟨some ⟨vb, vo, none⟩, qvc, qaa, qac, qka, qkc⟩) ∈ _ by simp) (by exact Nat.le_refl _))
        clear b0
        refine wpAnyH_ready (rs := [13]) (by kernel_rfl) (by simp) (AllReadyH.cons rfl (fun K hK => ?_) AllReadyH.nil)
        go_simp
        clear f0 f1
        generalize World.setCell _ _ _ = wS at HEND ⊢
        refine hK.out _ _ ((let ⟨⟨_, _, _, _, h⟩, _⟩ := HEND.out; h)) (fun hHeld => ?_)
        clear hK K
        rename_i hOld
        clear hOld
        (try simp only [Act.put, List.getElem_toArray, List.getElem_cons_zero, List.getElem_cons_succ, List.setIfInBounds_toArray, List.set_cons_zero, List.set_cons_succ])
        refine wpAnyH_done (by kernel_rfl) ?_ _
        exact ⟨[_, _, _, _, _, _, _, _, _, _, _, _, _], rfl, (by simp only [putAll, List.setIfInBounds_toArray, List.set_cons_zero, List.set_cons_succ]; rfl), HEND.out⟩
  rintro a' w3 ⟨l, hl, rfl, hend⟩
  obtain ⟨A, c, hbx, hst, hnb, hBe⟩ := ud_end hyl (fun s hs => HINW.out.vars.sizes s hs) (mem_lt HTX.out) hend
  clear hend
  obtain ⟨l0, l1, l2, l3, l4, l5, l6, l7, l8, l9, l10, l11, l12, rfl⟩ := list13 hl
  simp only [putAll, List.setIfInBounds_toArray, List.set_cons_zero, List.set_cons_succ]
  have HB3 : Hid (Below W.heap.size W w3) := mem_then HB2.out hBe
  have HB23 := Lib.hid hBe
  have HBX3 := Lib.hid hbx
  have HST := Lib.hid hst
  have HNB := Lib.hid hnb
  clear hl hbx hst hnb hBe hj1 hj3 hj4 hj5 hj6 hj7 hj8 hj9 hj10 hj11
  -- what the worlds behind keep
  have HK3 : Hid (∀ w', Below w3.heap.size w3 w' → Below w.heap.size w w' ∧ w'.cell? ⟨w.heap.size, 0, none⟩ = some (.slice sa p.shared.length sc) ∧ w'.cell? ⟨w.heap.size, 1, none⟩ = some (.slice (some ⟨tb, tf, none⟩) p.tasks.length tc) ∧ PrgAt w' p sa (some ⟨tb, tf, none⟩) ∧ SignsIn w' ∧ w'.heap[w2.heap.size]? = some (tskObj (dropV t y) ⟨A, c, qaa, qac, qka, qkc⟩) ∧ TskIn w' (dropV t y) ⟨A, c, qaa, qac, qka, qkc⟩ ∧ w'.heap[D.heap.size]? = some (.cells #[.string v] 9)) := fun w' h => by
    obtain ⟨h1, h2, h3, h4, h5⟩ := HK.out w' (mem_then HB3.out h)
    have h6 := HIN.out.below HB23.out
    exact ⟨h1, h2, h3, h4, h5, mem_keep HBX3.out h, TskIn.below ⟨h6.name, h6.period, HST.out, h6.arrays, h6.body⟩ h, mem_keep HNB.out h⟩
  obtain ⟨qa, hqa⟩ : ∃ qa : TskPlace, qa = ⟨A, c, qaa, qac, qka, qkc⟩ := ⟨_, rfl⟩
  go_wp2_with fail
  refine wp_region_held_drew (S := fun w' => Below w3.heap.size w3 w') (by kernel_rfl) ((Below.refl _ _).drew) (fun hHeld => ?_)
  generalize hwd : World.drew _ = v0 at hHeld ⊢
  clear hwd
  refine wpAnyH_take (i := 0) (v := .agg #[.slice sa p.shared.length sc, .slice (some ⟨tb, tf, none⟩) p.tasks.length tc]) rfl (by kernel_rfl) (by kernel_rfl) (by kernel_rfl) (fun _ _ _ h => h) (Or.inl ⟨by rfl, ?_⟩) (by assumption) ?_
  · intro w' hSw; obtain ⟨_, z0, z1, _⟩ := HK3.out _ hSw; go_simp
  (try simp only [Act.put, List.getElem_toArray, List.getElem_cons_zero, List.setIfInBounds_toArray, List.set_cons_zero, List.set_cons_succ])
  refine wpAnyH_take (i := 1) (v := .int .i64 (i : Int)) rfl (by kernel_rfl) (by kernel_rfl) (by kernel_rfl) (fun _ _ _ h => h) (Or.inl ⟨by rfl, ?_⟩) (by assumption) ?_
  · intro w' hSw; go_simp
  (try simp only [Act.put, List.getElem_toArray, List.getElem_cons_zero, List.getElem_cons_succ, List.setIfInBounds_toArray, List.set_cons_zero, List.set_cons_succ])
  refine wpAnyH_take (i := 2) (v := .agg ((dropV t y).cells ⟨A, c, qaa, qac, qka, qkc⟩)) rfl (by kernel_rfl) (by kernel_rfl) (by kernel_rfl) (fun _ _ _ h => h) (Or.inl ⟨by rfl, ?_⟩) (by assumption) ?_
  · intro w' hSw; obtain ⟨_, _, _, _, _, hx, _⟩ := HK3.out _ hSw; have z0 := mem_cell hx 0; have z1 := mem_cell hx 1; have z2 := mem_cell hx 2; have z3 := mem_cell hx 3; have z4 := mem_cell hx 4; have z5 := mem_cell hx 5; have z6 := mem_cell hx 6; have z7 := mem_cell hx 7; simp only [Tsk.cells, List.getElem?_toArray, List.getElem?_cons_zero, List.getElem?_cons_succ] at z0 z1 z2 z3 z4 z5 z6 z7; go_simp; rfl
  (try simp only [Act.put, List.getElem_toArray, List.getElem_cons_zero, List.getElem_cons_succ, List.setIfInBounds_toArray, List.set_cons_zero, List.set_cons_succ])
  refine wpAnyH_take (i := 4) (v := .int .i64 (i : Int)) rfl (by kernel_rfl) (by kernel_rfl) (by kernel_rfl) (fun _ _ _ h => h) (Or.inl ⟨by rfl, ?_⟩) (by assumption) ?_
  · intro w' hSw; go_simp
  (try simp only [Act.put, List.getElem_toArray, List.getElem_cons_zero, List.getElem_cons_succ, List.setIfInBounds_toArray, List.set_cons_zero, List.set_cons_succ])
  refine wpAnyH_take (i := 5) (v := .pointer (some ⟨w2.heap.size, 4, none⟩)) rfl (by kernel_rfl) (by kernel_rfl) (by kernel_rfl) (fun _ _ _ h => h) (Or.inl ⟨by rfl, ?_⟩) (by assumption) ?_
  · intro w' hSw; go_simp
  (try simp only [Act.put, List.getElem_toArray, List.getElem_cons_zero, List.getElem_cons_succ, List.setIfInBounds_toArray, List.set_cons_zero, List.set_cons_succ])
  refine wpAnyH_take (i := 6) (v := t.body.val qka qkc) rfl (by kernel_rfl) (by kernel_rfl) (by kernel_rfl) (fun _ _ _ h => h) (Or.inl ⟨by rfl, ?_⟩) (by assumption) ?_
  · intro w' hSw; obtain ⟨_, _, _, _, _, hx, _⟩ := HK3.out _ hSw; have z4 := mem_cell hx 4; have z5 := mem_cell hx 5; have z6 := mem_cell hx 6; have z7 := mem_cell hx 7; simp only [Tsk.cells, List.getElem?_toArray, List.getElem?_cons_zero, List.getElem?_cons_succ] at z4 z5 z6 z7; go_simp; exact ⟨rfl, rfl, rfl, rfl⟩
  (try simp only [Act.put, List.getElem_toArray, List.getElem_cons_zero, List.getElem_cons_succ, List.setIfInBounds_toArray, List.set_cons_zero, List.set_cons_succ])
  refine wpAnyH_take (i := 7) (v := .func (.func 30) #[] #[.pointer (some ⟨D.heap.size, 0, none⟩)]) rfl (by kernel_rfl) (by kernel_rfl) (by kernel_rfl) (fun _ _ _ h => h) (Or.inl ⟨by rfl, ?_⟩) (by assumption) ?_
  · intro w' hSw; go_simp
  (try simp only [Act.put, List.getElem_toArray, List.getElem_cons_zero, List.getElem_cons_succ, List.setIfInBounds_toArray, List.set_cons_zero, List.set_cons_succ])
  refine wpAnyH_ready (rs := [3]) (by kernel_rfl) (by simp) (AllReadyH.cons rfl (fun K hK => ?_) AllReadyH.nil)
  go_simp
  have hk0 := HK3.out v0 hHeld
  refine (swap_any p i (dropV t y) ⟨A, c, qaa, qac, qka, qkc⟩ v0 sa (some ⟨tb, tf, none⟩) sc tc hk0.2.2.2.1 hk0.2.2.2.2.2.2.1 hil (by have := HLE.out.2.1; omega)).mono ?_
  rintro e w4 ⟨ta', tc', rfl, hp4, hB4⟩
  have HP4 := Lib.hid hp4
  have HB4 : Hid (Below w3.heap.size w3 w4) := mem_then hHeld hB4
  clear hp4 hB4 hk0
  refine hK.out _ _ (HB4.out) (fun hHeld => ?_)
  clear hK K
  rename_i hOld
  clear hOld
  (try simp only [Act.put, List.getElem_toArray, List.getElem_cons_zero, List.getElem_cons_succ, List.setIfInBounds_toArray, List.set_cons_zero, List.set_cons_succ])
  have HTOK : Hid (tskOk t = true) := by show _ = _; rw [← HT.out]; exact HLE.out.2.2 i hil
  have HK4 := Lib.hid (HK3.out w4 HB4.out)
  refine wpAnyH_ready (rs := [8]) (by kernel_rfl) (by simp) (AllReadyH.cons rfl (fun K hK => ?_) AllReadyH.nil)
  go_simp
  refine (where_any (isVarF v) 30 #[.pointer (some ⟨D.heap.size, 0, none⟩)] (enters_of Tryd.func30 (by kernel_rfl) rfl) t.body w4 qka qkc HK4.out.2.2.2.2.2.2.1.body (by have := (tskOk_le HTOK.out).2.2; omega) (by have := tskOk_depth HTOK.out; omega) (fun x W' a c hb hr => isVar_any v D.heap.size x W' a c hr (mem_keep HK4.out.2.2.2.2.2.2.2 hb))).mono ?_
  rintro e w5 ⟨a5, c5, rfl, hps, hB5⟩
  have HPS := Lib.hid hps
  have HB5 : Hid (Below w3.heap.size w3 w5) := mem_then HB4.out hB5
  have HP5 := Lib.hid (HP4.out.below hB5)
  clear hps hB5
  refine hK.out _ _ (HB5.out) (fun hHeld => ?_)
  clear hK K
  rename_i hOld
  clear hOld
  (try simp only [Act.put, List.getElem_toArray, List.getElem_cons_zero, List.getElem_cons_succ, List.setIfInBounds_toArray, List.set_cons_zero, List.set_cons_succ])
  refine wpAnyH_ready (rs := [9]) (by kernel_rfl) (by simp) (AllReadyH.cons rfl (fun K hK => ?_) AllReadyH.nil)
  go_simp
  refine (only_any (swapP p i (dropV t y)) (i : Int) 6 (wantP (isVarF v) (t.body.items [])) w5 sa ta' a5 sc tc' c5 HP5.out (HK3.out w5 HB5.out).2.2.2.2.1 HPS.out).mono ?_
  rintro e w6 ⟨he, hB6⟩
  have hO : onlyP (swapP p i (dropV t y)) (i : Int) 6 (wantP (isVarF v) (t.body.items [])) = true := by
    have h := undecl_ok (j := y) HT.out HOK.out hil hyl
    rwa [HV.out] at h
  rw [hO] at he
  subst he
  have HB6 : Hid (Below w3.heap.size w3 w6) := mem_then HB5.out hB6
  clear hO hB6
  refine hK.out _ _ (HB6.out) (fun hHeld => ?_)
  clear hK K
  rename_i hOld
  clear hOld
  (try simp only [Act.put, List.getElem_toArray, List.getElem_cons_zero, List.getElem_cons_succ, List.setIfInBounds_toArray, List.set_cons_zero, List.set_cons_succ])
  refine wpAnyH_ready (rs := [10]) (by kernel_rfl) (by simp) (AllReadyH.cons rfl (fun K hK => ?_) AllReadyH.nil)
  go_simp
  refine hK.out _ _ (HB6.out) (fun hHeld => ?_)
  clear hK K
  rename_i hOld
  clear hOld
  (try simp only [Act.put, List.getElem_toArray, List.getElem_cons_zero, List.getElem_cons_succ, List.setIfInBounds_toArray, List.set_cons_zero, List.set_cons_succ])
  refine wpAnyH_done (by kernel_rfl) ?_ _
  clear hHeld
  go_wp2_with fail
  go_ret
  exact ⟨rfl, (HK3.out w6 HB6.out).1⟩
end Go.Proofs.YtnegdmhmhdojbaaDoor
