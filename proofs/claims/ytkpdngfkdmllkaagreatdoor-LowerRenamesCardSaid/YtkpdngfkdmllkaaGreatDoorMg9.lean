/- Part. -/
import Derived.Laws.EntriesVeiled
import Derived.Test.YtkpdngfkdmllkaaGreatDoorMg8
namespace Go.Proofs.YtkpdngfkdmllkaaGreatDoor
set_option linter.unusedVariables false
set_option linter.unusedSimpArgs false
open Go.RowKit
set_option maxRecDepth 100000
set_option maxHeartbeats 8000000
theorem declOne_map(ix:Int)(b:Bool)(s:ByteArray):(declOne ix b s).map (·.flt)=if b then [⟨[],8,s⟩] else []:=by unfold declOne;cases b <;> rfl
theorem declOne_task(ix:Int)(b:Bool)(s:ByteArray):∀ f∈declOne ix b s,f.task=ix:=by unfold declOne;cases b <;> simp
theorem declOne_len(ix:Int)(b:Bool)(s:ByteArray):(declOne ix b s).length≤1:=by unfold declOne;cases b <;> simp
theorem take_more{α:Type}{l:List α}{j:Nat}{d:α}(h:j<l.length):l.take (j+1)=l.take j++[l.getD j d]:=by
 rw[List.take_succ_eq_append_getElem h]
 simp[h]
theorem task15_any (ix : Int) (t : Tsk) (p : TskPlace) (sb ns : Nat) (shared : List ByteArray) (w : World) (ht : TskIn w t p) (hs : SetS w sb ns shared) (hv : t.vars.length ≤ 1000) (ha : t.arrays.length ≤ 1000) (hb : t.body.size ≤ 10000) :
    Calls Tryz.prog 44 #[.int .i64 ix, .agg (t.cells p), .map (some sb)] w fun e w' => ∃ v L, e = .returned v ∧ FltsAt w.heap.size w' v L ∧ L.map (·.flt) = taskF shared t ∧ (∀ f ∈ L, f.task = ix) ∧ L.length ≤ t.vars.length + t.arrays.length + t.body.size ∧ Below w.heap.size w w' := by
  obtain ⟨A1, h1⟩ : ∃ A1 : World, w.alloc (.cells #[.int .i64 ix] 3) = A1 := ⟨_, rfl⟩
  obtain ⟨A2, h2⟩ : ∃ A2 : World, A1.alloc (.cells #[.string t.name, .int .i64 t.period, .slice p.va t.vars.length p.vc, .slice p.aa t.arrays.length p.ac, .int .u8 t.body.kind, .int .i64 t.body.num, .string t.body.name, .slice p.ka t.body.len p.kc] 49) = A2 := ⟨_, rfl⟩
  obtain ⟨A3, h3⟩ : ∃ A3 : World, A2.alloc (.cells #[.slice none 0 0] 85) = A3 := ⟨_, rfl⟩
  obtain ⟨A4, h4⟩ : ∃ A4 : World, A3.alloc (.map #[] 0) = A4 := ⟨_, rfl⟩
  obtain ⟨A5, h5⟩ : ∃ A5 : World, A4.alloc (.map #[] 0) = A5 := ⟨_, rfl⟩
  obtain ⟨A6, h6⟩ : ∃ A6 : World, A5.alloc (.cells #[.map (some sb), .map (some A3.heap.size), .map (some A4.heap.size)] 131) = A6 := ⟨_, rfl⟩
  have b1 : Below w.heap.size w A1 := by rw [← h1]; exact mem_alloc _ _
  have b2 : Below A1.heap.size A1 A2 := by rw [← h2]; exact mem_alloc _ _
  have b3 : Below A2.heap.size A2 A3 := by rw [← h3]; exact mem_alloc _ _
  have b4 : Below A3.heap.size A3 A4 := by rw [← h4]; exact mem_alloc _ _
  have b5 : Below A4.heap.size A4 A5 := by rw [← h5]; exact mem_alloc _ _
  have b6 : Below A5.heap.size A5 A6 := by rw [← h6]; exact mem_alloc _ _
  have b26 : Below A1.heap.size A1 A6 := mem_then (mem_then (mem_then (mem_then b2 b3) b4) b5) b6
  have b36 : Below A2.heap.size A2 A6 := mem_then (mem_then (mem_then b3 b4) b5) b6
  have b46 : Below A3.heap.size A3 A6 := mem_then (mem_then b4 b5) b6
  have HB6 : Hid (Below w.heap.size w A6) := mem_then b1 b26
  have HIB : Hid (A6.heap[w.heap.size]? = some (.cells #[.int .i64 ix] 3)) := mem_keep (by rw [← h1]; exact mem_new _ _) b26
  have HTB : Hid (A6.heap[A1.heap.size]? = some (.cells #[.string t.name, .int .i64 t.period, .slice p.va t.vars.length p.vc, .slice p.aa t.arrays.length p.ac, .int .u8 t.body.kind, .int .i64 t.body.num, .string t.body.name, .slice p.ka t.body.len p.kc] 49)) := mem_keep (by rw [← h2]; exact mem_new _ _) b36
  have HFB : Hid (FB w.heap.size A6 A2.heap.size (.slice none 0 0) []) := ⟨mem_keep (by rw [← h3]; exact mem_new _ _) b46, FltsAt.nil, Nat.le_trans b1.size b2.size⟩
  have HC0 : Hid (SetS A6 A3.heap.size 0 []) := by show StrSet _ _ _ _ _ _ _; exact StrSet.below (by rw [← h4]; exact StrSet.made _ _ _ _) (mem_then b5 b6)
  have HA0 : Hid (SetS A6 A4.heap.size 0 []) := by show StrSet _ _ _ _ _ _ _; exact StrSet.below (by rw [← h5]; exact StrSet.made _ _ _ _) b6
  have HDB : Hid (A6.heap[A5.heap.size]? = some (.cells #[.map (some sb), .map (some A3.heap.size), .map (some A4.heap.size)] 131)) := by show _ = _; rw [← h6]; exact mem_new _ _
  have HS6 : Hid (SetS A6 sb ns shared) := StrSet.below hs HB6.out
  have HLT : Hid (w.heap.size < A1.heap.size ∧ A1.heap.size < A2.heap.size ∧ A2.heap.size < A3.heap.size ∧ A3.heap.size < A4.heap.size ∧ A4.heap.size < A5.heap.size ∧ A5.heap.size < A6.heap.size ∧ sb < w.heap.size) := by
    refine ⟨?_, ?_, ?_, ?_, ?_, ?_, hs.lt⟩
    · rw [← h1]; simp
    · rw [← h2]; simp
    · rw [← h3]; simp
    · rw [← h4]; simp
    · rw [← h5]; simp
    · rw [← h6]; simp
  have HT := ξ ht
  have HV := ξ hv
  have HA := ξ ha
  have HBS := ξ hb
  have hvf := ht.vars.1
  have haf := ht.arrays.1
  have y2 : A6.cell? ⟨A1.heap.size, 2, none⟩ = some (.slice p.va t.vars.length p.vc) := mem_cell HTB.out 2
  have hmm := @run_makeMap Tryz.prog
  unfold Tsk.cells
  clear hs ht hv ha hb b1 b2 b3 b4 b5 b6 b26 b36 b46
  go_enter Tryz.func44, Tryz.ntmps44
  go_wp2_with fail
  clear h1 h2 h3 h4 h5 h6 hmm y2
  go_loopw [23] (fun iv wr => ∃ (j : Nat) (v : Value) (L : List FltP) (n : Nat), j ≤ t.vars.length ∧ iv = .int .i64 (j : Int) ∧ n ≤ j ∧ FrK w.heap.size A3.heap.size A6 wr ∧ FB w.heap.size wr A2.heap.size v L ∧ SetS wr A3.heap.size n (t.vars.take j) ∧ L.map (·.flt) = declF (memB shared) [] (t.vars.take j) ∧ (∀ f ∈ L, f.task = ix) ∧ L.length ≤ j) (fun iv _ => t.vars.length - (intOf iv).toNat)
  case atStart => exact ⟨0, _, [], 0, Nat.zero_le _, rfl, Nat.le_refl _, FrK.refl, HFB.out, HC0.out, rfl, by simp, Nat.le_refl _⟩
  case round =>
    clear HFB HC0
    obtain ⟨j, v, L, n, hj, rfl, hnj, hfr, hfb, hset, hmap, htk, hlen⟩ := hrel
    have HFR := ξ hfr
    have HFB := ξ hfb
    have HSET := ξ hset
    have HMAP := ξ hmap
    have HTK := ξ htk
    have HLEN := ξ hlen
    have HNJ := ξ hnj
    have hj0 : (0 : Int) ≤ (j : Int) := by omega
    have HNW : Hid (w.heap.size ≤ wr.heap.size) := Nat.le_trans HB6.out.size hfr.low.size
    have HIBR : Hid (wr.heap[w.heap.size]? = some (.cells #[.int .i64 ix] 3)) := hfr.cells HIB.out (by have := HLT.out; omega) (by decide) (by decide)
    have HTBR : Hid (wr.heap[A1.heap.size]? = some (.cells #[.string t.name, .int .i64 t.period, .slice p.va t.vars.length p.vc, .slice p.aa t.arrays.length p.ac, .int .u8 t.body.kind, .int .i64 t.body.num, .string t.body.name, .slice p.ka t.body.len p.kc] 49)) := hfr.cells HTB.out (by have := HLT.out; omega) (by decide) (by decide)
    have HDBR : Hid (wr.heap[A5.heap.size]? = some (.cells #[.map (some sb), .map (some A3.heap.size), .map (some A4.heap.size)] 131)) := hfr.cells HDB.out (by have := HLT.out; omega) (by decide) (by decide)
    have HSR : Hid (SetS wr sb ns shared) := hfr.set HS6.out (by have := HLT.out; omega)
    have HAR : Hid (SetS wr A4.heap.size 0 []) := hfr.set HA0.out (by have := HLT.out; omega)
    have HBWR : Hid (Below w.heap.size w wr) := HB6.out.trans hfr.low
    clear hfr hfb hset hmap htk hlen hnj
    by_cases hlt : j < t.vars.length
    · have hlt2 : (j : Int) < (t.vars.length : Int) := by omega
      obtain ⟨bb, off, hva, hc, hsz⟩ := (HT.out.vars.below HBWR.out).2 j hlt
      have HVA := ξ hva
      obtain ⟨s, hs⟩ : ∃ s, t.vars.getD j ⟨#[]⟩ = s := ⟨_, rfl⟩
      rw [hs] at hc hsz
      have HSE : Hid (t.vars.take (j + 1) = t.vars.take j ++ [s]) := by show _ = _; rw [← hs]; exact take_more hlt
      have d1 : wr.cell? ⟨A5.heap.size, 1, none⟩ = some (.map (some A3.heap.size)) := mem_cell HDBR.out 1
      have QD := decl_any w.heap.size A5.heap.size A2.heap.size w.heap.size sb A3.heap.size A4.heap.size ix ⟨shared, t.vars.take j, []⟩ s A3.heap.size n (t.vars.take j) wr v L HNW.out hsz (by have := HNJ.out; have := HV.out; unfold maxLen; omega) (by have := HLEN.out; have := HV.out; omega) (by have := HLT.out; omega) HDBR.out HIBR.out ⟨⟨_, HSR.out⟩, ⟨_, HSET.out⟩, ⟨_, HAR.out⟩⟩ HSET.out HFB.out
      have HQD := ξ QD
      rw [HVA.out]
      clear hva hsz hs QD
      go_wp2_with fail
      clear hc d1
      refine HQD.out.mono ?_
      rintro e w2 ⟨rfl, v2, hf2, hs2, hk2⟩
      have HFR2 := ξ (HFR.out.trans hk2)
      have HF2 := ξ hf2
      have HS2 := ξ hs2
      have HM2 : Hid ((L ++ declOne ix (memB shared s || memB (t.vars.take j) s || memB [] s) s).map (·.flt) = declF (memB shared) [] (t.vars.take (j + 1))) := by
        show _ = _
        rw [List.map_append, HMAP.out, HSE.out, declF_snoc, declOne_map, List.nil_append, show memB [] s = false from rfl, Bool.or_false]
      have HT2 : Hid (∀ f ∈ L ++ declOne ix (memB shared s || memB (t.vars.take j) s || memB [] s) s, f.task = ix) := fun f hf => by
        rcases List.mem_append.1 hf with hf | hf
        · exact HTK.out f hf
        · exact declOne_task _ _ _ f hf
      have HL2 : Hid ((L ++ declOne ix (memB shared s || memB (t.vars.take j) s || memB [] s) s).length ≤ j + 1) := by
        show _ ≤ _
        rw [List.length_append]
        have := declOne_len ix (memB shared s || memB (t.vars.take j) s || memB [] s) s
        have := HLEN.out
        omega
      clear hf2 hs2 hk2 HQD
      go_wp2_with fail
      go_roundw
      case rel =>
       exact ⟨j + 1, v2, _, n + 1, by omega, by go_num, by have := HNJ.out; omega, HFR2.out, HF2.out, by rw [HSE.out]; exact HS2.out, HM2.out, HT2.out, HL2.out⟩
      case measure => simp [intOf]; omega
    · obtain rfl : j = t.vars.length := by omega
      have y3 : wr.cell? ⟨A1.heap.size, 3, none⟩ = some (.slice p.aa t.arrays.length p.ac) := mem_cell HTBR.out 3
      have HMAP0 : Hid (L.map (·.flt) = declF (memB shared) [] t.vars) := by
        show _ = _
        rw [HMAP.out, List.take_length]
      have HSC : Hid (SetS wr A3.heap.size 1000 t.vars) := by
        have h := HSET.out
        rw [List.take_length] at h
        show StrSet _ _ _ _ _ _ _
        exact StrSet.mono h (by have := HNJ.out; have := HV.out; omega)
      clear HMAP HSET HNJ hlt hj0 hj
      clear HIB HTB HDB HS6 HA0 HB6 HFR
      go_wp2_with fail
      clear y3
      obtain ⟨wz, hwz⟩ : ∃ wz : World, wz = wr := ⟨_, rfl⟩
      subst hwz
      go_loopw [36] (fun iv wr => ∃ (i : Nat) (v1 : Value) (L1 : List FltP) (m : Nat), i ≤ t.arrays.length ∧ iv = .int .i64 (i : Int) ∧ m ≤ i ∧ FrK w.heap.size A4.heap.size wz wr ∧ FB w.heap.size wr A2.heap.size v1 L1 ∧ SetS wr A4.heap.size m ((t.arrays.map (·.name)).take i) ∧ L1.map (·.flt) = declF (memB shared) [] (t.vars ++ (t.arrays.map (·.name)).take i) ∧ (∀ f ∈ L1, f.task = ix) ∧ L1.length ≤ t.vars.length + i) (fun iv _ => t.arrays.length - (intOf iv).toNat)
      case atStart => exact ⟨0, _, L, 0, Nat.zero_le _, rfl, Nat.le_refl _, FrK.refl, HFB.out, HAR.out, by rw [HMAP0.out, List.take_zero, List.append_nil], HTK.out, HLEN.out⟩
      case round =>
        clear HFB HAR HMAP0 HTK HLEN
        obtain ⟨i, v1, L1, m, hi, rfl, hmi, hfr, hfb, hset, hmap, htk, hlen⟩ := hrel
        have HFR := ξ hfr
        have HFB := ξ hfb
        have HSET := ξ hset
        have HMAP := ξ hmap
        have HTK := ξ htk
        have HLEN := ξ hlen
        have HMI := ξ hmi
        have hi0 : (0 : Int) ≤ (i : Int) := by omega
        have HNQ : Hid (w.heap.size ≤ wr.heap.size) := Nat.le_trans HNW.out hfr.low.size
        have HIBQ : Hid (wr.heap[w.heap.size]? = some (.cells #[.int .i64 ix] 3)) := hfr.cells HIBR.out (by have := HLT.out; omega) (by decide) (by decide)
        have HTBQ : Hid (wr.heap[A1.heap.size]? = some (.cells #[.string t.name, .int .i64 t.period, .slice p.va t.vars.length p.vc, .slice p.aa t.arrays.length p.ac, .int .u8 t.body.kind, .int .i64 t.body.num, .string t.body.name, .slice p.ka t.body.len p.kc] 49)) := hfr.cells HTBR.out (by have := HLT.out; omega) (by decide) (by decide)
        have HDBQ : Hid (wr.heap[A5.heap.size]? = some (.cells #[.map (some sb), .map (some A3.heap.size), .map (some A4.heap.size)] 131)) := hfr.cells HDBR.out (by have := HLT.out; omega) (by decide) (by decide)
        have HSQ : Hid (SetS wr sb ns shared) := hfr.set HSR.out (by have := HLT.out; omega)
        have HSCQ : Hid (SetS wr A3.heap.size 1000 t.vars) := hfr.set HSC.out (by have := HLT.out; omega)
        have HBWQ : Hid (Below w.heap.size w wr) := HBWR.out.trans hfr.low
        clear hfr hfb hset hmap htk hlen hmi
        by_cases hlt : i < t.arrays.length
        · have hlt2 : (i : Int) < (t.arrays.length : Int) := by omega
          obtain ⟨bb, off, haa, hc⟩ := (HT.out.arrays.below HBWQ.out).2 i hlt
          have HAA := ξ haa
          obtain ⟨x, hx⟩ : ∃ x, t.arrays.getD i Arr.none = x := ⟨_, rfl⟩
          rw [hx] at hc
          obtain ⟨hc1, hc2, hsz, _⟩ := hc
          have HSE : Hid ((t.arrays.map (·.name)).take (i + 1) = (t.arrays.map (·.name)).take i ++ [x.name]) := by
            show _ = _
            rw [List.take_succ_eq_append_getElem (by simpa using hlt), List.getElem_map, ← hx]
            simp [hlt]
          obtain ⟨D, hD⟩ : ∃ D : World, wr.alloc (.cells #[.string x.name, .int .i64 x.len] 73) = D := ⟨_, rfl⟩
          have hBD : Below wr.heap.size wr D := by rw [← hD]; exact mem_alloc _ _
          have HFD : Hid (FrT w.heap.size wr D) := FrT.of hBD HNQ.out
          have hx0 : D.heap[wr.heap.size]? = some (.cells #[.string x.name, .int .i64 x.len] 73) := by rw [← hD]; exact mem_new _ _
          have x0 : D.cell? ⟨wr.heap.size, 0, none⟩ = some (.string x.name) := mem_cell hx0 0
          have HDBD := mem_keep HDBQ.out hBD
          have d2 : D.cell? ⟨A5.heap.size, 2, none⟩ = some (.map (some A4.heap.size)) := mem_cell HDBD 2
          have QD := decl_any w.heap.size A5.heap.size A2.heap.size w.heap.size sb A3.heap.size A4.heap.size ix ⟨shared, t.vars, (t.arrays.map (·.name)).take i⟩ x.name A4.heap.size m ((t.arrays.map (·.name)).take i) D v1 L1 (Nat.le_trans HNQ.out hBD.size) hsz (by have := HMI.out; have := HA.out; unfold maxLen; omega) (by have := HLEN.out; have := HV.out; have := HA.out; omega) (by have := HLT.out; omega) HDBD (mem_keep HIBQ.out hBD) ⟨⟨_, HFD.out.set HSQ.out⟩, ⟨_, HFD.out.set HSCQ.out⟩, ⟨_, HFD.out.set HSET.out⟩⟩ (HFD.out.set HSET.out) (HFB.out.keep hBD)
          have HQD := ξ QD
          rw [HAA.out]
          clear haa hsz hx QD HDBD hBD hx0
          go_wp2_with fail
          clear hc1 hc2 x0 d2
          refine HQD.out.mono ?_
          rintro e w2 ⟨rfl, v2, hf2, hs2, hk2⟩
          have HFR2 := ξ (HFR.out.trans ((FrK.of HFD.out).trans hk2))
          have HF2 := ξ hf2
          have HS2 := ξ hs2
          have HM2 : Hid ((L1 ++ declOne ix (memB shared x.name || memB t.vars x.name || memB ((t.arrays.map (·.name)).take i) x.name) x.name).map (·.flt) = declF (memB shared) [] (t.vars ++ (t.arrays.map (·.name)).take (i + 1))) := by
            show _ = _
            rw [List.map_append, HMAP.out, HSE.out, ← List.append_assoc, declF_snoc, declOne_map, List.nil_append, memB_append, Bool.or_assoc]
          have HT2 : Hid (∀ f ∈ L1 ++ declOne ix (memB shared x.name || memB t.vars x.name || memB ((t.arrays.map (·.name)).take i) x.name) x.name, f.task = ix) := fun f hf => by
            rcases List.mem_append.1 hf with hf | hf
            · exact HTK.out f hf
            · exact declOne_task _ _ _ f hf
          have HL2 : Hid ((L1 ++ declOne ix (memB shared x.name || memB t.vars x.name || memB ((t.arrays.map (·.name)).take i) x.name) x.name).length ≤ t.vars.length + (i + 1)) := by
            show _ ≤ _
            rw [List.length_append]
            have := declOne_len ix (memB shared x.name || memB t.vars x.name || memB ((t.arrays.map (·.name)).take i) x.name) x.name
            have := HLEN.out
            omega
          clear hf2 hs2 hk2 HQD HFD hD
          go_wp2_with fail
          go_roundw
          case rel => exact ⟨i + 1, v2, _, m + 1, by omega, by go_num, by have := HMI.out; omega, HFR2.out, HF2.out, by rw [HSE.out]; exact HS2.out, HM2.out, HT2.out, HL2.out⟩
          case measure => simp [intOf]; omega
        · obtain rfl : i = t.arrays.length := by omega
          have HMAP0 : Hid (L1.map (·.flt) = declF (memB shared) [] (t.vars ++ t.arrays.map (·.name))) := by
            have h := HMAP.out
            rw [List.take_of_length_le (by simp)] at h
            exact h
          have HSA : Hid (SetS wr A4.heap.size 1000 (t.arrays.map (·.name))) := by
            have h := HSET.out
            rw [List.take_of_length_le (by simp)] at h
            show StrSet _ _ _ _ _ _ _
            exact StrSet.mono h (by have := HMI.out; have := HA.out; omega)
          obtain ⟨V0, hV0⟩ : ∃ V0 : World, wr.alloc (.cells #[.nilFunc] 133) = V0 := ⟨_, rfl⟩
          obtain ⟨V, hVV⟩ : ∃ V : World, V0.setCell ⟨wr.heap.size, 0, none⟩ (.func (.func 64) #[] #[.pointer (some ⟨A5.heap.size, 0, none⟩), .pointer (some ⟨A2.heap.size, 0, none⟩), .pointer (some ⟨w.heap.size, 0, none⟩), .pointer (some ⟨wr.heap.size, 0, none⟩)]) = V := ⟨_, rfl⟩
          have hv0 : V0.heap[wr.heap.size]? = some (.cells #[.nilFunc] 133) := by rw [← hV0]; exact mem_new _ _
          have c0 : V0.cell? ⟨wr.heap.size, 0, none⟩ = some .nilFunc := mem_cell hv0 0
          have z0 : V0.frozen? ⟨wr.heap.size, 0, none⟩ = false := mem_free hv0 0
          obtain ⟨V1, hV1⟩ : ∃ V1 : World, V.alloc (.map #[] 0) = V1 := ⟨_, rfl⟩
          obtain ⟨V2, hV2⟩ : ∃ V2 : World, V1.alloc (.map #[] 0) = V2 := ⟨_, rfl⟩
          have bV : Below wr.heap.size wr V := by rw [← hVV, ← hV0]; exact (mem_alloc _ _).setCell (Nat.le_refl _) _
          have bV1 : Below V.heap.size V V1 := by rw [← hV1]; exact mem_alloc _ _
          have bV2 : Below V1.heap.size V1 V2 := by rw [← hV2]; exact mem_alloc _ _
          have bR : Below wr.heap.size wr V2 := mem_then (mem_then bV bV1) bV2
          have HFV : Hid (FrT w.heap.size wr V2) := FrT.of bR HNQ.out
          have hvb : V.heap[wr.heap.size]? = some (.cells #[.func (.func 64) #[] #[.pointer (some ⟨A5.heap.size, 0, none⟩), .pointer (some ⟨A2.heap.size, 0, none⟩), .pointer (some ⟨w.heap.size, 0, none⟩), .pointer (some ⟨wr.heap.size, 0, none⟩)]] 133) := by rw [← hVV]; exact mem_set hv0
          have g0 := mem_cell hvb 0
          have hTV := mem_keep HTBQ.out bV
          have g4 := mem_cell hTV 4
          have g5 := mem_cell hTV 5
          have g6 := mem_cell hTV 6
          have g7 := mem_cell hTV 7
          simp only [List.getElem?_toArray, List.getElem?_cons_zero, List.getElem?_cons_succ] at g0 g4 g5 g6 g7
          have hl0 : SetS V2 V.heap.size 0 [] := by show StrSet _ _ _ _ _ _ _; exact StrSet.below (by rw [← hV1]; exact StrSet.made _ _ _ _) bV2
          have hk0 : SetS V2 V1.heap.size 0 [] := by show StrSet _ _ _ _ _ _ _; rw [← hV2]; exact StrSet.made _ _ _ _
          have QV := visit15_any w.heap.size A5.heap.size A2.heap.size w.heap.size wr.heap.size sb A3.heap.size A4.heap.size ix ⟨shared, t.vars, t.arrays.map (·.name)⟩ t.body V2 p.ka p.kc [] (.slice none 0 0) false [] [] V.heap.size V1.heap.size 0 0 v1 L1
            (Nat.le_trans HNQ.out bR.size) ⟨mem_keep HDBQ.out bR, mem_keep HIBQ.out bR, mem_keep hvb (mem_then bV1 bV2), ⟨⟨_, HFV.out.set HSQ.out⟩, ⟨_, HFV.out.set HSCQ.out⟩, ⟨_, HFV.out.set HSA.out⟩⟩⟩ (HFB.out.keep bR)
            (HFV.out.rep (HT.out.body.toIn.move (fun k hk _ => HBWQ.out.block k hk) (fun _ hk _ => hk))) (World.ownsRow_nil _ _ _ _) hl0 hk0 (by have := HBS.out; omega) (by have := HBS.out; omega) (by have := HBS.out; simp; omega) (by have := HLEN.out; have := HV.out; have := HA.out; have := HBS.out; omega)
          have HQV := ξ QV
          clear hl0 hk0 QV hTV hvb hv0 bV bV1 bV2 bR HSET HMAP
          clear HSQ HSCQ HSA HDBQ HIBQ HTBQ HFR
          have hmm := @run_makeMap Tryz.prog
          go_wp2_with fail
          clear g0 g4 g5 g6 g7 z0 c0 hmm hVV hV0 hV1 hV2
          refine HQV.out.mono ?_
          rintro e w2 ⟨rfl, hF2, v2, L2, hf2, hm2, ht2, hl2⟩
          have HF2 := ξ hF2
          have HFB2 := ξ hf2
          obtain ⟨va, vc, rfl⟩ := own_val hf2.row.ro
          have f0 : w2.cell? ⟨A2.heap.size, 0, none⟩ = some _ := mem_cell hf2.box 0
          have HM2 := ξ hm2
          have HT2 := ξ ht2
          have HL2 := ξ hl2
          clear hF2 hf2 hm2 ht2 hl2 HQV
          go_wp2_with fail
          go_ret
          exact ⟨.slice va (L1 ++ L2).length vc, L1 ++ L2, by rw [List.length_append]; rfl, HFB2.out.row, by rw [List.map_append, HMAP0.out, HM2.out]; rfl, fun f hf => by
            rcases List.mem_append.1 hf with hf | hf
            · exact HTK.out f hf
            · exact HT2.out f hf, by rw [List.length_append]; have := HLEN.out; have := HL2.out; omega, HBWQ.out.trans (HFV.out.low.trans HF2.out.low)⟩
def prgOk(p:Prg):Bool:=decide (p.shared.length≤4) && (decide (p.tasks.length≤8) && (p.shared.all arrOk && p.tasks.all tskOk))
abbrev prgObj(p:Prg)(sa:Option Addr)(sc:Nat)(ta:Option Addr)(tc:Nat):Obj:=.cells #[.slice sa p.shared.length sc,.slice ta p.tasks.length tc] 25
theorem tsk_cells{w wr:World}{b o:Nat}{t:Tsk}{p:TskPlace}(hB:Below w.heap.size w wr)(h:∀ i,i<8→w.cell? ⟨b,o+i,none⟩=(t.cells p)[i]?) :
 (wr.cell? ⟨b,o,none⟩=some (.string t.name)∧wr.cell? ⟨b,o+1,none⟩=some (.int .i64 t.period)∧wr.cell? ⟨b,o+2,none⟩=some (.slice p.va t.vars.length p.vc)∧wr.cell? ⟨b,o+3,none⟩=some (.slice p.aa t.arrays.length p.ac) ∧
 wr.cell? ⟨b,o+4,none⟩=some (.int .u8 t.body.kind)∧wr.cell? ⟨b,o+5,none⟩=some (.int .i64 t.body.num)∧wr.cell? ⟨b,o+6,none⟩=some (.string t.body.name)∧wr.cell? ⟨b,o+7,none⟩=some (.slice p.ka t.body.len p.kc))∧b<wr.heap.size:=by
 have c0:wr.cell? ⟨b,o,none⟩=some (.string t.name):=cell_below hB (h 0 (by omega))
 exact⟨⟨c0,cell_below hB (h 1 (by omega)),cell_below hB (h 2 (by omega)),cell_below hB (h 3 (by omega)),cell_below hB (h 4 (by omega)),cell_below hB (h 5 (by omega)),cell_below hB (h 6 (by omega)),cell_below hB (h 7 (by omega))⟩,World.block_lt_of_cell? wr _ c0⟩
set_option maxHeartbeats 2000000 in
theorem valid_any(p:Prg)(w:World)(sa ta:Option Addr)(sc tc:Nat)(hp:PrgAt w p sa ta)(hg:SignsIn w) :
 Calls Tryz.prog 18 #[p.val sa sc ta tc] w fun e w'=>e = .returned (.bool (prgOk p))∧Below w.heap.size w w':=by
 have HP:=ξ hp
 have HG:=ξ hg
 have HB0:Hid (Below (w.heap.size+1) (w.alloc (prgObj p sa sc ta tc)) (w.alloc (prgObj p sa sc ta tc))):=Below.refl _ _
 have hsl:=hp.1.1
 have htl:=hp.2.1
 clear hp hg
 by_cases h1:4<p.shared.length
 ·have h1d:decide (4<p.shared.length)=true:=by simpa using h1
  have h1di:decide ((4:Int)<(p.shared.length:Int))=true:=by simp;omega
  have HE:Hid (prgOk p=false):=by show _=_;simp[prgOk,show ¬ p.shared.length≤4 by omega]
  go_enter Tryz.func18,Tryz.ntmps18
  go_wp2_with fail
  go_ret
  exact⟨by rw[HE.out];rfl,ofBox HB0.out⟩
 have h1':p.shared.length≤4:=by omega
 have h1d:decide (4<p.shared.length)=false:=by simpa using h1'
 have h1di:decide ((4:Int)<(p.shared.length:Int))=false:=by simp;omega
 clear h1
 by_cases h2:8<p.tasks.length
 ·have h2d:decide (8<p.tasks.length)=true:=by simpa using h2
  have h2di:decide ((8:Int)<(p.tasks.length:Int))=true:=by simp;omega
  have HE:Hid (prgOk p=false):=by show _=_;simp[prgOk,show ¬ p.tasks.length≤8 by omega]
  go_enter Tryz.func18,Tryz.ntmps18
  go_wp2_with fail
  go_ret
  exact⟨by rw[HE.out];rfl,ofBox HB0.out⟩
 have h2':p.tasks.length≤8:=by omega
 have h2d:decide (8<p.tasks.length)=false:=by simpa using h2'
 have h2di:decide ((8:Int)<(p.tasks.length:Int))=false:=by simp;omega
 clear h2
 go_enter Tryz.func18,Tryz.ntmps18
 go_wp2_with fail
 refine (areArrays_any p.shared _ sa sc (HP.out.1.below (ofBox HB0.out)) (HG.out.below (ofBox HB0.out))).mono ?_
 rintro e w1 ⟨rfl,hB1⟩
 have HB1:=ξ (HB0.out.trans (hB1.mono (box_size HB0.out)))
 have x1:w1.cell? ⟨w.heap.size,1,none⟩=some (.slice ta p.tasks.length tc):=box_cell HB1.out 1
 clear hB1
 cases ha:p.shared.all arrOk with
 | false =>
  have HE:Hid (prgOk p=false):=by show _=_;simp only[prgOk,ha];simp
  clear ha
  go_wp2_with fail
  go_ret
  exact⟨by rw[HE.out];rfl,ofBox HB1.out⟩
 | true =>
 have HAA:=ξ ha
 clear ha
 go_wp2_with fail
 go_loopw [24] (fun i wr=>∃ j:Nat,j≤p.tasks.length∧i = .int .i64 j∧(p.tasks.take j).all tskOk=true∧Below (w.heap.size+1) (w.alloc (prgObj p sa sc ta tc)) wr) (fun i _=>p.tasks.length-(intOf i).toNat)
 case atStart=>exact⟨0,Nat.zero_le _,rfl,rfl,HB1.out⟩
 case round =>
  obtain⟨j,hj,rfl,hall,hBx⟩:=hrel
  have HA:=ξ hall
  have HBX:=ξ hBx
  have hB:=ofBox hBx
  have hsz:=box_size hBx
  clear hall hBx x1
  by_cases hlt:j<p.tasks.length
  ·obtain⟨b,off,q,rfl,hc,hin⟩:=HP.out.2.2 j hlt
   obtain⟨t,ht⟩:∃ t,p.tasks.getD j Tsk.none=t:=⟨_,rfl⟩
   rw[ht] at hc hin
   obtain⟨⟨g0,g1,g2,g3,g4,g5,g6,g7⟩,hbl⟩:=tsk_cells hB hc
   have HX:=ξ ht
   have HIN:=ξ hin
   clear hc hin ht
   go_wp2_with fail
   have HBL:Hid (Below wr.heap.size wr (wr.alloc (tskObj t q))):=(Below.refl _ _).alloc (Nat.le_refl _) _
   refine (isTask_any t q _ ((HIN.out.below hB).below HBL.out) ((HG.out.below hB).below HBL.out)).mono ?_
   rintro e w2 ⟨rfl,hB2⟩
   have HB2:=ξ ((HBX.out.trans (HBL.out.mono hsz)).trans (hB2.mono (Nat.le_trans hsz HBL.out.size)))
   clear hB2 g0 g1 g2 g3 g4 g5 g6 g7
   cases hv:tskOk t with
   | true =>
    have HN:Hid ((p.tasks.take (j+1)).all tskOk=true):=by show _=_;rw[all_next tskOk p.tasks Tsk.none j hlt,HA.out,HX.out,hv];rfl
    clear hv
    go_wp2_with fail
    go_roundw
    case rel=>exact⟨j+1,by omega,by go_num,HN.out,HB2.out⟩
    case measure=>simp[intOf];omega
   | false =>
    have HE:Hid (prgOk p=false):=by show _=_;simp only[prgOk,all_stop tskOk p.tasks Tsk.none j hlt (by rw[HX.out,hv])];simp
    clear hv
    go_wp2_with fail
    go_ret
    exact⟨by rw[HE.out];rfl,ofBox HB2.out⟩
  ·obtain rfl:j=p.tasks.length:=by omega
   have HE:Hid (prgOk p=true):=by
    have:=HA.out;rw[List.take_length] at this
    show _=_;simp only[prgOk,this,HAA.out,h1',h2'];simp
   go_wp2_with fail
   go_ret
   exact⟨by rw[HE.out];rfl,hB⟩
section
variable {N:Nat} {w w2:World} {v v':Value} {L L2:List FltP}
theorem FltsAt.grown(h:FltsAt N w v L)(hN:N≤w.heap.size)(hg:w.grownBy w2 v.ownBlock):FrT N w w2:=by
 refine⟨(Below.refl _ _).grown hg hN (fun k hk=>(own_lt h.ro hk).1),fun k o hk hs=>?_⟩
 refine (hg.block k (mem_lt hk) (fun e=>?_)).trans hk
 rcases h.ro.2 with⟨rfl,_⟩|⟨g',cap',cur,rfl,_,hc,_⟩
 ·cases e
 ·have e:k=g':=by injection e
  subst e
  rw[hc] at hk
  injection hk with hk
  subst hk
  exact hs.1 rfl
theorem FltsAt.join(h:FltsAt N w v L)(hN:N≤w.heap.size)(hg:w.grownBy w2 v.ownBlock)(hp:∀ f∈L2,PathV N w f.pv f.flt.path)(ho:w2.ownsRow N 116 4 v' (L.length+L2.length) (L.flatMap FltP.cells++L2.flatMap FltP.cells)):FltsAt N w2 v' (L++L2):=by
 refine⟨by rw[List.length_append,List.flatMap_append];exact ho,fun f hf=>?_⟩
 rcases List.mem_append.1 hf with hf|hf
 ·exact (h.grown hN hg).path (h.ri f hf)
 ·exact (h.grown hN hg).path (hp f hf)
theorem FltsAt.push{f:FltP}{n:Nat}(h:FltsAt N w v L)(hN:N≤w.heap.size)(hg:w.grownBy w2 v.ownBlock)(hp:PathV N w f.pv f.flt.path)(ho:w2.ownsRow N 116 4 v' n (L.flatMap FltP.cells++f.cells))(hn:n=L.length+1):FltsAt N w2 v' (L++[f]):=by
 subst hn
 exact h.join hN hg (fun g hg'=>by obtain rfl:=List.mem_singleton.1 hg';exact hp) (by simpa using ho)
theorem FltsAt.map {kb n : Nat} {S : List ByteArray} (h : FltsAt N w v L) (hN : N ≤ kb) (hs : SetS w kb n S) (hg : w.grownBy w2 (some kb)) : FltsAt N w2 v L ∧ FrK N kb w w2 := by
  have hmap : ∃ es clock, w.heap[kb]? = some (.map es clock) := by
    obtain ⟨D, ⟨es, clock, h1, _⟩, _⟩ := hs
    exact ⟨es, clock, h1⟩
  obtain ⟨es, clock, hm⟩ := hmap
  have ne : ∀ {e : TypeId} {size m B : Nat} {z : Value} {xs : List Value}, w.ownsRow B e size z m xs → z.ownBlock ≠ some kb := fun {e size m B z xs} hr he => by
    rcases hr.2 with ⟨rfl, _⟩ | ⟨g, cap, cur, rfl, _, hc, _⟩
    · cases he
    · have he : g = kb := by injection he
      subst he
      rw [hm] at hc
      cases hc
  have keep : ∀ {e : TypeId} {size m B : Nat} {z : Value} {xs : List Value}, w.ownsRow B e size z m xs → w2.ownsRow B e size z m xs := fun {e size m B z xs} hr => own_keep hr (fun k hk hl => hg.block k hl (fun e9 => ne hr (by rw [hk, e9])))
  refine ⟨⟨keep h.ro, fun f hf => keep (h.ri f hf)⟩, ⟨⟨hg.os, hg.tape, hg.output, hg.size, fun k hk => ?_⟩, fun k o hn hk _ => (hg.block k (mem_lt hk) (fun e => hn (by injection e))).trans hk⟩⟩
  by_cases hl : k < w.heap.size
  · exact hg.block k hl (fun e => by have e : k = kb := by injection e
                                     omega)
  · have := mem_lt hm
    omega
theorem FltsAt.down{N':Nat}(h:FltsAt N w v L)(hN:N'≤N):FltsAt N' w v L:=⟨own_down h.ro hN,fun f hf=>own_down (h.ri f hf) hN⟩
theorem FltsAt.ones(h:FltsAt N w v L):∀ u∈L.flatMap FltP.cells,u.oneCell'=true:=by
 intro u hu
 obtain⟨f,hf,hu⟩:=List.mem_flatMap.1 hu
 obtain⟨a,c,e⟩:=own_val (h.ri f hf)
 exact FltP.one f (by rw[e];rfl) u hu
theorem FltsAt.src{A:Option Addr}{n c:Nat}(h:FltsAt N w (.slice A n c) L):Src w A L.length 4 (L.flatMap FltP.cells):=by
 refine⟨h.ro.1,?_⟩
 rcases h.ro.2 with⟨_,h0⟩|⟨g,cap,cur,hv,hg,hc,_⟩
 ·exact .inl h0
 ·injection hv with h1 h2 h3
  subst h1
  exact .inr ⟨_,rfl,fun j u hu=>h.ro.cells rfl j u hu⟩
end
def flat(L:List FltP):List TFlt:=L.map (fun f=>TFlt.mk f.task f.flt)
theorem flat_append(L L2:List FltP):flat (L++L2)=flat L++flat L2:=by unfold flat;simp
theorem flat_of{ix:Int}{L:List FltP}(h:∀ f∈L,f.task=ix):flat L=(L.map (·.flt)).map (TFlt.mk ix):=by
 unfold flat
 rw[List.map_map]
 exact List.map_congr_left fun f hf=>by rw[h f hf];rfl
theorem flat_declOne(ix:Int)(b:Bool)(s:ByteArray):flat (declOne ix b s)=(if b then [Flt.mk [] 8 s] else []).map (TFlt.mk ix):=by
 rw[flat_of (declOne_task ix b s),declOne_map]
theorem tasksF_snoc(shared:List ByteArray):∀ (l:List Tsk) (so:List ByteArray) (i:Nat) (t:Tsk),tasksF shared so i (l++[t])=tasksF shared so i l++((if memB (so++l.map (·.name)) t.name then [Flt.mk [] 8 t.name] else [])++taskF shared t).map (fun f=>TFlt.mk ((i+l.length:Nat):Int) f)
 | [],so,i,t=>by simp[tasksF]
 | y::l,so,i,t=>by
  rw[List.cons_append,tasksF,tasksF,tasksF_snoc shared l (so++[y.name]) (i+1) t,List.append_assoc]
  have e:i+1+l.length=i+(y::l).length:=by simp;omega
  rw[e]
  simp
theorem tskOk_le{t:Tsk}(h:tskOk t=true):t.vars.length≤12∧t.arrays.length≤4∧t.body.size≤400:=by
 unfold tskOk at h
 simp only[Bool.and_eq_true,decide_eq_true_eq] at h
 exact⟨h.2.2.2.1,h.2.2.2.2.1,h.2.2.2.2.2.2.2.1.2⟩
theorem prgOk_le{p:Prg}(h:prgOk p=true):p.shared.length≤4∧p.tasks.length≤8∧∀ j,j<p.tasks.length→tskOk (p.tasks.getD j Tsk.none)=true:=by
 unfold prgOk at h
 simp only[Bool.and_eq_true,decide_eq_true_eq,List.all_eq_true] at h
 refine⟨h.1,h.2.1,fun j hj=>h.2.2.2 _ ?_⟩
 rw[List.getD_eq_getElem?_getD,List.getElem?_eq_getElem hj]
 exact List.getElem_mem hj
