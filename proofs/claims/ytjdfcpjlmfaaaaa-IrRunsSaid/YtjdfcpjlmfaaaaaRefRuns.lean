/-
  RefRuns: several texts in one (RefWords, RefRun, RefRunC).
-/
import Derived.Test.YtjdfcpjlmfaaaaaRefRunAt
import Derived.Test.YtjdfcpjlmfaaaaaIrClone
import Derived.Test.YtjdfcpjlmfaaaaaIrSetup
import Derived.Test.YtjdfcpjlmfaaaaaIrRunC
import Derived.Test.YtjdfcpjlmfaaaaaAppendSrc
import Derived.Test.YtjdfcpjlmfaaaaaIrBuild
import Derived.Test.YtjdfcpjlmfaaaaaDrews
import Derived.BigQuiet
import Derived.Test.YtjdfcpjlmfaaaaaRefStepAny
import Derived.Test.YtjdfcpjlmfaaaaaLawFns17
import Derived.Deep.RegionHeld
import Derived.OrdersHeld
import Derived.BigRegion
/-
  Contracts: Words, Sized (package ontimeref17).
-/
namespace Go.Proofs.Ytjdfcpjlmfaaaaa
set_option linter.unusedVariables false
set_option linter.unusedSimpArgs false
open Go.RowKit
set_option maxRecDepth 100000
set_option maxHeartbeats 8000000

/-- rows of words of the call's own -/
structure RowsOf (N : Nat) (w : World) (v : Value) (rows : List Value) (mem : List (List Int)) : Prop where
  ro : w.ownsRow N 35 1 v rows.length rows
  len : rows.length = mem.length
  ri : ∀ (j : Nat) (u : Value) (r : List Int), rows[j]? = some u → mem[j]? = some r → w.ownsRow N 21 1 u r.length (w32 r)
  rr : ∀ (i j : Nat) (u u' : Value), i ≠ j → rows[i]? = some u → rows[j]? = some u' → u.ownBlock = none ∨ u.ownBlock ≠ u'.ownBlock
section
variable {N : Nat} {w w' V w2 : World} {v u : Value} {rows : List Value} {mem : List (List Int)} {row : List Int} {gb cap : Nat}
theorem RowsOf.nil : RowsOf N w (.slice none 0 0) [] [] := ⟨World.ownsRow_nil _ _ _ _, rfl, by simp, by simp⟩
theorem RowsOf.keep (h : RowsOf N w v rows mem) (hB : Below w.heap.size w w') : RowsOf N w' v rows mem := ⟨ownsRow_below h.ro hB, h.len, fun j u r h1 h2 => ownsRow_below (h.ri j u r h1 h2) hB, h.rr⟩
theorem RowsOf.push (h : RowsOf N w v rows mem) (hN : N ≤ w.heap.size) (hB : Below w.heap.size w V) (hv : V.ownsRow w.heap.size 21 1 u row.length (w32 row)) (hg : V.grownBy w2 v.ownBlock)
    (ho : w2.ownsRow N 35 1 (.slice (some ⟨gb, 0, none⟩) (rows.length + 1) cap) (rows.length + 1) (rows ++ [u])) : RowsOf N w2 (.slice (some ⟨gb, 0, none⟩) (rows.length + 1) cap) (rows ++ [u]) (mem ++ [row]) := by
  have hV := h.keep hB
  have keepR : ∀ {m : Nat} {z : Value} {xs : List Value} {B : Nat}, V.ownsRow B 21 1 z m xs → w2.ownsRow B 21 1 z m xs := fun {m z xs B} hr => by
    refine ownsRow_move hr (fun k hk hl => hg.block _ hl ?_)
    rcases hr.2 with ⟨rfl, _⟩ | ⟨g', cap', cur, rfl, _, hc, _⟩
    · cases hk
    · have hk : g' = k := by injection hk
      subst hk
      exact fun e2 => own_ne_type hV.ro hc (by decide) e2.symm
  have lo : ∀ {j : Nat} {z : Value}, rows[j]? = some z → ∀ k, z.ownBlock = some k → k < w.heap.size := fun {j z} hj k hk => by
    obtain ⟨r, hr⟩ : ∃ r, mem[j]? = some r := ⟨_, List.getElem?_eq_getElem (by rw [← h.len]; exact (List.getElem?_eq_some_iff.1 hj).1)⟩
    exact (ownsRow_lt (h.ri j z r hj hr) hk).2
  have hi : ∀ k, u.ownBlock = some k → w.heap.size ≤ k := fun k hk => (ownsRow_lt hv hk).1
  refine ⟨by simpa using ho, by simp [h.len], fun j z r h1 h2 => ?_, fun i j z z' hij h1 h2 => ?_⟩
  · rw [List.getElem?_append] at h1 h2
    rw [← h.len] at h2
    split at h1
    · rename_i hj
      rw [if_pos hj] at h2
      exact keepR (hV.ri j z r h1 h2)
    · rename_i hj
      rw [if_neg hj] at h2
      have e0 : j - rows.length = 0 := by have := (List.getElem?_eq_some_iff.1 h1).1; simp at this; omega
      rw [e0] at h1 h2
      simp at h1 h2
      subst h1 h2
      exact keepR (ownsRow_base hv hN)
  · rw [List.getElem?_append] at h1 h2
    split at h1 <;> split at h2
    · exact h.rr i j z z' hij h1 h2
    · rename_i hi1 hj1
      have e0 : z' = u := by have := List.mem_of_getElem? h2; simpa using this
      subst e0
      cases hz : z.ownBlock with
      | none => exact .inl rfl
      | some k => exact .inr (fun e => by have := lo h1 k hz; have := hi k e.symm; omega)
    · rename_i hi1 hj1
      have e0 : z = u := by have := List.mem_of_getElem? h1; simpa using this
      subst e0
      cases hz : z.ownBlock with
      | none => exact .inl rfl
      | some k => exact .inr (fun e => by have := lo h2 k e.symm; have := hi k hz; omega)
    · have h3 := (List.getElem?_eq_some_iff.1 h1).1
      have h4 := (List.getElem?_eq_some_iff.1 h2).1
      simp at h3 h4
      omega
end
theorem words_any (l : List (List Int)) (a : Option Addr) (c : Nat) (w : World) (hl : ContAt w a l) (hn : l.length ≤ 1000000) (hs : ∀ r ∈ l, r.length ≤ 1000000) :
    Calls Try.prog 16 #[.slice a l.length c] w fun e w' => ∃ v rows, e = .returned v ∧ RowsOf w.heap.size w' v rows l ∧ Below w.heap.size w w' := by
  have HL := Lib.hid hl
  have HS := Lib.hid hs
  obtain ⟨n, hln⟩ : ∃ n, l.length = n := ⟨_, rfl⟩
  have HN := Lib.hid hln
  obtain ⟨i0, hi, hz0, hz1, hz2⟩ := info_parts Try.infoI32
  obtain ⟨t0, ti, tz0, tz1, tz2⟩ := info_parts Try.infoRow
  rw [hln] at hn ⊢
  clear hl hs hln
  go_enter Try.func16, Try.ntmps16
  go_wp2_with fail
  go_loopw [3, 4] (fun vv jv wr => ∃ (j : Nat) (rows : List Value), j ≤ n ∧ jv = .int .i64 (j : Int) ∧ rows.length = j ∧ RowsOf w.heap.size wr vv rows (l.take j) ∧ Below w.heap.size w wr) (fun _ jv _ => n - (intOf jv).toNat)
  case atStart => exact ⟨0, [], Nat.zero_le _, rfl, rfl, RowsOf.nil, Below.refl _ _⟩
  case round =>
    obtain ⟨j, rows, hj, rfl, hrl, hro, hB⟩ := hrel
    have HRO := Lib.hid hro
    have HB := Lib.hid hB
    have HRL := Lib.hid hrl
    have hj0 : (0 : Int) ≤ (j : Int) := by omega
    clear hro hB hrl
    by_cases hlt : j < n
    · have hlt2 : (j : Int) < (n : Int) := by omega
      obtain ⟨r, hr⟩ : ∃ r, l[j]? = some r := ⟨_, List.getElem?_eq_getElem (by rw [HN.out]; exact hlt)⟩
      have HR := Lib.hid hr
      have hr1 := HS.out r (List.mem_of_getElem? hr)
      rcases HL.out.at_ with h0 | ⟨mb, mo, rfl, hd⟩
      · have := HN.out; omega
      obtain ⟨ra, rc, c3, hra0, hra⟩ := hd j r hr
      have f3 := cell_below HB.out c3
      have hmb : mb < wr.heap.size := World.block_lt_of_cell? _ _ f3
      have HSRC : Hid (Src (wr.alloc (.cells #[] 21)) ra r.length 1 (w32 r)) := by
        have hb9 : Below w.heap.size w (wr.alloc (.cells #[] 21)) := HB.out.alloc HB.out.size _
        have hw9 := hra.below hb9
        refine ⟨by simp [w32], ?_⟩
        rcases hw9.at_ with h0 | ⟨b, off, ha, hk⟩
        · exact .inl h0
        · exact .inr ⟨⟨b, off, none⟩, ha, w32_at hk⟩
      have HMADE : Hid ((wr.alloc (.cells #[] 21)).ownsRow wr.heap.size 21 1 (.slice (some ⟨wr.heap.size, 0, none⟩) 0 0) 0 []) := by
        show World.ownsRow _ _ _ _ _ _ _
        exact World.ownsRow_made (base := wr.heap.size) (e := 21) (size := 1) wr #[] 0 (by omega) (by unfold maxLen; omega) rfl
      have HBWR := Lib.hid HB.out.size
      have HRO1 := HRO.out.ro
      rw [HRL.out] at HRO1
      obtain ⟨va, vc, rfl⟩ := ownsRow_val HRO1
      have HROW := Lib.hid HRO1
      clear hd hr c3 hra0 hra HRO1
      go_wp2_with (at_builtin; refine wpList_append_src _ rfl (.tmp 12) (.tmp 16) 35 rfl wr.heap.size 21 i0 _ 1 4 Try.underlying35 hi hz0 hz1 hz2 rfl (by decide) (.slice (some ⟨wr.heap.size, 0, none⟩) 0 0) 0 [] rfl HMADE.out ra r.length rc (w32 r) rfl HSRC.out (w32_one r) (by unfold maxLen; omega) (by omega) (by simp) ?_)
      intro v5 w5 hown5 hgrow5 hplace5
      have HO5 : Hid (w5.ownsRow wr.heap.size 21 1 v5 r.length (w32 r)) := by show World.ownsRow _ _ _ _ _ _ _; simpa using hown5
      have HB5 : Hid (Below wr.heap.size wr w5) := ((Below.refl _ _).alloc (Nat.le_refl _) _).grown hgrow5 (by simp) (fun k hk => by cases hk; exact Nat.le_refl _)
      obtain ⟨na, nc, rfl⟩ := ownsRow_val HO5.out
      obtain ⟨V, hV⟩ : ∃ V : World, w5.alloc (.cells #[.slice na r.length nc] 35) = V := ⟨_, rfl⟩
      have HBV : Hid (Below w5.heap.size w5 V) := by show Below _ _ _; rw [← hV]; exact (Below.refl _ _).alloc (Nat.le_refl _) _
      have HBV2 : Hid (Below wr.heap.size wr V) := HB5.out.trans (HBV.out.mono HB5.out.size)
      have HONE : Hid (∀ (k : Nat) (u : Value), [Value.slice na r.length nc][k]? = some u → V.cell? ((⟨w5.heap.size, 0, none⟩ : Addr).add k) = some u) := by show ∀ _ _, _; rw [← hV]; exact one_new w5 _
      have HROV := Lib.hid (ownsRow_below HROW.out HBV2.out)
      clear hown5 hgrow5 hplace5 f3 hmb
      go_wp2_with (at_builtin; refine wpList_append_row _ rfl (.tmp 11) (.tmp 18) 34 rfl w.heap.size 35 t0 _ 1 24 Try.underlying34 ti tz0 tz1 tz2 rfl (by decide) (.slice va j vc) j rows rfl HROV.out ⟨w5.heap.size, 0, none⟩ 1 1 [.slice na r.length nc] rfl rfl HONE.out (by simp [Value.oneCell']) (by decide) (by unfold maxLen; omega) (by omega) (Nat.le_trans HBWR.out HBV2.out.size) ?_)
      intro gb cap w6 hown6 hgrow6 hplace6
      have HT : Hid (l.take (j + 1) = l.take j ++ [r]) := take_snoc HR.out
      have HP : Hid (RowsOf w.heap.size w6 (.slice (some ⟨gb, 0, none⟩) (j + 1) cap) (rows ++ [.slice na r.length nc]) (l.take (j + 1))) := by
        show RowsOf _ _ _ _ _
        rw [HT.out]
        have h9 := HRO.out.push (u := .slice na r.length nc) (row := r) (gb := gb) (cap := cap) HBWR.out HBV2.out (by have := ownsRow_below HO5.out HBV.out; simpa using this) hgrow6 (by rw [HRL.out]; exact hown6)
        rwa [HRL.out] at h9
      have HB6 : Hid (Below w.heap.size w w6) := (HB.out.trans (HBV2.out.mono HBWR.out)).grown hgrow6 (Nat.le_trans HBWR.out HBV2.out.size) (fun k hk => (ownsRow_lt HROV.out hk).1)
      have HRL6 : Hid ((rows ++ [Value.slice na r.length nc]).length = j + 1) := by show _ = _; simp [HRL.out]
      clear hown6 hgrow6 hplace6 hV
      go_wp2_with fail
      exact ⟨⟨j + 1, _, by omega, by go_num, HRL6.out, HP.out, HB6.out⟩, by simp [intOf]; omega⟩
    · obtain rfl : n = j := by omega
      have HF : Hid (l.take n = l) := List.take_of_length_le (by rw [HN.out]; exact Nat.le_refl _)
      go_wp2_with fail
      go_ret
      exact ⟨_, rows, rfl, by have := HRO.out; rwa [HF.out] at this, HB.out⟩
theorem sized_any (l : List (ByteArray × Int)) (m : List (List Int)) (a b : Option Addr) (c d : Nat) (w : World) (hl : ArrsAt w a l) (hm : ContAt w b m) :
    Calls Try.prog 40 #[.slice a l.length c, .slice b m.length d] w fun e w' => e = .returned (.bool (matchOk l m)) ∧ Below w.heap.size w w' := by
  have HL := Lib.hid hl
  have HM := Lib.hid hm
  have hlf := hl.fits
  have hmf := hm.fits
  clear hl hm
  by_cases hlen : l.length = m.length
  · have q0 : ((l.length : Int) != (m.length : Int)) = false := by simp [hlen]
    have HLEN := Lib.hid hlen
    clear hlen
    go_enter Try.func40, Try.ntmps40
    go_wp2_with fail
    go_loopw [5] (fun i wr => ∃ j : Nat, j ≤ l.length ∧ i = .int .i64 (j : Int) ∧ matchOk (l.drop j) (m.drop j) = matchOk l m ∧ Below w.heap.size w wr) (fun i _ => l.length - (intOf i).toNat)
    case atStart => exact ⟨0, Nat.zero_le _, rfl, rfl, Below.refl _ _⟩
    case round =>
      obtain ⟨j, hj, rfl, hd, hB⟩ := hrel
      have HD := Lib.hid hd
      have HB := Lib.hid hB
      clear hd hB
      have hk0 : (0 : Int) ≤ (j : Int) := by omega
      by_cases hlt : j < l.length
      · obtain ⟨p, hp⟩ : ∃ p, l[j]? = some p := ⟨_, List.getElem?_eq_getElem hlt⟩
        obtain ⟨r, hr⟩ : ∃ r, m[j]? = some r := ⟨_, List.getElem?_eq_getElem (by have := HLEN.out; omega)⟩
        rcases HL.out.at_ with h0 | ⟨lb, lo, rfl, hc⟩
        · omega
        rcases HM.out.at_ with h0 | ⟨mb, mo, rfl, hd⟩
        · have := HLEN.out; omega
        obtain ⟨c1, c2⟩ := hc j p hp
        obtain ⟨ra, rc, c3, _, hra⟩ := hd j r hr
        have f2 := cell_below HB.out c2
        have f3 := cell_below HB.out c3
        have hrf := hra.fits
        have HS := Lib.hid (match_drop hp hr)
        have hk1 : (j : Int) < (l.length : Int) := by omega
        have hk2 : (j : Int) < (m.length : Int) := by have := HLEN.out; omega
        clear hc hd hp hr c1 c2 c3 hra
        by_cases he : p.2 = (r.length : Int)
        · have he' : ((r.length : Int) != p.2) = false := by simp [he]
          have HN : Hid (matchOk (l.drop (j + 1)) (m.drop (j + 1)) = matchOk l m) := by show _ = _; rw [← HD.out, HS.out, he]; simp
          clear he
          go_wp2_with fail
          go_quiet (fail)
          generalize hV : World.drewN _ _ = V
          have HBV := Lib.hid (Below.trans HB.out (show Below w.heap.size wr V by rw [← hV]; exact ⟨rfl, rfl, rfl, Nat.le_refl _, fun _ _ => rfl⟩))
          clear hV
          go_wp2_with fail
          exact ⟨⟨j + 1, by omega, by go_num, HN.out, HBV.out⟩, by simp [intOf]; omega⟩
        · have he' : ((r.length : Int) != p.2) = true := by simp; exact fun e => he e.symm
          have HN : Hid (matchOk l m = false) := by show _ = _; rw [← HD.out, HS.out, beq_eq_false_iff_ne.2 he]; rfl
          clear he
          go_wp2_with fail
          go_quiet (fail)
          generalize hV : World.drewN _ _ = V
          have HBV := Lib.hid (Below.trans HB.out (show Below w.heap.size wr V by rw [← hV]; exact ⟨rfl, rfl, rfl, Nat.le_refl _, fun _ _ => rfl⟩))
          clear hV
          go_wp2_with fail
          go_ret
          exact ⟨by rw [HN.out]; rfl, HBV.out⟩
      · obtain rfl : j = l.length := by omega
        have HN : Hid (matchOk l m = true) := by show _ = _; rw [← HD.out, List.drop_length, HLEN.out, List.drop_length]; rfl
        go_wp2_with fail
        go_ret
        exact ⟨by rw [HN.out]; rfl, HB.out⟩
  · have q0 : ((l.length : Int) != (m.length : Int)) = true := by simp; omega
    rw [match_len hlen]
    clear hlen
    go_enter Try.func40, Try.ntmps40
    go_wp2_with fail
    go_ret
    exact ⟨rfl, Below.refl _ _⟩
end Go.Proofs.Ytjdfcpjlmfaaaaa

/-
  Contract: Run (package ontimeref17): its outcome is that of the plain run.
-/
namespace Go.Proofs.Ytjdfcpjlmfaaaaa
set_option linter.unusedVariables false
set_option linter.unusedSimpArgs false
open Go.RowKit
set_option maxRecDepth 100000
set_option maxHeartbeats 16000000

/-- the steps, as the machine counts them -/
def stepsAt (b : Nat) (w : World) : Nat := (intOf ((w.cell? ⟨b, 13, none⟩).getD undef)).toNat
section
variable {N : Nat} {G : RGeo} {sh : List (ByteArray × Int)} {w w' : World} {uv : Value} {n er : Int} {s : St}
theorem RefAt.steps (h : RefAt N G sh w uv n er s) : stepsAt G.mb w = n.toNat := by
  unfold stepsAt
  rw [h.cell 13]
  rfl
theorem RefAt.above (h : RefAt N G sh w uv n er s) (hb : ∀ k, N ≤ k → k < w.heap.size → w'.heap[k]? = w.heap[k]?) : RefAt N G sh w' uv n er s :=
  { h with
    run := (hb _ h.mb_ (lt_heap h.run)).trans h.run
    regs := (hb _ h.rg_ (lt_heap h.regs)).trans h.regs
    cnts := (hb _ h.cb_ (lt_heap h.cnts)).trans h.cnts
    rows := fun j hj => ownsRow_move (h.rows j hj) (fun k hk hl => hb k (ownsRow_lt (h.rows j hj) hk).1 hl)
    va := ownsRow_move h.va (fun k hk hl => hb k (ownsRow_lt h.va hk).1 hl)
    vo := ownsRow_move h.vo (fun k hk hl => hb k (ownsRow_lt h.vo hk).1 hl)
    out := ownsRow_move h.out (fun k hk hl => hb k (ownsRow_lt h.out hk).1 hl) }
theorem mem_row {j : Nat} {r : List Int} (hr : s.mem[j]? = some r) : s.row j = r := by unfold St.row; rw [List.getD_eq_getElem?_getD, hr]; rfl
theorem RefAt.rowAt (h : RefAt N G sh w uv n er s) {j : Nat} {r : List Int} (hr : s.mem[j]? = some r) : ∃ ra rc, G.rows.getD j undef = .slice ra r.length rc ∧ (ra = none → rc = 0) ∧ WordsAt w ra r := by
  have hj := (List.getElem?_eq_some_iff.1 hr).1
  have ho := h.rows j hj
  rw [mem_row hr] at ho
  obtain ⟨ra, rc, e⟩ := ownsRow_val ho
  rw [e] at ho
  obtain ⟨h1, h2⟩ := words_of_row ho (h.wf.mem r (List.mem_of_getElem? hr))
  exact ⟨ra, rc, e, h1, h2⟩
theorem RefAt.contA (h : RefAt N G sh w uv n er s) (hf : s.mem.length ≤ 9223372036854775807) : ContAt w G.oa (s.mem.take G.na) := by
  have hl := h.nlen
  refine ⟨by rw [List.length_take]; omega, ?_⟩
  rcases Nat.eq_zero_or_pos G.na with h0 | h0
  · exact .inl (by rw [h0]; simp)
  · obtain ⟨ob, e, _⟩ := h.rowA h0
    refine .inr ⟨ob, 0, e, fun k r hr => ?_⟩
    have hk : k < G.na := by have := (List.getElem?_eq_some_iff.1 hr).1; simp at this; omega
    rw [List.getElem?_take, if_pos hk] at hr
    obtain ⟨ra, rc, e1, h1, h2⟩ := h.rowAt hr
    obtain ⟨ob', e', hc⟩ := h.rowA hk
    rw [e] at e'
    injection e' with e'
    injection e' with e'
    subst e'
    rw [e1] at hc
    exact ⟨ra, rc, by rw [Nat.zero_add]; exact hc, h1, h2⟩
theorem RefAt.contO (h : RefAt N G sh w uv n er s) (hf : s.mem.length ≤ 9223372036854775807) : ContAt w G.pa (s.mem.drop G.na) := by
  have hl := h.nlen
  refine ⟨by rw [List.length_drop]; omega, ?_⟩
  rcases Nat.eq_zero_or_pos G.ns with h0 | h0
  · exact .inl (by rw [List.length_drop]; omega)
  · obtain ⟨ob, e, _⟩ := h.rowO h0
    refine .inr ⟨ob, 0, e, fun k r hr => ?_⟩
    have hk : k < G.ns := by have := (List.getElem?_eq_some_iff.1 hr).1; rw [List.length_drop] at this; omega
    rw [List.getElem?_drop] at hr
    obtain ⟨ra, rc, e1, h1, h2⟩ := h.rowAt hr
    obtain ⟨ob', e', hc⟩ := h.rowO hk
    rw [e] at e'
    injection e' with e'
    injection e' with e'
    subst e'
    rw [e1] at hc
    exact ⟨ra, rc, by rw [Nat.zero_add]; exact hc, h1, h2⟩
end
/-- the outcome that a machine ends with -/
def ocEnd (G : RGeo) (s : St) (n : Nat) (er : Int) : Oc := ⟨s.mem.take G.na, s.mem.drop G.na, s.out, s.read, n, er⟩
theorem RefAt.oc {N : Nat} {G : RGeo} {sh : List (ByteArray × Int)} {w : World} {uv : Value} {er : Int} {s : St} {n : Nat} (h : RefAt N G sh w uv (n : Int) er s) (hf : s.mem.length ≤ 9223372036854775807) :
    ∃ ua uc, uv = .slice ua s.out.length uc ∧ OcAt w (.agg #[.slice G.oa G.na G.oc, .slice G.pa G.ns G.pc, uv, .int .i64 (s.read : Nat), .int .i64 (n : Nat), .int .i64 er]) (ocEnd G s n er) := by
  have hl := h.nlen
  obtain ⟨ua, uc, rfl⟩ := ownsRow_val h.out
  refine ⟨ua, uc, rfl, G.oa, G.pa, ua, G.oc, G.pc, uc, ?_, h.contA hf, h.contO hf, outs_of_row h.out, ?_⟩
  · unfold ocEnd
    simp only [List.length_take, List.length_drop]
    rw [Nat.min_eq_left (by omega), show s.mem.length - G.na = G.ns by omega]
  · exact ownsRow_cap h.out
/-- a machine that has just been made -/
structure MadeAt (N : Nat) (V : World) (G : RGeo) (R : Nat) (w : World) : Prop where
  run : w.heap[G.mb]? = some (.cells #[.string G.nm, .int .i64 G.rn, .slice G.aa G.na G.ac, .slice G.ba G.nb G.bc, .slice G.sa G.ns G.sc, .slice G.ia G.ni G.ic, .slice (some ⟨G.rg, 0, none⟩) R R, .slice (some ⟨G.cb, 0, none⟩) 4 4, .int .i64 (-1), .slice none 0 0, .slice none 0 0, .slice none 0 0, .int .i64 0, .int .i64 0, .int .i64 0] 98)
  regs : w.heap[G.rg]? = some (.cells (w32 (List.replicate R 0)).toArray 21)
  cnts : w.heap[G.cb]? = some (.cells (w32 [0, 0, 0, 0]).toArray 21)
  mb_ : N ≤ G.mb
  rg_ : N ≤ G.rg
  cb_ : N ≤ G.cb
  ne : G.rg ≠ G.cb
  bel : Below N V w
theorem MadeAt.keep {N : Nat} {V : World} {G : RGeo} {R : Nat} {w w' : World} (h : MadeAt N V G R w) (hN : N ≤ w.heap.size) (hb : Below w.heap.size w w') : MadeAt N V G R w' :=
  { h with
    run := (hb.block _ (lt_heap h.run)).trans h.run
    regs := (hb.block _ (lt_heap h.regs)).trans h.regs
    cnts := (hb.block _ (lt_heap h.cnts)).trans h.cnts
    bel := h.bel.trans (hb.mono hN) }
/-- the rows are copied, and stored into the machine -/
theorem MadeAt.start {N : Nat} {V : World} {G : RGeo} {R : Nat} {w1 w2 w3 : World} {sh : List (ByteArray × Int)} {ra ro : List Value} {A O : List (List Int)} (h : MadeAt N V G R w3) (hN : N ≤ w1.heap.size) (hN3 : N ≤ w3.heap.size)
    (hA : RowsOf w1.heap.size w3 (.slice G.oa G.na G.oc) ra A) (hO : RowsOf w2.heap.size w3 (.slice G.pa G.ns G.pc) ro O) (h12 : ∀ (u : Value) (k : Nat), u ∈ ra → u.ownBlock = some k → k < w2.heap.size) (h21 : w1.heap.size ≤ w2.heap.size)
    (hr1 : G.rg < w1.heap.size) (hc1 : G.cb < w1.heap.size) (hna : G.na = A.length) (hns : G.ns = O.length) (hrows : G.rows = ra ++ ro) (hw : ∀ r ∈ A ++ O, ∀ x ∈ r, Wd.W x) :
    RefAt N G sh ((((((w3.setCell ⟨G.mb, 9, none⟩ (.slice G.oa G.na G.oc)).setCell ⟨G.mb, 10, none⟩ (.slice G.pa G.ns G.pc)).setCell ⟨G.mb, 11, none⟩ (.slice none 0 0)).setCell ⟨G.mb, 12, none⟩ (.int .i64 0)).setCell ⟨G.mb, 13, none⟩ (.int .i64 0)).setCell ⟨G.mb, 14, none⟩ (.int .i64 0)) (.slice none 0 0) 0 0 (St.init R (A ++ O)) := by
  have hla := hA.len
  have hlo := hO.len
  have keep : ∀ {k : Nat}, k ≠ G.mb → ((((((w3.setCell ⟨G.mb, 9, none⟩ (.slice G.oa G.na G.oc)).setCell ⟨G.mb, 10, none⟩ (.slice G.pa G.ns G.pc)).setCell ⟨G.mb, 11, none⟩ (.slice none 0 0)).setCell ⟨G.mb, 12, none⟩ (.int .i64 0)).setCell ⟨G.mb, 13, none⟩ (.int .i64 0)).setCell ⟨G.mb, 14, none⟩ (.int .i64 0)).heap[k]? = w3.heap[k]? := fun hk => by
    rw [Below.heap_setCell _ _ _ _ hk, Below.heap_setCell _ _ _ _ hk, Below.heap_setCell _ _ _ _ hk, Below.heap_setCell _ _ _ _ hk, Below.heap_setCell _ _ _ _ hk, Below.heap_setCell _ _ _ _ hk]
  have move : ∀ {B : Nat} {e : TypeId} {m : Nat} {z : Value} {xs : List Value}, w3.ownsRow B e 1 z m xs → e ≠ 98 → ((((((w3.setCell ⟨G.mb, 9, none⟩ (.slice G.oa G.na G.oc)).setCell ⟨G.mb, 10, none⟩ (.slice G.pa G.ns G.pc)).setCell ⟨G.mb, 11, none⟩ (.slice none 0 0)).setCell ⟨G.mb, 12, none⟩ (.int .i64 0)).setCell ⟨G.mb, 13, none⟩ (.int .i64 0)).setCell ⟨G.mb, 14, none⟩ (.int .i64 0)).ownsRow B e 1 z m xs := fun {B e m z xs} hr ht =>
    ownsRow_move hr (fun k hk _ => keep (by rintro rfl; exact own_ne_type hr h.run (fun e => ht e.symm) hk))
  have getA : ∀ {j : Nat}, j < A.length → ∃ u r, ra[j]? = some u ∧ A[j]? = some r ∧ (ra ++ ro).getD j undef = u ∧ (A ++ O).getD j [] = r := fun {j} hj => by
    refine ⟨ra[j]'(by omega), A[j], List.getElem?_eq_getElem (by omega), List.getElem?_eq_getElem hj, ?_, ?_⟩
    · rw [List.getD_eq_getElem?_getD, List.getElem?_append_left (by omega), List.getElem?_eq_getElem (by omega)]; rfl
    · rw [List.getD_eq_getElem?_getD, List.getElem?_append_left hj, List.getElem?_eq_getElem hj]; rfl
  have getO : ∀ {j : Nat}, A.length ≤ j → j < A.length + O.length → ∃ u r, ro[j - A.length]? = some u ∧ O[j - A.length]? = some r ∧ (ra ++ ro).getD j undef = u ∧ (A ++ O).getD j [] = r := fun {j} h1 h2 => by
    refine ⟨ro[j - A.length]'(by omega), O[j - A.length]'(by omega), List.getElem?_eq_getElem (by omega), List.getElem?_eq_getElem (by omega), ?_, ?_⟩
    · rw [List.getD_eq_getElem?_getD, List.getElem?_append_right (by omega), hla, List.getElem?_eq_getElem (by omega)]; rfl
    · rw [List.getD_eq_getElem?_getD, List.getElem?_append_right h1, List.getElem?_eq_getElem (by omega)]; rfl
  have own : ∀ j, j < (A ++ O).length → ∃ u r, G.rows.getD j undef = u ∧ (A ++ O).getD j [] = r ∧ w3.ownsRow w1.heap.size 21 1 u r.length (w32 r) := fun j hj => by
    rw [List.length_append] at hj
    rw [hrows]
    by_cases hjA : j < A.length
    · obtain ⟨u, r, e1, e2, e3, e4⟩ := getA hjA
      exact ⟨u, r, e3, e4, hA.ri j u r e1 e2⟩
    · obtain ⟨u, r, e1, e2, e3, e4⟩ := getO (Nat.le_of_not_lt hjA) hj
      exact ⟨u, r, e3, e4, ownsRow_base (hO.ri _ u r e1 e2) h21⟩
  refine ⟨⟨rfl, fun x hx => ?_, fun x hx => ?_, hw, show (0 : Nat) ≤ _ from Nat.zero_le _⟩, ?_, ?_, ?_, ?_, ?_, fun j hj => ?_, ?_, ?_, World.ownsRow_nil _ _ _ _, h.mb_, h.rg_, h.cb_, h.ne, fun j hj => ?_, fun i j hi hj hij => ?_, fun e => by cases e⟩
  · rw [List.eq_of_mem_replicate hx]; exact ⟨by omega, by omega⟩
  · simp [St.init] at hx; rw [hx]; exact ⟨by omega, by omega⟩
  · have h0 := setCell_heap (i := 9) (v := .slice G.oa G.na G.oc) h.run
    have h1 := setCell_heap (i := 10) (v := .slice G.pa G.ns G.pc) h0
    have h2 := setCell_heap (i := 11) (v := .slice none 0 0) h1
    have h3 := setCell_heap (i := 12) (v := .int .i64 0) h2
    have h4 := setCell_heap (i := 13) (v := .int .i64 0) h3
    have h5 := setCell_heap (i := 14) (v := .int .i64 0) h4
    rw [h5]
    simp [mCells, St.init, heldR]
  · rw [keep (ne_of_type h.run h.regs (by decide)).symm, h.regs]; rfl
  · rw [keep (ne_of_type h.run h.cnts (by decide)).symm, h.cnts]; rfl
  · rw [hrows, List.length_append, hla, hlo]; exact (List.length_append ..).symm
  · show G.na + G.ns = (A ++ O).length; rw [hna, hns]; exact (List.length_append ..).symm
  · obtain ⟨u, r, e1, e2, h9⟩ := own j hj
    have e3 : (St.init R (A ++ O)).row j = r := e2
    rw [e1, e3]
    exact move (ownsRow_base h9 hN) (by decide)
  · have h9 := hA.ro
    have e : G.rows.take G.na = ra := by rw [hrows, hna, ← hla]; simp
    rw [e]
    rw [show ra.length = G.na by rw [hla, hna]] at h9
    exact move (ownsRow_base h9 hN) (by decide)
  · have h9 := hO.ro
    have e : G.rows.drop G.na = ro := by rw [hrows, hna, ← hla]; simp
    rw [e]
    rw [show ro.length = G.ns by rw [hlo, hns]] at h9
    exact move (ownsRow_base h9 (Nat.le_trans hN h21)) (by decide)
  · obtain ⟨u, r, e1, _, h9⟩ := own j hj
    rw [e1]
    exact ⟨fun e => by have := (ownsRow_lt h9 e).1; omega, fun e => by have := (ownsRow_lt h9 e).1; omega⟩
  · have hi' : i < A.length + O.length := by have := hi; simpa [St.init] using this
    have hj' : j < A.length + O.length := by have := hj; simpa [St.init] using this
    rw [hrows]
    by_cases hiA : i < A.length
    · obtain ⟨u, r, e1, e2, e3, _⟩ := getA hiA
      rw [e3]
      by_cases hjA : j < A.length
      · obtain ⟨u', r', e1', e2', e3', _⟩ := getA hjA
        rw [e3']
        exact hA.rr i j u u' hij e1 e1'
      · obtain ⟨u', r', e1', e2', e3', _⟩ := getO (Nat.le_of_not_lt hjA) hj'
        rw [e3']
        cases hu : u.ownBlock with
        | none => exact .inl rfl
        | some k => exact .inr (fun e => by have := h12 u k (List.mem_of_getElem? e1) hu; have := (ownsRow_lt (hO.ri _ u' r' e1' e2') e.symm).1; omega)
    · obtain ⟨u, r, e1, e2, e3, _⟩ := getO (Nat.le_of_not_lt hiA) hi'
      rw [e3]
      by_cases hjA : j < A.length
      · obtain ⟨u', r', e1', e2', e3', _⟩ := getA hjA
        rw [e3']
        cases hu : u.ownBlock with
        | none => exact .inl rfl
        | some k => exact .inr (fun e => by have := h12 u' k (List.mem_of_getElem? e1') e.symm; have := (ownsRow_lt (hO.ri _ u r e1 e2) hu).1; omega)
      · obtain ⟨u', r', e1', e2', e3', _⟩ := getO (Nat.le_of_not_lt hjA) hj'
        rw [e3']
        exact hO.rr _ _ u u' (by omega) e1 e1'
end Go.Proofs.Ytjdfcpjlmfaaaaa

/-
  Contract: Run (package ontimeref17), walked.
-/
namespace Go.Proofs.Ytjdfcpjlmfaaaaa
set_option linter.unusedVariables false
set_option linter.unusedSimpArgs false
open Go.RowKit
set_option maxRecDepth 100000
set_option maxHeartbeats 16000000

/-- the relation, at a normal end alone -/
def OnlyRun (R : Act → World → Prop) : Exit → Act → World → Prop
  | .normal, a, w => R a w
  | _, _, _ => False
theorem cut_run {P : Program} {cd : Code} {Q : Exit → Act → World → Prop} {a : Act} {W : World} (R : Act → Act → World → Prop)
    (h : cd.wp P (OnlyRun (R a)) a W) (hq : ∀ a' w', R a a' w' → Q .normal a' w') : cd.wp P Q a W :=
  wp_mono h fun e a' w' h' => by cases e <;> first | exact hq a' w' h' | exact (h' : False).elim
def RG3 (P : Nat → World → Prop) (a a' : Act) (w' : World) : Prop :=
  ∃ y36 y37 y38 y39 y40 y41 y42 y43 mb, a' = { a with tmps := (((((((((a.tmps.setIfInBounds 36 y36).setIfInBounds 37 y37).setIfInBounds 38 y38).setIfInBounds 39 y39).setIfInBounds 40 y40).setIfInBounds 41 y41).setIfInBounds 42 y42).setIfInBounds 43 y43).setIfInBounds 13 (.pointer (some ⟨mb, 0, none⟩))) } ∧ P mb w'
theorem heap3_0 (w : World) (a b c : Obj) : (((w.alloc a).alloc b).alloc c).drew.heap[w.heap.size]? = some a := by
  show (((w.alloc a).alloc b).alloc c).heap[w.heap.size]? = some a
  rw [Below.heap_alloc _ _ _ (by simp; omega), Below.heap_alloc _ _ _ (by simp)]
  exact (MapKept.heap_alloc w a).1
theorem heap3_1 (w : World) (a b c : Obj) : (((w.alloc a).alloc b).alloc c).drew.heap[w.heap.size + 1]? = some b := by
  show (((w.alloc a).alloc b).alloc c).heap[w.heap.size + 1]? = some b
  rw [Below.heap_alloc _ _ _ (by simp)]
  have := (MapKept.heap_alloc (w.alloc a) b).1
  simpa using this
theorem heap3_2 (w : World) (a b c : Obj) : (((w.alloc a).alloc b).alloc c).drew.heap[w.heap.size + 1 + 1]? = some c := by
  show (((w.alloc a).alloc b).alloc c).heap[w.heap.size + 1 + 1]? = some c
  have := (MapKept.heap_alloc ((w.alloc a).alloc b) c).1
  simpa using this
theorem below3 (w : World) (a b c : Obj) : Below w.heap.size w (((w.alloc a).alloc b).alloc c).drew := ((((Below.refl _ _).alloc (Nat.le_refl _) _).alloc (by simp) _).alloc (by simp; omega) _).drew
theorem refRun_any (f : Fn) (shared : List (ByteArray × Int)) (arrays objects : List (List Int)) (inp : List Int) (fuel : Int) (aa ba sa ara oba ia : Option Addr) (ac bc sc arc obc ic : Nat) (w : World) (hf : FnAt w f aa ba) (hs : ArrsAt w sa shared)
    (ha : ContAt w ara arrays) (ho : ContAt w oba objects) (hal : ∀ r ∈ arrays, r.length ≤ 1000000) (hol : ∀ r ∈ objects, r.length ≤ 1000000) (hsl : shared.length ≤ 1000000) (hin : WordsAt w ia inp) (hfu : fuel ≤ 1000000) :
    Calls Try.prog 19 #[fnVal f.name f.regs aa f.arrays.length ac ba f.blocks.length bc, .slice sa shared.length sc, .slice ara arrays.length arc, .slice oba objects.length obc, .slice ia inp.length ic, .int .i64 fuel] w fun e w' =>
      ∃ v, e = .returned v ∧ OcAt w' v (runOf f shared arrays objects inp fuel) ∧ Below w.heap.size w w' := by
  have HF := Lib.hid hf
  have HS := Lib.hid hs
  have HA := Lib.hid ha
  have HO := Lib.hid ho
  have HI := Lib.hid hin
  have HAL := Lib.hid hal
  have HOL := Lib.hid hol
  have HSL := Lib.hid hsl
  have la := hf.arrays.fits
  have ls := hs.fits
  have lA := ha.fits
  have lO := ho.fits
  have lI := hin.fits
  clear hf hs ha ho hin hal hol hsl
  obtain ⟨W, hW⟩ : ∃ W : World, (w.alloc (.cells #[.string f.name, .int .i64 f.regs, .slice aa f.arrays.length ac, .slice ba f.blocks.length bc] 32)).alloc (.cells #[.slice none 0 0, .slice none 0 0, .slice none 0 0, .int .i64 0, .int .i64 0, .int .i64 0] 45) = W := ⟨_, rfl⟩
  have HWS : Hid (W.heap.size = w.heap.size + 2) := by show _ = _; rw [← hW]; simp
  have HBW : Hid (Below w.heap.size w W) := by show Below _ _ _; rw [← hW]; exact ((Below.refl _ _).alloc (Nat.le_refl _) _).alloc (by simp) _
  have HX : Hid (W.heap[w.heap.size]? = some (.cells #[.string f.name, .int .i64 f.regs, .slice aa f.arrays.length ac, .slice ba f.blocks.length bc] 32)) := by
    show _ = _
    rw [← hW, Below.heap_alloc _ _ _ (by simp)]
    exact (MapKept.heap_alloc w _).1
  have HT : Hid (W.heap[w.heap.size + 1]? = some (.cells #[.slice none 0 0, .slice none 0 0, .slice none 0 0, .int .i64 0, .int .i64 0, .int .i64 0] 45)) := by
    show _ = _
    rw [← hW]
    exact MapKept.heap_alloc (w.alloc _) _ |>.1 |> fun h => by simpa using h
  have K : Hid (∀ w', Below W.heap.size W w' → (w'.cell? ⟨w.heap.size, 0, none⟩ = some (.string f.name) ∧ w'.cell? ⟨w.heap.size, 1, none⟩ = some (.int .i64 f.regs) ∧ w'.cell? ⟨w.heap.size, 2, none⟩ = some (.slice aa f.arrays.length ac) ∧ w'.cell? ⟨w.heap.size, 3, none⟩ = some (.slice ba f.blocks.length bc)) ∧
      w'.heap[w.heap.size + 1]? = some (.cells #[.slice none 0 0, .slice none 0 0, .slice none 0 0, .int .i64 0, .int .i64 0, .int .i64 0] 45) ∧ Below w.heap.size w w' ∧ FnAt w' f aa ba ∧ ArrsAt w' sa shared ∧ ContAt w' ara arrays ∧ ContAt w' oba objects ∧ WordsAt w' ia inp) := fun w' h => by
    have h9 := (h.block _ (lt_heap HX.out)).trans HX.out
    have h7 := HBW.out.trans (h.mono HBW.out.size)
    exact ⟨⟨cell_heap h9 0, cell_heap h9 1, cell_heap h9 2, cell_heap h9 3⟩, (h.block _ (lt_heap HT.out)).trans HT.out, h7, HF.out.below h7, HS.out.below h7, HA.out.below h7, HO.out.below h7, HI.out.below h7⟩
  obtain ⟨⟨x0, x1, x2, x3⟩, _, _, hf0, hs0, _⟩ := K.out W (Below.refl _ _)
  have HF0 := Lib.hid hf0
  have HS0 := Lib.hid hs0
  clear hf0 hs0
  go_enter Try.func19, Try.ntmps19
  go_wp2_with fail
  clear hW x0 x1 x2 x3
  refine (refValid_is f shared aa ba sa ac bc sc W HF0.out HS0.out).mono ?_
  rintro e w1 ⟨rfl, hB1⟩
  have HB1 := Lib.hid hB1
  clear hB1
  -- the three ways of an outcome that is refused
  have BAD : Hid (∀ (X : World) (K0 : World → Prop), Below W.heap.size W X → True) := fun _ _ _ => trivial
  clear BAD
  obtain ⟨⟨_, _, x2, _⟩, hres1, _, hf1, _, ha1, _, _⟩ := K.out w1 HB1.out
  have HF1 := Lib.hid hf1
  have HA1 := Lib.hid ha1
  have HRES1 := Lib.hid hres1
  clear hf1 ha1 hres1
  cases hv : fnOk f shared with
  | false =>
    have HR : Hid (runOf f shared arrays objects inp fuel = ⟨[], [], [], 0, 0, 3⟩) := by show _ = _; unfold runOf runFits; rw [hv]; rfl
    have HRES := HRES1
    have HBR := HB1
    have q0 := cell_heap HRES.out 0
    have q1 := cell_heap HRES.out 1
    have q2 := cell_heap HRES.out 2
    have q3 := cell_heap HRES.out 3
    have q4 := cell_heap HRES.out 4
    have q5 := cell_heap HRES.out 5
    have z := frozen_heap HRES.out
    simp only [List.getElem?_toArray, List.getElem?_cons_zero, List.getElem?_cons_succ] at q0 q1 q2 q3 q4 q5
    go_wp2_with fail
    have HS6 := Lib.hid (six_set (v0 := .slice none 0 0) (v1 := .slice none 0 0) (v2 := .slice none 0 0) (v3 := .int .i64 0) (v4 := .int .i64 0) (v5 := .int .i64 3) HRES.out)
    have HB6 := Lib.hid (six_below (v0 := .slice none 0 0) (v1 := .slice none 0 0) (v2 := .slice none 0 0) (v3 := .int .i64 0) (v4 := .int .i64 0) (v5 := .int .i64 3) (b := w.heap.size + 1) (HBW.out.trans (HBR.out.mono (by have := HWS.out; omega))) (Nat.le_succ _))
    generalize World.setCell _ _ _ = X at HS6 HB6 ⊢
    have p0 := cell_heap HS6.out 0
    have p1 := cell_heap HS6.out 1
    have p2 := cell_heap HS6.out 2
    have p3 := cell_heap HS6.out 3
    have p4 := cell_heap HS6.out 4
    have p5 := cell_heap HS6.out 5
    simp only [List.getElem?_toArray, List.getElem?_cons_zero, List.getElem?_cons_succ] at p0 p1 p2 p3 p4 p5
    exact bodyPost_ret (v := .agg #[.slice none 0 0, .slice none 0 0, .slice none 0 0, .int .i64 0, .int .i64 0, .int .i64 3]) (by simp [results, Try.results19, go_sem, p0, p1, p2, p3, p4, p5]) rfl ⟨_, rfl, by rw [HR.out]; exact oc_none, HB6.out⟩
  | true =>
    have HV := Lib.hid hv
    clear hv
    go_wp2_with fail
    refine (sized_any f.arrays arrays aa ara ac arc w1 HF1.out.arrays HA1.out).mono ?_
    rintro e w2 ⟨rfl, hB2⟩
    have HB2 : Hid (Below W.heap.size W w2) := below_then HB1.out hB2
    clear hB2 x2
    obtain ⟨_, hres2, _, _, hs2, _, ho2, _⟩ := K.out w2 HB2.out
    have HS2 := Lib.hid hs2
    have HO2 := Lib.hid ho2
    have HRES2 := Lib.hid hres2
    clear hs2 ho2 hres2
    cases hm1 : matchOk f.arrays arrays with
    | false =>
      have HR : Hid (runOf f shared arrays objects inp fuel = ⟨[], [], [], 0, 0, 3⟩) := by show _ = _; unfold runOf runFits; rw [hm1]; simp
      have HRES := HRES2
      have HBR := HB2
      have q0 := cell_heap HRES.out 0
      have q1 := cell_heap HRES.out 1
      have q2 := cell_heap HRES.out 2
      have q3 := cell_heap HRES.out 3
      have q4 := cell_heap HRES.out 4
      have q5 := cell_heap HRES.out 5
      have z := frozen_heap HRES.out
      simp only [List.getElem?_toArray, List.getElem?_cons_zero, List.getElem?_cons_succ] at q0 q1 q2 q3 q4 q5
      go_wp2_with fail
      have HS6 := Lib.hid (six_set (v0 := .slice none 0 0) (v1 := .slice none 0 0) (v2 := .slice none 0 0) (v3 := .int .i64 0) (v4 := .int .i64 0) (v5 := .int .i64 3) HRES.out)
      have HB6 := Lib.hid (six_below (v0 := .slice none 0 0) (v1 := .slice none 0 0) (v2 := .slice none 0 0) (v3 := .int .i64 0) (v4 := .int .i64 0) (v5 := .int .i64 3) (b := w.heap.size + 1) (HBW.out.trans (HBR.out.mono (by have := HWS.out; omega))) (Nat.le_succ _))
      generalize World.setCell _ _ _ = X at HS6 HB6 ⊢
      have p0 := cell_heap HS6.out 0
      have p1 := cell_heap HS6.out 1
      have p2 := cell_heap HS6.out 2
      have p3 := cell_heap HS6.out 3
      have p4 := cell_heap HS6.out 4
      have p5 := cell_heap HS6.out 5
      simp only [List.getElem?_toArray, List.getElem?_cons_zero, List.getElem?_cons_succ] at p0 p1 p2 p3 p4 p5
      exact bodyPost_ret (v := .agg #[.slice none 0 0, .slice none 0 0, .slice none 0 0, .int .i64 0, .int .i64 0, .int .i64 3]) (by simp [results, Try.results19, go_sem, p0, p1, p2, p3, p4, p5]) rfl ⟨_, rfl, by rw [HR.out]; exact oc_none, HB6.out⟩
    | true =>
      have HM1 := Lib.hid hm1
      clear hm1
      go_wp2_with fail
      refine (sized_any shared objects sa oba sc obc w2 HS2.out HO2.out).mono ?_
      rintro e w3 ⟨rfl, hB3⟩
      have HB3 : Hid (Below W.heap.size W w3) := below_then HB2.out hB3
      clear hB3
      cases hm2 : matchOk shared objects with
      | false =>
        have HR : Hid (runOf f shared arrays objects inp fuel = ⟨[], [], [], 0, 0, 3⟩) := by show _ = _; unfold runOf runFits; rw [hm2]; simp
        have HRES := Lib.hid (K.out w3 HB3.out).2.1
        have HBR := HB3
        have q0 := cell_heap HRES.out 0
        have q1 := cell_heap HRES.out 1
        have q2 := cell_heap HRES.out 2
        have q3 := cell_heap HRES.out 3
        have q4 := cell_heap HRES.out 4
        have q5 := cell_heap HRES.out 5
        have z := frozen_heap HRES.out
        simp only [List.getElem?_toArray, List.getElem?_cons_zero, List.getElem?_cons_succ] at q0 q1 q2 q3 q4 q5
        go_wp2_with fail
        have HS6 := Lib.hid (six_set (v0 := .slice none 0 0) (v1 := .slice none 0 0) (v2 := .slice none 0 0) (v3 := .int .i64 0) (v4 := .int .i64 0) (v5 := .int .i64 3) HRES.out)
        have HB6 := Lib.hid (six_below (v0 := .slice none 0 0) (v1 := .slice none 0 0) (v2 := .slice none 0 0) (v3 := .int .i64 0) (v4 := .int .i64 0) (v5 := .int .i64 3) (b := w.heap.size + 1) (HBW.out.trans (HBR.out.mono (by have := HWS.out; omega))) (Nat.le_succ _))
        generalize World.setCell _ _ _ = X at HS6 HB6 ⊢
        have p0 := cell_heap HS6.out 0
        have p1 := cell_heap HS6.out 1
        have p2 := cell_heap HS6.out 2
        have p3 := cell_heap HS6.out 3
        have p4 := cell_heap HS6.out 4
        have p5 := cell_heap HS6.out 5
        simp only [List.getElem?_toArray, List.getElem?_cons_zero, List.getElem?_cons_succ] at p0 p1 p2 p3 p4 p5
        exact bodyPost_ret (v := .agg #[.slice none 0 0, .slice none 0 0, .slice none 0 0, .int .i64 0, .int .i64 0, .int .i64 3]) (by simp [results, Try.results19, go_sem, p0, p1, p2, p3, p4, p5]) rfl ⟨_, rfl, by rw [HR.out]; exact oc_none, HB6.out⟩
      | true =>
        have HM2 := Lib.hid hm2
        have HR : Hid (runFits f shared arrays objects = true) := by show _ = _; unfold runFits; rw [HV.out, HM1.out, hm2]; rfl
        clear hm2
        obtain ⟨hbl, hr0, hr1, hal4, ns, hns, hall⟩ := fnOk_parts HV.out
        obtain ⟨rfl, _, hnd⟩ := namesOf_iff.1 hns
        have HND := Lib.hid hnd
        have HALL := Lib.hid hall
        have HBL := Lib.hid hbl
        have HLA := Lib.hid (match_eq HM1.out)
        have HLO := Lib.hid (match_eq HM2.out)
        obtain ⟨R, hR⟩ : ∃ R : Nat, f.regs = (R : Int) := ⟨f.regs.toNat, by omega⟩
        have HRN := Lib.hid hR
        have HRB : Hid (R ≤ 10000) := by show _ ≤ _; omega
        clear hns hnd hall hal4 hbl
        obtain ⟨⟨x0, x1, x2, x3⟩, _⟩ := K.out w3 HB3.out
        rw [hR] at x1
        clear hR hr0 hr1
        have hmk := make_run R HRB.out
        have hmk4 : ∀ w, (Instr.makeSlice 35 (.int .i64 4) (.int .i64 4)).run Try.prog w = .ok (.slice (some ⟨w.heap.size, 0, none⟩) 4 4) (w.alloc (.cells (w32 [0, 0, 0, 0]).toArray 21)) := fun w => make_run 4 (by omega) w
        have HK3 : Hid (∀ w', Below w3.heap.size w3 w' → (w'.cell? ⟨w.heap.size, 0, none⟩ = some (.string f.name) ∧ w'.cell? ⟨w.heap.size, 1, none⟩ = some (.int .i64 (R : Int)) ∧ w'.cell? ⟨w.heap.size, 2, none⟩ = some (.slice aa f.arrays.length ac) ∧ w'.cell? ⟨w.heap.size, 3, none⟩ = some (.slice ba f.blocks.length bc))) := fun w' h => by
          have h9 := (K.out w' (below_then HB3.out h)).1
          rwa [HRN.out] at h9
        have hw9 : w.heap.size < w3.heap.size := by have := HB3.out.size; have := HWS.out; omega
        have hw91 : w.heap.size < w3.heap.size + 1 := by omega
        have hw92 : w.heap.size < w3.heap.size + 1 + 1 := by omega
        have hw93 : w.heap.size < w3.heap.size + 1 + 1 + 1 := by omega
        go_wp2_with fail
        refine cut_run (RG3 (fun mb w' => ∃ rg cb, MadeAt w3.heap.size w3 ⟨f.name, (R : Int), aa, f.arrays.length, ac, ba, f.blocks.length, bc, sa, shared.length, sc, ia, inp.length, ic, mb, rg, cb, none, 0, none, 0, []⟩ R w')) ?_ ?_
        · skip
          go_region
          all_goals
            first
              | refine ⟨_, _, _, _, _, _, _, _, _, (by simp only [List.setIfInBounds_toArray, List.set_cons_zero, List.set_cons_succ]; rfl), w3.heap.size + 1, w3.heap.size + 1 + 1, ⟨heap3_0 _ _ _ _, heap3_1 _ _ _ _, heap3_2 _ _ _ _, ?_, ?_, ?_, ?_, below3 _ _ _ _⟩⟩
              | refine ⟨_, _, _, _, _, _, _, _, _, (by simp only [List.setIfInBounds_toArray, List.set_cons_zero, List.set_cons_succ]; rfl), w3.heap.size + 1 + 1, w3.heap.size + 1, ⟨heap3_0 _ _ _ _, heap3_2 _ _ _ _, heap3_1 _ _ _ _, ?_, ?_, ?_, ?_, below3 _ _ _ _⟩⟩
              | refine ⟨_, _, _, _, _, _, _, _, _, (by simp only [List.setIfInBounds_toArray, List.set_cons_zero, List.set_cons_succ]; rfl), w3.heap.size, w3.heap.size + 1 + 1, ⟨heap3_1 _ _ _ _, heap3_0 _ _ _ _, heap3_2 _ _ _ _, ?_, ?_, ?_, ?_, below3 _ _ _ _⟩⟩
              | refine ⟨_, _, _, _, _, _, _, _, _, (by simp only [List.setIfInBounds_toArray, List.set_cons_zero, List.set_cons_succ]; rfl), w3.heap.size + 1 + 1, w3.heap.size, ⟨heap3_1 _ _ _ _, heap3_2 _ _ _ _, heap3_0 _ _ _ _, ?_, ?_, ?_, ?_, below3 _ _ _ _⟩⟩
              | refine ⟨_, _, _, _, _, _, _, _, _, (by simp only [List.setIfInBounds_toArray, List.set_cons_zero, List.set_cons_succ]; rfl), w3.heap.size, w3.heap.size + 1, ⟨heap3_2 _ _ _ _, heap3_0 _ _ _ _, heap3_1 _ _ _ _, ?_, ?_, ?_, ?_, below3 _ _ _ _⟩⟩
              | refine ⟨_, _, _, _, _, _, _, _, _, (by simp only [List.setIfInBounds_toArray, List.set_cons_zero, List.set_cons_succ]; rfl), w3.heap.size + 1, w3.heap.size, ⟨heap3_2 _ _ _ _, heap3_1 _ _ _ _, heap3_0 _ _ _ _, ?_, ?_, ?_, ?_, below3 _ _ _ _⟩⟩
          all_goals first | exact Nat.le_refl _ | (show _ ≤ _; simp only; omega) | (show ¬ _ = _; simp only; omega) | trace_state
        · rintro a' w4 ⟨y36, y37, y38, y39, y40, y41, y42, y43, mb, rfl, rg, cb, hmade⟩
          simp only [List.setIfInBounds_toArray, List.set_cons_zero, List.set_cons_succ]
          have HM := Lib.hid hmade
          have HB4 : Hid (Below w3.heap.size w3 w4) := hmade.bel
          have HN4 : Hid (w3.heap.size ≤ w4.heap.size) := hmade.bel.size
          obtain ⟨_, _, _, _, _, ha4, _, _⟩ := K.out w4 (below_then HB3.out HB4.out)
          have HA4 := Lib.hid ha4
          clear x0 x1 x2 x3 hmk hmk4 hw9 hw91 hw92 hw93 hmade ha4
          go_wp2_with fail
          refine (words_any arrays ara arc w4 HA4.out (by have := HLA.out; have := (fnOk_parts HV.out).2.2.2.1; omega) HAL.out).mono ?_
          rintro e w5 ⟨v5, ra, rfl, hra, hB5⟩
          have HRA := Lib.hid hra
          have HB5 := Lib.hid hB5
          obtain ⟨_, _, _, _, _, _, ho5, _⟩ := K.out w5 (below_then HB3.out (below_then HB4.out hB5))
          have HO5 := Lib.hid ho5
          clear hra hB5 ho5
          go_wp2_with fail
          refine (words_any objects oba obc w5 HO5.out (by have := HLO.out; have := HSL.out; omega) HOL.out).mono ?_
          rintro e w6 ⟨v6, ro, rfl, hro, hB6⟩
          have HRO := Lib.hid hro
          have HB6 := Lib.hid hB6
          have HRA6 := Lib.hid (HRA.out.keep hB6)
          obtain ⟨oa, oc, rfl⟩ : ∃ a c, v5 = .slice a f.arrays.length c := by
            obtain ⟨a, c, h9⟩ := ownsRow_val HRA6.out.ro
            exact ⟨a, c, by rw [h9, HRA6.out.len, ← HLA.out]⟩
          obtain ⟨pa, pc, rfl⟩ : ∃ a c, v6 = .slice a shared.length c := by
            obtain ⟨a, c, h9⟩ := ownsRow_val hro.ro
            exact ⟨a, c, by rw [h9, hro.len, ← HLO.out]⟩
          have hB46 := below_then HB5.out hB6
          have HM6 := Lib.hid (HM.out.keep HN4.out hB46)
          have HB36 : Hid (Below w3.heap.size w3 w6) := below_then HB4.out hB46
          clear hro hB6 hB46
          obtain ⟨G, hG⟩ : ∃ G : RGeo, G = ⟨f.name, (R : Int), aa, f.arrays.length, ac, ba, f.blocks.length, bc, sa, shared.length, sc, ia, inp.length, ic, mb, rg, cb, oa, oc, pa, pc, ra ++ ro⟩ := ⟨_, rfl⟩
          have HG := Lib.hid hG
          have hz9 := fun k => frozen_heap HM6.out.run k
          have m9 := cell_heap HM6.out.run 9
          have m10 := cell_heap HM6.out.run 10
          have m11 := cell_heap HM6.out.run 11
          have m12 := cell_heap HM6.out.run 12
          have m13 := cell_heap HM6.out.run 13
          have m14 := cell_heap HM6.out.run 14
          simp only [List.getElem?_toArray, List.getElem?_cons_zero, List.getElem?_cons_succ] at m9 m10 m11 m12 m13 m14 hz9
          have HX6 : Hid (RefAt w3.heap.size ⟨f.name, (R : Int), aa, f.arrays.length, ac, ba, f.blocks.length, bc, sa, shared.length, sc, ia, inp.length, ic, mb, rg, cb, oa, oc, pa, pc, ra ++ ro⟩ shared ((((((w6.setCell ⟨mb, 9, none⟩ (.slice oa f.arrays.length oc)).setCell ⟨mb, 10, none⟩ (.slice pa shared.length pc)).setCell ⟨mb, 11, none⟩ (.slice none 0 0)).setCell ⟨mb, 12, none⟩ (.int .i64 0)).setCell ⟨mb, 13, none⟩ (.int .i64 0)).setCell ⟨mb, 14, none⟩ (.int .i64 0)) (.slice none 0 0) 0 0 (St.init R (arrays ++ objects))) := by
            have hm9 : MadeAt w3.heap.size w3 ⟨f.name, (R : Int), aa, f.arrays.length, ac, ba, f.blocks.length, bc, sa, shared.length, sc, ia, inp.length, ic, mb, rg, cb, oa, oc, pa, pc, ra ++ ro⟩ R w6 := ⟨HM6.out.run, HM6.out.regs, HM6.out.cnts, HM6.out.mb_, HM6.out.rg_, HM6.out.cb_, HM6.out.ne, HM6.out.bel⟩
            refine hm9.start (w1 := w4) (w2 := w5) (ra := ra) (ro := ro) HN4.out HB36.out.size HRA6.out HRO.out (fun u k hu hk => ?_) HB5.out.size (lt_heap HM.out.regs) (lt_heap HM.out.cnts) HLA.out HLO.out rfl (fun r hr => ?_)
            · obtain ⟨j, hj⟩ := List.getElem?_of_mem hu
              obtain ⟨r, hr⟩ : ∃ r, arrays[j]? = some r := ⟨_, List.getElem?_eq_getElem (by rw [← HRA.out.len]; exact (List.getElem?_eq_some_iff.1 hj).1)⟩
              exact (ownsRow_lt (HRA.out.ri j u r hj hr) hk).2
            · rcases List.mem_append.1 hr with hr | hr
              · exact HA.out.word hr
              · exact HO.out.word hr
          have HBX : Hid (Below w3.heap.size w3 ((((((w6.setCell ⟨mb, 9, none⟩ (.slice oa f.arrays.length oc)).setCell ⟨mb, 10, none⟩ (.slice pa shared.length pc)).setCell ⟨mb, 11, none⟩ (.slice none 0 0)).setCell ⟨mb, 12, none⟩ (.int .i64 0)).setCell ⟨mb, 13, none⟩ (.int .i64 0)).setCell ⟨mb, 14, none⟩ (.int .i64 0))) := (((((HB36.out.setCell HM.out.mb_ _).setCell HM.out.mb_ _).setCell HM.out.mb_ _).setCell HM.out.mb_ _).setCell HM.out.mb_ _).setCell HM.out.mb_ _
          obtain ⟨X, hX⟩ : ∃ X : World, ((((((w6.setCell ⟨mb, 9, none⟩ (.slice oa f.arrays.length oc)).setCell ⟨mb, 10, none⟩ (.slice pa shared.length pc)).setCell ⟨mb, 11, none⟩ (.slice none 0 0)).setCell ⟨mb, 12, none⟩ (.int .i64 0)).setCell ⟨mb, 13, none⟩ (.int .i64 0)).setCell ⟨mb, 14, none⟩ (.int .i64 0)) = X := ⟨_, rfl⟩
          rw [hX] at HX6 HBX
          obtain ⟨r, hr⟩ : ∃ r, runGo f shared arrays objects inp fuel = r := ⟨_, rfl⟩
          obtain ⟨F, hF⟩ : ∃ F, fuel.toNat = F := ⟨_, rfl⟩
          have HFU : Hid (fuel.toNat = F) := hF
          have HE0 : Hid (Ends f.blocks (fnNames f shared) inp F 0 0 0 (St.init R (arrays ++ objects)) r) := by
            unfold runGo at hr
            rw [hF, HRN.out, Int.toNat_natCast] at hr
            exact ⟨Nat.zero_le _, by rw [Nat.sub_zero, hr, Nat.zero_add], by rw [Nat.sub_zero, hr]⟩
          have HOCR : Hid (∀ (n : Nat) (e : Int) (s1 : St), r = (n, e, s1) → runOf f shared arrays objects inp fuel = ocEnd ⟨f.name, (R : Int), aa, f.arrays.length, ac, ba, f.blocks.length, bc, sa, shared.length, sc, ia, inp.length, ic, mb, rg, cb, oa, oc, pa, pc, ra ++ ro⟩ s1 n e) := fun n e s1 h9 => by
            unfold runOf ocEnd
            rw [HR.out, hr, h9, HLA.out]
            rfl
          have HML : Hid (f.arrays.length + shared.length ≤ 2000000) := by show _ ≤ _; have := (fnOk_parts HV.out).2.2.2.1; have := HSL.out; omega
          clear hG HG hr hF
          go_wp2_with fail
          clear hX m9 m10 m11 m12 m13 m14 hz9
          have hFb : F ≤ 1000000 := by have := HFU.out; omega
          go_loopw [14, 15] (fun av kv wr => ∃ (n a k : Nat) (uv : Value) (s1 : St), av = .int .i64 (a : Int) ∧ kv = .int .i64 (k : Int) ∧ a < f.blocks.length ∧ (∀ p, f.blocks[a]? = some p → k ≤ p.code.length) ∧ Ends f.blocks (fnNames f shared) inp F n a k s1 r ∧
              RefAt w3.heap.size ⟨f.name, (R : Int), aa, f.arrays.length, ac, ba, f.blocks.length, bc, sa, shared.length, sc, ia, inp.length, ic, mb, rg, cb, oa, oc, pa, pc, ra ++ ro⟩ shared wr uv (n : Int) 0 s1 ∧ s1.regs.length = R ∧ s1.read ≤ n ∧ s1.out.length ≤ n ∧ Below w3.heap.size w3 wr) (fun _ _ wr => F - stepsAt mb wr)
          case atStart => exact ⟨0, 0, 0, _, _, rfl, rfl, HBL.out, fun _ _ => Nat.zero_le _, HE0.out, HX6.out, by simp [St.init], Nat.zero_le _, Nat.zero_le _, HBX.out⟩
          case round =>
            clear HX6 HBX HE0
            obtain ⟨n, a, k, uv, s1, rfl, rfl, ha, hk, hends, href, hregs, hrd, hout, hbw⟩ := hrel
            have HE := Lib.hid hends
            have HRF := Lib.hid href
            have HKC := Lib.hid hk
            have HREG := Lib.hid hregs
            have HRD := Lib.hid hrd
            have HOUT := Lib.hid hout
            have HBW9 := Lib.hid hbw
            have HST : Hid (stepsAt mb wr = n) := href.steps
            have hnF := hends.1
            have hn0 : (0 : Int) ≤ (n : Int) := by omega
            have ha0 : (0 : Int) ≤ (a : Int) := by omega
            have hk0 : (0 : Int) ≤ (k : Int) := by omega
            have ha1 : (a : Int) < (f.blocks.length : Int) := by omega
            clear hends href hk hregs hrd hout hbw
            have t13 := HRF.out.cell 13
            simp only [mCells, List.getElem?_toArray, List.getElem?_cons_zero, List.getElem?_cons_succ] at t13
            by_cases hge : fuel ≤ (n : Int)
            · have HR1 : Hid (r = (n, 13, s1)) := HE.out.fuel (by have := HFU.out; omega)
              obtain ⟨wE, hE⟩ : ∃ wE : World, wr.setCell ⟨mb, 14, none⟩ (.int .i64 13) = wE := ⟨_, rfl⟩
              obtain ⟨nE, hnE⟩ : ∃ nE, nE = n := ⟨_, rfl⟩
              obtain ⟨sE, hsE⟩ : ∃ sE, sE = s1 := ⟨_, rfl⟩
              obtain ⟨eE, heE⟩ : ∃ eE : Int, eE = 13 := ⟨_, rfl⟩
              have HRE : Hid (RefAt w3.heap.size ⟨f.name, (R : Int), aa, f.arrays.length, ac, ba, f.blocks.length, bc, sa, shared.length, sc, ia, inp.length, ic, mb, rg, cb, oa, oc, pa, pc, ra ++ ro⟩ shared wE uv (nE : Int) eE sE) := by show RefAt _ _ _ _ _ _ _ _; rw [← hE, hnE, hsE, heE]; exact HRF.out.setErr 13
              have HBE : Hid (Below w3.heap.size w3 wE) := by show Below _ _ _; rw [← hE]; exact HBW9.out.setCell HM.out.mb_ _
              have e14 := HRF.out.cell 14
              have f14 : wr.frozen? ⟨mb, 14, none⟩ = false := HRF.out.free 14
              simp only [mCells, List.getElem?_toArray, List.getElem?_cons_zero, List.getElem?_cons_succ] at e14
              rw [← hnE, ← hsE, ← heE] at HR1
              clear hnE hsE heE
              obtain ⟨ua, uc, huv, hoc⟩ := HRE.out.oc (by have h1 : f.arrays.length + shared.length = _ := HRE.out.nlen; have := HML.out; omega)
              subst huv
              have HOC9 := Lib.hid hoc
              have HRES9 := Lib.hid (K.out wE (below_then HB3.out HBE.out)).2.1
              have q0 := cell_heap HRES9.out 0
              have q1 := cell_heap HRES9.out 1
              have q2 := cell_heap HRES9.out 2
              have q3 := cell_heap HRES9.out 3
              have q4 := cell_heap HRES9.out 4
              have q5 := cell_heap HRES9.out 5
              have z := frozen_heap HRES9.out
              simp only [List.getElem?_toArray, List.getElem?_cons_zero, List.getElem?_cons_succ] at q0 q1 q2 q3 q4 q5
              have m9 := HRE.out.cell 9
              have m10 := HRE.out.cell 10
              have m11 := HRE.out.cell 11
              have m12 := HRE.out.cell 12
              have m13 := HRE.out.cell 13
              have m14 := HRE.out.cell 14
              simp only [mCells, List.getElem?_toArray, List.getElem?_cons_zero, List.getElem?_cons_succ] at m9 m10 m11 m12 m13 m14
              clear hoc
              go_wp2_with fail
              have HS6 := Lib.hid (six_set (v0 := .slice oa f.arrays.length oc) (v1 := .slice pa shared.length pc) (v2 := .slice ua sE.out.length uc) (v3 := .int .i64 sE.read) (v4 := .int .i64 nE) (v5 := .int .i64 eE) HRES9.out)
              have HB6 := Lib.hid (six_below (v0 := .slice oa f.arrays.length oc) (v1 := .slice pa shared.length pc) (v2 := .slice ua sE.out.length uc) (v3 := .int .i64 sE.read) (v4 := .int .i64 nE) (v5 := .int .i64 eE) (b := w.heap.size + 1) (K.out wE (below_then HB3.out HBE.out)).2.2.1 (Nat.le_succ _))
              have HO6 := Lib.hid (fun (k : Nat) (hk : k ≠ w.heap.size + 1) => six_other (w := wE) (v0 := .slice oa f.arrays.length oc) (v1 := .slice pa shared.length pc) (v2 := .slice ua sE.out.length uc) (v3 := .int .i64 sE.read) (v4 := .int .i64 nE) (v5 := .int .i64 eE) (b := w.heap.size + 1) hk)
              generalize World.setCell _ _ _ = X at HS6 HB6 HO6 ⊢
              have p0 := cell_heap HS6.out 0
              have p1 := cell_heap HS6.out 1
              have p2 := cell_heap HS6.out 2
              have p3 := cell_heap HS6.out 3
              have p4 := cell_heap HS6.out 4
              have p5 := cell_heap HS6.out 5
              simp only [List.getElem?_toArray, List.getElem?_cons_zero, List.getElem?_cons_succ] at p0 p1 p2 p3 p4 p5
              have hX9 := HRE.out.above (w' := X) (fun k hk _ => HO6.out k (by have := HB3.out.size; have := HWS.out; omega))
              obtain ⟨ua', uc', hu', hoc'⟩ := hX9.oc (by have h1 : f.arrays.length + shared.length = _ := HRE.out.nlen; have := HML.out; omega)
              injection hu' with hu1 _ hu3
              subst hu1
              subst hu3
              exact bodyPost_ret (v := .agg #[.slice oa f.arrays.length oc, .slice pa shared.length pc, .slice ua sE.out.length uc, .int .i64 sE.read, .int .i64 nE, .int .i64 eE]) (by simp [results, Try.results19, go_sem, p0, p1, p2, p3, p4, p5]) rfl ⟨_, rfl, by rw [HOCR.out _ _ _ HR1.out]; exact hoc', HB6.out⟩
            · have HGF : Hid (¬ F ≤ n) := fun h => hge (by have := HFU.out; omega)
              have hge' : decide (fuel ≤ (n : Int)) = false := by simpa using hge
              have hnF2 : n < 1000000 := by have := HGF.out; omega
              clear hge
              obtain ⟨p, hp⟩ : ∃ p, f.blocks[a]? = some p := ⟨_, List.getElem?_eq_getElem ha⟩
              have HP := Lib.hid hp
              have HPO : Hid (blkOk f (kinds f shared) p = true) := List.all_eq_true.1 HALL.out p (List.mem_of_getElem? hp)
              obtain ⟨⟨x0, x1, x2, x3⟩, _, _, hfw, hsw, _, _, hiw⟩ := K.out wr (below_then HB3.out HBW9.out)
              have HSW := Lib.hid hsw
              have HIW := Lib.hid hiw
              have HAW := Lib.hid hfw.arrays
              rcases hfw.blocks.at_ with h0 | ⟨bb, off, rfl, hc⟩
              · omega
              obtain ⟨ca, cc, hblk, hcode⟩ := hc a p hp
              have HCODE := Lib.hid hcode
              have hcl := hcode.fits
              have hkc := HKC.out p hp
              obtain ⟨f0, f1, f2, f3, f4⟩ := hblk
              obtain ⟨V, hV⟩ : ∃ V : World, wr.alloc (.cells #[.slice ca p.code.length cc, .int .u8 p.kind, .int .i64 p.x, .int .i64 p.to, .int .i64 p.els] 75) = V := ⟨_, rfl⟩
              have HBV : Hid (Below wr.heap.size wr V) := by show Below _ _ _; rw [← hV]; exact (Below.refl _ _).alloc (Nat.le_refl _) _
              have HVB : Hid (V.heap[wr.heap.size]? = some (.cells #[.slice ca p.code.length cc, .int .u8 p.kind, .int .i64 p.x, .int .i64 p.to, .int .i64 p.els] 75)) := by show _ = _; rw [← hV]; exact (MapKept.heap_alloc wr _).1
              have HRV := Lib.hid (HRF.out.keep HBV.out)
              have HBWV : Hid (Below w3.heap.size w3 V) := below_then HBW9.out HBV.out
              have HNV : Hid (w3.heap.size ≤ V.heap.size) := HBWV.out.size
              have v0 : V.cell? ⟨wr.heap.size, 0, none⟩ = some (.slice ca p.code.length cc) := cell_heap HVB.out 0
              have v1 : V.cell? ⟨wr.heap.size, 1, none⟩ = some (.int .u8 p.kind) := cell_heap HVB.out 1
              have v2 : V.cell? ⟨wr.heap.size, 2, none⟩ = some (.int .i64 p.x) := cell_heap HVB.out 2
              have v3 : V.cell? ⟨wr.heap.size, 3, none⟩ = some (.int .i64 p.to) := cell_heap HVB.out 3
              have v4 : V.cell? ⟨wr.heap.size, 4, none⟩ = some (.int .i64 p.els) := cell_heap HVB.out 4
              clear hc hp hfw hsw hiw hcode x0 x1 x2 HKC
              by_cases hkl : k < p.code.length
              · skip
                obtain ⟨q, hq⟩ : ∃ q, p.code[k]? = some q := ⟨_, List.getElem?_eq_getElem hkl⟩
                have HQI := Lib.hid hq
                have HQW := Lib.hid (HCODE.out.wf q (List.mem_of_getElem? hq))
                have HQO : Hid (insOk f.regs (kinds f shared) q = true) := by
                  have := HPO.out
                  unfold blkOk at this
                  rw [Bool.and_eq_true] at this
                  exact List.all_eq_true.1 this.1 q (List.mem_of_getElem? hq)
                rcases HCODE.out.at_ with h0 | ⟨cbk, co, rfl, hcc⟩
                · omega
                obtain ⟨c0, c1, c2, c3, c4, c5⟩ := (hcc k q hq).below HBV.out
                have hk3 : (k : Int) < (p.code.length : Int) := by omega
                have QST : Hid (Calls Try.prog 41 #[.pointer (some ⟨mb, 0, none⟩), .agg #[.int .u8 q.op, .int .i64 q.dst, .int .i64 q.x, .int .i64 q.y, .int .i64 q.imm, .string q.sym]] V (RStep w3.heap.size ⟨f.name, (R : Int), aa, f.arrays.length, ac, some ⟨bb, off, none⟩, f.blocks.length, bc, sa, shared.length, sc, ia, inp.length, ic, mb, rg, cb, oa, oc, pa, pc, ra ++ ro⟩ shared (n : Int) s1 V (step (fnNames f shared) inp q s1))) :=
                  rstep_any w3.heap.size ⟨f.name, (R : Int), aa, f.arrays.length, ac, some ⟨bb, off, none⟩, f.blocks.length, bc, sa, shared.length, sc, ia, inp.length, ic, mb, rg, cb, oa, oc, pa, pc, ra ++ ro⟩ f shared inp q V uv (n : Int) s1 HRV.out HNV.out HQW.out HQO.out HND.out (by rw [HREG.out, HRN.out]) (HAW.out.below HBV.out) rfl (HSW.out.below HBV.out) rfl (HIW.out.below HBV.out) rfl (by have := HRD.out; omega) (by have := HOUT.out; omega)
                clear hcc hq
                go_wp2_with fail
                clear hV v0 v1 v2 v3 v4 f0 f1 f2 f3 f4 x3 t13 c0 c1 c2 c3 c4 c5
                refine QST.out.mono ?_
                rintro e w7 ⟨rfl, hB7, uv', hR7⟩
                have HB7 : Hid (Below w3.heap.size w3 w7) := HBWV.out.trans hB7
                cases hst : step (fnNames f shared) inp q s1 with
                | error er =>
                  have HR1 : Hid (r = (n, er, s1)) := HE.out.trap HGF.out HP.out HQI.out hst
                  have her := step_err hst
                  rw [hst] at hR7
                  have HR7 := Lib.hid hR7
                  clear hR7 hB7 hst QST
                  simp only [stepErr]
                  have e14 := HR7.out.cell 14
                  have f14 : w7.frozen? ⟨mb, 14, none⟩ = false := HR7.out.free 14
                  simp only [mCells, List.getElem?_toArray, List.getElem?_cons_zero, List.getElem?_cons_succ] at e14
                  rcases her with rfl | rfl | rfl | rfl | rfl
                  · obtain ⟨wE, hE⟩ : ∃ wE : World, w7.setCell ⟨mb, 14, none⟩ (.int .i64 1) = wE := ⟨_, rfl⟩
                    obtain ⟨nE, hnE⟩ : ∃ nE, nE = n := ⟨_, rfl⟩
                    obtain ⟨sE, hsE⟩ : ∃ sE, sE = s1 := ⟨_, rfl⟩
                    obtain ⟨eE, heE⟩ : ∃ eE : Int, eE = 1 := ⟨_, rfl⟩
                    have HRE : Hid (RefAt w3.heap.size ⟨f.name, (R : Int), aa, f.arrays.length, ac, some ⟨bb, off, none⟩, f.blocks.length, bc, sa, shared.length, sc, ia, inp.length, ic, mb, rg, cb, oa, oc, pa, pc, ra ++ ro⟩ shared wE uv' (nE : Int) eE sE) := by show RefAt _ _ _ _ _ _ _ _; rw [← hE, hnE, hsE, heE]; exact HR7.out.setErr 1
                    have HBE : Hid (Below w3.heap.size w3 wE) := by show Below _ _ _; rw [← hE]; exact HB7.out.setCell HM.out.mb_ _
                    rw [← hnE, ← hsE, ← heE] at HR1
                    clear hnE hsE heE
                    obtain ⟨ua, uc, huv, hoc⟩ := HRE.out.oc (by have h1 : f.arrays.length + shared.length = _ := HRE.out.nlen; have := HML.out; omega)
                    subst huv
                    have HOC9 := Lib.hid hoc
                    have HRES9 := Lib.hid (K.out wE (below_then HB3.out HBE.out)).2.1
                    have q0 := cell_heap HRES9.out 0
                    have q1 := cell_heap HRES9.out 1
                    have q2 := cell_heap HRES9.out 2
                    have q3 := cell_heap HRES9.out 3
                    have q4 := cell_heap HRES9.out 4
                    have q5 := cell_heap HRES9.out 5
                    have z := frozen_heap HRES9.out
                    simp only [List.getElem?_toArray, List.getElem?_cons_zero, List.getElem?_cons_succ] at q0 q1 q2 q3 q4 q5
                    have m9 := HRE.out.cell 9
                    have m10 := HRE.out.cell 10
                    have m11 := HRE.out.cell 11
                    have m12 := HRE.out.cell 12
                    have m13 := HRE.out.cell 13
                    have m14 := HRE.out.cell 14
                    simp only [mCells, List.getElem?_toArray, List.getElem?_cons_zero, List.getElem?_cons_succ] at m9 m10 m11 m12 m13 m14
                    clear hoc
                    go_wp2_with fail
                    have HS6 := Lib.hid (six_set (v0 := .slice oa f.arrays.length oc) (v1 := .slice pa shared.length pc) (v2 := .slice ua sE.out.length uc) (v3 := .int .i64 sE.read) (v4 := .int .i64 nE) (v5 := .int .i64 eE) HRES9.out)
                    have HB6 := Lib.hid (six_below (v0 := .slice oa f.arrays.length oc) (v1 := .slice pa shared.length pc) (v2 := .slice ua sE.out.length uc) (v3 := .int .i64 sE.read) (v4 := .int .i64 nE) (v5 := .int .i64 eE) (b := w.heap.size + 1) (K.out wE (below_then HB3.out HBE.out)).2.2.1 (Nat.le_succ _))
                    have HO6 := Lib.hid (fun (k : Nat) (hk : k ≠ w.heap.size + 1) => six_other (w := wE) (v0 := .slice oa f.arrays.length oc) (v1 := .slice pa shared.length pc) (v2 := .slice ua sE.out.length uc) (v3 := .int .i64 sE.read) (v4 := .int .i64 nE) (v5 := .int .i64 eE) (b := w.heap.size + 1) hk)
                    generalize World.setCell _ _ _ = X at HS6 HB6 HO6 ⊢
                    have p0 := cell_heap HS6.out 0
                    have p1 := cell_heap HS6.out 1
                    have p2 := cell_heap HS6.out 2
                    have p3 := cell_heap HS6.out 3
                    have p4 := cell_heap HS6.out 4
                    have p5 := cell_heap HS6.out 5
                    simp only [List.getElem?_toArray, List.getElem?_cons_zero, List.getElem?_cons_succ] at p0 p1 p2 p3 p4 p5
                    have hX9 := HRE.out.above (w' := X) (fun k hk _ => HO6.out k (by have := HB3.out.size; have := HWS.out; omega))
                    obtain ⟨ua', uc', hu', hoc'⟩ := hX9.oc (by have h1 : f.arrays.length + shared.length = _ := HRE.out.nlen; have := HML.out; omega)
                    injection hu' with hu1 _ hu3
                    subst hu1
                    subst hu3
                    exact bodyPost_ret (v := .agg #[.slice oa f.arrays.length oc, .slice pa shared.length pc, .slice ua sE.out.length uc, .int .i64 sE.read, .int .i64 nE, .int .i64 eE]) (by simp [results, Try.results19, go_sem, p0, p1, p2, p3, p4, p5]) rfl ⟨_, rfl, by rw [HOCR.out _ _ _ HR1.out]; exact hoc', HB6.out⟩
                  · obtain ⟨wE, hE⟩ : ∃ wE : World, w7.setCell ⟨mb, 14, none⟩ (.int .i64 9) = wE := ⟨_, rfl⟩
                    obtain ⟨nE, hnE⟩ : ∃ nE, nE = n := ⟨_, rfl⟩
                    obtain ⟨sE, hsE⟩ : ∃ sE, sE = s1 := ⟨_, rfl⟩
                    obtain ⟨eE, heE⟩ : ∃ eE : Int, eE = 9 := ⟨_, rfl⟩
                    have HRE : Hid (RefAt w3.heap.size ⟨f.name, (R : Int), aa, f.arrays.length, ac, some ⟨bb, off, none⟩, f.blocks.length, bc, sa, shared.length, sc, ia, inp.length, ic, mb, rg, cb, oa, oc, pa, pc, ra ++ ro⟩ shared wE uv' (nE : Int) eE sE) := by show RefAt _ _ _ _ _ _ _ _; rw [← hE, hnE, hsE, heE]; exact HR7.out.setErr 9
                    have HBE : Hid (Below w3.heap.size w3 wE) := by show Below _ _ _; rw [← hE]; exact HB7.out.setCell HM.out.mb_ _
                    rw [← hnE, ← hsE, ← heE] at HR1
                    clear hnE hsE heE
                    obtain ⟨ua, uc, huv, hoc⟩ := HRE.out.oc (by have h1 : f.arrays.length + shared.length = _ := HRE.out.nlen; have := HML.out; omega)
                    subst huv
                    have HOC9 := Lib.hid hoc
                    have HRES9 := Lib.hid (K.out wE (below_then HB3.out HBE.out)).2.1
                    have q0 := cell_heap HRES9.out 0
                    have q1 := cell_heap HRES9.out 1
                    have q2 := cell_heap HRES9.out 2
                    have q3 := cell_heap HRES9.out 3
                    have q4 := cell_heap HRES9.out 4
                    have q5 := cell_heap HRES9.out 5
                    have z := frozen_heap HRES9.out
                    simp only [List.getElem?_toArray, List.getElem?_cons_zero, List.getElem?_cons_succ] at q0 q1 q2 q3 q4 q5
                    have m9 := HRE.out.cell 9
                    have m10 := HRE.out.cell 10
                    have m11 := HRE.out.cell 11
                    have m12 := HRE.out.cell 12
                    have m13 := HRE.out.cell 13
                    have m14 := HRE.out.cell 14
                    simp only [mCells, List.getElem?_toArray, List.getElem?_cons_zero, List.getElem?_cons_succ] at m9 m10 m11 m12 m13 m14
                    clear hoc
                    go_wp2_with fail
                    have HS6 := Lib.hid (six_set (v0 := .slice oa f.arrays.length oc) (v1 := .slice pa shared.length pc) (v2 := .slice ua sE.out.length uc) (v3 := .int .i64 sE.read) (v4 := .int .i64 nE) (v5 := .int .i64 eE) HRES9.out)
                    have HB6 := Lib.hid (six_below (v0 := .slice oa f.arrays.length oc) (v1 := .slice pa shared.length pc) (v2 := .slice ua sE.out.length uc) (v3 := .int .i64 sE.read) (v4 := .int .i64 nE) (v5 := .int .i64 eE) (b := w.heap.size + 1) (K.out wE (below_then HB3.out HBE.out)).2.2.1 (Nat.le_succ _))
                    have HO6 := Lib.hid (fun (k : Nat) (hk : k ≠ w.heap.size + 1) => six_other (w := wE) (v0 := .slice oa f.arrays.length oc) (v1 := .slice pa shared.length pc) (v2 := .slice ua sE.out.length uc) (v3 := .int .i64 sE.read) (v4 := .int .i64 nE) (v5 := .int .i64 eE) (b := w.heap.size + 1) hk)
                    generalize World.setCell _ _ _ = X at HS6 HB6 HO6 ⊢
                    have p0 := cell_heap HS6.out 0
                    have p1 := cell_heap HS6.out 1
                    have p2 := cell_heap HS6.out 2
                    have p3 := cell_heap HS6.out 3
                    have p4 := cell_heap HS6.out 4
                    have p5 := cell_heap HS6.out 5
                    simp only [List.getElem?_toArray, List.getElem?_cons_zero, List.getElem?_cons_succ] at p0 p1 p2 p3 p4 p5
                    have hX9 := HRE.out.above (w' := X) (fun k hk _ => HO6.out k (by have := HB3.out.size; have := HWS.out; omega))
                    obtain ⟨ua', uc', hu', hoc'⟩ := hX9.oc (by have h1 : f.arrays.length + shared.length = _ := HRE.out.nlen; have := HML.out; omega)
                    injection hu' with hu1 _ hu3
                    subst hu1
                    subst hu3
                    exact bodyPost_ret (v := .agg #[.slice oa f.arrays.length oc, .slice pa shared.length pc, .slice ua sE.out.length uc, .int .i64 sE.read, .int .i64 nE, .int .i64 eE]) (by simp [results, Try.results19, go_sem, p0, p1, p2, p3, p4, p5]) rfl ⟨_, rfl, by rw [HOCR.out _ _ _ HR1.out]; exact hoc', HB6.out⟩
                  · obtain ⟨wE, hE⟩ : ∃ wE : World, w7.setCell ⟨mb, 14, none⟩ (.int .i64 10) = wE := ⟨_, rfl⟩
                    obtain ⟨nE, hnE⟩ : ∃ nE, nE = n := ⟨_, rfl⟩
                    obtain ⟨sE, hsE⟩ : ∃ sE, sE = s1 := ⟨_, rfl⟩
                    obtain ⟨eE, heE⟩ : ∃ eE : Int, eE = 10 := ⟨_, rfl⟩
                    have HRE : Hid (RefAt w3.heap.size ⟨f.name, (R : Int), aa, f.arrays.length, ac, some ⟨bb, off, none⟩, f.blocks.length, bc, sa, shared.length, sc, ia, inp.length, ic, mb, rg, cb, oa, oc, pa, pc, ra ++ ro⟩ shared wE uv' (nE : Int) eE sE) := by show RefAt _ _ _ _ _ _ _ _; rw [← hE, hnE, hsE, heE]; exact HR7.out.setErr 10
                    have HBE : Hid (Below w3.heap.size w3 wE) := by show Below _ _ _; rw [← hE]; exact HB7.out.setCell HM.out.mb_ _
                    rw [← hnE, ← hsE, ← heE] at HR1
                    clear hnE hsE heE
                    obtain ⟨ua, uc, huv, hoc⟩ := HRE.out.oc (by have h1 : f.arrays.length + shared.length = _ := HRE.out.nlen; have := HML.out; omega)
                    subst huv
                    have HOC9 := Lib.hid hoc
                    have HRES9 := Lib.hid (K.out wE (below_then HB3.out HBE.out)).2.1
                    have q0 := cell_heap HRES9.out 0
                    have q1 := cell_heap HRES9.out 1
                    have q2 := cell_heap HRES9.out 2
                    have q3 := cell_heap HRES9.out 3
                    have q4 := cell_heap HRES9.out 4
                    have q5 := cell_heap HRES9.out 5
                    have z := frozen_heap HRES9.out
                    simp only [List.getElem?_toArray, List.getElem?_cons_zero, List.getElem?_cons_succ] at q0 q1 q2 q3 q4 q5
                    have m9 := HRE.out.cell 9
                    have m10 := HRE.out.cell 10
                    have m11 := HRE.out.cell 11
                    have m12 := HRE.out.cell 12
                    have m13 := HRE.out.cell 13
                    have m14 := HRE.out.cell 14
                    simp only [mCells, List.getElem?_toArray, List.getElem?_cons_zero, List.getElem?_cons_succ] at m9 m10 m11 m12 m13 m14
                    clear hoc
                    go_wp2_with fail
                    have HS6 := Lib.hid (six_set (v0 := .slice oa f.arrays.length oc) (v1 := .slice pa shared.length pc) (v2 := .slice ua sE.out.length uc) (v3 := .int .i64 sE.read) (v4 := .int .i64 nE) (v5 := .int .i64 eE) HRES9.out)
                    have HB6 := Lib.hid (six_below (v0 := .slice oa f.arrays.length oc) (v1 := .slice pa shared.length pc) (v2 := .slice ua sE.out.length uc) (v3 := .int .i64 sE.read) (v4 := .int .i64 nE) (v5 := .int .i64 eE) (b := w.heap.size + 1) (K.out wE (below_then HB3.out HBE.out)).2.2.1 (Nat.le_succ _))
                    have HO6 := Lib.hid (fun (k : Nat) (hk : k ≠ w.heap.size + 1) => six_other (w := wE) (v0 := .slice oa f.arrays.length oc) (v1 := .slice pa shared.length pc) (v2 := .slice ua sE.out.length uc) (v3 := .int .i64 sE.read) (v4 := .int .i64 nE) (v5 := .int .i64 eE) (b := w.heap.size + 1) hk)
                    generalize World.setCell _ _ _ = X at HS6 HB6 HO6 ⊢
                    have p0 := cell_heap HS6.out 0
                    have p1 := cell_heap HS6.out 1
                    have p2 := cell_heap HS6.out 2
                    have p3 := cell_heap HS6.out 3
                    have p4 := cell_heap HS6.out 4
                    have p5 := cell_heap HS6.out 5
                    simp only [List.getElem?_toArray, List.getElem?_cons_zero, List.getElem?_cons_succ] at p0 p1 p2 p3 p4 p5
                    have hX9 := HRE.out.above (w' := X) (fun k hk _ => HO6.out k (by have := HB3.out.size; have := HWS.out; omega))
                    obtain ⟨ua', uc', hu', hoc'⟩ := hX9.oc (by have h1 : f.arrays.length + shared.length = _ := HRE.out.nlen; have := HML.out; omega)
                    injection hu' with hu1 _ hu3
                    subst hu1
                    subst hu3
                    exact bodyPost_ret (v := .agg #[.slice oa f.arrays.length oc, .slice pa shared.length pc, .slice ua sE.out.length uc, .int .i64 sE.read, .int .i64 nE, .int .i64 eE]) (by simp [results, Try.results19, go_sem, p0, p1, p2, p3, p4, p5]) rfl ⟨_, rfl, by rw [HOCR.out _ _ _ HR1.out]; exact hoc', HB6.out⟩
                  · obtain ⟨wE, hE⟩ : ∃ wE : World, w7.setCell ⟨mb, 14, none⟩ (.int .i64 11) = wE := ⟨_, rfl⟩
                    obtain ⟨nE, hnE⟩ : ∃ nE, nE = n := ⟨_, rfl⟩
                    obtain ⟨sE, hsE⟩ : ∃ sE, sE = s1 := ⟨_, rfl⟩
                    obtain ⟨eE, heE⟩ : ∃ eE : Int, eE = 11 := ⟨_, rfl⟩
                    have HRE : Hid (RefAt w3.heap.size ⟨f.name, (R : Int), aa, f.arrays.length, ac, some ⟨bb, off, none⟩, f.blocks.length, bc, sa, shared.length, sc, ia, inp.length, ic, mb, rg, cb, oa, oc, pa, pc, ra ++ ro⟩ shared wE uv' (nE : Int) eE sE) := by show RefAt _ _ _ _ _ _ _ _; rw [← hE, hnE, hsE, heE]; exact HR7.out.setErr 11
                    have HBE : Hid (Below w3.heap.size w3 wE) := by show Below _ _ _; rw [← hE]; exact HB7.out.setCell HM.out.mb_ _
                    rw [← hnE, ← hsE, ← heE] at HR1
                    clear hnE hsE heE
                    obtain ⟨ua, uc, huv, hoc⟩ := HRE.out.oc (by have h1 : f.arrays.length + shared.length = _ := HRE.out.nlen; have := HML.out; omega)
                    subst huv
                    have HOC9 := Lib.hid hoc
                    have HRES9 := Lib.hid (K.out wE (below_then HB3.out HBE.out)).2.1
                    have q0 := cell_heap HRES9.out 0
                    have q1 := cell_heap HRES9.out 1
                    have q2 := cell_heap HRES9.out 2
                    have q3 := cell_heap HRES9.out 3
                    have q4 := cell_heap HRES9.out 4
                    have q5 := cell_heap HRES9.out 5
                    have z := frozen_heap HRES9.out
                    simp only [List.getElem?_toArray, List.getElem?_cons_zero, List.getElem?_cons_succ] at q0 q1 q2 q3 q4 q5
                    have m9 := HRE.out.cell 9
                    have m10 := HRE.out.cell 10
                    have m11 := HRE.out.cell 11
                    have m12 := HRE.out.cell 12
                    have m13 := HRE.out.cell 13
                    have m14 := HRE.out.cell 14
                    simp only [mCells, List.getElem?_toArray, List.getElem?_cons_zero, List.getElem?_cons_succ] at m9 m10 m11 m12 m13 m14
                    clear hoc
                    go_wp2_with fail
                    have HS6 := Lib.hid (six_set (v0 := .slice oa f.arrays.length oc) (v1 := .slice pa shared.length pc) (v2 := .slice ua sE.out.length uc) (v3 := .int .i64 sE.read) (v4 := .int .i64 nE) (v5 := .int .i64 eE) HRES9.out)
                    have HB6 := Lib.hid (six_below (v0 := .slice oa f.arrays.length oc) (v1 := .slice pa shared.length pc) (v2 := .slice ua sE.out.length uc) (v3 := .int .i64 sE.read) (v4 := .int .i64 nE) (v5 := .int .i64 eE) (b := w.heap.size + 1) (K.out wE (below_then HB3.out HBE.out)).2.2.1 (Nat.le_succ _))
                    have HO6 := Lib.hid (fun (k : Nat) (hk : k ≠ w.heap.size + 1) => six_other (w := wE) (v0 := .slice oa f.arrays.length oc) (v1 := .slice pa shared.length pc) (v2 := .slice ua sE.out.length uc) (v3 := .int .i64 sE.read) (v4 := .int .i64 nE) (v5 := .int .i64 eE) (b := w.heap.size + 1) hk)
                    generalize World.setCell _ _ _ = X at HS6 HB6 HO6 ⊢
                    have p0 := cell_heap HS6.out 0
                    have p1 := cell_heap HS6.out 1
                    have p2 := cell_heap HS6.out 2
                    have p3 := cell_heap HS6.out 3
                    have p4 := cell_heap HS6.out 4
                    have p5 := cell_heap HS6.out 5
                    simp only [List.getElem?_toArray, List.getElem?_cons_zero, List.getElem?_cons_succ] at p0 p1 p2 p3 p4 p5
                    have hX9 := HRE.out.above (w' := X) (fun k hk _ => HO6.out k (by have := HB3.out.size; have := HWS.out; omega))
                    obtain ⟨ua', uc', hu', hoc'⟩ := hX9.oc (by have h1 : f.arrays.length + shared.length = _ := HRE.out.nlen; have := HML.out; omega)
                    injection hu' with hu1 _ hu3
                    subst hu1
                    subst hu3
                    exact bodyPost_ret (v := .agg #[.slice oa f.arrays.length oc, .slice pa shared.length pc, .slice ua sE.out.length uc, .int .i64 sE.read, .int .i64 nE, .int .i64 eE]) (by simp [results, Try.results19, go_sem, p0, p1, p2, p3, p4, p5]) rfl ⟨_, rfl, by rw [HOCR.out _ _ _ HR1.out]; exact hoc', HB6.out⟩
                  · obtain ⟨wE, hE⟩ : ∃ wE : World, w7.setCell ⟨mb, 14, none⟩ (.int .i64 12) = wE := ⟨_, rfl⟩
                    obtain ⟨nE, hnE⟩ : ∃ nE, nE = n := ⟨_, rfl⟩
                    obtain ⟨sE, hsE⟩ : ∃ sE, sE = s1 := ⟨_, rfl⟩
                    obtain ⟨eE, heE⟩ : ∃ eE : Int, eE = 12 := ⟨_, rfl⟩
                    have HRE : Hid (RefAt w3.heap.size ⟨f.name, (R : Int), aa, f.arrays.length, ac, some ⟨bb, off, none⟩, f.blocks.length, bc, sa, shared.length, sc, ia, inp.length, ic, mb, rg, cb, oa, oc, pa, pc, ra ++ ro⟩ shared wE uv' (nE : Int) eE sE) := by show RefAt _ _ _ _ _ _ _ _; rw [← hE, hnE, hsE, heE]; exact HR7.out.setErr 12
                    have HBE : Hid (Below w3.heap.size w3 wE) := by show Below _ _ _; rw [← hE]; exact HB7.out.setCell HM.out.mb_ _
                    rw [← hnE, ← hsE, ← heE] at HR1
                    clear hnE hsE heE
                    obtain ⟨ua, uc, huv, hoc⟩ := HRE.out.oc (by have h1 : f.arrays.length + shared.length = _ := HRE.out.nlen; have := HML.out; omega)
                    subst huv
                    have HOC9 := Lib.hid hoc
                    have HRES9 := Lib.hid (K.out wE (below_then HB3.out HBE.out)).2.1
                    have q0 := cell_heap HRES9.out 0
                    have q1 := cell_heap HRES9.out 1
                    have q2 := cell_heap HRES9.out 2
                    have q3 := cell_heap HRES9.out 3
                    have q4 := cell_heap HRES9.out 4
                    have q5 := cell_heap HRES9.out 5
                    have z := frozen_heap HRES9.out
                    simp only [List.getElem?_toArray, List.getElem?_cons_zero, List.getElem?_cons_succ] at q0 q1 q2 q3 q4 q5
                    have m9 := HRE.out.cell 9
                    have m10 := HRE.out.cell 10
                    have m11 := HRE.out.cell 11
                    have m12 := HRE.out.cell 12
                    have m13 := HRE.out.cell 13
                    have m14 := HRE.out.cell 14
                    simp only [mCells, List.getElem?_toArray, List.getElem?_cons_zero, List.getElem?_cons_succ] at m9 m10 m11 m12 m13 m14
                    clear hoc
                    go_wp2_with fail
                    have HS6 := Lib.hid (six_set (v0 := .slice oa f.arrays.length oc) (v1 := .slice pa shared.length pc) (v2 := .slice ua sE.out.length uc) (v3 := .int .i64 sE.read) (v4 := .int .i64 nE) (v5 := .int .i64 eE) HRES9.out)
                    have HB6 := Lib.hid (six_below (v0 := .slice oa f.arrays.length oc) (v1 := .slice pa shared.length pc) (v2 := .slice ua sE.out.length uc) (v3 := .int .i64 sE.read) (v4 := .int .i64 nE) (v5 := .int .i64 eE) (b := w.heap.size + 1) (K.out wE (below_then HB3.out HBE.out)).2.2.1 (Nat.le_succ _))
                    have HO6 := Lib.hid (fun (k : Nat) (hk : k ≠ w.heap.size + 1) => six_other (w := wE) (v0 := .slice oa f.arrays.length oc) (v1 := .slice pa shared.length pc) (v2 := .slice ua sE.out.length uc) (v3 := .int .i64 sE.read) (v4 := .int .i64 nE) (v5 := .int .i64 eE) (b := w.heap.size + 1) hk)
                    generalize World.setCell _ _ _ = X at HS6 HB6 HO6 ⊢
                    have p0 := cell_heap HS6.out 0
                    have p1 := cell_heap HS6.out 1
                    have p2 := cell_heap HS6.out 2
                    have p3 := cell_heap HS6.out 3
                    have p4 := cell_heap HS6.out 4
                    have p5 := cell_heap HS6.out 5
                    simp only [List.getElem?_toArray, List.getElem?_cons_zero, List.getElem?_cons_succ] at p0 p1 p2 p3 p4 p5
                    have hX9 := HRE.out.above (w' := X) (fun k hk _ => HO6.out k (by have := HB3.out.size; have := HWS.out; omega))
                    obtain ⟨ua', uc', hu', hoc'⟩ := hX9.oc (by have h1 : f.arrays.length + shared.length = _ := HRE.out.nlen; have := HML.out; omega)
                    injection hu' with hu1 _ hu3
                    subst hu1
                    subst hu3
                    exact bodyPost_ret (v := .agg #[.slice oa f.arrays.length oc, .slice pa shared.length pc, .slice ua sE.out.length uc, .int .i64 sE.read, .int .i64 nE, .int .i64 eE]) (by simp [results, Try.results19, go_sem, p0, p1, p2, p3, p4, p5]) rfl ⟨_, rfl, by rw [HOCR.out _ _ _ HR1.out]; exact hoc', HB6.out⟩
                | ok s3 =>
                  have HN : Hid (Ends f.blocks (fnNames f shared) inp F (n + 1) a (k + 1) s3 r) := HE.out.next HGF.out HP.out HQI.out hst
                  obtain ⟨l1, l2, l3⟩ := step_len hst
                  rw [hst] at hR7
                  have HR7 : Hid (RefAt w3.heap.size ⟨f.name, (R : Int), aa, f.arrays.length, ac, some ⟨bb, off, none⟩, f.blocks.length, bc, sa, shared.length, sc, ia, inp.length, ic, mb, rg, cb, oa, oc, pa, pc, ra ++ ro⟩ shared w7 uv' (n : Int) 0 s3) := hR7
                  have HL3 : Hid (s3.regs.length = R ∧ s3.read ≤ n + 1 ∧ s3.out.length ≤ n + 1) := ⟨by rw [l1]; exact HREG.out, by have := HRD.out; omega, by have := HOUT.out; omega⟩
                  have HKN : Hid (∀ z, f.blocks[a]? = some z → k + 1 ≤ z.code.length) := fun z hz => by rw [HP.out] at hz; injection hz with hz; subst hz; exact hkl
                  clear hR7 hB7 hst QST l1 l2 l3
                  simp only [stepErr]
                  have e13 := HR7.out.cell 13
                  have f13 : w7.frozen? ⟨mb, 13, none⟩ = false := HR7.out.free 13
                  simp only [mCells, List.getElem?_toArray, List.getElem?_cons_zero, List.getElem?_cons_succ] at e13
                  obtain ⟨X, hX⟩ : ∃ X : World, w7.setCell ⟨mb, 13, none⟩ (.int .i64 ((n : Int) + 1)) = X := ⟨_, rfl⟩
                  have HRX : Hid (RefAt w3.heap.size ⟨f.name, (R : Int), aa, f.arrays.length, ac, some ⟨bb, off, none⟩, f.blocks.length, bc, sa, shared.length, sc, ia, inp.length, ic, mb, rg, cb, oa, oc, pa, pc, ra ++ ro⟩ shared X uv' ((n + 1 : Nat) : Int) 0 s3) := by show RefAt _ _ _ _ _ _ _ _; rw [← hX, show (((n + 1 : Nat)) : Int) = (n : Int) + 1 by omega]; exact HR7.out.setSteps _
                  have HBX : Hid (Below w3.heap.size w3 X) := by show Below _ _ _; rw [← hX]; exact HB7.out.setCell HM.out.mb_ _
                  go_wp2_with fail
                  clear hX e13 f13
                  refine ⟨⟨n + 1, a, k + 1, uv', s3, by go_num, by go_num, ha, HKN.out, HN.out, HRX.out, HL3.out.1, HL3.out.2.1, HL3.out.2.2, HBX.out⟩, ?_⟩
                  have h1 : stepsAt mb X = ((n + 1 : Nat) : Int).toNat := HRX.out.steps
                  rw [h1, HST.out]
                  have := HGF.out
                  omega
              · obtain rfl : k = p.code.length := by omega
                have HQI : Hid (p.code[p.code.length]? = none) := List.getElem?_eq_none (Nat.le_refl _)
                have HEND : Hid (endOk f.regs f.blocks.length p = true) := by
                  have := HPO.out
                  unfold blkOk at this
                  rw [Bool.and_eq_true] at this
                  exact this.2
                have e8 := HRV.out.cell 8
                have e13 := HRV.out.cell 13
                have f13 : V.frozen? ⟨mb, 13, none⟩ = false := HRV.out.free 13
                have e14 := HRV.out.cell 14
                have f14 : V.frozen? ⟨mb, 14, none⟩ = false := HRV.out.free 14
                simp only [mCells, List.getElem?_toArray, List.getElem?_cons_zero, List.getElem?_cons_succ] at e8 e13 e14
                by_cases hk3 : p.kind = 3
                · skip
                  have hk3' : (p.kind == 3) = true := by simpa using hk3
                  cases hl : s1.locked with
                  | true =>
                    have HR1 : Hid (r = (n, 12, s1)) := HE.out.locked HGF.out HP.out HQI.out hk3 hl
                    have hh0 : 0 ≤ idx shared s1.held := idx_pos.2 (HRV.out.lk hl)
                    rw [show heldR shared s1 = idx shared s1.held by unfold heldR; rw [hl]; rfl] at e8
                    obtain ⟨hi, hhi⟩ : ∃ hi, idx shared s1.held = hi := ⟨_, rfl⟩
                    rw [hhi] at e8 hh0
                    clear hl hhi hk3
                    obtain ⟨wE, hE⟩ : ∃ wE : World, V.setCell ⟨mb, 14, none⟩ (.int .i64 12) = wE := ⟨_, rfl⟩
                    obtain ⟨nE, hnE⟩ : ∃ nE, nE = n := ⟨_, rfl⟩
                    obtain ⟨sE, hsE⟩ : ∃ sE, sE = s1 := ⟨_, rfl⟩
                    obtain ⟨eE, heE⟩ : ∃ eE : Int, eE = 12 := ⟨_, rfl⟩
                    have HRE : Hid (RefAt w3.heap.size ⟨f.name, (R : Int), aa, f.arrays.length, ac, some ⟨bb, off, none⟩, f.blocks.length, bc, sa, shared.length, sc, ia, inp.length, ic, mb, rg, cb, oa, oc, pa, pc, ra ++ ro⟩ shared wE uv (nE : Int) eE sE) := by show RefAt _ _ _ _ _ _ _ _; rw [← hE, hnE, hsE, heE]; exact HRV.out.setErr 12
                    have HBE : Hid (Below w3.heap.size w3 wE) := by show Below _ _ _; rw [← hE]; exact HBWV.out.setCell HM.out.mb_ _
                    rw [← hnE, ← hsE, ← heE] at HR1
                    clear hnE hsE heE
                    obtain ⟨ua, uc, huv, hoc⟩ := HRE.out.oc (by have h1 : f.arrays.length + shared.length = _ := HRE.out.nlen; have := HML.out; omega)
                    subst huv
                    have HOC9 := Lib.hid hoc
                    have HRES9 := Lib.hid (K.out wE (below_then HB3.out HBE.out)).2.1
                    have q0 := cell_heap HRES9.out 0
                    have q1 := cell_heap HRES9.out 1
                    have q2 := cell_heap HRES9.out 2
                    have q3 := cell_heap HRES9.out 3
                    have q4 := cell_heap HRES9.out 4
                    have q5 := cell_heap HRES9.out 5
                    have z := frozen_heap HRES9.out
                    simp only [List.getElem?_toArray, List.getElem?_cons_zero, List.getElem?_cons_succ] at q0 q1 q2 q3 q4 q5
                    have m9 := HRE.out.cell 9
                    have m10 := HRE.out.cell 10
                    have m11 := HRE.out.cell 11
                    have m12 := HRE.out.cell 12
                    have m13 := HRE.out.cell 13
                    have m14 := HRE.out.cell 14
                    simp only [mCells, List.getElem?_toArray, List.getElem?_cons_zero, List.getElem?_cons_succ] at m9 m10 m11 m12 m13 m14
                    clear hoc
                    go_wp2_with fail
                    have HS6 := Lib.hid (six_set (v0 := .slice oa f.arrays.length oc) (v1 := .slice pa shared.length pc) (v2 := .slice ua sE.out.length uc) (v3 := .int .i64 sE.read) (v4 := .int .i64 nE) (v5 := .int .i64 eE) HRES9.out)
                    have HB6 := Lib.hid (six_below (v0 := .slice oa f.arrays.length oc) (v1 := .slice pa shared.length pc) (v2 := .slice ua sE.out.length uc) (v3 := .int .i64 sE.read) (v4 := .int .i64 nE) (v5 := .int .i64 eE) (b := w.heap.size + 1) (K.out wE (below_then HB3.out HBE.out)).2.2.1 (Nat.le_succ _))
                    have HO6 := Lib.hid (fun (k : Nat) (hk : k ≠ w.heap.size + 1) => six_other (w := wE) (v0 := .slice oa f.arrays.length oc) (v1 := .slice pa shared.length pc) (v2 := .slice ua sE.out.length uc) (v3 := .int .i64 sE.read) (v4 := .int .i64 nE) (v5 := .int .i64 eE) (b := w.heap.size + 1) hk)
                    generalize World.setCell _ _ _ = X at HS6 HB6 HO6 ⊢
                    have p0 := cell_heap HS6.out 0
                    have p1 := cell_heap HS6.out 1
                    have p2 := cell_heap HS6.out 2
                    have p3 := cell_heap HS6.out 3
                    have p4 := cell_heap HS6.out 4
                    have p5 := cell_heap HS6.out 5
                    simp only [List.getElem?_toArray, List.getElem?_cons_zero, List.getElem?_cons_succ] at p0 p1 p2 p3 p4 p5
                    have hX9 := HRE.out.above (w' := X) (fun k hk _ => HO6.out k (by have := HB3.out.size; have := HWS.out; omega))
                    obtain ⟨ua', uc', hu', hoc'⟩ := hX9.oc (by have h1 : f.arrays.length + shared.length = _ := HRE.out.nlen; have := HML.out; omega)
                    injection hu' with hu1 _ hu3
                    subst hu1
                    subst hu3
                    exact bodyPost_ret (v := .agg #[.slice oa f.arrays.length oc, .slice pa shared.length pc, .slice ua sE.out.length uc, .int .i64 sE.read, .int .i64 nE, .int .i64 eE]) (by simp [results, Try.results19, go_sem, p0, p1, p2, p3, p4, p5]) rfl ⟨_, rfl, by rw [HOCR.out _ _ _ HR1.out]; exact hoc', HB6.out⟩
                  | false =>
                    have HR1 : Hid (r = (n + 1, 0, s1)) := HE.out.ret HGF.out HP.out HQI.out hk3 hl
                    rw [show heldR shared s1 = -1 by unfold heldR; rw [hl]; rfl] at e8
                    clear hl hk3
                    obtain ⟨wE, hE⟩ : ∃ wE : World, V.setCell ⟨mb, 13, none⟩ (.int .i64 ((n : Int) + 1)) = wE := ⟨_, rfl⟩
                    obtain ⟨nE, hnE⟩ : ∃ nE, nE = n + 1 := ⟨_, rfl⟩
                    obtain ⟨sE, hsE⟩ : ∃ sE, sE = s1 := ⟨_, rfl⟩
                    obtain ⟨eE, heE⟩ : ∃ eE : Int, eE = 0 := ⟨_, rfl⟩
                    have HRE : Hid (RefAt w3.heap.size ⟨f.name, (R : Int), aa, f.arrays.length, ac, some ⟨bb, off, none⟩, f.blocks.length, bc, sa, shared.length, sc, ia, inp.length, ic, mb, rg, cb, oa, oc, pa, pc, ra ++ ro⟩ shared wE uv (nE : Int) eE sE) := by show RefAt _ _ _ _ _ _ _ _; rw [← hE, hnE, hsE, heE, show (((n + 1 : Nat)) : Int) = (n : Int) + 1 by omega]; exact HRV.out.setSteps _
                    have HBE : Hid (Below w3.heap.size w3 wE) := by show Below _ _ _; rw [← hE]; exact HBWV.out.setCell HM.out.mb_ _
                    rw [← hnE, ← hsE, ← heE] at HR1
                    clear hnE hsE heE
                    obtain ⟨ua, uc, huv, hoc⟩ := HRE.out.oc (by have h1 : f.arrays.length + shared.length = _ := HRE.out.nlen; have := HML.out; omega)
                    subst huv
                    have HOC9 := Lib.hid hoc
                    have HRES9 := Lib.hid (K.out wE (below_then HB3.out HBE.out)).2.1
                    have q0 := cell_heap HRES9.out 0
                    have q1 := cell_heap HRES9.out 1
                    have q2 := cell_heap HRES9.out 2
                    have q3 := cell_heap HRES9.out 3
                    have q4 := cell_heap HRES9.out 4
                    have q5 := cell_heap HRES9.out 5
                    have z := frozen_heap HRES9.out
                    simp only [List.getElem?_toArray, List.getElem?_cons_zero, List.getElem?_cons_succ] at q0 q1 q2 q3 q4 q5
                    have m9 := HRE.out.cell 9
                    have m10 := HRE.out.cell 10
                    have m11 := HRE.out.cell 11
                    have m12 := HRE.out.cell 12
                    have m13 := HRE.out.cell 13
                    have m14 := HRE.out.cell 14
                    simp only [mCells, List.getElem?_toArray, List.getElem?_cons_zero, List.getElem?_cons_succ] at m9 m10 m11 m12 m13 m14
                    clear hoc
                    go_wp2_with fail
                    have HS6 := Lib.hid (six_set (v0 := .slice oa f.arrays.length oc) (v1 := .slice pa shared.length pc) (v2 := .slice ua sE.out.length uc) (v3 := .int .i64 sE.read) (v4 := .int .i64 nE) (v5 := .int .i64 eE) HRES9.out)
                    have HB6 := Lib.hid (six_below (v0 := .slice oa f.arrays.length oc) (v1 := .slice pa shared.length pc) (v2 := .slice ua sE.out.length uc) (v3 := .int .i64 sE.read) (v4 := .int .i64 nE) (v5 := .int .i64 eE) (b := w.heap.size + 1) (K.out wE (below_then HB3.out HBE.out)).2.2.1 (Nat.le_succ _))
                    have HO6 := Lib.hid (fun (k : Nat) (hk : k ≠ w.heap.size + 1) => six_other (w := wE) (v0 := .slice oa f.arrays.length oc) (v1 := .slice pa shared.length pc) (v2 := .slice ua sE.out.length uc) (v3 := .int .i64 sE.read) (v4 := .int .i64 nE) (v5 := .int .i64 eE) (b := w.heap.size + 1) hk)
                    generalize World.setCell _ _ _ = X at HS6 HB6 HO6 ⊢
                    have p0 := cell_heap HS6.out 0
                    have p1 := cell_heap HS6.out 1
                    have p2 := cell_heap HS6.out 2
                    have p3 := cell_heap HS6.out 3
                    have p4 := cell_heap HS6.out 4
                    have p5 := cell_heap HS6.out 5
                    simp only [List.getElem?_toArray, List.getElem?_cons_zero, List.getElem?_cons_succ] at p0 p1 p2 p3 p4 p5
                    have hX9 := HRE.out.above (w' := X) (fun k hk _ => HO6.out k (by have := HB3.out.size; have := HWS.out; omega))
                    obtain ⟨ua', uc', hu', hoc'⟩ := hX9.oc (by have h1 : f.arrays.length + shared.length = _ := HRE.out.nlen; have := HML.out; omega)
                    injection hu' with hu1 _ hu3
                    subst hu1
                    subst hu3
                    exact bodyPost_ret (v := .agg #[.slice oa f.arrays.length oc, .slice pa shared.length pc, .slice ua sE.out.length uc, .int .i64 sE.read, .int .i64 nE, .int .i64 eE]) (by simp [results, Try.results19, go_sem, p0, p1, p2, p3, p4, p5]) rfl ⟨_, rfl, by rw [HOCR.out _ _ _ HR1.out]; exact hoc', HB6.out⟩
                · have hk3' : (p.kind == 3) = false := by simpa using hk3
                  have HJ := Lib.hid (HE.out.jump HGF.out HP.out HQI.out hk3)
                  obtain ⟨X, hX⟩ : ∃ X : World, V.setCell ⟨mb, 13, none⟩ (.int .i64 ((n : Int) + 1)) = X := ⟨_, rfl⟩
                  have HRX : Hid (RefAt w3.heap.size ⟨f.name, (R : Int), aa, f.arrays.length, ac, some ⟨bb, off, none⟩, f.blocks.length, bc, sa, shared.length, sc, ia, inp.length, ic, mb, rg, cb, oa, oc, pa, pc, ra ++ ro⟩ shared X uv ((n + 1 : Nat) : Int) 0 s1) := by show RefAt _ _ _ _ _ _ _ _; rw [← hX, show (((n + 1 : Nat)) : Int) = (n : Int) + 1 by omega]; exact HRV.out.setSteps _
                  have HBX : Hid (Below w3.heap.size w3 X) := by show Below _ _ _; rw [← hX]; exact HBWV.out.setCell HM.out.mb_ _
                  have HLT : Hid (F - stepsAt mb X < F - stepsAt mb wr) := by
                    have h1 : stepsAt mb X = ((n + 1 : Nat) : Int).toNat := HRX.out.steps
                    show _ < _
                    rw [h1, HST.out]
                    have := HGF.out
                    omega
                  have e6 := HRV.out.cell 6
                  simp only [mCells, List.getElem?_toArray, List.getElem?_cons_zero, List.getElem?_cons_succ] at e6
                  have HL3 : Hid (s1.regs.length = R ∧ s1.read ≤ n + 1 ∧ s1.out.length ≤ n + 1) := ⟨HREG.out, by have := HRD.out; omega, by have := HOUT.out; omega⟩
                  rcases end_cases HEND.out with ⟨hk1, ht0, ht1⟩ | ⟨hk2, hx0, hx1, ht0, ht1, he0, he1⟩ | hk9
                  · have hk1' : (p.kind == 1) = true := by simp [hk1]
                    have HNX : Hid (Ends f.blocks (fnNames f shared) inp F (n + 1) p.to.toNat 0 s1 r) := by
                      have h9 := HJ.out
                      rwa [show p.next s1 = p.to.toNat by unfold Blk.next; rw [if_neg (by omega)]] at h9
                    clear hk1 hk3
                    go_wp2_with fail
                    clear hX
                    exact ⟨⟨n + 1, p.to.toNat, 0, uv, s1, by rw [Int.toNat_of_nonneg ht0], rfl, by omega, fun _ _ => Nat.zero_le _, HNX.out, HRX.out, HL3.out.1, HL3.out.2.1, HL3.out.2.2, HBX.out⟩, HLT.out⟩
                  · have hk1' : (p.kind == 1) = false := by simp [hk2]
                    obtain ⟨xn, hxn⟩ : ∃ xn : Nat, p.x = (xn : Int) := ⟨p.x.toNat, by omega⟩
                    have hxr : xn < s1.regs.length := by rw [HREG.out]; have := HRN.out; omega
                    have rx := HRV.out.reg hxr
                    have hx1' : (xn : Int) < (s1.regs.length : Int) := by omega
                    have hx0' : (0 : Int) ≤ (xn : Int) := by omega
                    rw [hxn] at v2
                    by_cases hz : s1.reg xn = 0
                    · have hz' : (s1.reg xn != 0) = false := by simp [hz]
                      have HNX : Hid (Ends f.blocks (fnNames f shared) inp F (n + 1) p.els.toNat 0 s1 r) := by
                        have h9 := HJ.out
                        rwa [show p.next s1 = p.els.toNat by unfold Blk.next; rw [if_pos ⟨hk2, by rw [hxn]; exact hz⟩]] at h9
                      clear hk2 hk3 hz hxn
                      go_wp2_with fail
                      clear hX
                      exact ⟨⟨n + 1, p.els.toNat, 0, uv, s1, by rw [Int.toNat_of_nonneg he0], rfl, by omega, fun _ _ => Nat.zero_le _, HNX.out, HRX.out, HL3.out.1, HL3.out.2.1, HL3.out.2.2, HBX.out⟩, HLT.out⟩
                    · have hz' : (s1.reg xn != 0) = true := by simpa using hz
                      have HNX : Hid (Ends f.blocks (fnNames f shared) inp F (n + 1) p.to.toNat 0 s1 r) := by
                        have h9 := HJ.out
                        rwa [show p.next s1 = p.to.toNat by unfold Blk.next; rw [if_neg (fun h => hz (by rw [← hxn]; exact h.2))]] at h9
                      clear hk2 hk3 hz hxn
                      go_wp2_with fail
                      clear hX
                      exact ⟨⟨n + 1, p.to.toNat, 0, uv, s1, by rw [Int.toNat_of_nonneg ht0], rfl, by omega, fun _ _ => Nat.zero_le _, HNX.out, HRX.out, HL3.out.1, HL3.out.2.1, HL3.out.2.2, HBX.out⟩, HLT.out⟩
                  · exact absurd hk9 hk3
end Go.Proofs.Ytjdfcpjlmfaaaaa
