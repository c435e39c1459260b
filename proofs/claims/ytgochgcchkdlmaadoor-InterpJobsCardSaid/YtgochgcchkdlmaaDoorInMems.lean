/-
  InMems: several texts in one (InClone, InFits, InFitP).
-/
import Derived.Test.YtgochgcchkdlmaaDoorPuts
import Derived.Test.YtgochgcchkdlmaaDoorMemSet
import Derived.Test.YtgochgcchkdlmaaDoorInBases
import Derived.Test.YtgochgcchkdlmaaDoorBases
import Derived.Lib.SliceRun
import Derived.OwnWalk
import Derived.Test.YtgochgcchkdlmaaDoorPrgTask
import Derived.Deep.QuietTactic
import Derived.BigQuiet
import Derived.Deep.RegionHeld
import Derived.OrdersHeld
import Derived.Test.YtgochgcchkdlmaaDoorChkPlains
/-
  Contracts: slices.Clone of words; copyLists (package interp): rows of the call's own.
-/
namespace Go.Proofs.YtgochgcchkdlmaaDoor
set_option linter.unusedVariables false
set_option linter.unusedSimpArgs false
open Go.RowKit
set_option maxRecDepth 100000
set_option maxHeartbeats 8000000

def i32s (l : List Int) : List Value := l.map (Value.int .i32)
theorem i32s_len (l : List Int) : (i32s l).length = l.length := by simp [i32s]
theorem i32s_one (l : List Int) : ∀ u ∈ i32s l, u.oneCell' = true := by
  intro u hu
  simp [i32s] at hu
  obtain ⟨x, _, rfl⟩ := hu
  rfl
theorem i32_info : (Tryd.prog.info? 21).map (fun i => (i.zero, i.size, i.bytes)) = some (some (.int .i32 0), 1, 4) := by kernel_rfl
theorem row_info : (Tryd.prog.info? 30).map (fun i => (i.zero, i.size, i.bytes)) = some (some (.slice none 0 0), 1, 24) := by kernel_rfl
theorem WordsAt.src {w : World} {a : Option Addr} {l : List Int} (h : WordsAt w a l) : Src w a l.length 1 (i32s l) := by
  refine ⟨by rw [i32s_len]; omega, ?_⟩
  rcases h.at_ with h0 | ⟨b, off, ha, hk⟩
  · exact .inl h0
  · refine .inr ⟨_, ha, fun j u hu => ?_⟩
    unfold i32s at hu
    rw [List.getElem?_map] at hu
    obtain ⟨x, hx, rfl⟩ := Option.map_eq_some_iff.1 hu
    have e : (⟨b, off, none⟩ : Addr).add j = ⟨b, off + j, none⟩ := by
      unfold Addr.add
      by_cases h0 : j = 0 <;> simp [h0]
    rw [e]
    exact hk j x hx
theorem own_words {N : Nat} {w : World} {a : Option Addr} {n c : Nat} {l : List Int} (h : w.ownsRow N 21 1 (.slice a n c) l.length (i32s l)) (hW : ∀ x ∈ l, Wd.W x) : n = l.length ∧ (a = none → c = 0) ∧ WordsAt w a l := by
  have hs := own_size h
  obtain ⟨a', c', e⟩ := own_val h
  injection e with _ e2 _
  subst e2
  refine ⟨rfl, fun ha => ?_, hs, hW, ?_⟩
  · rcases h.2 with ⟨e, _⟩ | ⟨g, cap, cur, e, _⟩
    · injection e with _ _ e3
    · rw [ha] at e
      injection e with e1
      cases e1
  · by_cases h0 : l.length = 0
    · exact .inl h0
    · obtain ⟨b, rfl, _, _⟩ := own_at h (by omega)
      refine .inr ⟨b, 0, rfl, fun k x hx => ?_⟩
      rw [Nat.zero_add]
      exact own_get h (by unfold i32s; rw [List.getElem?_map, hx]; rfl)
theorem clone32_any (l : List Int) (a : Option Addr) (c : Nat) (w : World) (h : WordsAt w a l) (h0 : a = none → c = 0) (hl : l.length ≤ 1000000) :
    Calls Tryd.prog 54 #[.slice a l.length c] w fun e w' => ∃ v, e = .returned v ∧ w'.ownsRow w.heap.size 21 1 v l.length (i32s l) ∧ Below w.heap.size w w' := by
  have hnil' := fun (w : World) (a : Option Addr) (n c : Nat) => Lib.run_eql_slice_nil (P := Tryd.prog) w 30 21 a n c 0 0 Tryd.underlying30
  cases a with
  | none =>
    obtain rfl : c = 0 := h0 rfl
    have hl0 : l.length = 0 := by
      rcases h.at_ with h1 | ⟨b, off, hb, _⟩
      · exact h1
      · cases hb
    have hnil : l = [] := List.length_eq_zero_iff.1 hl0
    subst hnil
    clear h h0 hl0 hl
    simp only [List.length_nil]
    go_enter Tryd.func54, Tryd.ntmps54
    go_wp2_with fail
    go_ret
    exact ⟨_, rfl, World.ownsRow_nil _ _ _ _, Below.refl _ _⟩
  | some ad =>
    obtain ⟨i0, hi, hz0, hz1, hz2⟩ := info_parts i32_info
    have HSRC := Lib.hid (h.below (mem_alloc w (.cells #[] 21))).src
    have HMADE : Hid ((w.alloc (.cells #[] 21)).ownsRow w.heap.size 21 1 (.slice (some ⟨w.heap.size, 0, none⟩) 0 0) 0 []) := World.ownsRow_made _ #[] 0 (Nat.le_refl _) (by unfold maxLen; omega) rfl
    clear h h0
    go_enter Tryd.func54, Tryd.ntmps54
    go_wp2_with (at_builtin; refine wpList_append_src _ rfl (.tmp 5) (.tmp 6) 30 rfl w.heap.size 21 i0 _ 1 4 Tryd.underlying30 hi hz0 hz1 hz2 rfl (by decide) (.slice (some ⟨w.heap.size, 0, none⟩) 0 0) 0 [] rfl HMADE.out (some ad) l.length c (i32s l) rfl HSRC.out (i32s_one l) (by unfold maxLen; omega) (by omega) (by simp) ?_)
    intro v2 w2 hown2 hgrow2 _
    have HO : Hid (w2.ownsRow w.heap.size 21 1 v2 l.length (i32s l)) := by show World.ownsRow _ _ _ _ _ _ _; simpa using hown2
    have HB : Hid (Below w.heap.size w w2) := (mem_alloc w _).grown hgrow2 (by simp) (fun k hk => by cases hk; exact Nat.le_refl _)
    clear hown2 hgrow2
    go_wp2_with fail
    go_ret
    exact ⟨_, rfl, HO.out, HB.out⟩
/-- rows of words, each of the call's own -/
structure LOwn (N : Nat) (w : World) (v : Value) (vs : List Value) (L : List (List Int)) : Prop where
  len : vs.length = L.length
  ro : w.ownsRow N 30 1 v L.length vs
  ri : ∀ (i : Nat) (r : List Int), L[i]? = some r → ∃ u, vs[i]? = some u ∧ w.ownsRow N 21 1 u r.length (i32s r)
  apart : ∀ (i j : Nat) (u u' : Value) (b : Nat), vs[i]? = some u → vs[j]? = some u' → u.ownBlock = some b → u'.ownBlock = some b → i = j
theorem LOwn.nil {N : Nat} {w : World} : LOwn N w (.slice none 0 0) [] [] := ⟨rfl, World.ownsRow_nil _ _ _ _, fun i r h => by simp at h, fun i j u u' b h => by simp at h⟩
theorem LOwn.keep {N : Nat} {w w' : World} {v : Value} {vs : List Value} {L : List (List Int)} (h : LOwn N w v vs L) (hB : Below w.heap.size w w') : LOwn N w' v vs L :=
  ⟨h.len, own_below h.ro hB, fun i r hr => by obtain ⟨u, h1, h2⟩ := h.ri i r hr; exact ⟨u, h1, own_below h2 hB⟩, h.apart⟩
theorem LOwn.down {N N' : Nat} {w : World} {v : Value} {vs : List Value} {L : List (List Int)} (h : LOwn N w v vs L) (hN : N' ≤ N) : LOwn N' w v vs L :=
  ⟨h.len, own_down h.ro hN, fun i r hr => by obtain ⟨u, h1, h2⟩ := h.ri i r hr; exact ⟨u, h1, own_down h2 hN⟩, h.apart⟩
theorem LOwn.ones {N : Nat} {w : World} {v : Value} {vs : List Value} {L : List (List Int)} (h : LOwn N w v vs L) : ∀ u ∈ vs, u.oneCell' = true := fun u hu => by
  obtain ⟨i, hi, rfl⟩ := List.mem_iff_getElem.1 hu
  have hl := h.len
  obtain ⟨u, h1, h2⟩ := h.ri i _ (List.getElem?_eq_getElem (show i < L.length by omega))
  rw [List.getElem?_eq_getElem hi] at h1
  cases h1
  obtain ⟨a, c, e⟩ := own_val h2
  rw [e]
  rfl
/-- a row more -/
theorem LOwn.push {N : Nat} {w V w2 : World} {v v2 u : Value} {vs : List Value} {L : List (List Int)} {r : List Int} (h : LOwn N w v vs L) (hB : Below w.heap.size w V) (hu : V.ownsRow w.heap.size 21 1 u r.length (i32s r)) (hN : N ≤ w.heap.size)
    (hg : V.grownBy w2 v.ownBlock) (ho : w2.ownsRow N 30 1 v2 (L.length + 1) (vs ++ [u])) : LOwn N w2 v2 (vs ++ [u]) (L ++ [r]) := by
  have hV := h.keep hB
  have keep : ∀ {M : Nat} {z : Value} {q : List Int}, V.ownsRow M 21 1 z q.length (i32s q) → w2.ownsRow M 21 1 z q.length (i32s q) := fun {M z q} hz => by
    refine own_keep hz (fun k hk hl => hg.block k hl (fun e => ?_))
    obtain ⟨a, c, rfl⟩ := own_val hz
    rcases hz.2 with ⟨e1, _⟩ | ⟨g', cap', cur, e1, _, hc, _⟩
    · rw [e1] at hk; cases hk
    · rw [e1] at hk
      have hk : g' = k := by injection hk
      subst hk
      exact own_other hV.ro hc (by decide) e.symm
  have old : ∀ {i : Nat} {z : Value} {b : Nat}, vs[i]? = some z → z.ownBlock = some b → b < w.heap.size := fun {i z b} hz hb => by
    have hi := (List.getElem?_eq_some_iff.1 hz).1
    obtain ⟨u', h1, h2⟩ := h.ri i _ (List.getElem?_eq_getElem (show i < L.length by have := h.len; omega))
    rw [hz] at h1
    cases h1
    exact (own_lt h2 hb).2
  refine ⟨by simp [h.len], by rw [List.length_append]; exact ho, fun i q hq => ?_, fun i j z z' b hi hj hz hz' => ?_⟩
  · by_cases hlt : i < L.length
    · rw [List.getElem?_append_left hlt] at hq
      obtain ⟨u', h1, h2⟩ := hV.ri i q hq
      exact ⟨u', by rw [List.getElem?_append_left (by have := h.len; omega)]; exact h1, keep h2⟩
    · have hi : i = L.length := by have := (List.getElem?_eq_some_iff.1 hq).1; simp at this; omega
      subst hi
      rw [List.getElem?_append_right (Nat.le_refl _), Nat.sub_self] at hq
      have hq : r = q := by simpa using hq
      subst hq
      refine ⟨u, ?_, own_down (keep hu) hN⟩
      rw [← h.len, List.getElem?_append_right (Nat.le_refl _), Nat.sub_self]
      rfl
  · have hnew : ∀ {k : Nat} {z : Value}, (vs ++ [u])[k]? = some z → (k < vs.length ∧ vs[k]? = some z) ∨ (k = vs.length ∧ z = u) := fun {k z} hk => by
      by_cases hlt : k < vs.length
      · rw [List.getElem?_append_left hlt] at hk; exact .inl ⟨hlt, hk⟩
      · have e : k = vs.length := by have := (List.getElem?_eq_some_iff.1 hk).1; simp at this; omega
        subst e
        rw [List.getElem?_append_right (Nat.le_refl _), Nat.sub_self] at hk
        exact .inr ⟨rfl, by simpa using hk.symm⟩
    rcases hnew hi with ⟨_, hi'⟩ | ⟨ei, ez⟩
    · rcases hnew hj with ⟨_, hj'⟩ | ⟨ej, ez'⟩
      · exact h.apart i j z z' b hi' hj' hz hz'
      · have h1 := old hi' hz
        rw [ez'] at hz'
        have h2 := (own_lt hu hz').1
        omega
    · rcases hnew hj with ⟨_, hj'⟩ | ⟨ej, ez'⟩
      · have h1 := old hj' hz'
        rw [ez] at hz
        have h2 := (own_lt hu hz).1
        omega
      · omega
theorem src_new {w : World} {b n size : Nat} {cs : List Value} {e : TypeId} (h : w.heap[b]? = some (.cells cs.toArray e)) (hl : cs.length = n * size) : Src w (some ⟨b, 0, none⟩) n size cs :=
  ⟨hl, .inr ⟨_, rfl, fun j u hu => by
    have e1 : (⟨b, 0, none⟩ : Addr).add j = ⟨b, j, none⟩ := by
      unfold Addr.add
      by_cases h0 : j = 0 <;> simp [h0]
    rw [e1, mem_cell h]
    simpa using hu⟩⟩
theorem copyLists_any (L : List (List Int)) (a : Option Addr) (c : Nat) (w : World) (h : ContAt w a L) (hl : L.length ≤ 1000000) (hr : ∀ r ∈ L, r.length ≤ 1000000) :
    Calls Tryd.prog 34 #[.slice a L.length c] w fun e w' => ∃ v vs, e = .returned v ∧ LOwn w.heap.size w' v vs L ∧ Below w.heap.size w w' := by
  obtain ⟨i0, hi, hz0, hz1, hz2⟩ := info_parts row_info
  have H := Lib.hid h
  have HR := Lib.hid hr
  clear h hr
  go_enter Tryd.func34, Tryd.ntmps34
  go_wp2_with fail
  go_loopw [3, 8] (fun v iv wr => ∃ (j : Nat) (vs : List Value), j ≤ L.length ∧ iv = .int .i64 (j : Int) ∧ LOwn w.heap.size wr v vs (L.take j) ∧ Below w.heap.size w wr) (fun _ iv _ => L.length - (intOf iv).toNat)
  case atStart => exact ⟨0, [], Nat.zero_le _, rfl, by rw [List.take_zero]; exact LOwn.nil, Below.refl _ _⟩
  case round =>
    obtain ⟨j, vs, hj, rfl, hown, hB⟩ := hrel
    have HOWN := Lib.hid hown
    have HB := Lib.hid hB
    have hj0 : (0 : Int) ≤ (j : Int) := by omega
    obtain ⟨va, vc, rfl⟩ := own_val hown.ro
    clear hown hB
    by_cases hlt : j < L.length
    · have hlt2 : (j : Int) < (L.length : Int) := by omega
      obtain ⟨r, hr⟩ : ∃ r, L[j]? = some r := ⟨_, List.getElem?_eq_getElem hlt⟩
      obtain ⟨b, off, rfl, ra, rc, hcell, hra, hw⟩ := (H.out.below HB.out).row hr
      have hrl : r.length ≤ 1000000 := HR.out r (List.mem_of_getElem? hr)
      have hbl := World.block_lt_of_cell? _ _ hcell
      have H9 := Lib.hid (clone32_any r ra rc wr hw hra hrl)
      have HRJ := Lib.hid hr
      have htl : (L.take j).length = j := by rw [List.length_take]; omega
      have HTL := Lib.hid htl
      rw [htl]
      have HTAKE : Hid (L.take (j + 1) = L.take j ++ [r]) := by show _ = _; rw [List.take_add_one, hr]; rfl
      clear hr hra hw htl
      go_wp2_with fail
      clear hcell
      refine H9.out.mono ?_
      rintro e w2 ⟨u, rfl, hu, hB2⟩
      obtain ⟨ua, uc, rfl⟩ := own_val hu
      have HU := Lib.hid hu
      have HB2 := Lib.hid hB2
      clear hu hB2 H9
      have HNEW : Hid ((w2.alloc (.cells #[.slice ua r.length uc] 30)).heap[w2.heap.size]? = some (.cells #[.slice ua r.length uc] 30)) := mem_new _ _
      have HB3 : Hid (Below wr.heap.size wr (w2.alloc (.cells #[.slice ua r.length uc] 30))) := mem_then HB2.out (mem_alloc _ _)
      have HRO : Hid ((w2.alloc (.cells #[.slice ua r.length uc] 30)).ownsRow w.heap.size 30 1 (.slice va j vc) j vs) := by
        have h1 := own_below HOWN.out.ro HB3.out
        rw [HTL.out] at h1
        exact h1
      go_wp2_with (at_builtin; refine wpList_append_src _ rfl (.tmp 12) (.tmp 15) 27 rfl w.heap.size 30 i0 _ 1 24 Tryd.underlying27 hi hz0 hz1 hz2 rfl (by decide) (.slice va j vc) j vs rfl HRO.out (some ⟨w2.heap.size, 0, none⟩) 1 1 [.slice ua r.length uc] rfl (src_new HNEW.out rfl) (by simp [Value.oneCell']) (by unfold maxLen; omega) (by omega) (Nat.le_trans HB.out.size HB3.out.size) ?_)
      intro v9 w9 hown9 hgrow9 _
      have HL9 : Hid (LOwn w.heap.size w9 v9 (vs ++ [.slice ua r.length uc]) (L.take (j + 1))) := by
        show LOwn _ _ _ _ _
        rw [HTAKE.out]
        refine HOWN.out.push HB3.out (own_below HU.out (mem_alloc _ _)) HB.out.size ?_ ?_
        · rw [HTL.out]; exact hgrow9
        · rw [HTL.out]; exact hown9
      have HB9 : Hid (Below w.heap.size w w9) := (mem_then HB.out HB3.out).grown hgrow9 (mem_then HB.out HB3.out).size (fun b hb => (own_lt HRO.out hb).1)
      clear hown9 hgrow9
      go_wp2_with fail
      go_roundw
      case rel => exact ⟨j + 1, _, by omega, by go_num, HL9.out, HB9.out⟩
      case measure => simp [intOf]; omega
    · obtain rfl : j = L.length := by omega
      have HO : Hid (LOwn w.heap.size wr (.slice va (L.take L.length).length vc) vs L) := by
        have h1 := HOWN.out
        show LOwn _ _ _ _ _
        rw [List.take_length] at h1 ⊢
        exact h1
      go_wp2_with fail
      go_ret
      exact ⟨_, vs, rfl, HO.out, HB.out⟩
end Go.Proofs.YtgochgcchkdlmaaDoor

/-
  Contracts: match and Fits (package interp).
-/
namespace Go.Proofs.YtgochgcchkdlmaaDoor
set_option linter.unusedVariables false
set_option linter.unusedSimpArgs false
open Go.RowKit
set_option maxRecDepth 100000
set_option maxHeartbeats 8000000

/-- whether lists have the declared lengths -/
def matchP : List Arr → List (List Int) → Bool
  | [], [] => true
  | x :: D, r :: L => (x.len == (r.length : Int)) && matchP D L
  | _, _ => false
theorem matchP_len {D : List Arr} : ∀ {L : List (List Int)}, ¬ D.length = L.length → matchP D L = false := by
  induction D with
  | nil => intro L h; cases L with | nil => exact absurd rfl h | cons _ _ => rfl
  | cons x D ih =>
    intro L h
    cases L with
    | nil => rfl
    | cons r L => show (_ && _) = _; rw [ih (fun e => h (by simp [e])), Bool.and_false]
theorem matchP_drop {D : List Arr} {L : List (List Int)} {j : Nat} {r : List Int} (h1 : j < D.length) (h2 : L[j]? = some r) : matchP (D.drop j) (L.drop j) = (((D.getD j Arr.none).len == (r.length : Int)) && matchP (D.drop (j + 1)) (L.drop (j + 1))) := by
  obtain ⟨hk', rfl⟩ := List.getElem?_eq_some_iff.1 h2
  rw [List.drop_eq_getElem_cons h1, List.drop_eq_getElem_cons hk', List.getD_eq_getElem?_getD, List.getElem?_eq_getElem h1]
  rfl
theorem matchP_end {D : List Arr} {L : List (List Int)} (h : D.length = L.length) : matchP (D.drop D.length) (L.drop D.length) = true := by
  rw [List.drop_length, h, List.drop_length]; rfl
theorem match16_any (D : List Arr) (L : List (List Int)) (a b : Option Addr) (c d : Nat) (w : World) (hl : ArrsAt w a D) (hm : ContAt w b L) :
    Calls Tryd.prog 45 #[.slice a D.length c, .slice b L.length d] w fun e w' => e = .returned (.bool (matchP D L)) ∧ Below w.heap.size w w' := by
  have HL := Lib.hid hl
  have HM := Lib.hid hm
  have hlf := hl.1
  have hmf := hm.fits
  clear hl hm
  by_cases hlen : D.length = L.length
  · have q0 : ((D.length : Int) != (L.length : Int)) = false := by simp [hlen]
    have HLEN := Lib.hid hlen
    clear hlen
    go_enter Tryd.func45, Tryd.ntmps45
    go_wp2_with fail
    go_loopw [14] (fun i wr => ∃ j : Nat, j ≤ D.length ∧ i = .int .i64 j ∧ matchP (D.drop j) (L.drop j) = matchP D L ∧ Below w.heap.size w wr) (fun i _ => D.length - (intOf i).toNat)
    case atStart => exact ⟨0, Nat.zero_le _, rfl, rfl, Below.refl _ _⟩
    case round =>
      obtain ⟨j, hj, rfl, hd, hB⟩ := hrel
      have HD := Lib.hid hd
      have HB := Lib.hid hB
      have hk0 : (0 : Int) ≤ (j : Int) := by omega
      clear hd hB
      by_cases hlt : j < D.length
      · have hlt2 : (j : Int) < (D.length : Int) := by omega
        have hlt3 : (j : Int) < (L.length : Int) := by have := HLEN.out; omega
        have hlt4 : j < L.length := by have := HLEN.out; omega
        obtain ⟨r, hr⟩ : ∃ r, L[j]? = some r := ⟨_, List.getElem?_eq_getElem hlt4⟩
        obtain ⟨b1, o1, rfl, hx⟩ := HL.out.2 j hlt
        obtain ⟨x, hxe⟩ : ∃ x, D.getD j Arr.none = x := ⟨_, rfl⟩
        rw [hxe] at hx
        obtain ⟨b2, o2, rfl, ra, rc, hcell, _, hw⟩ := (HM.out.below HB.out).row hr
        have hrf := hw.fits
        have HDR : Hid (matchP (D.drop j) (L.drop j) = ((x.len == (r.length : Int)) && matchP (D.drop (j + 1)) (L.drop (j + 1)))) := by show _ = _; rw [matchP_drop hlt hr, hxe]
        have x0 := cell_stay HB.out hx.1
        have x1 := cell_stay HB.out hx.2.1
        have hb1 := World.block_lt_of_cell? _ _ x0
        have hb2 := World.block_lt_of_cell? _ _ hcell
        obtain ⟨V, hV⟩ : ∃ V : World, wr.alloc (.cells #[.string x.name, .int .i64 x.len] 88) = V := ⟨_, rfl⟩
        have HBV : Hid (Below wr.heap.size wr V) := by show Below _ _ _; rw [← hV]; exact mem_alloc _ _
        have hXV : V.heap[wr.heap.size]? = some (.cells #[.string x.name, .int .i64 x.len] 88) := by rw [← hV]; exact mem_new _ _
        have v1 := mem_cell hXV 1
        simp only [List.getElem?_toArray, List.getElem?_cons_zero, List.getElem?_cons_succ] at v1
        have y0 := cell_stay HBV.out hcell
        have hbV : b2 < V.heap.size := World.block_lt_of_cell? _ _ y0
        clear hr hx hxe hw hXV
        go_wp2_with fail
        clear hV x0 x1 hcell
        go_quiet (fail)
        generalize hwq : World.drewN V _ = wq
        have HQ : Hid (Below wr.heap.size wr wq) := mem_then HBV.out (mem_drawn (Below.refl _ _) hwq)
        clear hwq y0 v1
        by_cases he : x.len = (r.length : Int)
        · have hb : ((r.length : Int) != x.len) = false := by simp [he]
          have HN : Hid (matchP (D.drop (j + 1)) (L.drop (j + 1)) = matchP D L) := by
            show _ = _; rw [← HD.out, HDR.out]; simp [he]
          clear he
          go_wp2_with fail
          go_roundw
          case rel => exact ⟨j + 1, by omega, by go_num, HN.out, mem_then HB.out HQ.out⟩
          case measure => simp [intOf]; omega
        · have hb : ((r.length : Int) != x.len) = true := by simp; omega
          have HN : Hid (matchP D L = false) := by
            have hz : (x.len == (r.length : Int)) = false := by simpa using he
            show _ = _; rw [← HD.out, HDR.out, hz, Bool.false_and]
          clear he
          go_wp2_with fail
          go_ret
          exact ⟨by rw [HN.out]; rfl, mem_then HB.out HQ.out⟩
      · obtain rfl : j = D.length := by omega
        have HN : Hid (matchP D L = true) := by show _ = _; rw [← HD.out]; exact matchP_end HLEN.out
        go_wp2_with fail
        go_ret
        exact ⟨by rw [HN.out]; rfl, HB.out⟩
  · have q0 : ((D.length : Int) != (L.length : Int)) = true := by simp; omega
    have HN := Lib.hid (matchP_len hlen)
    clear hlen
    go_enter Tryd.func45, Tryd.ntmps45
    go_wp2_with fail
    go_ret
    exact ⟨by rw [HN.out]; rfl, Below.refl _ _⟩
/-- a memory -/
structure Mem where
  arrays : List (List (List Int))
  shared : List (List Int)
abbrev Mem.val (M : Mem) (aa : Option Addr) (ac : Nat) (sa : Option Addr) (sc : Nat) : Value := .agg #[.slice aa M.arrays.length ac, .slice sa M.shared.length sc]
abbrev memObj (M : Mem) (aa : Option Addr) (ac : Nat) (sa : Option Addr) (sc : Nat) : Obj := .cells #[.slice aa M.arrays.length ac, .slice sa M.shared.length sc] 29
def MemAt (w : World) (M : Mem) (aa sa : Option Addr) : Prop := Cont3At w aa M.arrays ∧ ContAt w sa M.shared
theorem MemAt.below {w w' : World} {M : Mem} {aa sa : Option Addr} (h : MemAt w M aa sa) (hb : Below w.heap.size w w') : MemAt w' M aa sa := ⟨h.1.below hb, h.2.below hb⟩
def fitsAll : List Tsk → List (List (List Int)) → Bool
  | [], [] => true
  | t :: T, r :: R => matchP t.arrays r && fitsAll T R
  | _, _ => false
theorem fitsAll_drop {D : List Tsk} {L : List (List (List Int))} {j : Nat} {r : List (List Int)} (h1 : j < D.length) (h2 : L[j]? = some r) : fitsAll (D.drop j) (L.drop j) = (matchP (D.getD j Tsk.none).arrays r && fitsAll (D.drop (j + 1)) (L.drop (j + 1))) := by
  obtain ⟨hk', rfl⟩ := List.getElem?_eq_some_iff.1 h2
  rw [List.drop_eq_getElem_cons h1, List.drop_eq_getElem_cons hk', List.getD_eq_getElem?_getD, List.getElem?_eq_getElem h1]
  rfl
theorem fitsAll_end {D : List Tsk} {L : List (List (List Int))} (h : D.length = L.length) : fitsAll (D.drop D.length) (L.drop D.length) = true := by
  rw [List.drop_length, h, List.drop_length]; rfl
/-- whether a memory fits a program -/
def fitsP (p : Prg) (M : Mem) : Bool := prgOk p && (decide (M.arrays.length = p.tasks.length) && (fitsAll p.tasks M.arrays && matchP p.shared M.shared))
theorem fits16_any (p : Prg) (M : Mem) (w : World) (sa ta : Option Addr) (sc tc : Nat) (ma ms : Option Addr) (mac msc : Nat) (hp : PrgAt w p sa ta) (hm : MemAt w M ma ms) (hg : SignsIn w) :
    Calls Tryd.prog 23 #[p.val sa sc ta tc, M.val ma mac ms msc] w fun e w' => e = .returned (.bool (fitsP p M)) ∧ Below w.heap.size w w' := by
  have hsl := hp.1.1
  have htl := hp.2.1
  have hml := hm.1.fits
  have hmsl := hm.2.fits
  obtain ⟨W, hW⟩ : ∃ W : World, w.alloc (prgObj p sa sc ta tc) = W := ⟨_, rfl⟩
  have hBW : Below w.heap.size w W := by rw [← hW]; exact mem_alloc _ _
  have hXW : W.heap[w.heap.size]? = some (prgObj p sa sc ta tc) := by rw [← hW]; exact mem_new _ _
  obtain ⟨W2, hW2⟩ : ∃ W2 : World, W.alloc (memObj M ma mac ms msc) = W2 := ⟨_, rfl⟩
  have hBW2 : Below W.heap.size W W2 := by rw [← hW2]; exact mem_alloc _ _
  have hXW2 : W2.heap[W.heap.size]? = some (memObj M ma mac ms msc) := by rw [← hW2]; exact mem_new _ _
  have HB2 : Hid (Below w.heap.size w W2) := mem_then hBW hBW2
  have HK : Hid (∀ w', Below W2.heap.size W2 w' → (w'.cell? ⟨w.heap.size, 0, none⟩ = some (.slice sa p.shared.length sc) ∧ w'.cell? ⟨w.heap.size, 1, none⟩ = some (.slice ta p.tasks.length tc)) ∧ (w'.cell? ⟨W.heap.size, 0, none⟩ = some (.slice ma M.arrays.length mac) ∧ w'.cell? ⟨W.heap.size, 1, none⟩ = some (.slice ms M.shared.length msc)) ∧ PrgAt w' p sa ta ∧ MemAt w' M ma ms ∧ Below w.heap.size w w') := fun w' hw => by
    have hb := mem_then HB2.out hw
    have h1 := mem_keep (mem_keep hXW hBW2) hw
    have h2 := mem_keep hXW2 hw
    exact ⟨⟨mem_cell h1 0, mem_cell h1 1⟩, ⟨mem_cell h2 0, mem_cell h2 1⟩, hp.below hb, hm.below hb, hb⟩
  obtain ⟨⟨x0, x1⟩, ⟨y0, y1⟩, hp2, hm2, _⟩ := HK.out W2 (Below.refl _ _)
  have HV := Lib.hid (valid_any p W2 sa ta sc tc hp2 (hg.below HB2.out))
  clear hp hm hg hBW hXW hBW2 hXW2 hp2 hm2
  go_enter Tryd.func23, Tryd.ntmps23
  go_wp2_with fail
  clear hW hW2 x0 x1 y0 y1
  refine HV.out.mono ?_
  rintro e w1 ⟨rfl, hB1⟩
  have HB1 := Lib.hid hB1
  clear HV hB1
  cases hok : prgOk p with
  | false =>
    have HN : Hid (fitsP p M = false) := by show _ = _; unfold fitsP; rw [hok]; rfl
    clear hok
    go_wp2_with fail
    go_ret
    exact ⟨by rw [HN.out]; rfl, (HK.out _ HB1.out).2.2.2.2⟩
  | true =>
  have HOK := Lib.hid hok
  clear hok
  obtain ⟨⟨x0, x1⟩, ⟨y0, y1⟩, _, _, _⟩ := HK.out w1 HB1.out
  by_cases hlen : M.arrays.length = p.tasks.length
  · have hlb : ((M.arrays.length : Int) != (p.tasks.length : Int)) = false := by simp [hlen]
    have HLEN := Lib.hid hlen
    clear hlen
    go_wp2_with fail
    clear x0 x1 y0 y1
    go_loopw [22] (fun i wr => ∃ j : Nat, j ≤ p.tasks.length ∧ i = .int .i64 j ∧ fitsAll (p.tasks.drop j) (M.arrays.drop j) = fitsAll p.tasks M.arrays ∧ Below W2.heap.size W2 wr) (fun i _ => p.tasks.length - (intOf i).toNat)
    case atStart => exact ⟨0, Nat.zero_le _, rfl, rfl, HB1.out⟩
    case round =>
      obtain ⟨j, hj, rfl, hd, hB⟩ := hrel
      have HD := Lib.hid hd
      have HB := Lib.hid hB
      have hk0 : (0 : Int) ≤ (j : Int) := by omega
      clear hd hB
      by_cases hlt : j < p.tasks.length
      · have hlt2 : (j : Int) < (p.tasks.length : Int) := by omega
        have hlt3 : (j : Int) < (M.arrays.length : Int) := by have := HLEN.out; omega
        have hlt4 : j < M.arrays.length := by have := HLEN.out; omega
        obtain ⟨r, hr⟩ : ∃ r, M.arrays[j]? = some r := ⟨_, List.getElem?_eq_getElem hlt4⟩
        obtain ⟨_, _, hpr, hmr, _⟩ := HK.out wr HB.out
        obtain ⟨tb, tf, q, rfl, hc, hin⟩ := hpr.2.2 j hlt
        obtain ⟨t, ht⟩ : ∃ t, p.tasks.getD j Tsk.none = t := ⟨_, rfl⟩
        rw [ht] at hc hin
        obtain ⟨⟨g0, g1, g2, g3, g4, g5, g6, g7⟩, hbl⟩ := tsk_cells (Below.refl _ _) hc
        obtain ⟨b2, o2, rfl, ra, rc, hcell, _, hw⟩ := hmr.1.row hr
        have hrf := hw.fits
        have HDR : Hid (fitsAll (p.tasks.drop j) (M.arrays.drop j) = (matchP t.arrays r && fitsAll (p.tasks.drop (j + 1)) (M.arrays.drop (j + 1)))) := by show _ = _; rw [fitsAll_drop hlt hr, ht]
        obtain ⟨V, hV⟩ : ∃ V : World, wr.alloc (tskObj t q) = V := ⟨_, rfl⟩
        have hBV : Below wr.heap.size wr V := by rw [← hV]; exact mem_alloc _ _
        have HBV : Hid (Below W2.heap.size W2 V) := mem_then HB.out hBV
        have HXV : Hid (V.heap[wr.heap.size]? = some (tskObj t q)) := by show _ = _; rw [← hV]; exact mem_new _ _
        have HC := Lib.hid (cell_stay hBV hcell)
        have HIN := Lib.hid (hin.arrays.below hBV)
        have HWR := Lib.hid (hw.below hBV)
        have hal := hin.arrays.1
        clear hr ht hc hin hcell hw hpr hmr hBV
        go_wp2_with fail
        clear hV g0 g1 g2 g3 g4 g5 g6 g7
        have hD0 : Below V.heap.size V (World.drew V) := (Below.refl _ _).drew
        refine wp_region_held_drew (S := fun w' => Below V.heap.size V w') (by kernel_rfl) hD0 (fun hHeld => ?_)
        generalize hwd : World.drew V = v1 at hHeld hD0 ⊢
        clear hwd hD0
        refine hT 0 (.pointer (some ⟨wr.heap.size, 3, none⟩)) rfl (hy := ?_) (h := ?_)
        · intro w' hSw; go_simp
        (try simp only [Act.put, pA, pB, pD, pE, pF])
        refine hT 1 (.slice q.aa t.arrays.length q.ac) rfl (hy := ?_) (h := ?_)
        · intro w' hSw; have z0 := mem_cell (mem_keep HXV.out hSw) 3; simp only [List.getElem?_toArray, List.getElem?_cons_zero, List.getElem?_cons_succ] at z0; go_simp
        (try simp only [Act.put, pA, pB, pC, pD, pE, pF])
        refine hT 2 (.pointer (some ⟨W.heap.size, 0, none⟩)) rfl (hy := ?_) (h := ?_)
        · intro w' hSw; go_simp
        (try simp only [Act.put, pA, pB, pC, pD, pE, pF])
        refine hT 3 (.slice (some ⟨b2, o2, none⟩) M.arrays.length mac) rfl (hy := ?_) (h := ?_)
        · intro w' hSw; have z0 := (HK.out _ (mem_then HBV.out hSw)).2.1.1; go_simp
        (try simp only [Act.put, pA, pB, pC, pD, pE, pF])
        refine hT 4 (.int .i64 (j : Int)) rfl (hy := ?_) (h := ?_)
        · intro w' hSw; go_simp
        (try simp only [Act.put, pA, pB, pC, pD, pE, pF])
        refine hT 5 (.pointer (some ⟨b2, o2 + j, none⟩)) rfl (hy := ?_) (h := ?_)
        · intro w' hSw; go_simp
        (try simp only [Act.put, pA, pB, pC, pD, pE, pF])
        refine hT 6 (.slice ra r.length rc) rfl (hy := ?_) (h := ?_)
        · intro w' hSw; have z0 := cell_stay hSw HC.out; go_simp
        (try simp only [Act.put, pA, pB, pC, pD, pE, pF])
        have h9 := match16_any t.arrays r q.aa ra q.ac rc v1 (HIN.out.below hHeld) (HWR.out.below hHeld)
        have H9 := Lib.hid h9
        have HB3 := Lib.hid hHeld
        clear h9
        refine hR 7 rfl (fun K hK => ?_)
        go_simp
        refine H9.out.mono ?_
        rintro e w3 ⟨rfl, hB3⟩
        have HB4 := Lib.hid (mem_then HB3.out hB3)
        clear H9 hB3
        refine hK.out _ _ (HB4.out) (fun hHeld => ?_)
        clear hK K
        rename_i hOld
        clear hOld
        (try simp only [Act.put, pA, pB, pC, pD, pE, pF])
        cases hm : matchP t.arrays r with
        | false =>
          have HN : Hid (fitsP p M = false) := by
            show _ = _; unfold fitsP; rw [← HD.out, HDR.out, hm]; simp
          clear hm
          refine hT 8 (.bool true) rfl (hy := ?_) (h := ?_)
          · intro w' hSw; go_simp
          (try simp only [Act.put, pA, pB, pC, pD, pE, pF])
          refine wpAnyH_done (by kernel_rfl) ?_ _
          go_wp2_with fail
          go_ret
          exact ⟨by rw [HN.out]; rfl, (HK.out _ (mem_then HBV.out HB4.out)).2.2.2.2⟩
        | true =>
          have HN : Hid (fitsAll (p.tasks.drop (j + 1)) (M.arrays.drop (j + 1)) = fitsAll p.tasks M.arrays) := by
            show _ = _; rw [← HD.out, HDR.out, hm, Bool.true_and]
          clear hm
          refine hT 8 (.bool false) rfl (hy := ?_) (h := ?_)
          · intro w' hSw; go_simp
          (try simp only [Act.put, pA, pB, pC, pD, pE, pF])
          refine wpAnyH_done (by kernel_rfl) ?_ _
          go_wp2_with fail
          go_roundw
          case rel => exact ⟨j + 1, by omega, by go_num, HN.out, mem_then HBV.out HB4.out⟩
          case measure => simp [intOf]; omega
      · obtain rfl : j = p.tasks.length := by omega
        have HFA : Hid (fitsAll p.tasks M.arrays = true) := by show _ = _; rw [← HD.out]; exact fitsAll_end HLEN.out.symm
        obtain ⟨⟨x0, x1⟩, ⟨y0, y1⟩, hpr, hmr, _⟩ := HK.out wr HB.out
        have H9 := Lib.hid (match16_any p.shared M.shared sa ms sc msc wr hpr.1 hmr.2)
        have HE : Hid (fitsP p M = matchP p.shared M.shared) := by show _ = _; unfold fitsP; rw [HOK.out, HFA.out, HLEN.out]; simp
        clear hpr hmr
        go_wp2_with fail
        clear x0 x1 y0 y1
        refine H9.out.mono ?_
        rintro e w3 ⟨rfl, hB3⟩
        have HB4 := Lib.hid (mem_then HB.out hB3)
        clear H9 hB3
        go_wp2_with fail
        go_ret
        exact ⟨by rw [HE.out]; rfl, (HK.out _ HB4.out).2.2.2.2⟩
  · have hlb : ((M.arrays.length : Int) != (p.tasks.length : Int)) = true := by simp; omega
    have HN : Hid (fitsP p M = false) := by show _ = _; unfold fitsP; rw [decide_eq_false hlen]; simp
    clear hlen
    go_wp2_with fail
    go_ret
    exact ⟨by rw [HN.out]; rfl, (HK.out _ HB1.out).2.2.2.2⟩
end Go.Proofs.YtgochgcchkdlmaaDoor

/-
  What fits, plainly: how many lists, how long; names are declared once. No program's function is walked here.
-/
namespace Go.Proofs.YtgochgcchkdlmaaDoor
set_option linter.unusedVariables false
set_option linter.unusedSimpArgs false
open Go.RowKit
set_option maxRecDepth 100000

theorem matchP_parts {D : List Arr} : ∀ {L : List (List Int)}, matchP D L = true → D.length = L.length ∧ ∀ (k : Nat) (r : List Int), L[k]? = some r → ∃ x, D[k]? = some x ∧ x.len = (r.length : Int) := by
  induction D with
  | nil => intro L h; cases L with
    | nil => exact ⟨rfl, fun k r hr => by simp at hr⟩
    | cons _ _ => cases h
  | cons x D ih =>
    intro L h
    cases L with
    | nil => cases h
    | cons r L =>
      have h : ((x.len == (r.length : Int)) && matchP D L) = true := h
      rw [Bool.and_eq_true] at h
      obtain ⟨h1, h2⟩ := ih h.2
      refine ⟨by simp [h1], fun k s hs => ?_⟩
      cases k with
      | zero =>
        have hs : r = s := by simpa using hs
        subst hs
        exact ⟨x, rfl, by simpa using h.1⟩
      | succ k => exact h2 k s (by simpa using hs)
theorem fitsAll_parts {T : List Tsk} : ∀ {R : List (List (List Int))}, fitsAll T R = true → T.length = R.length ∧ ∀ (k : Nat) (r : List (List Int)), R[k]? = some r → ∃ t, T[k]? = some t ∧ matchP t.arrays r = true := by
  induction T with
  | nil => intro L h; cases L with
    | nil => exact ⟨rfl, fun k r hr => by simp at hr⟩
    | cons _ _ => cases h
  | cons x D ih =>
    intro L h
    cases L with
    | nil => cases h
    | cons r L =>
      have h : (matchP x.arrays r && fitsAll D L) = true := h
      rw [Bool.and_eq_true] at h
      obtain ⟨h1, h2⟩ := ih h.2
      refine ⟨by simp [h1], fun k s hs => ?_⟩
      cases k with
      | zero =>
        have hs : r = s := by simpa using hs
        subst hs
        exact ⟨x, rfl, h.1⟩
      | succ k => exact h2 k s (by simpa using hs)
theorem arrOk_le {x : Arr} (h : arrOk x = true) : 1 ≤ x.len ∧ x.len ≤ 32 := by
  unfold arrOk at h
  simp only [Bool.and_eq_true, decide_eq_true_eq] at h
  exact ⟨h.1.2, h.2⟩
theorem tskOk_arrs {t : Tsk} (h : tskOk t = true) : t.arrays.length ≤ 4 ∧ ∀ x ∈ t.arrays, arrOk x = true := by
  unfold tskOk at h
  simp only [Bool.and_eq_true, decide_eq_true_eq, List.all_eq_true] at h
  exact ⟨h.2.2.2.2.1, h.2.2.2.2.2.1⟩
theorem tskOk_body {t : Tsk} (h : tskOk t = true) : t.body.vld 98 = true := by
  unfold tskOk at h
  simp only [Bool.and_eq_true] at h
  exact h.2.2.2.2.2.2.2.2.2
theorem prgOk_shared {p : Prg} (h : prgOk p = true) : p.shared.length ≤ 4 ∧ ∀ x ∈ p.shared, arrOk x = true := by
  unfold prgOk at h
  simp only [Bool.and_eq_true, decide_eq_true_eq, List.all_eq_true] at h
  exact ⟨h.1, h.2.2.1⟩
theorem match_small {D : List Arr} {L : List (List Int)} (h : matchP D L = true) (hD : D.length ≤ 4 ∧ ∀ x ∈ D, arrOk x = true) : L.length ≤ 4 ∧ ∀ r ∈ L, 1 ≤ r.length ∧ r.length ≤ 32 := by
  obtain ⟨h1, h2⟩ := matchP_parts h
  refine ⟨by omega, fun r hr => ?_⟩
  obtain ⟨k, hk, rfl⟩ := List.mem_iff_getElem.1 hr
  obtain ⟨x, e1, e2⟩ := h2 k _ (List.getElem?_eq_getElem hk)
  have := arrOk_le (hD.2 x (List.mem_of_getElem? e1))
  omega
structure FitP (p : Prg) (M : Mem) : Prop where
  ok : prgOk p = true
  len : M.arrays.length = p.tasks.length
  shared : matchP p.shared M.shared = true
  task : ∀ (k : Nat) (r : List (List Int)), M.arrays[k]? = some r → matchP (p.tasks.getD k Tsk.none).arrays r = true ∧ r.length ≤ 4 ∧ ∀ l ∈ r, 1 ≤ l.length ∧ l.length ≤ 32
  slen : M.shared.length ≤ 4 ∧ ∀ l ∈ M.shared, 1 ≤ l.length ∧ l.length ≤ 32
theorem fit_of {p : Prg} {M : Mem} (h : fitsP p M = true) : FitP p M := by
  unfold fitsP at h
  simp only [Bool.and_eq_true, decide_eq_true_eq] at h
  obtain ⟨h1, h2, h3, h4⟩ := h
  obtain ⟨h5, h6⟩ := fitsAll_parts h3
  refine ⟨h1, h2, h4, fun k r hr => ?_, match_small h4 (prgOk_shared h1)⟩
  obtain ⟨t, ht, hm⟩ := h6 k r hr
  have hk := (List.getElem?_eq_some_iff.1 ht).1
  have e : p.tasks.getD k Tsk.none = t := by rw [List.getD_eq_getElem?_getD, ht]; rfl
  have hto := (prgOk_le h1).2.2 k hk
  rw [e] at hto ⊢
  exact ⟨hm, match_small hm (tskOk_arrs hto)⟩
theorem declF_nodup {known : ByteArray → Bool} : ∀ {l so : List ByteArray}, declF known so l = [] → (∀ x ∈ l, known x = false ∧ x ∉ so) ∧ l.Nodup
  | [], so, _ => ⟨(fun x hx => nomatch hx), List.nodup_nil⟩
  | x :: l, so, h => by
    rw [declF, List.append_eq_nil_iff] at h
    obtain ⟨h1, h2⟩ := h
    obtain ⟨h3, h4⟩ := declF_nodup h2
    have hx : known x = false ∧ x ∉ so := by
      by_cases hc : (known x || memB so x) = true
      · rw [if_pos hc] at h1; cases h1
      · rw [Bool.or_eq_true, not_or] at hc
        exact ⟨by simpa using hc.1, fun hm => hc.2 (memB_iff.2 hm)⟩
    refine ⟨fun y hy => ?_, List.nodup_cons.2 ⟨fun hm => (h3 x hm).2 (by simp), h4⟩⟩
    rcases List.mem_cons.1 hy with rfl | hy
    · exact hx
    · exact ⟨(h3 y hy).1, fun hm => (h3 y hy).2 (by simp [hm])⟩
/-- the names of the shared objects and of a task's arrays are told apart -/
theorem names_apart {p : Prg} {i : Nat} (h : okP p = true) (hi : i < p.tasks.length) : (p.shared.map (·.name) ++ (p.tasks.getD i Tsk.none).arrays.map (·.name)).Nodup ∧ (p.tasks.getD i Tsk.none).vars.Nodup ∧
    (∀ x ∈ (p.tasks.getD i Tsk.none).vars, x ∉ p.shared.map (·.name) ++ (p.tasks.getD i Tsk.none).arrays.map (·.name)) := by
  obtain ⟨_, h1, _⟩ := okP_parts h
  have h2 := (taskF_nil (task_in h hi).2).1
  obtain ⟨_, n1⟩ := declF_nodup h1
  obtain ⟨n2, n3⟩ := declF_nodup h2
  rw [List.nodup_append] at n3
  have hk : ∀ x, memB (p.shared.map (·.name)) x = false → x ∉ p.shared.map (·.name) := fun x hx hm => by rw [memB_iff.2 hm] at hx; cases hx
  refine ⟨List.nodup_append.2 ⟨n1, n3.2.1, fun a ha b hb e => ?_⟩, n3.1, fun x hx hm => ?_⟩
  · subst e
    exact hk a (n2 a (by simp only [List.mem_append]; exact .inr hb)).1 ha
  · rcases List.mem_append.1 hm with hm | hm
    · exact hk x (n2 x (by simp only [List.mem_append]; exact .inl hx)).1 hm
    · exact n3.2.2 x hx x hm rfl
end Go.Proofs.YtgochgcchkdlmaaDoor
