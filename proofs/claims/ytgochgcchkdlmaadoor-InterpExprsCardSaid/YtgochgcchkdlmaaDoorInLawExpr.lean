/-
  The law InterpExprs (package ontimelaw16).
-/
import Derived.Test.YtgochgcchkdlmaaDoorInExprC
import Derived.Test.YtgochgcchkdlmaaDoorInAwake
import Derived.Test.YtgochgcchkdlmaaDoorAstSizes
import Derived.Deep.RegionHeld
namespace Go.Proofs.YtgochgcchkdlmaaDoor
set_option linter.unusedVariables false
set_option linter.unusedSimpArgs false
open Go.RowKit Go.Maps
set_option maxRecDepth 100000
set_option maxHeartbeats 80000000

/-! ### cells, plainly -/
abbrev noCel : Cel := ⟨⟨#[]⟩, false, []⟩
def celRow (c : Cel) (x : Option Addr × Nat) : List Value := [.string c.name, .bool c.arr, .slice x.1 c.l.length x.2]
def celsTo (f : Nat → Cel) (x : Nat → Option Addr × Nat) : Nat → List Value
  | 0 => []
  | n + 1 => celsTo f x n ++ celRow (f n) (x n)
theorem celsTo_len (f : Nat → Cel) (x : Nat → Option Addr × Nat) : ∀ n, (celsTo f x n).length = n * 3
  | 0 => rfl
  | n + 1 => by
    show (celsTo f x n ++ celRow (f n) (x n)).length = _
    rw [List.length_append, celsTo_len f x n]
    show n * 3 + 3 = _
    omega
theorem celsTo_at (f : Nat → Cel) (x : Nat → Option Addr × Nat) {n i : Nat} (h : i < n) (d : Nat) (hd : d < 3) : (celsTo f x n)[i * 3 + d]? = (celRow (f i) (x i))[d]? := by
  induction n with
  | zero => omega
  | succ n ih =>
    simp only [celsTo]
    by_cases e : i = n
    · subst e
      rw [List.getElem?_append_right (by rw [celsTo_len]; omega), celsTo_len]
      congr 1; omega
    · rw [List.getElem?_append_left (by rw [celsTo_len]; omega)]
      exact ih (by omega)
def VTo (f : Nat → Cel) : Nat → VF
  | 0 => fun _ => none
  | n + 1 => if (f n).arr then VTo f n else upd (VTo f n) (f n).name (some ((f n).l.getD 0 0))
def ATo (f : Nat → Cel) : Nat → AF
  | 0 => fun _ => none
  | n + 1 => if (f n).arr then upd (ATo f n) (f n).name (some (f n).l) else ATo f n
def GTo (f : Nat → Cel) (x : Nat → Option Addr × Nat) : Nat → ByteArray → Option Value
  | 0 => fun _ => none
  | n + 1 => if (f n).arr then upd (GTo f x n) (f n).name (some (.slice (x n).1 (f n).l.length (x n).2)) else GTo f x n
theorem celV_snoc (l : List Cel) (c : Cel) : celV (l ++ [c]) = if c.arr then celV l else upd (celV l) c.name (some (c.l.getD 0 0)) := by
  unfold celV celL
  rw [List.filterMap_append]
  cases h : c.arr with
  | true =>
    rw [if_pos rfl, show [c].filterMap fV = [] by simp [fV, h], List.append_nil]
  | false =>
    rw [if_neg (by decide), show [c].filterMap fV = [(c.name, c.l.getD 0 0)] by simp [fV, h]]
    exact fP_snoc _ _
theorem celA_snoc (l : List Cel) (c : Cel) : celA (l ++ [c]) = if c.arr then upd (celA l) c.name (some c.l) else celA l := by
  unfold celA celL
  rw [List.filterMap_append]
  cases h : c.arr with
  | true =>
    rw [if_pos rfl, show [c].filterMap fA = [(c.name, c.l)] by simp [fA, h]]
    exact fP_snoc _ _
  | false =>
    rw [if_neg (by decide), show [c].filterMap fA = [] by simp [fA, h], List.append_nil]
theorem celTo_take (cs : List Cel) : ∀ n, n ≤ cs.length → celV (cs.take n) = VTo (fun i => cs.getD i noCel) n ∧ celA (cs.take n) = ATo (fun i => cs.getD i noCel) n
  | 0, _ => ⟨rfl, rfl⟩
  | n + 1, h => by
    have hn : n < cs.length := h
    obtain ⟨h1, h2⟩ := celTo_take cs n (by omega)
    have e : cs.take (n + 1) = cs.take n ++ [cs.getD n noCel] := by rw [List.take_add_one, List.getD_eq_getElem?_getD, List.getElem?_eq_getElem hn]; rfl
    rw [e, celV_snoc, celA_snoc, h1, h2]
    exact ⟨rfl, rfl⟩
theorem celTo_all (cs : List Cel) : celV cs = VTo (fun i => cs.getD i noCel) cs.length ∧ celA cs = ATo (fun i => cs.getD i noCel) cs.length := by
  have h := celTo_take cs cs.length (Nat.le_refl _)
  rwa [List.take_length] at h
theorem rows_to {w : World} {f : Nat → Cel} {x : Nat → Option Addr × Nat} : ∀ {n : Nat}, (∀ i, i < n → WordsAt w (x i).1 (f i).l ∧ (f i).l.length ≤ 1000000) → RowsR w (GTo f x n) (ATo f n)
  | 0, _ => fun _ => rfl
  | n + 1, h => by
    have ih := rows_to (n := n) (fun i hi => h i (by omega))
    obtain ⟨hw, hl⟩ := h n (by omega)
    intro nm
    have ihn := ih nm
    by_cases hc : (f n).arr = true ∧ nm = (f n).name
    · have e1 : ATo f (n + 1) nm = some (f n).l := by show (if (f n).arr then _ else _ : AF) nm = _; rw [if_pos hc.1, hc.2, upd_same]
      have e2 : GTo f x (n + 1) nm = some (.slice (x n).1 (f n).l.length (x n).2) := by show (if (f n).arr then _ else _ : ByteArray → Option Value) nm = _; rw [if_pos hc.1, hc.2, upd_same]
      rw [e1, e2]
      refine ⟨_, _, rfl, hl, fun i hi => ?_⟩
      rcases hw.at_ with h0 | ⟨b, off, ha, hk⟩
      · omega
      · exact ⟨b, off, ha, hk i _ (by rw [List.getD_eq_getElem?_getD, List.getElem?_eq_getElem hi]; rfl)⟩
    · have e1 : ATo f (n + 1) nm = ATo f n nm := by
        show (if (f n).arr then _ else _ : AF) nm = _
        by_cases h1 : (f n).arr = true
        · rw [if_pos h1, upd_other _ _ (fun e => hc ⟨h1, e⟩)]
        · rw [if_neg h1]
      have e2 : GTo f x (n + 1) nm = GTo f x n nm := by
        show (if (f n).arr then _ else _ : ByteArray → Option Value) nm = _
        by_cases h1 : (f n).arr = true
        · rw [if_pos h1, upd_other _ _ (fun e => hc ⟨h1, e⟩)]
        · rw [if_neg h1]
      rw [e1, e2]
      exact ihn
theorem VTo_fit {f : Nat → Cel} : ∀ {n : Nat}, (∀ i, i < n → (∀ x ∈ (f i).l, Wd.W x) ∧ ((f i).arr = false → (f i).l.length = 1)) → ∀ nm v, VTo f n nm = some v → Wd.W v
  | 0, _, nm, v, h => nomatch h
  | n + 1, hf, nm, v, h => by
    have ih := VTo_fit (n := n) (fun i hi => hf i (by omega)) nm v
    obtain ⟨h1, h2⟩ := hf n (by omega)
    have h : (if (f n).arr then VTo f n else upd (VTo f n) (f n).name (some ((f n).l.getD 0 0)) : VF) nm = some v := h
    cases ha : (f n).arr with
    | true => rw [ha, if_pos rfl] at h; exact ih h
    | false =>
      rw [ha, if_neg (by decide)] at h
      by_cases e : nm = (f n).name
      · rw [e, upd_same] at h
        cases h
        have hl := h2 ha
        exact h1 _ (by rw [List.getD_eq_getElem?_getD, List.getElem?_eq_getElem (by omega : 0 < (f n).l.length)]; exact List.getElem_mem _)
      · rw [upd_other _ _ e] at h; exact ih h
theorem ATo_fit {f : Nat → Cel} : ∀ {n : Nat}, (∀ i, i < n → ∀ x ∈ (f i).l, Wd.W x) → ∀ nm l, ATo f n nm = some l → ∀ x ∈ l, Wd.W x
  | 0, _, nm, v, h => nomatch h
  | n + 1, hf, nm, v, h => by
    have ih := ATo_fit (n := n) (fun i hi => hf i (by omega)) nm v
    have h : (if (f n).arr then upd (ATo f n) (f n).name (some (f n).l) else ATo f n : AF) nm = some v := h
    cases ha : (f n).arr with
    | false => rw [ha, if_neg (by decide)] at h; exact ih h
    | true =>
      rw [ha, if_pos rfl] at h
      by_cases e : nm = (f n).name
      · rw [e, upd_same] at h
        cases h
        exact hf n (by omega)
      · rw [upd_other _ _ e] at h; exact ih h
/-- a cell of a list, with the row of its words -/
theorem cels_pick {w : World} {a : Option Addr} {cs : List Cel} (h : CelsAt w a cs) : ∃ x : Nat → Option Addr × Nat, ∀ i, i < cs.length → ∃ b off, a = some ⟨b, off, none⟩ ∧ CelAt w b (off + i * 3) (cs.getD i noCel) (x i).1 (x i).2 := by
  have hm : ∀ i : Nat, ∃ y : Option Addr × Nat, i < cs.length → ∃ b off, a = some ⟨b, off, none⟩ ∧ CelAt w b (off + i * 3) (cs.getD i noCel) y.1 y.2 := fun i => by
    by_cases hi : i < cs.length
    · obtain ⟨b, off, ra, rc, h1, h2⟩ := h.2 i (cs.getD i noCel) (by rw [List.getD_eq_getElem?_getD, List.getElem?_eq_getElem hi]; rfl)
      exact ⟨(ra, rc), fun _ => ⟨b, off, h1, h2⟩⟩
    · exact ⟨(none, 0), fun h => absurd h hi⟩
  exact Classical.axiomOfChoice hm
theorem cel_info : (Tryd.prog.info? 54).map (fun i => (i.zero, i.size, i.bytes)) = some (some (.agg #[.string ⟨#[]⟩, .bool false, .slice none 0 0]), 3, 48) := by kernel_rfl
abbrev celObj (nm : ByteArray) (ar : Bool) (a : Option Addr) (n c : Nat) : Obj := .cells #[.string nm, .bool ar, .slice a n c] 54
/-- the cells, in a row of the call's own -/
theorem cels_row {w : World} {N : Nat} {cs : List Cel} {x : Nat → Option Addr × Nat} {a : Option Addr} {c : Nat} (h : w.ownsRow N 54 3 (.slice a cs.length c) cs.length (celsTo (fun i => cs.getD i noCel) x cs.length)) (hl : cs.length ≤ 1000)
    (hw : ∀ i, i < cs.length → WordsAt w (x i).1 (cs.getD i noCel).l ∧ (cs.getD i noCel).name.size ≤ 9223372036854775807) : CelsAt w a cs := by
  refine ⟨by omega, fun k d hk => ?_⟩
  have hkl : k < cs.length := (List.getElem?_eq_some_iff.1 hk).1
  have hd : cs.getD k noCel = d := by rw [List.getD_eq_getElem?_getD, hk]; rfl
  obtain ⟨g, rfl, hg, _⟩ := own_at h (by omega)
  have ca := fun e (he : e < 3) => celsTo_at (fun i => cs.getD i noCel) x hkl e he
  have k0 := own_get h (ca 0 (by omega))
  have k1 := own_get h (ca 1 (by omega))
  have k2 := own_get h (ca 2 (by omega))
  obtain ⟨h1, h2⟩ := hw k hkl
  rw [hd] at k0 k1 k2 h1 h2
  refine ⟨g, 0, (x k).1, (x k).2, rfl, ?_⟩
  rw [Nat.zero_add]
  exact ⟨k0, k1, k2, h1, h2⟩
/-- what a round's checks have shown -/
theorem cel_cells {w : World} {b n c : Nat} {nm : ByteArray} {ar : Bool} {a : Option Addr} (h : w.heap[b]? = some (celObj nm ar a n c)) : w.cell? ⟨b, 0, none⟩ = some (.string nm) ∧ w.cell? ⟨b, 1, none⟩ = some (.bool ar) ∧ w.cell? ⟨b, 2, none⟩ = some (.slice a n c) := ⟨mem_cell h 0, mem_cell h 1, mem_cell h 2⟩
structure CSt (w : World) (xb : Nat) (nm : ByteArray) (ra : Option Addr) (n rc : Nat) (b o : Nat) (v : Int) : Prop where
  c0 : w.cell? ⟨xb, 0, none⟩ = some (.string nm)
  c2 : w.cell? ⟨xb, 2, none⟩ = some (.slice ra n rc)
  cw : w.cell? ⟨b, o, none⟩ = some (.int .i32 v)
theorem CSt.move {w w' : World} {xb : Nat} {nm : ByteArray} {ra : Option Addr} {n rc b o : Nat} {v : Int} (h : CSt w xb nm ra n rc b o v) (hm : ∀ (p : Addr) (v : Value), w.cell? p = some v → w'.cell? p = some v) : CSt w' xb nm ra n rc b o v := ⟨hm _ _ h.c0, hm _ _ h.c2, hm _ _ h.cw⟩
def CelOk (c : Cel) : Prop := c.l.length ≤ 70 ∧ (c.arr = false → c.l.length = 1)
theorem law_expr (t : Tree) (cs : List Cel) (w : World) (a ca : Option Addr) (c cc : Nat) (hr : Rep w t a) (hc : CelsAt w ca cs) (hg : SignsIn w) :
    Calls Tryd.prog 10 #[t.val a c, .slice ca cs.length cc] w fun e w' => e = .returned (.bool true) ∧ Below w.heap.size w w' := by
  obtain ⟨i0, hi0, hz0, hz1, hz2⟩ := info_parts cel_info
  obtain ⟨x, hx⟩ := cels_pick hc
  obtain ⟨f, hfe⟩ : ∃ f : Nat → Cel, (fun i => cs.getD i noCel) = f := ⟨_, rfl⟩
  have HFE : Hid (∀ i, cs.getD i noCel = f i) := fun i => congrFun hfe i
  have HFF := Lib.hid hfe
  have hcl := hc.1
  obtain ⟨W, hW⟩ : ∃ W : World, w.alloc (ndObj t a c) = W := ⟨_, rfl⟩
  have hBW : Below w.heap.size w W := by rw [← hW]; exact mem_alloc _ _
  have hXW : W.heap[w.heap.size]? = some (ndObj t a c) := by rw [← hW]; exact mem_new _ _
  have HX : Hid (∀ w', Below W.heap.size W w' → ∀ i, i < cs.length → ∃ b off, ca = some ⟨b, off, none⟩ ∧ CelAt w' b (off + i * 3) (f i) (x i).1 (x i).2) := fun w' hw i hi => by
    obtain ⟨b, off, h1, h2⟩ := hx i hi
    rw [HFE.out i] at h2
    exact ⟨b, off, h1, h2.below (mem_then hBW hw)⟩
  have HK : Hid (∀ w', Below W.heap.size W w' → w'.heap[w.heap.size]? = some (ndObj t a c) ∧ Rep w' t a ∧ SignsIn w' ∧ Below w.heap.size w w') := fun w' hw => by
    have hb := mem_then hBW hw
    exact ⟨mem_keep hXW hw, hr.below hb, hg.below hb, hb⟩
  have HAW := Lib.hid (awake_any W (HK.out W (Below.refl _ _)).2.2.1)
  clear hr hc hg hBW hXW hx hfe
  go_enter Tryd.func10, Tryd.ntmps10
  go_wp2_with fail
  clear hW
  refine HAW.out.mono ?_
  rintro e w1 ⟨rfl, hB1⟩
  have HB1 := Lib.hid hB1
  obtain ⟨hx1, hr1, hsg1, hbb1⟩ := HK.out w1 hB1
  obtain ⟨x0, x1, x2, x3⟩ := nd_cells hx1
  have HBIG : Hid (∃ k : Int, (k = 0 ∨ k = 1) ∧ Calls Tryd.prog 27 #[t.val a c] w1 fun e w' => e = .returned (.int .i64 k) ∧ Below w1.heap.size w1 w') := by
    by_cases hb : t.big
    · exact ⟨1, .inr rfl, big_yes t w1 a c hr1 hb⟩
    · exact ⟨0, .inl rfl, big_no t w1 a c hr1 hb⟩
  obtain ⟨kb, hkb, hbig⟩ := HBIG.out
  have HBG := Lib.hid hbig
  clear HAW hB1 hx1 hr1 HBIG hbig hsg1 hbb1
  go_wp2_with fail
  clear x0 x1 x2 x3
  refine HBG.out.mono ?_
  rintro e w2 ⟨rfl, hB2⟩
  have HB2 := Lib.hid (mem_then HB1.out hB2)
  clear HBG hB2
  rcases hkb with rfl | rfl
  case inr =>
    go_wp2_with fail
    go_ret
    exact ⟨rfl, (HK.out w2 HB2.out).2.2.2⟩
  by_cases h10 : 10 < cs.length
  · have hd10 : decide ((10 : Int) < (cs.length : Int)) = true := decide_eq_true (by omega)
    have hd11 : (10 : Int) < (cs.length : Int) := by omega
    go_wp2_with fail
    go_ret
    exact ⟨rfl, (HK.out w2 HB2.out).2.2.2⟩
  have hd10 : decide ((10 : Int) < (cs.length : Int)) = false := decide_eq_false (by omega)
  obtain ⟨M1, hM1⟩ : ∃ M : World, w2.alloc (.map #[] 0) = M := ⟨_, rfl⟩
  obtain ⟨M2, hM2⟩ : ∃ M : World, M1.alloc (.map #[] 0) = M := ⟨_, rfl⟩
  have hF1 : FMap Tryd.prog StrK M1 w2.heap.size 0 (fun _ => none) := by rw [← hM1]; exact FMap.made _ _ _
  have hF2 : FMap Tryd.prog StrK M2 M1.heap.size 0 (fun _ => none) := by rw [← hM2]; exact FMap.made _ _ _
  have b1 : Below w2.heap.size w2 M1 := by rw [← hM1]; exact mem_alloc _ _
  have b2 : Below M1.heap.size M1 M2 := by rw [← hM2]; exact mem_alloc _ _
  have HF1 := Lib.hid (hF1.below b2)
  have HF2 := Lib.hid hF2
  have HML : Hid (W.heap.size ≤ w2.heap.size ∧ w2.heap.size < M1.heap.size ∧ M1.heap.size < M2.heap.size) := ⟨HB2.out.size, hF1.lt, hF2.lt⟩
  have HBM : Hid (Below W.heap.size W M2) := mem_then HB2.out (mem_then b1 b2)
  have hmm := @run_makeMap Tryd.prog
  clear hF1 hF2 b1 b2
  go_wp2_with fail
  try rw [hM1]
  try rw [hM2]
  clear hM1 hM2 hmm
  have hcl10 : cs.length ≤ 10 := by omega
  clear hcl hd10 h10
  go_loopw [7, 28] (fun sv iv wr => ∃ (j : Nat) (v : Value), j ≤ cs.length ∧ sv = v ∧ iv = .int .i64 (j : Int) ∧ wr.ownsRow M2.heap.size 54 3 v j (celsTo f x j) ∧ FMap Tryd.prog StrK wr w2.heap.size j (intV (VTo f j)) ∧ FMap Tryd.prog StrK wr M1.heap.size j (GTo f x j) ∧ (∀ i, i < j → CelOk (f i)) ∧ Below W.heap.size W wr ∧ M2.heap.size ≤ wr.heap.size) (fun _ iv _ => cs.length - (intOf iv).toNat)
  case atStart => exact ⟨0, _, Nat.zero_le _, rfl, rfl, World.ownsRow_nil _ _ _ _, HF1.out, HF2.out, fun i hi => absurd hi (Nat.not_lt_zero _), HBM.out, Nat.le_refl _⟩
  case round =>
    obtain ⟨j, v, hj, rfl, rfl, hro, hfv, hfa, hok, hB, hsz⟩ := hrel
    obtain ⟨va, vc, rfl⟩ := own_val hro
    have HRO := Lib.hid hro
    have HFV := Lib.hid hfv
    have HFA := Lib.hid hfa
    have HOK := Lib.hid hok
    have HB := Lib.hid hB
    have HSZ := Lib.hid hsz
    have hj0 : (0 : Int) ≤ (j : Int) := by omega
    clear hro hfv hfa hok hB hsz
    by_cases hlt : j < cs.length
    · skip
      have hlt2 : (j : Int) < (cs.length : Int) := by omega
      obtain ⟨cb, co, rfl, hcell⟩ := HX.out wr HB.out j hlt
      obtain ⟨d, hd⟩ : ∃ d, f j = d := ⟨_, rfl⟩
      obtain ⟨⟨ra, rc⟩, hxj⟩ : ∃ y, x j = y := ⟨_, rfl⟩
      rw [hd, hxj] at hcell
      obtain ⟨nm, ar, l⟩ := d
      obtain ⟨n0, n1, n2, hwd, hns⟩ := hcell
      have n0 : wr.cell? ⟨cb, co + j * 3, none⟩ = some (.string nm) := n0
      have n1 : wr.cell? ⟨cb, co + j * 3 + 1, none⟩ = some (.bool ar) := n1
      have n2 : wr.cell? ⟨cb, co + j * 3 + 2, none⟩ = some (.slice ra l.length rc) := n2
      have hwd : WordsAt wr ra l := hwd
      have hns : nm.size ≤ 9223372036854775807 := hns
      have HD := Lib.hid hd
      have HXJ := Lib.hid hxj
      have HWD := Lib.hid hwd
      have hlf := hwd.fits
      have hcb := World.block_lt_of_cell? _ _ n0
      obtain ⟨V, hV⟩ : ∃ V : World, wr.alloc (celObj nm ar ra l.length rc) = V := ⟨_, rfl⟩
      have hBV : Below wr.heap.size wr V := by rw [← hV]; exact mem_alloc _ _
      have hXV : V.heap[wr.heap.size]? = some (celObj nm ar ra l.length rc) := by rw [← hV]; exact mem_new _ _
      have HBV := Lib.hid hBV
      have HXV := Lib.hid hXV
      have HVL : Hid (wr.heap.size < V.heap.size) := mem_lt hXV
      obtain ⟨y0, y1, y2⟩ := cel_cells hXV
      clear hwd hd hxj hBV hXV
      by_cases h70 : 70 < l.length
      · have e70 : decide ((70 : Int) < (l.length : Int)) = true := decide_eq_true (by omega)
        go_wp2_with fail
        go_ret
        exact ⟨rfl, (HK.out V (mem_then HB.out HBV.out)).2.2.2⟩
      have e70 : decide ((70 : Int) < (l.length : Int)) = false := decide_eq_false (by omega)
      by_cases hbad : ar = false ∧ l.length ≠ 1
      · obtain ⟨rfl, h1⟩ := hbad
        have e1 : ((l.length : Int) != 1) = true := by simp; omega
        go_wp2_with fail
        go_ret
        exact ⟨rfl, (HK.out V (mem_then HB.out HBV.out)).2.2.2⟩
      have HOK2 : Hid (∀ i, i < j + 1 → CelOk (f i)) := fun i hi => by
        by_cases e : i = j
        · subst e
          rw [HD.out]
          exact ⟨by show l.length ≤ 70; omega, fun h => Classical.byContradiction fun h2 => hbad ⟨h, h2⟩⟩
        · exact HOK.out i (by omega)
      obtain ⟨V2, hV2⟩ : ∃ V2 : World, V.alloc (celObj nm ar ra l.length rc) = V2 := ⟨_, rfl⟩
      have hb2 : Below V.heap.size V V2 := by rw [← hV2]; exact mem_alloc _ _
      have HX2 : Hid (V2.heap[V.heap.size]? = some (celObj nm ar ra l.length rc)) := by show _ = _; rw [← hV2]; exact mem_new _ _
      have HBV2 := Lib.hid (mem_then HBV.out hb2)
      have HRO2 := Lib.hid (own_below HRO.out HBV2.out)
      have HXV2 := Lib.hid (mem_keep HXV.out hb2)
      have HVL2 : Hid (V.heap.size < V2.heap.size) := mem_lt HX2.out
      have hq : ar = true ∨ (ar = false ∧ ((l.length : Int) != 1) = false) := by
        cases ar with
        | true => exact .inl rfl
        | false => exact .inr ⟨rfl, by simp; have := hbad; simp at this; omega⟩
      clear hb2 hbad
      rcases hq with rfl | ⟨rfl, e1⟩
      all_goals
        go_wp2_with (at_builtin; refine wpList_append_src _ rfl (.tmp 47) (.tmp 49) 43 rfl M2.heap.size 54 i0 _ 3 48 Tryd.underlying43 hi0 hz0 hz1 hz2 rfl (by decide) (.slice va j vc) j _ rfl HRO2.out (some ⟨V.heap.size, 0, none⟩) 1 1 [.string nm, .bool _, .slice ra l.length rc] rfl (src_new HX2.out rfl) (by simp [Value.oneCell']) (by unfold maxLen; omega) (by omega) (Nat.le_trans HSZ.out HBV2.out.size) ?_)
        clear n0 n1 n2 y0 y1 y2 hV hV2
        intro v9 w9 hown hgrow hplace
        have hml := HML.out
        have hsz := HSZ.out
        have hbs := HB.out.size
        have hvs := HBV2.out.size
        have HRO9 : Hid (w9.ownsRow M2.heap.size 54 3 v9 (j + 1) (celsTo f x (j + 1))) := by
          show World.ownsRow _ _ _ _ _ _ _
          rw [show celsTo f x (j + 1) = celsTo f x j ++ celRow (f j) (x j) from rfl, HD.out, HXJ.out]
          exact hown
        have hne : ∀ k, k < M2.heap.size → some k ≠ (Value.slice va j vc).ownBlock := fun k hk e => by have := (own_lt HRO2.out e.symm).1; omega
        have HFV9 := Lib.hid ((HFV.out.below HBV2.out).move (hgrow.block _ (by omega) (hne _ (by omega))))
        have HFA9 := Lib.hid ((HFA.out.below HBV2.out).move (hgrow.block _ (by omega) (hne _ (by omega))))
        have HB9 : Hid (Below W.heap.size W w9) := (HB.out.trans (HBV2.out.mono HB.out.size)).grown hgrow (by omega) (fun b hb => by have := (own_lt HRO2.out hb).1; omega)
        have HX9 : Hid (w9.heap[wr.heap.size]? = _) := (hgrow.block _ (mem_lt HXV2.out) (fun e => by have h1 := (own_lt HRO.out e.symm).2; omega)).trans HXV2.out
        have HS9 : Hid (M2.heap.size ≤ w9.heap.size ∧ wr.heap.size < w9.heap.size) := by have h1 := hgrow.size; have h2 := HVL.out; have h3 := HVL2.out; show _ ∧ _; omega
        have HO9 := Lib.hid (fun k (hk : v9.ownBlock = some k) => own_lt hown hk)
        obtain ⟨va9, vc9, rfl⟩ := own_val hown
        obtain ⟨y0, y1, y2⟩ := cel_cells HX9.out
        clear hown hgrow hplace hml hsz hbs hvs hne
      · go_wp2_with (at_mapUpdate; refine wpList_fstore _ rfl (.tmp 53) (.tmp 55) (.tmp 57) 71 rfl StrK 30 strK Tryd.underlying71 M1.heap.size j (GTo f x j) rfl HFA9.out nm (.slice ra l.length rc) rfl rfl hns (by unfold maxLen; omega) ?_)
        clear y0 y1 y2
        intro w8 hf8 hg8
        have HF8 : Hid (FMap Tryd.prog StrK w8 M1.heap.size (j + 1) (GTo f x (j + 1))) := by
          show FMap _ _ _ _ _ _
          rw [show GTo f x (j + 1) = upd (GTo f x j) nm (some (.slice ra l.length rc)) from by
            show (if (f j).arr then _ else _ : ByteArray → Option Value) = _
            rw [HD.out, HXJ.out]
            rfl]
          exact hf8
        have hml := HML.out
        have hs9 := HS9.out
        have HV8 : Hid (FMap Tryd.prog StrK w8 w2.heap.size (j + 1) (intV (VTo f (j + 1)))) := by
          show FMap _ _ _ _ _ _
          rw [show VTo f (j + 1) = VTo f j from by
            show (if (f j).arr then _ else _ : VF) = _
            rw [HD.out]
            rfl]
          exact ((HFV9.out).move (hg8.block _ (by omega) (fun e => by have h2 : w2.heap.size = M1.heap.size := Option.some.inj e; omega))).mono (by omega)
        have HR8 := Lib.hid (own_keep HRO9.out (fun k hk hkl => hg8.block k hkl (fun e => by have h1 := (HO9.out _ hk).1; have h2 : k = M1.heap.size := Option.some.inj e; omega)))
        have HB8 : Hid (Below W.heap.size W w8) := HB9.out.grown hg8 HB9.out.size (fun b hb => by cases hb; omega)
        have HSZ8 : Hid (M2.heap.size ≤ w8.heap.size) := Nat.le_trans hs9.1 hg8.size
        clear hf8 hg8 hml hs9
        go_wp2_with fail
        go_roundw
        case rel => exact ⟨j + 1, _, by omega, rfl, by go_num, HR8.out, HV8.out, HF8.out, HOK2.out, HB8.out, HSZ8.out⟩
        case measure => simp [intOf]; omega
      · have hl1 : l.length = 1 := by simp at e1; omega
        have hl0 : 0 < l.length := by omega
        obtain ⟨y, hy⟩ : ∃ y, l[0]? = some y := ⟨_, List.getElem?_eq_getElem hl0⟩
        have HGD : Hid (l.getD 0 0 = y) := by show _ = _; rw [List.getD_eq_getElem?_getD, hy]; rfl
        obtain ⟨b9, o9, he9, hc9⟩ := HX.out w9 HB9.out j hlt
        clear he9
        rw [HD.out, HXJ.out] at hc9
        have hw9 : WordsAt w9 ra l := hc9.2.2.2.1
        obtain ⟨wb, wo, rfl, hwk⟩ := hw9.at_.resolve_left (by omega)
        have hcw : w9.cell? ⟨wb, wo, none⟩ = some (.int .i32 y) := hwk 0 y hy
        have hl0i : (0 : Int) < (l.length : Int) := by omega
        have HCW := Lib.hid hcw
        have HS : Hid (∀ w', Below w9.heap.size w9 w' → CSt w' wr.heap.size nm (some ⟨wb, wo, none⟩) l.length rc wb wo y) := fun w' hw => by
          obtain ⟨z0, z1, z2⟩ := cel_cells (mem_keep HX9.out hw)
          exact ⟨z0, z2, cell_stay hw HCW.out⟩
        clear hl1 hy hc9 hw9 hwk hcw e1
        go_upto_region 15 with fail
        clear y0 y1 y2
        have hD0 : Below w9.heap.size w9 (World.drew w9) := (Below.refl _ _).drew
        refine wp_region_held_drew (S := fun w' => CSt w' wr.heap.size nm (some ⟨wb, wo, none⟩) l.length rc wb wo y) (by kernel_rfl) (HS.out _ hD0) (fun hHeld => ?_)
        generalize hwd : World.drew w9 = v1 at hHeld hD0 ⊢
        clear hwd
        have HD0 := Lib.hid hD0
        clear hD0
        obtain ⟨w3, hrun, hf3, hg3⟩ := (HFV9.out.below HD0.out).store (t := 70) strK Tryd.underlying70 (s := nm) hns (by unfold maxLen; omega) (.int .i32 y)
        have hml := HML.out
        have hs9 := HS9.out
        have hd0 := HD0.out.size
        have HF3 : Hid (FMap Tryd.prog StrK w3 w2.heap.size (j + 1) (intV (VTo f (j + 1)))) := by
          show FMap _ _ _ _ _ _
          rw [show VTo f (j + 1) = upd (VTo f j) nm (some y) from by
            show (if (f j).arr then _ else _ : VF) = _
            rw [HD.out, ← HGD.out]
            rfl, ← intV_upd]
          exact hf3
        have HA3 : Hid (FMap Tryd.prog StrK w3 M1.heap.size (j + 1) (GTo f x (j + 1))) := by
          show FMap _ _ _ _ _ _
          rw [show GTo f x (j + 1) = GTo f x j from by
            show (if (f j).arr then _ else _ : ByteArray → Option Value) = _
            rw [HD.out]
            rfl]
          exact ((HFA9.out.below HD0.out).move (hg3.block _ (by omega) (fun e => by have h2 : M1.heap.size = w2.heap.size := Option.some.inj e; omega))).mono (by omega)
        have HR3 := Lib.hid (own_keep (own_below HRO9.out HD0.out) (fun k hk hkl => hg3.block k hkl (fun e => by have h1 := (HO9.out _ hk).1; have h2 : k = w2.heap.size := Option.some.inj e; omega)))
        have HB3 : Hid (Below W.heap.size W w3) := (mem_then HB9.out HD0.out).grown hg3 (mem_then HB9.out HD0.out).size (fun b hb => by cases hb; omega)
        have HSZ3 : Hid (M2.heap.size ≤ w3.heap.size) := Nat.le_trans hs9.1 (Nat.le_trans hd0 hg3.size)
        have HC3 : Hid (CSt w3 wr.heap.size nm (some ⟨wb, wo, none⟩) l.length rc wb wo y) := by
          obtain ⟨es, ck, hm⟩ := (HFV9.out.below HD0.out).obj
          exact (HS.out _ HD0.out).move (grown_cells hg3 hm)
        clear hf3 hg3 hml hs9 hd0
        refine wpAnyH_take (i := 0) (v := .map (some w2.heap.size)) rfl (by kernel_rfl) (by kernel_rfl) (by kernel_rfl) (fun _ _ _ h => h) (Or.inl ⟨by rfl, ?_⟩) (by assumption) ?_
        · intro w' hSw; go_simp
        (try simp only [Act.put, List.getElem_toArray, List.getElem_cons_zero, List.setIfInBounds_toArray, List.set_cons_zero, List.set_cons_succ])
        refine wpAnyH_take (i := 1) (v := .pointer (some ⟨wr.heap.size, 0, none⟩)) rfl (by kernel_rfl) (by kernel_rfl) (by kernel_rfl) (fun _ _ _ h => h) (Or.inl ⟨by rfl, ?_⟩) (by assumption) ?_
        · intro w' hSw; go_simp
        (try simp only [Act.put, List.getElem_toArray, List.getElem_cons_zero, List.getElem_cons_succ, List.setIfInBounds_toArray, List.set_cons_zero, List.set_cons_succ])
        refine wpAnyH_take (i := 2) (v := .string nm) rfl (by kernel_rfl) (by kernel_rfl) (by kernel_rfl) (fun _ _ _ h => h) (Or.inl ⟨by rfl, ?_⟩) (by assumption) ?_
        · intro w' hSw; have z0 := hSw.c0; go_simp
        (try simp only [Act.put, List.getElem_toArray, List.getElem_cons_zero, List.getElem_cons_succ, List.setIfInBounds_toArray, List.set_cons_zero, List.set_cons_succ])
        refine wpAnyH_take (i := 3) (v := .pointer (some ⟨wr.heap.size, 2, none⟩)) rfl (by kernel_rfl) (by kernel_rfl) (by kernel_rfl) (fun _ _ _ h => h) (Or.inl ⟨by rfl, ?_⟩) (by assumption) ?_
        · intro w' hSw; go_simp
        (try simp only [Act.put, List.getElem_toArray, List.getElem_cons_zero, List.getElem_cons_succ, List.setIfInBounds_toArray, List.set_cons_zero, List.set_cons_succ])
        refine wpAnyH_take (i := 4) (v := .slice (some ⟨wb, wo, none⟩) l.length rc) rfl (by kernel_rfl) (by kernel_rfl) (by kernel_rfl) (fun _ _ _ h => h) (Or.inl ⟨by rfl, ?_⟩) (by assumption) ?_
        · intro w' hSw; have z0 := hSw.c2; go_simp
        (try simp only [Act.put, List.getElem_toArray, List.getElem_cons_zero, List.getElem_cons_succ, List.setIfInBounds_toArray, List.set_cons_zero, List.set_cons_succ])
        refine wpAnyH_take (i := 5) (v := .pointer (some ⟨wb, wo, none⟩)) rfl (by kernel_rfl) (by kernel_rfl) (by kernel_rfl) (fun _ _ _ h => h) (Or.inl ⟨by rfl, ?_⟩) (by assumption) ?_
        · intro w' hSw; go_simp
        (try simp only [Act.put, List.getElem_toArray, List.getElem_cons_zero, List.getElem_cons_succ, List.setIfInBounds_toArray, List.set_cons_zero, List.set_cons_succ])
        refine wpAnyH_take (i := 6) (v := .int .i32 y) rfl (by kernel_rfl) (by kernel_rfl) (by kernel_rfl) (fun _ _ _ h => h) (Or.inl ⟨by rfl, ?_⟩) (by assumption) ?_
        · intro w' hSw; have z0 := hSw.cw; go_simp
        (try simp only [Act.put, List.getElem_toArray, List.getElem_cons_zero, List.getElem_cons_succ, List.setIfInBounds_toArray, List.set_cons_zero, List.set_cons_succ])
        refine wpAnyH_ready (rs := [7]) (by kernel_rfl) (by simp) (AllReadyH.cons rfl (fun K hK => ?_) AllReadyH.nil)
        go_simp
        refine hK.out _ _ (HC3.out) (fun hHeld => ?_)
        clear hK K
        rename_i hOld
        clear hOld
        (try simp only [Act.put, List.getElem_toArray, List.getElem_cons_zero, List.getElem_cons_succ, List.setIfInBounds_toArray, List.set_cons_zero, List.set_cons_succ])
        clear hHeld
        refine wpAnyH_done (by kernel_rfl) ?_ _
        go_wp2_with fail
        go_roundw
        case rel => exact ⟨j + 1, _, by omega, rfl, by go_num, HR3.out, HF3.out, HA3.out, HOK2.out, HB3.out, HSZ3.out⟩
        case measure => simp [intOf]; omega
    · skip
      obtain rfl : j = cs.length := by omega
      obtain ⟨ws, hws⟩ : ∃ ws : World, ws = wr := ⟨_, rfl⟩
      subst hws
      have HCV : Hid (celV cs = VTo f cs.length ∧ celA cs = ATo f cs.length) := by
        have h := celTo_all cs
        rw [HFF.out] at h
        exact h
      have HWD : Hid (∀ w', Below W.heap.size W w' → ∀ i, i < cs.length → WordsAt w' (x i).1 (f i).l ∧ (f i).name.size ≤ 9223372036854775807) := fun w' hw i hi => by
        obtain ⟨_, _, _, h⟩ := HX.out w' hw i hi
        exact ⟨h.2.2.2.1, h.2.2.2.2⟩
      have HCE : Hid (∀ d ∈ cs, CelOk d) := fun d hd => by
        obtain ⟨i, hi⟩ := List.getElem?_of_mem hd
        have h1 : cs.getD i noCel = d := by rw [List.getD_eq_getElem?_getD, hi]; rfl
        rw [← h1, HFE.out]
        exact HOK.out i (List.getElem?_eq_some_iff.1 hi).1
      obtain ⟨hx1, hr1, hg1, _⟩ := HK.out ws HB.out
      obtain ⟨x0, x1, x2, x3⟩ := nd_cells hx1
      have HXP := Lib.hid (exprI_any w2.heap.size M1.heap.size cs.length cs.length (GTo f x cs.length) (VTo f cs.length) (ATo f cs.length) t ws a c hr1 hg1 HFV.out HFA.out
        (rows_to (fun i hi => ⟨(HWD.out ws HB.out i hi).1, by have := (HOK.out i hi).1; omega⟩)) (VTo_fit (fun i hi => ⟨(HWD.out ws HB.out i hi).1.words, (HOK.out i hi).2⟩)) (ATo_fit (fun i hi => (HWD.out ws HB.out i hi).1.words)))
      clear hx1 hr1 hg1
      go_wp2_with fail
      clear x0 x1 x2 x3
      refine HXP.out.mono ?_
      rintro e w3 ⟨xv, k, rfl, hv0, hv1, hB3⟩
      have HV0 := Lib.hid hv0
      have HV1 := Lib.hid hv1
      have HB3 := Lib.hid hB3
      have HB3W := Lib.hid (mem_then HB.out hB3)
      obtain ⟨hx1, hr1, hg1, hbb⟩ := HK.out w3 HB3W.out
      obtain ⟨x0, x1, x2, x3⟩ := nd_cells hx1
      have HIS := Lib.hid (isExpr_any t w3 a c hr1 hg1)
      clear hv0 hv1 hB3 hx1 hr1 hg1 HXP hbb
      go_wp2_with fail
      clear x0 x1 x2 x3
      refine HIS.out.mono ?_
      rintro e w4 ⟨rfl, hB4⟩
      have HB4 := Lib.hid hB4
      have HB4W := Lib.hid (mem_then HB3W.out hB4)
      clear HIS hB4
      cases hvl : t.vld 101 with
      | false =>
        obtain ⟨rfl, rfl⟩ := HV0.out hvl
        clear hvl
        go_wp2_with fail
        go_ret
        exact ⟨rfl, (HK.out w4 HB4W.out).2.2.2⟩
      | true =>
      obtain ⟨hk, hv2, hv3⟩ := HV1.out hvl
      have hcels : CelsAt w4 va cs := by
        have h := own_below (own_below HRO.out HB3.out) HB4.out
        rw [← HFF.out] at h
        exact cels_row h (by omega) (fun i hi => by rw [HFE.out]; exact HWD.out w4 HB4W.out i hi)
      obtain ⟨hx1, hr1, _, _⟩ := HK.out w4 HB4W.out
      obtain ⟨x0, x1, x2, x3⟩ := nd_cells hx1
      have hre := refE_any cs va vc (fun d hd => (HCE.out d hd).2) (fun d hd => by have := (HCE.out d hd).1; omega) t hvl w4 a c hr1 hcels
      rw [HCV.out.1, HCV.out.2] at hre
      have HNE : Hid (∀ k, t.ev (VTo f cs.length) (ATo f cs.length) = .er k → k ≠ 0) := fun k h => ev_ne0 _ _ _ k h
      obtain ⟨ev, hev⟩ : ∃ ev, t.ev (VTo f cs.length) (ATo f cs.length) = ev := ⟨_, rfl⟩
      rw [hev] at hre hk hv3
      have HNE2 : Hid (∀ k, ev = .er k → k ≠ 0) := fun k h => HNE.out k (hev.trans h)
      have HRE := Lib.hid hre
      have HV2 := Lib.hid hv2
      have HV3 := Lib.hid hv3
      subst hk
      clear hvl hcels hx1 hr1 hre hev hv2 hv3 HNE HV0 HV1
      go_wp2_with fail
      clear x0 x1 x2 x3
      refine HRE.out.mono ?_
      rintro e w5 ⟨yv, rfl, _, hy, hB5⟩
      have HB5W := Lib.hid (mem_then HB4W.out hB5)
      have HY := Lib.hid hy
      clear HRE hB5 hy
      cases ev with
      | er k0 =>
        have hne := HNE2.out k0 rfl
        obtain rfl := HV2.out hne
        have hb1 : (k0 != 0) = true := by simpa using hne
        have hb2 : (k0 == 0) = false := by simpa using hne
        have hb3 : evK (.er k0) = k0 := rfl
        go_wp2_with fail
        go_ret
        exact ⟨rfl, (HK.out w5 HB5W.out).2.2.2⟩
      | ok z =>
        obtain rfl := HV3.out z rfl
        obtain rfl := HY.out _ rfl
        have hb3 : evK (.ok yv) = 0 := rfl
        go_wp2_with fail
        go_ret
        exact ⟨rfl, (HK.out w5 HB5W.out).2.2.2⟩
end Go.Proofs.YtgochgcchkdlmaaDoor
