/-
  The law InterpUnrolls (package ontimelaw16).
-/
import Derived.Test.YtgochgcchkdlmaaDoorInBody
import Derived.Test.YtgochgcchkdlmaaDoorInTwo
import Derived.Test.YtgochgcchkdlmaaDoorChkPlains
import Derived.Deep.DeepCutAuto
namespace Go.Proofs.YtgochgcchkdlmaaDoor
set_option linter.unusedVariables false
set_option linter.unusedSimpArgs false
open Go.RowKit Go.Maps
set_option maxRecDepth 100000
set_option maxHeartbeats 80000000

/-! ### the law, plainly -/
theorem varsV_none {l : List ByteArray} {nm : ByteArray} (h : nm ∉ l) : varsV l nm = none := by
  cases hv : varsV l nm with
  | none => rfl
  | some v =>
    obtain ⟨k, hk⟩ := fP_mem hv
    rw [List.getElem?_map] at hk
    obtain ⟨x, hx, e⟩ := Option.map_eq_some_iff.1 hk
    cases e
    exact absurd (List.mem_of_getElem? hx) h
theorem kidsL_get {t : Tree} {i : Nat} (h : i < t.len) : (kidsL t)[i]? = some (t.kid i) := by unfold kidsL; simp [h]
theorem blk_kind {t : Tree} (h : t.vld 98 = true) : t.kind = 47 := by
  have hb := (vld_parts h).1
  unfold Fm.belongs at hb
  rw [if_neg (by decide), if_neg (by decide), if_neg (by decide)] at hb
  exact of_decide_eq_true hb
theorem unroll_kids {p : Prg} {i : Nat} (h : okP p = true) (hi : i < p.tasks.length) : ∀ n ∈ kidsL (p.tasks.getD i Tsk.none).body, n.vld 115 = true ∧ ∃ path place locks, faultsT ⟨p.shared.map (·.name), (p.tasks.getD i Tsk.none).vars, (p.tasks.getD i Tsk.none).arrays.map (·.name)⟩ n path place [] locks = [] := by
  intro n hn
  obtain ⟨t, ht⟩ : ∃ t, p.tasks.getD i Tsk.none = t := ⟨_, rfl⟩
  have htok : tskOk t = true := by rw [← ht]; exact (prgOk_le (okP_parts h).1).2.2 i hi
  have hv := tskOk_body htok
  have hf := (taskF_nil (task_in h hi).2).2
  rw [ht] at hn hf ⊢
  have h47 := blk_kind hv
  obtain ⟨k, hk⟩ := List.getElem?_of_mem hn
  have hkl : k < t.body.len := by have := (List.getElem?_eq_some_iff.1 hk).1; rwa [kidsL_len] at this
  rw [kidsL_get hkl] at hk
  cases hk
  refine ⟨(vld_parts hv).2.1 h47 k hkl, ?_⟩
  have h1 := (faults_parts hf).2 k hkl
  rw [show loopsIn t.body [] = [] by unfold loopsIn; rw [if_neg (by omega)]] at h1
  exact ⟨_, _, _, h1⟩
theorem unroll_job {p : Prg} {task : Int} {M : Mem} {inp : List Int} (h : runP p task M = true) (hq : okP (bodyP p task.toNat (ofL (unr (kidsL (p.tasks.getD task.toNat Tsk.none).body)))) = true) :
    (jobP p task M inp 3000).err = 13 ∨ (jobP (bodyP p task.toNat (ofL (unr (kidsL (p.tasks.getD task.toNat Tsk.none).body)))) task M inp 3000).err = 13 ∨
      sameP (jobP p task M inp 3000) (jobP (bodyP p task.toNat (ofL (unr (kidsL (p.tasks.getD task.toNat Tsk.none).body)))) task M inp 3000) false = true := by
  have h3 := h
  unfold runP at h3
  simp only [Bool.and_eq_true, decide_eq_true_eq] at h3
  obtain ⟨g1, g2, g3, _⟩ := h3
  have hi : task.toNat < p.tasks.length := by omega
  obtain ⟨i, hie⟩ : ∃ i, task.toNat = i := ⟨_, rfl⟩
  rw [bodyP_job h hq, jobP_run h]
  rw [hie] at hi ⊢
  have htok : tskOk (p.tasks.getD i Tsk.none) = true := (prgOk_le (okP_parts g1).1).2.2 i hi
  have h47 := blk_kind (tskOk_body htok)
  rw [blk_exL h47, blk_exL (show (ofL _).kind = 47 from rfl), kidsL_ofL]
  have hr := unr_relV (d := ⟨p.shared.map (·.name), (p.tasks.getD i Tsk.none).vars, (p.tasks.getD i Tsk.none).arrays.map (·.name)⟩) (F := 3000) (F' := 3000) (inp := inp) (kidsL (p.tasks.getD i Tsk.none).body) (unroll_kids g1 hi) (jobS p i M) (jobS p i M) ⟨rfl, rfl, rfl, rfl⟩ (fun x hx _ => varsV_none hx)
  rcases hr with h1 | h1 | ⟨h1, h2, h4, h5, _⟩
  · exact .inl h1
  · exact .inr (.inl h1)
  · right; right
    have key : ∀ r r' : SR, r'.2 = r.2 → r'.1.A = r.1.A → r'.1.out = r.1.out → r'.1.rd = r.1.rd → sameP (runR p i M r) (runR p i M r') false = true := fun r r' h1 h2 h3 h4 => by
      unfold sameP runR
      simp [h1, h2, h3, h4]
    exact key _ _ h1 h2 h4 h5
/-- what is still to come -/
def restU (dn : Bool) (l : List Tree) : List Tree := if dn then l else unr l
/-- the children of a block, read in a row of the call's own -/
theorem kids_in {S : Nat → Prop} {w : World} {t : Tree} {a : Option Addr} (h : RepIn S w t a) : ∃ y : Nat → Option Addr × Nat, Src w a t.len 4 (rowsTo (fun i => (kidsL t).getD i noT) y t.len) ∧ ∀ i, i < t.len → RepIn S w ((kidsL t).getD i noT) (y i).1 := by
  have hg : ∀ i, i < t.len → (kidsL t).getD i noT = t.kid i := fun i hi => by rw [List.getD_eq_getElem?_getD, kidsL_get hi]; rfl
  rcases h.kids with h0 | ⟨b, off, ha, hS, hk⟩
  · rw [h0]
    exact ⟨fun _ => (none, 0), ⟨rfl, .inl rfl⟩, fun i hi => by omega⟩
  · have hm : ∀ i : Nat, ∃ y : Option Addr × Nat, i < t.len → NodeAt w b (off + i * 4) (t.kid i) y.1 y.2 ∧ RepIn S w (t.kid i) y.1 := fun i => by
      by_cases hi : i < t.len
      · obtain ⟨ai, ci, h1, h2⟩ := hk i hi
        exact ⟨(ai, ci), fun _ => ⟨h1, h2⟩⟩
      · exact ⟨(none, 0), fun h => absurd h hi⟩
    obtain ⟨y, hy⟩ := Classical.axiomOfChoice hm
    refine ⟨y, ?_, fun i hi => by rw [hg i hi]; exact (hy i hi).2⟩
    rw [ha, rowsTo_kids hg]
    exact nodes_src (fun i hi => (hy i hi).1)
theorem run_kids (w : World) (x0 x1 : Int) (x2 : ByteArray) (a : Option Addr) (n c : Nat) : (Instr.field 50 (.agg #[.int .u8 x0, .int .i64 x1, .string x2, .slice a n c]) 3).run Tryd.prog w = .ok (.slice a n c) w := by kernel_rfl
theorem restU_one {dn : Bool} {n : Tree} {l : List Tree} (h : dn = true ∨ n.kind ≠ 42 ∨ 6 < n.num) : restU dn (n :: l) = n :: restU dn l := by
  unfold restU
  cases dn with
  | true => rfl
  | false =>
    have h : n.kind ≠ 42 ∨ 6 < n.num := h.resolve_left (by decide)
    show unr (n :: l) = n :: unr l
    rw [unr, if_pos h]
theorem restU_loop {dn : Bool} {n : Tree} {l : List Tree} (h : ¬ (dn = true ∨ n.kind ≠ 42 ∨ 6 < n.num)) : restU dn (n :: l) = rounds n n.num.toNat ++ l := by
  unfold restU
  cases dn with
  | true => exact absurd (.inl rfl) h
  | false =>
    have h : ¬ (n.kind ≠ 42 ∨ 6 < n.num) := fun h' => h (.inr h')
    show unr (n :: l) = _
    rw [unr, if_neg h]
theorem unrolls_any (p : Prg) (task : Int) (M : Mem) (inp : List Int) (w : World) (sa ta : Option Addr) (sc tc : Nat) (ma ms : Option Addr) (mac msc : Nat) (ia : Option Addr) (ic : Nat)
    (hp : PrgAt w p sa ta) (hm : MemAt w M ma ms) (hi : WordsAt w ia inp) (hg : SignsIn w) (ht : isI64 task) :
    Calls Tryd.prog 8 #[p.val sa sc ta tc, .int .i64 task, M.val ma mac ms msc, .slice ia inp.length ic] w fun e w' => e = .returned (.bool true) ∧ Below w.heap.size w w' := by
  obtain ⟨i0, hi0, hz0, hz1, hz2⟩ := info_parts node_info
  have hil := hi.fits
  obtain ⟨W, hW⟩ : ∃ W : World, w.alloc (prgObj p sa sc ta tc) = W := ⟨_, rfl⟩
  have hBW : Below w.heap.size w W := by rw [← hW]; exact mem_alloc _ _
  have hXW : W.heap[w.heap.size]? = some (prgObj p sa sc ta tc) := by rw [← hW]; exact mem_new _ _
  obtain ⟨W2, hW2⟩ : ∃ W2 : World, W.alloc (memObj M ma mac ms msc) = W2 := ⟨_, rfl⟩
  have hBW2 : Below W.heap.size W W2 := by rw [← hW2]; exact mem_alloc _ _
  have hXW2 : W2.heap[W.heap.size]? = some (memObj M ma mac ms msc) := by rw [← hW2]; exact mem_new _ _
  have HK : Hid (∀ w', Below W2.heap.size W2 w' → w'.heap[w.heap.size]? = some (prgObj p sa sc ta tc) ∧ w'.heap[W.heap.size]? = some (memObj M ma mac ms msc) ∧ PrgAt w' p sa ta ∧ MemAt w' M ma ms ∧ WordsAt w' ia inp ∧ SignsIn w' ∧ Below w.heap.size w w') := fun w' hw => by
    have hb := mem_then (mem_then hBW hBW2) hw
    exact ⟨mem_keep (mem_keep hXW hBW2) hw, mem_keep hXW2 hw, hp.below hb, hm.below hb, hi.below hb, hg.below hb, hb⟩
  have HAW := Lib.hid (awake_any W2 (HK.out W2 (Below.refl _ _)).2.2.2.2.2.1)
  have HT := Lib.hid ht
  have HPW := Lib.hid hp
  clear hp hm hi hg hBW hXW hBW2 hXW2 ht
  go_enter Tryd.func8, Tryd.ntmps8
  go_wp2_with fail
  clear hW hW2
  refine HAW.out.mono ?_
  rintro e w1 ⟨rfl, hB1⟩
  have HB1 := Lib.hid hB1
  obtain ⟨hx1, hx2, hp1, hm1, _, _, _⟩ := HK.out w1 hB1
  obtain ⟨x0, x1⟩ := mem_two hx1
  obtain ⟨y0, y1⟩ := mem_two hx2
  have HGR := Lib.hid (great16_any p M inp.length w1 sa ta sc tc ma ms mac msc ia ic hp1 hm1 hil)
  clear HAW hB1 hx1 hx2 hp1 hm1
  go_wp2_with fail
  clear x0 x1 y0 y1
  refine HGR.out.mono ?_
  rintro e w2 ⟨rfl, hB2⟩
  have HB2 := Lib.hid (mem_then HB1.out hB2)
  clear HGR hB2
  cases hbig : bigP p M inp.length with
  | true =>
    have hbn := bigN_t hbig
    clear hbig
    go_wp2_with fail
    go_ret
    exact ⟨rfl, (HK.out w2 HB2.out).2.2.2.2.2.2⟩
  | false =>
  have hbn := bigN_f hbig
  have hn40 := bigP_f hbig
  obtain ⟨hx1, hx2, hp1, hm1, _, hg1, _⟩ := HK.out w2 HB2.out
  obtain ⟨x0, x1⟩ := mem_two hx1
  obtain ⟨y0, y1⟩ := mem_two hx2
  have HRN := Lib.hid (runnable_any p task M w2 sa ta sc tc ma ms mac msc hp1 hm1 hg1 HT.out)
  clear hbig hx1 hx2 hp1 hm1 hg1
  go_wp2_with fail
  clear x0 x1 y0 y1
  refine HRN.out.mono ?_
  rintro e w3 ⟨rfl, hB3⟩
  have HB3 := Lib.hid (mem_then HB2.out hB3)
  clear HRN hB3
  cases hrun : runP p task M with
  | false =>
    clear hrun
    go_wp2_with fail
    go_ret
    exact ⟨rfl, (HK.out w3 HB3.out).2.2.2.2.2.2⟩
  | true =>
  have HRUN := Lib.hid hrun
  obtain ⟨i, hti, hil2, hok⟩ : ∃ i : Nat, task = (i : Int) ∧ i < p.tasks.length ∧ okP p = true := by
    unfold runP at hrun
    simp only [Bool.and_eq_true, decide_eq_true_eq] at hrun
    obtain ⟨g1, g2, g3, _⟩ := hrun
    exact ⟨task.toNat, by omega, by omega, g1⟩
  subst hti
  have hi2 : (i : Int) < (p.tasks.length : Int) := by omega
  have hi00 : (0 : Int) ≤ (i : Int) := by omega
  have HLE := Lib.hid (prgOk_le (okP_parts hok).1)
  obtain ⟨tb, tf, ⟨qva, qvc, qaa, qac, qka, qkc⟩, hta, hc, hin⟩ := HPW.out.2.2 i hil2
  subst hta
  obtain ⟨t, ht⟩ : ∃ t, p.tasks.getD i Tsk.none = t := ⟨_, rfl⟩
  rw [ht] at hc hin
  have HTD := Lib.hid ht
  have HTOK : Hid (tskOk t = true) := by show _ = _; rw [← ht]; exact HLE.out.2.2 i hil2
  have hbl : t.body.len ≤ 400 := by
    have h1 := (tskOk_le HTOK.out).2.2
    have h2 := Tree.size_eq t.body
    have h3 : ∀ (f : Nat → Nat) (n : Nat), (∀ i, 1 ≤ f i) → n ≤ Tree.sumTo f n := by
      intro f n hf
      induction n with
      | zero => exact Nat.zero_le _
      | succ n ihn => rw [Tree.sumTo_succ]; have := hf n; omega
    have h4 := h3 (fun i => (t.body.kid i).size) t.body.len (fun i => Tree.size_pos _)
    omega
  obtain ⟨hx1, hx2, hp3, hm3, hi3, hg3, hb3⟩ := HK.out w3 HB3.out
  have HIN := Lib.hid (hin.below hb3)
  have HIN0 := Lib.hid hin
  have c7 : w3.cell? ⟨tb, tf + i * 8 + 7, none⟩ = some (.slice qka t.body.len qkc) := cell_below hb3 (hc 7 (by omega))
  have hbt := World.block_lt_of_cell? _ _ c7
  have HTB : Hid (tb < W2.heap.size) := by have h1 := World.block_lt_of_cell? _ _ (show w.cell? ⟨tb, tf + i * 8 + 7, none⟩ = some (.slice qka t.body.len qkc) from hc 7 (by omega)); have h2 := (HK.out W2 (Below.refl _ _)).2.2.2.2.2.2.size; show _ < _; exact Nat.lt_of_lt_of_le h1 h2
  obtain ⟨x0, x1⟩ := mem_two hx1
  have HKP : Hid (∀ w', Below W2.heap.size W2 w' → TskIn w' t ⟨qva, qvc, qaa, qac, qka, qkc⟩) := fun w' hw => HIN0.out.below (HK.out w' hw).2.2.2.2.2.2
  obtain ⟨KS, hKS⟩ : ∃ KS, kidsL t.body = KS := ⟨_, rfl⟩
  have hksl : KS.length = t.body.len := by rw [← hKS]; exact kidsL_len _
  have HKS : Hid (KS.length = t.body.len ∧ ∀ j, j < t.body.len → KS[j]? = some (t.body.kid j)) := ⟨hksl, fun j hj => by rw [← hKS]; exact kidsL_get hj⟩
  have HUK : Hid (∀ n ∈ KS, n.vld 115 = true) := fun n hn => by
    have h := unroll_kids hok hil2
    rw [ht, hKS] at h
    exact (h n hn).1
  have HKE := Lib.hid hKS
  have HW3 : Hid (W2.heap.size ≤ w3.heap.size) := HB3.out.size
  clear hrun hok ht hc hin hx1 hx2 hp3 hm3 hi3 hg3 hb3 hksl hKS
  have hbX := mem_alloc w3 (nodeObj (.int .u8 47) (.int .i64 0) (.string ⟨#[]⟩) (.slice none 0 0))
  have hXX := mem_new w3 (nodeObj (.int .u8 47) (.int .i64 0) (.string ⟨#[]⟩) (.slice none 0 0))
  have HAL := Lib.hid (And.intro hXX hbX)
  have hwl : w.heap.size < w3.heap.size := World.block_lt_of_cell? _ _ x0
  have htl3 : tb < w3.heap.size := hbt
  clear hbX hXX
  go_wp2_with fail
  clear x0 x1 c7
  obtain ⟨X, hX⟩ : ∃ X : World, w3.alloc (nodeObj (.int .u8 47) (.int .i64 0) (.string ⟨#[]⟩) (.slice none 0 0)) = X := ⟨_, rfl⟩
  rw [hX] at HAL ⊢
  have HXX := Lib.hid HAL.out.1
  have HBX : Hid (Below W2.heap.size W2 X) := mem_then HB3.out HAL.out.2
  have HXL : Hid (w3.heap.size < X.heap.size) := mem_lt HXX.out
  obtain ⟨b9, hb9⟩ : ∃ b, w3.heap.size = b := ⟨_, rfl⟩
  rw [hb9] at HXX HXL HW3 ⊢
  clear hX HAL hb9
  go_loopw [10, 40] (fun dv iv wr => ∃ (j : Nat) (dn : Bool) (v : Value) (L : List Tree) (x : Nat → Option Addr × Nat), j ≤ t.body.len ∧ dv = .bool dn ∧ iv = .int .i64 (j : Int) ∧ wr.heap[b9]? = some (nodeObj (.int .u8 47) (.int .i64 0) (.string ⟨#[]⟩) v) ∧ NRow X.heap.size (fun k => k ≠ b9) wr v L x ∧ L ++ restU dn (KS.drop j) = unr KS ∧ L.length ≤ j + (if dn then 3000 else 0) ∧ Below W2.heap.size W2 wr ∧ X.heap.size ≤ wr.heap.size) (fun _ iv _ => t.body.len - (intOf iv).toNat)
  case atStart => exact ⟨0, false, _, [], _, Nat.zero_le _, rfl, rfl, HXX.out, NRow.nil, rfl, Nat.zero_le _, HBX.out, Nat.le_refl _⟩
  case round =>
    obtain ⟨j, dn, v, L, x, hj, rfl, rfl, hb, hrow, heq, hLl, hB, hsz⟩ := hrel
    have HBB := Lib.hid hb
    have HROW := Lib.hid hrow
    have HEQ := Lib.hid heq
    have HB := Lib.hid hB
    have HSZ := Lib.hid hsz
    have HLL := Lib.hid hLl
    have hj0 : (0 : Int) ≤ (j : Int) := by omega
    have hLm : L.length ≤ 4000 := by
      cases dn with
      | true => rw [if_pos rfl] at hLl; omega
      | false => rw [if_neg (by decide)] at hLl; omega
    have hro := hrow.ro
    obtain ⟨va, vc, rfl⟩ := own_val hro
    have HRO := Lib.hid hro
    clear hb hrow heq hB hsz hLl hro
    by_cases hlt : j < t.body.len
    · have hlt2 : (j : Int) < (t.body.len : Int) := by omega
      obtain ⟨kb, ko, hka, hkk⟩ := (HKP.out W2 (Below.refl _ _)).body.kids.resolve_left (by omega)
      have hka : qka = some ⟨kb, ko, none⟩ := hka
      subst hka
      obtain ⟨ai, ci, hnode, hkr⟩ := hkk j hlt
      obtain ⟨n, hn⟩ : ∃ n, t.body.kid j = n := ⟨_, rfl⟩
      rw [hn] at hnode hkr
      have hnv : n.vld 115 = true := HUK.out n (by rw [← hn]; exact List.mem_of_getElem? (HKS.out.2 j hlt))
      have HNV := Lib.hid hnv
      obtain ⟨n0, n1, n2, n3⟩ := hnode.below HB.out hnode.lt
      have hnb2 := World.block_lt_of_cell? _ _ n0
      have HKR := Lib.hid hkr
      have HDR : Hid (KS.drop j = n :: KS.drop (j + 1)) := by
        show _ = _
        have h1 := HKS.out.2 j hlt
        rw [hn] at h1
        obtain ⟨h2, h3⟩ := List.getElem?_eq_some_iff.1 h1
        rw [List.drop_eq_getElem_cons h2, h3]
      obtain ⟨V, hV⟩ : ∃ V : World, wr.alloc (nodeObj (.int .u8 n.kind) (.int .i64 n.num) (.string n.name) (.slice ai n.len ci)) = V := ⟨_, rfl⟩
      have hBV : Below wr.heap.size wr V := by rw [← hV]; exact mem_alloc _ _
      have hXV : V.heap[wr.heap.size]? = some (nodeObj (.int .u8 n.kind) (.int .i64 n.num) (.string n.name) (.slice ai n.len ci)) := by rw [← hV]; exact mem_new _ _
      have HXV := Lib.hid hXV
      have HBV := Lib.hid hBV
      have HVL : Hid (wr.heap.size < V.heap.size ∧ b9 < wr.heap.size) := ⟨mem_lt hXV, mem_lt HBB.out⟩
      obtain ⟨y0, y1, y2, y3⟩ := node_cells hXV
      obtain ⟨m0, m1, m2, m3⟩ := node_cells (mem_keep HBB.out hBV)
      clear hkk hkr hn hBV hXV
      by_cases hc : dn = true ∨ n.kind ≠ 42 ∨ 6 < n.num
      · skip
        have HEQ2 : Hid ((L ++ [n]) ++ restU dn (KS.drop (j + 1)) = unr KS) := by
          have h := HEQ.out
          rw [HDR.out, restU_one hc] at h
          show _ = _
          rw [← h, List.append_assoc]
          rfl
        have HLL2 : Hid ((L ++ [n]).length ≤ j + 1 + (if dn then 3000 else 0)) := by have h := HLL.out; show _ ≤ _; rw [List.length_append, List.length_singleton]; omega
        have hq : dn = true ∨ (dn = false ∧ (n.kind != 42) = true) ∨ (dn = false ∧ (n.kind != 42) = false ∧ decide ((6 : Int) < n.num) = true) := by
          cases dn with
          | true => exact .inl rfl
          | false =>
            rcases hc.resolve_left (by decide) with h | h
            · exact .inr (.inl ⟨rfl, by simpa using h⟩)
            · by_cases h2 : n.kind = 42
              · exact .inr (.inr ⟨rfl, by simp [h2], decide_eq_true h⟩)
              · exact .inr (.inl ⟨rfl, by simpa using h2⟩)
        obtain ⟨V2, hV2⟩ : ∃ V2 : World, V.alloc (nodeObj (.int .u8 n.kind) (.int .i64 n.num) (.string n.name) (.slice ai n.len ci)) = V2 := ⟨_, rfl⟩
        have hb2 : Below V.heap.size V V2 := by rw [← hV2]; exact mem_alloc _ _
        have HX2 : Hid (V2.heap[V.heap.size]? = some (nodeObj (.int .u8 n.kind) (.int .i64 n.num) (.string n.name) (.slice ai n.len ci))) := by show _ = _; rw [← hV2]; exact mem_new _ _
        have HBV2 := Lib.hid (mem_then HBV.out hb2)
        have HRO2 := Lib.hid (own_below HRO.out HBV2.out)
        have HRN : Hid (RepIn (fun k => k ≠ b9 ∧ (Value.slice va L.length vc).ownBlock ≠ some k) V2 n ai) := (HKR.out.old (HB.out.trans (HBV2.out.mono HB.out.size))).mono (fun k hk => ⟨by have := HW3.out; omega, fun e => by have := (own_lt HRO.out e).1; have := HW3.out; have := HXL.out; omega⟩)
        have HBK2 := Lib.hid (mem_keep HBB.out HBV2.out)
        clear hc hb2
        rcases hq with rfl | ⟨rfl, hk⟩ | ⟨rfl, hk, h6⟩
        all_goals
          go_wp2_with (at_builtin; refine wpList_append_src _ rfl (.tmp 56) (.tmp 58) 48 rfl X.heap.size 50 i0 _ 4 56 Tryd.underlying48 hi0 hz0 hz1 hz2 rfl (by decide) (.slice va L.length vc) L.length _ rfl HRO2.out (some ⟨V.heap.size, 0, none⟩) 1 1 [.int .u8 n.kind, .int .i64 n.num, .string n.name, .slice ai n.len ci] rfl (src_new HX2.out rfl) (by simp [Value.oneCell']) (by unfold maxLen; omega) (by omega) (Nat.le_trans HSZ.out HBV2.out.size) ?_)
          clear n0 n1 n2 n3 y0 y1 y2 y3 m0 m1 m2 m3 hV hV2
          intro v9 w9 hown hgrow hplace
          have hN9 : NRow X.heap.size (fun k => k ≠ b9) w9 v9 (L ++ [n]) (fun i => if i < L.length then x i else (ai, ci)) := HROW.out.push HBV2.out (m := [n]) (y := fun _ => (ai, ci)) (fun i hi => by
            have hi1 : i < 1 := hi
            obtain rfl : i = 0 := by omega
            exact HRN.out) hgrow hplace hown
          have hxl := HXL.out
          have hw3 := HW3.out
          have hB9 : Below W2.heap.size W2 w9 := (HB.out.trans (HBV2.out.mono HB.out.size)).grown hgrow (by have := HB.out.size; have := HBV2.out.size; omega) (fun b hb => by have := (own_lt HRO2.out hb).1; omega)
          have hX9 : w9.heap[b9]? = some (nodeObj (.int .u8 47) (.int .i64 0) (.string ⟨#[]⟩) (.slice va L.length vc)) := (hgrow.block _ (mem_lt HBK2.out) (fun e => by have := (own_lt HRO2.out e.symm).1; omega)).trans HBK2.out
          have hO9 : v9.ownBlock ≠ some b9 := fun e => by have := (own_lt hN9.ro e).1; omega
          obtain ⟨F, hF⟩ : ∃ F : World, w9.setCell ⟨b9, 3, none⟩ v9 = F := ⟨_, rfl⟩
          have HXF : Hid (F.heap[b9]? = some (nodeObj (.int .u8 47) (.int .i64 0) (.string ⟨#[]⟩) v9)) := by show _ = _; rw [← hF, mem_set hX9]; rfl
          have HNF : Hid (NRow X.heap.size (fun k => k ≠ b9) F v9 (L ++ [n]) (fun i => if i < L.length then x i else (ai, ci))) := hN9.stay hO9 (fun k hk => hk) (fun k hk => by rw [← hF, Below.heap_setCell _ _ _ _ hk])
          have HBF : Hid (Below W2.heap.size W2 F) := by show Below _ _ _; rw [← hF]; exact hB9.setCell (p := ⟨b9, 3, none⟩) (by show W2.heap.size ≤ b9; omega) _
          have HSF : Hid (X.heap.size ≤ F.heap.size) := by have h1 := HSZ.out; have h2 := HBV2.out.size; have h3 := hgrow.size; show _ ≤ _; rw [← hF]; simp; omega
          obtain ⟨va9, vc9, rfl⟩ := own_val hown
          obtain ⟨q0, q1, q2, q3⟩ := node_cells hX9
          have f3 := mem_free hX9 3
          clear hN9 hB9 hX9 hO9 hown hgrow hplace hxl hw3
          go_wp2_with fail
          try rw [hF]
          go_roundw
          case rel => exact ⟨j + 1, _, _, _, _, by omega, rfl, by go_num, HXF.out, HNF.out, HEQ2.out, HLL2.out, HBF.out, HSF.out⟩
          case measure => simp [intOf]; omega
      · skip
        have hdn : dn = false := by cases dn with | true => exact absurd (.inl rfl) hc | false => rfl
        have h42 : n.kind = 42 := by by_cases h : n.kind = 42; exact h; exact absurd (.inr (.inl h)) hc
        have h6 : n.num ≤ 6 := by by_cases h : 6 < n.num; exact absurd (.inr (.inr h)) hc; omega
        have HEQ2 : Hid ((L ++ rounds n n.num.toNat) ++ restU true (KS.drop (j + 1)) = unr KS) := by
          have h := HEQ.out
          rw [HDR.out, restU_loop hc] at h
          show _ = _
          rw [← h, List.append_assoc]
          rfl
        obtain ⟨_, _, v3⟩ := vld_parts HNV.out
        obtain ⟨v4, v5, v6, v7⟩ := v3 (by omega)
        have hl1 : n.len = 1 := by rw [v4, h42]; decide
        have hlo : 1 ≤ n.num := by have h : Fm.lo n.kind ≤ n.num := v5; rw [h42] at h; have e : Fm.lo 42 = 1 := (by decide); omega
        have hv0 : (n.kid 0).vld 98 = true := by have h := v7 0 (by omega); rw [h42] at h; exact h
        obtain ⟨N, hN⟩ : ∃ N : Nat, n.num = (N : Int) := ⟨n.num.toNat, by omega⟩
        have hN6 : N ≤ 6 := by omega
        have hNt : n.num.toNat = N := by omega
        rw [hNt] at HEQ2
        obtain ⟨nb, no, hna, hnk⟩ := HKR.out.kids.resolve_left (by omega)
        obtain ⟨a0, c0, hnd0, hr0⟩ := hnk 0 (by omega)
        subst hna
        obtain ⟨B, hBe⟩ : ∃ B, n.kid 0 = B := ⟨_, rfl⟩
        have HBE := Lib.hid hBe
        rw [hBe] at hnd0 hr0 hv0
        have hBk : B.kind = 47 := blk_kind hv0
        have hsz : B.size ≤ 400 := by
          have h1 := (tskOk_le HTOK.out).2.2
          have h2 := Tree.size_kid hlt
          have h3 := Tree.size_kid (t := n) (i := 0) (by omega)
          have h4 : KS[j]? = some n := by have h := HDR.out; have h5 := congrArg (fun l => l[0]?) h; rw [List.getElem?_drop] at h5; simpa using h5
          have h5 := HKS.out.2 j hlt
          rw [h4] at h5
          have h6 : n = t.body.kid j := Option.some.inj h5
          rw [← h6] at h2
          rw [hBe] at h3
          omega
        have hBl : B.len ≤ 400 := by
          have h2 := Tree.size_eq B
          have h3 : ∀ (f : Nat → Nat) (n : Nat), (∀ i, 1 ≤ f i) → n ≤ Tree.sumTo f n := by
            intro f n hf
            induction n with
            | zero => exact Nat.zero_le _
            | succ n ihn => rw [Tree.sumTo_succ]; have := hf n; omega
          have h4 := h3 (fun i => (B.kid i).size) B.len (fun i => Tree.size_pos _)
          omega
        have HND := Lib.hid hnd0
        have HR0 := Lib.hid hr0
        have HROU : Hid (∀ m : Nat, rounds n (m + 1) = rounds n m ++ kidsL (B.repl n.name (m : Int))) := fun m => by
          unfold rounds
          rw [List.range_succ, List.flatMap_append, hBe]
          simp
        have hk1 : (n.kind != 42) = false := by simp [h42]
        have hk2 : decide ((6 : Int) < n.num) = false := decide_eq_false (by omega)
        have HNM := Lib.hid hN
        have hnn : (N : Int) ≤ 6 := by omega
        have hll : L.length ≤ j := by have h := HLL.out; rw [hdn, if_neg (by decide)] at h; omega
        have HBKV := Lib.hid (mem_keep HBB.out HBV.out)
        subst hdn
        rw [hN] at hk2 y1 n1 hV HXV
        have HL1 := Lib.hid hl1
        clear hc h42 h6 v3 v4 v5 v6 v7 hlo hv0 hNt hnk hnd0 hr0 hBe hN HEQ HLL hl1
        go_wp2_with fail
        try rw [hV]
        clear n0 n1 n2 n3 y0 y1 y2 y3 m0 m1 m2 m3 hV
        obtain ⟨wo, hwo⟩ : ∃ wo : World, wo = wr := ⟨_, rfl⟩
        subst hwo
        go_loopw [63] (fun iv wr => ∃ (m : Nat) (v : Value) (L2 : List Tree) (x2 : Nat → Option Addr × Nat), m ≤ N ∧ iv = .int .i64 (m : Int) ∧ wr.heap[b9]? = some (nodeObj (.int .u8 47) (.int .i64 0) (.string ⟨#[]⟩) v) ∧ wr.heap[wo.heap.size]? = some (nodeObj (.int .u8 n.kind) (.int .i64 (N : Int)) (.string n.name) (.slice (some ⟨nb, no, none⟩) n.len ci)) ∧ NRow X.heap.size (fun k => k ≠ b9) wr v L2 x2 ∧ L2 = L ++ rounds n m ∧ L2.length ≤ L.length + m * 400 ∧ v.ownBlock ≠ some wo.heap.size ∧ Below W2.heap.size W2 wr ∧ X.heap.size ≤ wr.heap.size) (fun iv _ => N - (intOf iv).toNat)
        case atStart => exact ⟨0, _, L, x, Nat.zero_le _, rfl, HBKV.out, HXV.out, HROW.out.keep HBV.out, by show L = L ++ []; rw [List.append_nil], by omega, fun e => by have := (own_lt HRO.out e).2; omega, HB.out.trans (HBV.out.mono HB.out.size), Nat.le_trans HSZ.out HBV.out.size⟩
        case round =>
          obtain ⟨m, v, L2, x2, hm, rfl, hb, hbn, hrow, hL2, hLl2, hno, hB2, hsz2⟩ := hrel
          have HBB2 := Lib.hid hb
          have HBN2 := Lib.hid hbn
          have HROW2 := Lib.hid hrow
          have HNO := Lib.hid hno
          have HLL2 := Lib.hid hLl2
          have HL2 := Lib.hid hL2
          have HB2' := Lib.hid hB2
          have HSZ2 := Lib.hid hsz2
          have hm0 : (0 : Int) ≤ (m : Int) := by omega
          have hL2m : L2.length ≤ 4000 := by omega
          have hro := hrow.ro
          obtain ⟨za, zc, rfl⟩ := own_val hro
          have HRO2 := Lib.hid hro
          clear hb hbn hrow hL2 hB2 hsz2 hro hno hLl2
          by_cases hlm : m < N
          · have hlm2 : (m : Int) < (N : Int) := by omega
            go_upto_region 16 with fail
            have hl0 : 0 < n.len := by have := HL1.out; omega
            have hl0' : (0 : Int) < (n.len : Int) := by omega
            have hD0 : Below wr.heap.size wr (World.drew wr) := (Below.refl _ _).drew
            refine wp_region_z 12 (S := fun w' => Below W2.heap.size W2 w' ∧ w'.heap[b9]? = some (nodeObj (.int .u8 47) (.int .i64 0) (.string ⟨#[]⟩) (.slice za L2.length zc)) ∧ w'.heap[wo.heap.size]? = some (nodeObj (.int .u8 n.kind) (.int .i64 (N : Int)) (.string n.name) (.slice (some ⟨nb, no, none⟩) n.len ci))) (by kernel_rfl) ⟨HB2'.out.trans (hD0.mono HB2'.out.size), mem_keep HBB2.out hD0, mem_keep HBN2.out hD0⟩ (fun hHeld => ?_)
            generalize hwd : World.drew wr = v1 at hHeld hD0 ⊢
            clear hwd
            have HD0 := Lib.hid hD0
            have HH := Lib.hid hHeld
            clear hD0
            refine wpAnyZ_take (i := 0) (v := .pointer (some ⟨b9, 3, none⟩)) rfl (by kernel_rfl) (by kernel_rfl) (by kernel_rfl) (by kernel_rfl) (fun _ _ _ h => h) (Or.inl ⟨by rfl, ?_⟩) (by assumption) ?_
            · intro w' hSw; go_simp
            (try simp only [Act.put, List.getElem_toArray, List.getElem_cons_zero, List.setIfInBounds_toArray, List.set_cons_zero, List.set_cons_succ])
            refine wpAnyZ_take (i := 1) (v := .slice za L2.length zc) rfl (by kernel_rfl) (by kernel_rfl) (by kernel_rfl) (by kernel_rfl) (fun _ _ _ h => h) (Or.inl ⟨by rfl, ?_⟩) (by assumption) ?_
            · intro w' hSw; obtain ⟨q0, q1, q2, q3⟩ := node_cells hSw.2.1; go_simp
            (try simp only [Act.put, List.getElem_toArray, List.getElem_cons_zero, List.getElem_cons_succ, List.setIfInBounds_toArray, List.set_cons_zero, List.set_cons_succ])
            refine wpAnyZ_take (i := 2) (v := .pointer (some ⟨wo.heap.size, 3, none⟩)) rfl (by kernel_rfl) (by kernel_rfl) (by kernel_rfl) (by kernel_rfl) (fun _ _ _ h => h) (Or.inl ⟨by rfl, ?_⟩) (by assumption) ?_
            · intro w' hSw; go_simp
            (try simp only [Act.put, List.getElem_toArray, List.getElem_cons_zero, List.getElem_cons_succ, List.setIfInBounds_toArray, List.set_cons_zero, List.set_cons_succ])
            refine wpAnyZ_take (i := 3) (v := .slice (some ⟨nb, no, none⟩) n.len ci) rfl (by kernel_rfl) (by kernel_rfl) (by kernel_rfl) (by kernel_rfl) (fun _ _ _ h => h) (Or.inl ⟨by rfl, ?_⟩) (by assumption) ?_
            · intro w' hSw; obtain ⟨q0, q1, q2, q3⟩ := node_cells hSw.2.2; go_simp
            (try simp only [Act.put, List.getElem_toArray, List.getElem_cons_zero, List.getElem_cons_succ, List.setIfInBounds_toArray, List.set_cons_zero, List.set_cons_succ])
            refine wpAnyZ_take (i := 4) (v := .pointer (some ⟨nb, no, none⟩)) rfl (by kernel_rfl) (by kernel_rfl) (by kernel_rfl) (by kernel_rfl) (fun _ _ _ h => h) (Or.inl ⟨by rfl, ?_⟩) (by assumption) ?_
            · intro w' hSw; go_simp
            (try simp only [Act.put, List.getElem_toArray, List.getElem_cons_zero, List.getElem_cons_succ, List.setIfInBounds_toArray, List.set_cons_zero, List.set_cons_succ])
            refine wpAnyZ_take (i := 5) (v := B.val a0 c0) rfl (by kernel_rfl) (by kernel_rfl) (by kernel_rfl) (by kernel_rfl) (fun _ _ _ h => h) (Or.inl ⟨by rfl, ?_⟩) (by assumption) ?_
            · intro w' hSw; obtain ⟨q0, q1, q2, q3⟩ := HND.out.below hSw.1 HND.out.lt; simp only [Nat.zero_mul, Nat.add_zero] at q0 q1 q2 q3; go_simp
            (try simp only [Act.put, List.getElem_toArray, List.getElem_cons_zero, List.getElem_cons_succ, List.setIfInBounds_toArray, List.set_cons_zero, List.set_cons_succ])
            refine wpAnyZ_take (i := 6) (v := .pointer (some ⟨wo.heap.size, 2, none⟩)) rfl (by kernel_rfl) (by kernel_rfl) (by kernel_rfl) (by kernel_rfl) (fun _ _ _ h => h) (Or.inl ⟨by rfl, ?_⟩) (by assumption) ?_
            · intro w' hSw; go_simp
            (try simp only [Act.put, List.getElem_toArray, List.getElem_cons_zero, List.getElem_cons_succ, List.setIfInBounds_toArray, List.set_cons_zero, List.set_cons_succ])
            refine wpAnyZ_take (i := 7) (v := .string n.name) rfl (by kernel_rfl) (by kernel_rfl) (by kernel_rfl) (by kernel_rfl) (fun _ _ _ h => h) (Or.inl ⟨by rfl, ?_⟩) (by assumption) ?_
            · intro w' hSw; obtain ⟨q0, q1, q2, q3⟩ := node_cells hSw.2.2; go_simp
            (try simp only [Act.put, List.getElem_toArray, List.getElem_cons_zero, List.getElem_cons_succ, List.setIfInBounds_toArray, List.set_cons_zero, List.set_cons_succ])
            refine wpAnyZ_take (i := 8) (v := .int .i64 (m : Int)) rfl (by kernel_rfl) (by kernel_rfl) (by kernel_rfl) (by kernel_rfl) (fun _ _ _ h => h) (Or.inl ⟨by rfl, ?_⟩) (by assumption) ?_
            · intro w' hSw; go_simp
            (try simp only [Act.put, List.getElem_toArray, List.getElem_cons_zero, List.getElem_cons_succ, List.setIfInBounds_toArray, List.set_cons_zero, List.set_cons_succ])
            refine wpAnyZ_ready (rs := [9]) (by kernel_rfl) (by simp) (AllReadyZ.cons rfl (fun K hK => ?_) AllReadyZ.nil)
            go_simp
            refine (replaced_any n.name (m : Int) ⟨by omega, by omega⟩ B v1 a0 c0 (HR0.out.below HH.out.1) (by omega)).mono ?_
            rintro e w5 ⟨a5, c5, rfl, hr5, hB5⟩
            obtain ⟨T, hT⟩ : ∃ T, B.repl n.name (m : Int) = T := ⟨_, rfl⟩
            rw [hT] at hr5 ⊢
            have hTl : T.len = B.len := by rw [← hT]; exact (repl_else (fun h => by omega)).2.2.2.1
            have HT2 := Lib.hid hT
            obtain ⟨y, hys, hyr⟩ := kids_in hr5
            have HYS := Lib.hid hys
            have HYR := Lib.hid hyr
            have HB5 := Lib.hid (mem_then HD0.out hB5)
            have HD1 : Hid (wr.heap.size ≤ v1.heap.size) := HD0.out.size
            have HO5 := Lib.hid (own_below HRO2.out HB5.out)
            have HBK5 := Lib.hid (mem_keep HBB2.out HB5.out)
            have HBN5 := Lib.hid (mem_keep HBN2.out HB5.out)
            have HBW5 := Lib.hid (HB2'.out.trans (HB5.out.mono HB2'.out.size))
            clear hT hr5 hB5 hys hyr
            refine hK.out _ _ (⟨HBW5.out, HBK5.out, HBN5.out⟩) (fun hHeld => ?_)
            clear hK K
            rename_i hOld
            clear hOld
            (try simp only [Act.put, List.getElem_toArray, List.getElem_cons_zero, List.getElem_cons_succ, List.setIfInBounds_toArray, List.set_cons_zero, List.set_cons_succ])
            refine wpAnyZ_take (i := 10) (v := .slice a5 T.len c5) rfl (by kernel_rfl) (by kernel_rfl) (by kernel_rfl) (by kernel_rfl) (fun _ _ _ h => h) (Or.inl ⟨by rfl, ?_⟩) (by assumption) ?_
            · intro w' hSw; clear hTl; unfold Tree.val; go_simp; rw [run_kids]; rfl
            (try simp only [Act.put, List.getElem_toArray, List.getElem_cons_zero, List.getElem_cons_succ, List.setIfInBounds_toArray, List.set_cons_zero, List.set_cons_succ])
            refine wpAnyZ_ready (rs := [11]) (by kernel_rfl) (by simp) (AllReadyZ.cons rfl (fun K hK => ?_) AllReadyZ.nil)
            refine step_append_src _ rfl (.tmp 67) (.tmp 76) 48 rfl X.heap.size 50 i0 _ 4 56 Tryd.underlying48 hi0 hz0 hz1 hz2 rfl (by decide) (.slice za L2.length zc) L2.length _ (by simp [Act.eval]) HO5.out a5 T.len c5 (rowsTo (fun i => (kidsL T).getD i noT) y T.len) (by simp [Act.eval]) HYS.out (rowsTo_ones _) (by unfold maxLen; omega) (by omega) (Nat.le_trans HSZ2.out HB5.out.size) ?_
            intro v9 w9 hown hgrow hplace
            have hN9 : NRow X.heap.size (fun k => k ≠ b9) w9 v9 (L2 ++ kidsL T) (fun i => if i < L2.length then x2 i else y (i - L2.length)) := by
              refine HROW2.out.push HB5.out (m := kidsL T) (y := y) (fun i hi => ?_) hgrow hplace ?_
              · rw [kidsL_len] at hi
                refine (HYR.out i hi).mono (fun k hk => ⟨?_, fun e => ?_⟩)
                · have h1 := mem_lt HBB2.out; have h2 := HD1.out; omega
                · have h1 := (own_lt HRO2.out e).2; have h2 := HD1.out; omega
              · rw [kidsL_len]
                exact hown
            have hxl := HXL.out
            have hw3 := HW3.out
            have hB9 : Below W2.heap.size W2 w9 := HBW5.out.grown hgrow HBW5.out.size (fun b hb => by have := (own_lt HO5.out hb).1; omega)
            have hX9 : w9.heap[b9]? = some (nodeObj (.int .u8 47) (.int .i64 0) (.string ⟨#[]⟩) (.slice za L2.length zc)) := (hgrow.block _ (mem_lt HBK5.out) (fun e => by have := (own_lt HO5.out e.symm).1; omega)).trans HBK5.out
            have hbo : b9 ≠ wo.heap.size := by have := HVL.out.2; omega
            have hX12 : w9.heap[wo.heap.size]? = some (nodeObj (.int .u8 n.kind) (.int .i64 (N : Int)) (.string n.name) (.slice (some ⟨nb, no, none⟩) n.len ci)) := (hgrow.block _ (mem_lt HBN5.out) (fun e => HNO.out e.symm)).trans HBN5.out
            have hO9 : v9.ownBlock ≠ some b9 := fun e => by have := (own_lt hN9.ro e).1; omega
            have hP9 : v9.ownBlock ≠ some wo.heap.size := fun e => by
              rcases hplace with h | h
              · rw [h] at e; exact HNO.out e
              · rw [h] at e; have e := Option.some.inj e; have := mem_lt HBN5.out; omega
            obtain ⟨F, hF⟩ : ∃ F : World, w9.setCell ⟨b9, 3, none⟩ v9 = F := ⟨_, rfl⟩
            have HXF : Hid (F.heap[b9]? = some (nodeObj (.int .u8 47) (.int .i64 0) (.string ⟨#[]⟩) v9)) := by show _ = _; rw [← hF, mem_set hX9]; rfl
            have HXN : Hid (F.heap[wo.heap.size]? = some (nodeObj (.int .u8 n.kind) (.int .i64 (N : Int)) (.string n.name) (.slice (some ⟨nb, no, none⟩) n.len ci))) := by show _ = _; rw [← hF, Below.heap_setCell _ _ _ _ (fun e => hbo e.symm)]; exact hX12
            have HNF : Hid (NRow X.heap.size (fun k => k ≠ b9) F v9 (L2 ++ kidsL T) (fun i => if i < L2.length then x2 i else y (i - L2.length))) := hN9.stay hO9 (fun k hk => hk) (fun k hk => by rw [← hF, Below.heap_setCell _ _ _ _ hk])
            have HBF : Hid (Below W2.heap.size W2 F) := by show Below _ _ _; rw [← hF]; exact hB9.setCell (p := ⟨b9, 3, none⟩) (by show W2.heap.size ≤ b9; omega) _
            have HSF : Hid (X.heap.size ≤ F.heap.size) := by have h1 := HSZ2.out; have h2 := HB5.out.size; have h3 := hgrow.size; show _ ≤ _; rw [← hF]; simp; omega
            have HLQ : Hid (L2 ++ kidsL T = L ++ rounds n (m + 1)) := by show _ = _; rw [HROU.out, HT2.out, ← List.append_assoc, ← HL2.out]
            have HLR : Hid ((L2 ++ kidsL T).length ≤ L.length + (m + 1) * 400) := by have := HLL2.out; show _ ≤ _; rw [List.length_append, kidsL_len]; omega
            obtain ⟨va9, vc9, rfl⟩ := own_val hown
            have HP9 := Lib.hid hP9
            have HX9 := Lib.hid hX9
            have HX12 := Lib.hid hX12
            have HB9 := Lib.hid hB9
            clear hN9 hB9 hX9 hX12 hO9 hP9 hown hgrow hplace hxl hw3 hbo hTl
            refine hK.out _ _ (⟨HB9.out, HX9.out, HX12.out⟩) (fun hHeld => ?_)
            clear hK K
            rename_i hOld
            clear hOld
            (try simp only [Act.put, List.getElem_toArray, List.getElem_cons_zero, List.getElem_cons_succ, List.setIfInBounds_toArray, List.set_cons_zero, List.set_cons_succ])
            obtain ⟨q0, q1, q2, q3⟩ := node_cells HX9.out
            have f3 := mem_free HX9.out 3
            refine wpAnyZ_ready (rs := [12]) (by kernel_rfl) (by simp) (AllReadyZ.last rfl (by decide) (fun K hK => ?_) AllReadyZ.nil)
            go_simp
            refine hK.out _ _ ?_
            clear hK K
            (try simp only [Act.put, List.getElem_toArray, List.getElem_cons_zero, List.getElem_cons_succ, List.setIfInBounds_toArray, List.set_cons_zero, List.set_cons_succ])
            refine wpAnyZ_ready (rs := [13]) (by kernel_rfl) (by simp) (AllReadyZ.last rfl (by decide) (fun K hK => ?_) AllReadyZ.nil)
            go_simp
            refine hK.out _ _ ?_
            clear hK K
            (try simp only [Act.put, List.getElem_toArray, List.getElem_cons_zero, List.getElem_cons_succ, List.setIfInBounds_toArray, List.set_cons_zero, List.set_cons_succ])
            try rw [hF]
            clear q0 q1 q2 q3 f3 hHeld hF
            refine wpAnyZ_done (by kernel_rfl) ?_ _
            go_wp2_with fail
            go_roundw
            case rel => exact ⟨m + 1, _, _, _, by omega, by go_num, HXF.out, HXN.out, HNF.out, HLQ.out, HLR.out, HP9.out, HBF.out, HSF.out⟩
            case measure => simp [intOf]; omega
          · obtain rfl : m = N := by omega
            have HEQ3 : Hid (L2 ++ restU true (KS.drop (j + 1)) = unr KS) := by show _ = _; rw [HL2.out]; exact HEQ2.out
            have HLQ : Hid (L2.length ≤ j + 1 + (if true then 3000 else 0)) := by have h := HLL2.out; show _ ≤ _; rw [if_pos rfl]; omega
            go_wp2_with fail
            go_roundw
            case rel => exact ⟨j + 1, _, _, _, _, by omega, rfl, by go_num, HBB2.out, HROW2.out, HEQ3.out, HLQ.out, HB2'.out, HSZ2.out⟩
            case measure => simp [intOf]; omega
    · obtain rfl : j = t.body.len := by omega
      have hLU : L = unr KS := by
        have h := HEQ.out
        rw [List.drop_of_length_le (by rw [HKS.out.1]; exact Nat.le_refl _)] at h
        cases dn with
        | true => rw [← h]; exact (List.append_nil L).symm
        | false => rw [← h]; exact (List.append_nil L).symm
      obtain ⟨Z, hZc⟩ : ∃ Z : World, Z = wr := ⟨_, rfl⟩
      subst hZc
      have HBZ : Hid (Below W2.heap.size W2 Z) := HB.out
      have HREP : Hid (Rep Z (ofL L) va) := HROW.out.rep
      have HLU := Lib.hid hLU
      obtain ⟨hq1, _⟩ := HK.out Z HBZ.out
      obtain ⟨x0, x1⟩ := mem_two hq1
      obtain ⟨V1, hV1⟩ : ∃ V : World, Z.alloc (prgObj p sa sc (some ⟨tb, tf, none⟩) tc) = V := ⟨_, rfl⟩
      have hbV1 : Below Z.heap.size Z V1 := by rw [← hV1]; exact mem_alloc _ _
      have hXV1 : V1.heap[Z.heap.size]? = some (prgObj p sa sc (some ⟨tb, tf, none⟩) tc) := by rw [← hV1]; exact mem_new _ _
      obtain ⟨V2, hV2⟩ : ∃ V : World, V1.alloc (.cells #[] 52) = V := ⟨_, rfl⟩
      have hbV2 : Below V1.heap.size V1 V2 := by rw [← hV2]; exact mem_alloc _ _
      have hXV2 : V2.heap[V1.heap.size]? = some (.cells #[] 52) := by rw [← hV2]; exact mem_new _ _
      have HV12 : Hid (Z.heap.size < V1.heap.size ∧ V1.heap.size < V2.heap.size) := ⟨mem_lt hXV1, mem_lt hXV2⟩
      have HMADE : Hid (V2.ownsRow V1.heap.size 52 8 (.slice (some ⟨V1.heap.size, 0, none⟩) 0 0) 0 []) := ⟨rfl, .inr ⟨V1.heap.size, 0, #[], rfl, Nat.le_refl _, hXV2, by omega, by unfold maxLen; omega, rfl, rfl⟩⟩
      have HBV2 : Hid (Below Z.heap.size Z V2) := mem_then hbV1 hbV2
      obtain ⟨news, hsrc, hnews, hones⟩ := ((HK.out V2 (HBZ.out.trans (HBV2.out.mono HBZ.out.size))).2.2.1.2).src
      have HSRC := Lib.hid hsrc
      have HNEWS : Hid (∀ j, j < p.tasks.length * 8 → V2.cell? ⟨tb, tf + j, none⟩ = news[j]?) := hnews
      have HONES := Lib.hid hones
      have HX20 := Lib.hid (mem_keep hXV1 hbV2)
      obtain ⟨hq2, _⟩ := HK.out V2 (HBZ.out.trans (HBV2.out.mono HBZ.out.size))
      obtain ⟨u0, u1⟩ := mem_two hq2
      obtain ⟨ti, hti, hy0, hy1, hy2⟩ := info_parts tsk_info
      have htl8 : p.tasks.length ≤ 8 := HLE.out.2.1
      have HB9B := Lib.hid HBB.out
      clear hq1 hbV1 hXV1 hbV2 hXV2 hsrc hnews hones hq2 hLU
      go_upto_region 21 with (at_builtin; refine wpList_append_src _ rfl (.tmp 82) (.tmp 84) 23 rfl V1.heap.size 52 ti _ 8 128 Tryd.underlying23 hti hy0 hy1 hy2 rfl (by decide) (.slice (some ⟨V1.heap.size, 0, none⟩) 0 0) 0 [] rfl HMADE.out (some ⟨tb, tf, none⟩) p.tasks.length tc news rfl HSRC.out HONES.out (by unfold maxLen; omega) (by omega) (by have := HV12.out; omega) ?_)
      clear x0 x1 u0 u1 hV1 hV2
      intro v5 w5 hown5 hg5 hpl5
      have hown5 : w5.ownsRow V1.heap.size 52 8 v5 p.tasks.length news := by simpa using hown5
      rcases ownsRow_form hown5 with ⟨_, h0⟩ | ⟨gb, cap, rfl, hgb, hgl, hcap⟩
      · omega
      have hB5 : Below Z.heap.size Z w5 := HBV2.out.grown hg5 (by have := HV12.out; omega) (fun k hk => by have h9 := HV12.out; have hk : V1.heap.size = k := Option.some.inj hk; omega)
      have m1 : w5.heap[Z.heap.size]? = some (prgObj p sa sc (some ⟨tb, tf, none⟩) tc) := (hg5.block _ (mem_lt HX20.out) (fun e => by have h9 := HV12.out; have e : Z.heap.size = V1.heap.size := Option.some.inj e; omega)).trans HX20.out
      have hgz : Z.heap.size < gb := by have := HV12.out; omega
      obtain ⟨w6, h6⟩ : ∃ w6 : World, w5.setCell ⟨Z.heap.size, 1, none⟩ (.slice (some ⟨gb, 0, none⟩) p.tasks.length cap) = w6 := ⟨_, rfl⟩
      have HM6 : Hid (w6.heap[Z.heap.size]? = some (.cells #[.slice sa p.shared.length sc, .slice (some ⟨gb, 0, none⟩) p.tasks.length cap] 25)) := by show _ = _; rw [← h6, mem_set m1]; rfl
      have HOWN6 : Hid (w6.ownsRow V1.heap.size 52 8 (.slice (some ⟨gb, 0, none⟩) p.tasks.length cap) p.tasks.length news) := by
        show World.ownsRow _ _ _ _ _ _ _
        rw [← h6]
        exact own_keep hown5 (fun k hk _ => Below.heap_setCell _ _ _ _ (by have hk : gb = k := Option.some.inj hk; show k ≠ Z.heap.size; omega))
      have HB6 : Hid (Below Z.heap.size Z w6) := by show Below _ _ _; rw [← h6]; exact hB5.setCell (p := ⟨Z.heap.size, 1, none⟩) (Nat.le_refl _) _
      have HGZ := Lib.hid hgz
      have z1 := mem_free m1 1
      have y1 : w5.cell? ⟨Z.heap.size, 1, none⟩ = some (.slice (some ⟨tb, tf, none⟩) p.tasks.length tc) := mem_cell m1 1
      obtain ⟨k0, k1⟩ := mem_two HM6.out
      obtain ⟨m0, m1', m2, m3⟩ := node_cells (mem_keep HB9B.out HB6.out)
      obtain ⟨u0, e0, f0⟩ := own_at8 HOWN6.out (j := i * 8 + 4) (by omega)
      obtain ⟨u1, e1, f1⟩ := own_at8 HOWN6.out (j := i * 8 + 4 + 1) (by omega)
      obtain ⟨u2, e2, f2⟩ := own_at8 HOWN6.out (j := i * 8 + 4 + 2) (by omega)
      obtain ⟨u3, e3, f3⟩ := own_at8 HOWN6.out (j := i * 8 + 4 + 3) (by omega)
      obtain ⟨W7, hW7⟩ : ∃ W7 : World, set4at w6 gb (i * 8 + 4) (.int .u8 47) (.int .i64 0) (.string ⟨#[]⟩) (.slice va L.length vc) = W7 := ⟨_, rfl⟩
      have HW7 : Hid (W7 = set4at w6 gb (i * 8 + 4) (.int .u8 47) (.int .i64 0) (.string ⟨#[]⟩) (.slice va L.length vc)) := hW7.symm
      unfold set4at at hW7
      clear hown5 hg5 hpl5 hB5 m1 hgz hgl
      go_upto_region 22 with fail
      try rw [hW7]
      clear z1 y1 h6 k0 k1 m0 m1' m2 m3 u0 e0 f0 u1 e1 f1 u2 e2 f2 u3 e3 f3 hW7
      have HB7 : Hid (Below Z.heap.size Z W7) := by show Below _ _ _; rw [HW7.out]; exact set4at_below HB6.out (by have := HGZ.out; omega)
      have HFAR7 : Hid (∀ k, k ≠ gb → W7.heap[k]? = w6.heap[k]?) := fun k hk => by rw [HW7.out]; exact set4at_far hk
      have hx7 : W7.heap[Z.heap.size]? = some (.cells #[.slice sa p.shared.length sc, .slice (some ⟨gb, 0, none⟩) p.tasks.length cap] 25) := (HFAR7.out _ (by have := HGZ.out; omega)).trans HM6.out
      have hrep7 : Rep W7 (ofL L) va := Rep.below HB7.out HREP.out
      have hnz : ∀ j, j < p.tasks.length * 8 → Z.cell? ⟨tb, tf + j, none⟩ = news[j]? := fun j hj => by
        rw [← HNEWS.out j hj]
        exact (HBV2.out.cell (p := ⟨tb, tf + j, none⟩) (by have h1 := HTB.out; have h2 := HBZ.out.size; show tb < _; omega)).symm
      have hw7' : W7 = set4at w6 gb (i * 8 + 4) (.int .u8 (ofL L).kind) (.int .i64 (ofL L).num) (.string (ofL L).name) (.slice va (ofL L).len vc) := HW7.out
      have hpq := tasks_body (B := ofL L) (a3 := va) (c3 := vc) (HK.out Z HBZ.out).2.2.1 hil2 HOWN6.out hnz hw7' HB7.out hrep7
      obtain ⟨Q, hQ⟩ : ∃ Q, bodyP p i (ofL L) = Q := ⟨_, rfl⟩
      have hQt : Q.tasks.length = p.tasks.length := by rw [← hQ]; exact bodyP_len
      have hQs : Q.shared.length = p.shared.length := by rw [← hQ]; rfl
      have hxq : W7.heap[Z.heap.size]? = some (prgObj Q sa sc (some ⟨gb, 0, none⟩) cap) := by
        show _ = some (Obj.cells #[.slice sa Q.shared.length sc, .slice (some ⟨gb, 0, none⟩) Q.tasks.length cap] 25)
        rw [hQt, hQs]
        exact hx7
      rw [hQ] at hpq
      have HKQ : Hid (∀ w', Below W7.heap.size W7 w' → w'.heap[w.heap.size]? = some (prgObj p sa sc (some ⟨tb, tf, none⟩) tc) ∧ w'.heap[W.heap.size]? = some (memObj M ma mac ms msc) ∧ w'.heap[Z.heap.size]? = some (prgObj Q sa sc (some ⟨gb, 0, none⟩) cap) ∧ PrgAt w' p sa (some ⟨tb, tf, none⟩) ∧ PrgAt w' Q sa (some ⟨gb, 0, none⟩) ∧ MemAt w' M ma ms ∧ WordsAt w' ia inp ∧ SignsIn w' ∧ Below w.heap.size w w') := fun w' hw => by
        obtain ⟨h1, h2, h3, h4, h5, h6, h7⟩ := HK.out w' (HBZ.out.trans ((mem_then HB7.out hw).mono HBZ.out.size))
        exact ⟨h1, h2, mem_keep hxq hw, h3, hpq.below hw, h4, h5, h6, h7⟩
      have HSJ : Hid (okP Q = true → (jobP p (i : Int) M inp 3000).err = 13 ∨ (jobP Q (i : Int) M inp 3000).err = 13 ∨ sameP (jobP p (i : Int) M inp 3000) (jobP Q (i : Int) M inp 3000) false = true) := fun hq => by
        have e : bodyP p (i : Int).toNat (ofL (unr (kidsL (p.tasks.getD (i : Int).toNat Tsk.none).body))) = Q := by
          rw [Int.toNat_natCast, HTD.out, HKE.out, ← HLU.out]
          exact hQ
        have h := unroll_job (inp := inp) HRUN.out (by rw [e]; exact hq)
        rw [e] at h
        exact h
      have hqtl : Q.tasks.length ≤ 9223372036854775807 := hpq.2.1
      have hqsl : Q.shared.length ≤ 9223372036854775807 := hpq.1.1
      obtain ⟨_, _, k3, _, k5, _, _, k8, _⟩ := HKQ.out W7 (Below.refl _ _)
      obtain ⟨x0, x1⟩ := mem_two k3
      have HOQ := Lib.hid (ok15_any Q W7 sa (some ⟨gb, 0, none⟩) sc cap k5 k8)
      clear hx7 hrep7 hnz hw7' hpq hQ hQt hQs hxq k3 k5 k8
      go_wp2_with fail
      clear x0 x1
      refine HOQ.out.mono ?_
      rintro e w8 ⟨rfl, hB8⟩
      have HB8 := Lib.hid hB8
      clear HOQ hB8
      cases hok : okP Q with
      | false =>
        clear hok
        go_wp2_with fail
        go_ret
        exact ⟨rfl, (HKQ.out w8 HB8.out).2.2.2.2.2.2.2.2⟩
      | true =>
      have hsj := HSJ.out hok
      obtain ⟨k1, k2, k3, k4, k5, k6, k7, k8, _⟩ := HKQ.out w8 HB8.out
      obtain ⟨x0, x1⟩ := mem_two k3
      obtain ⟨y0, y1⟩ := mem_two k2
      have HGQ := Lib.hid (great16_any Q M inp.length w8 sa (some ⟨gb, 0, none⟩) sc cap ma ms mac msc ia ic k5 k6 hil)
      clear hok HSJ k1 k2 k3 k4 k5 k6 k7 k8
      go_wp2_with fail
      clear x0 x1 y0 y1
      refine HGQ.out.mono ?_
      rintro e E0 ⟨rfl, hB9⟩
      have HB9 := Lib.hid (mem_then HB8.out hB9)
      clear HGQ hB9
      cases hbig : bigP Q M inp.length with
      | true =>
        have hbn3 := bigN_t hbig
        clear hbig
        go_wp2_with fail
        go_ret
        exact ⟨rfl, (HKQ.out E0 HB9.out).2.2.2.2.2.2.2.2⟩
      | false =>
      have hbn3 := bigN_f hbig
      clear hbig
      obtain ⟨R, hR⟩ : ∃ R, jobP p (i : Int) M inp 3000 = R := ⟨_, rfl⟩
      obtain ⟨S, hS⟩ : ∃ S, jobP Q (i : Int) M inp 3000 = S := ⟨_, rfl⟩
      rw [hS, hR] at hsj
      have HSJ2 := Lib.hid hsj
      have J1 : Hid (∀ w', Below E0.heap.size E0 w' → Calls Tryd.prog 14 #[p.val sa sc (some ⟨tb, tf, none⟩) tc, .int .i64 (i : Int), M.val ma mac ms msc, .slice ia inp.length ic, .int .i64 3000] w' (JobQ R w')) := fun w' hw => by
        obtain ⟨_, _, _, k4, _, k6, k7, k8, _⟩ := HKQ.out w' (mem_then HB9.out hw)
        rw [← hR]
        exact job_any p (i : Int) M inp 3000 w' sa (some ⟨tb, tf, none⟩) sc tc ma ms mac msc ia ic k4 k6 k7 k8 HT.out (by decide) (by omega)
      have J2 : Hid (∀ w', Below E0.heap.size E0 w' → Calls Tryd.prog 14 #[Q.val sa sc (some ⟨gb, 0, none⟩) cap, .int .i64 (i : Int), M.val ma mac ms msc, .slice ia inp.length ic, .int .i64 3000] w' (JobQ S w')) := fun w' hw => by
        obtain ⟨_, _, _, _, k5, k6, k7, k8, _⟩ := HKQ.out w' (mem_then HB9.out hw)
        rw [← hS]
        exact job_any Q (i : Int) M inp 3000 w' sa (some ⟨gb, 0, none⟩) sc cap ma ms mac msc ia ic k5 k6 k7 k8 HT.out (by decide) (by omega)
      clear hsj hR hS
      go_upto_region 24 with fail
      go_cut [15, 16] (fun s1 s2 w' => ∃ b1 b2 aa ac ra rc oa oc ba bc rb rd ob od, s1 = .pointer (some ⟨b1, 0, none⟩) ∧ s2 = .pointer (some ⟨b2, 0, none⟩) ∧ w'.heap[b1]? = some (Res.obj R aa ac ra rc oa oc) ∧ w'.heap[b2]? = some (Res.obj S ba bc rb rd ob od) ∧ ResAt w' R aa ra oa ∧ ResAt w' S ba rb ob ∧ Below E0.heap.size E0 w')
      case first =>
        have hD0 : Below E0.heap.size E0 (World.drew E0) := (Below.refl _ _).drew
        refine wp_region_held_drew (S := fun w' => Below E0.heap.size E0 w') (by kernel_rfl) hD0 (fun hHeld => ?_)
        generalize hwd : World.drew E0 = v1 at hHeld hD0 ⊢
        clear hwd hD0
        have HHV := Lib.hid hHeld
        refine wpAnyH_take (i := 0) (v := p.val sa sc (some ⟨tb, tf, none⟩) tc) rfl (by kernel_rfl) (by kernel_rfl) (by kernel_rfl) (fun _ _ _ h => h) (Or.inl ⟨by rfl, ?_⟩) (by assumption) ?_
        · intro w' hSw; obtain ⟨z0, z1⟩ := mem_two (HKQ.out _ (mem_then HB9.out hSw)).1; go_simp
        (try simp only [Act.put, List.getElem_toArray, List.getElem_cons_zero, List.setIfInBounds_toArray, List.set_cons_zero, List.set_cons_succ])
        refine wpAnyH_take (i := 1) (v := .int .i64 (i : Int)) rfl (by kernel_rfl) (by kernel_rfl) (by kernel_rfl) (fun _ _ _ h => h) (Or.inl ⟨by rfl, ?_⟩) (by assumption) ?_
        · intro w' hSw; go_simp
        (try simp only [Act.put, List.getElem_toArray, List.getElem_cons_zero, List.getElem_cons_succ, List.setIfInBounds_toArray, List.set_cons_zero, List.set_cons_succ])
        refine wpAnyH_take (i := 2) (v := M.val ma mac ms msc) rfl (by kernel_rfl) (by kernel_rfl) (by kernel_rfl) (fun _ _ _ h => h) (Or.inl ⟨by rfl, ?_⟩) (by assumption) ?_
        · intro w' hSw; obtain ⟨z0, z1⟩ := mem_two (HKQ.out _ (mem_then HB9.out hSw)).2.1; go_simp
        (try simp only [Act.put, List.getElem_toArray, List.getElem_cons_zero, List.getElem_cons_succ, List.setIfInBounds_toArray, List.set_cons_zero, List.set_cons_succ])
        refine wpAnyH_take (i := 3) (v := .slice ia inp.length ic) rfl (by kernel_rfl) (by kernel_rfl) (by kernel_rfl) (fun _ _ _ h => h) (Or.inl ⟨by rfl, ?_⟩) (by assumption) ?_
        · intro w' hSw; go_simp
        (try simp only [Act.put, List.getElem_toArray, List.getElem_cons_zero, List.getElem_cons_succ, List.setIfInBounds_toArray, List.set_cons_zero, List.set_cons_succ])
        refine wpAnyH_take (i := 5) (v := Q.val sa sc (some ⟨gb, 0, none⟩) cap) rfl (by kernel_rfl) (by kernel_rfl) (by kernel_rfl) (fun _ _ _ h => h) (Or.inl ⟨by rfl, ?_⟩) (by assumption) ?_
        · intro w' hSw; obtain ⟨z0, z1⟩ := mem_two (HKQ.out _ (mem_then HB9.out hSw)).2.2.1; go_simp
        (try simp only [Act.put, List.getElem_toArray, List.getElem_cons_zero, List.getElem_cons_succ, List.setIfInBounds_toArray, List.set_cons_zero, List.set_cons_succ])
        refine wpAnyH_take (i := 6) (v := .int .i64 (i : Int)) rfl (by kernel_rfl) (by kernel_rfl) (by kernel_rfl) (fun _ _ _ h => h) (Or.inl ⟨by rfl, ?_⟩) (by assumption) ?_
        · intro w' hSw; go_simp
        (try simp only [Act.put, List.getElem_toArray, List.getElem_cons_zero, List.getElem_cons_succ, List.setIfInBounds_toArray, List.set_cons_zero, List.set_cons_succ])
        refine wpAnyH_take (i := 7) (v := M.val ma mac ms msc) rfl (by kernel_rfl) (by kernel_rfl) (by kernel_rfl) (fun _ _ _ h => h) (Or.inl ⟨by rfl, ?_⟩) (by assumption) ?_
        · intro w' hSw; obtain ⟨z0, z1⟩ := mem_two (HKQ.out _ (mem_then HB9.out hSw)).2.1; go_simp
        (try simp only [Act.put, List.getElem_toArray, List.getElem_cons_zero, List.getElem_cons_succ, List.setIfInBounds_toArray, List.set_cons_zero, List.set_cons_succ])
        refine wpAnyH_take (i := 8) (v := .slice ia inp.length ic) rfl (by kernel_rfl) (by kernel_rfl) (by kernel_rfl) (fun _ _ _ h => h) (Or.inl ⟨by rfl, ?_⟩) (by assumption) ?_
        · intro w' hSw; go_simp
        (try simp only [Act.put, List.getElem_toArray, List.getElem_cons_zero, List.getElem_cons_succ, List.setIfInBounds_toArray, List.set_cons_zero, List.set_cons_succ])
        refine wpAnyH_ready (rs := [4, 10, 11]) (by kernel_rfl) (by simp) (AllReadyH.cons rfl (fun K hK => ?_) (AllReadyH.cons rfl (fun K hK => ?_) (AllReadyH.cons rfl (fun K hK => ?_) AllReadyH.nil)))
        · go_simp
          refine (J1.out v1 HHV.out).mono ?_
          rintro e w_1 ⟨aa, ac, ara, arc, aoa, aoc, rfl, hra, hB_1, _, hty⟩
          have HB_1 := Lib.hid (mem_then HHV.out hB_1)
          have HS4_1 := Lib.hid (And.intro hra hty)
          clear hra hty hB_1
          refine hK.out _ _ (HB_1.out) (fun hHeld => ?_)
          clear hK K
          rename_i hOld
          clear hOld
          (try simp only [Act.put, List.getElem_toArray, List.getElem_cons_zero, List.getElem_cons_succ, List.setIfInBounds_toArray, List.set_cons_zero, List.set_cons_succ])
          refine wpAnyH_ready (rs := [9, 10, 11]) (by kernel_rfl) (by simp) (AllReadyH.cons rfl (fun K hK => ?_) (AllReadyH.cons rfl (fun K hK => ?_) (AllReadyH.cons rfl (fun K hK => ?_) AllReadyH.nil)))
          · go_simp
            refine (J2.out w_1 HB_1.out).mono ?_
            rintro e w_2 ⟨ba, bc, bra, brc, boa, boc, rfl, hra, hB_2, _, hty⟩
            have HB_2 := Lib.hid (mem_then HB_1.out hB_2)
            have HS4_2 := Lib.hid (And.intro (ResAt.below HS4_1.out.1 hB_2) (MemTy.below HS4_1.out.2 hB_2))
            have HS9_2 := Lib.hid (And.intro hra hty)
            clear hra hty hB_2
            refine hK.out _ _ (HB_2.out) (fun hHeld => ?_)
            clear hK K
            rename_i hOld
            clear hOld
            (try simp only [Act.put, List.getElem_toArray, List.getElem_cons_zero, List.getElem_cons_succ, List.setIfInBounds_toArray, List.set_cons_zero, List.set_cons_succ])
            refine wpAnyH_ready (rs := [10, 11]) (by kernel_rfl) (by simp) (AllReadyH.cons rfl (fun K hK => ?_) (AllReadyH.cons rfl (fun K hK => ?_) AllReadyH.nil))
            · go_simp
              refine hK.out _ _ (mem_then HB_2.out (mem_alloc _ _)) (fun hHeld => ?_)
              clear hK K
              rename_i hOld
              clear hOld
              (try simp only [Act.put, List.getElem_toArray, List.getElem_cons_zero, List.getElem_cons_succ, List.setIfInBounds_toArray, List.set_cons_zero, List.set_cons_succ])
              have hz_3 : (w_2.alloc zRes).heap[w_2.heap.size]? = some zRes := mem_new _ _
              have hzB_3 := mem_alloc w_2 zRes
              generalize hQ_3 : w_2.alloc zRes = U_3 at hz_3 hzB_3 hHeld ⊢
              clear hQ_3
              have HB_3 := Lib.hid (mem_then HB_2.out hzB_3)
              have HGA : Hid (E0.heap.size ≤ w_2.heap.size) := HB_2.out.size
              have HS4_3 := Lib.hid (And.intro (ResAt.below HS4_2.out.1 hzB_3) (MemTy.below HS4_2.out.2 hzB_3))
              have HS9_3 := Lib.hid (And.intro (ResAt.below HS9_2.out.1 hzB_3) (MemTy.below HS9_2.out.2 hzB_3))
              have HZA3 := Lib.hid hz_3
              clear hz_3 hzB_3
              refine wpAnyH_ready (rs := [11]) (by kernel_rfl) (by simp) (AllReadyH.cons rfl (fun K hK => ?_) AllReadyH.nil)
              go_simp
              refine hK.out _ _ (mem_then HB_3.out (mem_alloc _ _)) (fun hHeld => ?_)
              clear hK K
              rename_i hOld
              clear hOld
              (try simp only [Act.put, List.getElem_toArray, List.getElem_cons_zero, List.getElem_cons_succ, List.setIfInBounds_toArray, List.set_cons_zero, List.set_cons_succ])
              have hz_4 : (U_3.alloc zRes).heap[U_3.heap.size]? = some zRes := mem_new _ _
              have hzB_4 := mem_alloc U_3 zRes
              generalize hQ_4 : U_3.alloc zRes = U_4 at hz_4 hzB_4 hHeld ⊢
              clear hQ_4
              have HB_4 := Lib.hid (mem_then HB_3.out hzB_4)
              have hlo_4 := mem_lt HZA3.out
              have HNE : Hid (w_2.heap.size ≠ U_3.heap.size) := fun e => by omega
              clear hlo_4
              have HGB : Hid (E0.heap.size ≤ U_3.heap.size) := HB_3.out.size
              have HZA4 := Lib.hid (mem_keep HZA3.out hzB_4)
              have HS4_4 := Lib.hid (And.intro (ResAt.below HS4_3.out.1 hzB_4) (MemTy.below HS4_3.out.2 hzB_4))
              have HS9_4 := Lib.hid (And.intro (ResAt.below HS9_3.out.1 hzB_4) (MemTy.below HS9_3.out.2 hzB_4))
              have HZB4 := Lib.hid hz_4
              clear hz_4 hzB_4
              obtain ⟨bA, hbA⟩ : ∃ b, w_2.heap.size = b := ⟨_, rfl⟩
              obtain ⟨bB, hbB⟩ : ∃ b, U_3.heap.size = b := ⟨_, rfl⟩
              have HZA := HZA4
              have HZB := HZB4
              have HSA := HS4_4
              have HSB := HS9_4
              have HBE := HB_4
              rw [hbA] at HZA HNE HGA
              rw [hbB] at HZB HNE HGB
              try rw [hbA]
              try rw [hbB]
              clear hbA hbB
              obtain ⟨EW, hEW⟩ : ∃ E : World, U_4 = E := ⟨_, rfl⟩
              rw [hEW] at HZA HZB HSA HSB HBE hHeld ⊢
              clear hEW
              obtain ⟨y0, y1, y2, y3, y4, y5⟩ := res_cells HZA.out
              have f0 := mem_free HZA.out 0
              have f1 := mem_free HZA.out 1
              have f2 := mem_free HZA.out 2
              have f3 := mem_free HZA.out 3
              have f4 := mem_free HZA.out 4
              have f5 := mem_free HZA.out 5
              obtain ⟨U2, hU2⟩ : ∃ U2 : World, set6 EW bA (.slice aa R.mem.arrays.length ac) (.slice ara R.mem.shared.length arc) (.slice aoa R.out.length aoc) (.int .i64 (R.rd : Int)) (.int .i64 (R.st : Int)) (.int .i64 R.err) = U2 := ⟨_, rfl⟩
              have HFAR2 : Hid (∀ k, k ≠ bA → U2.heap[k]? = EW.heap[k]?) := fun k hk => by rw [← hU2]; exact set6_far hk
              have HA2' : Hid (U2.heap[bA]? = some (Res.obj R aa ac ara arc aoa aoc)) := by show _ = _; rw [← hU2]; exact set6_at HZA.out
              have HZB2 : Hid (U2.heap[bB]? = some zRes) := (HFAR2.out bB (fun e => HNE.out e.symm)).trans HZB.out
              have HBU2 : Hid (Below E0.heap.size E0 U2) := by show Below _ _ _; rw [← hU2]; exact set6_below HBE.out HGA.out
              have HSA2 := Lib.hid (ResAt.stored HZA.out HFAR2.out HSA.out.1 HSA.out.2)
              have HSB2 := Lib.hid (ResAt.stored HZA.out HFAR2.out HSB.out.1 HSB.out.2)
              obtain ⟨p0, p1, p2, p3, p4, p5⟩ := res_cells HZB2.out
              have g0 := mem_free HZB2.out 0
              have g1 := mem_free HZB2.out 1
              have g2 := mem_free HZB2.out 2
              have g3 := mem_free HZB2.out 3
              have g4 := mem_free HZB2.out 4
              have g5 := mem_free HZB2.out 5
              obtain ⟨U3, hU3⟩ : ∃ U3 : World, set6 U2 bB (.slice ba S.mem.arrays.length bc) (.slice bra S.mem.shared.length brc) (.slice boa S.out.length boc) (.int .i64 (S.rd : Int)) (.int .i64 (S.st : Int)) (.int .i64 S.err) = U3 := ⟨_, rfl⟩
              have HFAR3 : Hid (∀ k, k ≠ bB → U3.heap[k]? = U2.heap[k]?) := fun k hk => by rw [← hU3]; exact set6_far hk
              have HB3' : Hid (U3.heap[bB]? = some (Res.obj S ba bc bra brc boa boc)) := by show _ = _; rw [← hU3]; exact set6_at HZB2.out
              have HA3' : Hid (U3.heap[bA]? = some (Res.obj R aa ac ara arc aoa aoc)) := (HFAR3.out bA HNE.out).trans HA2'.out
              have HBU3 : Hid (Below E0.heap.size E0 U3) := by show Below _ _ _; rw [← hU3]; exact set6_below HBU2.out HGB.out
              have HSA3 := Lib.hid (ResAt.stored HZB2.out HFAR3.out HSA2.out.1 HSA2.out.2)
              have HSB3 := Lib.hid (ResAt.stored HZB2.out HFAR3.out HSB2.out.1 HSB2.out.2)
              unfold set6 at hU2 hU3
              refine wpAnyH_ready (rs := [12]) (by kernel_rfl) (by simp) (AllReadyH.cons rfl (fun K hK => ?_) AllReadyH.nil)
              go_simp
              try rw [hU2]
              refine hK.out _ _ (HBU2.out) (fun hHeld => ?_)
              clear hK K
              rename_i hOld
              clear hOld
              (try simp only [Act.put, List.getElem_toArray, List.getElem_cons_zero, List.getElem_cons_succ, List.setIfInBounds_toArray, List.set_cons_zero, List.set_cons_succ])
              refine wpAnyH_ready (rs := [13]) (by kernel_rfl) (by simp) (AllReadyH.cons rfl (fun K hK => ?_) AllReadyH.nil)
              go_simp
              try rw [hU3]
              refine hK.out _ _ (HBU3.out) (fun hHeld => ?_)
              clear hK K
              rename_i hOld
              clear hOld
              (try simp only [Act.put, List.getElem_toArray, List.getElem_cons_zero, List.getElem_cons_succ, List.setIfInBounds_toArray, List.set_cons_zero, List.set_cons_succ])
              clear hHeld y0 y1 y2 y3 y4 y5 f0 f1 f2 f3 f4 f5 p0 p1 p2 p3 p4 p5 g0 g1 g2 g3 g4 g5 hU2 hU3
              refine wpAnyH_done (by kernel_rfl) ?_ _
              go_wp2_with fail
              go_meet
              exact ⟨bA, bB, aa, ac, ara, arc, aoa, aoc, ba, bc, bra, brc, boa, boc, rfl, rfl, HA3'.out, HB3'.out, HSA3.out.1, HSB3.out.1, HBU3.out⟩
            · go_simp
              refine hK.out _ _ (mem_then HB_2.out (mem_alloc _ _)) (fun hHeld => ?_)
              clear hK K
              rename_i hOld
              clear hOld
              (try simp only [Act.put, List.getElem_toArray, List.getElem_cons_zero, List.getElem_cons_succ, List.setIfInBounds_toArray, List.set_cons_zero, List.set_cons_succ])
              have hz_5 : (w_2.alloc zRes).heap[w_2.heap.size]? = some zRes := mem_new _ _
              have hzB_5 := mem_alloc w_2 zRes
              generalize hQ_5 : w_2.alloc zRes = U_5 at hz_5 hzB_5 hHeld ⊢
              clear hQ_5
              have HB_5 := Lib.hid (mem_then HB_2.out hzB_5)
              have HGB : Hid (E0.heap.size ≤ w_2.heap.size) := HB_2.out.size
              have HS4_5 := Lib.hid (And.intro (ResAt.below HS4_2.out.1 hzB_5) (MemTy.below HS4_2.out.2 hzB_5))
              have HS9_5 := Lib.hid (And.intro (ResAt.below HS9_2.out.1 hzB_5) (MemTy.below HS9_2.out.2 hzB_5))
              have HZB5 := Lib.hid hz_5
              clear hz_5 hzB_5
              refine wpAnyH_ready (rs := [10]) (by kernel_rfl) (by simp) (AllReadyH.cons rfl (fun K hK => ?_) AllReadyH.nil)
              go_simp
              refine hK.out _ _ (mem_then HB_5.out (mem_alloc _ _)) (fun hHeld => ?_)
              clear hK K
              rename_i hOld
              clear hOld
              (try simp only [Act.put, List.getElem_toArray, List.getElem_cons_zero, List.getElem_cons_succ, List.setIfInBounds_toArray, List.set_cons_zero, List.set_cons_succ])
              have hz_6 : (U_5.alloc zRes).heap[U_5.heap.size]? = some zRes := mem_new _ _
              have hzB_6 := mem_alloc U_5 zRes
              generalize hQ_6 : U_5.alloc zRes = U_6 at hz_6 hzB_6 hHeld ⊢
              clear hQ_6
              have HB_6 := Lib.hid (mem_then HB_5.out hzB_6)
              have hlo_6 := mem_lt HZB5.out
              have HNE : Hid (U_5.heap.size ≠ w_2.heap.size) := fun e => by omega
              clear hlo_6
              have HGA : Hid (E0.heap.size ≤ U_5.heap.size) := HB_5.out.size
              have HZB6 := Lib.hid (mem_keep HZB5.out hzB_6)
              have HS4_6 := Lib.hid (And.intro (ResAt.below HS4_5.out.1 hzB_6) (MemTy.below HS4_5.out.2 hzB_6))
              have HS9_6 := Lib.hid (And.intro (ResAt.below HS9_5.out.1 hzB_6) (MemTy.below HS9_5.out.2 hzB_6))
              have HZA6 := Lib.hid hz_6
              clear hz_6 hzB_6
              obtain ⟨bA, hbA⟩ : ∃ b, U_5.heap.size = b := ⟨_, rfl⟩
              obtain ⟨bB, hbB⟩ : ∃ b, w_2.heap.size = b := ⟨_, rfl⟩
              have HZA := HZA6
              have HZB := HZB6
              have HSA := HS4_6
              have HSB := HS9_6
              have HBE := HB_6
              rw [hbA] at HZA HNE HGA
              rw [hbB] at HZB HNE HGB
              try rw [hbA]
              try rw [hbB]
              clear hbA hbB
              obtain ⟨EW, hEW⟩ : ∃ E : World, U_6 = E := ⟨_, rfl⟩
              rw [hEW] at HZA HZB HSA HSB HBE hHeld ⊢
              clear hEW
              obtain ⟨y0, y1, y2, y3, y4, y5⟩ := res_cells HZA.out
              have f0 := mem_free HZA.out 0
              have f1 := mem_free HZA.out 1
              have f2 := mem_free HZA.out 2
              have f3 := mem_free HZA.out 3
              have f4 := mem_free HZA.out 4
              have f5 := mem_free HZA.out 5
              obtain ⟨U2, hU2⟩ : ∃ U2 : World, set6 EW bA (.slice aa R.mem.arrays.length ac) (.slice ara R.mem.shared.length arc) (.slice aoa R.out.length aoc) (.int .i64 (R.rd : Int)) (.int .i64 (R.st : Int)) (.int .i64 R.err) = U2 := ⟨_, rfl⟩
              have HFAR2 : Hid (∀ k, k ≠ bA → U2.heap[k]? = EW.heap[k]?) := fun k hk => by rw [← hU2]; exact set6_far hk
              have HA2' : Hid (U2.heap[bA]? = some (Res.obj R aa ac ara arc aoa aoc)) := by show _ = _; rw [← hU2]; exact set6_at HZA.out
              have HZB2 : Hid (U2.heap[bB]? = some zRes) := (HFAR2.out bB (fun e => HNE.out e.symm)).trans HZB.out
              have HBU2 : Hid (Below E0.heap.size E0 U2) := by show Below _ _ _; rw [← hU2]; exact set6_below HBE.out HGA.out
              have HSA2 := Lib.hid (ResAt.stored HZA.out HFAR2.out HSA.out.1 HSA.out.2)
              have HSB2 := Lib.hid (ResAt.stored HZA.out HFAR2.out HSB.out.1 HSB.out.2)
              obtain ⟨p0, p1, p2, p3, p4, p5⟩ := res_cells HZB2.out
              have g0 := mem_free HZB2.out 0
              have g1 := mem_free HZB2.out 1
              have g2 := mem_free HZB2.out 2
              have g3 := mem_free HZB2.out 3
              have g4 := mem_free HZB2.out 4
              have g5 := mem_free HZB2.out 5
              obtain ⟨U3, hU3⟩ : ∃ U3 : World, set6 U2 bB (.slice ba S.mem.arrays.length bc) (.slice bra S.mem.shared.length brc) (.slice boa S.out.length boc) (.int .i64 (S.rd : Int)) (.int .i64 (S.st : Int)) (.int .i64 S.err) = U3 := ⟨_, rfl⟩
              have HFAR3 : Hid (∀ k, k ≠ bB → U3.heap[k]? = U2.heap[k]?) := fun k hk => by rw [← hU3]; exact set6_far hk
              have HB3' : Hid (U3.heap[bB]? = some (Res.obj S ba bc bra brc boa boc)) := by show _ = _; rw [← hU3]; exact set6_at HZB2.out
              have HA3' : Hid (U3.heap[bA]? = some (Res.obj R aa ac ara arc aoa aoc)) := (HFAR3.out bA HNE.out).trans HA2'.out
              have HBU3 : Hid (Below E0.heap.size E0 U3) := by show Below _ _ _; rw [← hU3]; exact set6_below HBU2.out HGB.out
              have HSA3 := Lib.hid (ResAt.stored HZB2.out HFAR3.out HSA2.out.1 HSA2.out.2)
              have HSB3 := Lib.hid (ResAt.stored HZB2.out HFAR3.out HSB2.out.1 HSB2.out.2)
              unfold set6 at hU2 hU3
              refine wpAnyH_ready (rs := [12]) (by kernel_rfl) (by simp) (AllReadyH.cons rfl (fun K hK => ?_) AllReadyH.nil)
              go_simp
              try rw [hU2]
              refine hK.out _ _ (HBU2.out) (fun hHeld => ?_)
              clear hK K
              rename_i hOld
              clear hOld
              (try simp only [Act.put, List.getElem_toArray, List.getElem_cons_zero, List.getElem_cons_succ, List.setIfInBounds_toArray, List.set_cons_zero, List.set_cons_succ])
              refine wpAnyH_ready (rs := [13]) (by kernel_rfl) (by simp) (AllReadyH.cons rfl (fun K hK => ?_) AllReadyH.nil)
              go_simp
              try rw [hU3]
              refine hK.out _ _ (HBU3.out) (fun hHeld => ?_)
              clear hK K
              rename_i hOld
              clear hOld
              (try simp only [Act.put, List.getElem_toArray, List.getElem_cons_zero, List.getElem_cons_succ, List.setIfInBounds_toArray, List.set_cons_zero, List.set_cons_succ])
              clear hHeld y0 y1 y2 y3 y4 y5 f0 f1 f2 f3 f4 f5 p0 p1 p2 p3 p4 p5 g0 g1 g2 g3 g4 g5 hU2 hU3
              refine wpAnyH_done (by kernel_rfl) ?_ _
              go_wp2_with fail
              go_meet
              exact ⟨bA, bB, aa, ac, ara, arc, aoa, aoc, ba, bc, bra, brc, boa, boc, rfl, rfl, HA3'.out, HB3'.out, HSA3.out.1, HSB3.out.1, HBU3.out⟩
          · go_simp
            refine hK.out _ _ (mem_then HB_1.out (mem_alloc _ _)) (fun hHeld => ?_)
            clear hK K
            rename_i hOld
            clear hOld
            (try simp only [Act.put, List.getElem_toArray, List.getElem_cons_zero, List.getElem_cons_succ, List.setIfInBounds_toArray, List.set_cons_zero, List.set_cons_succ])
            have hz_7 : (w_1.alloc zRes).heap[w_1.heap.size]? = some zRes := mem_new _ _
            have hzB_7 := mem_alloc w_1 zRes
            generalize hQ_7 : w_1.alloc zRes = U_7 at hz_7 hzB_7 hHeld ⊢
            clear hQ_7
            have HB_7 := Lib.hid (mem_then HB_1.out hzB_7)
            have HGA : Hid (E0.heap.size ≤ w_1.heap.size) := HB_1.out.size
            have HS4_7 := Lib.hid (And.intro (ResAt.below HS4_1.out.1 hzB_7) (MemTy.below HS4_1.out.2 hzB_7))
            have HZA7 := Lib.hid hz_7
            clear hz_7 hzB_7
            refine wpAnyH_ready (rs := [9, 11]) (by kernel_rfl) (by simp) (AllReadyH.cons rfl (fun K hK => ?_) (AllReadyH.cons rfl (fun K hK => ?_) AllReadyH.nil))
            · go_simp
              refine (J2.out U_7 HB_7.out).mono ?_
              rintro e w_8 ⟨ba, bc, bra, brc, boa, boc, rfl, hra, hB_8, _, hty⟩
              have HB_8 := Lib.hid (mem_then HB_7.out hB_8)
              have HZA8 := Lib.hid (mem_keep HZA7.out hB_8)
              have HS4_8 := Lib.hid (And.intro (ResAt.below HS4_7.out.1 hB_8) (MemTy.below HS4_7.out.2 hB_8))
              have HS9_8 := Lib.hid (And.intro hra hty)
              clear hra hty hB_8
              refine hK.out _ _ (HB_8.out) (fun hHeld => ?_)
              clear hK K
              rename_i hOld
              clear hOld
              (try simp only [Act.put, List.getElem_toArray, List.getElem_cons_zero, List.getElem_cons_succ, List.setIfInBounds_toArray, List.set_cons_zero, List.set_cons_succ])
              refine wpAnyH_ready (rs := [11]) (by kernel_rfl) (by simp) (AllReadyH.cons rfl (fun K hK => ?_) AllReadyH.nil)
              go_simp
              refine hK.out _ _ (mem_then HB_8.out (mem_alloc _ _)) (fun hHeld => ?_)
              clear hK K
              rename_i hOld
              clear hOld
              (try simp only [Act.put, List.getElem_toArray, List.getElem_cons_zero, List.getElem_cons_succ, List.setIfInBounds_toArray, List.set_cons_zero, List.set_cons_succ])
              have hz_9 : (w_8.alloc zRes).heap[w_8.heap.size]? = some zRes := mem_new _ _
              have hzB_9 := mem_alloc w_8 zRes
              generalize hQ_9 : w_8.alloc zRes = U_9 at hz_9 hzB_9 hHeld ⊢
              clear hQ_9
              have HB_9 := Lib.hid (mem_then HB_8.out hzB_9)
              have hlo_9 := mem_lt HZA8.out
              have HNE : Hid (w_1.heap.size ≠ w_8.heap.size) := fun e => by omega
              clear hlo_9
              have HGB : Hid (E0.heap.size ≤ w_8.heap.size) := HB_8.out.size
              have HZA9 := Lib.hid (mem_keep HZA8.out hzB_9)
              have HS4_9 := Lib.hid (And.intro (ResAt.below HS4_8.out.1 hzB_9) (MemTy.below HS4_8.out.2 hzB_9))
              have HS9_9 := Lib.hid (And.intro (ResAt.below HS9_8.out.1 hzB_9) (MemTy.below HS9_8.out.2 hzB_9))
              have HZB9 := Lib.hid hz_9
              clear hz_9 hzB_9
              obtain ⟨bA, hbA⟩ : ∃ b, w_1.heap.size = b := ⟨_, rfl⟩
              obtain ⟨bB, hbB⟩ : ∃ b, w_8.heap.size = b := ⟨_, rfl⟩
              have HZA := HZA9
              have HZB := HZB9
              have HSA := HS4_9
              have HSB := HS9_9
              have HBE := HB_9
              rw [hbA] at HZA HNE HGA
              rw [hbB] at HZB HNE HGB
              try rw [hbA]
              try rw [hbB]
              clear hbA hbB
              obtain ⟨EW, hEW⟩ : ∃ E : World, U_9 = E := ⟨_, rfl⟩
              rw [hEW] at HZA HZB HSA HSB HBE hHeld ⊢
              clear hEW
              obtain ⟨y0, y1, y2, y3, y4, y5⟩ := res_cells HZA.out
              have f0 := mem_free HZA.out 0
              have f1 := mem_free HZA.out 1
              have f2 := mem_free HZA.out 2
              have f3 := mem_free HZA.out 3
              have f4 := mem_free HZA.out 4
              have f5 := mem_free HZA.out 5
              obtain ⟨U2, hU2⟩ : ∃ U2 : World, set6 EW bA (.slice aa R.mem.arrays.length ac) (.slice ara R.mem.shared.length arc) (.slice aoa R.out.length aoc) (.int .i64 (R.rd : Int)) (.int .i64 (R.st : Int)) (.int .i64 R.err) = U2 := ⟨_, rfl⟩
              have HFAR2 : Hid (∀ k, k ≠ bA → U2.heap[k]? = EW.heap[k]?) := fun k hk => by rw [← hU2]; exact set6_far hk
              have HA2' : Hid (U2.heap[bA]? = some (Res.obj R aa ac ara arc aoa aoc)) := by show _ = _; rw [← hU2]; exact set6_at HZA.out
              have HZB2 : Hid (U2.heap[bB]? = some zRes) := (HFAR2.out bB (fun e => HNE.out e.symm)).trans HZB.out
              have HBU2 : Hid (Below E0.heap.size E0 U2) := by show Below _ _ _; rw [← hU2]; exact set6_below HBE.out HGA.out
              have HSA2 := Lib.hid (ResAt.stored HZA.out HFAR2.out HSA.out.1 HSA.out.2)
              have HSB2 := Lib.hid (ResAt.stored HZA.out HFAR2.out HSB.out.1 HSB.out.2)
              obtain ⟨p0, p1, p2, p3, p4, p5⟩ := res_cells HZB2.out
              have g0 := mem_free HZB2.out 0
              have g1 := mem_free HZB2.out 1
              have g2 := mem_free HZB2.out 2
              have g3 := mem_free HZB2.out 3
              have g4 := mem_free HZB2.out 4
              have g5 := mem_free HZB2.out 5
              obtain ⟨U3, hU3⟩ : ∃ U3 : World, set6 U2 bB (.slice ba S.mem.arrays.length bc) (.slice bra S.mem.shared.length brc) (.slice boa S.out.length boc) (.int .i64 (S.rd : Int)) (.int .i64 (S.st : Int)) (.int .i64 S.err) = U3 := ⟨_, rfl⟩
              have HFAR3 : Hid (∀ k, k ≠ bB → U3.heap[k]? = U2.heap[k]?) := fun k hk => by rw [← hU3]; exact set6_far hk
              have HB3' : Hid (U3.heap[bB]? = some (Res.obj S ba bc bra brc boa boc)) := by show _ = _; rw [← hU3]; exact set6_at HZB2.out
              have HA3' : Hid (U3.heap[bA]? = some (Res.obj R aa ac ara arc aoa aoc)) := (HFAR3.out bA HNE.out).trans HA2'.out
              have HBU3 : Hid (Below E0.heap.size E0 U3) := by show Below _ _ _; rw [← hU3]; exact set6_below HBU2.out HGB.out
              have HSA3 := Lib.hid (ResAt.stored HZB2.out HFAR3.out HSA2.out.1 HSA2.out.2)
              have HSB3 := Lib.hid (ResAt.stored HZB2.out HFAR3.out HSB2.out.1 HSB2.out.2)
              unfold set6 at hU2 hU3
              refine wpAnyH_ready (rs := [12]) (by kernel_rfl) (by simp) (AllReadyH.cons rfl (fun K hK => ?_) AllReadyH.nil)
              go_simp
              try rw [hU2]
              refine hK.out _ _ (HBU2.out) (fun hHeld => ?_)
              clear hK K
              rename_i hOld
              clear hOld
              (try simp only [Act.put, List.getElem_toArray, List.getElem_cons_zero, List.getElem_cons_succ, List.setIfInBounds_toArray, List.set_cons_zero, List.set_cons_succ])
              refine wpAnyH_ready (rs := [13]) (by kernel_rfl) (by simp) (AllReadyH.cons rfl (fun K hK => ?_) AllReadyH.nil)
              go_simp
              try rw [hU3]
              refine hK.out _ _ (HBU3.out) (fun hHeld => ?_)
              clear hK K
              rename_i hOld
              clear hOld
              (try simp only [Act.put, List.getElem_toArray, List.getElem_cons_zero, List.getElem_cons_succ, List.setIfInBounds_toArray, List.set_cons_zero, List.set_cons_succ])
              clear hHeld y0 y1 y2 y3 y4 y5 f0 f1 f2 f3 f4 f5 p0 p1 p2 p3 p4 p5 g0 g1 g2 g3 g4 g5 hU2 hU3
              refine wpAnyH_done (by kernel_rfl) ?_ _
              go_wp2_with fail
              go_meet
              exact ⟨bA, bB, aa, ac, ara, arc, aoa, aoc, ba, bc, bra, brc, boa, boc, rfl, rfl, HA3'.out, HB3'.out, HSA3.out.1, HSB3.out.1, HBU3.out⟩
            · go_simp
              refine hK.out _ _ (mem_then HB_7.out (mem_alloc _ _)) (fun hHeld => ?_)
              clear hK K
              rename_i hOld
              clear hOld
              (try simp only [Act.put, List.getElem_toArray, List.getElem_cons_zero, List.getElem_cons_succ, List.setIfInBounds_toArray, List.set_cons_zero, List.set_cons_succ])
              have hz_10 : (U_7.alloc zRes).heap[U_7.heap.size]? = some zRes := mem_new _ _
              have hzB_10 := mem_alloc U_7 zRes
              generalize hQ_10 : U_7.alloc zRes = U_10 at hz_10 hzB_10 hHeld ⊢
              clear hQ_10
              have HB_10 := Lib.hid (mem_then HB_7.out hzB_10)
              have hlo_10 := mem_lt HZA7.out
              have HNE : Hid (w_1.heap.size ≠ U_7.heap.size) := fun e => by omega
              clear hlo_10
              have HGB : Hid (E0.heap.size ≤ U_7.heap.size) := HB_7.out.size
              have HZA10 := Lib.hid (mem_keep HZA7.out hzB_10)
              have HS4_10 := Lib.hid (And.intro (ResAt.below HS4_7.out.1 hzB_10) (MemTy.below HS4_7.out.2 hzB_10))
              have HZB10 := Lib.hid hz_10
              clear hz_10 hzB_10
              refine wpAnyH_ready (rs := [9]) (by kernel_rfl) (by simp) (AllReadyH.cons rfl (fun K hK => ?_) AllReadyH.nil)
              go_simp
              refine (J2.out U_10 HB_10.out).mono ?_
              rintro e w_11 ⟨ba, bc, bra, brc, boa, boc, rfl, hra, hB_11, _, hty⟩
              have HB_11 := Lib.hid (mem_then HB_10.out hB_11)
              have HZA11 := Lib.hid (mem_keep HZA10.out hB_11)
              have HZB11 := Lib.hid (mem_keep HZB10.out hB_11)
              have HS4_11 := Lib.hid (And.intro (ResAt.below HS4_10.out.1 hB_11) (MemTy.below HS4_10.out.2 hB_11))
              have HS9_11 := Lib.hid (And.intro hra hty)
              clear hra hty hB_11
              refine hK.out _ _ (HB_11.out) (fun hHeld => ?_)
              clear hK K
              rename_i hOld
              clear hOld
              (try simp only [Act.put, List.getElem_toArray, List.getElem_cons_zero, List.getElem_cons_succ, List.setIfInBounds_toArray, List.set_cons_zero, List.set_cons_succ])
              obtain ⟨bA, hbA⟩ : ∃ b, w_1.heap.size = b := ⟨_, rfl⟩
              obtain ⟨bB, hbB⟩ : ∃ b, U_7.heap.size = b := ⟨_, rfl⟩
              have HZA := HZA11
              have HZB := HZB11
              have HSA := HS4_11
              have HSB := HS9_11
              have HBE := HB_11
              rw [hbA] at HZA HNE HGA
              rw [hbB] at HZB HNE HGB
              try rw [hbA]
              try rw [hbB]
              clear hbA hbB
              obtain ⟨EW, hEW⟩ : ∃ E : World, w_11 = E := ⟨_, rfl⟩
              rw [hEW] at HZA HZB HSA HSB HBE hHeld ⊢
              clear hEW
              obtain ⟨y0, y1, y2, y3, y4, y5⟩ := res_cells HZA.out
              have f0 := mem_free HZA.out 0
              have f1 := mem_free HZA.out 1
              have f2 := mem_free HZA.out 2
              have f3 := mem_free HZA.out 3
              have f4 := mem_free HZA.out 4
              have f5 := mem_free HZA.out 5
              obtain ⟨U2, hU2⟩ : ∃ U2 : World, set6 EW bA (.slice aa R.mem.arrays.length ac) (.slice ara R.mem.shared.length arc) (.slice aoa R.out.length aoc) (.int .i64 (R.rd : Int)) (.int .i64 (R.st : Int)) (.int .i64 R.err) = U2 := ⟨_, rfl⟩
              have HFAR2 : Hid (∀ k, k ≠ bA → U2.heap[k]? = EW.heap[k]?) := fun k hk => by rw [← hU2]; exact set6_far hk
              have HA2' : Hid (U2.heap[bA]? = some (Res.obj R aa ac ara arc aoa aoc)) := by show _ = _; rw [← hU2]; exact set6_at HZA.out
              have HZB2 : Hid (U2.heap[bB]? = some zRes) := (HFAR2.out bB (fun e => HNE.out e.symm)).trans HZB.out
              have HBU2 : Hid (Below E0.heap.size E0 U2) := by show Below _ _ _; rw [← hU2]; exact set6_below HBE.out HGA.out
              have HSA2 := Lib.hid (ResAt.stored HZA.out HFAR2.out HSA.out.1 HSA.out.2)
              have HSB2 := Lib.hid (ResAt.stored HZA.out HFAR2.out HSB.out.1 HSB.out.2)
              obtain ⟨p0, p1, p2, p3, p4, p5⟩ := res_cells HZB2.out
              have g0 := mem_free HZB2.out 0
              have g1 := mem_free HZB2.out 1
              have g2 := mem_free HZB2.out 2
              have g3 := mem_free HZB2.out 3
              have g4 := mem_free HZB2.out 4
              have g5 := mem_free HZB2.out 5
              obtain ⟨U3, hU3⟩ : ∃ U3 : World, set6 U2 bB (.slice ba S.mem.arrays.length bc) (.slice bra S.mem.shared.length brc) (.slice boa S.out.length boc) (.int .i64 (S.rd : Int)) (.int .i64 (S.st : Int)) (.int .i64 S.err) = U3 := ⟨_, rfl⟩
              have HFAR3 : Hid (∀ k, k ≠ bB → U3.heap[k]? = U2.heap[k]?) := fun k hk => by rw [← hU3]; exact set6_far hk
              have HB3' : Hid (U3.heap[bB]? = some (Res.obj S ba bc bra brc boa boc)) := by show _ = _; rw [← hU3]; exact set6_at HZB2.out
              have HA3' : Hid (U3.heap[bA]? = some (Res.obj R aa ac ara arc aoa aoc)) := (HFAR3.out bA HNE.out).trans HA2'.out
              have HBU3 : Hid (Below E0.heap.size E0 U3) := by show Below _ _ _; rw [← hU3]; exact set6_below HBU2.out HGB.out
              have HSA3 := Lib.hid (ResAt.stored HZB2.out HFAR3.out HSA2.out.1 HSA2.out.2)
              have HSB3 := Lib.hid (ResAt.stored HZB2.out HFAR3.out HSB2.out.1 HSB2.out.2)
              unfold set6 at hU2 hU3
              refine wpAnyH_ready (rs := [12]) (by kernel_rfl) (by simp) (AllReadyH.cons rfl (fun K hK => ?_) AllReadyH.nil)
              go_simp
              try rw [hU2]
              refine hK.out _ _ (HBU2.out) (fun hHeld => ?_)
              clear hK K
              rename_i hOld
              clear hOld
              (try simp only [Act.put, List.getElem_toArray, List.getElem_cons_zero, List.getElem_cons_succ, List.setIfInBounds_toArray, List.set_cons_zero, List.set_cons_succ])
              refine wpAnyH_ready (rs := [13]) (by kernel_rfl) (by simp) (AllReadyH.cons rfl (fun K hK => ?_) AllReadyH.nil)
              go_simp
              try rw [hU3]
              refine hK.out _ _ (HBU3.out) (fun hHeld => ?_)
              clear hK K
              rename_i hOld
              clear hOld
              (try simp only [Act.put, List.getElem_toArray, List.getElem_cons_zero, List.getElem_cons_succ, List.setIfInBounds_toArray, List.set_cons_zero, List.set_cons_succ])
              clear hHeld y0 y1 y2 y3 y4 y5 f0 f1 f2 f3 f4 f5 p0 p1 p2 p3 p4 p5 g0 g1 g2 g3 g4 g5 hU2 hU3
              refine wpAnyH_done (by kernel_rfl) ?_ _
              go_wp2_with fail
              go_meet
              exact ⟨bA, bB, aa, ac, ara, arc, aoa, aoc, ba, bc, bra, brc, boa, boc, rfl, rfl, HA3'.out, HB3'.out, HSA3.out.1, HSB3.out.1, HBU3.out⟩
          · go_simp
            refine hK.out _ _ (mem_then HB_1.out (mem_alloc _ _)) (fun hHeld => ?_)
            clear hK K
            rename_i hOld
            clear hOld
            (try simp only [Act.put, List.getElem_toArray, List.getElem_cons_zero, List.getElem_cons_succ, List.setIfInBounds_toArray, List.set_cons_zero, List.set_cons_succ])
            have hz_12 : (w_1.alloc zRes).heap[w_1.heap.size]? = some zRes := mem_new _ _
            have hzB_12 := mem_alloc w_1 zRes
            generalize hQ_12 : w_1.alloc zRes = U_12 at hz_12 hzB_12 hHeld ⊢
            clear hQ_12
            have HB_12 := Lib.hid (mem_then HB_1.out hzB_12)
            have HGB : Hid (E0.heap.size ≤ w_1.heap.size) := HB_1.out.size
            have HS4_12 := Lib.hid (And.intro (ResAt.below HS4_1.out.1 hzB_12) (MemTy.below HS4_1.out.2 hzB_12))
            have HZB12 := Lib.hid hz_12
            clear hz_12 hzB_12
            refine wpAnyH_ready (rs := [9, 10]) (by kernel_rfl) (by simp) (AllReadyH.cons rfl (fun K hK => ?_) (AllReadyH.cons rfl (fun K hK => ?_) AllReadyH.nil))
            · go_simp
              refine (J2.out U_12 HB_12.out).mono ?_
              rintro e w_13 ⟨ba, bc, bra, brc, boa, boc, rfl, hra, hB_13, _, hty⟩
              have HB_13 := Lib.hid (mem_then HB_12.out hB_13)
              have HZB13 := Lib.hid (mem_keep HZB12.out hB_13)
              have HS4_13 := Lib.hid (And.intro (ResAt.below HS4_12.out.1 hB_13) (MemTy.below HS4_12.out.2 hB_13))
              have HS9_13 := Lib.hid (And.intro hra hty)
              clear hra hty hB_13
              refine hK.out _ _ (HB_13.out) (fun hHeld => ?_)
              clear hK K
              rename_i hOld
              clear hOld
              (try simp only [Act.put, List.getElem_toArray, List.getElem_cons_zero, List.getElem_cons_succ, List.setIfInBounds_toArray, List.set_cons_zero, List.set_cons_succ])
              refine wpAnyH_ready (rs := [10]) (by kernel_rfl) (by simp) (AllReadyH.cons rfl (fun K hK => ?_) AllReadyH.nil)
              go_simp
              refine hK.out _ _ (mem_then HB_13.out (mem_alloc _ _)) (fun hHeld => ?_)
              clear hK K
              rename_i hOld
              clear hOld
              (try simp only [Act.put, List.getElem_toArray, List.getElem_cons_zero, List.getElem_cons_succ, List.setIfInBounds_toArray, List.set_cons_zero, List.set_cons_succ])
              have hz_14 : (w_13.alloc zRes).heap[w_13.heap.size]? = some zRes := mem_new _ _
              have hzB_14 := mem_alloc w_13 zRes
              generalize hQ_14 : w_13.alloc zRes = U_14 at hz_14 hzB_14 hHeld ⊢
              clear hQ_14
              have HB_14 := Lib.hid (mem_then HB_13.out hzB_14)
              have hlo_14 := mem_lt HZB13.out
              have HNE : Hid (w_13.heap.size ≠ w_1.heap.size) := fun e => by omega
              clear hlo_14
              have HGA : Hid (E0.heap.size ≤ w_13.heap.size) := HB_13.out.size
              have HZB14 := Lib.hid (mem_keep HZB13.out hzB_14)
              have HS4_14 := Lib.hid (And.intro (ResAt.below HS4_13.out.1 hzB_14) (MemTy.below HS4_13.out.2 hzB_14))
              have HS9_14 := Lib.hid (And.intro (ResAt.below HS9_13.out.1 hzB_14) (MemTy.below HS9_13.out.2 hzB_14))
              have HZA14 := Lib.hid hz_14
              clear hz_14 hzB_14
              obtain ⟨bA, hbA⟩ : ∃ b, w_13.heap.size = b := ⟨_, rfl⟩
              obtain ⟨bB, hbB⟩ : ∃ b, w_1.heap.size = b := ⟨_, rfl⟩
              have HZA := HZA14
              have HZB := HZB14
              have HSA := HS4_14
              have HSB := HS9_14
              have HBE := HB_14
              rw [hbA] at HZA HNE HGA
              rw [hbB] at HZB HNE HGB
              try rw [hbA]
              try rw [hbB]
              clear hbA hbB
              obtain ⟨EW, hEW⟩ : ∃ E : World, U_14 = E := ⟨_, rfl⟩
              rw [hEW] at HZA HZB HSA HSB HBE hHeld ⊢
              clear hEW
              obtain ⟨y0, y1, y2, y3, y4, y5⟩ := res_cells HZA.out
              have f0 := mem_free HZA.out 0
              have f1 := mem_free HZA.out 1
              have f2 := mem_free HZA.out 2
              have f3 := mem_free HZA.out 3
              have f4 := mem_free HZA.out 4
              have f5 := mem_free HZA.out 5
              obtain ⟨U2, hU2⟩ : ∃ U2 : World, set6 EW bA (.slice aa R.mem.arrays.length ac) (.slice ara R.mem.shared.length arc) (.slice aoa R.out.length aoc) (.int .i64 (R.rd : Int)) (.int .i64 (R.st : Int)) (.int .i64 R.err) = U2 := ⟨_, rfl⟩
              have HFAR2 : Hid (∀ k, k ≠ bA → U2.heap[k]? = EW.heap[k]?) := fun k hk => by rw [← hU2]; exact set6_far hk
              have HA2' : Hid (U2.heap[bA]? = some (Res.obj R aa ac ara arc aoa aoc)) := by show _ = _; rw [← hU2]; exact set6_at HZA.out
              have HZB2 : Hid (U2.heap[bB]? = some zRes) := (HFAR2.out bB (fun e => HNE.out e.symm)).trans HZB.out
              have HBU2 : Hid (Below E0.heap.size E0 U2) := by show Below _ _ _; rw [← hU2]; exact set6_below HBE.out HGA.out
              have HSA2 := Lib.hid (ResAt.stored HZA.out HFAR2.out HSA.out.1 HSA.out.2)
              have HSB2 := Lib.hid (ResAt.stored HZA.out HFAR2.out HSB.out.1 HSB.out.2)
              obtain ⟨p0, p1, p2, p3, p4, p5⟩ := res_cells HZB2.out
              have g0 := mem_free HZB2.out 0
              have g1 := mem_free HZB2.out 1
              have g2 := mem_free HZB2.out 2
              have g3 := mem_free HZB2.out 3
              have g4 := mem_free HZB2.out 4
              have g5 := mem_free HZB2.out 5
              obtain ⟨U3, hU3⟩ : ∃ U3 : World, set6 U2 bB (.slice ba S.mem.arrays.length bc) (.slice bra S.mem.shared.length brc) (.slice boa S.out.length boc) (.int .i64 (S.rd : Int)) (.int .i64 (S.st : Int)) (.int .i64 S.err) = U3 := ⟨_, rfl⟩
              have HFAR3 : Hid (∀ k, k ≠ bB → U3.heap[k]? = U2.heap[k]?) := fun k hk => by rw [← hU3]; exact set6_far hk
              have HB3' : Hid (U3.heap[bB]? = some (Res.obj S ba bc bra brc boa boc)) := by show _ = _; rw [← hU3]; exact set6_at HZB2.out
              have HA3' : Hid (U3.heap[bA]? = some (Res.obj R aa ac ara arc aoa aoc)) := (HFAR3.out bA HNE.out).trans HA2'.out
              have HBU3 : Hid (Below E0.heap.size E0 U3) := by show Below _ _ _; rw [← hU3]; exact set6_below HBU2.out HGB.out
              have HSA3 := Lib.hid (ResAt.stored HZB2.out HFAR3.out HSA2.out.1 HSA2.out.2)
              have HSB3 := Lib.hid (ResAt.stored HZB2.out HFAR3.out HSB2.out.1 HSB2.out.2)
              unfold set6 at hU2 hU3
              refine wpAnyH_ready (rs := [12]) (by kernel_rfl) (by simp) (AllReadyH.cons rfl (fun K hK => ?_) AllReadyH.nil)
              go_simp
              try rw [hU2]
              refine hK.out _ _ (HBU2.out) (fun hHeld => ?_)
              clear hK K
              rename_i hOld
              clear hOld
              (try simp only [Act.put, List.getElem_toArray, List.getElem_cons_zero, List.getElem_cons_succ, List.setIfInBounds_toArray, List.set_cons_zero, List.set_cons_succ])
              refine wpAnyH_ready (rs := [13]) (by kernel_rfl) (by simp) (AllReadyH.cons rfl (fun K hK => ?_) AllReadyH.nil)
              go_simp
              try rw [hU3]
              refine hK.out _ _ (HBU3.out) (fun hHeld => ?_)
              clear hK K
              rename_i hOld
              clear hOld
              (try simp only [Act.put, List.getElem_toArray, List.getElem_cons_zero, List.getElem_cons_succ, List.setIfInBounds_toArray, List.set_cons_zero, List.set_cons_succ])
              clear hHeld y0 y1 y2 y3 y4 y5 f0 f1 f2 f3 f4 f5 p0 p1 p2 p3 p4 p5 g0 g1 g2 g3 g4 g5 hU2 hU3
              refine wpAnyH_done (by kernel_rfl) ?_ _
              go_wp2_with fail
              go_meet
              exact ⟨bA, bB, aa, ac, ara, arc, aoa, aoc, ba, bc, bra, brc, boa, boc, rfl, rfl, HA3'.out, HB3'.out, HSA3.out.1, HSB3.out.1, HBU3.out⟩
            · go_simp
              refine hK.out _ _ (mem_then HB_12.out (mem_alloc _ _)) (fun hHeld => ?_)
              clear hK K
              rename_i hOld
              clear hOld
              (try simp only [Act.put, List.getElem_toArray, List.getElem_cons_zero, List.getElem_cons_succ, List.setIfInBounds_toArray, List.set_cons_zero, List.set_cons_succ])
              have hz_15 : (U_12.alloc zRes).heap[U_12.heap.size]? = some zRes := mem_new _ _
              have hzB_15 := mem_alloc U_12 zRes
              generalize hQ_15 : U_12.alloc zRes = U_15 at hz_15 hzB_15 hHeld ⊢
              clear hQ_15
              have HB_15 := Lib.hid (mem_then HB_12.out hzB_15)
              have hlo_15 := mem_lt HZB12.out
              have HNE : Hid (U_12.heap.size ≠ w_1.heap.size) := fun e => by omega
              clear hlo_15
              have HGA : Hid (E0.heap.size ≤ U_12.heap.size) := HB_12.out.size
              have HZB15 := Lib.hid (mem_keep HZB12.out hzB_15)
              have HS4_15 := Lib.hid (And.intro (ResAt.below HS4_12.out.1 hzB_15) (MemTy.below HS4_12.out.2 hzB_15))
              have HZA15 := Lib.hid hz_15
              clear hz_15 hzB_15
              refine wpAnyH_ready (rs := [9]) (by kernel_rfl) (by simp) (AllReadyH.cons rfl (fun K hK => ?_) AllReadyH.nil)
              go_simp
              refine (J2.out U_15 HB_15.out).mono ?_
              rintro e w_16 ⟨ba, bc, bra, brc, boa, boc, rfl, hra, hB_16, _, hty⟩
              have HB_16 := Lib.hid (mem_then HB_15.out hB_16)
              have HZA16 := Lib.hid (mem_keep HZA15.out hB_16)
              have HZB16 := Lib.hid (mem_keep HZB15.out hB_16)
              have HS4_16 := Lib.hid (And.intro (ResAt.below HS4_15.out.1 hB_16) (MemTy.below HS4_15.out.2 hB_16))
              have HS9_16 := Lib.hid (And.intro hra hty)
              clear hra hty hB_16
              refine hK.out _ _ (HB_16.out) (fun hHeld => ?_)
              clear hK K
              rename_i hOld
              clear hOld
              (try simp only [Act.put, List.getElem_toArray, List.getElem_cons_zero, List.getElem_cons_succ, List.setIfInBounds_toArray, List.set_cons_zero, List.set_cons_succ])
              obtain ⟨bA, hbA⟩ : ∃ b, U_12.heap.size = b := ⟨_, rfl⟩
              obtain ⟨bB, hbB⟩ : ∃ b, w_1.heap.size = b := ⟨_, rfl⟩
              have HZA := HZA16
              have HZB := HZB16
              have HSA := HS4_16
              have HSB := HS9_16
              have HBE := HB_16
              rw [hbA] at HZA HNE HGA
              rw [hbB] at HZB HNE HGB
              try rw [hbA]
              try rw [hbB]
              clear hbA hbB
              obtain ⟨EW, hEW⟩ : ∃ E : World, w_16 = E := ⟨_, rfl⟩
              rw [hEW] at HZA HZB HSA HSB HBE hHeld ⊢
              clear hEW
              obtain ⟨y0, y1, y2, y3, y4, y5⟩ := res_cells HZA.out
              have f0 := mem_free HZA.out 0
              have f1 := mem_free HZA.out 1
              have f2 := mem_free HZA.out 2
              have f3 := mem_free HZA.out 3
              have f4 := mem_free HZA.out 4
              have f5 := mem_free HZA.out 5
              obtain ⟨U2, hU2⟩ : ∃ U2 : World, set6 EW bA (.slice aa R.mem.arrays.length ac) (.slice ara R.mem.shared.length arc) (.slice aoa R.out.length aoc) (.int .i64 (R.rd : Int)) (.int .i64 (R.st : Int)) (.int .i64 R.err) = U2 := ⟨_, rfl⟩
              have HFAR2 : Hid (∀ k, k ≠ bA → U2.heap[k]? = EW.heap[k]?) := fun k hk => by rw [← hU2]; exact set6_far hk
              have HA2' : Hid (U2.heap[bA]? = some (Res.obj R aa ac ara arc aoa aoc)) := by show _ = _; rw [← hU2]; exact set6_at HZA.out
              have HZB2 : Hid (U2.heap[bB]? = some zRes) := (HFAR2.out bB (fun e => HNE.out e.symm)).trans HZB.out
              have HBU2 : Hid (Below E0.heap.size E0 U2) := by show Below _ _ _; rw [← hU2]; exact set6_below HBE.out HGA.out
              have HSA2 := Lib.hid (ResAt.stored HZA.out HFAR2.out HSA.out.1 HSA.out.2)
              have HSB2 := Lib.hid (ResAt.stored HZA.out HFAR2.out HSB.out.1 HSB.out.2)
              obtain ⟨p0, p1, p2, p3, p4, p5⟩ := res_cells HZB2.out
              have g0 := mem_free HZB2.out 0
              have g1 := mem_free HZB2.out 1
              have g2 := mem_free HZB2.out 2
              have g3 := mem_free HZB2.out 3
              have g4 := mem_free HZB2.out 4
              have g5 := mem_free HZB2.out 5
              obtain ⟨U3, hU3⟩ : ∃ U3 : World, set6 U2 bB (.slice ba S.mem.arrays.length bc) (.slice bra S.mem.shared.length brc) (.slice boa S.out.length boc) (.int .i64 (S.rd : Int)) (.int .i64 (S.st : Int)) (.int .i64 S.err) = U3 := ⟨_, rfl⟩
              have HFAR3 : Hid (∀ k, k ≠ bB → U3.heap[k]? = U2.heap[k]?) := fun k hk => by rw [← hU3]; exact set6_far hk
              have HB3' : Hid (U3.heap[bB]? = some (Res.obj S ba bc bra brc boa boc)) := by show _ = _; rw [← hU3]; exact set6_at HZB2.out
              have HA3' : Hid (U3.heap[bA]? = some (Res.obj R aa ac ara arc aoa aoc)) := (HFAR3.out bA HNE.out).trans HA2'.out
              have HBU3 : Hid (Below E0.heap.size E0 U3) := by show Below _ _ _; rw [← hU3]; exact set6_below HBU2.out HGB.out
              have HSA3 := Lib.hid (ResAt.stored HZB2.out HFAR3.out HSA2.out.1 HSA2.out.2)
              have HSB3 := Lib.hid (ResAt.stored HZB2.out HFAR3.out HSB2.out.1 HSB2.out.2)
              unfold set6 at hU2 hU3
              refine wpAnyH_ready (rs := [12]) (by kernel_rfl) (by simp) (AllReadyH.cons rfl (fun K hK => ?_) AllReadyH.nil)
              go_simp
              try rw [hU2]
              refine hK.out _ _ (HBU2.out) (fun hHeld => ?_)
              clear hK K
              rename_i hOld
              clear hOld
              (try simp only [Act.put, List.getElem_toArray, List.getElem_cons_zero, List.getElem_cons_succ, List.setIfInBounds_toArray, List.set_cons_zero, List.set_cons_succ])
              refine wpAnyH_ready (rs := [13]) (by kernel_rfl) (by simp) (AllReadyH.cons rfl (fun K hK => ?_) AllReadyH.nil)
              go_simp
              try rw [hU3]
              refine hK.out _ _ (HBU3.out) (fun hHeld => ?_)
              clear hK K
              rename_i hOld
              clear hOld
              (try simp only [Act.put, List.getElem_toArray, List.getElem_cons_zero, List.getElem_cons_succ, List.setIfInBounds_toArray, List.set_cons_zero, List.set_cons_succ])
              clear hHeld y0 y1 y2 y3 y4 y5 f0 f1 f2 f3 f4 f5 p0 p1 p2 p3 p4 p5 g0 g1 g2 g3 g4 g5 hU2 hU3
              refine wpAnyH_done (by kernel_rfl) ?_ _
              go_wp2_with fail
              go_meet
              exact ⟨bA, bB, aa, ac, ara, arc, aoa, aoc, ba, bc, bra, brc, boa, boc, rfl, rfl, HA3'.out, HB3'.out, HSA3.out.1, HSB3.out.1, HBU3.out⟩
        · go_simp
          refine hK.out _ _ (mem_then HHV.out (mem_alloc _ _)) (fun hHeld => ?_)
          clear hK K
          rename_i hOld
          clear hOld
          (try simp only [Act.put, List.getElem_toArray, List.getElem_cons_zero, List.getElem_cons_succ, List.setIfInBounds_toArray, List.set_cons_zero, List.set_cons_succ])
          have hz_17 : (v1.alloc zRes).heap[v1.heap.size]? = some zRes := mem_new _ _
          have hzB_17 := mem_alloc v1 zRes
          generalize hQ_17 : v1.alloc zRes = U_17 at hz_17 hzB_17 hHeld ⊢
          clear hQ_17
          have HB_17 := Lib.hid (mem_then HHV.out hzB_17)
          have HGA : Hid (E0.heap.size ≤ v1.heap.size) := HHV.out.size
          have HZA17 := Lib.hid hz_17
          clear hz_17 hzB_17
          refine wpAnyH_ready (rs := [4, 11]) (by kernel_rfl) (by simp) (AllReadyH.cons rfl (fun K hK => ?_) (AllReadyH.cons rfl (fun K hK => ?_) AllReadyH.nil))
          · go_simp
            refine (J1.out U_17 HB_17.out).mono ?_
            rintro e w_18 ⟨aa, ac, ara, arc, aoa, aoc, rfl, hra, hB_18, _, hty⟩
            have HB_18 := Lib.hid (mem_then HB_17.out hB_18)
            have HZA18 := Lib.hid (mem_keep HZA17.out hB_18)
            have HS4_18 := Lib.hid (And.intro hra hty)
            clear hra hty hB_18
            refine hK.out _ _ (HB_18.out) (fun hHeld => ?_)
            clear hK K
            rename_i hOld
            clear hOld
            (try simp only [Act.put, List.getElem_toArray, List.getElem_cons_zero, List.getElem_cons_succ, List.setIfInBounds_toArray, List.set_cons_zero, List.set_cons_succ])
            refine wpAnyH_ready (rs := [9, 11]) (by kernel_rfl) (by simp) (AllReadyH.cons rfl (fun K hK => ?_) (AllReadyH.cons rfl (fun K hK => ?_) AllReadyH.nil))
            · go_simp
              refine (J2.out w_18 HB_18.out).mono ?_
              rintro e w_19 ⟨ba, bc, bra, brc, boa, boc, rfl, hra, hB_19, _, hty⟩
              have HB_19 := Lib.hid (mem_then HB_18.out hB_19)
              have HZA19 := Lib.hid (mem_keep HZA18.out hB_19)
              have HS4_19 := Lib.hid (And.intro (ResAt.below HS4_18.out.1 hB_19) (MemTy.below HS4_18.out.2 hB_19))
              have HS9_19 := Lib.hid (And.intro hra hty)
              clear hra hty hB_19
              refine hK.out _ _ (HB_19.out) (fun hHeld => ?_)
              clear hK K
              rename_i hOld
              clear hOld
              (try simp only [Act.put, List.getElem_toArray, List.getElem_cons_zero, List.getElem_cons_succ, List.setIfInBounds_toArray, List.set_cons_zero, List.set_cons_succ])
              refine wpAnyH_ready (rs := [11]) (by kernel_rfl) (by simp) (AllReadyH.cons rfl (fun K hK => ?_) AllReadyH.nil)
              go_simp
              refine hK.out _ _ (mem_then HB_19.out (mem_alloc _ _)) (fun hHeld => ?_)
              clear hK K
              rename_i hOld
              clear hOld
              (try simp only [Act.put, List.getElem_toArray, List.getElem_cons_zero, List.getElem_cons_succ, List.setIfInBounds_toArray, List.set_cons_zero, List.set_cons_succ])
              have hz_20 : (w_19.alloc zRes).heap[w_19.heap.size]? = some zRes := mem_new _ _
              have hzB_20 := mem_alloc w_19 zRes
              generalize hQ_20 : w_19.alloc zRes = U_20 at hz_20 hzB_20 hHeld ⊢
              clear hQ_20
              have HB_20 := Lib.hid (mem_then HB_19.out hzB_20)
              have hlo_20 := mem_lt HZA19.out
              have HNE : Hid (v1.heap.size ≠ w_19.heap.size) := fun e => by omega
              clear hlo_20
              have HGB : Hid (E0.heap.size ≤ w_19.heap.size) := HB_19.out.size
              have HZA20 := Lib.hid (mem_keep HZA19.out hzB_20)
              have HS4_20 := Lib.hid (And.intro (ResAt.below HS4_19.out.1 hzB_20) (MemTy.below HS4_19.out.2 hzB_20))
              have HS9_20 := Lib.hid (And.intro (ResAt.below HS9_19.out.1 hzB_20) (MemTy.below HS9_19.out.2 hzB_20))
              have HZB20 := Lib.hid hz_20
              clear hz_20 hzB_20
              obtain ⟨bA, hbA⟩ : ∃ b, v1.heap.size = b := ⟨_, rfl⟩
              obtain ⟨bB, hbB⟩ : ∃ b, w_19.heap.size = b := ⟨_, rfl⟩
              have HZA := HZA20
              have HZB := HZB20
              have HSA := HS4_20
              have HSB := HS9_20
              have HBE := HB_20
              rw [hbA] at HZA HNE HGA
              rw [hbB] at HZB HNE HGB
              try rw [hbA]
              try rw [hbB]
              clear hbA hbB
              obtain ⟨EW, hEW⟩ : ∃ E : World, U_20 = E := ⟨_, rfl⟩
              rw [hEW] at HZA HZB HSA HSB HBE hHeld ⊢
              clear hEW
              obtain ⟨y0, y1, y2, y3, y4, y5⟩ := res_cells HZA.out
              have f0 := mem_free HZA.out 0
              have f1 := mem_free HZA.out 1
              have f2 := mem_free HZA.out 2
              have f3 := mem_free HZA.out 3
              have f4 := mem_free HZA.out 4
              have f5 := mem_free HZA.out 5
              obtain ⟨U2, hU2⟩ : ∃ U2 : World, set6 EW bA (.slice aa R.mem.arrays.length ac) (.slice ara R.mem.shared.length arc) (.slice aoa R.out.length aoc) (.int .i64 (R.rd : Int)) (.int .i64 (R.st : Int)) (.int .i64 R.err) = U2 := ⟨_, rfl⟩
              have HFAR2 : Hid (∀ k, k ≠ bA → U2.heap[k]? = EW.heap[k]?) := fun k hk => by rw [← hU2]; exact set6_far hk
              have HA2' : Hid (U2.heap[bA]? = some (Res.obj R aa ac ara arc aoa aoc)) := by show _ = _; rw [← hU2]; exact set6_at HZA.out
              have HZB2 : Hid (U2.heap[bB]? = some zRes) := (HFAR2.out bB (fun e => HNE.out e.symm)).trans HZB.out
              have HBU2 : Hid (Below E0.heap.size E0 U2) := by show Below _ _ _; rw [← hU2]; exact set6_below HBE.out HGA.out
              have HSA2 := Lib.hid (ResAt.stored HZA.out HFAR2.out HSA.out.1 HSA.out.2)
              have HSB2 := Lib.hid (ResAt.stored HZA.out HFAR2.out HSB.out.1 HSB.out.2)
              obtain ⟨p0, p1, p2, p3, p4, p5⟩ := res_cells HZB2.out
              have g0 := mem_free HZB2.out 0
              have g1 := mem_free HZB2.out 1
              have g2 := mem_free HZB2.out 2
              have g3 := mem_free HZB2.out 3
              have g4 := mem_free HZB2.out 4
              have g5 := mem_free HZB2.out 5
              obtain ⟨U3, hU3⟩ : ∃ U3 : World, set6 U2 bB (.slice ba S.mem.arrays.length bc) (.slice bra S.mem.shared.length brc) (.slice boa S.out.length boc) (.int .i64 (S.rd : Int)) (.int .i64 (S.st : Int)) (.int .i64 S.err) = U3 := ⟨_, rfl⟩
              have HFAR3 : Hid (∀ k, k ≠ bB → U3.heap[k]? = U2.heap[k]?) := fun k hk => by rw [← hU3]; exact set6_far hk
              have HB3' : Hid (U3.heap[bB]? = some (Res.obj S ba bc bra brc boa boc)) := by show _ = _; rw [← hU3]; exact set6_at HZB2.out
              have HA3' : Hid (U3.heap[bA]? = some (Res.obj R aa ac ara arc aoa aoc)) := (HFAR3.out bA HNE.out).trans HA2'.out
              have HBU3 : Hid (Below E0.heap.size E0 U3) := by show Below _ _ _; rw [← hU3]; exact set6_below HBU2.out HGB.out
              have HSA3 := Lib.hid (ResAt.stored HZB2.out HFAR3.out HSA2.out.1 HSA2.out.2)
              have HSB3 := Lib.hid (ResAt.stored HZB2.out HFAR3.out HSB2.out.1 HSB2.out.2)
              unfold set6 at hU2 hU3
              refine wpAnyH_ready (rs := [12]) (by kernel_rfl) (by simp) (AllReadyH.cons rfl (fun K hK => ?_) AllReadyH.nil)
              go_simp
              try rw [hU2]
              refine hK.out _ _ (HBU2.out) (fun hHeld => ?_)
              clear hK K
              rename_i hOld
              clear hOld
              (try simp only [Act.put, List.getElem_toArray, List.getElem_cons_zero, List.getElem_cons_succ, List.setIfInBounds_toArray, List.set_cons_zero, List.set_cons_succ])
              refine wpAnyH_ready (rs := [13]) (by kernel_rfl) (by simp) (AllReadyH.cons rfl (fun K hK => ?_) AllReadyH.nil)
              go_simp
              try rw [hU3]
              refine hK.out _ _ (HBU3.out) (fun hHeld => ?_)
              clear hK K
              rename_i hOld
              clear hOld
              (try simp only [Act.put, List.getElem_toArray, List.getElem_cons_zero, List.getElem_cons_succ, List.setIfInBounds_toArray, List.set_cons_zero, List.set_cons_succ])
              clear hHeld y0 y1 y2 y3 y4 y5 f0 f1 f2 f3 f4 f5 p0 p1 p2 p3 p4 p5 g0 g1 g2 g3 g4 g5 hU2 hU3
              refine wpAnyH_done (by kernel_rfl) ?_ _
              go_wp2_with fail
              go_meet
              exact ⟨bA, bB, aa, ac, ara, arc, aoa, aoc, ba, bc, bra, brc, boa, boc, rfl, rfl, HA3'.out, HB3'.out, HSA3.out.1, HSB3.out.1, HBU3.out⟩
            · go_simp
              refine hK.out _ _ (mem_then HB_18.out (mem_alloc _ _)) (fun hHeld => ?_)
              clear hK K
              rename_i hOld
              clear hOld
              (try simp only [Act.put, List.getElem_toArray, List.getElem_cons_zero, List.getElem_cons_succ, List.setIfInBounds_toArray, List.set_cons_zero, List.set_cons_succ])
              have hz_21 : (w_18.alloc zRes).heap[w_18.heap.size]? = some zRes := mem_new _ _
              have hzB_21 := mem_alloc w_18 zRes
              generalize hQ_21 : w_18.alloc zRes = U_21 at hz_21 hzB_21 hHeld ⊢
              clear hQ_21
              have HB_21 := Lib.hid (mem_then HB_18.out hzB_21)
              have hlo_21 := mem_lt HZA18.out
              have HNE : Hid (v1.heap.size ≠ w_18.heap.size) := fun e => by omega
              clear hlo_21
              have HGB : Hid (E0.heap.size ≤ w_18.heap.size) := HB_18.out.size
              have HZA21 := Lib.hid (mem_keep HZA18.out hzB_21)
              have HS4_21 := Lib.hid (And.intro (ResAt.below HS4_18.out.1 hzB_21) (MemTy.below HS4_18.out.2 hzB_21))
              have HZB21 := Lib.hid hz_21
              clear hz_21 hzB_21
              refine wpAnyH_ready (rs := [9]) (by kernel_rfl) (by simp) (AllReadyH.cons rfl (fun K hK => ?_) AllReadyH.nil)
              go_simp
              refine (J2.out U_21 HB_21.out).mono ?_
              rintro e w_22 ⟨ba, bc, bra, brc, boa, boc, rfl, hra, hB_22, _, hty⟩
              have HB_22 := Lib.hid (mem_then HB_21.out hB_22)
              have HZA22 := Lib.hid (mem_keep HZA21.out hB_22)
              have HZB22 := Lib.hid (mem_keep HZB21.out hB_22)
              have HS4_22 := Lib.hid (And.intro (ResAt.below HS4_21.out.1 hB_22) (MemTy.below HS4_21.out.2 hB_22))
              have HS9_22 := Lib.hid (And.intro hra hty)
              clear hra hty hB_22
              refine hK.out _ _ (HB_22.out) (fun hHeld => ?_)
              clear hK K
              rename_i hOld
              clear hOld
              (try simp only [Act.put, List.getElem_toArray, List.getElem_cons_zero, List.getElem_cons_succ, List.setIfInBounds_toArray, List.set_cons_zero, List.set_cons_succ])
              obtain ⟨bA, hbA⟩ : ∃ b, v1.heap.size = b := ⟨_, rfl⟩
              obtain ⟨bB, hbB⟩ : ∃ b, w_18.heap.size = b := ⟨_, rfl⟩
              have HZA := HZA22
              have HZB := HZB22
              have HSA := HS4_22
              have HSB := HS9_22
              have HBE := HB_22
              rw [hbA] at HZA HNE HGA
              rw [hbB] at HZB HNE HGB
              try rw [hbA]
              try rw [hbB]
              clear hbA hbB
              obtain ⟨EW, hEW⟩ : ∃ E : World, w_22 = E := ⟨_, rfl⟩
              rw [hEW] at HZA HZB HSA HSB HBE hHeld ⊢
              clear hEW
              obtain ⟨y0, y1, y2, y3, y4, y5⟩ := res_cells HZA.out
              have f0 := mem_free HZA.out 0
              have f1 := mem_free HZA.out 1
              have f2 := mem_free HZA.out 2
              have f3 := mem_free HZA.out 3
              have f4 := mem_free HZA.out 4
              have f5 := mem_free HZA.out 5
              obtain ⟨U2, hU2⟩ : ∃ U2 : World, set6 EW bA (.slice aa R.mem.arrays.length ac) (.slice ara R.mem.shared.length arc) (.slice aoa R.out.length aoc) (.int .i64 (R.rd : Int)) (.int .i64 (R.st : Int)) (.int .i64 R.err) = U2 := ⟨_, rfl⟩
              have HFAR2 : Hid (∀ k, k ≠ bA → U2.heap[k]? = EW.heap[k]?) := fun k hk => by rw [← hU2]; exact set6_far hk
              have HA2' : Hid (U2.heap[bA]? = some (Res.obj R aa ac ara arc aoa aoc)) := by show _ = _; rw [← hU2]; exact set6_at HZA.out
              have HZB2 : Hid (U2.heap[bB]? = some zRes) := (HFAR2.out bB (fun e => HNE.out e.symm)).trans HZB.out
              have HBU2 : Hid (Below E0.heap.size E0 U2) := by show Below _ _ _; rw [← hU2]; exact set6_below HBE.out HGA.out
              have HSA2 := Lib.hid (ResAt.stored HZA.out HFAR2.out HSA.out.1 HSA.out.2)
              have HSB2 := Lib.hid (ResAt.stored HZA.out HFAR2.out HSB.out.1 HSB.out.2)
              obtain ⟨p0, p1, p2, p3, p4, p5⟩ := res_cells HZB2.out
              have g0 := mem_free HZB2.out 0
              have g1 := mem_free HZB2.out 1
              have g2 := mem_free HZB2.out 2
              have g3 := mem_free HZB2.out 3
              have g4 := mem_free HZB2.out 4
              have g5 := mem_free HZB2.out 5
              obtain ⟨U3, hU3⟩ : ∃ U3 : World, set6 U2 bB (.slice ba S.mem.arrays.length bc) (.slice bra S.mem.shared.length brc) (.slice boa S.out.length boc) (.int .i64 (S.rd : Int)) (.int .i64 (S.st : Int)) (.int .i64 S.err) = U3 := ⟨_, rfl⟩
              have HFAR3 : Hid (∀ k, k ≠ bB → U3.heap[k]? = U2.heap[k]?) := fun k hk => by rw [← hU3]; exact set6_far hk
              have HB3' : Hid (U3.heap[bB]? = some (Res.obj S ba bc bra brc boa boc)) := by show _ = _; rw [← hU3]; exact set6_at HZB2.out
              have HA3' : Hid (U3.heap[bA]? = some (Res.obj R aa ac ara arc aoa aoc)) := (HFAR3.out bA HNE.out).trans HA2'.out
              have HBU3 : Hid (Below E0.heap.size E0 U3) := by show Below _ _ _; rw [← hU3]; exact set6_below HBU2.out HGB.out
              have HSA3 := Lib.hid (ResAt.stored HZB2.out HFAR3.out HSA2.out.1 HSA2.out.2)
              have HSB3 := Lib.hid (ResAt.stored HZB2.out HFAR3.out HSB2.out.1 HSB2.out.2)
              unfold set6 at hU2 hU3
              refine wpAnyH_ready (rs := [12]) (by kernel_rfl) (by simp) (AllReadyH.cons rfl (fun K hK => ?_) AllReadyH.nil)
              go_simp
              try rw [hU2]
              refine hK.out _ _ (HBU2.out) (fun hHeld => ?_)
              clear hK K
              rename_i hOld
              clear hOld
              (try simp only [Act.put, List.getElem_toArray, List.getElem_cons_zero, List.getElem_cons_succ, List.setIfInBounds_toArray, List.set_cons_zero, List.set_cons_succ])
              refine wpAnyH_ready (rs := [13]) (by kernel_rfl) (by simp) (AllReadyH.cons rfl (fun K hK => ?_) AllReadyH.nil)
              go_simp
              try rw [hU3]
              refine hK.out _ _ (HBU3.out) (fun hHeld => ?_)
              clear hK K
              rename_i hOld
              clear hOld
              (try simp only [Act.put, List.getElem_toArray, List.getElem_cons_zero, List.getElem_cons_succ, List.setIfInBounds_toArray, List.set_cons_zero, List.set_cons_succ])
              clear hHeld y0 y1 y2 y3 y4 y5 f0 f1 f2 f3 f4 f5 p0 p1 p2 p3 p4 p5 g0 g1 g2 g3 g4 g5 hU2 hU3
              refine wpAnyH_done (by kernel_rfl) ?_ _
              go_wp2_with fail
              go_meet
              exact ⟨bA, bB, aa, ac, ara, arc, aoa, aoc, ba, bc, bra, brc, boa, boc, rfl, rfl, HA3'.out, HB3'.out, HSA3.out.1, HSB3.out.1, HBU3.out⟩
          · go_simp
            refine hK.out _ _ (mem_then HB_17.out (mem_alloc _ _)) (fun hHeld => ?_)
            clear hK K
            rename_i hOld
            clear hOld
            (try simp only [Act.put, List.getElem_toArray, List.getElem_cons_zero, List.getElem_cons_succ, List.setIfInBounds_toArray, List.set_cons_zero, List.set_cons_succ])
            have hz_23 : (U_17.alloc zRes).heap[U_17.heap.size]? = some zRes := mem_new _ _
            have hzB_23 := mem_alloc U_17 zRes
            generalize hQ_23 : U_17.alloc zRes = U_23 at hz_23 hzB_23 hHeld ⊢
            clear hQ_23
            have HB_23 := Lib.hid (mem_then HB_17.out hzB_23)
            have hlo_23 := mem_lt HZA17.out
            have HNE : Hid (v1.heap.size ≠ U_17.heap.size) := fun e => by omega
            clear hlo_23
            have HGB : Hid (E0.heap.size ≤ U_17.heap.size) := HB_17.out.size
            have HZA23 := Lib.hid (mem_keep HZA17.out hzB_23)
            have HZB23 := Lib.hid hz_23
            clear hz_23 hzB_23
            refine wpAnyH_ready (rs := [4]) (by kernel_rfl) (by simp) (AllReadyH.cons rfl (fun K hK => ?_) AllReadyH.nil)
            go_simp
            refine (J1.out U_23 HB_23.out).mono ?_
            rintro e w_24 ⟨aa, ac, ara, arc, aoa, aoc, rfl, hra, hB_24, _, hty⟩
            have HB_24 := Lib.hid (mem_then HB_23.out hB_24)
            have HZA24 := Lib.hid (mem_keep HZA23.out hB_24)
            have HZB24 := Lib.hid (mem_keep HZB23.out hB_24)
            have HS4_24 := Lib.hid (And.intro hra hty)
            clear hra hty hB_24
            refine hK.out _ _ (HB_24.out) (fun hHeld => ?_)
            clear hK K
            rename_i hOld
            clear hOld
            (try simp only [Act.put, List.getElem_toArray, List.getElem_cons_zero, List.getElem_cons_succ, List.setIfInBounds_toArray, List.set_cons_zero, List.set_cons_succ])
            refine wpAnyH_ready (rs := [9]) (by kernel_rfl) (by simp) (AllReadyH.cons rfl (fun K hK => ?_) AllReadyH.nil)
            go_simp
            refine (J2.out w_24 HB_24.out).mono ?_
            rintro e w_25 ⟨ba, bc, bra, brc, boa, boc, rfl, hra, hB_25, _, hty⟩
            have HB_25 := Lib.hid (mem_then HB_24.out hB_25)
            have HZA25 := Lib.hid (mem_keep HZA24.out hB_25)
            have HZB25 := Lib.hid (mem_keep HZB24.out hB_25)
            have HS4_25 := Lib.hid (And.intro (ResAt.below HS4_24.out.1 hB_25) (MemTy.below HS4_24.out.2 hB_25))
            have HS9_25 := Lib.hid (And.intro hra hty)
            clear hra hty hB_25
            refine hK.out _ _ (HB_25.out) (fun hHeld => ?_)
            clear hK K
            rename_i hOld
            clear hOld
            (try simp only [Act.put, List.getElem_toArray, List.getElem_cons_zero, List.getElem_cons_succ, List.setIfInBounds_toArray, List.set_cons_zero, List.set_cons_succ])
            obtain ⟨bA, hbA⟩ : ∃ b, v1.heap.size = b := ⟨_, rfl⟩
            obtain ⟨bB, hbB⟩ : ∃ b, U_17.heap.size = b := ⟨_, rfl⟩
            have HZA := HZA25
            have HZB := HZB25
            have HSA := HS4_25
            have HSB := HS9_25
            have HBE := HB_25
            rw [hbA] at HZA HNE HGA
            rw [hbB] at HZB HNE HGB
            try rw [hbA]
            try rw [hbB]
            clear hbA hbB
            obtain ⟨EW, hEW⟩ : ∃ E : World, w_25 = E := ⟨_, rfl⟩
            rw [hEW] at HZA HZB HSA HSB HBE hHeld ⊢
            clear hEW
            obtain ⟨y0, y1, y2, y3, y4, y5⟩ := res_cells HZA.out
            have f0 := mem_free HZA.out 0
            have f1 := mem_free HZA.out 1
            have f2 := mem_free HZA.out 2
            have f3 := mem_free HZA.out 3
            have f4 := mem_free HZA.out 4
            have f5 := mem_free HZA.out 5
            obtain ⟨U2, hU2⟩ : ∃ U2 : World, set6 EW bA (.slice aa R.mem.arrays.length ac) (.slice ara R.mem.shared.length arc) (.slice aoa R.out.length aoc) (.int .i64 (R.rd : Int)) (.int .i64 (R.st : Int)) (.int .i64 R.err) = U2 := ⟨_, rfl⟩
            have HFAR2 : Hid (∀ k, k ≠ bA → U2.heap[k]? = EW.heap[k]?) := fun k hk => by rw [← hU2]; exact set6_far hk
            have HA2' : Hid (U2.heap[bA]? = some (Res.obj R aa ac ara arc aoa aoc)) := by show _ = _; rw [← hU2]; exact set6_at HZA.out
            have HZB2 : Hid (U2.heap[bB]? = some zRes) := (HFAR2.out bB (fun e => HNE.out e.symm)).trans HZB.out
            have HBU2 : Hid (Below E0.heap.size E0 U2) := by show Below _ _ _; rw [← hU2]; exact set6_below HBE.out HGA.out
            have HSA2 := Lib.hid (ResAt.stored HZA.out HFAR2.out HSA.out.1 HSA.out.2)
            have HSB2 := Lib.hid (ResAt.stored HZA.out HFAR2.out HSB.out.1 HSB.out.2)
            obtain ⟨p0, p1, p2, p3, p4, p5⟩ := res_cells HZB2.out
            have g0 := mem_free HZB2.out 0
            have g1 := mem_free HZB2.out 1
            have g2 := mem_free HZB2.out 2
            have g3 := mem_free HZB2.out 3
            have g4 := mem_free HZB2.out 4
            have g5 := mem_free HZB2.out 5
            obtain ⟨U3, hU3⟩ : ∃ U3 : World, set6 U2 bB (.slice ba S.mem.arrays.length bc) (.slice bra S.mem.shared.length brc) (.slice boa S.out.length boc) (.int .i64 (S.rd : Int)) (.int .i64 (S.st : Int)) (.int .i64 S.err) = U3 := ⟨_, rfl⟩
            have HFAR3 : Hid (∀ k, k ≠ bB → U3.heap[k]? = U2.heap[k]?) := fun k hk => by rw [← hU3]; exact set6_far hk
            have HB3' : Hid (U3.heap[bB]? = some (Res.obj S ba bc bra brc boa boc)) := by show _ = _; rw [← hU3]; exact set6_at HZB2.out
            have HA3' : Hid (U3.heap[bA]? = some (Res.obj R aa ac ara arc aoa aoc)) := (HFAR3.out bA HNE.out).trans HA2'.out
            have HBU3 : Hid (Below E0.heap.size E0 U3) := by show Below _ _ _; rw [← hU3]; exact set6_below HBU2.out HGB.out
            have HSA3 := Lib.hid (ResAt.stored HZB2.out HFAR3.out HSA2.out.1 HSA2.out.2)
            have HSB3 := Lib.hid (ResAt.stored HZB2.out HFAR3.out HSB2.out.1 HSB2.out.2)
            unfold set6 at hU2 hU3
            refine wpAnyH_ready (rs := [12]) (by kernel_rfl) (by simp) (AllReadyH.cons rfl (fun K hK => ?_) AllReadyH.nil)
            go_simp
            try rw [hU2]
            refine hK.out _ _ (HBU2.out) (fun hHeld => ?_)
            clear hK K
            rename_i hOld
            clear hOld
            (try simp only [Act.put, List.getElem_toArray, List.getElem_cons_zero, List.getElem_cons_succ, List.setIfInBounds_toArray, List.set_cons_zero, List.set_cons_succ])
            refine wpAnyH_ready (rs := [13]) (by kernel_rfl) (by simp) (AllReadyH.cons rfl (fun K hK => ?_) AllReadyH.nil)
            go_simp
            try rw [hU3]
            refine hK.out _ _ (HBU3.out) (fun hHeld => ?_)
            clear hK K
            rename_i hOld
            clear hOld
            (try simp only [Act.put, List.getElem_toArray, List.getElem_cons_zero, List.getElem_cons_succ, List.setIfInBounds_toArray, List.set_cons_zero, List.set_cons_succ])
            clear hHeld y0 y1 y2 y3 y4 y5 f0 f1 f2 f3 f4 f5 p0 p1 p2 p3 p4 p5 g0 g1 g2 g3 g4 g5 hU2 hU3
            refine wpAnyH_done (by kernel_rfl) ?_ _
            go_wp2_with fail
            go_meet
            exact ⟨bA, bB, aa, ac, ara, arc, aoa, aoc, ba, bc, bra, brc, boa, boc, rfl, rfl, HA3'.out, HB3'.out, HSA3.out.1, HSB3.out.1, HBU3.out⟩
        · go_simp
          refine hK.out _ _ (mem_then HHV.out (mem_alloc _ _)) (fun hHeld => ?_)
          clear hK K
          rename_i hOld
          clear hOld
          (try simp only [Act.put, List.getElem_toArray, List.getElem_cons_zero, List.getElem_cons_succ, List.setIfInBounds_toArray, List.set_cons_zero, List.set_cons_succ])
          have hz_26 : (v1.alloc zRes).heap[v1.heap.size]? = some zRes := mem_new _ _
          have hzB_26 := mem_alloc v1 zRes
          generalize hQ_26 : v1.alloc zRes = U_26 at hz_26 hzB_26 hHeld ⊢
          clear hQ_26
          have HB_26 := Lib.hid (mem_then HHV.out hzB_26)
          have HGB : Hid (E0.heap.size ≤ v1.heap.size) := HHV.out.size
          have HZB26 := Lib.hid hz_26
          clear hz_26 hzB_26
          refine wpAnyH_ready (rs := [4, 10]) (by kernel_rfl) (by simp) (AllReadyH.cons rfl (fun K hK => ?_) (AllReadyH.cons rfl (fun K hK => ?_) AllReadyH.nil))
          · go_simp
            refine (J1.out U_26 HB_26.out).mono ?_
            rintro e w_27 ⟨aa, ac, ara, arc, aoa, aoc, rfl, hra, hB_27, _, hty⟩
            have HB_27 := Lib.hid (mem_then HB_26.out hB_27)
            have HZB27 := Lib.hid (mem_keep HZB26.out hB_27)
            have HS4_27 := Lib.hid (And.intro hra hty)
            clear hra hty hB_27
            refine hK.out _ _ (HB_27.out) (fun hHeld => ?_)
            clear hK K
            rename_i hOld
            clear hOld
            (try simp only [Act.put, List.getElem_toArray, List.getElem_cons_zero, List.getElem_cons_succ, List.setIfInBounds_toArray, List.set_cons_zero, List.set_cons_succ])
            refine wpAnyH_ready (rs := [9, 10]) (by kernel_rfl) (by simp) (AllReadyH.cons rfl (fun K hK => ?_) (AllReadyH.cons rfl (fun K hK => ?_) AllReadyH.nil))
            · go_simp
              refine (J2.out w_27 HB_27.out).mono ?_
              rintro e w_28 ⟨ba, bc, bra, brc, boa, boc, rfl, hra, hB_28, _, hty⟩
              have HB_28 := Lib.hid (mem_then HB_27.out hB_28)
              have HZB28 := Lib.hid (mem_keep HZB27.out hB_28)
              have HS4_28 := Lib.hid (And.intro (ResAt.below HS4_27.out.1 hB_28) (MemTy.below HS4_27.out.2 hB_28))
              have HS9_28 := Lib.hid (And.intro hra hty)
              clear hra hty hB_28
              refine hK.out _ _ (HB_28.out) (fun hHeld => ?_)
              clear hK K
              rename_i hOld
              clear hOld
              (try simp only [Act.put, List.getElem_toArray, List.getElem_cons_zero, List.getElem_cons_succ, List.setIfInBounds_toArray, List.set_cons_zero, List.set_cons_succ])
              refine wpAnyH_ready (rs := [10]) (by kernel_rfl) (by simp) (AllReadyH.cons rfl (fun K hK => ?_) AllReadyH.nil)
              go_simp
              refine hK.out _ _ (mem_then HB_28.out (mem_alloc _ _)) (fun hHeld => ?_)
              clear hK K
              rename_i hOld
              clear hOld
              (try simp only [Act.put, List.getElem_toArray, List.getElem_cons_zero, List.getElem_cons_succ, List.setIfInBounds_toArray, List.set_cons_zero, List.set_cons_succ])
              have hz_29 : (w_28.alloc zRes).heap[w_28.heap.size]? = some zRes := mem_new _ _
              have hzB_29 := mem_alloc w_28 zRes
              generalize hQ_29 : w_28.alloc zRes = U_29 at hz_29 hzB_29 hHeld ⊢
              clear hQ_29
              have HB_29 := Lib.hid (mem_then HB_28.out hzB_29)
              have hlo_29 := mem_lt HZB28.out
              have HNE : Hid (w_28.heap.size ≠ v1.heap.size) := fun e => by omega
              clear hlo_29
              have HGA : Hid (E0.heap.size ≤ w_28.heap.size) := HB_28.out.size
              have HZB29 := Lib.hid (mem_keep HZB28.out hzB_29)
              have HS4_29 := Lib.hid (And.intro (ResAt.below HS4_28.out.1 hzB_29) (MemTy.below HS4_28.out.2 hzB_29))
              have HS9_29 := Lib.hid (And.intro (ResAt.below HS9_28.out.1 hzB_29) (MemTy.below HS9_28.out.2 hzB_29))
              have HZA29 := Lib.hid hz_29
              clear hz_29 hzB_29
              obtain ⟨bA, hbA⟩ : ∃ b, w_28.heap.size = b := ⟨_, rfl⟩
              obtain ⟨bB, hbB⟩ : ∃ b, v1.heap.size = b := ⟨_, rfl⟩
              have HZA := HZA29
              have HZB := HZB29
              have HSA := HS4_29
              have HSB := HS9_29
              have HBE := HB_29
              rw [hbA] at HZA HNE HGA
              rw [hbB] at HZB HNE HGB
              try rw [hbA]
              try rw [hbB]
              clear hbA hbB
              obtain ⟨EW, hEW⟩ : ∃ E : World, U_29 = E := ⟨_, rfl⟩
              rw [hEW] at HZA HZB HSA HSB HBE hHeld ⊢
              clear hEW
              obtain ⟨y0, y1, y2, y3, y4, y5⟩ := res_cells HZA.out
              have f0 := mem_free HZA.out 0
              have f1 := mem_free HZA.out 1
              have f2 := mem_free HZA.out 2
              have f3 := mem_free HZA.out 3
              have f4 := mem_free HZA.out 4
              have f5 := mem_free HZA.out 5
              obtain ⟨U2, hU2⟩ : ∃ U2 : World, set6 EW bA (.slice aa R.mem.arrays.length ac) (.slice ara R.mem.shared.length arc) (.slice aoa R.out.length aoc) (.int .i64 (R.rd : Int)) (.int .i64 (R.st : Int)) (.int .i64 R.err) = U2 := ⟨_, rfl⟩
              have HFAR2 : Hid (∀ k, k ≠ bA → U2.heap[k]? = EW.heap[k]?) := fun k hk => by rw [← hU2]; exact set6_far hk
              have HA2' : Hid (U2.heap[bA]? = some (Res.obj R aa ac ara arc aoa aoc)) := by show _ = _; rw [← hU2]; exact set6_at HZA.out
              have HZB2 : Hid (U2.heap[bB]? = some zRes) := (HFAR2.out bB (fun e => HNE.out e.symm)).trans HZB.out
              have HBU2 : Hid (Below E0.heap.size E0 U2) := by show Below _ _ _; rw [← hU2]; exact set6_below HBE.out HGA.out
              have HSA2 := Lib.hid (ResAt.stored HZA.out HFAR2.out HSA.out.1 HSA.out.2)
              have HSB2 := Lib.hid (ResAt.stored HZA.out HFAR2.out HSB.out.1 HSB.out.2)
              obtain ⟨p0, p1, p2, p3, p4, p5⟩ := res_cells HZB2.out
              have g0 := mem_free HZB2.out 0
              have g1 := mem_free HZB2.out 1
              have g2 := mem_free HZB2.out 2
              have g3 := mem_free HZB2.out 3
              have g4 := mem_free HZB2.out 4
              have g5 := mem_free HZB2.out 5
              obtain ⟨U3, hU3⟩ : ∃ U3 : World, set6 U2 bB (.slice ba S.mem.arrays.length bc) (.slice bra S.mem.shared.length brc) (.slice boa S.out.length boc) (.int .i64 (S.rd : Int)) (.int .i64 (S.st : Int)) (.int .i64 S.err) = U3 := ⟨_, rfl⟩
              have HFAR3 : Hid (∀ k, k ≠ bB → U3.heap[k]? = U2.heap[k]?) := fun k hk => by rw [← hU3]; exact set6_far hk
              have HB3' : Hid (U3.heap[bB]? = some (Res.obj S ba bc bra brc boa boc)) := by show _ = _; rw [← hU3]; exact set6_at HZB2.out
              have HA3' : Hid (U3.heap[bA]? = some (Res.obj R aa ac ara arc aoa aoc)) := (HFAR3.out bA HNE.out).trans HA2'.out
              have HBU3 : Hid (Below E0.heap.size E0 U3) := by show Below _ _ _; rw [← hU3]; exact set6_below HBU2.out HGB.out
              have HSA3 := Lib.hid (ResAt.stored HZB2.out HFAR3.out HSA2.out.1 HSA2.out.2)
              have HSB3 := Lib.hid (ResAt.stored HZB2.out HFAR3.out HSB2.out.1 HSB2.out.2)
              unfold set6 at hU2 hU3
              refine wpAnyH_ready (rs := [12]) (by kernel_rfl) (by simp) (AllReadyH.cons rfl (fun K hK => ?_) AllReadyH.nil)
              go_simp
              try rw [hU2]
              refine hK.out _ _ (HBU2.out) (fun hHeld => ?_)
              clear hK K
              rename_i hOld
              clear hOld
              (try simp only [Act.put, List.getElem_toArray, List.getElem_cons_zero, List.getElem_cons_succ, List.setIfInBounds_toArray, List.set_cons_zero, List.set_cons_succ])
              refine wpAnyH_ready (rs := [13]) (by kernel_rfl) (by simp) (AllReadyH.cons rfl (fun K hK => ?_) AllReadyH.nil)
              go_simp
              try rw [hU3]
              refine hK.out _ _ (HBU3.out) (fun hHeld => ?_)
              clear hK K
              rename_i hOld
              clear hOld
              (try simp only [Act.put, List.getElem_toArray, List.getElem_cons_zero, List.getElem_cons_succ, List.setIfInBounds_toArray, List.set_cons_zero, List.set_cons_succ])
              clear hHeld y0 y1 y2 y3 y4 y5 f0 f1 f2 f3 f4 f5 p0 p1 p2 p3 p4 p5 g0 g1 g2 g3 g4 g5 hU2 hU3
              refine wpAnyH_done (by kernel_rfl) ?_ _
              go_wp2_with fail
              go_meet
              exact ⟨bA, bB, aa, ac, ara, arc, aoa, aoc, ba, bc, bra, brc, boa, boc, rfl, rfl, HA3'.out, HB3'.out, HSA3.out.1, HSB3.out.1, HBU3.out⟩
            · go_simp
              refine hK.out _ _ (mem_then HB_27.out (mem_alloc _ _)) (fun hHeld => ?_)
              clear hK K
              rename_i hOld
              clear hOld
              (try simp only [Act.put, List.getElem_toArray, List.getElem_cons_zero, List.getElem_cons_succ, List.setIfInBounds_toArray, List.set_cons_zero, List.set_cons_succ])
              have hz_30 : (w_27.alloc zRes).heap[w_27.heap.size]? = some zRes := mem_new _ _
              have hzB_30 := mem_alloc w_27 zRes
              generalize hQ_30 : w_27.alloc zRes = U_30 at hz_30 hzB_30 hHeld ⊢
              clear hQ_30
              have HB_30 := Lib.hid (mem_then HB_27.out hzB_30)
              have hlo_30 := mem_lt HZB27.out
              have HNE : Hid (w_27.heap.size ≠ v1.heap.size) := fun e => by omega
              clear hlo_30
              have HGA : Hid (E0.heap.size ≤ w_27.heap.size) := HB_27.out.size
              have HZB30 := Lib.hid (mem_keep HZB27.out hzB_30)
              have HS4_30 := Lib.hid (And.intro (ResAt.below HS4_27.out.1 hzB_30) (MemTy.below HS4_27.out.2 hzB_30))
              have HZA30 := Lib.hid hz_30
              clear hz_30 hzB_30
              refine wpAnyH_ready (rs := [9]) (by kernel_rfl) (by simp) (AllReadyH.cons rfl (fun K hK => ?_) AllReadyH.nil)
              go_simp
              refine (J2.out U_30 HB_30.out).mono ?_
              rintro e w_31 ⟨ba, bc, bra, brc, boa, boc, rfl, hra, hB_31, _, hty⟩
              have HB_31 := Lib.hid (mem_then HB_30.out hB_31)
              have HZA31 := Lib.hid (mem_keep HZA30.out hB_31)
              have HZB31 := Lib.hid (mem_keep HZB30.out hB_31)
              have HS4_31 := Lib.hid (And.intro (ResAt.below HS4_30.out.1 hB_31) (MemTy.below HS4_30.out.2 hB_31))
              have HS9_31 := Lib.hid (And.intro hra hty)
              clear hra hty hB_31
              refine hK.out _ _ (HB_31.out) (fun hHeld => ?_)
              clear hK K
              rename_i hOld
              clear hOld
              (try simp only [Act.put, List.getElem_toArray, List.getElem_cons_zero, List.getElem_cons_succ, List.setIfInBounds_toArray, List.set_cons_zero, List.set_cons_succ])
              obtain ⟨bA, hbA⟩ : ∃ b, w_27.heap.size = b := ⟨_, rfl⟩
              obtain ⟨bB, hbB⟩ : ∃ b, v1.heap.size = b := ⟨_, rfl⟩
              have HZA := HZA31
              have HZB := HZB31
              have HSA := HS4_31
              have HSB := HS9_31
              have HBE := HB_31
              rw [hbA] at HZA HNE HGA
              rw [hbB] at HZB HNE HGB
              try rw [hbA]
              try rw [hbB]
              clear hbA hbB
              obtain ⟨EW, hEW⟩ : ∃ E : World, w_31 = E := ⟨_, rfl⟩
              rw [hEW] at HZA HZB HSA HSB HBE hHeld ⊢
              clear hEW
              obtain ⟨y0, y1, y2, y3, y4, y5⟩ := res_cells HZA.out
              have f0 := mem_free HZA.out 0
              have f1 := mem_free HZA.out 1
              have f2 := mem_free HZA.out 2
              have f3 := mem_free HZA.out 3
              have f4 := mem_free HZA.out 4
              have f5 := mem_free HZA.out 5
              obtain ⟨U2, hU2⟩ : ∃ U2 : World, set6 EW bA (.slice aa R.mem.arrays.length ac) (.slice ara R.mem.shared.length arc) (.slice aoa R.out.length aoc) (.int .i64 (R.rd : Int)) (.int .i64 (R.st : Int)) (.int .i64 R.err) = U2 := ⟨_, rfl⟩
              have HFAR2 : Hid (∀ k, k ≠ bA → U2.heap[k]? = EW.heap[k]?) := fun k hk => by rw [← hU2]; exact set6_far hk
              have HA2' : Hid (U2.heap[bA]? = some (Res.obj R aa ac ara arc aoa aoc)) := by show _ = _; rw [← hU2]; exact set6_at HZA.out
              have HZB2 : Hid (U2.heap[bB]? = some zRes) := (HFAR2.out bB (fun e => HNE.out e.symm)).trans HZB.out
              have HBU2 : Hid (Below E0.heap.size E0 U2) := by show Below _ _ _; rw [← hU2]; exact set6_below HBE.out HGA.out
              have HSA2 := Lib.hid (ResAt.stored HZA.out HFAR2.out HSA.out.1 HSA.out.2)
              have HSB2 := Lib.hid (ResAt.stored HZA.out HFAR2.out HSB.out.1 HSB.out.2)
              obtain ⟨p0, p1, p2, p3, p4, p5⟩ := res_cells HZB2.out
              have g0 := mem_free HZB2.out 0
              have g1 := mem_free HZB2.out 1
              have g2 := mem_free HZB2.out 2
              have g3 := mem_free HZB2.out 3
              have g4 := mem_free HZB2.out 4
              have g5 := mem_free HZB2.out 5
              obtain ⟨U3, hU3⟩ : ∃ U3 : World, set6 U2 bB (.slice ba S.mem.arrays.length bc) (.slice bra S.mem.shared.length brc) (.slice boa S.out.length boc) (.int .i64 (S.rd : Int)) (.int .i64 (S.st : Int)) (.int .i64 S.err) = U3 := ⟨_, rfl⟩
              have HFAR3 : Hid (∀ k, k ≠ bB → U3.heap[k]? = U2.heap[k]?) := fun k hk => by rw [← hU3]; exact set6_far hk
              have HB3' : Hid (U3.heap[bB]? = some (Res.obj S ba bc bra brc boa boc)) := by show _ = _; rw [← hU3]; exact set6_at HZB2.out
              have HA3' : Hid (U3.heap[bA]? = some (Res.obj R aa ac ara arc aoa aoc)) := (HFAR3.out bA HNE.out).trans HA2'.out
              have HBU3 : Hid (Below E0.heap.size E0 U3) := by show Below _ _ _; rw [← hU3]; exact set6_below HBU2.out HGB.out
              have HSA3 := Lib.hid (ResAt.stored HZB2.out HFAR3.out HSA2.out.1 HSA2.out.2)
              have HSB3 := Lib.hid (ResAt.stored HZB2.out HFAR3.out HSB2.out.1 HSB2.out.2)
              unfold set6 at hU2 hU3
              refine wpAnyH_ready (rs := [12]) (by kernel_rfl) (by simp) (AllReadyH.cons rfl (fun K hK => ?_) AllReadyH.nil)
              go_simp
              try rw [hU2]
              refine hK.out _ _ (HBU2.out) (fun hHeld => ?_)
              clear hK K
              rename_i hOld
              clear hOld
              (try simp only [Act.put, List.getElem_toArray, List.getElem_cons_zero, List.getElem_cons_succ, List.setIfInBounds_toArray, List.set_cons_zero, List.set_cons_succ])
              refine wpAnyH_ready (rs := [13]) (by kernel_rfl) (by simp) (AllReadyH.cons rfl (fun K hK => ?_) AllReadyH.nil)
              go_simp
              try rw [hU3]
              refine hK.out _ _ (HBU3.out) (fun hHeld => ?_)
              clear hK K
              rename_i hOld
              clear hOld
              (try simp only [Act.put, List.getElem_toArray, List.getElem_cons_zero, List.getElem_cons_succ, List.setIfInBounds_toArray, List.set_cons_zero, List.set_cons_succ])
              clear hHeld y0 y1 y2 y3 y4 y5 f0 f1 f2 f3 f4 f5 p0 p1 p2 p3 p4 p5 g0 g1 g2 g3 g4 g5 hU2 hU3
              refine wpAnyH_done (by kernel_rfl) ?_ _
              go_wp2_with fail
              go_meet
              exact ⟨bA, bB, aa, ac, ara, arc, aoa, aoc, ba, bc, bra, brc, boa, boc, rfl, rfl, HA3'.out, HB3'.out, HSA3.out.1, HSB3.out.1, HBU3.out⟩
          · go_simp
            refine hK.out _ _ (mem_then HB_26.out (mem_alloc _ _)) (fun hHeld => ?_)
            clear hK K
            rename_i hOld
            clear hOld
            (try simp only [Act.put, List.getElem_toArray, List.getElem_cons_zero, List.getElem_cons_succ, List.setIfInBounds_toArray, List.set_cons_zero, List.set_cons_succ])
            have hz_32 : (U_26.alloc zRes).heap[U_26.heap.size]? = some zRes := mem_new _ _
            have hzB_32 := mem_alloc U_26 zRes
            generalize hQ_32 : U_26.alloc zRes = U_32 at hz_32 hzB_32 hHeld ⊢
            clear hQ_32
            have HB_32 := Lib.hid (mem_then HB_26.out hzB_32)
            have hlo_32 := mem_lt HZB26.out
            have HNE : Hid (U_26.heap.size ≠ v1.heap.size) := fun e => by omega
            clear hlo_32
            have HGA : Hid (E0.heap.size ≤ U_26.heap.size) := HB_26.out.size
            have HZB32 := Lib.hid (mem_keep HZB26.out hzB_32)
            have HZA32 := Lib.hid hz_32
            clear hz_32 hzB_32
            refine wpAnyH_ready (rs := [4]) (by kernel_rfl) (by simp) (AllReadyH.cons rfl (fun K hK => ?_) AllReadyH.nil)
            go_simp
            refine (J1.out U_32 HB_32.out).mono ?_
            rintro e w_33 ⟨aa, ac, ara, arc, aoa, aoc, rfl, hra, hB_33, _, hty⟩
            have HB_33 := Lib.hid (mem_then HB_32.out hB_33)
            have HZA33 := Lib.hid (mem_keep HZA32.out hB_33)
            have HZB33 := Lib.hid (mem_keep HZB32.out hB_33)
            have HS4_33 := Lib.hid (And.intro hra hty)
            clear hra hty hB_33
            refine hK.out _ _ (HB_33.out) (fun hHeld => ?_)
            clear hK K
            rename_i hOld
            clear hOld
            (try simp only [Act.put, List.getElem_toArray, List.getElem_cons_zero, List.getElem_cons_succ, List.setIfInBounds_toArray, List.set_cons_zero, List.set_cons_succ])
            refine wpAnyH_ready (rs := [9]) (by kernel_rfl) (by simp) (AllReadyH.cons rfl (fun K hK => ?_) AllReadyH.nil)
            go_simp
            refine (J2.out w_33 HB_33.out).mono ?_
            rintro e w_34 ⟨ba, bc, bra, brc, boa, boc, rfl, hra, hB_34, _, hty⟩
            have HB_34 := Lib.hid (mem_then HB_33.out hB_34)
            have HZA34 := Lib.hid (mem_keep HZA33.out hB_34)
            have HZB34 := Lib.hid (mem_keep HZB33.out hB_34)
            have HS4_34 := Lib.hid (And.intro (ResAt.below HS4_33.out.1 hB_34) (MemTy.below HS4_33.out.2 hB_34))
            have HS9_34 := Lib.hid (And.intro hra hty)
            clear hra hty hB_34
            refine hK.out _ _ (HB_34.out) (fun hHeld => ?_)
            clear hK K
            rename_i hOld
            clear hOld
            (try simp only [Act.put, List.getElem_toArray, List.getElem_cons_zero, List.getElem_cons_succ, List.setIfInBounds_toArray, List.set_cons_zero, List.set_cons_succ])
            obtain ⟨bA, hbA⟩ : ∃ b, U_26.heap.size = b := ⟨_, rfl⟩
            obtain ⟨bB, hbB⟩ : ∃ b, v1.heap.size = b := ⟨_, rfl⟩
            have HZA := HZA34
            have HZB := HZB34
            have HSA := HS4_34
            have HSB := HS9_34
            have HBE := HB_34
            rw [hbA] at HZA HNE HGA
            rw [hbB] at HZB HNE HGB
            try rw [hbA]
            try rw [hbB]
            clear hbA hbB
            obtain ⟨EW, hEW⟩ : ∃ E : World, w_34 = E := ⟨_, rfl⟩
            rw [hEW] at HZA HZB HSA HSB HBE hHeld ⊢
            clear hEW
            obtain ⟨y0, y1, y2, y3, y4, y5⟩ := res_cells HZA.out
            have f0 := mem_free HZA.out 0
            have f1 := mem_free HZA.out 1
            have f2 := mem_free HZA.out 2
            have f3 := mem_free HZA.out 3
            have f4 := mem_free HZA.out 4
            have f5 := mem_free HZA.out 5
            obtain ⟨U2, hU2⟩ : ∃ U2 : World, set6 EW bA (.slice aa R.mem.arrays.length ac) (.slice ara R.mem.shared.length arc) (.slice aoa R.out.length aoc) (.int .i64 (R.rd : Int)) (.int .i64 (R.st : Int)) (.int .i64 R.err) = U2 := ⟨_, rfl⟩
            have HFAR2 : Hid (∀ k, k ≠ bA → U2.heap[k]? = EW.heap[k]?) := fun k hk => by rw [← hU2]; exact set6_far hk
            have HA2' : Hid (U2.heap[bA]? = some (Res.obj R aa ac ara arc aoa aoc)) := by show _ = _; rw [← hU2]; exact set6_at HZA.out
            have HZB2 : Hid (U2.heap[bB]? = some zRes) := (HFAR2.out bB (fun e => HNE.out e.symm)).trans HZB.out
            have HBU2 : Hid (Below E0.heap.size E0 U2) := by show Below _ _ _; rw [← hU2]; exact set6_below HBE.out HGA.out
            have HSA2 := Lib.hid (ResAt.stored HZA.out HFAR2.out HSA.out.1 HSA.out.2)
            have HSB2 := Lib.hid (ResAt.stored HZA.out HFAR2.out HSB.out.1 HSB.out.2)
            obtain ⟨p0, p1, p2, p3, p4, p5⟩ := res_cells HZB2.out
            have g0 := mem_free HZB2.out 0
            have g1 := mem_free HZB2.out 1
            have g2 := mem_free HZB2.out 2
            have g3 := mem_free HZB2.out 3
            have g4 := mem_free HZB2.out 4
            have g5 := mem_free HZB2.out 5
            obtain ⟨U3, hU3⟩ : ∃ U3 : World, set6 U2 bB (.slice ba S.mem.arrays.length bc) (.slice bra S.mem.shared.length brc) (.slice boa S.out.length boc) (.int .i64 (S.rd : Int)) (.int .i64 (S.st : Int)) (.int .i64 S.err) = U3 := ⟨_, rfl⟩
            have HFAR3 : Hid (∀ k, k ≠ bB → U3.heap[k]? = U2.heap[k]?) := fun k hk => by rw [← hU3]; exact set6_far hk
            have HB3' : Hid (U3.heap[bB]? = some (Res.obj S ba bc bra brc boa boc)) := by show _ = _; rw [← hU3]; exact set6_at HZB2.out
            have HA3' : Hid (U3.heap[bA]? = some (Res.obj R aa ac ara arc aoa aoc)) := (HFAR3.out bA HNE.out).trans HA2'.out
            have HBU3 : Hid (Below E0.heap.size E0 U3) := by show Below _ _ _; rw [← hU3]; exact set6_below HBU2.out HGB.out
            have HSA3 := Lib.hid (ResAt.stored HZB2.out HFAR3.out HSA2.out.1 HSA2.out.2)
            have HSB3 := Lib.hid (ResAt.stored HZB2.out HFAR3.out HSB2.out.1 HSB2.out.2)
            unfold set6 at hU2 hU3
            refine wpAnyH_ready (rs := [12]) (by kernel_rfl) (by simp) (AllReadyH.cons rfl (fun K hK => ?_) AllReadyH.nil)
            go_simp
            try rw [hU2]
            refine hK.out _ _ (HBU2.out) (fun hHeld => ?_)
            clear hK K
            rename_i hOld
            clear hOld
            (try simp only [Act.put, List.getElem_toArray, List.getElem_cons_zero, List.getElem_cons_succ, List.setIfInBounds_toArray, List.set_cons_zero, List.set_cons_succ])
            refine wpAnyH_ready (rs := [13]) (by kernel_rfl) (by simp) (AllReadyH.cons rfl (fun K hK => ?_) AllReadyH.nil)
            go_simp
            try rw [hU3]
            refine hK.out _ _ (HBU3.out) (fun hHeld => ?_)
            clear hK K
            rename_i hOld
            clear hOld
            (try simp only [Act.put, List.getElem_toArray, List.getElem_cons_zero, List.getElem_cons_succ, List.setIfInBounds_toArray, List.set_cons_zero, List.set_cons_succ])
            clear hHeld y0 y1 y2 y3 y4 y5 f0 f1 f2 f3 f4 f5 p0 p1 p2 p3 p4 p5 g0 g1 g2 g3 g4 g5 hU2 hU3
            refine wpAnyH_done (by kernel_rfl) ?_ _
            go_wp2_with fail
            go_meet
            exact ⟨bA, bB, aa, ac, ara, arc, aoa, aoc, ba, bc, bra, brc, boa, boc, rfl, rfl, HA3'.out, HB3'.out, HSA3.out.1, HSB3.out.1, HBU3.out⟩
      case rest =>
        obtain ⟨d1, d2, aa, ac, ra, rc, oa, oc, ba, bc, rb, rd, ob, od, rfl, rfl, hxr, hxs, hrr, hrs, hBE⟩ := hcut
        obtain ⟨G, hGc⟩ : ∃ G : World, G = wc := ⟨_, rfl⟩
        subst hGc
        have HBG := Lib.hid (mem_then HB9.out hBE)
        have HSC := Lib.hid (same_any R S false G aa ra oa ba rb ob ac rc oc bc rd od hrr hrs)
        have HXR := Lib.hid hxr
        have HXS := Lib.hid hxs
        obtain ⟨x0, x1, x2, x3, x4, x5⟩ := res_cells hxr
        obtain ⟨z0, z1, z2, z3, z4, z5⟩ := res_cells hxs
        clear hrr hrs hBE hxr hxs
        by_cases h13 : R.err = 13
        · have b1 : (R.err == 13) = true := by simpa using h13
          have b1' : decide (R.err = 13) = true := decide_eq_true h13
          clear h13
          go_wp2_with fail
          go_ret
          exact ⟨rfl, (HKQ.out G HBG.out).2.2.2.2.2.2.2.2⟩
        by_cases s13 : S.err = 13
        · have b1 : (R.err == 13) = false := by simpa using h13
          have b1' : decide (R.err = 13) = false := decide_eq_false h13
          have b2 : (S.err == 13) = true := by simpa using s13
          have b2' : decide (S.err = 13) = true := decide_eq_true s13
          clear h13 s13
          go_wp2_with fail
          go_ret
          exact ⟨rfl, (HKQ.out G HBG.out).2.2.2.2.2.2.2.2⟩
        · have b1 : (R.err == 13) = false := by simpa using h13
          have b1' : decide (R.err = 13) = false := decide_eq_false h13
          have b2 : (S.err == 13) = false := by simpa using s13
          have b2' : decide (S.err = 13) = false := decide_eq_false s13
          have HSM : Hid (sameP R S false = true) := (HSJ2.out.resolve_left h13).resolve_left s13
          clear h13 s13
          go_wp2_with fail
          clear x0 x1 x2 x3 x4 x5 z0 z1 z2 z3 z4 z5
          refine HSC.out.mono ?_
          rintro e G2 ⟨rfl, hB2⟩
          rw [HSM.out]
          have HB2' := Lib.hid (mem_then HBG.out hB2)
          clear HSC hB2
          go_wp2_with fail
          go_ret
          exact ⟨rfl, (HKQ.out G2 HB2'.out).2.2.2.2.2.2.2.2⟩
end Go.Proofs.YtgochgcchkdlmaaDoor
