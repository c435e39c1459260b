/-
  Contract: Valid (package ir).
-/
import Derived.Test.YteknhnnlhhgppaaDoorMg1
import Derived.Test.YteknhnnlhhgppaaDoorMg6
namespace Go.Proofs.YteknhnnlhhgppaaDoor
set_option linter.unusedVariables false
set_option linter.unusedSimpArgs false
open Go.RowKit
set_option maxRecDepth 100000

/-- the names, one more array; none if it is refused -/
def addArrs (ns : List (ByteArray × Bool)) : List (ByteArray × Int) → Option (List (ByteArray × Bool))
  | [] => some ns
  | p :: l => bif (lookB ns p.1).isSome || decide (p.2 < 1) || decide (32 < p.2) then none else addArrs (ns ++ [(p.1, true)]) l
def addObjs (ns : List (ByteArray × Bool)) : List (ByteArray × Int) → Option (List (ByteArray × Bool))
  | [] => some ns
  | p :: l => bif (lookB ns p.1).isSome then none else addObjs (ns ++ [(p.1, false)]) l
def namesOf (f : Fn) (shared : List (ByteArray × Int)) : Option (List (ByteArray × Bool)) := (addArrs [] f.arrays).bind fun ns => addObjs ns shared
def blkOk (f : Fn) (ns : List (ByteArray × Bool)) (b : Blk) : Bool := b.code.all (insOk f.regs ns) && endOk f.regs f.blocks.length b
/-- whether a function is valid -/
def fnOk (f : Fn) (shared : List (ByteArray × Int)) : Bool :=
  !(f.blocks.length == 0) && decide (0 ≤ f.regs) && decide (f.regs ≤ 10000) && decide (f.arrays.length ≤ 4) &&
  match namesOf f shared with
  | none => false
  | some ns => f.blocks.all (blkOk f ns)
theorem drop_cons {α : Type} {l : List α} {k : Nat} {x : α} (h : l[k]? = some x) : l.drop k = x :: l.drop (k + 1) := by
  obtain ⟨hk, rfl⟩ := List.getElem?_eq_some_iff.1 h
  exact List.drop_eq_getElem_cons hk
theorem symMap_snoc (ns : List (ByteArray × Bool)) (s : ByteArray) (b : Bool) : symMap (ns ++ [(s, b)]) = symMap ns ++ [(s, .bool b)] := by simp [symMap]
theorem look_none {ns : List (ByteArray × Bool)} {s : ByteArray} (h : (lookB ns s).isSome = false) : look (symMap ns) s = none := by
  rw [look_symMap]
  cases hl : lookB ns s with
  | none => rfl
  | some b => rw [hl] at h; cases h
theorem lookv {ns : List (ByteArray × Bool)} {s : ByteArray} : (look (symMap ns) s).getD (.bool false) = .bool ((lookB ns s).getD false) := by
  rw [look_symMap]; cases lookB ns s <;> rfl
theorem all_take {α : Type} {g : α → Bool} {l : List α} {k : Nat} {x : α} (h : l[k]? = some x) (h1 : (l.take k).all g = true) (h2 : g x = true) : (l.take (k + 1)).all g = true := by
  obtain ⟨hk, rfl⟩ := List.getElem?_eq_some_iff.1 h
  rw [List.take_succ_eq_append_getElem hk, List.all_append, h1]
  simp [h2]
theorem all_fail {α : Type} {g : α → Bool} {l : List α} {k : Nat} {x : α} (h : l[k]? = some x) (h2 : g x = false) : l.all g = false := by
  rw [List.all_eq_false]
  exact ⟨x, List.mem_of_getElem? h, by rw [h2]; simp⟩
theorem lookok {ns : List (ByteArray × Bool)} {s : ByteArray} : (look (symMap ns) s).isSome = (lookB ns s).isSome := by
  rw [look_symMap]; cases lookB ns s <;> rfl

section
set_option maxHeartbeats 16000000
theorem valid_any (f : Fn) (shared : List (ByteArray × Int)) (aa ba sa : Option Addr) (ac bc sc : Nat) (w : World) (hf : FnAt w f aa ba) (hs : ArrsAt w sa shared) (hsl : shared.length ≤ 9223372036854770000) :
    Calls Tryd.prog 88 #[fnVal f.name f.regs aa f.arrays.length ac ba f.blocks.length bc, .slice sa shared.length sc] w fun e w' => e = .returned (.bool (fnOk f shared)) ∧ Below w.heap.size w w' := by
  have HF := Lib.hid hf
  have HS := Lib.hid hs
  have la := hf.arrays.fits
  have lb := hf.blocks.fits
  have ls := hs.fits
  clear hf hs
  by_cases h1 : f.blocks.length = 0
  · have hq : fnOk f shared = false := by simp [fnOk, h1]
    rw [hq]
    have h1' : (f.blocks.length : Int) = 0 := by omega
    go_enter Tryd.func88, Tryd.ntmps88
    go_wp2_with fail
    go_ret
    exact ⟨rfl, (Below.refl _ _).alloc (Nat.le_refl _) _⟩
  have h1' : ((f.blocks.length : Int) == 0) = false := beq_eq_false_iff_ne.2 (by omega)
  by_cases h2 : f.regs < 0
  · have hq : fnOk f shared = false := by simp [fnOk]; omega
    rw [hq]
    go_enter Tryd.func88, Tryd.ntmps88
    go_wp2_with fail
    go_ret
    exact ⟨rfl, (Below.refl _ _).alloc (Nat.le_refl _) _⟩
  have h2' : decide (f.regs < 0) = false := by simp; omega
  by_cases h3 : 10000 < f.regs
  · have hq : fnOk f shared = false := by simp [fnOk]; omega
    rw [hq]
    go_enter Tryd.func88, Tryd.ntmps88
    go_wp2_with fail
    go_ret
    exact ⟨rfl, (Below.refl _ _).alloc (Nat.le_refl _) _⟩
  have h3' : decide (10000 < f.regs) = false := by simp; omega
  by_cases h4 : 4 < f.arrays.length
  · have hq : fnOk f shared = false := by simp [fnOk]; omega
    rw [hq]
    have h4' : (4 : Int) < (f.arrays.length : Int) := by omega
    go_enter Tryd.func88, Tryd.ntmps88
    go_wp2_with fail
    go_ret
    exact ⟨rfl, (Below.refl _ _).alloc (Nat.le_refl _) _⟩
  have h4' : decide ((4 : Int) < (f.arrays.length : Int)) = false := by simp; omega
  have HQ : Hid (fnOk f shared = match namesOf f shared with | none => false | some ns => f.blocks.all (blkOk f ns)) := by
    show _ = _
    unfold fnOk
    rw [decide_eq_true (show 0 ≤ f.regs by omega), decide_eq_true (show f.regs ≤ 10000 by omega), decide_eq_true (show f.arrays.length ≤ 4 by omega)]
    simp [h1]
  clear h1 h2 h3
  obtain ⟨W, hW⟩ : ∃ W : World, (w.alloc (.cells #[.string f.name, .int .i64 f.regs, .slice aa f.arrays.length ac, .slice ba f.blocks.length bc] 25)) = W := ⟨_, rfl⟩
  have hWs : W.heap.size = w.heap.size + 1 := by rw [← hW]; simp
  have HBW : Hid (Below w.heap.size w W) := by show Below _ _ _; rw [← hW]; exact (Below.refl _ _).alloc (Nat.le_refl _) _
  have x0 : W.cell? ⟨w.heap.size, 0, none⟩ = some (.string f.name) := by rw [← hW]; simp
  have x1 : W.cell? ⟨w.heap.size, 1, none⟩ = some (.int .i64 f.regs) := by rw [← hW]; simp
  have x2 : W.cell? ⟨w.heap.size, 2, none⟩ = some (.slice aa f.arrays.length ac) := by rw [← hW]; simp
  have x3 : W.cell? ⟨w.heap.size, 3, none⟩ = some (.slice ba f.blocks.length bc) := by rw [← hW]; simp
  have HX := Lib.hid (And.intro x0 (And.intro x1 (And.intro x2 x3)))
  have HWF := Lib.hid (HF.out.below HBW.out)
  have HWS := Lib.hid (HS.out.below HBW.out)
  clear HF HS
  have hmm := @run_makeMap Tryd.prog
  go_enter Tryd.func88, Tryd.ntmps88
  go_wp2_with fail
  clear hW x0 x1 x2 x3 h1' h2' h3' h4' hmm
  go_loopw [42] (fun i wr => ∃ (j : Nat) (ns : List (ByteArray × Bool)), j ≤ f.arrays.length ∧ i = .int .i64 j ∧ ns.length ≤ j ∧ addArrs ns (f.arrays.drop j) = addArrs [] f.arrays ∧ MapAt Tryd.prog 9 wr (w.heap.size + 1) (symMap ns) ∧ Below W.heap.size W wr) (fun i _ => f.arrays.length - (intOf i).toNat)
  case atStart =>
    refine ⟨0, [], Nat.zero_le _, rfl, Nat.le_refl _, rfl, ?_, (Below.refl _ _).alloc (Nat.le_refl _) _⟩
    rw [← hWs]
    exact MapAt.made _ _ _
  case round =>
    obtain ⟨j, ns, hj, rfl, hnl, hadd, hmap, hB⟩ := hrel
    have HADD := Lib.hid hadd
    have HMAP := Lib.hid hmap
    have hBs := hB.size
    have HB := Lib.hid hB
    clear hadd hmap hB
    have hk0 : (0 : Int) ≤ (j : Int) := by omega
    by_cases hlt : j < f.arrays.length
    · obtain ⟨p, hp⟩ : ∃ p, f.arrays[j]? = some p := ⟨_, List.getElem?_eq_getElem hlt⟩
      have hps := HWF.out.arrays.sizes p (List.mem_of_getElem? hp)
      rcases HWF.out.arrays.at_ with h0 | ⟨b, off, rfl, hc⟩
      · omega
      obtain ⟨c1, c2⟩ := hc j p hp
      have f1 := cell_below HB.out c1
      have f2 := cell_below HB.out c2
      have HD := Lib.hid (drop_cons hp)
      have hk1 : (j : Int) < (f.arrays.length : Int) := by omega
      have hBn : Below W.heap.size W (wr.alloc (.cells #[.string p.1, .int .i64 p.2] 107)) := HB.out.alloc hBs _
      have HBN := Lib.hid hBn
      have HMN := Lib.hid (HMAP.out.move (w' := wr.alloc (.cells #[.string p.1, .int .i64 p.2] 107)) (Below.heap_alloc _ _ _ HMAP.out.lt))
      clear hc hp c1 c2 hBn
      obtain ⟨t, ht⟩ : ∃ t, (lookB ns p.1).isSome = t := ⟨_, rfl⟩
      obtain ⟨u, hu⟩ : ∃ u, (lookB ns p.1).getD false = u := ⟨_, rfl⟩
      have HT := Lib.hid ht
      have HU := Lib.hid hu
      clear ht hu
      by_cases hbad : t = true ∨ p.2 < 1 ∨ 32 < p.2
      · have HN : Hid (fnOk f shared = false) := by
          show _ = _
          have : addArrs [] f.arrays = none := by
            rw [← HADD.out, HD.out]
            show (bif _ then _ else _) = _
            rw [HT.out]
            have : (t || decide (p.2 < 1) || decide (32 < p.2)) = true := by simpa [or_assoc] using hbad
            rw [this]
            rfl
          rw [HQ.out]
          unfold namesOf
          rw [this]
          rfl
        have hbad' : (t = true) ∨ (t = false ∧ p.2 < 1) ∨ (t = false ∧ decide (p.2 < 1) = false ∧ 32 < p.2) := by
          cases t
          · by_cases q : p.2 < 1
            · exact .inr (.inl ⟨rfl, q⟩)
            · exact .inr (.inr ⟨rfl, by simpa using q, by simp at hbad; omega⟩)
          · exact .inl rfl
        clear hbad
        rcases hbad' with rfl | ⟨rfl, q⟩ | ⟨rfl, q, q'⟩
        all_goals
          go_wp2_with (first | (at_lookup; refine wpList_look_ok _ rfl _ _ 163 rfl 9 4 Tryd.underlying9 Tryd.underlying163 (zeroB _) (w.heap.size + 1) (symMap ns) rfl HMN.out p.1 rfl hps (.bool u) _ (by rw [lookv, HU.out]) (by rw [lookok, HT.out]) ?_))
          go_ret
          exact ⟨by rw [HN.out]; rfl, HBW.out.trans (HBN.out.mono (by omega))⟩
      · have ht : t = false := by cases t <;> simp_all
        subst ht
        have q1 : decide (p.2 < 1) = false := by simp at hbad ⊢; omega
        have q2 : decide (32 < p.2) = false := by simp at hbad ⊢; omega
        have HN : Hid (addArrs (ns ++ [(p.1, true)]) (f.arrays.drop (j + 1)) = addArrs [] f.arrays) := by
          show _ = _
          rw [← HADD.out, HD.out]
          show _ = (bif _ then _ else _)
          rw [HT.out, q1, q2]
          rfl
        clear hbad
        go_wp2_with (first
          | (at_lookup; refine wpList_look_ok _ rfl _ _ 163 rfl 9 4 Tryd.underlying9 Tryd.underlying163 (zeroB _) (w.heap.size + 1) (symMap ns) rfl HMN.out p.1 rfl hps (.bool u) _ (by rw [lookv, HU.out]) (by rw [lookok, HT.out]) ?_)
          | (at_mapUpdate; refine wpList_mapStore _ rfl _ _ _ 163 rfl 9 4 Tryd.underlying9 Tryd.underlying163 (w.heap.size + 1) (symMap ns) rfl HMN.out p.1 _ rfl rfl hps (by simp [symMap, maxLen]; omega) (look_none HT.out) ?_))
        intro w2 hm2 hg2
        have HM2 := Lib.hid hm2
        have HB2 := Lib.hid (HBN.out.grown hg2 (by simp; omega) (fun k hk => by cases hk; omega))
        clear hm2 hg2
        go_wp2_with fail
        go_roundw
        case rel => exact ⟨j + 1, ns ++ [(p.1, true)], by omega, by go_num, by simp; omega, HN.out, by rw [symMap_snoc]; exact HM2.out, HB2.out⟩
        case measure => simp [intOf]; omega
    · obtain rfl : j = f.arrays.length := by omega
      have HA : Hid (addArrs [] f.arrays = some ns) := by show _ = _; rw [← HADD.out, List.drop_length]; rfl
      have hn4 : ns.length ≤ 4 := by omega
      have HQ2 : Hid (fnOk f shared = match addObjs ns shared with | none => false | some ns => f.blocks.all (blkOk f ns)) := by
        show _ = _
        rw [HQ.out]
        unfold namesOf
        rw [HA.out]
        rfl
      clear HADD hlt hnl hj hk0 HQ HA
      go_wp2_with fail
      go_loopw [70] (fun i wr => ∃ (j : Nat) (ms : List (ByteArray × Bool)), j ≤ shared.length ∧ i = .int .i64 j ∧ ms.length ≤ j + 4 ∧ addObjs ms (shared.drop j) = addObjs ns shared ∧ MapAt Tryd.prog 9 wr (w.heap.size + 1) (symMap ms) ∧ Below W.heap.size W wr) (fun i _ => shared.length - (intOf i).toNat)
      case atStart => exact ⟨0, ns, Nat.zero_le _, rfl, by omega, rfl, HMAP.out, HB.out⟩
      case round =>
        clear HMAP HB hBs
        rename_i wr'
        obtain ⟨j, ms, hj, rfl, hnl, hadd, hmap, hB⟩ := hrel
        have HADD := Lib.hid hadd
        have HMAP := Lib.hid hmap
        have hBs := hB.size
        have HB := Lib.hid hB
        clear hadd hmap hB
        have hk0 : (0 : Int) ≤ (j : Int) := by omega
        by_cases hlt : j < shared.length
        · obtain ⟨p, hp⟩ : ∃ p, shared[j]? = some p := ⟨_, List.getElem?_eq_getElem hlt⟩
          have hps := HWS.out.sizes p (List.mem_of_getElem? hp)
          rcases HWS.out.at_ with h0 | ⟨b, off, rfl, hc⟩
          · omega
          obtain ⟨c1, c2⟩ := hc j p hp
          have f1 := cell_below HB.out c1
          have f2 := cell_below HB.out c2
          have HD := Lib.hid (drop_cons hp)
          have hk1 : (j : Int) < (shared.length : Int) := by omega
          have hBn : Below W.heap.size W (wr.alloc (.cells #[.string p.1, .int .i64 p.2] 107)) := HB.out.alloc hBs _
          have HBN := Lib.hid hBn
          have HMN := Lib.hid (HMAP.out.move (w' := wr.alloc (.cells #[.string p.1, .int .i64 p.2] 107)) (Below.heap_alloc _ _ _ HMAP.out.lt))
          clear hc hp c1 c2 hBn
          obtain ⟨t, ht⟩ : ∃ t, (lookB ms p.1).isSome = t := ⟨_, rfl⟩
          obtain ⟨u, hu⟩ : ∃ u, (lookB ms p.1).getD false = u := ⟨_, rfl⟩
          have HT := Lib.hid ht
          have HU := Lib.hid hu
          clear ht hu
          cases t with
          | true =>
            have HN : Hid (fnOk f shared = false) := by
              show _ = _
              have : addObjs ns shared = none := by
                rw [← HADD.out, HD.out]
                show (bif _ then _ else _) = _
                rw [HT.out]
                rfl
              rw [HQ2.out, this]
            go_wp2_with (first | (at_lookup; refine wpList_look_ok _ rfl _ _ 163 rfl 9 4 Tryd.underlying9 Tryd.underlying163 (zeroB _) (w.heap.size + 1) (symMap ms) rfl HMN.out p.1 rfl hps (.bool u) _ (by rw [lookv, HU.out]) (by rw [lookok, HT.out]) ?_))
            go_ret
            exact ⟨by rw [HN.out]; rfl, HBW.out.trans (HBN.out.mono (by omega))⟩
          | false =>
            have HN : Hid (addObjs (ms ++ [(p.1, false)]) (shared.drop (j + 1)) = addObjs ns shared) := by
              show _ = _
              rw [← HADD.out, HD.out]
              show _ = (bif _ then _ else _)
              rw [HT.out]
              rfl
            go_wp2_with (first
              | (at_lookup; refine wpList_look_ok _ rfl _ _ 163 rfl 9 4 Tryd.underlying9 Tryd.underlying163 (zeroB _) (w.heap.size + 1) (symMap ms) rfl HMN.out p.1 rfl hps (.bool u) _ (by rw [lookv, HU.out]) (by rw [lookok, HT.out]) ?_)
              | (at_mapUpdate; refine wpList_mapStore _ rfl _ _ _ 163 rfl 9 4 Tryd.underlying9 Tryd.underlying163 (w.heap.size + 1) (symMap ms) rfl HMN.out p.1 _ rfl rfl hps (by simp [symMap, maxLen]; omega) (look_none HT.out) ?_))
            intro w2 hm2 hg2
            have HM2 := Lib.hid hm2
            have HB2 := Lib.hid (HBN.out.grown hg2 (by simp; omega) (fun k hk => by cases hk; omega))
            clear hm2 hg2
            go_wp2_with fail
            go_roundw
            case rel => exact ⟨j + 1, ms ++ [(p.1, false)], by omega, by go_num, by simp; omega, HN.out, by rw [symMap_snoc]; exact HM2.out, HB2.out⟩
            case measure => simp [intOf]; omega
        · obtain rfl : j = shared.length := by omega
          have HQ3 : Hid (fnOk f shared = f.blocks.all (blkOk f ms)) := by
            show _ = _
            rw [HQ2.out, ← HADD.out, List.drop_length]
            rfl
          clear HADD HQ2 hlt hj hk0 hnl
          obtain ⟨x0, x1, x2, x3⟩ := HX.out
          have y3 := (HB.out.cell (p := ⟨w.heap.size, 3, none⟩) (by show w.heap.size < _; omega)).trans x3
          clear x0 x1 x2 x3
          go_wp2_with fail
          clear y3
          go_loopw [89] (fun i wr => ∃ (j : Nat), j ≤ f.blocks.length ∧ i = .int .i64 j ∧ (f.blocks.take j).all (blkOk f ms) = true ∧ MapAt Tryd.prog 9 wr (w.heap.size + 1) (symMap ms) ∧ Below W.heap.size W wr) (fun i _ => f.blocks.length - (intOf i).toNat)
          case atStart => exact ⟨0, Nat.zero_le _, rfl, rfl, HMAP.out, HB.out⟩
          case round =>
            clear HMAP HB hBs
            rename_i wr''
            obtain ⟨j, hj, rfl, hall, hmap, hB⟩ := hrel
            have HALL := Lib.hid hall
            have HMAP := Lib.hid hmap
            have hBs := hB.size
            have HB := Lib.hid hB
            clear hall hmap hB
            have hk0 : (0 : Int) ≤ (j : Int) := by omega
            by_cases hlt : j < f.blocks.length
            · obtain ⟨p, hp⟩ : ∃ p, f.blocks[j]? = some p := ⟨_, List.getElem?_eq_getElem hlt⟩
              have HP := Lib.hid hp
              rcases HWF.out.blocks.at_ with h0 | ⟨b, off, rfl, hc⟩
              · omega
              obtain ⟨ca, cc, hblk, hcode⟩ := hc j p hp
              have hb2 := hblk.below HB.out
              have HCODE := Lib.hid hcode
              have hcl := hcode.fits
              obtain ⟨f0, f1, f2, f3, f4⟩ := hb2
              have hk1 : (j : Int) < (f.blocks.length : Int) := by omega
              clear hc hp hblk hcode
              obtain ⟨V, hV⟩ : ∃ V : World, wr.alloc (.cells #[.slice ca p.code.length cc, .int .u8 p.kind, .int .i64 p.x, .int .i64 p.to, .int .i64 p.els] 43) = V := ⟨_, rfl⟩
              have hVs : V.heap.size = wr.heap.size + 1 := by rw [← hV]; simp
              have HVM : Hid (MapAt Tryd.prog 9 V (w.heap.size + 1) (symMap ms)) := by show MapAt _ _ _ _ _; rw [← hV]; exact HMAP.out.move (Below.heap_alloc _ _ _ HMAP.out.lt)
              have HVB : Hid (Below W.heap.size W V) := by show Below _ _ _; rw [← hV]; exact HB.out.alloc hBs _
              have v0 : V.cell? ⟨wr.heap.size, 0, none⟩ = some (.slice ca p.code.length cc) := by rw [← hV]; simp
              have v1 : V.cell? ⟨wr.heap.size, 1, none⟩ = some (.int .u8 p.kind) := by rw [← hV]; simp
              have v2 : V.cell? ⟨wr.heap.size, 2, none⟩ = some (.int .i64 p.x) := by rw [← hV]; simp
              have v3 : V.cell? ⟨wr.heap.size, 3, none⟩ = some (.int .i64 p.to) := by rw [← hV]; simp
              have v4 : V.cell? ⟨wr.heap.size, 4, none⟩ = some (.int .i64 p.els) := by rw [← hV]; simp
              have HV := Lib.hid (And.intro v0 (And.intro v1 (And.intro v2 (And.intro v3 v4))))
              go_wp2_with fail
              clear hV v0 v1 v2 v3 v4 f0 f1 f2 f3 f4
              obtain ⟨wo, rfl⟩ : ∃ wo : World, wo = wr := ⟨_, rfl⟩
              go_loopw [96] (fun i wr => ∃ (k : Nat), k ≤ p.code.length ∧ i = .int .i64 k ∧ (p.code.take k).all (insOk f.regs ms) = true ∧ Below V.heap.size V wr) (fun i _ => p.code.length - (intOf i).toNat)
              case atStart => exact ⟨0, Nat.zero_le _, rfl, rfl, Below.refl _ _⟩
              case round =>
                obtain ⟨k, hk, rfl, hal, hB4⟩ := hrel
                have hw9 : w.heap.size < wr.heap.size := by have := hB4.size; omega
                have HAL := Lib.hid hal
                have hB4s := hB4.size
                have HB4 := Lib.hid hB4
                clear hal hB4
                have hk2 : (0 : Int) ≤ (k : Int) := by omega
                have HBA := Lib.hid (HVB.out.trans (HB4.out.mono (by omega)))
                have HMA := Lib.hid (HVM.out.below HB4.out)
                obtain ⟨x0, x1, x2, x3⟩ := HX.out
                have y0 := (HBA.out.cell (p := ⟨w.heap.size, 0, none⟩) (by show w.heap.size < _; omega)).trans x0
                have y1 := (HBA.out.cell (p := ⟨w.heap.size, 1, none⟩) (by show w.heap.size < _; omega)).trans x1
                have y2 := (HBA.out.cell (p := ⟨w.heap.size, 2, none⟩) (by show w.heap.size < _; omega)).trans x2
                have y3 := (HBA.out.cell (p := ⟨w.heap.size, 3, none⟩) (by show w.heap.size < _; omega)).trans x3
                clear x0 x1 x2 x3
                by_cases hkl : k < p.code.length
                · obtain ⟨q, hq⟩ : ∃ q, p.code[k]? = some q := ⟨_, List.getElem?_eq_getElem hkl⟩
                  have HQI := Lib.hid hq
                  have hqs := (HCODE.out.wf q (List.mem_of_getElem? hq)).sym
                  rcases HCODE.out.at_ with h0 | ⟨cb, co, rfl, hcc⟩
                  · omega
                  obtain ⟨c0, c1, c2, c3, c4, c5⟩ := (hcc k q hq).below HBA.out
                  have hk3 : (k : Int) < (p.code.length : Int) := by omega
                  clear hcc hq
                  cases ho : insOk f.regs ms q with
                  | true =>
                    have HN : Hid ((p.code.take (k + 1)).all (insOk f.regs ms) = true) := all_take HQI.out HAL.out ho
                    have HO := Lib.hid ho
                    clear ho
                    go_wp2_with fail
                    refine (validIns_any f.name f.regs aa (some ⟨b, off, none⟩) _ ac _ bc ms (w.heap.size + 1) q _ hqs (HMA.out.move (Below.heap_alloc _ _ _ HMA.out.lt))).mono ?_
                    rintro e w5 ⟨rfl, hB5⟩
                    rw [HO.out]
                    have HB5 := Lib.hid ((HB4.out.alloc hB4s _).trans (hB5.mono (by simp; omega)))
                    clear hB5 c0 c1 c2 c3 c4 c5
                    go_wp2_with fail
                    go_roundw
                    case rel => exact ⟨k + 1, by omega, by go_num, HN.out, HB5.out⟩
                    case measure => simp [intOf]; omega
                  | false =>
                    have HN : Hid (fnOk f shared = false) := by
                      show _ = _
                      rw [HQ3.out]
                      refine all_fail HP.out ?_
                      unfold blkOk
                      rw [all_fail HQI.out ho]
                      rfl
                    have HO := Lib.hid ho
                    clear ho
                    go_wp2_with fail
                    refine (validIns_any f.name f.regs aa (some ⟨b, off, none⟩) _ ac _ bc ms (w.heap.size + 1) q _ hqs (HMA.out.move (Below.heap_alloc _ _ _ HMA.out.lt))).mono ?_
                    rintro e w5 ⟨rfl, hB5⟩
                    rw [HO.out]
                    have HB5 := Lib.hid ((HBA.out.alloc (by omega) _).trans (hB5.mono (by simp; omega)))
                    clear hB5 c0 c1 c2 c3 c4 c5
                    go_wp2_with fail
                    go_ret
                    exact ⟨by rw [HN.out]; rfl, HBW.out.trans (HB5.out.mono (by omega))⟩
                · obtain rfl : k = p.code.length := by omega
                  obtain ⟨v0, v1, v2, v3, v4⟩ := HV.out
                  have u0 := (HB4.out.cell (p := ⟨wo.heap.size, 0, none⟩) (by show wo.heap.size < _; omega)).trans v0
                  have u1 := (HB4.out.cell (p := ⟨wo.heap.size, 1, none⟩) (by show wo.heap.size < _; omega)).trans v1
                  have u2 := (HB4.out.cell (p := ⟨wo.heap.size, 2, none⟩) (by show wo.heap.size < _; omega)).trans v2
                  have u3 := (HB4.out.cell (p := ⟨wo.heap.size, 3, none⟩) (by show wo.heap.size < _; omega)).trans v3
                  have u4 := (HB4.out.cell (p := ⟨wo.heap.size, 4, none⟩) (by show wo.heap.size < _; omega)).trans v4
                  clear v0 v1 v2 v3 v4
                  go_wp2_with fail
                  refine (validEnd_any f.name f.regs aa (some ⟨b, off, none⟩) _ ac f.blocks.length bc p ca cc _ lb).mono ?_
                  rintro e w5 ⟨rfl, hB5⟩
                  have HB5 := Lib.hid (HBA.out.trans (hB5.mono (by omega)))
                  have HM5 := Lib.hid (HMA.out.below hB5)
                  clear hB5 u0 u1 u2 u3 u4
                  cases ho : endOk f.regs f.blocks.length p with
                  | true =>
                    have HN : Hid ((f.blocks.take (j + 1)).all (blkOk f ms) = true) := by
                      refine all_take HP.out HALL.out ?_
                      unfold blkOk
                      rw [ho]
                      have := HAL.out
                      rw [List.take_length] at this
                      rw [this]
                      rfl
                    clear ho
                    go_wp2_with fail
                    go_roundw
                    case rel => exact ⟨j + 1, by omega, by go_num, HN.out, HM5.out, HB5.out⟩
                    case measure => simp [intOf]; omega
                  | false =>
                    have HN : Hid (fnOk f shared = false) := by
                      show _ = _
                      rw [HQ3.out]
                      refine all_fail HP.out ?_
                      unfold blkOk
                      rw [ho]
                      simp
                    clear ho
                    go_wp2_with fail
                    go_ret
                    exact ⟨by rw [HN.out]; rfl, HBW.out.trans (HB5.out.mono (by omega))⟩
            · obtain rfl : j = f.blocks.length := by omega
              have HN : Hid (fnOk f shared = true) := by show _ = _; rw [HQ3.out, ← HALL.out, List.take_length]
              go_wp2_with fail
              go_ret
              exact ⟨by rw [HN.out]; rfl, HBW.out.trans (HB.out.mono (by omega))⟩
end
end Go.Proofs.YteknhnnlhhgppaaDoor
