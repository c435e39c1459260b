/-
  Contract: Interfere (package ontimeref19).
-/
import Derived.Test.YteknhnnlhhgppaaDoorLiveAt
import Derived.Test.YteknhnnlhhgppaaDoorLiveAfter
import Derived.Test.YteknhnnlhhgppaaDoorMg23
namespace Go.Proofs.YteknhnnlhhgppaaDoor
set_option linter.unusedVariables false
set_option linter.unusedSimpArgs false
open Go.RowKit
set_option maxRecDepth 100000
set_option maxHeartbeats 16000000

/-- a definition of the one register where the other one is live -/
def HitI (f : Fn) (outs : List Nat) (a c k i : Nat) : Prop := ∃ b q, f.blocks[k]? = some b ∧ b.code[i]? = some q ∧ ((q.defines = some (a : Int) ∧ (blkB b (i + 1) (outs.getD k 0)).testBit c = true) ∨ (q.defines = some (c : Int) ∧ (blkB b (i + 1) (outs.getD k 0)).testBit a = true))
theorem defS_all {f : Fn} {outs : List Nat} {a c : Nat} : DefS f outs f.blocks.length 0 a c ↔ ∃ (k' : Nat) (bl : Blk) (i' : Nat) (q : Ins), f.blocks[k']? = some bl ∧ bl.code[i']? = some q ∧ q.defines = some (a : Int) ∧ (blkB bl (i' + 1) (outs.getD k' 0)).testBit c = true := by
  rw [defS_next]
  constructor
  · rintro ⟨k', bl, i', q, _, h⟩
    exact ⟨k', bl, i', q, h⟩
  · rintro ⟨k', bl, i', q, h⟩
    exact ⟨k', bl, i', q, by have := (List.getElem?_eq_some_iff.1 h.1).1; omega, h⟩
theorem hit_some {f : Fn} {outs : List Nat} {a c k i : Nat} (h : HitI f outs a c k i) : DefS f outs f.blocks.length 0 a c ∨ DefS f outs f.blocks.length 0 c a := by
  obtain ⟨b, q, h1, h2, h3 | h3⟩ := h
  · exact .inl (defS_all.2 ⟨k, b, i, q, h1, h2, h3⟩)
  · exact .inr (defS_all.2 ⟨k, b, i, q, h1, h2, h3⟩)
theorem hit_none {f : Fn} {outs : List Nat} {a c : Nat} (h : ∀ k i, k < f.blocks.length → ¬ HitI f outs a c k i) : ¬ (DefS f outs f.blocks.length 0 a c ∨ DefS f outs f.blocks.length 0 c a) := by
  rintro (h1 | h1)
  · obtain ⟨k, b, i, q, h2, h3, h4⟩ := defS_all.1 h1
    exact h k i (List.getElem?_eq_some_iff.1 h2).1 ⟨b, q, h2, h3, .inl h4⟩
  · obtain ⟨k, b, i, q, h2, h3, h4⟩ := defS_all.1 h1
    exact h k i (List.getElem?_eq_some_iff.1 h2).1 ⟨b, q, h2, h3, .inr h4⟩
theorem hit_next {f : Fn} {outs : List Nat} {a c k m : Nat} {b : Blk} {q : Ins} (hb : f.blocks[k]? = some b) (hq : b.code[m]? = some q) (h : ∀ i', i' < m → ¬ HitI f outs a c k i')
    (h1 : ¬ (q.defines = some (a : Int) ∧ (blkB b (m + 1) (outs.getD k 0)).testBit c = true)) (h2 : ¬ (q.defines = some (c : Int) ∧ (blkB b (m + 1) (outs.getD k 0)).testBit a = true)) : ∀ i', i' < m + 1 → ¬ HitI f outs a c k i' := fun i' hi => by
  by_cases hm : i' < m
  · exact h i' hm
  · obtain rfl : i' = m := by omega
    rintro ⟨b', q', h3, h4, h5⟩
    rw [hb] at h3
    obtain rfl := Option.some.inj h3
    rw [hq] at h4
    obtain rfl := Option.some.inj h4
    exact h5.elim h1 h2
theorem interfere_any (f : Fn) (aa ba : Option Addr) (ac bc R a c : Nat) (outs : List Nat) (w : World) (hf : FnAt w f aa ba) (hn : f.blocks.length ≤ 1000) (hcl : ∀ b ∈ f.blocks, b.code.length ≤ 1000000) (hF : FormR f R) (ha : a < R) (hc : c < R)
    (ho : ∀ k, outs.getD k 0 < 2 ^ R) (hol : ∀ k r, k < f.blocks.length → r < R → ((outs.getD k 0).testBit r = true ↔ LeavesP f r k)) :
    Calls Tryd.prog 37 #[fnVal f.name f.regs aa f.arrays.length ac ba f.blocks.length bc, .int .i64 (a : Int), .int .i64 (c : Int)] w (Tells ((DefS f outs f.blocks.length 0 a c ∨ DefS f outs f.blocks.length 0 c a) ∧ a ≠ c) w) := by
  obtain ⟨PP, hPP⟩ : ∃ PP : Prop, (DefS f outs f.blocks.length 0 a c ∨ DefS f outs f.blocks.length 0 c a) = PP := ⟨_, rfl⟩
  have HSOME : Hid (∀ k i, HitI f outs a c k i → PP) := fun k i h => by rw [← hPP]; exact hit_some h
  have HNONE : Hid ((∀ k i, k < f.blocks.length → ¬ HitI f outs a c k i) → ¬ PP) := fun h => by rw [← hPP]; exact hit_none h
  rw [hPP]
  have HF := Lib.hid hf
  have HCL := Lib.hid hcl
  have HFR := Lib.hid hF
  have HAR := Lib.hid ha
  have HCR := Lib.hid hc
  have HO := Lib.hid ho
  have HOL := Lib.hid hol
  obtain ⟨n, hnn⟩ : ∃ n, f.blocks.length = n := ⟨_, rfl⟩
  have HN := Lib.hid hnn
  have HN1 := Lib.hid hn
  have QD : Hid (∀ (w' : World) (k i x : Nat) (b : Blk), Below w.heap.size w w' → f.blocks[k]? = some b → i ≤ b.code.length → Calls Tryd.prog 72 #[.agg #[.string f.name, .int .i64 f.regs, .slice aa f.arrays.length ac, .slice ba n bc], .int .i64 (k : Int), .int .i64 (i : Int), .int .i64 (x : Int)] w' (Tells (DefAt b i x) w')) := fun w' k i x b hB hb hi => by
    have h9 := defines19_any f aa ba ac bc k i x b w' (HF.out.below hB) HN1.out hb (HCL.out b (List.mem_of_getElem? hb)) hi
    rw [HN.out] at h9
    exact h9
  have QL : Hid (∀ (w' : World) (k i x : Nat) (b : Blk), Below w.heap.size w w' → f.blocks[k]? = some b → i < b.code.length → x < R → Calls Tryd.prog 50 #[.agg #[.string f.name, .int .i64 f.regs, .slice aa f.arrays.length ac, .slice ba n bc], .int .i64 (k : Int), .int .i64 ((i : Int) + 1), .int .i64 (x : Int)] w' (Tells ((blkB b (i + 1) (outs.getD k 0)).testBit x = true) w')) := fun w' k i x b hB hb hi hx => by
    have h9 := live_any f aa ba ac bc R k (i + 1) x (outs.getD k 0) b w' (HF.out.below hB) HN1.out hb HCL.out hi HFR.out hx (HO.out k) (HOL.out k x (List.getElem?_eq_some_iff.1 hb).1 hx)
    rw [HN.out, show ((i + 1 : Nat) : Int) = (i : Int) + 1 by omega] at h9
    exact h9
  obtain ⟨W, hW⟩ : ∃ W : World, w.alloc (.cells #[.string f.name, .int .i64 f.regs, .slice aa f.arrays.length ac, .slice ba n bc] 36) = W := ⟨_, rfl⟩
  have HBW : Hid (Below w.heap.size w W) := by show Below _ _ _; rw [← hW]; exact mem_alloc _ _
  have HX : Hid (W.heap[w.heap.size]? = some (.cells #[.string f.name, .int .i64 f.regs, .slice aa f.arrays.length ac, .slice ba n bc] 36)) := by
    show _ = _
    rw [← hW]
    exact mem_new _ _
  have HXC : Hid (∀ w', Below W.heap.size W w' → (w'.cell? ⟨w.heap.size, 0, none⟩ = some (.string f.name) ∧ w'.cell? ⟨w.heap.size, 1, none⟩ = some (.int .i64 f.regs) ∧ w'.cell? ⟨w.heap.size, 2, none⟩ = some (.slice aa f.arrays.length ac) ∧ w'.cell? ⟨w.heap.size, 3, none⟩ = some (.slice ba n bc)) ∧ Below w.heap.size w w') := fun w' h => by
    have h9 := mem_keep HX.out h
    exact ⟨⟨cell_heap h9 0, cell_heap h9 1, cell_heap h9 2, cell_heap h9 3⟩, mem_then HBW.out h⟩
  rw [hnn] at hn ⊢
  clear hf hcl hF ha hc ho hol hnn hPP
  go_enter Tryd.func37, Tryd.ntmps37
  go_wp2_with fail
  clear hW
  go_loopw [7] (fun i wr => ∃ k : Nat, k ≤ n ∧ i = .int .i64 (k : Int) ∧ (∀ k' i', k' < k → ¬ HitI f outs a c k' i') ∧ Below W.heap.size W wr) (fun i _ => n - (intOf i).toNat)
  case atStart => exact ⟨0, Nat.zero_le _, rfl, fun k' i' h => by omega, Below.refl _ _⟩
  case round =>
    obtain ⟨k, hk, rfl, hall, hbel⟩ := hrel
    have HALL := Lib.hid hall
    have HBEL := Lib.hid hbel
    have hk0 : (0 : Int) ≤ (k : Int) := by omega
    obtain ⟨⟨x0, x1, x2, x3⟩, _⟩ := HXC.out wr hbel
    clear hall hbel
    by_cases hlt : k < n
    · have hlt2 : (k : Int) < (n : Int) := by omega
      obtain ⟨b, hb⟩ : ∃ b, f.blocks[k]? = some b := ⟨_, List.getElem?_eq_getElem (by rw [HN.out]; exact hlt)⟩
      have HB := Lib.hid hb
      have hcl1 := HCL.out b (List.mem_of_getElem? hb)
      rcases HF.out.blocks.at_ with hz | ⟨bb, off, rfl, hbk⟩
      · have := HN.out; omega
      obtain ⟨ca, cc, hba, hcode⟩ := hbk k b hb
      have HBA := Lib.hid hba
      clear hbk hba hcode hb
      go_wp2_with fail
      clear x0 x1 x2 x3
      obtain ⟨wo, hwo⟩ : ∃ wo : World, wo = wr := ⟨_, rfl⟩
      subst hwo
      go_loopw [8] (fun i wi => ∃ m : Nat, m ≤ b.code.length ∧ i = .int .i64 (m : Int) ∧ (∀ i', i' < m → ¬ HitI f outs a c k i') ∧ Below W.heap.size W wi) (fun i _ => b.code.length - (intOf i).toNat)
      case atStart => exact ⟨0, Nat.zero_le _, rfl, fun i' h => by omega, HBEL.out⟩
      case round =>
        obtain ⟨m, hm, rfl, hno, hbi⟩ := hrel
        have HNO := Lib.hid hno
        have HBI := Lib.hid hbi
        have hm0 : (0 : Int) ≤ (m : Int) := by omega
        obtain ⟨⟨x0, x1, x2, x3⟩, hbw⟩ := HXC.out wr hbi
        have HBWI := Lib.hid hbw
        obtain ⟨c0, c1, c2, c3, c4⟩ := HBA.out.below hbw
        clear hno hbi hbw
        by_cases hml : m < b.code.length
        · have hml2 : (m : Int) < (b.code.length : Int) := by omega
          obtain ⟨q, hq⟩ : ∃ q, b.code[m]? = some q := ⟨_, List.getElem?_eq_getElem hml⟩
          have HDA : Hid (∀ x, DefAt b m x ↔ q.defines = some (x : Int)) := fun x => ⟨fun ⟨q', h1, h2⟩ => by rw [hq] at h1; obtain rfl := Option.some.inj h1; exact h2, fun h => ⟨q, hq, h⟩⟩
          have HQ := Lib.hid hq
          clear hq
          go_wp2_with fail
          clear x0 x1 x2 x3 c0 c1 c2 c3 c4
          refine (QD.out _ k m a b HBWI.out HB.out (by omega)).mono ?_
          rintro e w1 ⟨r1, rfl, hr1, hB1⟩
          have HR1 := Lib.hid hr1
          have HB1 := Lib.hid (mem_then HBI.out hB1)
          obtain ⟨⟨x0, x1, x2, x3⟩, hbw⟩ := HXC.out w1 HB1.out
          have HBW1 := Lib.hid hbw
          clear hr1 hB1 hbw
          -- what the first half leaves
          cases r1 with
          | false =>
            go_wp2_with fail
            clear x0 x1 x2 x3
            refine (QD.out _ k m c b HBW1.out HB.out (by omega)).mono ?_
            rintro e w3 ⟨r3, rfl, hr3, hB3⟩
            have HR3 := Lib.hid hr3
            have HB3 := Lib.hid (mem_then HB1.out hB3)
            obtain ⟨⟨x0, x1, x2, x3⟩, hbw⟩ := HXC.out w3 HB3.out
            have HBW3 := Lib.hid hbw
            clear hr3 hB3 hbw
            cases r3 with
            | false =>
              have HNX := Lib.hid (hit_next HB.out HQ.out HNO.out (fun h => by have := HR1.out.2 ((HDA.out a).2 h.1); simp at this) (fun h => by have := HR3.out.2 ((HDA.out c).2 h.1); simp at this))
              go_wp2_with fail
              exact ⟨⟨m + 1, by omega, by go_num, HNX.out, HB3.out⟩, by simp [intOf]; omega⟩
            | true =>
              go_wp2_with fail
              clear x0 x1 x2 x3
              refine (QL.out _ k m a b HBW3.out HB.out hml HAR.out).mono ?_
              rintro e w4 ⟨r4, rfl, hr4, hB4⟩
              have HR4 := Lib.hid hr4
              have HB4 := Lib.hid (mem_then HB3.out hB4)
              clear hr4 hB4
              cases r4 with
              | false =>
                have HNX := Lib.hid (hit_next HB.out HQ.out HNO.out (fun h => by have := HR1.out.2 ((HDA.out a).2 h.1); simp at this) (fun h => by have := HR4.out.2 h.2; simp at this))
                go_wp2_with fail
                exact ⟨⟨m + 1, by omega, by go_num, HNX.out, HB4.out⟩, by simp [intOf]; omega⟩
              | true =>
                have HH : Hid PP := HSOME.out k m ⟨b, q, HB.out, HQ.out, .inr ⟨(HDA.out c).1 (HR3.out.1 (by simp)), HR4.out.1 (by simp)⟩⟩
                by_cases hac : a = c
                · subst hac
                  go_wp2_with fail
                  go_ret
                  exact ⟨false, rfl, ⟨fun h => by simp at h, fun h => absurd rfl h.2⟩, mem_then HBW.out HB4.out⟩
                · have e1 : ((a : Int) == (c : Int)) = false := by simp; omega
                  have e2 : ((a : Int) != (c : Int)) = true := by simp; omega
                  have HAC := Lib.hid hac
                  clear hac
                  go_wp2_with fail
                  go_ret
                  exact ⟨true, rfl, ⟨fun _ => ⟨HH.out, HAC.out⟩, fun _ => rfl⟩, mem_then HBW.out HB4.out⟩
          | true =>
            go_wp2_with fail
            clear x0 x1 x2 x3
            refine (QL.out _ k m c b HBW1.out HB.out hml HCR.out).mono ?_
            rintro e w2 ⟨r2, rfl, hr2, hB2⟩
            have HR2 := Lib.hid hr2
            have HB2 := Lib.hid (mem_then HB1.out hB2)
            obtain ⟨⟨x0, x1, x2, x3⟩, hbw⟩ := HXC.out w2 HB2.out
            have HBW2 := Lib.hid hbw
            clear hr2 hB2 hbw
            cases r2 with
            | false =>
              go_wp2_with fail
              clear x0 x1 x2 x3
              refine (QD.out _ k m c b HBW2.out HB.out (by omega)).mono ?_
              rintro e w3 ⟨r3, rfl, hr3, hB3⟩
              have HR3 := Lib.hid hr3
              have HB3 := Lib.hid (mem_then HB2.out hB3)
              obtain ⟨⟨x0, x1, x2, x3⟩, hbw⟩ := HXC.out w3 HB3.out
              have HBW3 := Lib.hid hbw
              clear hr3 hB3 hbw
              cases r3 with
              | false =>
                have HNX := Lib.hid (hit_next HB.out HQ.out HNO.out (fun h => by have := HR2.out.2 h.2; simp at this) (fun h => by have := HR3.out.2 ((HDA.out c).2 h.1); simp at this))
                go_wp2_with fail
                exact ⟨⟨m + 1, by omega, by go_num, HNX.out, HB3.out⟩, by simp [intOf]; omega⟩
              | true =>
                go_wp2_with fail
                clear x0 x1 x2 x3
                refine (QL.out _ k m a b HBW3.out HB.out hml HAR.out).mono ?_
                rintro e w4 ⟨r4, rfl, hr4, hB4⟩
                have HR4 := Lib.hid hr4
                have HB4 := Lib.hid (mem_then HB3.out hB4)
                clear hr4 hB4
                cases r4 with
                | false =>
                  have HNX := Lib.hid (hit_next HB.out HQ.out HNO.out (fun h => by have := HR2.out.2 h.2; simp at this) (fun h => by have := HR4.out.2 h.2; simp at this))
                  go_wp2_with fail
                  exact ⟨⟨m + 1, by omega, by go_num, HNX.out, HB4.out⟩, by simp [intOf]; omega⟩
                | true =>
                  have HH : Hid PP := HSOME.out k m ⟨b, q, HB.out, HQ.out, .inr ⟨(HDA.out c).1 (HR3.out.1 (by simp)), HR4.out.1 (by simp)⟩⟩
                  by_cases hac : a = c
                  · subst hac
                    go_wp2_with fail
                    go_ret
                    exact ⟨false, rfl, ⟨fun h => by simp at h, fun h => absurd rfl h.2⟩, mem_then HBW.out HB4.out⟩
                  · have e1 : ((a : Int) == (c : Int)) = false := by simp; omega
                    have e2 : ((a : Int) != (c : Int)) = true := by simp; omega
                    have HAC := Lib.hid hac
                    clear hac
                    go_wp2_with fail
                    go_ret
                    exact ⟨true, rfl, ⟨fun _ => ⟨HH.out, HAC.out⟩, fun _ => rfl⟩, mem_then HBW.out HB4.out⟩
            | true =>
              have HH : Hid PP := HSOME.out k m ⟨b, q, HB.out, HQ.out, .inl ⟨(HDA.out a).1 (HR1.out.1 (by simp)), HR2.out.1 (by simp)⟩⟩
              by_cases hac : a = c
              · subst hac
                go_wp2_with fail
                go_ret
                exact ⟨false, rfl, ⟨fun h => by simp at h, fun h => absurd rfl h.2⟩, mem_then HBW.out HB2.out⟩
              · have e1 : ((a : Int) == (c : Int)) = false := by simp; omega
                have e2 : ((a : Int) != (c : Int)) = true := by simp; omega
                have HAC := Lib.hid hac
                clear hac
                go_wp2_with fail
                go_ret
                exact ⟨true, rfl, ⟨fun _ => ⟨HH.out, HAC.out⟩, fun _ => rfl⟩, mem_then HBW.out HB2.out⟩
          -- end of the halves
        · obtain rfl : m = b.code.length := by omega
          have HNX : Hid (∀ k' i', k' < k + 1 → ¬ HitI f outs a c k' i') := fun k' i' h => by
            by_cases hk' : k' < k
            · exact HALL.out k' i' hk'
            · obtain rfl : k' = k := by omega
              rintro ⟨b', q', h1, h2, h3⟩
              rw [HB.out] at h1
              obtain rfl := Option.some.inj h1
              exact HNO.out i' (List.getElem?_eq_some_iff.1 h2).1 ⟨b, q', HB.out, h2, h3⟩
          go_wp2_with fail
          exact ⟨⟨k + 1, by omega, by go_num, HNX.out, HBI.out⟩, by simp [intOf]; omega⟩
    · obtain rfl : n = k := by omega
      have HNP : Hid (¬ PP) := HNONE.out (fun k i h => HALL.out k i (by rw [← HN.out]; exact h))
      go_wp2_with fail
      go_ret
      exact ⟨false, rfl, ⟨fun h => by simp at h, fun h => absurd h.1 HNP.out⟩, mem_then HBW.out HBEL.out⟩
end Go.Proofs.YteknhnnlhhgppaaDoor
