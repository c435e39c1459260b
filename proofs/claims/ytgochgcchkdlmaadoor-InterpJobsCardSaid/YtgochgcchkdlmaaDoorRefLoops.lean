/-
  RefLoops: several texts in one (Ref16N, Ref16C).
-/
import Derived.Test.YtgochgcchkdlmaaDoorPuts
import Derived.Test.YtgochgcchkdlmaaDoorRefBlocks
/-
  Contract: while (package ontimeref16), out of what its block does. Printed by wip/gen_r16.py.
-/
namespace Go.Proofs.YtgochgcchkdlmaaDoor
set_option linter.unusedVariables false
set_option linter.unusedSimpArgs false
open Go.RowKit Go.Maps
set_option maxRecDepth 100000
set_option maxHeartbeats 80000000

theorem while16_of {B : Nat} {F : Int} {inp : List Int} {ia : Option Addr} {ic : Nat} {N : List (ByteArray × Bool)} {y : Nat → Value} (t : Tree) (hF : F ≤ 10000000) (hv : t.vld 115 = true) (h43 : t.kind = 43)
    (hb : SOk B F inp ia ic N y 41 (t.kid 1) ((t.kid 1).ex F inp)) : SOk B F inp ia ic N y 90 t (whl F (kidE t 0) (kidX F inp t 1) t.num.toNat) := by
  intro w s cs ca cc oa oc a c hN hcc hB hr hst
  obtain ⟨_, hnum, hlen, hkv⟩ := vldS hv
  rw [h43] at hlen hkv hnum
  replace hlen : t.len = 2 := hlen
  replace hnum : (1 : Int) ≤ t.num ∧ t.num ≤ 1000 := hnum
  obtain ⟨n, hn⟩ : ∃ n : Nat, t.num = (n : Int) := ⟨t.num.toNat, by omega⟩
  have hnn : t.num.toNat = n := by omega
  rw [hnn]
  have HNUM := Lib.hid hn
  have hn1000 : n ≤ 1000 := by omega
  have hl0 : 0 < t.len := by omega
  have hl1 : 1 < t.len := by omega
  have hl0i : (0 : Int) < (t.len : Int) := by omega
  have hl1i : (1 : Int) < (t.len : Int) := by omega
  have hcv : (t.kid 0).vld 101 = true := hkv 0 hl0
  have hlf := hr.fits.len
  obtain ⟨kb, ko, rfl, hkb, xa, xc, hnx, hrx⟩ := kid_in hr hl0
  obtain ⟨kb', ko', hsame, _, ya, yc, hny, hry⟩ := kid_in hr hl1
  cases hsame
  rw [Nat.zero_mul, Nat.add_zero] at hnx
  rw [Nat.one_mul] at hny
  obtain ⟨x, hxe⟩ : ∃ x, t.kid 0 = x := ⟨_, rfl⟩
  obtain ⟨z, hze⟩ : ∃ z, t.kid 1 = z := ⟨_, rfl⟩
  rw [hxe] at hcv hnx hrx
  rw [hze] at hny hry hb
  have HC : Hid (∀ s1, kidE t 0 s1 = x.ev s1.V s1.A) := fun s1 => by unfold kidE; rw [if_pos hl0, hxe]
  have HY : Hid (∀ s1, kidX F inp t 1 s1 = z.ex F inp s1) := fun s1 => by unfold kidX; rw [if_pos hl1, hze]
  obtain ⟨Ra, hRa⟩ : ∃ R, whl F (kidE t 0) (kidX F inp t 1) n s = R := ⟨_, rfl⟩
  rw [hRa]
  have HRR := Lib.hid hRa
  have HCV := Lib.hid hcv
  have HBO := Lib.hid hb
  have HIX : Hid (InB B w x xa) := hrx
  have HIZ : Hid (InB B w z ya) := hry
  have HNX : Hid (∀ w', Below B w w' → NodeAt w' kb ko x xa xc) := fun w' hw => hnx.below hw hkb
  have HNZ : Hid (∀ w', Below B w w' → NodeAt w' kb (ko + 4) z ya yc) := fun w' hw => hny.below hw hkb
  obtain ⟨W1, hW1⟩ : ∃ W : World, w.alloc (ndObj t (some ⟨kb, ko, none⟩) c) = W := ⟨_, rfl⟩
  obtain ⟨W2, hW2⟩ : ∃ W : World, W1.alloc (envObj ca cs.length cc ia inp.length ic oa s.out.length oc (s.rd : Int) (s.st : Int) F 0) = W := ⟨_, rfl⟩
  obtain ⟨W3, hW3⟩ : ∃ W : World, W2.alloc (envObj none 0 0 none 0 0 none 0 0 0 0 0 0) = W := ⟨_, rfl⟩
  have hstart := Fx.start hB hst t (some ⟨kb, ko, none⟩) c #[.slice ca cs.length cc, .slice ia inp.length ic, .slice oa s.out.length oc, .int .i64 (s.rd : Int), .int .i64 (s.st : Int), .int .i64 F, .int .i64 0] hW1 hW2 hW3
  have HFX : Hid (Fx B cs.length w.heap.size W1.heap.size W2.heap.size y w t (some ⟨kb, ko, none⟩) c #[.slice ca cs.length cc, .slice ia inp.length ic, .slice oa s.out.length oc, .int .i64 (s.rd : Int), .int .i64 (s.st : Int), .int .i64 F, .int .i64 0] W3) := hstart.1
  have HST : Hid (RSt B F inp W3 s 0 cs y ca ia oa oc) := hstart.2.1
  have HNN := Lib.hid hN
  have HCC := Lib.hid hcc
  clear hstart
  clear hcc hv h43 hr hlen hkv hcv hnx hrx hny hry hxe hze hb hRa hnum hnn hn hN hB hst
  go_enter Tryd.func90, Tryd.ntmps90
  go_wp2_with fail
  try rw [hW1]
  try rw [hW2]
  try rw [hW3]
  clear hW1 hW2 hW3
  go_loopw [5] (fun iv wr => ∃ (j : Nat) (s1 : St) (er : Int) (cs1 : List Cel) (ca1 : Option Addr) (cc1 : Nat) (oa1 : Option Addr) (oc1 : Nat), j ≤ n + 1 ∧ iv = .int .i64 (j : Int) ∧ (er = 0 → j ≤ n ∧ whl F (kidE t 0) (kidX F inp t 1) (n - j) s1 = Ra) ∧ (er ≠ 0 → Ra = (s1, er)) ∧ celN cs1 = N ∧ cs1.length ≤ cc1 ∧
      Fx B cs.length w.heap.size W1.heap.size W2.heap.size y w t (some ⟨kb, ko, none⟩) c #[.slice ca1 cs1.length cc1, .slice ia inp.length ic, .slice oa1 s1.out.length oc1, .int .i64 (s1.rd : Int), .int .i64 (s1.st : Int), .int .i64 F, .int .i64 er] wr ∧ RSt B F inp wr s1 er cs1 y ca1 ia oa1 oc1) (fun iv _ => n + 2 - (intOf iv).toNat)
  case atStart => exact ⟨0, s, 0, cs, ca, cc, oa, oc, Nat.zero_le _, rfl, fun _ => ⟨Nat.zero_le _, HRR.out⟩, fun h => absurd rfl h, HNN.out, HCC.out, HFX.out, HST.out⟩
  case round =>
    obtain ⟨j, s1, er, cs1, ca1, cc1, oa1, oc1, hj, rfl, h0, h1, hn1, hcc1, hfx, hst1⟩ := hrel
    have hj0 : (0 : Int) ≤ (j : Int) := by omega
    have HN1 := Lib.hid hn1
    have HCC1 := Lib.hid hcc1
    have HFX1 : Hid (Fx B cs.length w.heap.size W1.heap.size W2.heap.size y w t (some ⟨kb, ko, none⟩) c #[.slice ca1 cs1.length cc1, .slice ia inp.length ic, .slice oa1 s1.out.length oc1, .int .i64 (s1.rd : Int), .int .i64 (s1.st : Int), .int .i64 F, .int .i64 er] wr) := hfx
    have HST1 : Hid (RSt B F inp wr s1 er cs1 y ca1 ia oa1 oc1) := hst1
    have HLEN := Lib.hid (celN_len (HN1.out.trans HNN.out.symm))
    obtain ⟨e0, e1, e2, e3, e4, e5, e6⟩ := env_cells hfx.x2
    clear hn1 hcc1 hfx hst1
    by_cases her : er = 0
    · subst her
      obtain ⟨hjn, hseq⟩ := h0 rfl
      rw [whl_eq] at hseq
      have HSEQ := Lib.hid hseq
      clear h0 h1 hseq
      by_cases hlt : (s1.st : Int) < F
      · obtain ⟨s2, hs2⟩ : ∃ s2, ({ s1 with st := s1.st + 1 } : St) = s2 := ⟨_, rfl⟩
        have HSTEP := Lib.hid (step16_lt hF hlt hs2 ca1 cs1.length cc1 ia inp.length ic oa1 oc1)
        have HRS : Hid (RSt B F inp wr s2 0 cs1 y ca1 ia oa1 oc1) := by show RSt _ _ _ _ _ _ _ _ _ _ _ _; rw [← hs2]; exact HST1.out.step hlt
        have HSEQ2 : Hid ((runE (x.ev s2.V s2.A) s2 fun x => if x = 0 then (s2, 0) else if n - j = 0 then (s2, 11) else (z.ex F inp s2).then (whl F (kidE t 0) (kidX F inp t 1) (n - j - 1))) = Ra) := by
          have h1 := HSEQ.out
          rw [stp_lt hlt, hs2] at h1
          rw [← HC.out, ← HY.out]
          exact h1
        clear hs2 hlt HSEQ
        go_wp2_with fail
        refine (HSTEP.out _).mono ?_
        rintro e E1 ⟨rfl, hB1⟩
        have HFS : Hid (Fx B cs.length w.heap.size W1.heap.size W2.heap.size y w t (some ⟨kb, ko, none⟩) c #[.slice ca1 cs1.length cc1, .slice ia inp.length ic, .slice oa1 s1.out.length oc1, .int .i64 (s1.rd : Int), .int .i64 (s1.st : Int), .int .i64 F, .int .i64 0] E1) := HFX1.out.keep hB1
        have HSS : Hid (RSt B F inp E1 s2 0 cs1 y ca1 ia oa1 oc1) := HRS.out.below hB1 HFX1.out.big
        clear hB1 e0 e1 e2 e3 e4 e5 e6
        obtain ⟨A0, hA0⟩ : ∃ R, set7 E1 W1.heap.size (.slice ca1 cs1.length cc1) (.slice ia inp.length ic) (.slice oa1 s2.out.length oc1) (.int .i64 (s2.rd : Int)) (.int .i64 (s2.st : Int)) (.int .i64 F) (.int .i64 0) = R := ⟨_, rfl⟩
        have HFX2 : Hid (Fx B cs.length w.heap.size W1.heap.size W2.heap.size y w t (some ⟨kb, ko, none⟩) c #[.slice ca1 cs1.length cc1, .slice ia inp.length ic, .slice oa1 s2.out.length oc1, .int .i64 (s2.rd : Int), .int .i64 (s2.st : Int), .int .i64 F, .int .i64 0] A0) := by show Fx _ _ _ _ _ _ _ _ _ _ _ _; rw [← hA0]; exact HFS.out.set _ _ _ _ _ _ _
        have HST2 : Hid (RSt B F inp A0 s2 0 cs1 y ca1 ia oa1 oc1) := by show RSt _ _ _ _ _ _ _ _ _ _ _ _; rw [← hA0]; exact HSS.out.fset HFS.out _ _ _ _ _ _ _
        obtain ⟨y0, y1, y2, y3, y4, y5, y6⟩ := env_cells HFS.out.x2
        obtain ⟨q0, q1, q2, q3, q4, q5, q6⟩ := env_free HFS.out.x2
        unfold set7 at hA0
        go_upto_region 5 with fail
        try rw [hA0]
        clear y0 y1 y2 y3 y4 y5 y6 q0 q1 q2 q3 q4 q5 q6 hA0
        obtain ⟨e0, e1, e2, e3, e4, e5, e6⟩ := env_cells HFX2.out.x2
        go_upto_region 7 with fail
        clear e0 e1 e2 e3 e4 e5 e6
        have HE := Lib.hid (refE_at (cc := cc1) (ci := xc) HCV.out HFX2.out HST2.out HIX.out)
        obtain ⟨v, hv⟩ : ∃ v, x.ev s2.V s2.A = v := ⟨_, rfl⟩
        have HEN := Lib.hid (fun k (h : x.ev s2.V s2.A = .er k) => ev_ne0 _ _ x k h)
        rw [hv] at HE HSEQ2 HEN
        clear hv
        have HCE : Hid (∀ V, Below A0.heap.size A0 V → Calls Tryd.prog 30 #[x.val xa xc, .slice ca1 cs1.length cc1] V (RefEQ v V)) := HE.out
        have hD0 : Below A0.heap.size A0 (World.drew A0) := (Below.refl _ _).drew
        refine wp_region_held_drew (S := fun w' => Below A0.heap.size A0 w') (by kernel_rfl) hD0 (fun hHeld => ?_)
        generalize hwd : World.drew A0 = V0 at hHeld hD0 ⊢
        clear hwd
        have HD0 := Lib.hid hD0
        clear hD0
        refine hT 0 (.pointer (some ⟨w.heap.size, 3, none⟩)) rfl (hy := ?_) (h := ?_)
        · intro w' hSw; go_simp
        (try simp only [Act.put, pA, pB, pD, pE, pF])
        refine hT 1 (.slice (some ⟨kb, ko, none⟩) t.len c) rfl (hy := ?_) (h := ?_)
        · intro w' hSw; obtain ⟨z0, z1, z2, z3⟩ := nd_cells (HFX2.out.keep hSw).x1; go_simp
        (try simp only [Act.put, pA, pB, pC, pD, pE, pF])
        refine hT 2 (.pointer (some ⟨kb, ko, none⟩)) rfl (hy := ?_) (h := ?_)
        · intro w' hSw; go_simp
        (try simp only [Act.put, pA, pB, pC, pD, pE, pF])
        refine hT 3 (x.val xa xc) rfl (hy := ?_) (h := ?_)
        · intro w' hSw; obtain ⟨z0, z1, z2, z3⟩ := HNX.out _ ((HFX2.out.keep hSw).fr.low); go_simp
        (try simp only [Act.put, pA, pB, pC, pD, pE, pF])
        refine hT 4 (.pointer (some ⟨W1.heap.size, 0, none⟩)) rfl (hy := ?_) (h := ?_)
        · intro w' hSw; go_simp
        (try simp only [Act.put, pA, pB, pC, pD, pE, pF])
        refine hT 5 (.slice ca1 cs1.length cc1) rfl (hy := ?_) (h := ?_)
        · intro w' hSw; obtain ⟨z0, z1, z2, z3, z4, z5, z6⟩ := env_cells (HFX2.out.keep hSw).x2; go_simp
        (try simp only [Act.put, pA, pB, pC, pD, pE, pF])
        refine rdH 6 rfl (fun K hK => ?_)
        go_simp
        refine (HCE.out V0 HD0.out).mono ?_
        rintro e E2 ⟨xv, rfl, hxW, hxy, hB2⟩
        have HBE := Lib.hid (mem_then HD0.out hB2)
        have HXW := Lib.hid hxW
        have HXY := Lib.hid hxy
        clear hB2 hxW hxy
        obtain ⟨kv, hkv⟩ : ∃ k, evK v = k := ⟨_, rfl⟩
        rw [hkv]
        have HKV := Lib.hid hkv
        clear hkv
        refine hK.out _ _ (HBE.out) (fun hHeld => ?_)
        clear hK K
        rename_i hOld
        clear hOld
        (try simp only [Act.put, pA, pB, pC, pD, pE, pF])
        refine hT 7 (.tuple #[.int .i32 xv, .int .i64 kv]) rfl (hy := ?_) (h := ?_)
        · intro w' hSw; go_simp
        (try simp only [Act.put, pA, pB, pC, pD, pE, pF])
        refine hT 8 (.int .i32 xv) rfl (hy := ?_) (h := ?_)
        · intro w' hSw; go_simp
        (try simp only [Act.put, pA, pB, pC, pD, pE, pF])
        refine hT 9 (.int .i64 kv) rfl (hy := ?_) (h := ?_)
        · intro w' hSw; go_simp
        (try simp only [Act.put, pA, pB, pC, pD, pE, pF])
        refine hT 10 (.int .i32 xv) rfl (hy := ?_) (h := ?_)
        · intro w' hSw; go_simp
        (try simp only [Act.put, pA, pB, pC, pD, pE, pF])
        refine hT 11 (.int .i64 kv) rfl (hy := ?_) (h := ?_)
        · intro w' hSw; go_simp
        (try simp only [Act.put, pA, pB, pC, pD, pE, pF])
        clear hHeld
        refine wpAnyH_done (by kernel_rfl) ?_ _
        have HFX3 : Hid (Fx B cs.length w.heap.size W1.heap.size W2.heap.size y w t (some ⟨kb, ko, none⟩) c #[.slice ca1 cs1.length cc1, .slice ia inp.length ic, .slice oa1 s2.out.length oc1, .int .i64 (s2.rd : Int), .int .i64 (s2.st : Int), .int .i64 F, .int .i64 0] E2) := HFX2.out.keep HBE.out
        have HST3 : Hid (RSt B F inp E2 s2 0 cs1 y ca1 ia oa1 oc1) := HST2.out.below HBE.out HFX2.out.big
        obtain ⟨e0, e1, e2, e3, e4, e5, e6⟩ := env_cells HFX3.out.x2
        cases v with
        | er k =>
          have hk0 : kv ≠ 0 := by
            rw [← HKV.out]
            exact HEN.out k rfl
          have hk1 : (kv == 0) = false := by simpa using hk0
          have HRES : Hid (Ra = (s2, kv)) := by show _ = _; rw [← HSEQ2.out, ← HKV.out]; rfl
          clear HSEQ2 HKV HEN HE HCE HXY
          obtain ⟨V, hV⟩ : ∃ V : World, E2.setCell ⟨W1.heap.size, 6, none⟩ (.int .i64 kv) = V := ⟨_, rfl⟩
          have HFX4 : Hid (Fx B cs.length w.heap.size W1.heap.size W2.heap.size y w t (some ⟨kb, ko, none⟩) c #[.slice ca1 cs1.length cc1, .slice ia inp.length ic, .slice oa1 s2.out.length oc1, .int .i64 (s2.rd : Int), .int .i64 (s2.st : Int), .int .i64 F, .int .i64 kv] V) := by show Fx _ _ _ _ _ _ _ _ _ _ _ _; rw [← hV]; exact HFX3.out.set1 6 _
          have HST4 : Hid (RSt B F inp V s2 kv cs1 y ca1 ia oa1 oc1) := by show RSt _ _ _ _ _ _ _ _ _ _ _ _; rw [← hV]; exact (HST3.out.err _).fset1 HFX3.out 6 _
          have f6 := mem_free HFX3.out.x2 6
          go_upto_region 10 with fail
          try rw [hV]
          clear f6 e0 e1 e2 e3 e4 e5 e6  hV
          obtain ⟨e0, e1, e2, e3, e4, e5, e6⟩ := env_cells HFX4.out.x2
          obtain ⟨R, hR⟩ : ∃ R, set7 V W2.heap.size (.slice ca1 cs1.length cc1) (.slice ia inp.length ic) (.slice oa1 s2.out.length oc1) (.int .i64 (s2.rd : Int)) (.int .i64 (s2.st : Int)) (.int .i64 F) (.int .i64 kv) = R := ⟨_, rfl⟩
          have HSR : Hid (RSt B F inp R s2 kv cs1 y ca1 ia oa1 oc1) := by show RSt _ _ _ _ _ _ _ _ _ _ _ _; rw [← hR]; exact HST4.out.fout HFX4.out _ _ _ _ _ _ _
          have HFO : Hid (FrR B cs.length y w R ∧ R.heap[W2.heap.size]? = some (envObj ca1 cs1.length cc1 ia inp.length ic oa1 s2.out.length oc1 (s2.rd : Int) (s2.st : Int) F kv)) := by show _ ∧ _; rw [← hR]; exact HFX4.out.fout _ _ _ _ _ _ _
          obtain ⟨y0, y1, y2, y3, y4, y5, y6⟩ := env_cells HFX4.out.x3
          obtain ⟨q0, q1, q2, q3, q4, q5, q6⟩ := env_free HFX4.out.x3
          unfold set7 at hR
          go_wp2_with fail
          try rw [hR]
          clear e0 e1 e2 e3 e4 e5 e6 y0 y1 y2 y3 y4 y5 y6 q0 q1 q2 q3 q4 q5 q6 hR
          obtain ⟨z0, z1, z2, z3, z4, z5, z6⟩ := env_cells HFO.out.2
          refine bodyPost_ret (v := envVal ca1 cs1.length cc1 ia inp.length ic oa1 s2.out.length oc1 (s2.rd : Int) (s2.st : Int) F kv) (by simp [results, Tryd.results90, go_sem, z0, z1, z2, z3, z4, z5, z6]) rfl ?_
          rw [HRES.out]
          exact ⟨cs1, ca1, cc1, oa1, oc1, rfl, HN1.out.trans HNN.out.symm, HCC1.out, HSR.out, HFO.out.1⟩
        | ok k =>
          obtain rfl : xv = k := HXY.out k rfl
          obtain rfl : (0 : Int) = kv := HKV.out
          clear HKV HEN HE HCE HXY
          by_cases hx0 : xv = 0
          · subst hx0
            have HRES : Hid (Ra = (s2, 0)) := by show _ = _; rw [← HSEQ2.out]; rfl
            obtain ⟨R, hR⟩ : ∃ R, set7 E2 W2.heap.size (.slice ca1 cs1.length cc1) (.slice ia inp.length ic) (.slice oa1 s2.out.length oc1) (.int .i64 (s2.rd : Int)) (.int .i64 (s2.st : Int)) (.int .i64 F) (.int .i64 0) = R := ⟨_, rfl⟩
            have HSR : Hid (RSt B F inp R s2 0 cs1 y ca1 ia oa1 oc1) := by show RSt _ _ _ _ _ _ _ _ _ _ _ _; rw [← hR]; exact HST3.out.fout HFX3.out _ _ _ _ _ _ _
            have HFO : Hid (FrR B cs.length y w R ∧ R.heap[W2.heap.size]? = some (envObj ca1 cs1.length cc1 ia inp.length ic oa1 s2.out.length oc1 (s2.rd : Int) (s2.st : Int) F 0)) := by show _ ∧ _; rw [← hR]; exact HFX3.out.fout _ _ _ _ _ _ _
            obtain ⟨y0, y1, y2, y3, y4, y5, y6⟩ := env_cells HFX3.out.x3
            obtain ⟨q0, q1, q2, q3, q4, q5, q6⟩ := env_free HFX3.out.x3
            unfold set7 at hR
            go_wp2_with fail
            try rw [hR]
            clear e0 e1 e2 e3 e4 e5 e6 y0 y1 y2 y3 y4 y5 y6 q0 q1 q2 q3 q4 q5 q6 hR
            obtain ⟨z0, z1, z2, z3, z4, z5, z6⟩ := env_cells HFO.out.2
            refine bodyPost_ret (v := envVal ca1 cs1.length cc1 ia inp.length ic oa1 s2.out.length oc1 (s2.rd : Int) (s2.st : Int) F 0) (by simp [results, Tryd.results90, go_sem, z0, z1, z2, z3, z4, z5, z6]) rfl ?_
            rw [HRES.out]
            exact ⟨cs1, ca1, cc1, oa1, oc1, rfl, HN1.out.trans HNN.out.symm, HCC1.out, HSR.out, HFO.out.1⟩
          · have hx1 : (xv == 0) = false := by simpa using hx0
            by_cases hjn2 : n - j = 0
            · have hge : t.num ≤ (j : Int) := by have := HNUM.out; omega
              have HRES : Hid (Ra = (s2, 11)) := by
                have h1 : (if xv = 0 then (s2, 0) else if n - j = 0 then (s2, 11) else (z.ex F inp s2).then (whl F (kidE t 0) (kidX F inp t 1) (n - j - 1))) = Ra := HSEQ2.out
                rw [if_neg hx0, if_pos hjn2] at h1
                exact h1.symm
              obtain ⟨t0, t1, t2, t3⟩ := nd_cells HFX3.out.x1
              obtain ⟨V, hV⟩ : ∃ V : World, E2.setCell ⟨W1.heap.size, 6, none⟩ (.int .i64 11) = V := ⟨_, rfl⟩
              have HFX4 : Hid (Fx B cs.length w.heap.size W1.heap.size W2.heap.size y w t (some ⟨kb, ko, none⟩) c #[.slice ca1 cs1.length cc1, .slice ia inp.length ic, .slice oa1 s2.out.length oc1, .int .i64 (s2.rd : Int), .int .i64 (s2.st : Int), .int .i64 F, .int .i64 11] V) := by show Fx _ _ _ _ _ _ _ _ _ _ _ _; rw [← hV]; exact HFX3.out.set1 6 _
              have HST4 : Hid (RSt B F inp V s2 11 cs1 y ca1 ia oa1 oc1) := by show RSt _ _ _ _ _ _ _ _ _ _ _ _; rw [← hV]; exact (HST3.out.err _).fset1 HFX3.out 6 _
              have f6 := mem_free HFX3.out.x2 6
              go_upto_region 15 with fail
              try rw [hV]
              clear f6 e0 e1 e2 e3 e4 e5 e6 t0 t1 t2 t3 hV
              obtain ⟨e0, e1, e2, e3, e4, e5, e6⟩ := env_cells HFX4.out.x2
              obtain ⟨R, hR⟩ : ∃ R, set7 V W2.heap.size (.slice ca1 cs1.length cc1) (.slice ia inp.length ic) (.slice oa1 s2.out.length oc1) (.int .i64 (s2.rd : Int)) (.int .i64 (s2.st : Int)) (.int .i64 F) (.int .i64 11) = R := ⟨_, rfl⟩
              have HSR : Hid (RSt B F inp R s2 11 cs1 y ca1 ia oa1 oc1) := by show RSt _ _ _ _ _ _ _ _ _ _ _ _; rw [← hR]; exact HST4.out.fout HFX4.out _ _ _ _ _ _ _
              have HFO : Hid (FrR B cs.length y w R ∧ R.heap[W2.heap.size]? = some (envObj ca1 cs1.length cc1 ia inp.length ic oa1 s2.out.length oc1 (s2.rd : Int) (s2.st : Int) F 11)) := by show _ ∧ _; rw [← hR]; exact HFX4.out.fout _ _ _ _ _ _ _
              obtain ⟨y0, y1, y2, y3, y4, y5, y6⟩ := env_cells HFX4.out.x3
              obtain ⟨q0, q1, q2, q3, q4, q5, q6⟩ := env_free HFX4.out.x3
              unfold set7 at hR
              go_wp2_with fail
              try rw [hR]
              clear e0 e1 e2 e3 e4 e5 e6 y0 y1 y2 y3 y4 y5 y6 q0 q1 q2 q3 q4 q5 q6 hR
              obtain ⟨z0, z1, z2, z3, z4, z5, z6⟩ := env_cells HFO.out.2
              refine bodyPost_ret (v := envVal ca1 cs1.length cc1 ia inp.length ic oa1 s2.out.length oc1 (s2.rd : Int) (s2.st : Int) F 11) (by simp [results, Tryd.results90, go_sem, z0, z1, z2, z3, z4, z5, z6]) rfl ?_
              rw [HRES.out]
              exact ⟨cs1, ca1, cc1, oa1, oc1, rfl, HN1.out.trans HNN.out.symm, HCC1.out, HSR.out, HFO.out.1⟩
            · have hge : ¬ t.num ≤ (j : Int) := by have := HNUM.out; omega
              obtain ⟨t0, t1, t2, t3⟩ := nd_cells HFX3.out.x1
              have HC2 := Lib.hid (HBO.out.at_ (cc := cc1) (ci := yc) HFX3.out HST3.out HN1.out HCC1.out HIZ.out)
              have HSEQ3 : Hid ((z.ex F inp s2).then (whl F (kidE t 0) (kidX F inp t 1) (n - j - 1)) = Ra) := by
                have h1 : (if xv = 0 then (s2, 0) else if n - j = 0 then (s2, 11) else (z.ex F inp s2).then (whl F (kidE t 0) (kidX F inp t 1) (n - j - 1))) = Ra := HSEQ2.out
                rw [if_neg hx0, if_neg hjn2] at h1
                exact h1
              obtain ⟨⟨s3, er3⟩, hr3⟩ : ∃ r, z.ex F inp s2 = r := ⟨_, rfl⟩
              rw [hr3] at HC2 HSEQ3
              have HCB : Hid (∀ V, Below E2.heap.size E2 V → Calls Tryd.prog 41 #[z.val ya yc, envVal ca1 cs1.length cc1 ia inp.length ic oa1 s2.out.length oc1 (s2.rd : Int) (s2.st : Int) F 0] V (RQ B F inp cs1 y ia ic V (s3, er3))) := HC2.out
              clear hr3 HC2 HSEQ2
              go_upto_region 16 with fail
              clear t0 t1 t2 t3 e0 e1 e2 e3 e4 e5 e6
              have hD0 : Below E2.heap.size E2 (World.drew E2) := (Below.refl _ _).drew
              refine wp_region_z 6 (S := fun w' => Fx B cs.length w.heap.size W1.heap.size W2.heap.size y w t (some ⟨kb, ko, none⟩) c #[.slice ca1 cs1.length cc1, .slice ia inp.length ic, .slice oa1 s2.out.length oc1, .int .i64 (s2.rd : Int), .int .i64 (s2.st : Int), .int .i64 F, .int .i64 0] w') (by kernel_rfl) (HFX3.out.keep hD0) (fun hHeld => ?_)
              generalize hwd : World.drew E2 = V1 at hHeld hD0 ⊢
              clear hwd
              have HD0 := Lib.hid hD0
              clear hD0
              refine zT 0 (.pointer (some ⟨w.heap.size, 3, none⟩)) rfl (hy := ?_) (h := ?_)
              · intro w' hSw; go_simp
              (try simp only [Act.put, pA, pB, pD, pE, pF])
              refine zT 1 (.slice (some ⟨kb, ko, none⟩) t.len c) rfl (hy := ?_) (h := ?_)
              · intro w' hSw; obtain ⟨z0, z1, z2, z3⟩ := nd_cells hSw.x1; go_simp
              (try simp only [Act.put, pA, pB, pC, pD, pE, pF])
              refine zT 2 (.pointer (some ⟨kb, ko + 4, none⟩)) rfl (hy := ?_) (h := ?_)
              · intro w' hSw; go_simp
              (try simp only [Act.put, pA, pB, pC, pD, pE, pF])
              refine zT 3 (z.val ya yc) rfl (hy := ?_) (h := ?_)
              · intro w' hSw; obtain ⟨z0, z1, z2, z3⟩ := HNZ.out _ hSw.fr.low; go_simp
              (try simp only [Act.put, pA, pB, pC, pD, pE, pF])
              refine zT 4 (envVal ca1 cs1.length cc1 ia inp.length ic oa1 s2.out.length oc1 (s2.rd : Int) (s2.st : Int) F 0) rfl (hy := ?_) (h := ?_)
              · intro w' hSw; obtain ⟨z0, z1, z2, z3, z4, z5, z6⟩ := env_cells hSw.x2; go_simp
              (try simp only [Act.put, pA, pB, pC, pD, pE, pF])
              refine zR 5 rfl (fun K hK => ?_)
              go_simp
              refine (HCB.out V1 HD0.out).mono ?_
              rintro e E3 ⟨cs3, ca3, cc3, oa3, oc3, rfl, hn2, hcc2, hst2, hfr2⟩
              have HFE : Hid (Fx B cs.length w.heap.size W1.heap.size W2.heap.size y w t (some ⟨kb, ko, none⟩) c #[.slice ca1 cs1.length cc1, .slice ia inp.length ic, .slice oa1 s2.out.length oc1, .int .i64 (s2.rd : Int), .int .i64 (s2.st : Int), .int .i64 F, .int .i64 0] E3) := (HFX3.out.keep HD0.out).call (by rw [← HLEN.out]; exact hfr2)
              have HN2 := Lib.hid (hn2.trans HN1.out)
              have HCC2 := Lib.hid hcc2
              have HS2 : Hid (RSt B F inp E3 s3 er3 cs3 y ca3 ia oa3 oc3) := hst2
              clear hn2 hcc2 hst2 hfr2
              refine hK.out _ _ (HFE.out) (fun hHeld => ?_)
              clear hK K
              rename_i hOld
              clear hOld
              (try simp only [Act.put, pA, pB, pC, pD, pE, pF])
              obtain ⟨R0, hR0⟩ : ∃ R, set7 E3 W1.heap.size (.slice ca3 cs3.length cc3) (.slice ia inp.length ic) (.slice oa3 s3.out.length oc3) (.int .i64 (s3.rd : Int)) (.int .i64 (s3.st : Int)) (.int .i64 F) (.int .i64 er3) = R := ⟨_, rfl⟩
              have HFX5 : Hid (Fx B cs.length w.heap.size W1.heap.size W2.heap.size y w t (some ⟨kb, ko, none⟩) c #[.slice ca3 cs3.length cc3, .slice ia inp.length ic, .slice oa3 s3.out.length oc3, .int .i64 (s3.rd : Int), .int .i64 (s3.st : Int), .int .i64 F, .int .i64 er3] R0) := by show Fx _ _ _ _ _ _ _ _ _ _ _ _; rw [← hR0]; exact HFE.out.set _ _ _ _ _ _ _
              have HST5 : Hid (RSt B F inp R0 s3 er3 cs3 y ca3 ia oa3 oc3) := by show RSt _ _ _ _ _ _ _ _ _ _ _ _; rw [← hR0]; exact HS2.out.fset HFE.out _ _ _ _ _ _ _
              obtain ⟨y0, y1, y2, y3, y4, y5, y6⟩ := env_cells HFE.out.x2
              obtain ⟨q0, q1, q2, q3, q4, q5, q6⟩ := env_free HFE.out.x2
              unfold set7 at hR0
              refine wpAnyZ_ready (rs := [6]) (by kernel_rfl) (by simp) (AllReadyZ.last rfl (by decide) (fun K hK => ?_) AllReadyZ.nil)
              go_simp
              refine hK.out _ _ ?_
              clear hK K
              (try simp only [Act.put, pA, pB, pC, pD, pE, pF])
              try rw [hR0]
              clear y0 y1 y2 y3 y4 y5 y6 q0 q1 q2 q3 q4 q5 q6 hHeld hR0
              refine wpAnyZ_done (by kernel_rfl) ?_ _
              go_wp2_with fail
              go_roundw
              case rel =>
                refine ⟨j + 1, s3, er3, cs3, ca3, cc3, oa3, oc3, by omega, by go_num, fun h => ⟨by omega, ?_⟩, fun h => ?_, HN2.out, HCC2.out, HFX5.out, HST5.out⟩
                · rw [← HSEQ3.out, SR.then_ok (r := (s3, er3)) h, Nat.sub_sub]
                · rw [← HSEQ3.out, SR.then_er (r := (s3, er3)) h]
              case measure => simp [intOf]; omega
      · have HSTEP := Lib.hid (step16_ge hF (s := s1) (by omega) ca1 cs1.length cc1 ia inp.length ic oa1 oc1)
        have HRES : Hid (Ra = (s1, 13)) := by
          show _ = _
          rw [← HSEQ.out, stp_ge (by omega)]; exact SR.then_er (by show (13 : Int) ≠ 0; decide)
        clear hlt HSEQ
        go_wp2_with fail
        refine (HSTEP.out _).mono ?_
        rintro e E1 ⟨rfl, hB1⟩
        have HFS : Hid (Fx B cs.length w.heap.size W1.heap.size W2.heap.size y w t (some ⟨kb, ko, none⟩) c #[.slice ca1 cs1.length cc1, .slice ia inp.length ic, .slice oa1 s1.out.length oc1, .int .i64 (s1.rd : Int), .int .i64 (s1.st : Int), .int .i64 F, .int .i64 0] E1) := HFX1.out.keep hB1
        have HSS : Hid (RSt B F inp E1 s1 13 cs1 y ca1 ia oa1 oc1) := (HST1.out.err 13).below hB1 HFX1.out.big
        clear hB1 e0 e1 e2 e3 e4 e5 e6
        obtain ⟨A0, hA0⟩ : ∃ R, set7 E1 W1.heap.size (.slice ca1 cs1.length cc1) (.slice ia inp.length ic) (.slice oa1 s1.out.length oc1) (.int .i64 (s1.rd : Int)) (.int .i64 (s1.st : Int)) (.int .i64 F) (.int .i64 13) = R := ⟨_, rfl⟩
        have HFX2 : Hid (Fx B cs.length w.heap.size W1.heap.size W2.heap.size y w t (some ⟨kb, ko, none⟩) c #[.slice ca1 cs1.length cc1, .slice ia inp.length ic, .slice oa1 s1.out.length oc1, .int .i64 (s1.rd : Int), .int .i64 (s1.st : Int), .int .i64 F, .int .i64 13] A0) := by show Fx _ _ _ _ _ _ _ _ _ _ _ _; rw [← hA0]; exact HFS.out.set _ _ _ _ _ _ _
        have HST2 : Hid (RSt B F inp A0 s1 13 cs1 y ca1 ia oa1 oc1) := by show RSt _ _ _ _ _ _ _ _ _ _ _ _; rw [← hA0]; exact HSS.out.fset HFS.out _ _ _ _ _ _ _
        obtain ⟨y0, y1, y2, y3, y4, y5, y6⟩ := env_cells HFS.out.x2
        obtain ⟨q0, q1, q2, q3, q4, q5, q6⟩ := env_free HFS.out.x2
        unfold set7 at hA0
        go_upto_region 5 with fail
        try rw [hA0]
        clear y0 y1 y2 y3 y4 y5 y6 q0 q1 q2 q3 q4 q5 q6 hA0
        obtain ⟨e0, e1, e2, e3, e4, e5, e6⟩ := env_cells HFX2.out.x2
        obtain ⟨R, hR⟩ : ∃ R, set7 A0 W2.heap.size (.slice ca1 cs1.length cc1) (.slice ia inp.length ic) (.slice oa1 s1.out.length oc1) (.int .i64 (s1.rd : Int)) (.int .i64 (s1.st : Int)) (.int .i64 F) (.int .i64 13) = R := ⟨_, rfl⟩
        have HSR : Hid (RSt B F inp R s1 13 cs1 y ca1 ia oa1 oc1) := by show RSt _ _ _ _ _ _ _ _ _ _ _ _; rw [← hR]; exact HST2.out.fout HFX2.out _ _ _ _ _ _ _
        have HFO : Hid (FrR B cs.length y w R ∧ R.heap[W2.heap.size]? = some (envObj ca1 cs1.length cc1 ia inp.length ic oa1 s1.out.length oc1 (s1.rd : Int) (s1.st : Int) F 13)) := by show _ ∧ _; rw [← hR]; exact HFX2.out.fout _ _ _ _ _ _ _
        obtain ⟨y0, y1, y2, y3, y4, y5, y6⟩ := env_cells HFX2.out.x3
        obtain ⟨q0, q1, q2, q3, q4, q5, q6⟩ := env_free HFX2.out.x3
        unfold set7 at hR
        go_wp2_with fail
        try rw [hR]
        clear e0 e1 e2 e3 e4 e5 e6 y0 y1 y2 y3 y4 y5 y6 q0 q1 q2 q3 q4 q5 q6 hR
        obtain ⟨z0, z1, z2, z3, z4, z5, z6⟩ := env_cells HFO.out.2
        refine bodyPost_ret (v := envVal ca1 cs1.length cc1 ia inp.length ic oa1 s1.out.length oc1 (s1.rd : Int) (s1.st : Int) F 13) (by simp [results, Tryd.results90, go_sem, z0, z1, z2, z3, z4, z5, z6]) rfl ?_
        rw [HRES.out]
        exact ⟨cs1, ca1, cc1, oa1, oc1, rfl, HN1.out.trans HNN.out.symm, HCC1.out, HSR.out, HFO.out.1⟩
    · have her1 : (er == 0) = false := by simpa using her
      have HRES := Lib.hid (h1 her)
      clear h0 h1 her
      obtain ⟨R, hR⟩ : ∃ R, set7 wr W2.heap.size (.slice ca1 cs1.length cc1) (.slice ia inp.length ic) (.slice oa1 s1.out.length oc1) (.int .i64 (s1.rd : Int)) (.int .i64 (s1.st : Int)) (.int .i64 F) (.int .i64 er) = R := ⟨_, rfl⟩
      have HSR : Hid (RSt B F inp R s1 er cs1 y ca1 ia oa1 oc1) := by show RSt _ _ _ _ _ _ _ _ _ _ _ _; rw [← hR]; exact HST1.out.fout HFX1.out _ _ _ _ _ _ _
      have HFO : Hid (FrR B cs.length y w R ∧ R.heap[W2.heap.size]? = some (envObj ca1 cs1.length cc1 ia inp.length ic oa1 s1.out.length oc1 (s1.rd : Int) (s1.st : Int) F er)) := by show _ ∧ _; rw [← hR]; exact HFX1.out.fout _ _ _ _ _ _ _
      obtain ⟨y0, y1, y2, y3, y4, y5, y6⟩ := env_cells HFX1.out.x3
      obtain ⟨q0, q1, q2, q3, q4, q5, q6⟩ := env_free HFX1.out.x3
      unfold set7 at hR
      go_wp2_with fail
      try rw [hR]
      clear e0 e1 e2 e3 e4 e5 e6 y0 y1 y2 y3 y4 y5 y6 q0 q1 q2 q3 q4 q5 q6 hR
      obtain ⟨z0, z1, z2, z3, z4, z5, z6⟩ := env_cells HFO.out.2
      refine bodyPost_ret (v := envVal ca1 cs1.length cc1 ia inp.length ic oa1 s1.out.length oc1 (s1.rd : Int) (s1.st : Int) F er) (by simp [results, Tryd.results90, go_sem, z0, z1, z2, z3, z4, z5, z6]) rfl ?_
      rw [HRES.out]
      exact ⟨cs1, ca1, cc1, oa1, oc1, rfl, HN1.out.trans HNN.out.symm, HCC1.out, HSR.out, HFO.out.1⟩
end Go.Proofs.YtgochgcchkdlmaaDoor

/-
  Contract: count (package ontimeref16), out of what its block does. Printed by wip/gen_r16.py.
-/
namespace Go.Proofs.YtgochgcchkdlmaaDoor
set_option linter.unusedVariables false
set_option linter.unusedSimpArgs false
open Go.RowKit Go.Maps
set_option maxRecDepth 100000
set_option maxHeartbeats 80000000

theorem count16_of {B : Nat} {F : Int} {inp : List Int} {ia : Option Addr} {ic : Nat} {N : List (ByteArray × Bool)} {y : Nat → Value} (t : Tree) (hF : F ≤ 10000000) (hv : t.vld 115 = true) (h42 : t.kind = 42) (hno : (t.name, false) ∉ N) (hlN : N.length < 1000000)
    (hb : ∀ y', SOk B F inp ia ic (N ++ [(t.name, false)]) y' 41 (t.kid 0) ((t.kid 0).ex F inp)) : SOk B F inp ia ic N y 89 t (fun s => (seqTo (forR F t.name (kidX F inp t 0)) t.num.toNat s).then fun s1 => (s1.putV t.name none, 0)) := by
  intro w s cs ca cc oa oc a c hN hcc hB hr hst
  obtain ⟨_, hnum, hlen, hkv⟩ := vldS hv
  rw [h42] at hlen hkv hnum
  replace hlen : t.len = 1 := hlen
  replace hnum : (1 : Int) ≤ t.num ∧ t.num ≤ 1000 := hnum
  obtain ⟨n, hn⟩ : ∃ n : Nat, t.num = (n : Int) := ⟨t.num.toNat, by omega⟩
  have hnn : t.num.toNat = n := by omega
  rw [hnn]
  have HNUM := Lib.hid hn
  have hn1000 : n ≤ 1000 := by omega
  have hl0 : 0 < t.len := by omega
  have hl0i : (0 : Int) < (t.len : Int) := by omega
  have hlf := hr.fits.len
  have HNS := Lib.hid hr.fits.name
  obtain ⟨kb, ko, rfl, hkb, ya, yc, hny, hry⟩ := kid_in hr hl0
  rw [Nat.zero_mul, Nat.add_zero] at hny
  obtain ⟨z, hze⟩ : ∃ z, t.kid 0 = z := ⟨_, rfl⟩
  rw [hze] at hny hry hb
  have HY : Hid (∀ s1, kidX F inp t 0 s1 = z.ex F inp s1) := fun s1 => by unfold kidX; rw [if_pos hl0, hze]
  have HBO := Lib.hid hb
  have HIZ : Hid (InB B w z ya) := hry
  have HNZ : Hid (∀ w', Below B w w' → NodeAt w' kb ko z ya yc) := fun w' hw => hny.below hw hkb
  have HNO : Hid (∀ cs1, celN cs1 = N → ¬ Has cs1 t.name false) := fun cs1 h1 h2 => hno (by rw [← h1]; exact h2.mem)
  have HLC : Hid (cs.length < 1000000) := by show cs.length < 1000000; rw [← hN] at hlN; unfold celN at hlN; simpa using hlN
  obtain ⟨Ra, hRa⟩ : ∃ R, ((seqTo (forR F t.name (kidX F inp t 0)) n s).then fun s1 => (s1.putV t.name none, 0)) = R := ⟨_, rfl⟩
  show Calls _ _ _ _ (RQ B F inp cs y ia ic w ((seqTo (forR F t.name (kidX F inp t 0)) n s).then fun s1 => (s1.putV t.name none, 0)))
  rw [hRa]
  have HRR := Lib.hid hRa
  obtain ⟨q0, hq, qz0, qz1, qz2⟩ := info_parts cel_info
  obtain ⟨W1, hW1⟩ : ∃ W : World, w.alloc (ndObj t (some ⟨kb, ko, none⟩) c) = W := ⟨_, rfl⟩
  obtain ⟨W2, hW2⟩ : ∃ W : World, W1.alloc (envObj ca cs.length cc ia inp.length ic oa s.out.length oc (s.rd : Int) (s.st : Int) F 0) = W := ⟨_, rfl⟩
  obtain ⟨W3, hW3⟩ : ∃ W : World, W2.alloc (envObj none 0 0 none 0 0 none 0 0 0 0 0 0) = W := ⟨_, rfl⟩
  have hstart := Fx.start hB hst t (some ⟨kb, ko, none⟩) c #[.slice ca cs.length cc, .slice ia inp.length ic, .slice oa s.out.length oc, .int .i64 (s.rd : Int), .int .i64 (s.st : Int), .int .i64 F, .int .i64 0] hW1 hW2 hW3
  have HFX : Hid (Fx B cs.length w.heap.size W1.heap.size W2.heap.size y w t (some ⟨kb, ko, none⟩) c #[.slice ca cs.length cc, .slice ia inp.length ic, .slice oa s.out.length oc, .int .i64 (s.rd : Int), .int .i64 (s.st : Int), .int .i64 F, .int .i64 0] W3) := hstart.1
  have HST : Hid (RSt B F inp W3 s 0 cs y ca ia oa oc) := hstart.2.1
  have HNN := Lib.hid hN
  have HCC := Lib.hid hcc
  clear hstart
  clear hcc hv h42 hr hlen hkv hny hry hze hb hRa hnum hnn hn hN hB hst hno hlN
  go_enter Tryd.func89, Tryd.ntmps89
  go_upto_region 1 with fail
  try rw [hW1]
  try rw [hW2]
  try rw [hW3]
  clear hW1 hW2 hW3
  obtain ⟨e0, e1, e2, e3, e4, e5, e6⟩ := env_cells HFX.out.x2
  go_wp2_with fail
  clear e0 e1 e2 e3 e4 e5 e6
  go_loopw [6] (fun iv wr => ∃ (j : Nat) (s1 : St) (er : Int) (cs1 : List Cel) (ca1 : Option Addr) (cc1 : Nat) (oa1 : Option Addr) (oc1 : Nat), j ≤ n ∧ iv = .int .i64 (j : Int) ∧ seqTo (forR F t.name (kidX F inp t 0)) j s = (s1, er) ∧ (er = 0 → upd s1.V t.name none = celV cs1) ∧ celN cs1 = N ∧ cs1.length ≤ cc1 ∧
      Fx B cs.length w.heap.size W1.heap.size W2.heap.size y w t (some ⟨kb, ko, none⟩) c #[.slice ca1 cs1.length cc1, .slice ia inp.length ic, .slice oa1 s1.out.length oc1, .int .i64 (s1.rd : Int), .int .i64 (s1.st : Int), .int .i64 F, .int .i64 er] wr ∧ RSt B F inp wr s1 1 cs1 y ca1 ia oa1 oc1) (fun iv _ => n - (intOf iv).toNat)
  case atStart => exact ⟨0, s, 0, cs, ca, cc, oa, oc, Nat.zero_le _, rfl, rfl, fun _ => by rw [HST.out.V rfl]; exact celV_no (HNO.out _ HNN.out), HNN.out, HCC.out, HFX.out, HST.out.any (fun h => absurd h (by decide))⟩
  case round =>
    obtain ⟨j, s1, er, cs1, ca1, cc1, oa1, oc1, hj, rfl, hseq, hV1, hn1, hcc1, hfx, hst1⟩ := hrel
    have hj0 : (0 : Int) ≤ (j : Int) := by omega
    have HSEQ := Lib.hid hseq
    have HV1 := Lib.hid hV1
    have HN1 := Lib.hid hn1
    have HCC1 := Lib.hid hcc1
    have HFX1 : Hid (Fx B cs.length w.heap.size W1.heap.size W2.heap.size y w t (some ⟨kb, ko, none⟩) c #[.slice ca1 cs1.length cc1, .slice ia inp.length ic, .slice oa1 s1.out.length oc1, .int .i64 (s1.rd : Int), .int .i64 (s1.st : Int), .int .i64 F, .int .i64 er] wr) := hfx
    have HST1 : Hid (RSt B F inp wr s1 1 cs1 y ca1 ia oa1 oc1) := hst1
    have HLEN := Lib.hid (celN_len (HN1.out.trans HNN.out.symm))
    obtain ⟨e0, e1, e2, e3, e4, e5, e6⟩ := env_cells hfx.x2
    obtain ⟨t0, t1, t2, t3⟩ := nd_cells hfx.x1
    clear hseq hV1 hn1 hcc1 hfx hst1
    by_cases hgo : j < n ∧ er = 0
    · obtain ⟨hjn, rfl⟩ := hgo
      have hj2 : (j : Int) < t.num := by have := HNUM.out; omega
      by_cases hlt : (s1.st : Int) < F
      · obtain ⟨p, hp⟩ : ∃ p, s1.putV t.name (some (j : Int)) = p := ⟨_, rfl⟩
        obtain ⟨s2, hs2⟩ : ∃ s2, ({ p with st := p.st + 1 } : St) = s2 := ⟨_, rfl⟩
        have hltp : (p.st : Int) < F := by rw [← hp]; exact hlt
        have hss := step16_lt hF hltp hs2 ca1 cs1.length cc1 ia inp.length ic oa1 oc1
        have HSTEP : Hid (∀ V, Calls Tryd.prog 88 #[envVal ca1 cs1.length cc1 ia inp.length ic oa1 s1.out.length oc1 (s1.rd : Int) (s1.st : Int) F 0] V fun e w' => e = .returned (envVal ca1 cs1.length cc1 ia inp.length ic oa1 s2.out.length oc1 (s2.rd : Int) (s2.st : Int) F 0) ∧ Below V.heap.size V w') := by
          show ∀ V, _
          rw [← hp] at hss
          exact hss
        have HRS : Hid (RSt B F inp wr s2 1 cs1 y ca1 ia oa1 oc1) := by show RSt _ _ _ _ _ _ _ _ _ _ _ _; rw [← hs2, ← hp]; exact (HST1.out.putV t.name (some (j : Int))).step1 hlt
        have HV2 : Hid (s2.V = celV (cs1 ++ [(⟨t.name, false, [(j : Int)]⟩ : Cel)]) ∧ s2.A = celA (cs1 ++ [(⟨t.name, false, [(j : Int)]⟩ : Cel)])) := by
          refine ⟨?_, ?_⟩
          · rw [celV_add, ← HV1.out rfl, ← hs2, ← hp]
            show upd s1.V _ _ = upd (upd s1.V _ _) _ _
            exact (upd_upd16 _ _ _ _).symm
          · rw [celA_add, ← hs2, ← hp]; exact HST1.out.A
        have HNX : Hid (seqTo (forR F t.name (kidX F inp t 0)) (j + 1) s = z.ex F inp s2) := by
          show _ = _; rw [seqTo_next HSEQ.out]; unfold forR; rw [hp, stp_lt hltp, hs2, SR.then_ok rfl, HY.out]
        clear hs2 hlt hltp hss hp p
        go_wp2_with fail
        refine (HSTEP.out _).mono ?_
        rintro e E1 ⟨rfl, hB1⟩
        have HFS : Hid (Fx B cs.length w.heap.size W1.heap.size W2.heap.size y w t (some ⟨kb, ko, none⟩) c #[.slice ca1 cs1.length cc1, .slice ia inp.length ic, .slice oa1 s1.out.length oc1, .int .i64 (s1.rd : Int), .int .i64 (s1.st : Int), .int .i64 F, .int .i64 0] E1) := HFX1.out.keep hB1
        have HSS : Hid (RSt B F inp E1 s2 1 cs1 y ca1 ia oa1 oc1) := HRS.out.below hB1 HFX1.out.big
        clear hB1 t0 t1 t2 t3 e0 e1 e2 e3 e4 e5 e6
        obtain ⟨A0, hA0⟩ : ∃ R, set7 E1 W1.heap.size (.slice ca1 cs1.length cc1) (.slice ia inp.length ic) (.slice oa1 s2.out.length oc1) (.int .i64 (s2.rd : Int)) (.int .i64 (s2.st : Int)) (.int .i64 F) (.int .i64 0) = R := ⟨_, rfl⟩
        have HFX2 : Hid (Fx B cs.length w.heap.size W1.heap.size W2.heap.size y w t (some ⟨kb, ko, none⟩) c #[.slice ca1 cs1.length cc1, .slice ia inp.length ic, .slice oa1 s2.out.length oc1, .int .i64 (s2.rd : Int), .int .i64 (s2.st : Int), .int .i64 F, .int .i64 0] A0) := by show Fx _ _ _ _ _ _ _ _ _ _ _ _; rw [← hA0]; exact HFS.out.set _ _ _ _ _ _ _
        have HST2 : Hid (RSt B F inp A0 s2 1 cs1 y ca1 ia oa1 oc1) := by show RSt _ _ _ _ _ _ _ _ _ _ _ _; rw [← hA0]; exact HSS.out.fset HFS.out _ _ _ _ _ _ _
        obtain ⟨y0, y1, y2, y3, y4, y5, y6⟩ := env_cells HFS.out.x2
        obtain ⟨q0, q1, q2, q3, q4, q5, q6⟩ := env_free HFS.out.x2
        unfold set7 at hA0
        go_upto_region 6 with fail
        try rw [hA0]
        clear y0 y1 y2 y3 y4 y5 y6 q0 q1 q2 q3 q4 q5 q6 hA0
        obtain ⟨e0, e1, e2, e3, e4, e5, e6⟩ := env_cells HFX2.out.x2
        go_upto_region 8 with fail
        clear e0 e1 e2 e3 e4 e5 e6
        have hcl : cs.length ≤ cc1 := by rw [← HLEN.out]; exact HCC1.out
        have hcl2 : (cs.length : Int) ≤ (cc1 : Int) := by omega
        have hcl3 : (0 : Int) ≤ (cs.length : Int) := by omega
        have hD0 : Below A0.heap.size A0 (World.drew A0) := (Below.refl _ _).drew
        refine wp_region_z 14 (S := fun w' => Fx B cs.length w.heap.size W1.heap.size W2.heap.size y w t (some ⟨kb, ko, none⟩) c #[.slice ca1 cs1.length cc1, .slice ia inp.length ic, .slice oa1 s2.out.length oc1, .int .i64 (s2.rd : Int), .int .i64 (s2.st : Int), .int .i64 F, .int .i64 0] w' ∧ Below A0.heap.size A0 w') (by kernel_rfl) ⟨HFX2.out.keep hD0, hD0⟩ (fun hHeld => ?_)
        generalize hwd : World.drew A0 = V0 at hHeld hD0 ⊢
        clear hwd
        have HD0 := Lib.hid hD0
        clear hD0
        refine zT 0 (.pointer (some ⟨W1.heap.size, 0, none⟩)) rfl (hy := ?_) (h := ?_)
        · intro w' hSw; go_simp
        (try simp only [Act.put, pA, pB, pD, pE, pF])
        refine zT 1 (.slice ca1 cs1.length cc1) rfl (hy := ?_) (h := ?_)
        · intro w' hSw; obtain ⟨z0, z1, z2, z3, z4, z5, z6⟩ := env_cells hSw.1.x2; go_simp
        (try simp only [Act.put, pA, pB, pC, pD, pE, pF])
        refine zT 2 (.int .i64 (cs.length : Int)) rfl (hy := ?_) (h := ?_)
        · intro w' hSw; go_simp
        (try simp only [Act.put, pA, pB, pC, pD, pE, pF])
        refine zT 3 (.int .i64 (cs.length : Int)) rfl (hy := ?_) (h := ?_)
        · intro w' hSw; go_simp
        (try simp only [Act.put, pA, pB, pC, pD, pE, pF])
        refine zT 4 (.slice ca1 cs.length cs.length) rfl (hy := ?_) (h := ?_)
        · intro w' hSw; go_simp; (first | done | rw [addr_same] | exact addr_same _ _)
        (try simp only [Act.put, pA, pB, pC, pD, pE, pF])
        refine zT 5 (.pointer (some ⟨w.heap.size, 2, none⟩)) rfl (hy := ?_) (h := ?_)
        · intro w' hSw; go_simp
        (try simp only [Act.put, pA, pB, pC, pD, pE, pF])
        refine zT 6 (.string t.name) rfl (hy := ?_) (h := ?_)
        · intro w' hSw; obtain ⟨_, _, z0, _⟩ := nd_cells hSw.1.x1; go_simp
        (try simp only [Act.put, pA, pB, pC, pD, pE, pF])
        refine zT 7 (.int .i64 (j : Int)) rfl (hy := ?_) (h := ?_)
        · intro w' hSw; go_simp
        (try simp only [Act.put, pA, pB, pC, pD, pE, pF])
        refine zT 8 (.int .i32 (j : Int)) rfl (hy := ?_) (h := ?_)
        · intro w' hSw; go_simp; (first | done | (rw [IntKind.wrap_i32]; omega) | omega)
        (try simp only [Act.put, pA, pB, pC, pD, pE, pF])
        refine zR 9 rfl (fun K hK => ?_)
        go_simp
        obtain ⟨W8, hW8⟩ : ∃ W : World, V0.alloc (.cells #[.int .i32 (j : Int)] 21) = W := ⟨_, rfl⟩
        rw [hW8]
        have HB8 : Hid (Below V0.heap.size V0 W8) := by show Below _ _ _; rw [← hW8]; exact mem_alloc _ _
        have HX8 : Hid (W8.heap[V0.heap.size]? = some (.cells #[.int .i32 (j : Int)] 21)) := by show _ = _; rw [← hW8]; exact mem_new _ _
        clear hW8
        refine hK.out _ _ (⟨HFX2.out.keep (mem_then HD0.out HB8.out), mem_then HD0.out HB8.out⟩) (fun hHeld => ?_)
        clear hK K
        rename_i hOld
        clear hOld
        (try simp only [Act.put, pA, pB, pC, pD, pE, pF])
        refine zT 10 (.agg #[.string t.name, .bool false, .slice (some ⟨V0.heap.size, 0, none⟩) 1 1]) rfl (hy := ?_) (h := ?_)
        · intro w' hSw; go_simp
        (try simp only [Act.put, pA, pB, pC, pD, pE, pF])
        refine zR 11 rfl (fun K hK => ?_)
        go_simp
        obtain ⟨W9, hW9⟩ : ∃ W : World, W8.alloc (.cells #[.string t.name, .bool false, .slice (some ⟨V0.heap.size, 0, none⟩) 1 1] 54) = W := ⟨_, rfl⟩
        rw [hW9]
        have HB9 : Hid (Below W8.heap.size W8 W9) := by show Below _ _ _; rw [← hW9]; exact mem_alloc _ _
        have HX9 : Hid (W9.heap[W8.heap.size]? = some (.cells #[.string t.name, .bool false, .slice (some ⟨V0.heap.size, 0, none⟩) 1 1] 54)) := by show _ = _; rw [← hW9]; exact mem_new _ _
        clear hW9
        have HB09 := Lib.hid (mem_then HD0.out (mem_then HB8.out HB9.out))
        refine hK.out _ _ (⟨HFX2.out.keep HB09.out, HB09.out⟩) (fun hHeld => ?_)
        clear hK K
        rename_i hOld
        clear hOld
        (try simp only [Act.put, pA, pB, pC, pD, pE, pF])
        refine zR 12 rfl (fun K hK => ?_)
        have HSC := Lib.hid (HST2.out.own.below HB09.out)
        have HAL := Lib.hid (Nat.le_trans HFX2.out.big HB09.out.size)
        have hsrc : Src W9 ca1 cs.length 3 (cwL cs1 y) := by rw [← HLEN.out]; exact HSC.out.src
        have HLC' := Lib.hid HLC.out
        refine step_append_full _ rfl (.tmp 31) (.tmp 38) 43 rfl B 54 q0 _ 3 48 Tryd.underlying43 hq qz0 qz1 qz2 rfl ca1 cs.length (cwL cs1 y) (by simp [Act.eval]) hsrc ⟨W8.heap.size, 0, none⟩ 1 1 [.string t.name, .bool false, .slice (some ⟨V0.heap.size, 0, none⟩) 1 1] (by simp [Act.eval]) (src_one HX9.out rfl) (by decide) (by have := HLC.out; unfold maxLen; omega) (by have := HLC.out; omega) HAL.out ?_
        intro cap W10 hcap hown hb10
        obtain ⟨csn, hcsn⟩ : ∃ l, cs1 ++ [(⟨t.name, false, [(j : Int)]⟩ : Cel)] = l := ⟨_, rfl⟩
        have hlc : cs.length + 1 = csn.length := by rw [← hcsn, List.length_append, ← HLEN.out]; rfl
        have HLCN := Lib.hid hlc
        have HCAP : Hid (csn.length ≤ cap) := by show _ ≤ _; rw [← hlc]; exact hcap
        have HBA := Lib.hid (mem_then HB09.out hb10)
        have HW8 : Hid (A0.heap.size ≤ V0.heap.size ∧ V0.heap.size < W8.heap.size ∧ W8.heap.size < W9.heap.size) := ⟨HD0.out.size, mem_lt HX8.out, mem_lt HX9.out⟩
        obtain ⟨yn, hyn⟩ : ∃ f, y1 cs.length y (.slice (some ⟨V0.heap.size, 0, none⟩) 1 1) = f := ⟨_, rfl⟩
        have HOWN : Hid (CelsOwn B W10 (some ⟨W9.heap.size, 0, none⟩) csn yn) := by
          show CelsOwn _ _ _ _ _
          rw [← hcsn, ← hyn, ← HLEN.out]
          rw [← HLEN.out] at hown
          refine HST2.out.own.grow HBA.out hown ?_ (HW8.out.1) (by rw [HLEN.out]; exact HLC.out) ⟨by omega, by omega⟩ HNS.out
          have hx := mem_keep (mem_keep HX8.out HB9.out) hb10
          exact ⟨rfl, .inr ⟨V0.heap.size, 1, _, rfl, Nat.le_trans HFX2.out.big HW8.out.1, hx, Nat.le_refl _, by decide, rfl, rfl⟩⟩
        have HNC : Hid (celN csn = N ++ [(t.name, false)]) := by show _ = _; rw [← hcsn, ← HN1.out]; unfold celN; rw [List.map_append]; rfl
        have HSA : Hid (RSt B F inp W10 s2 0 csn yn (some ⟨W9.heap.size, 0, none⟩) ia oa1 oc1) := HST2.out.grow (by show CelsOwn _ _ _ _ _; exact HOWN.out) HBA.out HFX2.out.big (by rw [← hcsn]; exact HV2.out.1) (by rw [← hcsn]; exact HV2.out.2)
        have HYN : Hid (yn = y1 cs.length y (.slice (some ⟨V0.heap.size, 0, none⟩) 1 1)) := hyn.symm
        have HFA := Lib.hid (HFX2.out.keep HBA.out)
        rw [hlc]
        clear hown hb10 hcap hsrc hcsn hlc hyn
        refine hK.out _ _ (⟨HFA.out, HBA.out⟩) (fun hHeld => ?_)
        clear hK K
        rename_i hOld
        clear hOld
        (try simp only [Act.put, pA, pB, pC, pD, pE, pF])
        refine zT 13 (.pointer (some ⟨W1.heap.size, 0, none⟩)) rfl (hy := ?_) (h := ?_)
        · intro w' hSw; go_simp
        (try simp only [Act.put, pA, pB, pC, pD, pE, pF])
        obtain ⟨A1, hA1⟩ : ∃ W : World, W10.setCell ⟨W1.heap.size, 0, none⟩ (.slice (some ⟨W9.heap.size, 0, none⟩) csn.length cap) = W := ⟨_, rfl⟩
        have HFX3 : Hid (Fx B cs.length w.heap.size W1.heap.size W2.heap.size y w t (some ⟨kb, ko, none⟩) c #[.slice (some ⟨W9.heap.size, 0, none⟩) csn.length cap, .slice ia inp.length ic, .slice oa1 s2.out.length oc1, .int .i64 (s2.rd : Int), .int .i64 (s2.st : Int), .int .i64 F, .int .i64 0] A1) := by show Fx _ _ _ _ _ _ _ _ _ _ _ _; rw [← hA1]; exact HFA.out.set1 0 _
        have HST3 : Hid (RSt B F inp A1 s2 0 csn yn (some ⟨W9.heap.size, 0, none⟩) ia oa1 oc1) := by show RSt _ _ _ _ _ _ _ _ _ _ _ _; rw [← hA1]; exact HSA.out.fset1 HFA.out 0 _
        have y0 := mem_cell HFA.out.x2 0
        have f0 := mem_free HFA.out.x2 0
        refine wpAnyZ_ready (rs := [14]) (by kernel_rfl) (by simp) (AllReadyZ.last rfl (by decide) (fun K hK => ?_) AllReadyZ.nil)
        go_simp
        refine hK.out _ _ ?_
        clear hK K
        (try simp only [Act.put, pA, pB, pC, pD, pE, pF])
        try rw [hA1]
        clear y0 f0 hHeld hA1
        refine wpAnyZ_done (by kernel_rfl) ?_ _
        have HC2 := Lib.hid (((HBO.out yn).at_ (cc := cap) (ci := yc) HFX3.out HST3.out HNC.out HCAP.out HIZ.out))
        obtain ⟨⟨s3, er3⟩, hr3⟩ : ∃ r, z.ex F inp s2 = r := ⟨_, rfl⟩
        rw [hr3] at HC2 HNX
        have HCB : Hid (∀ V, Below A1.heap.size A1 V → Calls Tryd.prog 41 #[z.val ya yc, envVal (some ⟨W9.heap.size, 0, none⟩) csn.length cap ia inp.length ic oa1 s2.out.length oc1 (s2.rd : Int) (s2.st : Int) F 0] V (RQ B F inp csn yn ia ic V (s3, er3))) := HC2.out
        clear hr3 HC2
        have HLB : Hid (w.heap.size < V0.heap.size ∧ W1.heap.size < V0.heap.size ∧ W2.heap.size < V0.heap.size) := by
          have := HFX2.out.lts
          have := HW8.out.1
          show _ ∧ _
          omega
        go_upto_region 9 with fail
        have hD0 : Below A1.heap.size A1 (World.drew A1) := (Below.refl _ _).drew
        refine wp_region_z 6 (S := fun w' => Fx B cs.length w.heap.size W1.heap.size W2.heap.size y w t (some ⟨kb, ko, none⟩) c #[.slice (some ⟨W9.heap.size, 0, none⟩) csn.length cap, .slice ia inp.length ic, .slice oa1 s2.out.length oc1, .int .i64 (s2.rd : Int), .int .i64 (s2.st : Int), .int .i64 F, .int .i64 0] w') (by kernel_rfl) (HFX3.out.keep hD0) (fun hHeld => ?_)
        generalize hwd : World.drew A1 = V1 at hHeld hD0 ⊢
        clear hwd
        have HD0 := Lib.hid hD0
        clear hD0
        refine zT 0 (.pointer (some ⟨w.heap.size, 3, none⟩)) rfl (hy := ?_) (h := ?_)
        · intro w' hSw; go_simp
        (try simp only [Act.put, pA, pB, pD, pE, pF])
        refine zT 1 (.slice (some ⟨kb, ko, none⟩) t.len c) rfl (hy := ?_) (h := ?_)
        · intro w' hSw; obtain ⟨z0, z1, z2, z3⟩ := nd_cells hSw.x1; go_simp
        (try simp only [Act.put, pA, pB, pC, pD, pE, pF])
        refine zT 2 (.pointer (some ⟨kb, ko, none⟩)) rfl (hy := ?_) (h := ?_)
        · intro w' hSw; go_simp
        (try simp only [Act.put, pA, pB, pC, pD, pE, pF])
        refine zT 3 (z.val ya yc) rfl (hy := ?_) (h := ?_)
        · intro w' hSw; obtain ⟨z0, z1, z2, z3⟩ := HNZ.out _ hSw.fr.low; go_simp
        (try simp only [Act.put, pA, pB, pC, pD, pE, pF])
        refine zT 4 (envVal (some ⟨W9.heap.size, 0, none⟩) csn.length cap ia inp.length ic oa1 s2.out.length oc1 (s2.rd : Int) (s2.st : Int) F 0) rfl (hy := ?_) (h := ?_)
        · intro w' hSw; obtain ⟨z0, z1, z2, z3, z4, z5, z6⟩ := env_cells hSw.x2; go_simp
        (try simp only [Act.put, pA, pB, pC, pD, pE, pF])
        refine zR 5 rfl (fun K hK => ?_)
        go_simp
        refine (HCB.out V1 HD0.out).mono ?_
        rintro e E3 ⟨cs3, ca3, cc3, oa3, oc3, rfl, hn2, hcc2, hst2, hfr2⟩
        have HFE : Hid (Fx B cs.length w.heap.size W1.heap.size W2.heap.size y w t (some ⟨kb, ko, none⟩) c #[.slice (some ⟨W9.heap.size, 0, none⟩) csn.length cap, .slice ia inp.length ic, .slice oa1 s2.out.length oc1, .int .i64 (s2.rd : Int), .int .i64 (s2.st : Int), .int .i64 F, .int .i64 0] E3) := (HFX3.out.keep HD0.out).call1 (v := (.slice (some ⟨V0.heap.size, 0, none⟩) 1 1)) (lb := V0.heap.size) (by rw [← HYN.out, HLCN.out]; exact hfr2) (fun b hb => (Option.some.inj hb).symm) HLB.out
        have HN2 := Lib.hid (hn2.trans HNC.out)
        have HCC2 := Lib.hid hcc2
        have HS2 : Hid (RSt B F inp E3 s3 er3 cs3 yn ca3 ia oa3 oc3) := hst2
        clear hn2 hcc2 hst2 hfr2
        refine hK.out _ _ (HFE.out) (fun hHeld => ?_)
        clear hK K
        rename_i hOld
        clear hOld
        (try simp only [Act.put, pA, pB, pC, pD, pE, pF])
        obtain ⟨R0, hR0⟩ : ∃ R, set7 E3 W1.heap.size (.slice ca3 cs3.length cc3) (.slice ia inp.length ic) (.slice oa3 s3.out.length oc3) (.int .i64 (s3.rd : Int)) (.int .i64 (s3.st : Int)) (.int .i64 F) (.int .i64 er3) = R := ⟨_, rfl⟩
        have HFX5 : Hid (Fx B cs.length w.heap.size W1.heap.size W2.heap.size y w t (some ⟨kb, ko, none⟩) c #[.slice ca3 cs3.length cc3, .slice ia inp.length ic, .slice oa3 s3.out.length oc3, .int .i64 (s3.rd : Int), .int .i64 (s3.st : Int), .int .i64 F, .int .i64 er3] R0) := by show Fx _ _ _ _ _ _ _ _ _ _ _ _; rw [← hR0]; exact HFE.out.set _ _ _ _ _ _ _
        have HST5 : Hid (RSt B F inp R0 s3 er3 cs3 yn ca3 ia oa3 oc3) := by show RSt _ _ _ _ _ _ _ _ _ _ _ _; rw [← hR0]; exact HS2.out.fset HFE.out _ _ _ _ _ _ _
        obtain ⟨y0, y1, y2, y3, y4, y5, y6⟩ := env_cells HFE.out.x2
        obtain ⟨q0, q1, q2, q3, q4, q5, q6⟩ := env_free HFE.out.x2
        unfold set7 at hR0
        refine wpAnyZ_ready (rs := [6]) (by kernel_rfl) (by simp) (AllReadyZ.last rfl (by decide) (fun K hK => ?_) AllReadyZ.nil)
        go_simp
        refine hK.out _ _ ?_
        clear hK K
        (try simp only [Act.put, pA, pB, pC, pD, pE, pF])
        try rw [hR0]
        clear y0 y1 y2 y3 y4 y5 y6 q0 q1 q2 q3 q4 q5 q6 hHeld hR0
        refine wpAnyZ_done (by kernel_rfl) ?_ _
        obtain ⟨cs4, c4, rfl, hn4, hcn, hca⟩ := celN_split HN2.out
        have HL4 : Hid (cs4.length = cs.length) := celN_len (hn4.trans HNN.out.symm)
        have HN4 := Lib.hid hn4
        have HCC4 : Hid (cs4.length ≤ cc3) := by have h1 := HCC2.out; rw [List.length_append] at h1; show _ ≤ _; omega
        have HV4 : Hid (er3 = 0 → upd s3.V t.name none = celV cs4) := fun h => by rw [HST5.out.V h, ← hcn]; exact celV_drop hca (by rw [hcn]; exact HNO.out _ hn4)
        have HST6 : Hid (RSt B F inp R0 s3 1 cs4 y ca3 ia oa3 oc3) := HST5.out.drop (by rw [HL4.out]; exact HYN.out) hca
        have HFX6 := Lib.hid HFX5.out
        clear hn4 hcn hca
        obtain ⟨e0, e1, e2, e3, e4, e5, e6⟩ := env_cells HFX5.out.x2
        obtain ⟨R1, hR1⟩ : ∃ W : World, R0.setCell ⟨W1.heap.size, 0, none⟩ (.slice ca3 cs4.length cc3) = W := ⟨_, rfl⟩
        have HFX7 : Hid (Fx B cs.length w.heap.size W1.heap.size W2.heap.size y w t (some ⟨kb, ko, none⟩) c #[.slice ca3 cs4.length cc3, .slice ia inp.length ic, .slice oa3 s3.out.length oc3, .int .i64 (s3.rd : Int), .int .i64 (s3.st : Int), .int .i64 F, .int .i64 er3] R1) := by show Fx _ _ _ _ _ _ _ _ _ _ _ _; rw [← hR1]; exact HFX5.out.set1 0 _
        have HST7 : Hid (RSt B F inp R1 s3 1 cs4 y ca3 ia oa3 oc3) := by show RSt _ _ _ _ _ _ _ _ _ _ _ _; rw [← hR1]; exact HST6.out.fset1 HFX5.out 0 _
        have f0 := mem_free HFX5.out.x2 0
        have hk1 : cs.length ≤ cc3 := by rw [← HL4.out]; exact HCC4.out
        have hk2 : (cs.length : Int) ≤ (cc3 : Int) := by omega
        rw [HL4.out] at hR1
        go_upto_region 4 with fail
        try rw [addr_same]
        try rw [hR1]
        clear f0 hR1 e0 e1 e2 e3 e4 e5 e6
        go_wp2_with fail
        go_roundw
        case rel => exact ⟨j + 1, s3, er3, cs4, ca3, cc3, oa3, oc3, by omega, by go_num, HNX.out, HV4.out, HN4.out, HCC4.out, HFX7.out, HST7.out⟩
        case measure => simp [intOf]; omega
      · have hgep : F ≤ ((s1.putV t.name (some (j : Int))).st : Int) := by show F ≤ (s1.st : Int); omega
        have HSTEP : Hid (∀ V, Calls Tryd.prog 88 #[envVal ca1 cs1.length cc1 ia inp.length ic oa1 s1.out.length oc1 (s1.rd : Int) (s1.st : Int) F 0] V fun e w' => e = .returned (envVal ca1 cs1.length cc1 ia inp.length ic oa1 s1.out.length oc1 (s1.rd : Int) (s1.st : Int) F 13) ∧ Below V.heap.size V w') := step16_ge hF (s := s1) (by omega) ca1 cs1.length cc1 ia inp.length ic oa1 oc1
        obtain ⟨s2, hs2⟩ : ∃ s2, s1.putV t.name (some (j : Int)) = s2 := ⟨_, rfl⟩
        have HRES : Hid (Ra = (s2, 13)) := by
          have h1 : seqTo (forR F t.name (kidX F inp t 0)) (j + 1) s = (s2, 13) := by
            rw [seqTo_next HSEQ.out]; unfold forR; rw [stp_ge hgep, hs2]; exact SR.then_er (by show (13 : Int) ≠ 0; decide)
          show _ = _
          rw [← HRR.out, seqTo_er h1 (by show (13 : Int) ≠ 0; decide) (by omega)]; exact SR.then_er (by show (13 : Int) ≠ 0; decide)
        have HSTA : Hid (RSt B F inp wr s1 13 cs1 y ca1 ia oa1 oc1) := HST1.out.any (fun h => absurd h (by decide))
        clear hlt hgep
        go_wp2_with fail
        refine (HSTEP.out _).mono ?_
        rintro e E1 ⟨rfl, hB1⟩
        have HFS : Hid (Fx B cs.length w.heap.size W1.heap.size W2.heap.size y w t (some ⟨kb, ko, none⟩) c #[.slice ca1 cs1.length cc1, .slice ia inp.length ic, .slice oa1 s1.out.length oc1, .int .i64 (s1.rd : Int), .int .i64 (s1.st : Int), .int .i64 F, .int .i64 0] E1) := HFX1.out.keep hB1
        have HSS : Hid (RSt B F inp E1 s1 13 cs1 y ca1 ia oa1 oc1) := HSTA.out.below hB1 HFX1.out.big
        clear hB1 t0 t1 t2 t3 e0 e1 e2 e3 e4 e5 e6
        obtain ⟨A0, hA0⟩ : ∃ R, set7 E1 W1.heap.size (.slice ca1 cs1.length cc1) (.slice ia inp.length ic) (.slice oa1 s1.out.length oc1) (.int .i64 (s1.rd : Int)) (.int .i64 (s1.st : Int)) (.int .i64 F) (.int .i64 13) = R := ⟨_, rfl⟩
        have HFX2 : Hid (Fx B cs.length w.heap.size W1.heap.size W2.heap.size y w t (some ⟨kb, ko, none⟩) c #[.slice ca1 cs1.length cc1, .slice ia inp.length ic, .slice oa1 s1.out.length oc1, .int .i64 (s1.rd : Int), .int .i64 (s1.st : Int), .int .i64 F, .int .i64 13] A0) := by show Fx _ _ _ _ _ _ _ _ _ _ _ _; rw [← hA0]; exact HFS.out.set _ _ _ _ _ _ _
        have HST2 : Hid (RSt B F inp A0 s1 13 cs1 y ca1 ia oa1 oc1) := by show RSt _ _ _ _ _ _ _ _ _ _ _ _; rw [← hA0]; exact HSS.out.fset HFS.out _ _ _ _ _ _ _
        obtain ⟨y0, y1, y2, y3, y4, y5, y6⟩ := env_cells HFS.out.x2
        obtain ⟨q0, q1, q2, q3, q4, q5, q6⟩ := env_free HFS.out.x2
        unfold set7 at hA0
        go_upto_region 6 with fail
        try rw [hA0]
        clear y0 y1 y2 y3 y4 y5 y6 q0 q1 q2 q3 q4 q5 q6 hA0
        obtain ⟨e0, e1, e2, e3, e4, e5, e6⟩ := env_cells HFX2.out.x2
        have HFXb : Hid (Fx B cs.length w.heap.size W1.heap.size W2.heap.size y w t (some ⟨kb, ko, none⟩) c #[.slice ca1 cs1.length cc1, .slice ia inp.length ic, .slice oa1 s2.out.length oc1, .int .i64 (s2.rd : Int), .int .i64 (s2.st : Int), .int .i64 F, .int .i64 13] A0) := by show Fx _ _ _ _ _ _ _ _ _ _ _ _; rw [← hs2]; exact HFX2.out
        have HSTb : Hid (RSt B F inp A0 s2 13 cs1 y ca1 ia oa1 oc1) := by show RSt _ _ _ _ _ _ _ _ _ _ _ _; rw [← hs2]; exact (HST2.out.any (fun h => absurd h (by decide)) (e' := 1)).putV _ _ |>.any (fun h => absurd h (by decide))
        clear e0 e1 e2 e3 e4 e5 e6 hs2
        obtain ⟨e0, e1, e2, e3, e4, e5, e6⟩ := env_cells HFXb.out.x2
        obtain ⟨R, hR⟩ : ∃ R, set7 A0 W2.heap.size (.slice ca1 cs1.length cc1) (.slice ia inp.length ic) (.slice oa1 s2.out.length oc1) (.int .i64 (s2.rd : Int)) (.int .i64 (s2.st : Int)) (.int .i64 F) (.int .i64 13) = R := ⟨_, rfl⟩
        have HSR : Hid (RSt B F inp R s2 13 cs1 y ca1 ia oa1 oc1) := by show RSt _ _ _ _ _ _ _ _ _ _ _ _; rw [← hR]; exact HSTb.out.fout HFXb.out _ _ _ _ _ _ _
        have HFO : Hid (FrR B cs.length y w R ∧ R.heap[W2.heap.size]? = some (envObj ca1 cs1.length cc1 ia inp.length ic oa1 s2.out.length oc1 (s2.rd : Int) (s2.st : Int) F 13)) := by show _ ∧ _; rw [← hR]; exact HFXb.out.fout _ _ _ _ _ _ _
        obtain ⟨y0, y1, y2, y3, y4, y5, y6⟩ := env_cells HFXb.out.x3
        obtain ⟨q0, q1, q2, q3, q4, q5, q6⟩ := env_free HFXb.out.x3
        unfold set7 at hR
        go_wp2_with fail
        try rw [hR]
        clear e0 e1 e2 e3 e4 e5 e6 y0 y1 y2 y3 y4 y5 y6 q0 q1 q2 q3 q4 q5 q6 hR
        obtain ⟨z0, z1, z2, z3, z4, z5, z6⟩ := env_cells HFO.out.2
        refine bodyPost_ret (v := envVal ca1 cs1.length cc1 ia inp.length ic oa1 s2.out.length oc1 (s2.rd : Int) (s2.st : Int) F 13) (by simp [results, Tryd.results89, go_sem, z0, z1, z2, z3, z4, z5, z6]) rfl ?_
        rw [HRES.out]
        exact ⟨cs1, ca1, cc1, oa1, oc1, rfl, HN1.out.trans HNN.out.symm, HCC1.out, HSR.out, HFO.out.1⟩
    · have hq2 : (¬ (j : Int) < t.num) ∨ ((j : Int) < t.num ∧ (er == 0) = false) := by
        by_cases hlt : j < n
        · exact .inr ⟨by have := HNUM.out; omega, by simpa using fun h => hgo ⟨hlt, h⟩⟩
        · exact .inl (by have := HNUM.out; omega)
      obtain ⟨sx, hsx⟩ : ∃ sx, (if er = 0 then s1.putV t.name none else s1) = sx := ⟨_, rfl⟩
      have hsc : sx = s1.putV t.name none ∧ er = 0 ∨ sx = s1 ∧ er ≠ 0 := by
        by_cases h0 : er = 0
        · rw [if_pos h0] at hsx; exact .inl ⟨hsx.symm, h0⟩
        · rw [if_neg h0] at hsx; exact .inr ⟨hsx.symm, h0⟩
      have HRES : Hid (Ra = (sx, er)) := by
        show _ = _
        have h1 : seqTo (forR F t.name (kidX F inp t 0)) n s = (s1, er) := by
          by_cases hlt : j < n
          · exact seqTo_er HSEQ.out (fun h => hgo ⟨hlt, h⟩) (by omega)
          · rw [show n = j by omega]; exact HSEQ.out
        rw [← HRR.out, h1]
        rcases hsc with ⟨h2, h3⟩ | ⟨h2, h3⟩
        · rw [SR.then_ok (r := (s1, er)) h3, h2, h3]
        · rw [SR.then_er (r := (s1, er)) h3, h2]
      have HFXb : Hid (Fx B cs.length w.heap.size W1.heap.size W2.heap.size y w t (some ⟨kb, ko, none⟩) c #[.slice ca1 cs1.length cc1, .slice ia inp.length ic, .slice oa1 sx.out.length oc1, .int .i64 (sx.rd : Int), .int .i64 (sx.st : Int), .int .i64 F, .int .i64 er] wr) := by
        show Fx _ _ _ _ _ _ _ _ _ _ _ _
        rcases hsc with ⟨h2, h3⟩ | ⟨h2, h3⟩ <;> rw [h2] <;> exact HFX1.out
      have HSTb : Hid (RSt B F inp wr sx er cs1 y ca1 ia oa1 oc1) := by
        show RSt _ _ _ _ _ _ _ _ _ _ _ _
        rcases hsc with ⟨h2, h3⟩ | ⟨h2, h3⟩
        · rw [h2]; exact (HST1.out.putV _ _).any (fun h => HV1.out h)
        · rw [h2]; exact HST1.out.any (fun h => absurd h h3)
      clear hgo hsx hsc e0 e1 e2 e3 e4 e5 e6
      rcases hq2 with g1 | ⟨g1, g2⟩
      · obtain ⟨e0, e1, e2, e3, e4, e5, e6⟩ := env_cells HFXb.out.x2
        obtain ⟨R, hR⟩ : ∃ R, set7 wr W2.heap.size (.slice ca1 cs1.length cc1) (.slice ia inp.length ic) (.slice oa1 sx.out.length oc1) (.int .i64 (sx.rd : Int)) (.int .i64 (sx.st : Int)) (.int .i64 F) (.int .i64 er) = R := ⟨_, rfl⟩
        have HSR : Hid (RSt B F inp R sx er cs1 y ca1 ia oa1 oc1) := by show RSt _ _ _ _ _ _ _ _ _ _ _ _; rw [← hR]; exact HSTb.out.fout HFXb.out _ _ _ _ _ _ _
        have HFO : Hid (FrR B cs.length y w R ∧ R.heap[W2.heap.size]? = some (envObj ca1 cs1.length cc1 ia inp.length ic oa1 sx.out.length oc1 (sx.rd : Int) (sx.st : Int) F er)) := by show _ ∧ _; rw [← hR]; exact HFXb.out.fout _ _ _ _ _ _ _
        obtain ⟨y0, y1, y2, y3, y4, y5, y6⟩ := env_cells HFXb.out.x3
        obtain ⟨q0, q1, q2, q3, q4, q5, q6⟩ := env_free HFXb.out.x3
        unfold set7 at hR
        go_wp2_with fail
        try rw [hR]
        clear e0 e1 e2 e3 e4 e5 e6 y0 y1 y2 y3 y4 y5 y6 q0 q1 q2 q3 q4 q5 q6 hR
        obtain ⟨z0, z1, z2, z3, z4, z5, z6⟩ := env_cells HFO.out.2
        refine bodyPost_ret (v := envVal ca1 cs1.length cc1 ia inp.length ic oa1 sx.out.length oc1 (sx.rd : Int) (sx.st : Int) F er) (by simp [results, Tryd.results89, go_sem, z0, z1, z2, z3, z4, z5, z6]) rfl ?_
        rw [HRES.out]
        exact ⟨cs1, ca1, cc1, oa1, oc1, rfl, HN1.out.trans HNN.out.symm, HCC1.out, HSR.out, HFO.out.1⟩
      · obtain ⟨e0, e1, e2, e3, e4, e5, e6⟩ := env_cells HFXb.out.x2
        obtain ⟨R, hR⟩ : ∃ R, set7 wr W2.heap.size (.slice ca1 cs1.length cc1) (.slice ia inp.length ic) (.slice oa1 sx.out.length oc1) (.int .i64 (sx.rd : Int)) (.int .i64 (sx.st : Int)) (.int .i64 F) (.int .i64 er) = R := ⟨_, rfl⟩
        have HSR : Hid (RSt B F inp R sx er cs1 y ca1 ia oa1 oc1) := by show RSt _ _ _ _ _ _ _ _ _ _ _ _; rw [← hR]; exact HSTb.out.fout HFXb.out _ _ _ _ _ _ _
        have HFO : Hid (FrR B cs.length y w R ∧ R.heap[W2.heap.size]? = some (envObj ca1 cs1.length cc1 ia inp.length ic oa1 sx.out.length oc1 (sx.rd : Int) (sx.st : Int) F er)) := by show _ ∧ _; rw [← hR]; exact HFXb.out.fout _ _ _ _ _ _ _
        obtain ⟨y0, y1, y2, y3, y4, y5, y6⟩ := env_cells HFXb.out.x3
        obtain ⟨q0, q1, q2, q3, q4, q5, q6⟩ := env_free HFXb.out.x3
        unfold set7 at hR
        go_wp2_with fail
        try rw [hR]
        clear e0 e1 e2 e3 e4 e5 e6 y0 y1 y2 y3 y4 y5 y6 q0 q1 q2 q3 q4 q5 q6 hR
        obtain ⟨z0, z1, z2, z3, z4, z5, z6⟩ := env_cells HFO.out.2
        refine bodyPost_ret (v := envVal ca1 cs1.length cc1 ia inp.length ic oa1 sx.out.length oc1 (sx.rd : Int) (sx.st : Int) F er) (by simp [results, Tryd.results89, go_sem, z0, z1, z2, z3, z4, z5, z6]) rfl ?_
        rw [HRES.out]
        exact ⟨cs1, ca1, cc1, oa1, oc1, rfl, HN1.out.trans HNN.out.symm, HCC1.out, HSR.out, HFO.out.1⟩
end Go.Proofs.YtgochgcchkdlmaaDoor
