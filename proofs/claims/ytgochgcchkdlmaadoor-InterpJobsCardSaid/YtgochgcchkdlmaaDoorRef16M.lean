/-
  Contract: stmt (package ontimeref16), out of what its blocks do. Printed by wip/gen_r16.py.
-/
import Derived.Test.YtgochgcchkdlmaaDoorPuts
import Derived.Test.YtgochgcchkdlmaaDoorRefLoops
import Derived.Test.YtgochgcchkdlmaaDoorRefBlocks
namespace Go.Proofs.YtgochgcchkdlmaaDoor
set_option linter.unusedVariables false
set_option linter.unusedSimpArgs false
open Go.RowKit Go.Maps
set_option maxRecDepth 100000
set_option maxHeartbeats 80000000

theorem stmt16_of {B : Nat} {F : Int} {inp : List Int} {ia : Option Addr} {ic : Nat} {N : List (ByteArray × Bool)} {y : Nat → Value} (t : Tree) (hF : F ≤ 10000000) (hv : t.vld 115 = true) (hdec : Dec N t) (hlN : N.length < 1000000)
    (hb : t.kind ≠ 42 → ∀ i, i < t.len → (t.kid i).vld 98 = true → SOk B F inp ia ic N y 41 (t.kid i) ((t.kid i).ex F inp))
    (hbf : t.kind = 42 → ∀ y', SOk B F inp ia ic (N ++ [(t.name, false)]) y' 41 (t.kid 0) ((t.kid 0).ex F inp)) : SOk B F inp ia ic N y 58 t (t.ex F inp) := by
  intro w s cs ca cc oa oc a c hN hcc hB hr hst
  obtain ⟨hkind, hnum, hlen, hkv⟩ := vldS hv
  have HV := Lib.hid hv
  have HKV := Lib.hid hkv
  have HLENK := Lib.hid hlen
  have hlf := hr.fits.len
  have hkf := hr.fits.kind
  have HR := Lib.hid hr
  have HB := Lib.hid hb
  have HBF := Lib.hid hbf
  have HDEC := Lib.hid ((Dec_eq t (fun hk => by rcases hk with hk | hk <;> rw [hlen, hk] <;> decide)).1 hdec)
  have HLN := Lib.hid hlN
  have HEX := Lib.hid (Tree.ex_eq F inp t s)
  have HLEN : Hid (cs.length = cs.length) := rfl
  have HN1 := Lib.hid hN
  have HCC1 := Lib.hid hcc
  obtain ⟨W1, hW1⟩ : ∃ W : World, w.alloc (ndObj t a c) = W := ⟨_, rfl⟩
  obtain ⟨W2, hW2⟩ : ∃ W : World, W1.alloc (envObj ca cs.length cc ia inp.length ic oa s.out.length oc (s.rd : Int) (s.st : Int) F 0) = W := ⟨_, rfl⟩
  obtain ⟨W3, hW3⟩ : ∃ W : World, W2.alloc (envObj none 0 0 none 0 0 none 0 0 0 0 0 0) = W := ⟨_, rfl⟩
  have hstart := Fx.start hB hst t a c #[.slice ca cs.length cc, .slice ia inp.length ic, .slice oa s.out.length oc, .int .i64 (s.rd : Int), .int .i64 (s.st : Int), .int .i64 F, .int .i64 0] hW1 hW2 hW3
  have HFX : Hid (Fx B cs.length w.heap.size W1.heap.size W2.heap.size y w t a c #[.slice ca cs.length cc, .slice ia inp.length ic, .slice oa s.out.length oc, .int .i64 (s.rd : Int), .int .i64 (s.st : Int), .int .i64 F, .int .i64 0] W3) := hstart.1
  have HST : Hid (RSt B F inp W3 s 0 cs y ca ia oa oc) := hstart.2.1
  have HNN := Lib.hid hN
  have HCC := Lib.hid hcc
  clear hstart
  clear hcc hv hr hlen hkv hb hbf hdec hN hB hst hlN hnum
  by_cases hlt : (s.st : Int) < F
  · obtain ⟨s1, hs1⟩ : ∃ s1, ({ s with st := s.st + 1 } : St) = s1 := ⟨_, rfl⟩
    have HSTEP := Lib.hid (step16_lt hF hlt hs1 ca cs.length cc ia inp.length ic oa oc)
    have HRS : Hid (RSt B F inp W3 s1 0 cs y ca ia oa oc) := by show RSt _ _ _ _ _ _ _ _ _ _ _ _; rw [← hs1]; exact HST.out.step hlt
    have HCN : Hid (s1.rd < s1.st ∧ s1.out.length < s1.st) := by have h := HST.out.cnt; rw [← hs1]; exact ⟨by show s.rd < s.st + 1; omega, by show s.out.length < s.st + 1; omega⟩
    have HEQ : Hid (t.ex F inp s = exB F inp t.kind t.num t.name (t.kid 0) (kidE t) (kidX F inp t) s1) := by show _ = _; rw [HEX.out, if_neg (by omega), stp_lt hlt, hs1]; exact SR.then_ok rfl
    clear hs1 hlt HEX
    go_enter Tryd.func58, Tryd.ntmps58
    go_upto_region 1 with fail
    try rw [hW1]
    try rw [hW2]
    try rw [hW3]
    clear hW1 hW2 hW3
    obtain ⟨e0, e1, e2, e3, e4, e5, e6⟩ := env_cells HFX.out.x2
    go_wp2_with fail
    refine (HSTEP.out _).mono ?_
    rintro e E1 ⟨rfl, hB1⟩
    have HFS : Hid (Fx B cs.length w.heap.size W1.heap.size W2.heap.size y w t a c #[.slice ca cs.length cc, .slice ia inp.length ic, .slice oa s.out.length oc, .int .i64 (s.rd : Int), .int .i64 (s.st : Int), .int .i64 F, .int .i64 0] E1) := HFX.out.keep hB1
    have HSS : Hid (RSt B F inp E1 s1 0 cs y ca ia oa oc) := HRS.out.below hB1 HFX.out.big
    clear hB1 e0 e1 e2 e3 e4 e5 e6
    obtain ⟨A0, hA0⟩ : ∃ R, set7 E1 W1.heap.size (.slice ca cs.length cc) (.slice ia inp.length ic) (.slice oa s1.out.length oc) (.int .i64 (s1.rd : Int)) (.int .i64 (s1.st : Int)) (.int .i64 F) (.int .i64 0) = R := ⟨_, rfl⟩
    have HFX2 : Hid (Fx B cs.length w.heap.size W1.heap.size W2.heap.size y w t a c #[.slice ca cs.length cc, .slice ia inp.length ic, .slice oa s1.out.length oc, .int .i64 (s1.rd : Int), .int .i64 (s1.st : Int), .int .i64 F, .int .i64 0] A0) := by show Fx _ _ _ _ _ _ _ _ _ _ _ _; rw [← hA0]; exact HFS.out.set _ _ _ _ _ _ _
    have HST2 : Hid (RSt B F inp A0 s1 0 cs y ca ia oa oc) := by show RSt _ _ _ _ _ _ _ _ _ _ _ _; rw [← hA0]; exact HSS.out.fset HFS.out _ _ _ _ _ _ _
    obtain ⟨y0, y1, y2, y3, y4, y5, y6⟩ := env_cells HFS.out.x2
    obtain ⟨q0, q1, q2, q3, q4, q5, q6⟩ := env_free HFS.out.x2
    unfold set7 at hA0
    go_upto_region 2 with fail
    try rw [hA0]
    clear y0 y1 y2 y3 y4 y5 y6 q0 q1 q2 q3 q4 q5 q6 hA0
    obtain ⟨e0, e1, e2, e3, e4, e5, e6⟩ := env_cells HFX2.out.x2
    obtain ⟨t0, t1, t2, t3⟩ := nd_cells HFX2.out.x1
    have hk7 : t.kind = 40 ∨ t.kind = 41 ∨ t.kind = 42 ∨ t.kind = 43 ∨ t.kind = 44 ∨ t.kind = 45 ∨ t.kind = 46 := by omega
    have hspl : (t.kind = 40 ∨ t.kind = 44) ∨ t.kind = 41 ∨ t.kind = 42 ∨ t.kind = 43 ∨ t.kind = 45 ∨ t.kind = 46 := by omega
    clear hk7
    rcases hspl with hk | hk | hk | hk | hk | hk
    · skip
      have b41 : (t.kind == 41) = false := by rcases hk with hk | hk <;> simp [hk]
      have b42 : (t.kind == 42) = false := by rcases hk with hk | hk <;> simp [hk]
      have b43 : (t.kind == 43) = false := by rcases hk with hk | hk <;> simp [hk]
      have b46 : (t.kind == 46) = false := by rcases hk with hk | hk <;> simp [hk]
      have b45 : (t.kind == 45) = false := by rcases hk with hk | hk <;> simp [hk]

      have hl0 : 0 < t.len := by rcases hk with hk | hk <;> rw [HLENK.out, hk] <;> decide
      have hl0i : (0 : Int) < (t.len : Int) := by omega
      have hpv : (t.kid 0).vld 112 = true := by have h := HKV.out 0 hl0; rcases hk with hk | hk <;> rw [hk] at h <;> exact h
      have hpk : (t.kid 0).kind = 2 ∨ (t.kid 0).kind = 3 := by rcases vldP hpv with h | h; exact .inl h; exact .inr h.1
      have HD := Lib.hid (HDEC.out.1 hk)
      obtain ⟨kb, ko, rfl, hkb, pa, pc, hnx, hrx⟩ := kid_in HR.out hl0
      rw [Nat.zero_mul, Nat.add_zero] at hnx
      obtain ⟨p, hxe⟩ : ∃ x, t.kid 0 = x := ⟨_, rfl⟩
      rw [hxe] at hnx hrx
      have HIp : Hid (InB B w p pa) := hrx
      have HNP : Hid (∀ w', Below B w w' → NodeAt w' kb (ko) p pa pc) := fun w' hw => hnx.below hw hkb
      have HEp := Lib.hid hxe
      clear hnx hrx hxe
      rw [HEp.out] at hpv hpk HD
      have HPV := Lib.hid hpv
      have HPK := Lib.hid hpk
      have HKK := Lib.hid hk
      have HHAS : Hid ((p.kind = 2 → Has cs p.name false) ∧ (p.kind = 3 → Has cs p.name true)) := ⟨fun h => Has.of_mem (by rw [HN1.out]; exact HD.out.1 h), fun h => Has.of_mem (by rw [HN1.out]; exact HD.out.2 h)⟩
      have HCI := Lib.hid (idx16_at (cc := cc) (ic := ic) (ci := pc) HPV.out HFX2.out HST2.out HIp.out)
      have HEN0 := Lib.hid (fun k (h : (p.kid 0).ev s1.V s1.A = .er k) => ev_ne0 _ _ (p.kid 0) k h)
      obtain ⟨v0, hv0⟩ : ∃ v, (p.kid 0).ev s1.V s1.A = v := ⟨_, rfl⟩
      rw [hv0] at HCI HEN0
      have HV0 := Lib.hid hv0
      clear hpv hpk hk hv0 HD
      go_upto_region 26 with fail
      clear t0 t1 t2 t3 e0 e1 e2 e3 e4 e5 e6
      refine cut_run16 (End9 97 9 10 (fun v1 v2 w' => ∃ x er1 b4, v1 = .int .i32 x ∧ v2 = .pointer (some ⟨b4, 0, none⟩) ∧ IdxQ p v0 x er1 ∧ Wd.W x ∧ Fx B cs.length w.heap.size b4 W2.heap.size y w t (some ⟨kb, ko, none⟩) c #[.slice ca cs.length cc, .slice ia inp.length ic, .slice oa s1.out.length oc, .int .i64 (s1.rd : Int), .int .i64 (s1.st : Int), .int .i64 F, .int .i64 er1] w' ∧ RSt B F inp w' s1 0 cs y ca ia oa oc)) ?_ ?_
      · have hD0 : Below A0.heap.size A0 (World.drew A0) := (Below.refl _ _).drew
        refine wp_region_z 11 (S := fun w' => Fx B cs.length w.heap.size W1.heap.size W2.heap.size y w t (some ⟨kb, ko, none⟩) c #[.slice ca cs.length cc, .slice ia inp.length ic, .slice oa s1.out.length oc, .int .i64 (s1.rd : Int), .int .i64 (s1.st : Int), .int .i64 F, .int .i64 0] w') (by kernel_rfl) (HFX2.out.keep hD0) (fun hHeld => ?_)
        generalize hwd : World.drew A0 = V0 at hHeld hD0 ⊢
        clear hwd
        have HD0 := Lib.hid hD0
        clear hD0
        refine zT 0 (.pointer (some ⟨w.heap.size, 3, none⟩)) rfl (hy := ?_) (h := ?_)
        · intro w' hSw; go_simp
        (try simp only [Act.put, pA, pB, pD, pE, pF])
        refine zT 1 (.slice (some ⟨kb, ko, none⟩) t.len c) rfl (hy := ?_) (h := ?_)
        · intro w' hSw; obtain ⟨z0, z1, z2, z3⟩ := nd_cells hSw.x1; go_simp
        (try simp only [Act.put, pA, pB, pC, pD, pE, pF])
        refine zT 2 (.pointer (some ⟨kb, ko, none⟩)) rfl (hy := ?_) (h := ?_)
        · intro w' hSw; go_simp
        (try simp only [Act.put, pA, pB, pC, pD, pE, pF])
        refine zT 3 (p.val pa pc) rfl (hy := ?_) (h := ?_)
        · intro w' hSw; obtain ⟨z0, z1, z2, z3⟩ := HNP.out _ hSw.fr.low; go_simp
        (try simp only [Act.put, pA, pB, pC, pD, pE, pF])
        refine zT 4 (envVal ca cs.length cc ia inp.length ic oa s1.out.length oc (s1.rd : Int) (s1.st : Int) F 0) rfl (hy := ?_) (h := ?_)
        · intro w' hSw; obtain ⟨z0, z1, z2, z3, z4, z5, z6⟩ := env_cells hSw.x2; go_simp
        (try simp only [Act.put, pA, pB, pC, pD, pE, pF])
        refine wpAnyZ_ready (rs := [5, 9]) (by kernel_rfl) (by simp) (AllReadyZ.cons rfl (fun K hK => ?_) (AllReadyZ.cons rfl (fun K hK => ?_) AllReadyZ.nil))
        · go_simp
          refine (HCI.out V0 HD0.out).mono ?_
          rintro e E1 ⟨x, er1, rfl, hq, hxw, hb⟩
          have HQ := Lib.hid hq
          have HXW := Lib.hid hxw
          have HBE := Lib.hid (mem_then HD0.out hb)
          have HFE := Lib.hid (HFX2.out.keep HBE.out)
          have HSE := Lib.hid (HST2.out.below HBE.out HFX2.out.big)
          clear hq hxw hb
          refine hK.out _ _ (HFE.out) (fun hHeld => ?_)
          clear hK K
          rename_i hOld
          clear hOld
          (try simp only [Act.put, pA, pB, pC, pD, pE, pF])
          refine zT 6 (.tuple #[.int .i32 x, envVal ca cs.length cc ia inp.length ic oa s1.out.length oc (s1.rd : Int) (s1.st : Int) F er1]) rfl (hy := ?_) (h := ?_)
          · intro w' hSw; go_simp
          (try simp only [Act.put, pA, pB, pC, pD, pE, pF])
          refine zT 7 (.int .i32 x) rfl (hy := ?_) (h := ?_)
          · intro w' hSw; go_simp
          (try simp only [Act.put, pA, pB, pC, pD, pE, pF])
          refine zT 8 (envVal ca cs.length cc ia inp.length ic oa s1.out.length oc (s1.rd : Int) (s1.st : Int) F er1) rfl (hy := ?_) (h := ?_)
          · intro w' hSw; go_simp
          (try simp only [Act.put, pA, pB, pC, pD, pE, pF])
          refine zR 9 rfl (fun K hK => ?_)
          go_simp
          obtain ⟨E2, hE2⟩ : ∃ W : World, E1.alloc (envObj none 0 0 none 0 0 none 0 0 0 0 0 0) = W := ⟨_, rfl⟩
          rw [hE2]
          have hb2 : Below E1.heap.size E1 E2 := by rw [← hE2]; exact mem_alloc _ _
          have HFB := Lib.hid HFE.out.box
          rw [hE2] at HFB
          have HFE2 := Lib.hid (HFE.out.keep hb2)
          have HSB := Lib.hid (HSE.out.below hb2 HFE.out.big)
          clear hE2 hb2
          refine hK.out _ _ (HFE2.out) (fun hHeld => ?_)
          clear hK K
          rename_i hOld
          clear hOld
          (try simp only [Act.put, pA, pB, pC, pD, pE, pF])
          refine zT 10 (.int .i32 x) rfl (hy := ?_) (h := ?_)
          · intro w' hSw; go_simp
          (try simp only [Act.put, pA, pB, pC, pD, pE, pF])
          obtain ⟨R, hR⟩ : ∃ R, set7 E2 E1.heap.size (.slice ca cs.length cc) (.slice ia inp.length ic) (.slice oa s1.out.length oc) (.int .i64 (s1.rd : Int)) (.int .i64 (s1.st : Int)) (.int .i64 F) (.int .i64 er1) = R := ⟨_, rfl⟩
          have HFXN : Hid (Fx B cs.length w.heap.size E1.heap.size W2.heap.size y w t (some ⟨kb, ko, none⟩) c #[.slice ca cs.length cc, .slice ia inp.length ic, .slice oa s1.out.length oc, .int .i64 (s1.rd : Int), .int .i64 (s1.st : Int), .int .i64 F, .int .i64 er1] R) := by show Fx _ _ _ _ _ _ _ _ _ _ _ _; rw [← hR]; exact HFB.out.set _ _ _ _ _ _ _
          have HSTN : Hid (RSt B F inp R s1 0 cs y ca ia oa oc) := by show RSt _ _ _ _ _ _ _ _ _ _ _ _; rw [← hR]; exact HSB.out.fset HFB.out _ _ _ _ _ _ _
          obtain ⟨y0, y1, y2, y3, y4, y5, y6⟩ := env_cells HFB.out.x2
          obtain ⟨q0, q1, q2, q3, q4, q5, q6⟩ := env_free HFB.out.x2
          unfold set7 at hR
          refine wpAnyZ_ready (rs := [11]) (by kernel_rfl) (by simp) (AllReadyZ.last rfl (by decide) (fun K hK => ?_) AllReadyZ.nil)
          go_simp
          refine hK.out _ _ ?_
          clear hK K
          (try simp only [Act.put, pA, pB, pC, pD, pE, pF])
          try rw [hR]
          clear y0 y1 y2 y3 y4 y5 y6 q0 q1 q2 q3 q4 q5 q6 hHeld hR
          refine wpAnyZ_done (by kernel_rfl) ?_ _
          exact ⟨[_, _, _, _, _, _, _, _, _], .int .i32 x, .pointer (some ⟨E1.heap.size, 0, none⟩), rfl, (by simp only [putNine, List.setIfInBounds_toArray, List.set_cons_zero, List.set_cons_succ]; rfl), x, er1, E1.heap.size, rfl, rfl, HQ.out, HXW.out, HFXN.out, HSTN.out⟩
        · go_simp
          obtain ⟨V1, hV1⟩ : ∃ W : World, V0.alloc (envObj none 0 0 none 0 0 none 0 0 0 0 0 0) = W := ⟨_, rfl⟩
          rw [hV1]
          have hb1 : Below V0.heap.size V0 V1 := by rw [← hV1]; exact mem_alloc _ _
          have HFV := Lib.hid (HFX2.out.keep HD0.out)
          have HFB0 := Lib.hid HFV.out.box
          rw [hV1] at HFB0
          have HBV := Lib.hid (mem_then HD0.out hb1)
          clear hV1 hb1
          refine hK.out _ _ ((HFX2.out.keep HBV.out)) (fun hHeld => ?_)
          clear hK K
          rename_i hOld
          clear hOld
          (try simp only [Act.put, pA, pB, pC, pD, pE, pF])
          refine zR 5 rfl (fun K hK => ?_)
          go_simp
          refine (HCI.out V1 HBV.out).mono ?_
          rintro e E1 ⟨x, er1, rfl, hq, hxw, hb⟩
          have HQ := Lib.hid hq
          have HXW := Lib.hid hxw
          have HBE := Lib.hid (mem_then HBV.out hb)
          have HFB := Lib.hid (HFB0.out.keep hb)
          have HFE := Lib.hid (HFX2.out.keep HBE.out)
          have HSB := Lib.hid (HST2.out.below HBE.out HFX2.out.big)
          clear hq hxw hb HFB0
          refine hK.out _ _ (HFE.out) (fun hHeld => ?_)
          clear hK K
          rename_i hOld
          clear hOld
          (try simp only [Act.put, pA, pB, pC, pD, pE, pF])
          refine zT 6 (.tuple #[.int .i32 x, envVal ca cs.length cc ia inp.length ic oa s1.out.length oc (s1.rd : Int) (s1.st : Int) F er1]) rfl (hy := ?_) (h := ?_)
          · intro w' hSw; go_simp
          (try simp only [Act.put, pA, pB, pC, pD, pE, pF])
          refine zT 7 (.int .i32 x) rfl (hy := ?_) (h := ?_)
          · intro w' hSw; go_simp
          (try simp only [Act.put, pA, pB, pC, pD, pE, pF])
          refine zT 8 (envVal ca cs.length cc ia inp.length ic oa s1.out.length oc (s1.rd : Int) (s1.st : Int) F er1) rfl (hy := ?_) (h := ?_)
          · intro w' hSw; go_simp
          (try simp only [Act.put, pA, pB, pC, pD, pE, pF])
          refine zT 10 (.int .i32 x) rfl (hy := ?_) (h := ?_)
          · intro w' hSw; go_simp
          (try simp only [Act.put, pA, pB, pC, pD, pE, pF])
          obtain ⟨R, hR⟩ : ∃ R, set7 E1 V0.heap.size (.slice ca cs.length cc) (.slice ia inp.length ic) (.slice oa s1.out.length oc) (.int .i64 (s1.rd : Int)) (.int .i64 (s1.st : Int)) (.int .i64 F) (.int .i64 er1) = R := ⟨_, rfl⟩
          have HFXN : Hid (Fx B cs.length w.heap.size V0.heap.size W2.heap.size y w t (some ⟨kb, ko, none⟩) c #[.slice ca cs.length cc, .slice ia inp.length ic, .slice oa s1.out.length oc, .int .i64 (s1.rd : Int), .int .i64 (s1.st : Int), .int .i64 F, .int .i64 er1] R) := by show Fx _ _ _ _ _ _ _ _ _ _ _ _; rw [← hR]; exact HFB.out.set _ _ _ _ _ _ _
          have HSTN : Hid (RSt B F inp R s1 0 cs y ca ia oa oc) := by show RSt _ _ _ _ _ _ _ _ _ _ _ _; rw [← hR]; exact HSB.out.fset HFB.out _ _ _ _ _ _ _
          obtain ⟨y0, y1, y2, y3, y4, y5, y6⟩ := env_cells HFB.out.x2
          obtain ⟨q0, q1, q2, q3, q4, q5, q6⟩ := env_free HFB.out.x2
          unfold set7 at hR
          refine wpAnyZ_ready (rs := [11]) (by kernel_rfl) (by simp) (AllReadyZ.last rfl (by decide) (fun K hK => ?_) AllReadyZ.nil)
          go_simp
          refine hK.out _ _ ?_
          clear hK K
          (try simp only [Act.put, pA, pB, pC, pD, pE, pF])
          try rw [hR]
          clear y0 y1 y2 y3 y4 y5 y6 q0 q1 q2 q3 q4 q5 q6 hHeld hR
          refine wpAnyZ_done (by kernel_rfl) ?_ _
          exact ⟨[_, _, _, _, _, _, _, _, _], .int .i32 x, .pointer (some ⟨V0.heap.size, 0, none⟩), rfl, (by simp only [putNine, List.setIfInBounds_toArray, List.set_cons_zero, List.set_cons_succ]; rfl), x, er1, V0.heap.size, rfl, rfl, HQ.out, HXW.out, HFXN.out, HSTN.out⟩
      rintro a' E2 ⟨l, v1, v2, hl9, rfl, x, er1, b4, rfl, rfl, hq, hxw, hfx4, hst4⟩
      obtain ⟨l0, l1, l2, l3, l4, l5, l6, l7, l8, rfl⟩ := list9_16 hl9
      simp only [putNine, List.setIfInBounds_toArray, List.set_cons_zero, List.set_cons_succ]
      have HQ := Lib.hid hq
      have HXW := Lib.hid hxw
      have HFX3 : Hid (Fx B cs.length w.heap.size b4 W2.heap.size y w t (some ⟨kb, ko, none⟩) c #[.slice ca cs.length cc, .slice ia inp.length ic, .slice oa s1.out.length oc, .int .i64 (s1.rd : Int), .int .i64 (s1.st : Int), .int .i64 F, .int .i64 er1] E2) := hfx4
      have HST3 : Hid (RSt B F inp E2 s1 0 cs y ca ia oa oc) := hst4
      clear hl9 hq hxw hfx4 hst4 HCI
      obtain ⟨e0, e1, e2, e3, e4, e5, e6⟩ := env_cells HFX3.out.x2
      by_cases her : er1 = 0
      · subst her
        obtain ⟨t0, t1, t2, t3⟩ := nd_cells HFX3.out.x1
        have HBG := Lib.hid HFX3.out.big
        have hsplit : t.kind = 40 ∨ t.kind = 44 := HKK.out
        rcases hsplit with hk | hk
        · skip
          have b44 : (t.kind == 44) = false := by simp [hk]
          have hl : t.len = 2 := by rw [HLENK.out, hk]; rfl
          have hl1 : 1 < t.len := by omega
          have hl1i : (1 : Int) < (t.len : Int) := by omega
          have hxv : (t.kid 1).vld 101 = true := by have h := HKV.out 1 hl1; rw [hk] at h; exact h
          have HE2 : Hid (t.ex F inp s = runE ((t.kid 1).ev s1.V s1.A) s1 fun z => putR p x z s1) := by
            show _ = _
            have h1 : exB F inp t.kind t.num t.name (t.kid 0) (kidE t) (kidX F inp t) s1 = asgP p v0 ((t.kid 1).ev s1.V s1.A) s1 := by
              unfold exB; rw [if_pos hk, HEp.out]; unfold kidE asgP; rw [if_pos hl1, HV0.out]
            rw [HEQ.out, h1]; exact asg_ok HQ.out HEN0.out
          obtain ⟨kb', ko', hsame, _, xa, xc, hnx, hrx⟩ := kid_in HR.out hl1
          cases hsame
          rw [Nat.one_mul] at hnx
          obtain ⟨u, hxe⟩ : ∃ x, t.kid 1 = x := ⟨_, rfl⟩
          rw [hxe] at hnx hrx
          have HIu : Hid (InB B w u xa) := hrx
          have HNX : Hid (∀ w', Below B w w' → NodeAt w' kb (ko + 4) u xa xc) := fun w' hw => hnx.below hw hkb
          have HEu := Lib.hid hxe
          clear hnx hrx hxe
          rw [HEu.out] at hxv HE2
          have HXV := Lib.hid hxv
          clear hk hl hxv HEu HEQ
          go_upto_region 31 with fail
          clear t0 t1 t2 t3 e0 e1 e2 e3 e4 e5 e6
          have HE := Lib.hid (refE_at (cc := cc) (ci := xc) HXV.out HFX3.out HST3.out HIu.out)
          obtain ⟨v, hv⟩ : ∃ v, u.ev s1.V s1.A = v := ⟨_, rfl⟩
          have HEN := Lib.hid (fun k (h : u.ev s1.V s1.A = .er k) => ev_ne0 _ _ u k h)
          rw [hv] at HE HE2 HEN
          clear hv
          have HCE : Hid (∀ V, Below E2.heap.size E2 V → Calls Tryd.prog 30 #[u.val xa xc, .slice ca cs.length cc] V (RefEQ v V)) := HE.out
          have HXI := Lib.hid HXW.out
          have hD0 : Below E2.heap.size E2 (World.drew E2) := (Below.refl _ _).drew
          refine wp_region_held_drew (S := fun w' => Below E2.heap.size E2 w') (by kernel_rfl) hD0 (fun hHeld => ?_)
          generalize hwd : World.drew E2 = V2 at hHeld hD0 ⊢
          clear hwd
          have HD0 := Lib.hid hD0
          clear hD0
          refine hT 0 (.pointer (some ⟨w.heap.size, 3, none⟩)) rfl (hy := ?_) (h := ?_)
          · intro w' hSw; go_simp
          (try simp only [Act.put, pA, pB, pD, pE, pF])
          refine hT 1 (.slice (some ⟨kb, ko, none⟩) t.len c) rfl (hy := ?_) (h := ?_)
          · intro w' hSw; obtain ⟨z0, z1, z2, z3⟩ := nd_cells (HFX3.out.keep hSw).x1; go_simp
          (try simp only [Act.put, pA, pB, pC, pD, pE, pF])
          refine hT 2 (.pointer (some ⟨kb, ko + 4, none⟩)) rfl (hy := ?_) (h := ?_)
          · intro w' hSw; go_simp
          (try simp only [Act.put, pA, pB, pC, pD, pE, pF])
          refine hT 3 (u.val xa xc) rfl (hy := ?_) (h := ?_)
          · intro w' hSw; obtain ⟨z0, z1, z2, z3⟩ := HNX.out _ ((HFX3.out.keep hSw).fr.low); go_simp
          (try simp only [Act.put, pA, pB, pC, pD, pE, pF])
          refine hT 4 (.pointer (some ⟨b4, 0, none⟩)) rfl (hy := ?_) (h := ?_)
          · intro w' hSw; go_simp
          (try simp only [Act.put, pA, pB, pC, pD, pE, pF])
          refine hT 5 (.slice ca cs.length cc) rfl (hy := ?_) (h := ?_)
          · intro w' hSw; obtain ⟨z0, z1, z2, z3, z4, z5, z6⟩ := env_cells (HFX3.out.keep hSw).x2; go_simp
          (try simp only [Act.put, pA, pB, pC, pD, pE, pF])
          refine rdH 6 rfl (fun K hK => ?_)
          go_simp
          refine (HCE.out V2 HD0.out).mono ?_
          rintro e E3 ⟨xv, rfl, hxW, hxy, hB2⟩
          have HBE := Lib.hid (mem_then HD0.out hB2)
          have HXW := Lib.hid hxW
          have HXY := Lib.hid hxy
          clear hB2 hxW hxy
          obtain ⟨kv, hkv⟩ : ∃ k, evK v = k := ⟨_, rfl⟩
          rw [hkv]
          have HKV' := Lib.hid hkv
          clear hkv
          refine hK.out _ _ (HBE.out) (fun hHeld => ?_)
          clear hK K
          rename_i hOld
          clear hOld
          (try simp only [Act.put, pA, pB, pC, pD, pE, pF])
          refine hT 7 (.tuple #[.int .i32 xv, .int .i64 kv]) rfl (hy := ?_) (h := ?_)
          · intro w' hSw; go_simp
          (try simp only [Act.put, pA, pB, pC, pD, pE, pF])
          refine hT 8 (.int .i32 xv) rfl (hy := ?_) (h := ?_)
          · intro w' hSw; go_simp
          (try simp only [Act.put, pA, pB, pC, pD, pE, pF])
          refine hT 9 (.int .i64 kv) rfl (hy := ?_) (h := ?_)
          · intro w' hSw; go_simp
          (try simp only [Act.put, pA, pB, pC, pD, pE, pF])
          refine hT 10 (.int .i32 xv) rfl (hy := ?_) (h := ?_)
          · intro w' hSw; go_simp
          (try simp only [Act.put, pA, pB, pC, pD, pE, pF])
          refine hT 11 (.int .i64 kv) rfl (hy := ?_) (h := ?_)
          · intro w' hSw; go_simp
          (try simp only [Act.put, pA, pB, pC, pD, pE, pF])
          clear hHeld
          refine wpAnyH_done (by kernel_rfl) ?_ _
          have HFX5 : Hid (Fx B cs.length w.heap.size b4 W2.heap.size y w t (some ⟨kb, ko, none⟩) c #[.slice ca cs.length cc, .slice ia inp.length ic, .slice oa s1.out.length oc, .int .i64 (s1.rd : Int), .int .i64 (s1.st : Int), .int .i64 F, .int .i64 0] E3) := HFX3.out.keep HBE.out
          have HST5 : Hid (RSt B F inp E3 s1 0 cs y ca ia oa oc) := HST3.out.below HBE.out HFX3.out.big
          obtain ⟨e0, e1, e2, e3, e4, e5, e6⟩ := env_cells HFX5.out.x2
          cases v with
          | er k =>
            have hk0 : kv ≠ 0 := by
              rw [← HKV'.out]
              exact HEN.out k rfl
            have hk1 : (kv == 0) = false := by simpa using hk0
            have HRES : Hid (t.ex F inp s = (s1, kv)) := by show _ = _; rw [HE2.out, ← HKV'.out]; rfl
            clear HE2 HKV' HEN HE HCE HXY
            obtain ⟨V, hV⟩ : ∃ V : World, E3.setCell ⟨b4, 6, none⟩ (.int .i64 kv) = V := ⟨_, rfl⟩
            have HFX6 : Hid (Fx B cs.length w.heap.size b4 W2.heap.size y w t (some ⟨kb, ko, none⟩) c #[.slice ca cs.length cc, .slice ia inp.length ic, .slice oa s1.out.length oc, .int .i64 (s1.rd : Int), .int .i64 (s1.st : Int), .int .i64 F, .int .i64 kv] V) := by show Fx _ _ _ _ _ _ _ _ _ _ _ _; rw [← hV]; exact HFX5.out.set1 6 _
            have HST6 : Hid (RSt B F inp V s1 kv cs y ca ia oa oc) := by show RSt _ _ _ _ _ _ _ _ _ _ _ _; rw [← hV]; exact (HST5.out.err _).fset1 HFX5.out 6 _
            have f6 := mem_free HFX5.out.x2 6
            go_upto_region 34 with fail
            try rw [hV]
            clear f6 e0 e1 e2 e3 e4 e5 e6  hV
            obtain ⟨e0, e1, e2, e3, e4, e5, e6⟩ := env_cells HFX6.out.x2
            obtain ⟨R, hR⟩ : ∃ R, set7 V W2.heap.size (.slice ca cs.length cc) (.slice ia inp.length ic) (.slice oa s1.out.length oc) (.int .i64 (s1.rd : Int)) (.int .i64 (s1.st : Int)) (.int .i64 F) (.int .i64 kv) = R := ⟨_, rfl⟩
            have HSR : Hid (RSt B F inp R s1 kv cs y ca ia oa oc) := by show RSt _ _ _ _ _ _ _ _ _ _ _ _; rw [← hR]; exact HST6.out.fout HFX6.out _ _ _ _ _ _ _
            have HFO : Hid (FrR B cs.length y w R ∧ R.heap[W2.heap.size]? = some (envObj ca cs.length cc ia inp.length ic oa s1.out.length oc (s1.rd : Int) (s1.st : Int) F kv)) := by show _ ∧ _; rw [← hR]; exact HFX6.out.fout _ _ _ _ _ _ _
            obtain ⟨y0, y1, y2, y3, y4, y5, y6⟩ := env_cells HFX6.out.x3
            obtain ⟨q0, q1, q2, q3, q4, q5, q6⟩ := env_free HFX6.out.x3
            unfold set7 at hR
            go_wp2_with fail
            try rw [hR]
            clear e0 e1 e2 e3 e4 e5 e6 y0 y1 y2 y3 y4 y5 y6 q0 q1 q2 q3 q4 q5 q6 hR
            obtain ⟨z0, z1, z2, z3, z4, z5, z6⟩ := env_cells HFO.out.2
            refine bodyPost_ret (v := envVal ca cs.length cc ia inp.length ic oa s1.out.length oc (s1.rd : Int) (s1.st : Int) F kv) (by simp [results, Tryd.results58, go_sem, z0, z1, z2, z3, z4, z5, z6]) rfl ?_
            rw [HRES.out]
            exact ⟨cs, ca, cc, oa, oc, rfl, HN1.out.trans HNN.out.symm, HCC1.out, HSR.out, HFO.out.1⟩
          | ok k =>
            obtain rfl : xv = k := HXY.out k rfl
            obtain rfl : (0 : Int) = kv := HKV'.out
            obtain ⟨⟨s9, er9⟩, hr9⟩ : ∃ r, putR p x xv s1 = r := ⟨_, rfl⟩
            have HRES : Hid (t.ex F inp s = (s9, er9)) := by show _ = _; rw [HE2.out, ← hr9]; rfl
            have HCS : Hid (∀ V, Below E3.heap.size E3 V → Calls Tryd.prog 93 #[p.val pa pc, .int .i32 x, .int .i32 xv, envVal ca cs.length cc ia inp.length ic oa s1.out.length oc (s1.rd : Int) (s1.st : Int) F 0] V (RQ B F inp cs y ia ic V (s9, er9))) := fun V hV => by
              rw [← hr9]
              exact store16_q HPK.out (fun h => by rcases HQ.out with h1 | h1; exact h1.2.1; omega) HXI.out HXW.out HHAS.out HCC1.out (Nat.le_trans HFX5.out.big hV.size) (HST5.out.below hV HFX5.out.big)
            clear hr9 HKV' HEN HE HCE HXY HE2
            go_upto_region 35 with fail
            clear e0 e1 e2 e3 e4 e5 e6
            have hD0 : Below E3.heap.size E3 (World.drew E3) := (Below.refl _ _).drew
            refine wp_region_z 8 (S := fun w' => Fx B cs.length w.heap.size b4 W2.heap.size y w t (some ⟨kb, ko, none⟩) c #[.slice ca cs.length cc, .slice ia inp.length ic, .slice oa s1.out.length oc, .int .i64 (s1.rd : Int), .int .i64 (s1.st : Int), .int .i64 F, .int .i64 0] w') (by kernel_rfl) (HFX5.out.keep hD0) (fun hHeld => ?_)
            generalize hwd : World.drew E3 = V3 at hHeld hD0 ⊢
            clear hwd
            have HD1 := Lib.hid hD0
            clear hD0
            refine zT 0 (.pointer (some ⟨w.heap.size, 3, none⟩)) rfl (hy := ?_) (h := ?_)
            · intro w' hSw; go_simp
            (try simp only [Act.put, pA, pB, pD, pE, pF])
            refine zT 1 (.slice (some ⟨kb, ko, none⟩) t.len c) rfl (hy := ?_) (h := ?_)
            · intro w' hSw; obtain ⟨z0, z1, z2, z3⟩ := nd_cells hSw.x1; go_simp
            (try simp only [Act.put, pA, pB, pC, pD, pE, pF])
            refine zT 2 (.pointer (some ⟨kb, ko, none⟩)) rfl (hy := ?_) (h := ?_)
            · intro w' hSw; go_simp
            (try simp only [Act.put, pA, pB, pC, pD, pE, pF])
            refine zT 3 (p.val pa pc) rfl (hy := ?_) (h := ?_)
            · intro w' hSw; obtain ⟨z0, z1, z2, z3⟩ := HNP.out _ hSw.fr.low; go_simp
            (try simp only [Act.put, pA, pB, pC, pD, pE, pF])
            refine zT 4 (.int .i32 x) rfl (hy := ?_) (h := ?_)
            · intro w' hSw; go_simp
            (try simp only [Act.put, pA, pB, pC, pD, pE, pF])
            refine zT 5 (.int .i32 xv) rfl (hy := ?_) (h := ?_)
            · intro w' hSw; go_simp
            (try simp only [Act.put, pA, pB, pC, pD, pE, pF])
            refine zT 6 (envVal ca cs.length cc ia inp.length ic oa s1.out.length oc (s1.rd : Int) (s1.st : Int) F 0) rfl (hy := ?_) (h := ?_)
            · intro w' hSw; obtain ⟨z0, z1, z2, z3, z4, z5, z6⟩ := env_cells hSw.x2; go_simp
            (try simp only [Act.put, pA, pB, pC, pD, pE, pF])
            refine zR 7 rfl (fun K hK => ?_)
            go_simp
            refine (HCS.out V3 HD1.out).mono ?_
            rintro e E9 ⟨cs9, ca9, cc9, oa9, oc9, rfl, hn9, hcc9, hst9, hfr9⟩
            have HFE := Lib.hid ((HFX5.out.keep HD1.out).call hfr9)
            have HN9 := Lib.hid (hn9.trans HN1.out)
            have HCC9 := Lib.hid hcc9
            have HS9 : Hid (RSt B F inp E9 s9 er9 cs9 y ca9 ia oa9 oc9) := hst9
            clear hn9 hcc9 hst9 hfr9
            refine hK.out _ _ (HFE.out) (fun hHeld => ?_)
            clear hK K
            rename_i hOld
            clear hOld
            (try simp only [Act.put, pA, pB, pC, pD, pE, pF])
            obtain ⟨R, hR⟩ : ∃ R, set7 E9 W2.heap.size (.slice ca9 cs9.length cc9) (.slice ia inp.length ic) (.slice oa9 s9.out.length oc9) (.int .i64 (s9.rd : Int)) (.int .i64 (s9.st : Int)) (.int .i64 F) (.int .i64 er9) = R := ⟨_, rfl⟩
            have HSR : Hid (RSt B F inp R s9 er9 cs9 y ca9 ia oa9 oc9) := by show RSt _ _ _ _ _ _ _ _ _ _ _ _; rw [← hR]; exact HS9.out.fout HFE.out _ _ _ _ _ _ _
            have HFO : Hid (FrR B cs.length y w R ∧ R.heap[W2.heap.size]? = some (envObj ca9 cs9.length cc9 ia inp.length ic oa9 s9.out.length oc9 (s9.rd : Int) (s9.st : Int) F er9)) := by show _ ∧ _; rw [← hR]; exact HFE.out.fout _ _ _ _ _ _ _
            obtain ⟨y0, y1, y2, y3, y4, y5, y6⟩ := env_cells HFE.out.x3
            obtain ⟨q0, q1, q2, q3, q4, q5, q6⟩ := env_free HFE.out.x3
            unfold set7 at hR
            refine wpAnyZ_ready (rs := [8]) (by kernel_rfl) (by simp) (AllReadyZ.last rfl (by decide) (fun K hK => ?_) AllReadyZ.nil)
            go_simp
            refine hK.out _ _ ?_
            clear hK K
            (try simp only [Act.put, pA, pB, pC, pD, pE, pF])
            try rw [hR]
            clear y0 y1 y2 y3 y4 y5 y6 q0 q1 q2 q3 q4 q5 q6 hHeld hR
            refine wpAnyZ_done (by kernel_rfl) ?_ _
            go_wp2_with fail
            obtain ⟨z0, z1, z2, z3, z4, z5, z6⟩ := env_cells HFO.out.2
            refine bodyPost_ret (v := envVal ca9 cs9.length cc9 ia inp.length ic oa9 s9.out.length oc9 (s9.rd : Int) (s9.st : Int) F er9) (by simp [results, Tryd.results58, go_sem, z0, z1, z2, z3, z4, z5, z6]) rfl ?_
            rw [HRES.out]
            exact ⟨cs9, ca9, cc9, oa9, oc9, rfl, HN9.out.trans HNN.out.symm, HCC9.out, HSR.out, HFO.out.1⟩
        · skip
          have b44 : (t.kind == 44) = true := by simp [hk]
          have HE2 : Hid (t.ex F inp s = recR inp p x s1) := by
            show _ = _
            have h1 : exB F inp t.kind t.num t.name (t.kid 0) (kidE t) (kidX F inp t) s1 = recP inp p v0 s1 := by
              unfold exB; rw [if_neg (by omega), if_neg (by omega), if_neg (by omega), if_neg (by omega), if_pos hk, HEp.out]; unfold recP; rw [HV0.out]
            rw [HEQ.out, h1]; exact rec_ok HQ.out HEN0.out
          have HCC' : Hid (Calls Tryd.prog 92 #[t.val (some ⟨kb, ko, none⟩) c, .int .i32 x, envVal ca cs.length cc ia inp.length ic oa s1.out.length oc (s1.rd : Int) (s1.st : Int) F 0] E2 (RQ B F inp cs y ia ic E2 (recR inp p x s1))) := by
            have h := receive16_q (u := t) (ta := some ⟨kb, ko, none⟩) (tc := c) (cc := cc) (ic := ic) (i := x) (by rw [HEp.out]; exact HPK.out) (fun h => by rw [HEp.out] at h; rcases HQ.out with h1 | h1; exact h1.2.1; omega) HXW.out (by rw [HEp.out]; exact HHAS.out) HCC1.out HBG.out HST3.out (HR.out.low HFX3.out.fr.low) hl0 HCN.out.1 hF
            rw [HEp.out] at h
            exact h
          clear hk HEQ
          obtain ⟨⟨s9, er9⟩, hr9⟩ : ∃ r, (recR inp p x s1) = r := ⟨_, rfl⟩
          have HRES : Hid (t.ex F inp s = (s9, er9)) := by show _ = _; rw [HE2.out, hr9]
          have HCR := Lib.hid HCC'.out
          rw [hr9] at HCR
          clear hr9
          go_wp2_with fail
          refine HCR.out.mono ?_
          rintro e E9 ⟨cs9, ca9, cc9, oa9, oc9, rfl, hn9, hcc9, hst9, hfr9⟩
          have HFE := Lib.hid (HFX3.out.call hfr9)
          have HN9 := Lib.hid (hn9.trans HN1.out)
          have HCC9 := Lib.hid hcc9
          have HS9 : Hid (RSt B F inp E9 s9 er9 cs9 y ca9 ia oa9 oc9) := hst9
          clear hn9 hcc9 hst9 hfr9 HCR HCC' HE2 t0 t1 t2 t3 e0 e1 e2 e3 e4 e5 e6
          obtain ⟨R, hR⟩ : ∃ R, set7 E9 W2.heap.size (.slice ca9 cs9.length cc9) (.slice ia inp.length ic) (.slice oa9 s9.out.length oc9) (.int .i64 (s9.rd : Int)) (.int .i64 (s9.st : Int)) (.int .i64 F) (.int .i64 er9) = R := ⟨_, rfl⟩
          have HSR : Hid (RSt B F inp R s9 er9 cs9 y ca9 ia oa9 oc9) := by show RSt _ _ _ _ _ _ _ _ _ _ _ _; rw [← hR]; exact HS9.out.fout HFE.out _ _ _ _ _ _ _
          have HFO : Hid (FrR B cs.length y w R ∧ R.heap[W2.heap.size]? = some (envObj ca9 cs9.length cc9 ia inp.length ic oa9 s9.out.length oc9 (s9.rd : Int) (s9.st : Int) F er9)) := by show _ ∧ _; rw [← hR]; exact HFE.out.fout _ _ _ _ _ _ _
          obtain ⟨y0, y1, y2, y3, y4, y5, y6⟩ := env_cells HFE.out.x3
          obtain ⟨q0, q1, q2, q3, q4, q5, q6⟩ := env_free HFE.out.x3
          unfold set7 at hR
          go_wp2_with fail
          try rw [hR]
          clear y0 y1 y2 y3 y4 y5 y6 q0 q1 q2 q3 q4 q5 q6 hR
          obtain ⟨z0, z1, z2, z3, z4, z5, z6⟩ := env_cells HFO.out.2
          refine bodyPost_ret (v := envVal ca9 cs9.length cc9 ia inp.length ic oa9 s9.out.length oc9 (s9.rd : Int) (s9.st : Int) F er9) (by simp [results, Tryd.results58, go_sem, z0, z1, z2, z3, z4, z5, z6]) rfl ?_
          rw [HRES.out]
          exact ⟨cs9, ca9, cc9, oa9, oc9, rfl, HN9.out.trans HNN.out.symm, HCC9.out, HSR.out, HFO.out.1⟩
      · have her1 : (er1 == 0) = false := by simpa using her
        have HRES : Hid (t.ex F inp s = (s1, er1)) := by
          show _ = _
          rw [HEQ.out]
          unfold exB
          rcases HKK.out with hk | hk
          · have h := asg_er (v1 := kidE t 1 s1) (s := s1) HQ.out her
            rw [if_pos hk, HEp.out, HV0.out]; exact h
          · have h := rec_er (inp := inp) (s := s1) HQ.out her
            rw [if_neg (by omega), if_neg (by omega), if_neg (by omega), if_neg (by omega), if_pos hk, HEp.out, HV0.out]; exact h
        have HSTE := Lib.hid (HST3.out.err er1)
        clear her
        obtain ⟨R, hR⟩ : ∃ R, set7 E2 W2.heap.size (.slice ca cs.length cc) (.slice ia inp.length ic) (.slice oa s1.out.length oc) (.int .i64 (s1.rd : Int)) (.int .i64 (s1.st : Int)) (.int .i64 F) (.int .i64 er1) = R := ⟨_, rfl⟩
        have HSR : Hid (RSt B F inp R s1 er1 cs y ca ia oa oc) := by show RSt _ _ _ _ _ _ _ _ _ _ _ _; rw [← hR]; exact HSTE.out.fout HFX3.out _ _ _ _ _ _ _
        have HFO : Hid (FrR B cs.length y w R ∧ R.heap[W2.heap.size]? = some (envObj ca cs.length cc ia inp.length ic oa s1.out.length oc (s1.rd : Int) (s1.st : Int) F er1)) := by show _ ∧ _; rw [← hR]; exact HFX3.out.fout _ _ _ _ _ _ _
        obtain ⟨y0, y1, y2, y3, y4, y5, y6⟩ := env_cells HFX3.out.x3
        obtain ⟨q0, q1, q2, q3, q4, q5, q6⟩ := env_free HFX3.out.x3
        unfold set7 at hR
        go_wp2_with fail
        try rw [hR]
        clear e0 e1 e2 e3 e4 e5 e6 y0 y1 y2 y3 y4 y5 y6 q0 q1 q2 q3 q4 q5 q6 hR
        obtain ⟨z0, z1, z2, z3, z4, z5, z6⟩ := env_cells HFO.out.2
        refine bodyPost_ret (v := envVal ca cs.length cc ia inp.length ic oa s1.out.length oc (s1.rd : Int) (s1.st : Int) F er1) (by simp [results, Tryd.results58, go_sem, z0, z1, z2, z3, z4, z5, z6]) rfl ?_
        rw [HRES.out]
        exact ⟨cs, ca, cc, oa, oc, rfl, HN1.out.trans HNN.out.symm, HCC1.out, HSR.out, HFO.out.1⟩
    · skip
      have b41 : (t.kind == 41) = true := by simp [hk]
      have hl : t.len = 3 := by rw [HLENK.out, hk]; rfl
      have hl0 : 0 < t.len := by omega
      have hl1 : 1 < t.len := by omega
      have hl2 : 2 < t.len := by omega
      have hl0i : (0 : Int) < (t.len : Int) := by omega
      have hl1i : (1 : Int) < (t.len : Int) := by omega
      have hl2i : (2 : Int) < (t.len : Int) := by omega
      have hxv : (t.kid 0).vld 101 = true := by have h := HKV.out 0 hl0; rw [hk] at h; exact h
      have hyv : (t.kid 1).vld 98 = true := by have h := HKV.out 1 hl1; rw [hk] at h; exact h
      have hzv : (t.kid 2).vld 98 = true := by have h := HKV.out 2 hl2; rw [hk] at h; exact h
      have HBY := Lib.hid (HB.out (by omega) 1 hl1 hyv)
      have HBZ := Lib.hid (HB.out (by omega) 2 hl2 hzv)
      have HE2 : Hid (t.ex F inp s = runE ((t.kid 0).ev s1.V s1.A) s1 fun x => if x = 0 then (t.kid 2).ex F inp s1 else (t.kid 1).ex F inp s1) := by
        show _ = _; rw [HEQ.out]; unfold exB; rw [if_neg (by omega), if_pos hk]; unfold kidE kidX; rw [if_pos hl0, if_pos hl1, if_pos hl2]
      obtain ⟨kb, ko, rfl, hkb, xa, xc, hnx, hrx⟩ := kid_in HR.out hl0
      rw [Nat.zero_mul, Nat.add_zero] at hnx
      obtain ⟨x, hxe⟩ : ∃ x, t.kid 0 = x := ⟨_, rfl⟩
      rw [hxe] at hnx hrx
      have HIx : Hid (InB B w x xa) := hrx
      have HNX : Hid (∀ w', Below B w w' → NodeAt w' kb (ko) x xa xc) := fun w' hw => hnx.below hw hkb
      have HEx := Lib.hid hxe
      clear hnx hrx hxe
      obtain ⟨kb', ko', hsame, _, ya, yc, hnx, hrx⟩ := kid_in HR.out hl1
      cases hsame
      rw [Nat.one_mul] at hnx
      obtain ⟨z1, hxe⟩ : ∃ x, t.kid 1 = x := ⟨_, rfl⟩
      rw [hxe] at hnx hrx
      have HIz1 : Hid (InB B w z1 ya) := hrx
      have HNY : Hid (∀ w', Below B w w' → NodeAt w' kb (ko + 4) z1 ya yc) := fun w' hw => hnx.below hw hkb
      have HEz1 := Lib.hid hxe
      clear hnx hrx hxe
      obtain ⟨kb', ko', hsame, _, za, zc, hnx, hrx⟩ := kid_in HR.out hl2
      cases hsame
      obtain ⟨z2, hxe⟩ : ∃ x, t.kid 2 = x := ⟨_, rfl⟩
      rw [hxe] at hnx hrx
      have HIz2 : Hid (InB B w z2 za) := hrx
      have HNZ : Hid (∀ w', Below B w w' → NodeAt w' kb (ko + 2 * 4) z2 za zc) := fun w' hw => hnx.below hw hkb
      have HEz2 := Lib.hid hxe
      clear hnx hrx hxe
      rw [HEx.out] at hxv HE2
      rw [HEz1.out] at HBY HE2 hyv
      rw [HEz2.out] at HBZ HE2 hzv
      have HXV := Lib.hid hxv
      clear hk hl hxv hyv hzv HEx HEz1 HEz2 HEQ
      go_upto_region 6 with fail
      clear t0 t1 t2 t3 e0 e1 e2 e3 e4 e5 e6
      have HE := Lib.hid (refE_at (cc := cc) (ci := xc) HXV.out HFX2.out HST2.out HIx.out)
      obtain ⟨v, hv⟩ : ∃ v, x.ev s1.V s1.A = v := ⟨_, rfl⟩
      have HEN := Lib.hid (fun k (h : x.ev s1.V s1.A = .er k) => ev_ne0 _ _ x k h)
      rw [hv] at HE HE2 HEN
      clear hv
      have HCE : Hid (∀ V, Below A0.heap.size A0 V → Calls Tryd.prog 30 #[x.val xa xc, .slice ca cs.length cc] V (RefEQ v V)) := HE.out
      have hD0 : Below A0.heap.size A0 (World.drew A0) := (Below.refl _ _).drew
      refine wp_region_held_drew (S := fun w' => Below A0.heap.size A0 w') (by kernel_rfl) hD0 (fun hHeld => ?_)
      generalize hwd : World.drew A0 = V0 at hHeld hD0 ⊢
      clear hwd
      have HD0 := Lib.hid hD0
      clear hD0
      refine hT 0 (.pointer (some ⟨w.heap.size, 3, none⟩)) rfl (hy := ?_) (h := ?_)
      · intro w' hSw; go_simp
      (try simp only [Act.put, pA, pB, pD, pE, pF])
      refine hT 1 (.slice (some ⟨kb, ko, none⟩) t.len c) rfl (hy := ?_) (h := ?_)
      · intro w' hSw; obtain ⟨z0, z1, z2, z3⟩ := nd_cells (HFX2.out.keep hSw).x1; go_simp
      (try simp only [Act.put, pA, pB, pC, pD, pE, pF])
      refine hT 2 (.pointer (some ⟨kb, ko, none⟩)) rfl (hy := ?_) (h := ?_)
      · intro w' hSw; go_simp
      (try simp only [Act.put, pA, pB, pC, pD, pE, pF])
      refine hT 3 (x.val xa xc) rfl (hy := ?_) (h := ?_)
      · intro w' hSw; obtain ⟨z0, z1, z2, z3⟩ := HNX.out _ ((HFX2.out.keep hSw).fr.low); go_simp
      (try simp only [Act.put, pA, pB, pC, pD, pE, pF])
      refine hT 4 (.pointer (some ⟨W1.heap.size, 0, none⟩)) rfl (hy := ?_) (h := ?_)
      · intro w' hSw; go_simp
      (try simp only [Act.put, pA, pB, pC, pD, pE, pF])
      refine hT 5 (.slice ca cs.length cc) rfl (hy := ?_) (h := ?_)
      · intro w' hSw; obtain ⟨z0, z1, z2, z3, z4, z5, z6⟩ := env_cells (HFX2.out.keep hSw).x2; go_simp
      (try simp only [Act.put, pA, pB, pC, pD, pE, pF])
      refine rdH 6 rfl (fun K hK => ?_)
      go_simp
      refine (HCE.out V0 HD0.out).mono ?_
      rintro e E2 ⟨xv, rfl, hxW, hxy, hB2⟩
      have HBE := Lib.hid (mem_then HD0.out hB2)
      have HXW := Lib.hid hxW
      have HXY := Lib.hid hxy
      clear hB2 hxW hxy
      obtain ⟨kv, hkv⟩ : ∃ k, evK v = k := ⟨_, rfl⟩
      rw [hkv]
      have HKV' := Lib.hid hkv
      clear hkv
      refine hK.out _ _ (HBE.out) (fun hHeld => ?_)
      clear hK K
      rename_i hOld
      clear hOld
      (try simp only [Act.put, pA, pB, pC, pD, pE, pF])
      refine hT 7 (.tuple #[.int .i32 xv, .int .i64 kv]) rfl (hy := ?_) (h := ?_)
      · intro w' hSw; go_simp
      (try simp only [Act.put, pA, pB, pC, pD, pE, pF])
      refine hT 8 (.int .i32 xv) rfl (hy := ?_) (h := ?_)
      · intro w' hSw; go_simp
      (try simp only [Act.put, pA, pB, pC, pD, pE, pF])
      refine hT 9 (.int .i64 kv) rfl (hy := ?_) (h := ?_)
      · intro w' hSw; go_simp
      (try simp only [Act.put, pA, pB, pC, pD, pE, pF])
      refine hT 10 (.int .i32 xv) rfl (hy := ?_) (h := ?_)
      · intro w' hSw; go_simp
      (try simp only [Act.put, pA, pB, pC, pD, pE, pF])
      refine hT 11 (.int .i64 kv) rfl (hy := ?_) (h := ?_)
      · intro w' hSw; go_simp
      (try simp only [Act.put, pA, pB, pC, pD, pE, pF])
      clear hHeld
      refine wpAnyH_done (by kernel_rfl) ?_ _
      have HFX3 : Hid (Fx B cs.length w.heap.size W1.heap.size W2.heap.size y w t (some ⟨kb, ko, none⟩) c #[.slice ca cs.length cc, .slice ia inp.length ic, .slice oa s1.out.length oc, .int .i64 (s1.rd : Int), .int .i64 (s1.st : Int), .int .i64 F, .int .i64 0] E2) := HFX2.out.keep HBE.out
      have HST3 : Hid (RSt B F inp E2 s1 0 cs y ca ia oa oc) := HST2.out.below HBE.out HFX2.out.big
      obtain ⟨e0, e1, e2, e3, e4, e5, e6⟩ := env_cells HFX3.out.x2
      cases v with
      | er k =>
        have hk0 : kv ≠ 0 := by
          rw [← HKV'.out]
          exact HEN.out k rfl
        have hk1 : (kv == 0) = false := by simpa using hk0
        have HRES : Hid (t.ex F inp s = (s1, kv)) := by show _ = _; rw [HE2.out, ← HKV'.out]; rfl
        clear HE2 HKV' HEN HE HCE HXY
        obtain ⟨V, hV⟩ : ∃ V : World, E2.setCell ⟨W1.heap.size, 6, none⟩ (.int .i64 kv) = V := ⟨_, rfl⟩
        have HFX4 : Hid (Fx B cs.length w.heap.size W1.heap.size W2.heap.size y w t (some ⟨kb, ko, none⟩) c #[.slice ca cs.length cc, .slice ia inp.length ic, .slice oa s1.out.length oc, .int .i64 (s1.rd : Int), .int .i64 (s1.st : Int), .int .i64 F, .int .i64 kv] V) := by show Fx _ _ _ _ _ _ _ _ _ _ _ _; rw [← hV]; exact HFX3.out.set1 6 _
        have HST4 : Hid (RSt B F inp V s1 kv cs y ca ia oa oc) := by show RSt _ _ _ _ _ _ _ _ _ _ _ _; rw [← hV]; exact (HST3.out.err _).fset1 HFX3.out 6 _
        have f6 := mem_free HFX3.out.x2 6
        go_upto_region 9 with fail
        try rw [hV]
        clear f6 e0 e1 e2 e3 e4 e5 e6  hV
        obtain ⟨e0, e1, e2, e3, e4, e5, e6⟩ := env_cells HFX4.out.x2
        obtain ⟨R, hR⟩ : ∃ R, set7 V W2.heap.size (.slice ca cs.length cc) (.slice ia inp.length ic) (.slice oa s1.out.length oc) (.int .i64 (s1.rd : Int)) (.int .i64 (s1.st : Int)) (.int .i64 F) (.int .i64 kv) = R := ⟨_, rfl⟩
        have HSR : Hid (RSt B F inp R s1 kv cs y ca ia oa oc) := by show RSt _ _ _ _ _ _ _ _ _ _ _ _; rw [← hR]; exact HST4.out.fout HFX4.out _ _ _ _ _ _ _
        have HFO : Hid (FrR B cs.length y w R ∧ R.heap[W2.heap.size]? = some (envObj ca cs.length cc ia inp.length ic oa s1.out.length oc (s1.rd : Int) (s1.st : Int) F kv)) := by show _ ∧ _; rw [← hR]; exact HFX4.out.fout _ _ _ _ _ _ _
        obtain ⟨y0, y1, y2, y3, y4, y5, y6⟩ := env_cells HFX4.out.x3
        obtain ⟨q0, q1, q2, q3, q4, q5, q6⟩ := env_free HFX4.out.x3
        unfold set7 at hR
        go_wp2_with fail
        try rw [hR]
        clear e0 e1 e2 e3 e4 e5 e6 y0 y1 y2 y3 y4 y5 y6 q0 q1 q2 q3 q4 q5 q6 hR
        obtain ⟨z0, z1, z2, z3, z4, z5, z6⟩ := env_cells HFO.out.2
        refine bodyPost_ret (v := envVal ca cs.length cc ia inp.length ic oa s1.out.length oc (s1.rd : Int) (s1.st : Int) F kv) (by simp [results, Tryd.results58, go_sem, z0, z1, z2, z3, z4, z5, z6]) rfl ?_
        rw [HRES.out]
        exact ⟨cs, ca, cc, oa, oc, rfl, HN1.out.trans HNN.out.symm, HCC1.out, HSR.out, HFO.out.1⟩
      | ok k =>
        obtain rfl : xv = k := HXY.out k rfl
        obtain rfl : (0 : Int) = kv := HKV'.out
        clear HKV' HEN HE HCE HXY
        by_cases hx0 : xv = 0
        · skip
          have hx1 : (xv == 0) = true := by simpa using hx0

          have HRES0 : Hid (t.ex F inp s = z2.ex F inp s1) := by
            have h1 : t.ex F inp s = (if xv = 0 then z2.ex F inp s1 else z1.ex F inp s1) := HE2.out
            rw [if_pos hx0] at h1
            exact h1
          have HC2 := Lib.hid (HBZ.out.at_ (cc := cc) (ci := zc) HFX3.out HST3.out HN1.out HCC1.out HIz2.out)
          obtain ⟨⟨s3, er3⟩, hr3⟩ : ∃ r, z2.ex F inp s1 = r := ⟨_, rfl⟩
          rw [hr3] at HC2 HRES0
          have HRES := Lib.hid HRES0.out
          have HCB : Hid (∀ V, Below E2.heap.size E2 V → Calls Tryd.prog 41 #[z2.val za zc, envVal ca cs.length cc ia inp.length ic oa s1.out.length oc (s1.rd : Int) (s1.st : Int) F 0] V (RQ B F inp cs y ia ic V (s3, er3))) := HC2.out
          clear hr3 HC2 HE2
          go_upto_region 12 with fail
          clear e0 e1 e2 e3 e4 e5 e6
          have hD0 : Below E2.heap.size E2 (World.drew E2) := (Below.refl _ _).drew
          refine wp_region_z 6 (S := fun w' => Fx B cs.length w.heap.size W1.heap.size W2.heap.size y w t (some ⟨kb, ko, none⟩) c #[.slice ca cs.length cc, .slice ia inp.length ic, .slice oa s1.out.length oc, .int .i64 (s1.rd : Int), .int .i64 (s1.st : Int), .int .i64 F, .int .i64 0] w') (by kernel_rfl) (HFX3.out.keep hD0) (fun hHeld => ?_)
          generalize hwd : World.drew E2 = V1 at hHeld hD0 ⊢
          clear hwd
          have HD0 := Lib.hid hD0
          clear hD0
          refine zT 0 (.pointer (some ⟨w.heap.size, 3, none⟩)) rfl (hy := ?_) (h := ?_)
          · intro w' hSw; go_simp
          (try simp only [Act.put, pA, pB, pD, pE, pF])
          refine zT 1 (.slice (some ⟨kb, ko, none⟩) t.len c) rfl (hy := ?_) (h := ?_)
          · intro w' hSw; obtain ⟨z0, z1, z2, z3⟩ := nd_cells hSw.x1; go_simp
          (try simp only [Act.put, pA, pB, pC, pD, pE, pF])
          refine zT 2 (.pointer (some ⟨kb, ko + 8, none⟩)) rfl (hy := ?_) (h := ?_)
          · intro w' hSw; go_simp
          (try simp only [Act.put, pA, pB, pC, pD, pE, pF])
          refine zT 3 (z2.val za zc) rfl (hy := ?_) (h := ?_)
          · intro w' hSw; obtain ⟨z0, z1, z2, z3⟩ := HNZ.out _ hSw.fr.low; go_simp
          (try simp only [Act.put, pA, pB, pC, pD, pE, pF])
          refine zT 4 (envVal ca cs.length cc ia inp.length ic oa s1.out.length oc (s1.rd : Int) (s1.st : Int) F 0) rfl (hy := ?_) (h := ?_)
          · intro w' hSw; obtain ⟨z0, z1, z2, z3, z4, z5, z6⟩ := env_cells hSw.x2; go_simp
          (try simp only [Act.put, pA, pB, pC, pD, pE, pF])
          refine zR 5 rfl (fun K hK => ?_)
          go_simp
          refine (HCB.out V1 HD0.out).mono ?_
          rintro e E3 ⟨cs3, ca3, cc3, oa3, oc3, rfl, hn2, hcc2, hst2, hfr2⟩
          have HFE : Hid (Fx B cs.length w.heap.size W1.heap.size W2.heap.size y w t (some ⟨kb, ko, none⟩) c #[.slice ca cs.length cc, .slice ia inp.length ic, .slice oa s1.out.length oc, .int .i64 (s1.rd : Int), .int .i64 (s1.st : Int), .int .i64 F, .int .i64 0] E3) := (HFX3.out.keep HD0.out).call hfr2
          have HN2 := Lib.hid (hn2.trans HN1.out)
          have HCC2 := Lib.hid hcc2
          have HS2 : Hid (RSt B F inp E3 s3 er3 cs3 y ca3 ia oa3 oc3) := hst2
          clear hn2 hcc2 hst2 hfr2
          refine hK.out _ _ (HFE.out) (fun hHeld => ?_)
          clear hK K
          rename_i hOld
          clear hOld
          (try simp only [Act.put, pA, pB, pC, pD, pE, pF])
          obtain ⟨R, hR⟩ : ∃ R, set7 E3 W2.heap.size (.slice ca3 cs3.length cc3) (.slice ia inp.length ic) (.slice oa3 s3.out.length oc3) (.int .i64 (s3.rd : Int)) (.int .i64 (s3.st : Int)) (.int .i64 F) (.int .i64 er3) = R := ⟨_, rfl⟩
          have HSR : Hid (RSt B F inp R s3 er3 cs3 y ca3 ia oa3 oc3) := by show RSt _ _ _ _ _ _ _ _ _ _ _ _; rw [← hR]; exact HS2.out.fout HFE.out _ _ _ _ _ _ _
          have HFO : Hid (FrR B cs.length y w R ∧ R.heap[W2.heap.size]? = some (envObj ca3 cs3.length cc3 ia inp.length ic oa3 s3.out.length oc3 (s3.rd : Int) (s3.st : Int) F er3)) := by show _ ∧ _; rw [← hR]; exact HFE.out.fout _ _ _ _ _ _ _
          obtain ⟨y0, y1, y2, y3, y4, y5, y6⟩ := env_cells HFE.out.x3
          obtain ⟨q0, q1, q2, q3, q4, q5, q6⟩ := env_free HFE.out.x3
          unfold set7 at hR
          refine wpAnyZ_ready (rs := [6]) (by kernel_rfl) (by simp) (AllReadyZ.last rfl (by decide) (fun K hK => ?_) AllReadyZ.nil)
          go_simp
          refine hK.out _ _ ?_
          clear hK K
          (try simp only [Act.put, pA, pB, pC, pD, pE, pF])
          try rw [hR]
          clear y0 y1 y2 y3 y4 y5 y6 q0 q1 q2 q3 q4 q5 q6 hHeld hR
          refine wpAnyZ_done (by kernel_rfl) ?_ _
          go_wp2_with fail
          obtain ⟨z0, z1, z2, z3, z4, z5, z6⟩ := env_cells HFO.out.2
          refine bodyPost_ret (v := envVal ca3 cs3.length cc3 ia inp.length ic oa3 s3.out.length oc3 (s3.rd : Int) (s3.st : Int) F er3) (by simp [results, Tryd.results58, go_sem, z0, z1, z2, z3, z4, z5, z6]) rfl ?_
          rw [HRES.out]
          exact ⟨cs3, ca3, cc3, oa3, oc3, rfl, HN2.out.trans HNN.out.symm, HCC2.out, HSR.out, HFO.out.1⟩
        · skip
          have hx1 : (xv == 0) = false := by simpa using hx0

          have HRES0 : Hid (t.ex F inp s = z1.ex F inp s1) := by
            have h1 : t.ex F inp s = (if xv = 0 then z2.ex F inp s1 else z1.ex F inp s1) := HE2.out
            rw [if_neg hx0] at h1
            exact h1
          have HC2 := Lib.hid (HBY.out.at_ (cc := cc) (ci := yc) HFX3.out HST3.out HN1.out HCC1.out HIz1.out)
          obtain ⟨⟨s3, er3⟩, hr3⟩ : ∃ r, z1.ex F inp s1 = r := ⟨_, rfl⟩
          rw [hr3] at HC2 HRES0
          have HRES := Lib.hid HRES0.out
          have HCB : Hid (∀ V, Below E2.heap.size E2 V → Calls Tryd.prog 41 #[z1.val ya yc, envVal ca cs.length cc ia inp.length ic oa s1.out.length oc (s1.rd : Int) (s1.st : Int) F 0] V (RQ B F inp cs y ia ic V (s3, er3))) := HC2.out
          clear hr3 HC2 HE2
          go_upto_region 11 with fail
          clear e0 e1 e2 e3 e4 e5 e6
          have hD0 : Below E2.heap.size E2 (World.drew E2) := (Below.refl _ _).drew
          refine wp_region_z 6 (S := fun w' => Fx B cs.length w.heap.size W1.heap.size W2.heap.size y w t (some ⟨kb, ko, none⟩) c #[.slice ca cs.length cc, .slice ia inp.length ic, .slice oa s1.out.length oc, .int .i64 (s1.rd : Int), .int .i64 (s1.st : Int), .int .i64 F, .int .i64 0] w') (by kernel_rfl) (HFX3.out.keep hD0) (fun hHeld => ?_)
          generalize hwd : World.drew E2 = V1 at hHeld hD0 ⊢
          clear hwd
          have HD0 := Lib.hid hD0
          clear hD0
          refine zT 0 (.pointer (some ⟨w.heap.size, 3, none⟩)) rfl (hy := ?_) (h := ?_)
          · intro w' hSw; go_simp
          (try simp only [Act.put, pA, pB, pD, pE, pF])
          refine zT 1 (.slice (some ⟨kb, ko, none⟩) t.len c) rfl (hy := ?_) (h := ?_)
          · intro w' hSw; obtain ⟨z0, z1, z2, z3⟩ := nd_cells hSw.x1; go_simp
          (try simp only [Act.put, pA, pB, pC, pD, pE, pF])
          refine zT 2 (.pointer (some ⟨kb, ko + 4, none⟩)) rfl (hy := ?_) (h := ?_)
          · intro w' hSw; go_simp
          (try simp only [Act.put, pA, pB, pC, pD, pE, pF])
          refine zT 3 (z1.val ya yc) rfl (hy := ?_) (h := ?_)
          · intro w' hSw; obtain ⟨z0, z1, z2, z3⟩ := HNY.out _ hSw.fr.low; go_simp
          (try simp only [Act.put, pA, pB, pC, pD, pE, pF])
          refine zT 4 (envVal ca cs.length cc ia inp.length ic oa s1.out.length oc (s1.rd : Int) (s1.st : Int) F 0) rfl (hy := ?_) (h := ?_)
          · intro w' hSw; obtain ⟨z0, z1, z2, z3, z4, z5, z6⟩ := env_cells hSw.x2; go_simp
          (try simp only [Act.put, pA, pB, pC, pD, pE, pF])
          refine zR 5 rfl (fun K hK => ?_)
          go_simp
          refine (HCB.out V1 HD0.out).mono ?_
          rintro e E3 ⟨cs3, ca3, cc3, oa3, oc3, rfl, hn2, hcc2, hst2, hfr2⟩
          have HFE : Hid (Fx B cs.length w.heap.size W1.heap.size W2.heap.size y w t (some ⟨kb, ko, none⟩) c #[.slice ca cs.length cc, .slice ia inp.length ic, .slice oa s1.out.length oc, .int .i64 (s1.rd : Int), .int .i64 (s1.st : Int), .int .i64 F, .int .i64 0] E3) := (HFX3.out.keep HD0.out).call hfr2
          have HN2 := Lib.hid (hn2.trans HN1.out)
          have HCC2 := Lib.hid hcc2
          have HS2 : Hid (RSt B F inp E3 s3 er3 cs3 y ca3 ia oa3 oc3) := hst2
          clear hn2 hcc2 hst2 hfr2
          refine hK.out _ _ (HFE.out) (fun hHeld => ?_)
          clear hK K
          rename_i hOld
          clear hOld
          (try simp only [Act.put, pA, pB, pC, pD, pE, pF])
          obtain ⟨R, hR⟩ : ∃ R, set7 E3 W2.heap.size (.slice ca3 cs3.length cc3) (.slice ia inp.length ic) (.slice oa3 s3.out.length oc3) (.int .i64 (s3.rd : Int)) (.int .i64 (s3.st : Int)) (.int .i64 F) (.int .i64 er3) = R := ⟨_, rfl⟩
          have HSR : Hid (RSt B F inp R s3 er3 cs3 y ca3 ia oa3 oc3) := by show RSt _ _ _ _ _ _ _ _ _ _ _ _; rw [← hR]; exact HS2.out.fout HFE.out _ _ _ _ _ _ _
          have HFO : Hid (FrR B cs.length y w R ∧ R.heap[W2.heap.size]? = some (envObj ca3 cs3.length cc3 ia inp.length ic oa3 s3.out.length oc3 (s3.rd : Int) (s3.st : Int) F er3)) := by show _ ∧ _; rw [← hR]; exact HFE.out.fout _ _ _ _ _ _ _
          obtain ⟨y0, y1, y2, y3, y4, y5, y6⟩ := env_cells HFE.out.x3
          obtain ⟨q0, q1, q2, q3, q4, q5, q6⟩ := env_free HFE.out.x3
          unfold set7 at hR
          refine wpAnyZ_ready (rs := [6]) (by kernel_rfl) (by simp) (AllReadyZ.last rfl (by decide) (fun K hK => ?_) AllReadyZ.nil)
          go_simp
          refine hK.out _ _ ?_
          clear hK K
          (try simp only [Act.put, pA, pB, pC, pD, pE, pF])
          try rw [hR]
          clear y0 y1 y2 y3 y4 y5 y6 q0 q1 q2 q3 q4 q5 q6 hHeld hR
          refine wpAnyZ_done (by kernel_rfl) ?_ _
          go_wp2_with fail
          obtain ⟨z0, z1, z2, z3, z4, z5, z6⟩ := env_cells HFO.out.2
          refine bodyPost_ret (v := envVal ca3 cs3.length cc3 ia inp.length ic oa3 s3.out.length oc3 (s3.rd : Int) (s3.st : Int) F er3) (by simp [results, Tryd.results58, go_sem, z0, z1, z2, z3, z4, z5, z6]) rfl ?_
          rw [HRES.out]
          exact ⟨cs3, ca3, cc3, oa3, oc3, rfl, HN2.out.trans HNN.out.symm, HCC2.out, HSR.out, HFO.out.1⟩
    · skip
      have b41 : (t.kind == 41) = false := by simp [hk]
      have b42 : (t.kind == 42) = true := by simp [hk]
      have HE2 : Hid (t.ex F inp s = (seqTo (forR F t.name (kidX F inp t 0)) t.num.toNat s1).then fun s1 => (s1.putV t.name none, 0)) := by
        show _ = _; rw [HEQ.out]; unfold exB; rw [if_neg (by omega), if_neg (by omega), if_pos hk]
      have HCT := Lib.hid (count16_of (y := y) t hF HV.out hk (HDEC.out.2.1 hk) HLN.out (HBF.out hk))
      have HIN : Hid (InB B w t a) := HR.out
      have HCC' := Lib.hid (HCT.out.at_ (cc := cc) (ci := c) HFX2.out HST2.out HN1.out HCC1.out HIN.out)
      clear hk HEQ HCT
      obtain ⟨⟨s9, er9⟩, hr9⟩ : ∃ r, ((seqTo (forR F t.name (kidX F inp t 0)) t.num.toNat s1).then fun s1 => (s1.putV t.name none, 0)) = r := ⟨_, rfl⟩
      have HRES : Hid (t.ex F inp s = (s9, er9)) := by show _ = _; rw [HE2.out, hr9]
      have HCR := Lib.hid (HCC'.out A0 (Below.refl _ _))
      rw [hr9] at HCR
      clear hr9
      go_wp2_with fail
      refine HCR.out.mono ?_
      rintro e E9 ⟨cs9, ca9, cc9, oa9, oc9, rfl, hn9, hcc9, hst9, hfr9⟩
      have HFE := Lib.hid (HFX2.out.call hfr9)
      have HN9 := Lib.hid (hn9.trans HN1.out)
      have HCC9 := Lib.hid hcc9
      have HS9 : Hid (RSt B F inp E9 s9 er9 cs9 y ca9 ia oa9 oc9) := hst9
      clear hn9 hcc9 hst9 hfr9 HCR HCC' HE2 t0 t1 t2 t3 e0 e1 e2 e3 e4 e5 e6
      obtain ⟨R, hR⟩ : ∃ R, set7 E9 W2.heap.size (.slice ca9 cs9.length cc9) (.slice ia inp.length ic) (.slice oa9 s9.out.length oc9) (.int .i64 (s9.rd : Int)) (.int .i64 (s9.st : Int)) (.int .i64 F) (.int .i64 er9) = R := ⟨_, rfl⟩
      have HSR : Hid (RSt B F inp R s9 er9 cs9 y ca9 ia oa9 oc9) := by show RSt _ _ _ _ _ _ _ _ _ _ _ _; rw [← hR]; exact HS9.out.fout HFE.out _ _ _ _ _ _ _
      have HFO : Hid (FrR B cs.length y w R ∧ R.heap[W2.heap.size]? = some (envObj ca9 cs9.length cc9 ia inp.length ic oa9 s9.out.length oc9 (s9.rd : Int) (s9.st : Int) F er9)) := by show _ ∧ _; rw [← hR]; exact HFE.out.fout _ _ _ _ _ _ _
      obtain ⟨y0, y1, y2, y3, y4, y5, y6⟩ := env_cells HFE.out.x3
      obtain ⟨q0, q1, q2, q3, q4, q5, q6⟩ := env_free HFE.out.x3
      unfold set7 at hR
      go_wp2_with fail
      try rw [hR]
      clear y0 y1 y2 y3 y4 y5 y6 q0 q1 q2 q3 q4 q5 q6 hR
      obtain ⟨z0, z1, z2, z3, z4, z5, z6⟩ := env_cells HFO.out.2
      refine bodyPost_ret (v := envVal ca9 cs9.length cc9 ia inp.length ic oa9 s9.out.length oc9 (s9.rd : Int) (s9.st : Int) F er9) (by simp [results, Tryd.results58, go_sem, z0, z1, z2, z3, z4, z5, z6]) rfl ?_
      rw [HRES.out]
      exact ⟨cs9, ca9, cc9, oa9, oc9, rfl, HN9.out.trans HNN.out.symm, HCC9.out, HSR.out, HFO.out.1⟩
    · skip
      have b41 : (t.kind == 41) = false := by simp [hk]
      have b42 : (t.kind == 42) = false := by simp [hk]
      have b43 : (t.kind == 43) = true := by simp [hk]
      have HE2 : Hid (t.ex F inp s = whl F (kidE t 0) (kidX F inp t 1) t.num.toNat s1) := by
        show _ = _; rw [HEQ.out]; unfold exB; rw [if_neg (by omega), if_neg (by omega), if_neg (by omega), if_pos hk]
      have hl : t.len = 2 := by rw [HLENK.out, hk]; rfl
      have HCT := Lib.hid (while16_of t hF HV.out hk (HB.out (by omega) 1 (by omega) (by have h := HKV.out 1 (by omega); rw [hk] at h; exact h)))
      have HIN : Hid (InB B w t a) := HR.out
      have HCC' := Lib.hid (HCT.out.at_ (cc := cc) (ci := c) HFX2.out HST2.out HN1.out HCC1.out HIN.out)
      clear hk HEQ HCT hl
      obtain ⟨⟨s9, er9⟩, hr9⟩ : ∃ r, (whl F (kidE t 0) (kidX F inp t 1) t.num.toNat s1) = r := ⟨_, rfl⟩
      have HRES : Hid (t.ex F inp s = (s9, er9)) := by show _ = _; rw [HE2.out, hr9]
      have HCR := Lib.hid (HCC'.out A0 (Below.refl _ _))
      rw [hr9] at HCR
      clear hr9
      go_wp2_with fail
      refine HCR.out.mono ?_
      rintro e E9 ⟨cs9, ca9, cc9, oa9, oc9, rfl, hn9, hcc9, hst9, hfr9⟩
      have HFE := Lib.hid (HFX2.out.call hfr9)
      have HN9 := Lib.hid (hn9.trans HN1.out)
      have HCC9 := Lib.hid hcc9
      have HS9 : Hid (RSt B F inp E9 s9 er9 cs9 y ca9 ia oa9 oc9) := hst9
      clear hn9 hcc9 hst9 hfr9 HCR HCC' HE2 t0 t1 t2 t3 e0 e1 e2 e3 e4 e5 e6
      obtain ⟨R, hR⟩ : ∃ R, set7 E9 W2.heap.size (.slice ca9 cs9.length cc9) (.slice ia inp.length ic) (.slice oa9 s9.out.length oc9) (.int .i64 (s9.rd : Int)) (.int .i64 (s9.st : Int)) (.int .i64 F) (.int .i64 er9) = R := ⟨_, rfl⟩
      have HSR : Hid (RSt B F inp R s9 er9 cs9 y ca9 ia oa9 oc9) := by show RSt _ _ _ _ _ _ _ _ _ _ _ _; rw [← hR]; exact HS9.out.fout HFE.out _ _ _ _ _ _ _
      have HFO : Hid (FrR B cs.length y w R ∧ R.heap[W2.heap.size]? = some (envObj ca9 cs9.length cc9 ia inp.length ic oa9 s9.out.length oc9 (s9.rd : Int) (s9.st : Int) F er9)) := by show _ ∧ _; rw [← hR]; exact HFE.out.fout _ _ _ _ _ _ _
      obtain ⟨y0, y1, y2, y3, y4, y5, y6⟩ := env_cells HFE.out.x3
      obtain ⟨q0, q1, q2, q3, q4, q5, q6⟩ := env_free HFE.out.x3
      unfold set7 at hR
      go_wp2_with fail
      try rw [hR]
      clear y0 y1 y2 y3 y4 y5 y6 q0 q1 q2 q3 q4 q5 q6 hR
      obtain ⟨z0, z1, z2, z3, z4, z5, z6⟩ := env_cells HFO.out.2
      refine bodyPost_ret (v := envVal ca9 cs9.length cc9 ia inp.length ic oa9 s9.out.length oc9 (s9.rd : Int) (s9.st : Int) F er9) (by simp [results, Tryd.results58, go_sem, z0, z1, z2, z3, z4, z5, z6]) rfl ?_
      rw [HRES.out]
      exact ⟨cs9, ca9, cc9, oa9, oc9, rfl, HN9.out.trans HNN.out.symm, HCC9.out, HSR.out, HFO.out.1⟩
    · skip
      have b41 : (t.kind == 41) = false := by simp [hk]
      have b42 : (t.kind == 42) = false := by simp [hk]
      have b43 : (t.kind == 43) = false := by simp [hk]
      have b46 : (t.kind == 46) = false := by simp [hk]
      have b45 : (t.kind == 45) = true := by simp [hk]
      have hl : t.len = 1 := by rw [HLENK.out, hk]; rfl
      have hl0 : 0 < t.len := by omega
      have hl0i : (0 : Int) < (t.len : Int) := by omega
      have hxv : (t.kid 0).vld 101 = true := by have h := HKV.out 0 hl0; rw [hk] at h; exact h
      have HE2 : Hid (t.ex F inp s = runE ((t.kid 0).ev s1.V s1.A) s1 fun v => ({ s1 with out := s1.out ++ [(t.num, v)] }, 0)) := by
        show _ = _; rw [HEQ.out]; unfold exB; rw [if_neg (by omega), if_neg (by omega), if_neg (by omega), if_neg (by omega), if_neg (by omega), if_pos hk]; unfold kidE; rw [if_pos hl0]
      obtain ⟨kb, ko, rfl, hkb, xa, xc, hnx, hrx⟩ := kid_in HR.out hl0
      rw [Nat.zero_mul, Nat.add_zero] at hnx
      obtain ⟨x, hxe⟩ : ∃ x, t.kid 0 = x := ⟨_, rfl⟩
      rw [hxe] at hnx hrx
      have HIx : Hid (InB B w x xa) := hrx
      have HNX : Hid (∀ w', Below B w w' → NodeAt w' kb (ko) x xa xc) := fun w' hw => hnx.below hw hkb
      have HEx := Lib.hid hxe
      clear hnx hrx hxe
      rw [HEx.out] at hxv HE2
      have HXV := Lib.hid hxv
      have hol : s1.out.length ≤ 100000000 := by have h1 := HCN.out.2; have h2 := HST2.out.stF; omega
      obtain ⟨q0, hq, qz0, qz1, qz2⟩ := info_parts out_info
      clear hk hl hxv HEx HEQ
      go_upto_region 20 with fail
      clear t0 t1 t2 t3 e0 e1 e2 e3 e4 e5 e6
      have HE := Lib.hid (refE_at (cc := cc) (ci := xc) HXV.out HFX2.out HST2.out HIx.out)
      obtain ⟨v, hv⟩ : ∃ v, x.ev s1.V s1.A = v := ⟨_, rfl⟩
      have HEN := Lib.hid (fun k (h : x.ev s1.V s1.A = .er k) => ev_ne0 _ _ x k h)
      rw [hv] at HE HE2 HEN
      clear hv
      have HCE : Hid (∀ V, Below A0.heap.size A0 V → Calls Tryd.prog 30 #[x.val xa xc, .slice ca cs.length cc] V (RefEQ v V)) := HE.out
      have hD0 : Below A0.heap.size A0 (World.drew A0) := (Below.refl _ _).drew
      refine wp_region_held_drew (S := fun w' => Below A0.heap.size A0 w') (by kernel_rfl) hD0 (fun hHeld => ?_)
      generalize hwd : World.drew A0 = V0 at hHeld hD0 ⊢
      clear hwd
      have HD0 := Lib.hid hD0
      clear hD0
      refine hT 0 (.pointer (some ⟨w.heap.size, 3, none⟩)) rfl (hy := ?_) (h := ?_)
      · intro w' hSw; go_simp
      (try simp only [Act.put, pA, pB, pD, pE, pF])
      refine hT 1 (.slice (some ⟨kb, ko, none⟩) t.len c) rfl (hy := ?_) (h := ?_)
      · intro w' hSw; obtain ⟨z0, z1, z2, z3⟩ := nd_cells (HFX2.out.keep hSw).x1; go_simp
      (try simp only [Act.put, pA, pB, pC, pD, pE, pF])
      refine hT 2 (.pointer (some ⟨kb, ko, none⟩)) rfl (hy := ?_) (h := ?_)
      · intro w' hSw; go_simp
      (try simp only [Act.put, pA, pB, pC, pD, pE, pF])
      refine hT 3 (x.val xa xc) rfl (hy := ?_) (h := ?_)
      · intro w' hSw; obtain ⟨z0, z1, z2, z3⟩ := HNX.out _ ((HFX2.out.keep hSw).fr.low); go_simp
      (try simp only [Act.put, pA, pB, pC, pD, pE, pF])
      refine hT 4 (.pointer (some ⟨W1.heap.size, 0, none⟩)) rfl (hy := ?_) (h := ?_)
      · intro w' hSw; go_simp
      (try simp only [Act.put, pA, pB, pC, pD, pE, pF])
      refine hT 5 (.slice ca cs.length cc) rfl (hy := ?_) (h := ?_)
      · intro w' hSw; obtain ⟨z0, z1, z2, z3, z4, z5, z6⟩ := env_cells (HFX2.out.keep hSw).x2; go_simp
      (try simp only [Act.put, pA, pB, pC, pD, pE, pF])
      refine rdH 6 rfl (fun K hK => ?_)
      go_simp
      refine (HCE.out V0 HD0.out).mono ?_
      rintro e E2 ⟨xv, rfl, hxW, hxy, hB2⟩
      have HBE := Lib.hid (mem_then HD0.out hB2)
      have HXW := Lib.hid hxW
      have HXY := Lib.hid hxy
      clear hB2 hxW hxy
      obtain ⟨kv, hkv⟩ : ∃ k, evK v = k := ⟨_, rfl⟩
      rw [hkv]
      have HKV' := Lib.hid hkv
      clear hkv
      refine hK.out _ _ (HBE.out) (fun hHeld => ?_)
      clear hK K
      rename_i hOld
      clear hOld
      (try simp only [Act.put, pA, pB, pC, pD, pE, pF])
      refine hT 7 (.tuple #[.int .i32 xv, .int .i64 kv]) rfl (hy := ?_) (h := ?_)
      · intro w' hSw; go_simp
      (try simp only [Act.put, pA, pB, pC, pD, pE, pF])
      refine hT 8 (.int .i32 xv) rfl (hy := ?_) (h := ?_)
      · intro w' hSw; go_simp
      (try simp only [Act.put, pA, pB, pC, pD, pE, pF])
      refine hT 9 (.int .i64 kv) rfl (hy := ?_) (h := ?_)
      · intro w' hSw; go_simp
      (try simp only [Act.put, pA, pB, pC, pD, pE, pF])
      refine hT 10 (.int .i32 xv) rfl (hy := ?_) (h := ?_)
      · intro w' hSw; go_simp
      (try simp only [Act.put, pA, pB, pC, pD, pE, pF])
      refine hT 11 (.int .i64 kv) rfl (hy := ?_) (h := ?_)
      · intro w' hSw; go_simp
      (try simp only [Act.put, pA, pB, pC, pD, pE, pF])
      clear hHeld
      refine wpAnyH_done (by kernel_rfl) ?_ _
      have HFX3 : Hid (Fx B cs.length w.heap.size W1.heap.size W2.heap.size y w t (some ⟨kb, ko, none⟩) c #[.slice ca cs.length cc, .slice ia inp.length ic, .slice oa s1.out.length oc, .int .i64 (s1.rd : Int), .int .i64 (s1.st : Int), .int .i64 F, .int .i64 0] E2) := HFX2.out.keep HBE.out
      have HST3 : Hid (RSt B F inp E2 s1 0 cs y ca ia oa oc) := HST2.out.below HBE.out HFX2.out.big
      obtain ⟨e0, e1, e2, e3, e4, e5, e6⟩ := env_cells HFX3.out.x2
      cases v with
      | er k =>
        have hk0 : kv ≠ 0 := by
          rw [← HKV'.out]
          exact HEN.out k rfl
        have hk1 : (kv == 0) = false := by simpa using hk0
        have HRES : Hid (t.ex F inp s = (s1, kv)) := by show _ = _; rw [HE2.out, ← HKV'.out]; rfl
        clear HE2 HKV' HEN HE HCE HXY
        obtain ⟨V, hV⟩ : ∃ V : World, E2.setCell ⟨W1.heap.size, 6, none⟩ (.int .i64 kv) = V := ⟨_, rfl⟩
        have HFX4 : Hid (Fx B cs.length w.heap.size W1.heap.size W2.heap.size y w t (some ⟨kb, ko, none⟩) c #[.slice ca cs.length cc, .slice ia inp.length ic, .slice oa s1.out.length oc, .int .i64 (s1.rd : Int), .int .i64 (s1.st : Int), .int .i64 F, .int .i64 kv] V) := by show Fx _ _ _ _ _ _ _ _ _ _ _ _; rw [← hV]; exact HFX3.out.set1 6 _
        have HST4 : Hid (RSt B F inp V s1 kv cs y ca ia oa oc) := by show RSt _ _ _ _ _ _ _ _ _ _ _ _; rw [← hV]; exact (HST3.out.err _).fset1 HFX3.out 6 _
        have f6 := mem_free HFX3.out.x2 6
        go_upto_region 23 with fail
        try rw [hV]
        clear f6 e0 e1 e2 e3 e4 e5 e6  hV
        obtain ⟨e0, e1, e2, e3, e4, e5, e6⟩ := env_cells HFX4.out.x2
        obtain ⟨R, hR⟩ : ∃ R, set7 V W2.heap.size (.slice ca cs.length cc) (.slice ia inp.length ic) (.slice oa s1.out.length oc) (.int .i64 (s1.rd : Int)) (.int .i64 (s1.st : Int)) (.int .i64 F) (.int .i64 kv) = R := ⟨_, rfl⟩
        have HSR : Hid (RSt B F inp R s1 kv cs y ca ia oa oc) := by show RSt _ _ _ _ _ _ _ _ _ _ _ _; rw [← hR]; exact HST4.out.fout HFX4.out _ _ _ _ _ _ _
        have HFO : Hid (FrR B cs.length y w R ∧ R.heap[W2.heap.size]? = some (envObj ca cs.length cc ia inp.length ic oa s1.out.length oc (s1.rd : Int) (s1.st : Int) F kv)) := by show _ ∧ _; rw [← hR]; exact HFX4.out.fout _ _ _ _ _ _ _
        obtain ⟨y0, y1, y2, y3, y4, y5, y6⟩ := env_cells HFX4.out.x3
        obtain ⟨q0, q1, q2, q3, q4, q5, q6⟩ := env_free HFX4.out.x3
        unfold set7 at hR
        go_wp2_with fail
        try rw [hR]
        clear e0 e1 e2 e3 e4 e5 e6 y0 y1 y2 y3 y4 y5 y6 q0 q1 q2 q3 q4 q5 q6 hR
        obtain ⟨z0, z1, z2, z3, z4, z5, z6⟩ := env_cells HFO.out.2
        refine bodyPost_ret (v := envVal ca cs.length cc ia inp.length ic oa s1.out.length oc (s1.rd : Int) (s1.st : Int) F kv) (by simp [results, Tryd.results58, go_sem, z0, z1, z2, z3, z4, z5, z6]) rfl ?_
        rw [HRES.out]
        exact ⟨cs, ca, cc, oa, oc, rfl, HN1.out.trans HNN.out.symm, HCC1.out, HSR.out, HFO.out.1⟩
      | ok k =>
        obtain rfl : xv = k := HXY.out k rfl
        obtain rfl : (0 : Int) = kv := HKV'.out
        obtain ⟨s2, hs2⟩ : ∃ s2, ({ s1 with out := s1.out ++ [(t.num, xv)] } : St) = s2 := ⟨_, rfl⟩
        have HRES : Hid (t.ex F inp s = (s2, 0)) := by show _ = _; rw [HE2.out, ← hs2]; rfl
        clear HKV' HEN HE HCE HXY HE2
        obtain ⟨t0, t1, t2, t3⟩ := nd_cells HFX3.out.x1
        have HNEW : Hid ((E2.alloc (.cells #[.int .i64 t.num, .int .i32 xv] 80)).heap[E2.heap.size]? = some (.cells #[.int .i64 t.num, .int .i32 xv] 80)) := mem_new _ _
        have HBV : Hid (Below E2.heap.size E2 (E2.alloc (.cells #[.int .i64 t.num, .int .i32 xv] 80))) := mem_alloc _ _
        have HFA := Lib.hid (HFX3.out.keep HBV.out)
        have HSA := Lib.hid (HST3.out.below HBV.out HFX3.out.big)
        go_wp2_with (at_builtin; refine wpList_append_src _ rfl (.tmp 88) (.tmp 93) 34 rfl B 80 q0 _ 2 16 Tryd.underlying34 hq qz0 qz1 qz2 rfl (by decide) (.slice oa s1.out.length oc) s1.out.length (outCells s1.out) rfl HSA.out.out (some ⟨E2.heap.size, 0, none⟩) 1 1 [.int .i64 t.num, .int .i32 xv] rfl (src_one HNEW.out rfl) (by simp [Value.oneCell']) (by unfold maxLen; omega) (by omega) HFA.out.big ?_)
        intro r9 w9 hown hgrow _
        obtain ⟨oa9, oc9, rfl⟩ := own_val hown
        have HF9 := Lib.hid (HFA.out.call (HSA.out.frOut HFA.out.big hgrow))
        have HS9 : Hid (RSt B F inp w9 s2 0 cs y ca ia oa9 oc9) := by show RSt _ _ _ _ _ _ _ _ _ _ _ _; rw [← hs2]; exact HSA.out.push HFA.out.big hgrow hown HCN.out.2
        have hlen : s1.out.length + 1 = s2.out.length := by rw [← hs2]; simp
        have hrdst : s2.rd = s1.rd ∧ s2.st = s1.st := by rw [← hs2]; exact ⟨rfl, rfl⟩
        rw [hlen]
        obtain ⟨V, hV⟩ : ∃ V : World, w9.setCell ⟨W1.heap.size, 2, none⟩ (.slice oa9 s2.out.length oc9) = V := ⟨_, rfl⟩
        have HFX5 : Hid (Fx B cs.length w.heap.size W1.heap.size W2.heap.size y w t (some ⟨kb, ko, none⟩) c #[.slice ca cs.length cc, .slice ia inp.length ic, .slice oa9 s2.out.length oc9, .int .i64 (s2.rd : Int), .int .i64 (s2.st : Int), .int .i64 F, .int .i64 0] V) := by show Fx _ _ _ _ _ _ _ _ _ _ _ _; rw [← hV, hrdst.1, hrdst.2]; exact HF9.out.set1 2 _
        have HST5 : Hid (RSt B F inp V s2 0 cs y ca ia oa9 oc9) := by show RSt _ _ _ _ _ _ _ _ _ _ _ _; rw [← hV]; exact HS9.out.fset1 HF9.out 2 _
        have y2 := mem_cell HF9.out.x2 2
        have f2 := mem_free HF9.out.x2 2
        clear hown hgrow hlen hrdst hs2 t0 t1 t2 t3 e0 e1 e2 e3 e4 e5 e6
        go_upto_region 25 with fail
        try rw [hV]
        clear y2 f2 hV
        obtain ⟨e0, e1, e2, e3, e4, e5, e6⟩ := env_cells HFX5.out.x2
        obtain ⟨R, hR⟩ : ∃ R, set7 V W2.heap.size (.slice ca cs.length cc) (.slice ia inp.length ic) (.slice oa9 s2.out.length oc9) (.int .i64 (s2.rd : Int)) (.int .i64 (s2.st : Int)) (.int .i64 F) (.int .i64 0) = R := ⟨_, rfl⟩
        have HSR : Hid (RSt B F inp R s2 0 cs y ca ia oa9 oc9) := by show RSt _ _ _ _ _ _ _ _ _ _ _ _; rw [← hR]; exact HST5.out.fout HFX5.out _ _ _ _ _ _ _
        have HFO : Hid (FrR B cs.length y w R ∧ R.heap[W2.heap.size]? = some (envObj ca cs.length cc ia inp.length ic oa9 s2.out.length oc9 (s2.rd : Int) (s2.st : Int) F 0)) := by show _ ∧ _; rw [← hR]; exact HFX5.out.fout _ _ _ _ _ _ _
        obtain ⟨y0, y1, y2, y3, y4, y5, y6⟩ := env_cells HFX5.out.x3
        obtain ⟨q0, q1, q2, q3, q4, q5, q6⟩ := env_free HFX5.out.x3
        unfold set7 at hR
        go_wp2_with fail
        try rw [hR]
        clear e0 e1 e2 e3 e4 e5 e6 y0 y1 y2 y3 y4 y5 y6 q0 q1 q2 q3 q4 q5 q6 hR
        obtain ⟨z0, z1, z2, z3, z4, z5, z6⟩ := env_cells HFO.out.2
        refine bodyPost_ret (v := envVal ca cs.length cc ia inp.length ic oa9 s2.out.length oc9 (s2.rd : Int) (s2.st : Int) F 0) (by simp [results, Tryd.results58, go_sem, z0, z1, z2, z3, z4, z5, z6]) rfl ?_
        rw [HRES.out]
        exact ⟨cs, ca, cc, oa9, oc9, rfl, HN1.out.trans HNN.out.symm, HCC1.out, HSR.out, HFO.out.1⟩
    · skip
      have b41 : (t.kind == 41) = false := by simp [hk]
      have b42 : (t.kind == 42) = false := by simp [hk]
      have b43 : (t.kind == 43) = false := by simp [hk]
      have b46 : (t.kind == 46) = true := by simp [hk]
      have hl : t.len = 1 := by rw [HLENK.out, hk]; rfl
      have hl0 : 0 < t.len := by omega
      have hl0i : (0 : Int) < (t.len : Int) := by omega
      have hyv : (t.kid 0).vld 98 = true := by have h := HKV.out 0 hl0; rw [hk] at h; exact h
      have HBY := Lib.hid (HB.out (by omega) 0 hl0 hyv)
      have HE2 : Hid (t.ex F inp s = (t.kid 0).ex F inp s1) := by
        show _ = _; rw [HEQ.out]; unfold exB; rw [if_neg (by omega), if_neg (by omega), if_neg (by omega), if_neg (by omega), if_neg (by omega), if_neg (by omega)]; unfold kidX; rw [if_pos hl0]
      obtain ⟨kb, ko, rfl, hkb, xa, xc, hnx, hrx⟩ := kid_in HR.out hl0
      rw [Nat.zero_mul, Nat.add_zero] at hnx
      obtain ⟨x, hxe⟩ : ∃ x, t.kid 0 = x := ⟨_, rfl⟩
      rw [hxe] at hnx hrx
      have HIx : Hid (InB B w x xa) := hrx
      have HNX : Hid (∀ w', Below B w w' → NodeAt w' kb (ko) x xa xc) := fun w' hw => hnx.below hw hkb
      have HEx := Lib.hid hxe
      clear hnx hrx hxe
      rw [HEx.out] at HBY HE2 hyv
      have HC2 := Lib.hid (HBY.out.at_ (cc := cc) (ci := xc) HFX2.out HST2.out HN1.out HCC1.out HIx.out)
      obtain ⟨⟨s3, er3⟩, hr3⟩ : ∃ r, x.ex F inp s1 = r := ⟨_, rfl⟩
      rw [hr3] at HC2 HE2
      have HRES := Lib.hid HE2.out
      have HCB : Hid (∀ V, Below A0.heap.size A0 V → Calls Tryd.prog 41 #[x.val xa xc, envVal ca cs.length cc ia inp.length ic oa s1.out.length oc (s1.rd : Int) (s1.st : Int) F 0] V (RQ B F inp cs y ia ic V (s3, er3))) := HC2.out
      clear hr3 HC2 HE2 hk hl hyv HEx HEQ
      go_upto_region 18 with fail
      clear t0 t1 t2 t3 e0 e1 e2 e3 e4 e5 e6
      have hD0 : Below A0.heap.size A0 (World.drew A0) := (Below.refl _ _).drew
      refine wp_region_z 6 (S := fun w' => Fx B cs.length w.heap.size W1.heap.size W2.heap.size y w t (some ⟨kb, ko, none⟩) c #[.slice ca cs.length cc, .slice ia inp.length ic, .slice oa s1.out.length oc, .int .i64 (s1.rd : Int), .int .i64 (s1.st : Int), .int .i64 F, .int .i64 0] w') (by kernel_rfl) (HFX2.out.keep hD0) (fun hHeld => ?_)
      generalize hwd : World.drew A0 = V1 at hHeld hD0 ⊢
      clear hwd
      have HD0 := Lib.hid hD0
      clear hD0
      refine zT 0 (.pointer (some ⟨w.heap.size, 3, none⟩)) rfl (hy := ?_) (h := ?_)
      · intro w' hSw; go_simp
      (try simp only [Act.put, pA, pB, pD, pE, pF])
      refine zT 1 (.slice (some ⟨kb, ko, none⟩) t.len c) rfl (hy := ?_) (h := ?_)
      · intro w' hSw; obtain ⟨z0, z1, z2, z3⟩ := nd_cells hSw.x1; go_simp
      (try simp only [Act.put, pA, pB, pC, pD, pE, pF])
      refine zT 2 (.pointer (some ⟨kb, ko, none⟩)) rfl (hy := ?_) (h := ?_)
      · intro w' hSw; go_simp
      (try simp only [Act.put, pA, pB, pC, pD, pE, pF])
      refine zT 3 (x.val xa xc) rfl (hy := ?_) (h := ?_)
      · intro w' hSw; obtain ⟨z0, z1, z2, z3⟩ := HNX.out _ hSw.fr.low; go_simp
      (try simp only [Act.put, pA, pB, pC, pD, pE, pF])
      refine zT 4 (envVal ca cs.length cc ia inp.length ic oa s1.out.length oc (s1.rd : Int) (s1.st : Int) F 0) rfl (hy := ?_) (h := ?_)
      · intro w' hSw; obtain ⟨z0, z1, z2, z3, z4, z5, z6⟩ := env_cells hSw.x2; go_simp
      (try simp only [Act.put, pA, pB, pC, pD, pE, pF])
      refine zR 5 rfl (fun K hK => ?_)
      go_simp
      refine (HCB.out V1 HD0.out).mono ?_
      rintro e E3 ⟨cs3, ca3, cc3, oa3, oc3, rfl, hn2, hcc2, hst2, hfr2⟩
      have HFE : Hid (Fx B cs.length w.heap.size W1.heap.size W2.heap.size y w t (some ⟨kb, ko, none⟩) c #[.slice ca cs.length cc, .slice ia inp.length ic, .slice oa s1.out.length oc, .int .i64 (s1.rd : Int), .int .i64 (s1.st : Int), .int .i64 F, .int .i64 0] E3) := (HFX2.out.keep HD0.out).call hfr2
      have HN2 := Lib.hid (hn2.trans HN1.out)
      have HCC2 := Lib.hid hcc2
      have HS2 : Hid (RSt B F inp E3 s3 er3 cs3 y ca3 ia oa3 oc3) := hst2
      clear hn2 hcc2 hst2 hfr2
      refine hK.out _ _ (HFE.out) (fun hHeld => ?_)
      clear hK K
      rename_i hOld
      clear hOld
      (try simp only [Act.put, pA, pB, pC, pD, pE, pF])
      obtain ⟨R, hR⟩ : ∃ R, set7 E3 W2.heap.size (.slice ca3 cs3.length cc3) (.slice ia inp.length ic) (.slice oa3 s3.out.length oc3) (.int .i64 (s3.rd : Int)) (.int .i64 (s3.st : Int)) (.int .i64 F) (.int .i64 er3) = R := ⟨_, rfl⟩
      have HSR : Hid (RSt B F inp R s3 er3 cs3 y ca3 ia oa3 oc3) := by show RSt _ _ _ _ _ _ _ _ _ _ _ _; rw [← hR]; exact HS2.out.fout HFE.out _ _ _ _ _ _ _
      have HFO : Hid (FrR B cs.length y w R ∧ R.heap[W2.heap.size]? = some (envObj ca3 cs3.length cc3 ia inp.length ic oa3 s3.out.length oc3 (s3.rd : Int) (s3.st : Int) F er3)) := by show _ ∧ _; rw [← hR]; exact HFE.out.fout _ _ _ _ _ _ _
      obtain ⟨y0, y1, y2, y3, y4, y5, y6⟩ := env_cells HFE.out.x3
      obtain ⟨q0, q1, q2, q3, q4, q5, q6⟩ := env_free HFE.out.x3
      unfold set7 at hR
      refine wpAnyZ_ready (rs := [6]) (by kernel_rfl) (by simp) (AllReadyZ.last rfl (by decide) (fun K hK => ?_) AllReadyZ.nil)
      go_simp
      refine hK.out _ _ ?_
      clear hK K
      (try simp only [Act.put, pA, pB, pC, pD, pE, pF])
      try rw [hR]
      clear y0 y1 y2 y3 y4 y5 y6 q0 q1 q2 q3 q4 q5 q6 hHeld hR
      refine wpAnyZ_done (by kernel_rfl) ?_ _
      go_wp2_with fail
      obtain ⟨z0, z1, z2, z3, z4, z5, z6⟩ := env_cells HFO.out.2
      refine bodyPost_ret (v := envVal ca3 cs3.length cc3 ia inp.length ic oa3 s3.out.length oc3 (s3.rd : Int) (s3.st : Int) F er3) (by simp [results, Tryd.results58, go_sem, z0, z1, z2, z3, z4, z5, z6]) rfl ?_
      rw [HRES.out]
      exact ⟨cs3, ca3, cc3, oa3, oc3, rfl, HN2.out.trans HNN.out.symm, HCC2.out, HSR.out, HFO.out.1⟩
  · have hge : F ≤ (s.st : Int) := by omega
    have HSTEP := Lib.hid (step16_ge hF hge ca cs.length cc ia inp.length ic oa oc)
    have HRES : Hid (t.ex F inp s = (s, 13)) := by show _ = _; rw [HEX.out, if_neg (by omega), stp_ge hge]; exact SR.then_er (by show (13 : Int) ≠ 0; decide)
    clear hlt hge HEX
    go_enter Tryd.func58, Tryd.ntmps58
    go_upto_region 1 with fail
    try rw [hW1]
    try rw [hW2]
    try rw [hW3]
    clear hW1 hW2 hW3
    obtain ⟨e0, e1, e2, e3, e4, e5, e6⟩ := env_cells HFX.out.x2
    go_wp2_with fail
    refine (HSTEP.out _).mono ?_
    rintro e E1 ⟨rfl, hB1⟩
    have HFS : Hid (Fx B cs.length w.heap.size W1.heap.size W2.heap.size y w t a c #[.slice ca cs.length cc, .slice ia inp.length ic, .slice oa s.out.length oc, .int .i64 (s.rd : Int), .int .i64 (s.st : Int), .int .i64 F, .int .i64 0] E1) := HFX.out.keep hB1
    have HSS : Hid (RSt B F inp E1 s 13 cs y ca ia oa oc) := (HST.out.err 13).below hB1 HFX.out.big
    clear hB1 e0 e1 e2 e3 e4 e5 e6
    obtain ⟨A0, hA0⟩ : ∃ R, set7 E1 W1.heap.size (.slice ca cs.length cc) (.slice ia inp.length ic) (.slice oa s.out.length oc) (.int .i64 (s.rd : Int)) (.int .i64 (s.st : Int)) (.int .i64 F) (.int .i64 13) = R := ⟨_, rfl⟩
    have HFX2 : Hid (Fx B cs.length w.heap.size W1.heap.size W2.heap.size y w t a c #[.slice ca cs.length cc, .slice ia inp.length ic, .slice oa s.out.length oc, .int .i64 (s.rd : Int), .int .i64 (s.st : Int), .int .i64 F, .int .i64 13] A0) := by show Fx _ _ _ _ _ _ _ _ _ _ _ _; rw [← hA0]; exact HFS.out.set _ _ _ _ _ _ _
    have HST2 : Hid (RSt B F inp A0 s 13 cs y ca ia oa oc) := by show RSt _ _ _ _ _ _ _ _ _ _ _ _; rw [← hA0]; exact HSS.out.fset HFS.out _ _ _ _ _ _ _
    obtain ⟨y0, y1, y2, y3, y4, y5, y6⟩ := env_cells HFS.out.x2
    obtain ⟨q0, q1, q2, q3, q4, q5, q6⟩ := env_free HFS.out.x2
    unfold set7 at hA0
    go_upto_region 2 with fail
    try rw [hA0]
    clear y0 y1 y2 y3 y4 y5 y6 q0 q1 q2 q3 q4 q5 q6 hA0
    obtain ⟨e0, e1, e2, e3, e4, e5, e6⟩ := env_cells HFX2.out.x2
    obtain ⟨R, hR⟩ : ∃ R, set7 A0 W2.heap.size (.slice ca cs.length cc) (.slice ia inp.length ic) (.slice oa s.out.length oc) (.int .i64 (s.rd : Int)) (.int .i64 (s.st : Int)) (.int .i64 F) (.int .i64 13) = R := ⟨_, rfl⟩
    have HSR : Hid (RSt B F inp R s 13 cs y ca ia oa oc) := by show RSt _ _ _ _ _ _ _ _ _ _ _ _; rw [← hR]; exact HST2.out.fout HFX2.out _ _ _ _ _ _ _
    have HFO : Hid (FrR B cs.length y w R ∧ R.heap[W2.heap.size]? = some (envObj ca cs.length cc ia inp.length ic oa s.out.length oc (s.rd : Int) (s.st : Int) F 13)) := by show _ ∧ _; rw [← hR]; exact HFX2.out.fout _ _ _ _ _ _ _
    obtain ⟨y0, y1, y2, y3, y4, y5, y6⟩ := env_cells HFX2.out.x3
    obtain ⟨q0, q1, q2, q3, q4, q5, q6⟩ := env_free HFX2.out.x3
    unfold set7 at hR
    go_wp2_with fail
    try rw [hR]
    clear e0 e1 e2 e3 e4 e5 e6 y0 y1 y2 y3 y4 y5 y6 q0 q1 q2 q3 q4 q5 q6 hR
    obtain ⟨z0, z1, z2, z3, z4, z5, z6⟩ := env_cells HFO.out.2
    refine bodyPost_ret (v := envVal ca cs.length cc ia inp.length ic oa s.out.length oc (s.rd : Int) (s.st : Int) F 13) (by simp [results, Tryd.results58, go_sem, z0, z1, z2, z3, z4, z5, z6]) rfl ?_
    rw [HRES.out]
    exact ⟨cs, ca, cc, oa, oc, rfl, HN1.out.trans HNN.out.symm, HCC1.out, HSR.out, HFO.out.1⟩
end Go.Proofs.YtgochgcchkdlmaaDoor
