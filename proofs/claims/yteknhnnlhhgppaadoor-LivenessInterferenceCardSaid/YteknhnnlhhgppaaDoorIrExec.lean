/-
  Contract: execute (package ir: runner).
-/
import Derived.Test.YteknhnnlhhgppaaDoorIrInstr
import Derived.Test.YteknhnnlhhgppaaDoorIrValid
namespace Go.Proofs.YteknhnnlhhgppaaDoor
set_option linter.unusedVariables false
set_option linter.unusedSimpArgs false
open Go.RowKit
set_option maxRecDepth 100000

theorem step_len {names : List ByteArray} {inp : List Int} {i : Ins} {s s' : St} (h : step names inp i s = .ok s') : s'.regs.length = s.regs.length ∧ s'.read ≤ s.read + 1 ∧ s'.out.length ≤ s.out.length + 1 := by
  have key : ∀ r : Except Int St, r = .ok s' → (∀ t, r = .ok t → t.regs.length = s.regs.length ∧ t.read ≤ s.read + 1 ∧ t.out.length ≤ s.out.length + 1) → s'.regs.length = s.regs.length ∧ s'.read ≤ s.read + 1 ∧ s'.out.length ≤ s.out.length + 1 := fun r h1 h2 => h2 s' h1
  refine key _ h ?_
  have ite : ∀ {c : Prop} [Decidable c] {a b : Except Int St}, (∀ t, a = .ok t → t.regs.length = s.regs.length ∧ t.read ≤ s.read + 1 ∧ t.out.length ≤ s.out.length + 1) → (∀ t, b = .ok t → t.regs.length = s.regs.length ∧ t.read ≤ s.read + 1 ∧ t.out.length ≤ s.out.length + 1) → ∀ t, (if c then a else b) = .ok t → t.regs.length = s.regs.length ∧ t.read ≤ s.read + 1 ∧ t.out.length ≤ s.out.length + 1 := by
    intro c _ a b ha hb
    by_cases hc : c
    · rw [if_pos hc]; exact ha
    · rw [if_neg hc]; exact hb
  unfold step
  repeat' (refine ite ?_ ?_)
  all_goals
    intro t ht
    cases ht
    all_goals simp [St.setReg, St.setCount]
/-- the run from a place, with the steps so far, comes to this end -/
def Ends (blocks : List Blk) (names : List ByteArray) (inp : List Int) (F n a k : Nat) (s : St) (r : Nat × Int × St) : Prop :=
  n ≤ F ∧ n + (go blocks names inp (F - n) a k s).1 = r.1 ∧ (go blocks names inp (F - n) a k s).2 = r.2
section
variable {blocks : List Blk} {names : List ByteArray} {inp : List Int} {F n a k : Nat} {s : St} {r : Nat × Int × St} {b : Blk} {i : Ins}
theorem Ends.fuel (h : Ends blocks names inp F n a k s r) (hn : F ≤ n) : r = (n, 13, s) := by
  obtain ⟨h0, h1, h2⟩ := h
  have : F - n = 0 := by omega
  rw [this] at h1 h2
  obtain ⟨r1, r2⟩ := r
  simp only [go] at h1 h2
  rw [← h1, ← h2]
  rfl
theorem Ends.more (hn : ¬ F ≤ n) : ∃ m, F - n = m + 1 ∧ F - (n + 1) = m := ⟨F - (n + 1), by omega, rfl⟩
theorem Ends.trap {e : Int} (h : Ends blocks names inp F n a k s r) (hn : ¬ F ≤ n) (hb : blocks[a]? = some b) (hi : b.code[k]? = some i) (hs : step names inp i s = .error e) : r = (n, e, s) := by
  obtain ⟨h0, h1, h2⟩ := h
  obtain ⟨m, hm, _⟩ := Ends.more hn
  rw [hm] at h1 h2
  simp only [go, hb, hi, hs] at h1 h2
  obtain ⟨r1, r2⟩ := r
  simp only at h1 h2
  rw [← h1, ← h2]
  rfl
theorem Ends.next {s' : St} (h : Ends blocks names inp F n a k s r) (hn : ¬ F ≤ n) (hb : blocks[a]? = some b) (hi : b.code[k]? = some i) (hs : step names inp i s = .ok s') : Ends blocks names inp F (n + 1) a (k + 1) s' r := by
  obtain ⟨h0, h1, h2⟩ := h
  obtain ⟨m, hm, hm'⟩ := Ends.more hn
  rw [hm] at h1 h2
  simp only [go, hb, hi, hs] at h1 h2
  exact ⟨by omega, by rw [hm', ← h1]; omega, by rw [hm', ← h2]⟩
theorem Ends.locked (h : Ends blocks names inp F n a k s r) (hn : ¬ F ≤ n) (hb : blocks[a]? = some b) (hi : b.code[k]? = none) (hk : b.kind = 3) (hl : s.locked = true) : r = (n, 12, s) := by
  obtain ⟨h0, h1, h2⟩ := h
  obtain ⟨m, hm, hm'⟩ := Ends.more hn
  rw [hm] at h1 h2
  simp only [go, hb, hi, hk, hl, if_true] at h1 h2
  obtain ⟨r1, r2⟩ := r
  simp only at h1 h2
  rw [← h1, ← h2]
  rfl
theorem Ends.ret (h : Ends blocks names inp F n a k s r) (hn : ¬ F ≤ n) (hb : blocks[a]? = some b) (hi : b.code[k]? = none) (hk : b.kind = 3) (hl : s.locked = false) : r = (n + 1, 0, s) := by
  obtain ⟨h0, h1, h2⟩ := h
  obtain ⟨m, hm, hm'⟩ := Ends.more hn
  rw [hm] at h1 h2
  simp only [go, hb, hi, hk, hl, if_true] at h1 h2
  obtain ⟨r1, r2⟩ := r
  simp at h1 h2
  rw [← h1, ← h2]
theorem Ends.jump (h : Ends blocks names inp F n a k s r) (hn : ¬ F ≤ n) (hb : blocks[a]? = some b) (hi : b.code[k]? = none) (hk : ¬ b.kind = 3) : Ends blocks names inp F (n + 1) (b.next s) 0 s r := by
  obtain ⟨h0, h1, h2⟩ := h
  obtain ⟨m, hm, hm'⟩ := Ends.more hn
  rw [hm] at h1 h2
  simp only [go, hb, hi, hk, if_false] at h1 h2
  exact ⟨by omega, by rw [hm', ← h1]; omega, by rw [hm', ← h2]⟩
end
/-- a run in memory on its way -/
structure ExSt (N : Nat) (g : Geo) (names : List ByteArray) (R B n : Nat) (ov ov' : Value) (w w' : World) (s : St) : Prop where
  run : RunAt N g names w' ov' s
  frame : Frame g ov ov' w w'
  regs : s.regs.length = R
  read : s.read ≤ B + n
  out : s.out.length ≤ B + n
theorem ExSt.keep {N : Nat} {g : Geo} {names : List ByteArray} {R B n : Nat} {ov ov' : Value} {w w' w'' : World} {s : St} (h : ExSt N g names R B n ov ov' w w' s) (hb : Below w'.heap.size w' w'') : ExSt N g names R B n ov ov' w w'' s :=
  ⟨h.run.keep hb, h.frame.trans (Frame.of_below hb), h.regs, h.read, h.out⟩
theorem frame_cell {g : Geo} {ov ov' : Value} {w w' : World} {b o : Nat} (h : Frame g ov ov' w w') (hb : b < w.heap.size) (h0 : ¬ Ours g ov b) : w'.cell? ⟨b, o, none⟩ = w.cell? ⟨b, o, none⟩ :=
  World.cell?_of_block (a := ⟨b, o, none⟩) (h.block b hb h0)
/-- what the code of a block and its end say -/
theorem end_cases {f : Fn} {b : Blk} (h : endOk f.regs f.blocks.length b = true) : (b.kind = 1 ∧ 0 ≤ b.to ∧ b.to < f.blocks.length) ∨ (b.kind = 2 ∧ 0 ≤ b.x ∧ b.x < f.regs ∧ 0 ≤ b.to ∧ b.to < f.blocks.length ∧ 0 ≤ b.els ∧ b.els < f.blocks.length) ∨ b.kind = 3 := by
  unfold endOk at h
  by_cases h1 : b.kind = 1
  · simp [h1] at h
    exact .inl ⟨h1, by omega, by omega⟩
  have h1' : (b.kind == 1) = false := by simpa using h1
  by_cases h2 : b.kind = 2
  · simp [h2] at h
    exact .inr (.inl ⟨h2, by omega, by omega, by omega, by omega, by omega, by omega⟩)
  have h2' : (b.kind == 2) = false := by simpa using h2
  by_cases h3 : b.kind = 3
  · exact .inr (.inr h3)
  have h3' : (b.kind == 3) = false := by simpa using h3
  rw [h1', h2', h3'] at h
  cases h

set_option maxHeartbeats 16000000
theorem execute_any (N : Nat) (g : Geo) (ns : List (ByteArray × Bool)) (inp : List Int) (f : Fn) (aa ba : Option Addr) (ac bc : Nat) (fuel : Int) (W0 w : World) (ov : Value) (s : St) (B : Nat) (ia : Option Addr) (ic : Nat)
    (h : RunAt N g (ns.map (·.1)) w ov s) (hf : FnAt W0 f aa ba) (h0N : W0.heap.size ≤ N) (hB0 : Below W0.heap.size W0 w) (hok : f.blocks.all (blkOk f ns) = true) (hne : 0 < f.blocks.length) (hr : (s.regs.length : Int) = f.regs)
    (hinv : g.inv = .slice ia inp.length ic) (hin : WordsAt W0 ia inp) (hfu : fuel ≤ 4000000000) (hB : B ≤ 4000000000) (hrd : s.read ≤ B) (hol : s.out.length ≤ B) :
    Calls Tryd.prog 91 #[.pointer (some ⟨g.rb, 0, none⟩), fnVal f.name f.regs aa f.arrays.length ac ba f.blocks.length bc, .int .i64 fuel] w fun e w' =>
      e = .returned (.tuple #[.int .i64 ((go f.blocks (ns.map (·.1)) inp fuel.toNat 0 0 s).1 : Nat), .int .i64 (go f.blocks (ns.map (·.1)) inp fuel.toNat 0 0 s).2.1]) ∧ ∃ ov', RunAt N g (ns.map (·.1)) w' ov' (go f.blocks (ns.map (·.1)) inp fuel.toNat 0 0 s).2.2 ∧ Frame g ov ov' w w' := by
  obtain ⟨r, hrr⟩ : ∃ r, go f.blocks (ns.map (·.1)) inp fuel.toNat 0 0 s = r := ⟨_, rfl⟩
  rw [hrr]
  have HE0 : Hid (Ends f.blocks (ns.map (·.1)) inp fuel.toNat 0 0 0 s r) := ⟨Nat.zero_le _, by rw [← hrr]; simp, by rw [← hrr]; simp⟩
  clear hrr
  obtain ⟨F, hF⟩ : ∃ F, fuel.toNat = F := ⟨_, rfl⟩
  rw [hF] at HE0
  obtain ⟨W, hW⟩ : ∃ W : World, w.alloc (.cells #[.string f.name, .int .i64 f.regs, .slice aa f.arrays.length ac, .slice ba f.blocks.length bc] 25) = W := ⟨_, rfl⟩
  have hBw : Below w.heap.size w W := by rw [← hW]; exact (Below.refl _ _).alloc (Nat.le_refl _) _
  have hWs : W.heap.size = w.heap.size + 1 := by rw [← hW]; simp
  have x3 : W.cell? ⟨w.heap.size, 3, none⟩ = some (.slice ba f.blocks.length bc) := by rw [← hW]; simp
  have HX3 := Lib.hid x3
  have HNO : Hid (¬ Ours g ov w.heap.size) := fun h0 => by have := (h.ours h0).2; omega
  have HEX : Hid (ExSt N g (ns.map (·.1)) s.regs.length B 0 ov ov W W s) := ⟨h.keep hBw, Frame.refl, rfl, by omega, by omega⟩
  have HFW : Hid (Frame g ov ov w W) := Frame.of_below hBw
  have HB0 : Hid (Below W0.heap.size W0 W) := hB0.trans (hBw.mono hB0.size)
  have HFN := Lib.hid hf
  have HIN := Lib.hid hin
  have HOK := Lib.hid hok
  have HRUN := Lib.hid (h.keep hBw)
  have lb := hf.blocks.fits
  obtain ⟨R, hR⟩ : ∃ R, s.regs.length = R := ⟨_, rfl⟩
  rw [hR] at HEX hr
  have hfF : F ≤ 4000000000 := by omega
  clear hf hin hok hBw hB0 h hrd hol x3
  go_enter Tryd.func91, Tryd.ntmps91
  go_wp2_with fail
  clear hW
  go_loopw [8, 9] (fun sv av wr => ∃ (n a : Nat) (ov1 : Value) (s1 : St), sv = .int .i64 (n : Nat) ∧ av = .int .i64 (a : Nat) ∧ a < f.blocks.length ∧ Ends f.blocks (ns.map (·.1)) inp F n a 0 s1 r ∧ ExSt N g (ns.map (·.1)) R B n ov ov1 W wr s1) (fun sv _ _ => F - (intOf sv).toNat)
  case atStart => exact ⟨0, 0, ov, s, rfl, rfl, hne, HE0.out, HEX.out⟩
  case round =>
    obtain ⟨n, a, ov1, s1, rfl, rfl, ha, hends, hex⟩ := hrel
    have HE := Lib.hid hends
    have HX := Lib.hid hex
    have hnF := hends.1
    have hfs := hex.frame.size
    clear hends hex HE0 HEX
    have hnb := HX.out.frame.below HRUN.out
    have HBR := Lib.hid (HB0.out.trans (hnb.mono h0N))
    have b3 := (frame_cell (o := 3) HX.out.frame (by omega) HNO.out).trans HX3.out
    clear hnb
    obtain ⟨p, hp⟩ : ∃ p, f.blocks[a]? = some p := ⟨_, List.getElem?_eq_getElem ha⟩
    have HP := Lib.hid hp
    have HPO : Hid (blkOk f ns p = true) := List.all_eq_true.1 HOK.out p (List.mem_of_getElem? hp)
    rcases HFN.out.blocks.at_ with h0 | ⟨b, off, rfl, hc⟩
    · omega
    obtain ⟨ca, cc, hblk, hcode⟩ := hc a p hp
    have HCODE := Lib.hid hcode
    have hcl := hcode.fits
    obtain ⟨f0, f1, f2, f3, f4⟩ := hblk.below HBR.out
    have ha0 : (0 : Int) ≤ (a : Int) := by omega
    have ha1 : (a : Int) < (f.blocks.length : Int) := by omega
    clear hc hp hblk hcode
    obtain ⟨V, hV⟩ : ∃ V : World, wr.alloc (.cells #[.slice ca p.code.length cc, .int .u8 p.kind, .int .i64 p.x, .int .i64 p.to, .int .i64 p.els] 43) = V := ⟨_, rfl⟩
    have hBV : Below wr.heap.size wr V := by rw [← hV]; exact (Below.refl _ _).alloc (Nat.le_refl _) _
    have hVs : V.heap.size = wr.heap.size + 1 := by rw [← hV]; simp
    have HXV := Lib.hid (HX.out.keep hBV)
    have HNV : Hid (¬ Ours g ov1 wr.heap.size) := fun h0 => by have := (HX.out.run.ours h0).2; omega
    have v0 : V.cell? ⟨wr.heap.size, 0, none⟩ = some (.slice ca p.code.length cc) := by rw [← hV]; simp
    have v1 : V.cell? ⟨wr.heap.size, 1, none⟩ = some (.int .u8 p.kind) := by rw [← hV]; simp
    have v2 : V.cell? ⟨wr.heap.size, 2, none⟩ = some (.int .i64 p.x) := by rw [← hV]; simp
    have v3 : V.cell? ⟨wr.heap.size, 3, none⟩ = some (.int .i64 p.to) := by rw [← hV]; simp
    have v4 : V.cell? ⟨wr.heap.size, 4, none⟩ = some (.int .i64 p.els) := by rw [← hV]; simp
    have HV := Lib.hid (And.intro v0 (And.intro v1 (And.intro v2 (And.intro v3 v4))))
    have HBV0 := Lib.hid (HBR.out.trans (hBV.mono HBR.out.size))
    go_wp2_with fail
    clear hV v0 v1 v2 v3 v4 f0 f1 f2 f3 f4 b3 hBV
    obtain ⟨wo, rfl⟩ : ∃ wo : World, wo = wr := ⟨_, rfl⟩
    go_loopw [8, 22] (fun sv iv wr => ∃ (m k : Nat) (ov2 : Value) (s2 : St), sv = .int .i64 (m : Nat) ∧ iv = .int .i64 (k : Nat) ∧ k ≤ p.code.length ∧ n ≤ m ∧ Ends f.blocks (ns.map (·.1)) inp F m a k s2 r ∧ ExSt N g (ns.map (·.1)) R B m ov1 ov2 V wr s2) (fun _ iv _ => p.code.length - (intOf iv).toNat)
    case atStart => exact ⟨n, 0, ov1, s1, rfl, rfl, Nat.zero_le _, Nat.le_refl _, HE.out, HXV.out.run, Frame.refl, HXV.out.regs, HXV.out.read, HXV.out.out⟩
    case round =>
      obtain ⟨m, k, ov2, s2, rfl, rfl, hk, hnm, hends, hex⟩ := hrel
      have HE2 := Lib.hid hends
      have HX2 := Lib.hid hex
      have hmF := hends.1
      have hfs2 := hex.frame.size
      clear hends hex HE
      have hk0 : (0 : Int) ≤ (k : Int) := by omega
      have HB2 := Lib.hid (HBV0.out.trans ((HX2.out.frame.below HXV.out.run).mono h0N))
      have HFR := Lib.hid ((HFW.out.trans HXV.out.frame).trans HX2.out.frame)
      have hm1 : (m : Int) + 1 ≤ 9223372036854775807 := by omega
      by_cases hkl : k < p.code.length
      · obtain ⟨q, hq⟩ : ∃ q, p.code[k]? = some q := ⟨_, List.getElem?_eq_getElem hkl⟩
        have HQI := Lib.hid hq
        have HQW := Lib.hid (HCODE.out.wf q (List.mem_of_getElem? hq))
        have HQO : Hid (insOk f.regs ns q = true) := by
          have := HPO.out
          unfold blkOk at this
          rw [Bool.and_eq_true] at this
          exact List.all_eq_true.1 this.1 q (List.mem_of_getElem? hq)
        rcases HCODE.out.at_ with h0 | ⟨cb, co, rfl, hcc⟩
        · omega
        obtain ⟨c0, c1, c2, c3, c4, c5⟩ := (hcc k q hq).below HB2.out
        have hk3 : (k : Int) < (p.code.length : Int) := by omega
        clear hcc hq
        obtain ⟨U, hU⟩ : ∃ U : World, wr.alloc (.cells #[.int .u8 q.op, .int .i64 q.dst, .int .i64 q.x, .int .i64 q.y, .int .i64 q.imm, .string q.sym] 54) = U := ⟨_, rfl⟩
        have hBU : Below wr.heap.size wr U := by rw [← hU]; exact (Below.refl _ _).alloc (Nat.le_refl _) _
        have hUs : U.heap.size = wr.heap.size + 1 := by rw [← hU]; simp
        have u0 : U.cell? ⟨wr.heap.size, 0, none⟩ = some (.int .u8 q.op) := by rw [← hU]; simp
        have u1 : U.cell? ⟨wr.heap.size, 1, none⟩ = some (.int .i64 q.dst) := by rw [← hU]; simp
        have u2 : U.cell? ⟨wr.heap.size, 2, none⟩ = some (.int .i64 q.x) := by rw [← hU]; simp
        have u3 : U.cell? ⟨wr.heap.size, 3, none⟩ = some (.int .i64 q.y) := by rw [← hU]; simp
        have u4 : U.cell? ⟨wr.heap.size, 4, none⟩ = some (.int .i64 q.imm) := by rw [← hU]; simp
        have u5 : U.cell? ⟨wr.heap.size, 5, none⟩ = some (.string q.sym) := by rw [← hU]; simp
        have HXU := Lib.hid (HX2.out.keep hBU)
        have HFU := Lib.hid (HFR.out.trans (Frame.of_below (g := g) (ov := ov2) hBU))
        have HBU0 := Lib.hid (HB2.out.trans (hBU.mono HB2.out.size))
        by_cases hge : fuel ≤ (m : Int)
        · have HR1 : Hid (r = (m, 13, s2)) := HE2.out.fuel (by omega)
          go_wp2_with fail
          go_ret2
          rw [HR1.out]
          exact ⟨rfl, ov2, HXU.out.run, HFU.out⟩
        · have hge' : decide (fuel ≤ (m : Int)) = false := by simpa using hge
          have hgF : ¬ F ≤ m := by omega
          have HGF := Lib.hid hgF
          have hm4 : m < 4000000000 := by omega
          clear hge hgF
          go_wp2_with fail
          clear hU c0 c1 c2 c3 c4 c5 u0 u1 u2 u3 u4 u5
          refine (instr_any N g ns inp f.regs q U ov2 s2 HXU.out.run HQW.out HQO.out (by rw [HXU.out.regs]; exact hr) ia ic hinv (HIN.out.below HBU0.out) (fun b hl hb => ?_) (by have := HXU.out.read; omega) (by have := HXU.out.out; omega)).mono ?_
          · rcases HIN.out.at_ with h0 | ⟨ib, io, rfl, hc⟩
            · omega
            · cases hb
              have := World.block_lt_of_cell? _ _ (hc 0 _ (List.getElem?_eq_getElem hl))
              exact Nat.lt_of_lt_of_le this h0N
          · rintro e w5 ⟨rfl, ov3, hR3, hF3⟩
            cases hst : step (ns.map (·.1)) inp q s2 with
            | error er =>
              have HR1 : Hid (r = (m, er, s2)) := HE2.out.trap HGF.out HP.out HQI.out hst
              have her := step_err hst
              rw [hst] at hR3
              have HR3 := Lib.hid hR3
              have HF3 := Lib.hid (HFU.out.trans hF3)
              clear hR3 hF3 hst
              simp only [stepErr]
              rcases her with rfl | rfl | rfl | rfl | rfl
              all_goals
                go_wp2_with fail
                go_ret2
                rw [HR1.out]
                exact ⟨rfl, ov3, HR3.out, HF3.out⟩
            | ok s3 =>
              have HN : Hid (Ends f.blocks (ns.map (·.1)) inp F (m + 1) a (k + 1) s3 r) := HE2.out.next HGF.out HP.out HQI.out hst
              obtain ⟨l1, l2, l3⟩ := step_len hst
              rw [hst] at hR3
              have HX3' : Hid (ExSt N g (ns.map (·.1)) R B (m + 1) ov1 ov3 V w5 s3) := ⟨hR3, HXU.out.frame.trans hF3, by rw [l1]; exact HXU.out.regs, by have := HXU.out.read; omega, by have := HXU.out.out; omega⟩
              clear hR3 hF3 hst l1 l2 l3
              simp only [stepErr]
              go_wp2_with fail
              go_roundw
              case rel => exact ⟨m + 1, k + 1, ov3, s3, by go_num, by go_num, by omega, by omega, HN.out, HX3'.out⟩
              case measure => simp [intOf]; omega
      · obtain rfl : k = p.code.length := by omega
        have HQI : Hid (p.code[p.code.length]? = none) := List.getElem?_eq_none (Nat.le_refl _)
        obtain ⟨v0, v1, v2, v3, v4⟩ := HV.out
        have HNV2 : ∀ o, wr.cell? ⟨wo.heap.size, o, none⟩ = V.cell? ⟨wo.heap.size, o, none⟩ := fun o => frame_cell HX2.out.frame (by omega) HNV.out
        have u1 := (HNV2 1).trans v1
        have u2 := (HNV2 2).trans v2
        have u3 := (HNV2 3).trans v3
        have u4 := (HNV2 4).trans v4
        clear v0 v1 v2 v3 v4 HNV2
        by_cases hge : fuel ≤ (m : Int)
        · have HR1 : Hid (r = (m, 13, s2)) := HE2.out.fuel (by omega)
          go_wp2_with fail
          go_ret2
          rw [HR1.out]
          exact ⟨rfl, ov2, HX2.out.run, HFR.out⟩
        have hge' : decide (fuel ≤ (m : Int)) = false := by simpa using hge
        have HGF : Hid (¬ F ≤ m) := fun h => hge (by omega)
        have hm4 : m < 4000000000 := by have := HGF.out; omega
        clear hge
        have HEND : Hid (endOk f.regs f.blocks.length p = true) := by
          have := HPO.out
          unfold blkOk at this
          rw [Bool.and_eq_true] at this
          exact this.2
        have r0 : wr.cell? ⟨g.rb, 0, none⟩ = some (.slice (some ⟨g.rg, 0, none⟩) s2.regs.length s2.regs.length) := HX2.out.run.cell 0
        have r6 : wr.cell? ⟨g.rb, 6, none⟩ = some (.bool s2.locked) := HX2.out.run.cell 6
        by_cases hk3 : p.kind = 3
        · have hk3' : (p.kind == 3) = true := by simpa using hk3
          cases hl : s2.locked with
          | true =>
            have HR1 : Hid (r = (m, 12, s2)) := HE2.out.locked HGF.out HP.out HQI.out hk3 hl
            rw [hl] at r6
            clear hl
            go_wp2_with fail
            go_ret2
            rw [HR1.out]
            exact ⟨rfl, ov2, HX2.out.run, HFR.out⟩
          | false =>
            have HR1 : Hid (r = (m + 1, 0, s2)) := HE2.out.ret HGF.out HP.out HQI.out hk3 hl
            rw [hl] at r6
            clear hl
            go_wp2_with fail
            go_ret2
            rw [HR1.out]
            exact ⟨by rw [show (((m + 1 : Nat) : Int)) = (m : Int) + 1 by omega]; rfl, ov2, HX2.out.run, HFR.out⟩
        have hk3' : (p.kind == 3) = false := by simpa using hk3
        have HJ := Lib.hid (HE2.out.jump HGF.out HP.out HQI.out hk3)
        have HXN : Hid (∀ w'', Frame g ov2 ov2 wr w'' → w''.heap = wr.heap → ExSt N g (ns.map (·.1)) R B (m + 1) ov ov2 W w'' s2) := fun w'' hfr hh => ⟨HX2.out.run.same hh, (HXV.out.frame.trans HX2.out.frame).trans hfr, HX2.out.regs, by have := HX2.out.read; omega, by have := HX2.out.out; omega⟩
        rcases end_cases HEND.out with ⟨hk1, ht0, ht1⟩ | ⟨hk2, hx0, hx1, ht0, ht1, he0, he1⟩ | hk
        · have hk2' : (p.kind == 2) = false := by rw [hk1]; rfl
          have HNX : Hid (p.next s2 = p.to.toNat) := by show _ = _; unfold Blk.next; rw [if_neg (by omega)]
          clear hk1 hk3
          go_wp2_with fail
          go_quiet (fail)
          go_wp2_with fail
          go_roundw
          case rel => exact ⟨m + 1, p.to.toNat, ov2, s2, by go_num, by rw [Int.toNat_of_nonneg ht0], by omega, by have := HJ.out; rw [HNX.out] at this; exact this, HXN.out _ ⟨rfl, rfl, rfl, Nat.le_refl _, fun _ _ _ => rfl, fun _ h => .inl h⟩ rfl⟩
          case measure => have := HGF.out; simp [intOf]; omega
        · have hk2' : (p.kind == 2) = true := by rw [hk2]; rfl
          obtain ⟨xn, hxn⟩ : ∃ xn : Nat, p.x = (xn : Int) := ⟨p.x.toNat, by omega⟩
          have hxr : xn < s2.regs.length := by rw [HX2.out.regs]; omega
          have rx := HX2.out.run.reg hxr
          have hx1' : (xn : Int) < (s2.regs.length : Int) := by omega
          have hx0' : (0 : Int) ≤ (xn : Int) := by omega
          rw [hxn] at u2
          by_cases hz : s2.reg xn = 0
          · have hz' : (s2.reg xn == 0) = true := by simpa using hz
            have HNX : Hid (p.next s2 = p.els.toNat) := by show _ = _; unfold Blk.next; rw [if_pos ⟨hk2, by rw [hxn]; exact hz⟩]
            clear hk2 hk3 hz hxn
            go_wp2_with fail
            go_quiet (fail)
            go_wp2_with fail
            go_roundw
            case rel => exact ⟨m + 1, p.els.toNat, ov2, s2, by go_num, by rw [Int.toNat_of_nonneg he0], by omega, by have := HJ.out; rw [HNX.out] at this; exact this, HXN.out _ ⟨rfl, rfl, rfl, Nat.le_refl _, fun _ _ _ => rfl, fun _ h => .inl h⟩ rfl⟩
            case measure => have := HGF.out; simp [intOf]; omega
          · have hz' : (s2.reg xn == 0) = false := by simpa using hz
            have HNX : Hid (p.next s2 = p.to.toNat) := by show _ = _; unfold Blk.next; rw [if_neg (fun h => hz (by rw [← hxn]; exact h.2))]
            clear hk2 hk3 hz hxn
            go_wp2_with fail
            go_quiet (fail)
            go_wp2_with fail
            go_roundw
            case rel => exact ⟨m + 1, p.to.toNat, ov2, s2, by go_num, by rw [Int.toNat_of_nonneg ht0], by omega, by have := HJ.out; rw [HNX.out] at this; exact this, HXN.out _ ⟨rfl, rfl, rfl, Nat.le_refl _, fun _ _ _ => rfl, fun _ h => .inl h⟩ rfl⟩
            case measure => have := HGF.out; simp [intOf]; omega
        · exact absurd hk hk3
end Go.Proofs.YteknhnnlhhgppaaDoor
