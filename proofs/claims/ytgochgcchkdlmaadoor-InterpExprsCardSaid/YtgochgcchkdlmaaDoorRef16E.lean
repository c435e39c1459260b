/-
  Contract: the reference's Expr (package ontimeref16).
-/
import Derived.Test.YtgochgcchkdlmaaDoorRef16
import Derived.Test.YtgochgcchkdlmaaDoorRef03Calls
namespace Go.Proofs.YtgochgcchkdlmaaDoor
set_option linter.unusedVariables false
set_option linter.unusedSimpArgs false
open Go.RowKit Go.Maps
set_option maxRecDepth 100000
set_option maxHeartbeats 80000000

/-- an error is never 0 -/
theorem ev_ne0 (V : VF) (A : AF) : ∀ (t : Tree) (k : Int), t.ev V A = .er k → k ≠ 0 := by
  intro t
  induction t using Tree.ind with
  | h t ih =>
    intro k hk
    rw [Tree.ev_eq] at hk
    have h0 : ∀ k, (if 0 < t.len then (t.kid 0).ev V A else .ok 0) = .er k → k ≠ 0 := fun k h => by
      by_cases hl : 0 < t.len
      · rw [if_pos hl] at h; exact ih 0 hl k h
      · rw [if_neg hl] at h; cases h
    have h1 : ∀ k, (if 1 < t.len then (t.kid 1).ev V A else .ok 0) = .er k → k ≠ 0 := fun k h => by
      by_cases hl : 1 < t.len
      · rw [if_pos hl] at h; exact ih 1 hl k h
      · rw [if_neg hl] at h; cases h
    generalize (if 0 < t.len then (t.kid 0).ev V A else EV.ok 0) = e0 at hk h0
    generalize (if 1 < t.len then (t.kid 1).ev V A else EV.ok 0) = e1 at hk h1
    unfold evB at hk
    split at hk
    · cases hk
    split at hk
    · unfold optV at hk; split at hk
      · cases hk
      · cases hk; decide
    split at hk
    · split at hk
      · cases hk; decide
      · cases e0 with
        | er e => have hk : EV.er e = .er k := hk; cases hk; exact h0 _ rfl
        | ok x =>
          have hk : elemV _ x = .er k := hk
          unfold elemV at hk
          split at hk
          · cases hk
          · cases hk; decide
    split at hk
    · cases e0 with
      | er e => have hk : EV.er e = .er k := hk; cases hk; exact h0 _ rfl
      | ok x => cases hk
    · cases e0 with
      | er e => have hk : EV.er e = .er k := hk; cases hk; exact h0 _ rfl
      | ok x =>
        cases e1 with
        | er e => have hk : EV.er e = .er k := hk; cases hk; exact h1 _ rfl
        | ok y =>
          have hk : (if Wd.err t.kind y = 0 then EV.ok (Wd.apply t.kind x y) else EV.er (Wd.err t.kind y)) = .er k := hk
          by_cases he : Wd.err t.kind y = 0
          · rw [if_pos he] at hk; cases hk
          · rw [if_neg he] at hk; cases hk; exact he
def evK : EV → Int
  | .ok _ => 0
  | .er k => k
def itemE (o : Option (List Int)) (v : EV) : EV := match o with | none => .er 6 | some a => v.bind (elemV a)
/-- how the reference answers -/
def RefEQ (v : EV) (w : World) (e : Ending) (w' : World) : Prop := ∃ x, e = .returned (.tuple #[.int .i32 x, .int .i64 (evK v)]) ∧ Wd.W x ∧ (∀ y, v = .ok y → x = y) ∧ Below w.heap.size w w'
theorem refE_any (cs : List Cel) (ca : Option Addr) (cc : Nat) (hone : ∀ c ∈ cs, c.arr = false → c.l.length = 1) (hcl : ∀ c ∈ cs, c.l.length ≤ 1000000) : ∀ t : Tree, t.vld 101 = true → ∀ (w : World) (a : Option Addr) (c : Nat), Rep w t a → CelsAt w ca cs →
    Calls Tryd.prog 30 #[t.val a c, .slice ca cs.length cc] w (RefEQ (t.ev (celV cs) (celA cs)) w) := by
  intro t
  induction t using Tree.ind with
  | h t ih =>
    intro hv w a c hr hcs
    obtain ⟨⟨hk1, hk2⟩, hlen, hkids, hnum⟩ := vldE hv
    have hnl := hr.fits.len
    have hcsl := hcs.1
    have hfitn := hr.fits.num
    obtain ⟨W, hW⟩ : ∃ W : World, w.alloc (ndObj t a c) = W := ⟨_, rfl⟩
    have HBW : Hid (Below w.heap.size w W) := by show Below _ _ _; rw [← hW]; exact mem_alloc _ _
    have HX : Hid (W.heap[w.heap.size]? = some (ndObj t a c)) := by show _ = _; rw [← hW]; exact mem_new _ _
    have HK : Hid (∀ w', Below W.heap.size W w' → w'.heap[w.heap.size]? = some (ndObj t a c) ∧ CelsAt w' ca cs ∧ Rep w' t a ∧ Below w.heap.size w w') := fun w' h =>
      ⟨mem_keep HX.out h, hcs.below (mem_then HBW.out h), hr.below (mem_then HBW.out h), mem_then HBW.out h⟩
    obtain ⟨x0, x1, x2, x3⟩ := nd_cells HX.out
    have HEV := Lib.hid (Tree.ev_eq (celV cs) (celA cs) t)
    have HIH : Hid (∀ i, i < t.len → ∀ (w : World) (a : Option Addr) (c : Nat), Rep w (t.kid i) a → CelsAt w ca cs → Calls Tryd.prog 30 #[(t.kid i).val a c, .slice ca cs.length cc] w (RefEQ ((t.kid i).ev (celV cs) (celA cs)) w)) := fun i hi => ih i hi (hkids i hi)
    have HLEN := Lib.hid hlen
    have HONE := Lib.hid hone
    have HCL := Lib.hid hcl
    have HNUM := Lib.hid hnum
    clear ih hv hkids hr hcs hlen hnum hone hcl
    by_cases k1 : t.kind = 1
    · have b1 : (t.kind == 1) = true := by simp [k1]
      have HE : Hid (t.ev (celV cs) (celA cs) = .ok (wrap32 t.num)) := by show _ = _; rw [HEV.out]; unfold evB; rw [if_pos k1]
      clear k1 HEV
      go_enter Tryd.func30, Tryd.ntmps30
      go_wp2_with fail
      go_ret2
      rw [HE.out]
      exact ⟨_, rfl, Wd.W_wrap _, fun y hy => (by cases hy; rfl), HBW.out⟩
    by_cases k2 : t.kind = 2
    · have b1 : (t.kind == 1) = false := by simp [k2]
      have b2 : (t.kind == 2) = true := by simp [k2]
      have HE : Hid (t.ev (celV cs) (celA cs) = optV (celV cs t.name)) := by show _ = _; rw [HEV.out]; unfold evB; rw [if_neg k1, if_pos k2]
      have HF := Lib.hid (find16_any cs t.name false W ca cc (HK.out W (Below.refl _ _)).2.1)
      clear k1 k2 HEV
      go_enter Tryd.func30, Tryd.ntmps30
      go_wp2_with fail
      clear hW x0 x1 x2 x3
      refine HF.out.mono ?_
      rintro e w1 ⟨r, rfl, hr, hB1⟩
      have HB1 := Lib.hid hB1
      obtain ⟨_, hcs1, _, hbw1⟩ := HK.out w1 hB1
      have HBW1 := Lib.hid hbw1
      rcases hr with ⟨rfl, hn⟩ | ⟨k, c', rfl, hk, hh, hn⟩
      · have HN : Hid (celV cs t.name = none) := celL_none fV_ar hn
        clear hn hcs1 hbw1 HF hB1
        go_wp2_with fail
        go_ret2
        rw [HE.out, HN.out]
        exact ⟨0, rfl, by unfold Wd.W; omega, fun y hy => (by cases hy), HBW1.out⟩
      · have h1 := HONE.out c' (List.mem_of_getElem? hk) hh.2
        have hN : celV cs t.name = some (c'.l.getD 0 0) := celL_some fV_ar hk (by unfold fV; rw [hh.2, hh.1]; rfl) hn
        have HN := Lib.hid hN
        obtain ⟨b, off, ra, rc, rfl, hce⟩ := hcs1.2 k c' hk
        obtain ⟨_, _, c2, hw, _⟩ := hce
        have hkl := (List.getElem?_eq_some_iff.1 hk).1
        have hkl2 : (k : Int) < (cs.length : Int) := by omega
        have hk0 : (0 : Int) ≤ (k : Int) := by omega
        obtain ⟨b2, o2, rfl, hw2⟩ := hw.at_.resolve_left (by omega)
        obtain ⟨x, hx⟩ : ∃ x, c'.l[0]? = some x := ⟨_, List.getElem?_eq_getElem (by omega)⟩
        have c4 := hw2 0 x hx
        rw [Nat.add_zero] at c4
        have HW := Lib.hid (hw.words x (List.mem_of_getElem? hx))
        have hl0 : 0 < c'.l.length := by omega
        have HGX : Hid (c'.l.getD 0 0 = x) := by show _ = _; rw [List.getD_eq_getElem?_getD, hx]; rfl
        have hbl := World.block_lt_of_cell? _ _ c2
        have hbl2 := World.block_lt_of_cell? _ _ c4
        have hkn : ¬ (k : Int) < 0 := by omega
        have hkd : decide ((k : Int) < 0) = false := decide_eq_false hkn
        clear hn hcs1 hbw1 HF hB1 h1 hN hw hw2 hx hk hh
        go_wp2_with fail
        go_ret2
        rw [HE.out, HN.out, HGX.out]
        exact ⟨x, rfl, HW.out, fun y hy => (by cases hy; rfl), HBW1.out⟩
    have hl0 : 0 < t.len := by
      rw [HLEN.out]
      unfold Fm.kids
      by_cases hc : t.kind = 3 ∨ t.kind = 4 ∨ t.kind = 5
      · rcases hc with e | e | e <;> rw [e] <;> decide
      · rw [Fm.row_else t.kind (by omega)]; decide
    obtain ⟨kb, ko, rfl, ai, ci, hnd, hr0⟩ := kid_at (HK.out W (Below.refl _ _)).2.2.1 hl0
    obtain ⟨v0, hv0⟩ : ∃ v0, (t.kid 0).ev (celV cs) (celA cs) = v0 := ⟨_, rfl⟩
    have HV0 : Hid (∀ k, v0 = .er k → k ≠ 0) := fun k h => ev_ne0 _ _ _ k (hv0.trans h)
    have HEV0 : Hid ((if 0 < t.len then (t.kid 0).ev (celV cs) (celA cs) else .ok 0) = v0) := by show _ = _; rw [if_pos hl0, hv0]
    have HI0 : Hid (∀ w', Below W.heap.size W w' → Calls Tryd.prog 30 #[(t.kid 0).val ai ci, .slice ca cs.length cc] w' (RefEQ v0 w')) := fun w' h => by
      have h2 := HIH.out 0 hl0 w' ai ci (hr0.below h) (HK.out w' h).2.1
      rw [hv0] at h2
      exact h2
    have HND := Lib.hid hnd
    have hl0i : (0 : Int) < (t.len : Int) := by omega
    have hno : ∀ o, ko + 0 * 4 + o = ko + o := fun o => by omega
    clear hnd hr0 hv0 hno
    by_cases k3 : t.kind = 3
    · have b1 : (t.kind == 1) = false := by simp [k3]
      have b2 : (t.kind == 2) = false := by simp [k3]
      have b3 : (t.kind == 3) = true := by simp [k3]
      have HE : Hid (t.ev (celV cs) (celA cs) = itemE (celA cs t.name) v0) := by show _ = _; rw [HEV.out, HEV0.out]; unfold evB itemE; rw [if_neg k1, if_neg k2, if_pos k3]; cases celA cs t.name <;> rfl
      have HF := Lib.hid (find16_any cs t.name true W ca cc (HK.out W (Below.refl _ _)).2.1)
      clear k1 k2 k3 HEV
      go_enter Tryd.func30, Tryd.ntmps30
      go_wp2_with fail
      clear hW x0 x1 x2 x3
      refine HF.out.mono ?_
      rintro e w1 ⟨r, rfl, hr, hB1⟩
      have HB1 := Lib.hid hB1
      obtain ⟨hx1, _, _, hbw1⟩ := HK.out w1 hB1
      have HBW1 := Lib.hid hbw1
      obtain ⟨x0, x1, x2, x3⟩ := nd_cells hx1
      rcases hr with ⟨rfl, hn⟩ | ⟨k, c', rfl, hk, hh, hn⟩
      · have HN : Hid (celA cs t.name = none) := celL_none fA_ar hn
        clear hn hbw1 HF hB1 hx1
        go_wp2_with fail
        go_ret2
        rw [HE.out, HN.out]
        exact ⟨0, rfl, by unfold Wd.W; omega, fun y hy => (by cases hy), HBW1.out⟩
      · have hN : celA cs t.name = some c'.l := celL_some fA_ar hk (by unfold fA; rw [hh.2, hh.1]; rfl) hn
        have HN := Lib.hid hN
        have HKC := Lib.hid hk
        have hll := HCL.out c' (List.mem_of_getElem? hk)
        have hkl := (List.getElem?_eq_some_iff.1 hk).1
        have hkl2 : (k : Int) < (cs.length : Int) := by omega
        have hk0 : (0 : Int) ≤ (k : Int) := by omega
        have hkn : ¬ (k : Int) < 0 := by omega
        have hkd : decide ((k : Int) < 0) = false := decide_eq_false hkn
        obtain ⟨q0, q1, q2, q3⟩ := HND.out.below hB1 HND.out.lt
        simp only [Nat.zero_mul, Nat.add_zero] at q0 q1 q2 q3
        have hbl := World.block_lt_of_cell? _ _ q0
        have HC0 := Lib.hid (HI0.out w1 hB1)
        clear hn hbw1 HF hB1 hx1 hN hk hh
        go_wp2_with fail
        clear x0 x1 x2 x3 q0 q1 q2 q3
        refine HC0.out.mono ?_
        rintro e w2 ⟨x, rfl, hxW, hxy, hB2⟩
        have HB2 := Lib.hid (mem_then HB1.out hB2)
        have HBW2 := Lib.hid (HK.out w2 HB2.out).2.2.2
        have HXW := Lib.hid hxW
        clear hB2 HC0 hxW
        cases v0 with
        | er kk =>
          have hne := HV0.out kk rfl
          have hb1 : (kk != 0) = true := by simpa using hne
          have hb2 : ((evK (.er kk)) != 0) = true := hb1
          have hb3 : evK (.er kk) = kk := rfl
          clear hxy
          go_wp2_with fail
          go_ret2
          rw [HE.out, HN.out]
          exact ⟨0, rfl, by unfold Wd.W; omega, fun y hy => (by cases hy), HBW2.out⟩
        | ok y =>
          obtain rfl := hxy y rfl
          have hb3 : evK (.ok x) = 0 := rfl
          obtain ⟨b, off, ra, rc, hca, hce⟩ := (HK.out w2 HB2.out).2.1.2 k c' HKC.out
          obtain ⟨_, _, c2, hw, _⟩ := hce
          subst hca
          have hbl2 := World.block_lt_of_cell? _ _ c2
          have hxi : -2147483648 ≤ x ∧ x ≤ 2147483647 := HXW.out
          by_cases hin : 0 ≤ x ∧ x < (c'.l.length : Int)
          · obtain ⟨m, hm⟩ : ∃ m : Nat, x = (m : Int) := ⟨x.toNat, by omega⟩
            subst hm
            have hml : m < c'.l.length := by omega
            have hml2 : (m : Int) < (c'.l.length : Int) := by omega
            have hm0 : (0 : Int) ≤ (m : Int) := by omega
            obtain ⟨b2, o2, rfl, hw2⟩ := hw.at_.resolve_left (by omega)
            obtain ⟨z, hz⟩ : ∃ z, c'.l[m]? = some z := ⟨_, List.getElem?_eq_getElem hml⟩
            have c4 := hw2 m z hz
            have HW := Lib.hid (hw.words z (List.mem_of_getElem? hz))
            have hbl3 := World.block_lt_of_cell? _ _ c4
            have g1 : decide ((m : Int) < 0) = false := decide_eq_false (by omega)
            have g2 : decide ((c'.l.length : Int) ≤ (m : Int)) = false := decide_eq_false (by omega)
            have HZ : Hid (EV.bind (.ok (m : Int)) (elemV c'.l) = .ok z) := by
              show elemV c'.l (m : Int) = .ok z
              unfold elemV
              rw [if_pos ⟨by omega, by omega⟩, Int.toNat_natCast, List.getD_eq_getElem?_getD, hz]
              rfl
            clear hxy hw hw2 hz hin
            go_wp2_with fail
            go_ret2
            rw [HE.out, HN.out]
            show RefEQ (EV.bind (.ok (m : Int)) (elemV c'.l)) _ _ _
            rw [HZ.out]
            exact ⟨z, rfl, HW.out, fun y hy => (by cases hy; rfl), HBW2.out⟩
          · have HZ : Hid (EV.bind (.ok x) (elemV c'.l) = .er 11) := by
              show elemV c'.l x = .er 11
              unfold elemV
              rw [if_neg hin]
            have hg : decide (x < 0) = true ∨ (decide (x < 0) = false ∧ decide ((c'.l.length : Int) ≤ x) = true) := by
              by_cases h : x < 0
              · exact .inl (decide_eq_true h)
              · exact .inr ⟨decide_eq_false h, decide_eq_true (by omega)⟩
            clear hxy hw hin
            rcases hg with g1 | ⟨g1, g2⟩
            all_goals
              go_wp2_with fail
              go_ret2
              rw [HE.out, HN.out]
              show RefEQ (EV.bind (.ok x) (elemV c'.l)) _ _ _
              rw [HZ.out]
              exact ⟨0, rfl, by unfold Wd.W; omega, fun y hy => (by cases hy), HBW2.out⟩
    have b1 : (t.kind == 1) = false := by simp [k1]
    have b2 : (t.kind == 2) = false := by simp [k2]
    have b3 : (t.kind == 3) = false := by simp [k3]
    obtain ⟨q0, q1, q2, q3⟩ := HND.out.below (Below.refl _ _) HND.out.lt
    simp only [Nat.zero_mul, Nat.add_zero] at q0 q1 q2 q3
    have hbl := World.block_lt_of_cell? _ _ q0
    have HC0 := Lib.hid (HI0.out W (Below.refl _ _))
    by_cases k45 : t.kind = 4 ∨ t.kind = 5
    · have HE : Hid (t.ev (celV cs) (celA cs) = v0.bind fun x => .ok (Wd.unary t.kind x)) := by show _ = _; rw [HEV.out, HEV0.out]; unfold evB; rw [if_neg k1, if_neg k2, if_neg k3, if_pos k45]
      have hk : (t.kind == 4) = true ∨ ((t.kind == 4) = false ∧ (t.kind == 5) = true) := by
        rcases k45 with h | h
        · exact .inl (by simp [h])
        · exact .inr (by simp [h])
      have HUE := Lib.hid (uerr_in k45)
      clear k1 k2 k3 k45 HEV
      rcases hk with b4 | ⟨b4, b5⟩
      all_goals
        go_enter Tryd.func30, Tryd.ntmps30
        go_wp2_with fail
        clear hW x0 x1 x2 x3 q0 q1 q2 q3
        refine HC0.out.mono ?_
        rintro e w2 ⟨x, rfl, hxW, hxy, hB2⟩
        have HB2 := Lib.hid hB2
        obtain ⟨hx1, _, _, hbw⟩ := HK.out w2 hB2
        have HBW2 := Lib.hid hbw
        have HXW := Lib.hid hxW
        obtain ⟨x0, x1, x2, x3⟩ := nd_cells hx1
        clear hB2 HC0 hxW hx1 hbw
        cases v0 with
        | er kk =>
          have hne := HV0.out kk rfl
          have hb1 : (kk != 0) = true := by simpa using hne
          have hb3 : evK (.er kk) = kk := rfl
          clear hxy
          go_wp2_with fail
          go_ret2
          rw [HE.out]
          exact ⟨0, rfl, by unfold Wd.W; omega, fun y hy => (by cases hy), HBW2.out⟩
        | ok y =>
          obtain rfl := hxy y rfl
          have hb3 : evK (.ok x) = 0 := rfl
          have HRU := Lib.hid (refUnary_any t.kind x ⟨by omega, by omega⟩ HXW.out w2)
          clear hxy
          go_wp2_with fail
          refine HRU.out.mono ?_
          rintro e w3 ⟨rfl, rfl⟩
          clear HRU x0 x1 x2 x3
          go_wp2_with fail
          go_ret2
          rw [HE.out]
          exact ⟨_, by rw [HUE.out]; rfl, Wd.W_unary _ _, fun y hy => (by cases hy; rfl), HBW2.out⟩
    have b4 : (t.kind == 4) = false := by rw [beq_eq_false_iff_ne]; omega
    have b5 : (t.kind == 5) = false := by rw [beq_eq_false_iff_ne]; omega
    have hl1 : 1 < t.len := by
      rw [HLEN.out]
      unfold Fm.kids
      rw [Fm.row_else t.kind (by omega)]; decide
    have hl1i : (1 : Int) < (t.len : Int) := by omega
    obtain ⟨kb', ko', hka, ai1, ci1, hnd1, hr1⟩ := kid_at (HK.out W (Below.refl _ _)).2.2.1 hl1
    cases hka
    obtain ⟨v1, hv1⟩ : ∃ v1, (t.kid 1).ev (celV cs) (celA cs) = v1 := ⟨_, rfl⟩
    have HV1 : Hid (∀ k, v1 = .er k → k ≠ 0) := fun k h => ev_ne0 _ _ _ k (hv1.trans h)
    have HE : Hid (t.ev (celV cs) (celA cs) = v0.bind fun x => v1.bind fun y => if Wd.err t.kind y = 0 then .ok (Wd.apply t.kind x y) else .er (Wd.err t.kind y)) := by
      show _ = _
      rw [HEV.out, HEV0.out, if_pos hl1, hv1]
      unfold evB
      rw [if_neg k1, if_neg k2, if_neg k3, if_neg k45]
    have HI1 : Hid (∀ w', Below W.heap.size W w' → Calls Tryd.prog 30 #[(t.kid 1).val ai1 ci1, .slice ca cs.length cc] w' (RefEQ v1 w')) := fun w' h => by
      have h2 := HIH.out 1 hl1 w' ai1 ci1 (hr1.below h) (HK.out w' h).2.1
      rw [hv1] at h2
      exact h2
    have HND1 := Lib.hid hnd1
    clear k1 k2 k3 k45 HEV hnd1 hr1 hv1
    go_enter Tryd.func30, Tryd.ntmps30
    go_wp2_with fail
    clear hW x0 x1 x2 x3 q0 q1 q2 q3
    refine HC0.out.mono ?_
    rintro e w2 ⟨x, rfl, hxW, hxy, hB2⟩
    have HB2 := Lib.hid hB2
    obtain ⟨hx1, _, _, hbw⟩ := HK.out w2 hB2
    have HBW2 := Lib.hid hbw
    have HXW := Lib.hid hxW
    obtain ⟨x0, x1, x2, x3⟩ := nd_cells hx1
    obtain ⟨q0, q1, q2, q3⟩ := HND1.out.below hB2 HND1.out.lt
    have hbl2 := World.block_lt_of_cell? _ _ q0
    have HC1 := Lib.hid (HI1.out w2 hB2)
    clear hB2 HC0 hxW hx1 hbw
    cases v0 with
    | er kk =>
      have hne := HV0.out kk rfl
      have hb1 : (kk != 0) = true := by simpa using hne
      have hb3 : evK (.er kk) = kk := rfl
      clear hxy
      go_wp2_with fail
      go_ret2
      rw [HE.out]
      exact ⟨0, rfl, by unfold Wd.W; omega, fun y hy => (by cases hy), HBW2.out⟩
    | ok y =>
      obtain rfl := hxy y rfl
      have hb3 : evK (.ok x) = 0 := rfl
      clear hxy
      go_wp2_with fail
      clear x0 x1 x2 x3 q0 q1 q2 q3
      refine HC1.out.mono ?_
      rintro e w3 ⟨z, rfl, hzW, hzy, hB3⟩
      have HB3 := Lib.hid (mem_then HB2.out hB3)
      obtain ⟨hx1, _, _, hbw⟩ := HK.out w3 HB3.out
      have HBW3 := Lib.hid hbw
      have HZW := Lib.hid hzW
      obtain ⟨x0, x1, x2, x3⟩ := nd_cells hx1
      clear hB3 HC1 hzW hx1 hbw
      cases v1 with
      | er kk =>
        have hne := HV1.out kk rfl
        have hb1 : (kk != 0) = true := by simpa using hne
        have hb4 : evK (.er kk) = kk := rfl
        clear hzy
        go_wp2_with fail
        go_ret2
        rw [HE.out]
        exact ⟨0, rfl, by unfold Wd.W; omega, fun y hy => (by cases hy), HBW3.out⟩
      | ok y =>
        obtain rfl := hzy y rfl
        have hb4 : evK (.ok z) = 0 := rfl
        have HRA := Lib.hid (refApply_any t.kind x z ⟨by omega, by omega⟩ HXW.out HZW.out w3)
        clear hzy
        go_wp2_with fail
        refine HRA.out.mono ?_
        rintro e w4 ⟨rfl, rfl⟩
        clear HRA x0 x1 x2 x3
        go_wp2_with fail
        go_ret2
        rw [HE.out]
        show RefEQ (if Wd.err t.kind z = 0 then EV.ok (Wd.apply t.kind x z) else .er (Wd.err t.kind z)) _ _ _
        refine ⟨Wd.apply t.kind x z, ?_, Wd.W_apply _ HXW.out HZW.out, fun y hy => ?_, HBW3.out⟩
        · by_cases he : Wd.err t.kind z = 0
          · rw [if_pos he, he]; rfl
          · rw [if_neg he]; rfl
        · by_cases he : Wd.err t.kind z = 0
          · rw [if_pos he] at hy; cases hy; rfl
          · rw [if_neg he] at hy; cases hy
end Go.Proofs.YtgochgcchkdlmaaDoor
