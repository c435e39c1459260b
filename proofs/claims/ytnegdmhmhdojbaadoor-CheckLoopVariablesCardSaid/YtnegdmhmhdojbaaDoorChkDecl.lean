/-
  Contract: declare (package check: task, its first function).
-/
import Derived.Test.YtnegdmhmhdojbaaDoorChkTask2
namespace Go.Proofs.YtnegdmhmhdojbaaDoor
set_option linter.unusedVariables false
set_option linter.unusedSimpArgs false
open Go.RowKit
set_option maxRecDepth 100000
set_option maxHeartbeats 8000000

/-- what a declaration leaves alone: all but the map of names, the faults and their box -/
structure FrK (N kb : Nat) (w w' : World) : Prop where
  low : Below N w w'
  still : ∀ (k : Nat) (o : Obj), k ≠ kb → w.heap[k]? = some o → Still15 o → w'.heap[k]? = some o
section
variable {N kb : Nat} {w w' w'' : World} {v : Value}
theorem FrK.refl : FrK N kb w w := ⟨Below.refl _ _, fun _ _ _ h _ => h⟩
theorem FrK.trans (h : FrK N kb w w') (h' : FrK N kb w' w'') : FrK N kb w w'' := ⟨h.low.trans h'.low, fun k o hn hk hs => h'.still k o hn (h.still k o hn hk hs) hs⟩
theorem FrK.of (h : FrT N w w') : FrK N kb w w' := ⟨h.low, fun k o _ hk hs => h.still k o hk hs⟩
theorem FrK.cells {b : Nat} {arr : Array Value} {t : TypeId} (h : FrK N kb w w') (hb : w.heap[b]? = some (.cells arr t)) (hn : b ≠ kb) (h1 : t ≠ 38) (h2 : t ≠ 28) : w'.heap[b]? = some (.cells arr t) := h.still b _ hn hb ⟨h1, h2⟩
theorem FrK.set {b n : Nat} {S : List ByteArray} (h : FrK N kb w w') (hs : SetS w b n S) (hn : b ≠ kb) : SetS w' b n S := by
  obtain ⟨D, ⟨es, clock, h1, h2⟩, h3⟩ := hs
  exact ⟨D, ⟨es, clock, h.still b _ hn h1 trivial, h2⟩, h3⟩
end
/-- the faults when a map grows -/
theorem FB.map {N kb fb n : Nat} {w w2 : World} {v : Value} {L : List FltP} {S : List ByteArray} (h : FB N w fb v L) (hN : N ≤ kb) (hs : SetS w kb n S) (hg : w.grownBy w2 (some kb)) : FB N w2 fb v L ∧ FrK N kb w w2 := by
  have hmap : ∃ es clock, w.heap[kb]? = some (.map es clock) := by
    obtain ⟨D, ⟨es, clock, h1, _⟩, _⟩ := hs
    exact ⟨es, clock, h1⟩
  obtain ⟨es, clock, hm⟩ := hmap
  have ne : ∀ {e : TypeId} {size m B : Nat} {z : Value} {xs : List Value}, w.ownsRow B e size z m xs → z.ownBlock ≠ some kb := fun {e size m B z xs} hr he => by
    rcases hr.2 with ⟨rfl, _⟩ | ⟨g, cap, cur, rfl, _, hc, _⟩
    · cases he
    · have he : g = kb := by injection he
      subst he
      rw [hm] at hc
      cases hc
  have keep : ∀ {e : TypeId} {size m B : Nat} {z : Value} {xs : List Value}, w.ownsRow B e size z m xs → w2.ownsRow B e size z m xs := fun {e size m B z xs} hr => own_keep hr (fun k hk hl => hg.block k hl (fun e9 => ne hr (by rw [hk, e9])))
  have hfk : fb ≠ kb := by
    rintro rfl
    have := h.box
    rw [hm] at this
    cases this
  refine ⟨⟨(hg.block fb (mem_lt h.box) (fun e => hfk (by injection e))).trans h.box, ⟨keep h.row.ro, fun f hf => keep (h.row.ri f hf)⟩, h.up⟩, ⟨⟨hg.os, hg.tape, hg.output, hg.size, fun k hk => ?_⟩, fun k o hn hk _ => (hg.block k (mem_lt hk) (fun e => hn (by injection e))).trans hk⟩⟩
  by_cases hl : k < w.heap.size
  · exact hg.block k hl (fun e => by have e : k = kb := by injection e
                                     omega)
  · have := mem_lt hm
    omega
/-- the fault of a declaration -/
def declOne (ix : Int) (b : Bool) (s : ByteArray) : List FltP := if b then [⟨ix, ⟨[], 8, s⟩, .slice none 0 0⟩] else []
theorem decl_any (N db fb ib sb cb ab : Nat) (ix : Int) (d : Nms) (s : ByteArray) (kb n : Nat) (S : List ByteArray) (w : World) (v : Value) (L : List FltP) (hN : N ≤ w.heap.size) (hs : s.size ≤ maxLen) (hn : n < maxLen) (hL : L.length ≤ 1000000) (hkb : N ≤ kb)
    (hd : w.heap[db]? = some (.cells #[.map (some sb), .map (some cb), .map (some ab)] 87)) (hi : w.heap[ib]? = some (.cells #[.int .i64 ix] 3)) (hnm : NmsAt w sb cb ab d) (hset : SetS w kb n S) (hfb : FB N w fb v L) :
    Calls Tryd.prog 60 #[.string s, .map (some kb), .pointer (some ⟨db, 0, none⟩), .pointer (some ⟨fb, 0, none⟩), .pointer (some ⟨ib, 0, none⟩)] w fun e w' =>
      e = .returned (.tuple #[]) ∧ ∃ v', FB N w' fb v' (L ++ declOne ix (memB d.shared s || memB d.scalars s || memB d.arrays s) s) ∧ SetS w' kb (n + 1) (S ++ [s]) ∧ FrK N kb w w' := by
  obtain ⟨ti, hti, hz0, hz1, hz2⟩ := info_parts FltP.info
  obtain ⟨⟨ns, h1⟩, ⟨nc, h2⟩, ⟨na, h3⟩⟩ := hnm
  have g1 := sset_get h1 hs
  have g2 := sset_get h2 hs
  have g3 := sset_get h3 hs
  obtain ⟨va, vc, rfl⟩ := own_val hfb.row.ro
  have HFB := Lib.hid hfb
  have HSET := Lib.hid hset
  have d0 : w.cell? ⟨db, 0, none⟩ = some (.map (some sb)) := mem_cell hd 0
  have d1 : w.cell? ⟨db, 1, none⟩ = some (.map (some cb)) := mem_cell hd 1
  have d2 : w.cell? ⟨db, 2, none⟩ = some (.map (some ab)) := mem_cell hd 2
  have i0 : w.cell? ⟨ib, 0, none⟩ = some (.int .i64 ix) := mem_cell hi 0
  have f0 : w.cell? ⟨fb, 0, none⟩ = some (.slice va L.length vc) := mem_cell hfb.box 0
  have z0 : w.frozen? ⟨fb, 0, none⟩ = false := mem_free hfb.box 0
  have HFX := Lib.hid hfb.box
  obtain ⟨b1, hb1⟩ : ∃ b, memB d.shared s = b := ⟨_, rfl⟩
  obtain ⟨b2, hb2⟩ : ∃ b, memB d.scalars s = b := ⟨_, rfl⟩
  obtain ⟨b3, hb3⟩ : ∃ b, memB d.arrays s = b := ⟨_, rfl⟩
  rw [hb1] at g1 ⊢
  rw [hb2] at g2 ⊢
  rw [hb3] at g3 ⊢
  clear hb1 hb2 hb3 h1 h2 h3 hd hi hset hfb
  by_cases hb : (b1 || b2 || b3) = true
  · have HB := Lib.hid hb
    obtain ⟨D, hD⟩ : ∃ D : World, w.alloc (.cells #[.int .i64 ix, .slice none 0 0, .int .i64 8, .string s] 38) = D := ⟨_, rfl⟩
    have HBD : Hid (Below w.heap.size w D) := by show Below _ _ _; rw [← hD]; exact mem_alloc _ _
    have HLIT : Hid (∀ (k : Nat) (u : Value), (FltP.mk ix ⟨[], 8, s⟩ (.slice none 0 0)).cells[k]? = some u → D.cell? ((⟨w.heap.size, 0, none⟩ : Addr).add k) = some u) := by
      show ∀ _ _, _
      rw [← hD]
      exact one_newF w ⟨ix, ⟨[], 8, s⟩, .slice none 0 0⟩
    have hthree : (b1 = true) ∨ (b1 = false ∧ b2 = true) ∨ (b1 = false ∧ b2 = false ∧ b3 = true) := by revert hb; cases b1 <;> cases b2 <;> cases b3 <;> simp
    clear hb
    rcases hthree with rfl | ⟨rfl, rfl⟩ | ⟨rfl, rfl, rfl⟩
    all_goals
      go_enter Tryd.func60, Tryd.ntmps60
      go_wp2_with (at_builtin; refine wpList_append_row _ rfl (.tmp 23) (.tmp 27) 28 rfl N 38 ti _ 4 56 Tryd.underlying28 hti hz0 hz1 hz2 rfl (by decide) (.slice va L.length vc) L.length (L.flatMap FltP.cells) rfl (HFB.out.keep HBD.out).row.ro ⟨w.heap.size, 0, none⟩ 1 1 (FltP.mk ix ⟨[], 8, s⟩ (.slice none 0 0)).cells rfl rfl HLIT.out (FltP.one _ rfl) (by decide) (by unfold maxLen; omega) (by omega) (Nat.le_trans hN HBD.out.size) ?_)
      intro gb cap w2 hown2 hgrow2 _
      obtain ⟨hfg, hbx⟩ := HFB.out.grow hN HBD.out hgrow2
      have hpush := HFB.out.push (f := ⟨ix, ⟨[], 8, s⟩, .slice none 0 0⟩) hN HBD.out (World.ownsRow_nil _ _ _ _) hgrow2 hown2
      have q0 : w2.frozen? ⟨fb, 0, none⟩ = false := mem_free hbx 0
      have q1 : w2.cell? ⟨fb, 0, none⟩ = some (.slice va L.length vc) := mem_cell hbx 0
      obtain ⟨wS, hS⟩ : ∃ wS : World, w2.setCell ⟨fb, 0, none⟩ (.slice (some ⟨gb, 0, none⟩) (L.length + 1) cap) = wS := ⟨_, rfl⟩
      rw [hS] at hpush
      have HPU := Lib.hid hpush
      have HSE := Lib.hid (hpush.2.set HSET.out)
      clear hown2 hgrow2 hpush hbx hD hfg d0 d1 d2 i0 f0 z0 g1 g2 g3
      go_wp2_with (at_mapUpdate; refine wpList_store_str _ rfl _ _ _ 72 rfl 9 4 Tryd.underlying9 Tryd.underlying4 Tryd.underlying72 kb n S rfl HSE.out s rfl rfl hs hn ?_)
      intro w3 h3 hg3
      obtain ⟨hf3, hk3⟩ := HPU.out.1.map hkb HSE.out hg3
      have HF3 := Lib.hid hf3
      have HK3 := Lib.hid hk3
      have HS3 := Lib.hid h3
      clear h3 hg3 hf3 hk3 hS q0 q1
      go_wp2_with fail
      go_end0
      exact ⟨rfl, _, by unfold declOne; rw [if_pos HB.out]; exact HF3.out, HS3.out, (FrK.of HPU.out.2).trans HK3.out⟩
  · have HB := Lib.hid hb
    have hall : b1 = false ∧ b2 = false ∧ b3 = false := by revert hb; cases b1 <;> cases b2 <;> cases b3 <;> simp
    obtain ⟨rfl, rfl, rfl⟩ := hall
    clear hb
    go_enter Tryd.func60, Tryd.ntmps60
    go_wp2_with (at_mapUpdate; refine wpList_store_str _ rfl _ _ _ 72 rfl 9 4 Tryd.underlying9 Tryd.underlying4 Tryd.underlying72 kb n S rfl HSET.out s rfl rfl hs hn ?_)
    intro w3 h3 hg3
    obtain ⟨hf3, hk3⟩ := HFB.out.map hkb HSET.out hg3
    have HF3 := Lib.hid hf3
    have HK3 := Lib.hid hk3
    have HS3 := Lib.hid h3
    clear h3 hg3 hf3 hk3
    go_wp2_with fail
    go_end0
    exact ⟨rfl, _, by unfold declOne; rw [if_neg HB.out, List.append_nil]; exact HF3.out, HS3.out, HK3.out⟩
end Go.Proofs.YtnegdmhmhdojbaaDoor
