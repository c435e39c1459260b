/-
  Mg10: several texts in one (ChkDecl, Lex, AstPlain).
-/
import Derived.Test.YtkpdngfkdmllkaaDoorChkTask2
import Derived.Test.YtkpdngfkdmllkaaDoorProg
import Derived.WalkKit
import Derived.Lib.Hide
import Derived.LoopTactic
import Derived.BigGuardPart
import Derived.Outline
import Derived.Test.YtkpdngfkdmllkaaDoorMg5
/-
  Contract: declare (package check: task, its first function).
-/
namespace Go.Proofs.YtkpdngfkdmllkaaDoor
set_option linter.unusedVariables false
set_option linter.unusedSimpArgs false
open Go.RowKit
set_option maxRecDepth 100000
set_option maxHeartbeats 8000000

/-- what a declaration leaves alone: all but the map of names, the faults and their box -/
structure FrK (N kb : Nat) (w w' : World) : Prop where
  low : Below N w w'
  still : ∀ (k : Nat) (o : Obj), k ≠ kb → w.heap[k]? = some o → Still15 o → w'.heap[k]? = some o
section
variable {N kb : Nat} {w w' w'' : World} {v : Value}
theorem FrK.refl : FrK N kb w w := ⟨Below.refl _ _, fun _ _ _ h _ => h⟩
theorem FrK.trans (h : FrK N kb w w') (h' : FrK N kb w' w'') : FrK N kb w w'' := ⟨h.low.trans h'.low, fun k o hn hk hs => h'.still k o hn (h.still k o hn hk hs) hs⟩
theorem FrK.of (h : FrT N w w') : FrK N kb w w' := ⟨h.low, fun k o _ hk hs => h.still k o hk hs⟩
theorem FrK.cells {b : Nat} {arr : Array Value} {t : TypeId} (h : FrK N kb w w') (hb : w.heap[b]? = some (.cells arr t)) (hn : b ≠ kb) (h1 : t ≠ 109) (h2 : t ≠ 81) : w'.heap[b]? = some (.cells arr t) := h.still b _ hn hb ⟨h1, h2⟩
theorem FrK.set {b n : Nat} {S : List ByteArray} (h : FrK N kb w w') (hs : SetS w b n S) (hn : b ≠ kb) : SetS w' b n S := by
  obtain ⟨D, ⟨es, clock, h1, h2⟩, h3⟩ := hs
  exact ⟨D, ⟨es, clock, h.still b _ hn h1 trivial, h2⟩, h3⟩
end
/-- the faults when a map grows -/
theorem FB.map {N kb fb n : Nat} {w w2 : World} {v : Value} {L : List FltP} {S : List ByteArray} (h : FB N w fb v L) (hN : N ≤ kb) (hs : SetS w kb n S) (hg : w.grownBy w2 (some kb)) : FB N w2 fb v L ∧ FrK N kb w w2 := by
  have hmap : ∃ es clock, w.heap[kb]? = some (.map es clock) := by
    obtain ⟨D, ⟨es, clock, h1, _⟩, _⟩ := hs
    exact ⟨es, clock, h1⟩
  obtain ⟨es, clock, hm⟩ := hmap
  have ne : ∀ {e : TypeId} {size m B : Nat} {z : Value} {xs : List Value}, w.ownsRow B e size z m xs → z.ownBlock ≠ some kb := fun {e size m B z xs} hr he => by
    rcases hr.2 with ⟨rfl, _⟩ | ⟨g, cap, cur, rfl, _, hc, _⟩
    · cases he
    · have he : g = kb := by injection he
      subst he
      rw [hm] at hc
      cases hc
  have keep : ∀ {e : TypeId} {size m B : Nat} {z : Value} {xs : List Value}, w.ownsRow B e size z m xs → w2.ownsRow B e size z m xs := fun {e size m B z xs} hr => own_keep hr (fun k hk hl => hg.block k hl (fun e9 => ne hr (by rw [hk, e9])))
  have hfk : fb ≠ kb := by
    rintro rfl
    have := h.box
    rw [hm] at this
    cases this
  refine ⟨⟨(hg.block fb (mem_lt h.box) (fun e => hfk (by injection e))).trans h.box, ⟨keep h.row.ro, fun f hf => keep (h.row.ri f hf)⟩, h.up⟩, ⟨⟨hg.os, hg.tape, hg.output, hg.size, fun k hk => ?_⟩, fun k o hn hk _ => (hg.block k (mem_lt hk) (fun e => hn (by injection e))).trans hk⟩⟩
  by_cases hl : k < w.heap.size
  · exact hg.block k hl (fun e => by have e : k = kb := by injection e
                                     omega)
  · have := mem_lt hm
    omega
/-- the fault of a declaration -/
def declOne (ix : Int) (b : Bool) (s : ByteArray) : List FltP := if b then [⟨ix, ⟨[], 8, s⟩, .slice none 0 0⟩] else []
theorem decl_any (N db fb ib sb cb ab : Nat) (ix : Int) (d : Nms) (s : ByteArray) (kb n : Nat) (S : List ByteArray) (w : World) (v : Value) (L : List FltP) (hN : N ≤ w.heap.size) (hs : s.size ≤ maxLen) (hn : n < maxLen) (hL : L.length ≤ 1000000) (hkb : N ≤ kb)
    (hd : w.heap[db]? = some (.cells #[.map (some sb), .map (some cb), .map (some ab)] 121)) (hi : w.heap[ib]? = some (.cells #[.int .i64 ix] 3)) (hnm : NmsAt w sb cb ab d) (hset : SetS w kb n S) (hfb : FB N w fb v L) :
    Calls Tryd.prog 56 #[.string s, .map (some kb), .pointer (some ⟨db, 0, none⟩), .pointer (some ⟨fb, 0, none⟩), .pointer (some ⟨ib, 0, none⟩)] w fun e w' =>
      e = .returned (.tuple #[]) ∧ ∃ v', FB N w' fb v' (L ++ declOne ix (memB d.shared s || memB d.scalars s || memB d.arrays s) s) ∧ SetS w' kb (n + 1) (S ++ [s]) ∧ FrK N kb w w' := by
  obtain ⟨ti, hti, hz0, hz1, hz2⟩ := info_parts FltP.info
  obtain ⟨⟨ns, h1⟩, ⟨nc, h2⟩, ⟨na, h3⟩⟩ := hnm
  have g1 := sset_get h1 hs
  have g2 := sset_get h2 hs
  have g3 := sset_get h3 hs
  obtain ⟨va, vc, rfl⟩ := own_val hfb.row.ro
  have HFB := Lib.hid hfb
  have HSET := Lib.hid hset
  have d0 : w.cell? ⟨db, 0, none⟩ = some (.map (some sb)) := mem_cell hd 0
  have d1 : w.cell? ⟨db, 1, none⟩ = some (.map (some cb)) := mem_cell hd 1
  have d2 : w.cell? ⟨db, 2, none⟩ = some (.map (some ab)) := mem_cell hd 2
  have i0 : w.cell? ⟨ib, 0, none⟩ = some (.int .i64 ix) := mem_cell hi 0
  have f0 : w.cell? ⟨fb, 0, none⟩ = some (.slice va L.length vc) := mem_cell hfb.box 0
  have z0 : w.frozen? ⟨fb, 0, none⟩ = false := mem_free hfb.box 0
  have HFX := Lib.hid hfb.box
  obtain ⟨b1, hb1⟩ : ∃ b, memB d.shared s = b := ⟨_, rfl⟩
  obtain ⟨b2, hb2⟩ : ∃ b, memB d.scalars s = b := ⟨_, rfl⟩
  obtain ⟨b3, hb3⟩ : ∃ b, memB d.arrays s = b := ⟨_, rfl⟩
  rw [hb1] at g1 ⊢
  rw [hb2] at g2 ⊢
  rw [hb3] at g3 ⊢
  clear hb1 hb2 hb3 h1 h2 h3 hd hi hset hfb
  by_cases hb : (b1 || b2 || b3) = true
  · have HB := Lib.hid hb
    obtain ⟨D, hD⟩ : ∃ D : World, w.alloc (.cells #[.int .i64 ix, .slice none 0 0, .int .i64 8, .string s] 109) = D := ⟨_, rfl⟩
    have HBD : Hid (Below w.heap.size w D) := by show Below _ _ _; rw [← hD]; exact mem_alloc _ _
    have HLIT : Hid (∀ (k : Nat) (u : Value), (FltP.mk ix ⟨[], 8, s⟩ (.slice none 0 0)).cells[k]? = some u → D.cell? ((⟨w.heap.size, 0, none⟩ : Addr).add k) = some u) := by
      show ∀ _ _, _
      rw [← hD]
      exact one_newF w ⟨ix, ⟨[], 8, s⟩, .slice none 0 0⟩
    have hthree : (b1 = true) ∨ (b1 = false ∧ b2 = true) ∨ (b1 = false ∧ b2 = false ∧ b3 = true) := by revert hb; cases b1 <;> cases b2 <;> cases b3 <;> simp
    clear hb
    rcases hthree with rfl | ⟨rfl, rfl⟩ | ⟨rfl, rfl, rfl⟩
    all_goals
      go_enter Tryd.func56, Tryd.ntmps56
      go_wp2_with (at_builtin; refine wpList_append_row _ rfl (.tmp 23) (.tmp 27) 81 rfl N 109 ti _ 4 56 Tryd.underlying81 hti hz0 hz1 hz2 rfl (by decide) (.slice va L.length vc) L.length (L.flatMap FltP.cells) rfl (HFB.out.keep HBD.out).row.ro ⟨w.heap.size, 0, none⟩ 1 1 (FltP.mk ix ⟨[], 8, s⟩ (.slice none 0 0)).cells rfl rfl HLIT.out (FltP.one _ rfl) (by decide) (by unfold maxLen; omega) (by omega) (Nat.le_trans hN HBD.out.size) ?_)
      intro gb cap w2 hown2 hgrow2 _
      obtain ⟨hfg, hbx⟩ := HFB.out.grow hN HBD.out hgrow2
      have hpush := HFB.out.push (f := ⟨ix, ⟨[], 8, s⟩, .slice none 0 0⟩) hN HBD.out (World.ownsRow_nil _ _ _ _) hgrow2 hown2
      have q0 : w2.frozen? ⟨fb, 0, none⟩ = false := mem_free hbx 0
      have q1 : w2.cell? ⟨fb, 0, none⟩ = some (.slice va L.length vc) := mem_cell hbx 0
      obtain ⟨wS, hS⟩ : ∃ wS : World, w2.setCell ⟨fb, 0, none⟩ (.slice (some ⟨gb, 0, none⟩) (L.length + 1) cap) = wS := ⟨_, rfl⟩
      rw [hS] at hpush
      have HPU := Lib.hid hpush
      have HSE := Lib.hid (hpush.2.set HSET.out)
      clear hown2 hgrow2 hpush hbx hD hfg d0 d1 d2 i0 f0 z0 g1 g2 g3
      go_wp2_with (at_mapUpdate; refine wpList_store_str _ rfl _ _ _ 70 rfl 9 4 Tryd.underlying9 Tryd.underlying4 Tryd.underlying70 kb n S rfl HSE.out s rfl rfl hs hn ?_)
      intro w3 h3 hg3
      obtain ⟨hf3, hk3⟩ := HPU.out.1.map hkb HSE.out hg3
      have HF3 := Lib.hid hf3
      have HK3 := Lib.hid hk3
      have HS3 := Lib.hid h3
      clear h3 hg3 hf3 hk3 hS q0 q1
      go_wp2_with fail
      go_end0
      exact ⟨rfl, _, by unfold declOne; rw [if_pos HB.out]; exact HF3.out, HS3.out, (FrK.of HPU.out.2).trans HK3.out⟩
  · have HB := Lib.hid hb
    have hall : b1 = false ∧ b2 = false ∧ b3 = false := by revert hb; cases b1 <;> cases b2 <;> cases b3 <;> simp
    obtain ⟨rfl, rfl, rfl⟩ := hall
    clear hb
    go_enter Tryd.func56, Tryd.ntmps56
    go_wp2_with (at_mapUpdate; refine wpList_store_str _ rfl _ _ _ 70 rfl 9 4 Tryd.underlying9 Tryd.underlying4 Tryd.underlying70 kb n S rfl HSET.out s rfl rfl hs hn ?_)
    intro w3 h3 hg3
    obtain ⟨hf3, hk3⟩ := HFB.out.map hkb HSET.out hg3
    have HF3 := Lib.hid hf3
    have HK3 := Lib.hid hk3
    have HS3 := Lib.hid h3
    clear h3 hg3 hf3 hk3
    go_wp2_with fail
    go_end0
    exact ⟨rfl, _, by unfold declOne; rw [if_neg HB.out, List.append_nil]; exact HF3.out, HS3.out, HK3.out⟩
end Go.Proofs.YtkpdngfkdmllkaaDoor

/-
  Contracts: bytes, keywords and names (package lexer).
-/
namespace Go.Proofs.YtkpdngfkdmllkaaDoor
set_option linter.unusedVariables false
set_option linter.unusedSimpArgs false
open Go.RowKit
set_option maxRecDepth 100000

namespace Lx
def letter (c : Int) : Bool := decide (97 ≤ c ∧ c ≤ 122)
def digit (c : Int) : Bool := decide (48 ≤ c ∧ c ≤ 57)
def inner (c : Int) : Bool := letter c || digit c
def space (c : Int) : Bool := decide (c = 32 ∨ c = 9 ∨ c = 13 ∨ c = 10)
def other (c : Int) : Bool := decide (¬ c = 10)
def kws : List (List UInt8) := [[97, 114, 114, 97, 121], [98, 111, 117, 110, 100], [101, 108, 115, 101], [102, 111, 114], [105, 102], [105, 110], [108, 111, 99, 107], [111, 117, 116], [112, 101, 114, 105, 111, 100], [115, 104, 97, 114, 101, 100], [116, 97, 115, 107], [118, 97, 114], [119, 104, 105, 108, 101]]
def keyword (l : List UInt8) : Bool := kws.contains l
/-- how many bytes at the head are of a kind -/
def run (p : Int → Bool) : List UInt8 → Nat
  | [] => 0
  | c :: r => if p c.toNat then 1 + run p r else 0
theorem run_le (p : Int → Bool) (l : List UInt8) : run p l ≤ l.length := by
  induction l with
  | nil => simp [run]
  | cons c r ih => simp only [run, List.length_cons]; split <;> omega
theorem run_all (p : Int → Bool) (l : List UInt8) : run p l = l.length ↔ l.all (fun c => p c.toNat) = true := by
  induction l with
  | nil => simp [run]
  | cons c r ih =>
    have := run_le p r
    simp only [run, List.length_cons, List.all_cons, Bool.and_eq_true]
    split
    · rename_i h; rw [← ih]; simp only [h, true_and]; omega
    · rename_i h; simp only [h]; simp
/-- a letter, then letters and digits -/
def startOk : List UInt8 → Bool
  | [] => false
  | c :: r => letter c.toNat && r.all (fun c => inner c.toNat)
/-- a name -/
def name (l : List UInt8) : Bool := decide (l.length ≤ 12) && !keyword l && startOk l
end Lx
theorem ret_bool' {a b : Bool} (h : a = b) : Ending.returned (.bool a) = .returned (.bool b) := by rw [h]

theorem isLetter_any (c : Int) (w : World) : Calls Tryd.prog 87 #[.int .u8 c] w fun e w' => e = .returned (.bool (Lx.letter c)) ∧ w = w' := by
  by_cases h1 : 97 ≤ c
  · by_cases h2 : c ≤ 122
    all_goals
      go_enter Tryd.func87, Tryd.ntmps87
      go_wp2_with fail
      go_ret
      exact ⟨ret_bool' (by simp [Lx.letter]; omega), rfl⟩
  · go_enter Tryd.func87, Tryd.ntmps87
    go_wp2_with fail
    go_ret
    exact ⟨ret_bool' (by simp [Lx.letter]; omega), rfl⟩

theorem isDigit_any (c : Int) (w : World) : Calls Tryd.prog 89 #[.int .u8 c] w fun e w' => e = .returned (.bool (Lx.digit c)) ∧ w = w' := by
  by_cases h1 : 48 ≤ c
  · by_cases h2 : c ≤ 57
    all_goals
      go_enter Tryd.func89, Tryd.ntmps89
      go_wp2_with fail
      go_ret
      exact ⟨ret_bool' (by simp [Lx.digit]; omega), rfl⟩
  · go_enter Tryd.func89, Tryd.ntmps89
    go_wp2_with fail
    go_ret
    exact ⟨ret_bool' (by simp [Lx.digit]; omega), rfl⟩

theorem isInner_any (c : Int) (w : World) : Calls Tryd.prog 88 #[.int .u8 c] w fun e w' => e = .returned (.bool (Lx.inner c)) ∧ w = w' := by
  have HI : Hid (Lx.inner c = (Lx.letter c || Lx.digit c)) := rfl
  cases hl : Lx.letter c with
  | true =>
    go_enter Tryd.func88, Tryd.ntmps88
    go_wp2_with (first | (go_at_call 87; refine (isLetter_any _ _).mono ?_; rintro e w1 ⟨rfl, rfl⟩) | (go_at_call 89; refine (isDigit_any _ _).mono ?_; rintro e w1 ⟨rfl, rfl⟩))
    go_ret
    exact ⟨ret_bool' (by rw [HI.out, hl]; rfl), rfl⟩
  | false =>
    go_enter Tryd.func88, Tryd.ntmps88
    go_wp2_with (first | (go_at_call 87; refine (isLetter_any _ _).mono ?_; rintro e w1 ⟨rfl, rfl⟩) | (go_at_call 89; refine (isDigit_any _ _).mono ?_; rintro e w1 ⟨rfl, rfl⟩))
    go_ret
    exact ⟨ret_bool' (by rw [HI.out, hl]; rfl), rfl⟩

theorem isSpace_any (c : Int) (w : World) : Calls Tryd.prog 90 #[.int .u8 c] w fun e w' => e = .returned (.bool (Lx.space c)) ∧ w = w' := by
  by_cases h : c = 32 ∨ c = 9 ∨ c = 13 ∨ c = 10
  · have HE : Hid (Lx.space c = true) := by show _ = _; simp [Lx.space, h]
    rcases h with rfl | rfl | rfl | rfl
    all_goals
      go_enter Tryd.func90, Tryd.ntmps90
      go_wp2_with fail
      go_ret
      exact ⟨rfl, rfl⟩
  · have HE : Hid (Lx.space c = false) := by show _ = _; simp only [Lx.space, decide_eq_false_iff_not]; exact h
    have d1 : (c == 32) = false := by simp; omega
    have d2 : (c == 9) = false := by simp; omega
    have d3 : (c == 13) = false := by simp; omega
    have d4 : (c == 10) = false := by simp; omega
    clear h
    go_enter Tryd.func90, Tryd.ntmps90
    go_wp2_with fail
    go_ret
    exact ⟨ret_bool' HE.out.symm, rfl⟩

theorem isOther_any (c : Int) (w : World) : Calls Tryd.prog 91 #[.int .u8 c] w fun e w' => e = .returned (.bool (Lx.other c)) ∧ w = w' := by
  go_enter Tryd.func91, Tryd.ntmps91
  go_wp2_with fail
  go_ret
  exact ⟨ret_bool' (by simp [Lx.other, bne]; rfl), rfl⟩

theorem keyword_0 (w : World) : Calls Tryd.prog 71 #[.string ⟨#[97, 114, 114, 97, 121]⟩] w fun e w' => e = .returned (.bool true) ∧ w = w' := by
  go_enter Tryd.func71, Tryd.ntmps71
  go_wp2_with fail
  go_ret
  exact ⟨rfl, rfl⟩

theorem keyword_1 (w : World) : Calls Tryd.prog 71 #[.string ⟨#[98, 111, 117, 110, 100]⟩] w fun e w' => e = .returned (.bool true) ∧ w = w' := by
  go_enter Tryd.func71, Tryd.ntmps71
  go_wp2_with fail
  go_ret
  exact ⟨rfl, rfl⟩

theorem keyword_2 (w : World) : Calls Tryd.prog 71 #[.string ⟨#[101, 108, 115, 101]⟩] w fun e w' => e = .returned (.bool true) ∧ w = w' := by
  go_enter Tryd.func71, Tryd.ntmps71
  go_wp2_with fail
  go_ret
  exact ⟨rfl, rfl⟩

theorem keyword_3 (w : World) : Calls Tryd.prog 71 #[.string ⟨#[102, 111, 114]⟩] w fun e w' => e = .returned (.bool true) ∧ w = w' := by
  go_enter Tryd.func71, Tryd.ntmps71
  go_wp2_with fail
  go_ret
  exact ⟨rfl, rfl⟩

theorem keyword_4 (w : World) : Calls Tryd.prog 71 #[.string ⟨#[105, 102]⟩] w fun e w' => e = .returned (.bool true) ∧ w = w' := by
  go_enter Tryd.func71, Tryd.ntmps71
  go_wp2_with fail
  go_ret
  exact ⟨rfl, rfl⟩

theorem keyword_5 (w : World) : Calls Tryd.prog 71 #[.string ⟨#[105, 110]⟩] w fun e w' => e = .returned (.bool true) ∧ w = w' := by
  go_enter Tryd.func71, Tryd.ntmps71
  go_wp2_with fail
  go_ret
  exact ⟨rfl, rfl⟩

theorem keyword_6 (w : World) : Calls Tryd.prog 71 #[.string ⟨#[108, 111, 99, 107]⟩] w fun e w' => e = .returned (.bool true) ∧ w = w' := by
  go_enter Tryd.func71, Tryd.ntmps71
  go_wp2_with fail
  go_ret
  exact ⟨rfl, rfl⟩

theorem keyword_7 (w : World) : Calls Tryd.prog 71 #[.string ⟨#[111, 117, 116]⟩] w fun e w' => e = .returned (.bool true) ∧ w = w' := by
  go_enter Tryd.func71, Tryd.ntmps71
  go_wp2_with fail
  go_ret
  exact ⟨rfl, rfl⟩

theorem keyword_8 (w : World) : Calls Tryd.prog 71 #[.string ⟨#[112, 101, 114, 105, 111, 100]⟩] w fun e w' => e = .returned (.bool true) ∧ w = w' := by
  go_enter Tryd.func71, Tryd.ntmps71
  go_wp2_with fail
  go_ret
  exact ⟨rfl, rfl⟩

theorem keyword_9 (w : World) : Calls Tryd.prog 71 #[.string ⟨#[115, 104, 97, 114, 101, 100]⟩] w fun e w' => e = .returned (.bool true) ∧ w = w' := by
  go_enter Tryd.func71, Tryd.ntmps71
  go_wp2_with fail
  go_ret
  exact ⟨rfl, rfl⟩

theorem keyword_10 (w : World) : Calls Tryd.prog 71 #[.string ⟨#[116, 97, 115, 107]⟩] w fun e w' => e = .returned (.bool true) ∧ w = w' := by
  go_enter Tryd.func71, Tryd.ntmps71
  go_wp2_with fail
  go_ret
  exact ⟨rfl, rfl⟩

theorem keyword_11 (w : World) : Calls Tryd.prog 71 #[.string ⟨#[118, 97, 114]⟩] w fun e w' => e = .returned (.bool true) ∧ w = w' := by
  go_enter Tryd.func71, Tryd.ntmps71
  go_wp2_with fail
  go_ret
  exact ⟨rfl, rfl⟩

theorem keyword_12 (w : World) : Calls Tryd.prog 71 #[.string ⟨#[119, 104, 105, 108, 101]⟩] w fun e w' => e = .returned (.bool true) ∧ w = w' := by
  go_enter Tryd.func71, Tryd.ntmps71
  go_wp2_with fail
  go_ret
  exact ⟨rfl, rfl⟩

theorem bytes_eq {s : ByteArray} {l : List UInt8} (h : s.toList = l) : s = ⟨l.toArray⟩ := by
  cases s with
  | mk d => have : d.toList = l := by rw [← h]; simp [ByteArray.toList_eq]
            subst this; rfl
theorem keyword_any (s : ByteArray) (w : World) : Calls Tryd.prog 71 #[.string s] w fun e w' => e = .returned (.bool (Lx.keyword s.toList)) ∧ w = w' := by
  by_cases h0 : s.toList = [97, 114, 114, 97, 121]
  · have e : s = ⟨#[97, 114, 114, 97, 121]⟩ := bytes_eq h0
    have e2 : Lx.keyword s.toList = true := by rw [h0]; decide
    rw [e2, e]; exact keyword_0 w
  by_cases h1 : s.toList = [98, 111, 117, 110, 100]
  · have e : s = ⟨#[98, 111, 117, 110, 100]⟩ := bytes_eq h1
    have e2 : Lx.keyword s.toList = true := by rw [h1]; decide
    rw [e2, e]; exact keyword_1 w
  by_cases h2 : s.toList = [101, 108, 115, 101]
  · have e : s = ⟨#[101, 108, 115, 101]⟩ := bytes_eq h2
    have e2 : Lx.keyword s.toList = true := by rw [h2]; decide
    rw [e2, e]; exact keyword_2 w
  by_cases h3 : s.toList = [102, 111, 114]
  · have e : s = ⟨#[102, 111, 114]⟩ := bytes_eq h3
    have e2 : Lx.keyword s.toList = true := by rw [h3]; decide
    rw [e2, e]; exact keyword_3 w
  by_cases h4 : s.toList = [105, 102]
  · have e : s = ⟨#[105, 102]⟩ := bytes_eq h4
    have e2 : Lx.keyword s.toList = true := by rw [h4]; decide
    rw [e2, e]; exact keyword_4 w
  by_cases h5 : s.toList = [105, 110]
  · have e : s = ⟨#[105, 110]⟩ := bytes_eq h5
    have e2 : Lx.keyword s.toList = true := by rw [h5]; decide
    rw [e2, e]; exact keyword_5 w
  by_cases h6 : s.toList = [108, 111, 99, 107]
  · have e : s = ⟨#[108, 111, 99, 107]⟩ := bytes_eq h6
    have e2 : Lx.keyword s.toList = true := by rw [h6]; decide
    rw [e2, e]; exact keyword_6 w
  by_cases h7 : s.toList = [111, 117, 116]
  · have e : s = ⟨#[111, 117, 116]⟩ := bytes_eq h7
    have e2 : Lx.keyword s.toList = true := by rw [h7]; decide
    rw [e2, e]; exact keyword_7 w
  by_cases h8 : s.toList = [112, 101, 114, 105, 111, 100]
  · have e : s = ⟨#[112, 101, 114, 105, 111, 100]⟩ := bytes_eq h8
    have e2 : Lx.keyword s.toList = true := by rw [h8]; decide
    rw [e2, e]; exact keyword_8 w
  by_cases h9 : s.toList = [115, 104, 97, 114, 101, 100]
  · have e : s = ⟨#[115, 104, 97, 114, 101, 100]⟩ := bytes_eq h9
    have e2 : Lx.keyword s.toList = true := by rw [h9]; decide
    rw [e2, e]; exact keyword_9 w
  by_cases h10 : s.toList = [116, 97, 115, 107]
  · have e : s = ⟨#[116, 97, 115, 107]⟩ := bytes_eq h10
    have e2 : Lx.keyword s.toList = true := by rw [h10]; decide
    rw [e2, e]; exact keyword_10 w
  by_cases h11 : s.toList = [118, 97, 114]
  · have e : s = ⟨#[118, 97, 114]⟩ := bytes_eq h11
    have e2 : Lx.keyword s.toList = true := by rw [h11]; decide
    rw [e2, e]; exact keyword_11 w
  by_cases h12 : s.toList = [119, 104, 105, 108, 101]
  · have e : s = ⟨#[119, 104, 105, 108, 101]⟩ := bytes_eq h12
    have e2 : Lx.keyword s.toList = true := by rw [h12]; decide
    rw [e2, e]; exact keyword_12 w
  have e2 : Hid (Lx.keyword s.toList = false) := by
    show _ = _
    simp [Lx.keyword, Lx.kws, h0, h1, h2, h3, h4, h5, h6, h7, h8, h9, h10, h11, h12]
  have b0 : (s.toList == [97, 114, 114, 97, 121]) = false := by simpa using h0
  clear h0
  have b1 : (s.toList == [98, 111, 117, 110, 100]) = false := by simpa using h1
  clear h1
  have b2 : (s.toList == [101, 108, 115, 101]) = false := by simpa using h2
  clear h2
  have b3 : (s.toList == [102, 111, 114]) = false := by simpa using h3
  clear h3
  have b4 : (s.toList == [105, 102]) = false := by simpa using h4
  clear h4
  have b5 : (s.toList == [105, 110]) = false := by simpa using h5
  clear h5
  have b6 : (s.toList == [108, 111, 99, 107]) = false := by simpa using h6
  clear h6
  have b7 : (s.toList == [111, 117, 116]) = false := by simpa using h7
  clear h7
  have b8 : (s.toList == [112, 101, 114, 105, 111, 100]) = false := by simpa using h8
  clear h8
  have b9 : (s.toList == [115, 104, 97, 114, 101, 100]) = false := by simpa using h9
  clear h9
  have b10 : (s.toList == [116, 97, 115, 107]) = false := by simpa using h10
  clear h10
  have b11 : (s.toList == [118, 97, 114]) = false := by simpa using h11
  clear h11
  have b12 : (s.toList == [119, 104, 105, 108, 101]) = false := by simpa using h12
  clear h12
  go_enter Tryd.func71, Tryd.ntmps71
  go_wp2_with fail
  go_ret
  exact ⟨ret_bool' e2.out.symm, rfl⟩
end Go.Proofs.YtkpdngfkdmllkaaDoor

/-
  Plain definitions: which trees are valid.
-/
namespace Go.Proofs.YtkpdngfkdmllkaaDoor
set_option linter.unusedVariables false
set_option linter.unusedSimpArgs false
open Go.RowKit

namespace Fm
/-- of a kind: whether there is a name, the least and the greatest number, the children's categories -/
def row (k : Int) : Bool × Int × Int × List UInt8 :=
  if k = 1 then (false, 0, 2147483647, []) else
  if k = 2 then (true, 0, 0, []) else
  if k = 3 then (true, 0, 0, [101]) else
  if k = 4 then (false, 0, 0, [101]) else
  if k = 5 then (false, 0, 0, [101]) else
  if k = 40 then (false, 0, 0, [112, 101]) else
  if k = 41 then (false, 0, 0, [101, 98, 98]) else
  if k = 42 then (true, 1, 1000, [98]) else
  if k = 43 then (false, 1, 1000, [101, 98]) else
  if k = 44 then (false, 0, 7, [112]) else
  if k = 45 then (false, 0, 7, [101]) else
  if k = 46 then (true, 0, 0, [98]) else
  (false, 0, 0, [101, 101])
def name (k : Int) : Bool := (row k).1
def lo (k : Int) : Int := (row k).2.1
def hi (k : Int) : Int := (row k).2.2.1
def kids (k : Int) : List UInt8 := (row k).2.2.2
def belongs (k c : Int) : Bool :=
  if c = 101 then decide (1 ≤ k ∧ k ≤ 23) else if c = 112 then decide (k = 2 ∨ k = 3) else if c = 115 then decide (40 ≤ k ∧ k < 47) else decide (k = 47)
/-- one of the four categories -/
def cat (c : Int) : Prop := c = 101 ∨ c = 112 ∨ c = 115 ∨ c = 98
theorem row_else (k : Int) (h : ¬ (k = 1 ∨ k = 2 ∨ k = 3 ∨ k = 4 ∨ k = 5 ∨ k = 40 ∨ k = 41 ∨ k = 42 ∨ k = 43 ∨ k = 44 ∨ k = 45 ∨ k = 46)) : row k = (false, 0, 0, [101, 101]) := by
  unfold row
  repeat rw [if_neg (by omega)]
theorem kids_cat (k : Int) (i : Nat) (h : i < (kids k).length) : cat ((kids k).getD i 0).toNat := by
  by_cases hk : k = 1 ∨ k = 2 ∨ k = 3 ∨ k = 4 ∨ k = 5 ∨ k = 40 ∨ k = 41 ∨ k = 42 ∨ k = 43 ∨ k = 44 ∨ k = 45 ∨ k = 46
  · rcases hk with rfl | rfl | rfl | rfl | rfl | rfl | rfl | rfl | rfl | rfl | rfl | rfl
    all_goals
      revert i
      unfold cat
      decide
  · unfold kids at *
    rw [row_else k hk] at *
    revert i
    unfold cat
    decide
theorem bd (k : Int) : 0 ≤ lo k ∧ lo k ≤ 1 ∧ 0 ≤ hi k ∧ hi k ≤ 2147483647 ∧ (kids k).length ≤ 3 := by
  by_cases hk : k = 1 ∨ k = 2 ∨ k = 3 ∨ k = 4 ∨ k = 5 ∨ k = 40 ∨ k = 41 ∨ k = 42 ∨ k = 43 ∨ k = 44 ∨ k = 45 ∨ k = 46
  · rcases hk with rfl | rfl | rfl | rfl | rfl | rfl | rfl | rfl | rfl | rfl | rfl | rfl
    all_goals decide
  · unfold lo hi kids; rw [row_else k hk]; decide
end Fm

namespace Tree
/-- a valid tree of a category -/
def vld : Tree → Int → Bool
  | node k n s l kid => fun c => Fm.belongs k c && (if k = 47 then (n == 0) && s.toList.isEmpty && allTo (fun i => if h : i < l then vld (kid ⟨i, h⟩) 115 else true) l else
      decide (Fm.lo k ≤ n) && decide (n ≤ Fm.hi k) && decide (l = (Fm.kids k).length) && (if Fm.name k then Lx.name s.toList else s.toList.isEmpty) && allTo (fun i => if h : i < l then vld (kid ⟨i, h⟩) (((Fm.kids k).getD i 0).toNat) else true) l)
theorem vld_eq (t : Tree) (c : Int) : t.vld c = (Fm.belongs t.kind c && (if t.kind = 47 then (t.num == 0) && t.name.toList.isEmpty && allTo (fun i => (t.kid i).vld 115) t.len else
      decide (Fm.lo t.kind ≤ t.num) && decide (t.num ≤ Fm.hi t.kind) && decide (t.len = (Fm.kids t.kind).length) && (if Fm.name t.kind then Lx.name t.name.toList else t.name.toList.isEmpty) && allTo (fun i => (t.kid i).vld (((Fm.kids t.kind).getD i 0).toNat)) t.len)) := by
  cases t with
  | node k n s l kid =>
    rw [vld]
    have e1 : allTo (fun i => if h : i < l then vld (kid ⟨i, h⟩) 115 else true) l = allTo (fun i => ((node k n s l kid).kid i).vld 115) l := allTo_congr fun i hi => by rw [dif_pos hi, kid_node hi]
    have e2 : allTo (fun i => if h : i < l then vld (kid ⟨i, h⟩) (((Fm.kids k).getD i 0).toNat) else true) l = allTo (fun i => ((node k n s l kid).kid i).vld (((Fm.kids k).getD i 0).toNat)) l := allTo_congr fun i hi => by rw [dif_pos hi, kid_node hi]
    rw [e1, e2]; rfl
end Tree
end Go.Proofs.YtkpdngfkdmllkaaDoor
