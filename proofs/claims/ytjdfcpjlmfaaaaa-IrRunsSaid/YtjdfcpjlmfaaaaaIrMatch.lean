/-
  Contents of arrays in memory; contract: match (package ir).
-/
import Derived.Test.YtjdfcpjlmfaaaaaIrMem
import Derived.Test.YtjdfcpjlmfaaaaaIrEnd
namespace Go.Proofs.Ytjdfcpjlmfaaaaa
set_option linter.unusedVariables false
set_option linter.unusedSimpArgs false
open Go.RowKit
set_option maxRecDepth 100000

/-- a row of words -/
structure WordsAt (w : World) (a : Option Addr) (l : List Int) : Prop where
  fits : l.length ≤ 9223372036854775807
  words : ∀ x ∈ l, Wd.W x
  at_ : l.length = 0 ∨ ∃ b off, a = some ⟨b, off, none⟩ ∧ ∀ (k : Nat) (x : Int), l[k]? = some x → w.cell? ⟨b, off + k, none⟩ = some (.int .i32 x)
/-- rows of words -/
structure ContAt (w : World) (a : Option Addr) (l : List (List Int)) : Prop where
  fits : l.length ≤ 9223372036854775807
  at_ : l.length = 0 ∨ ∃ b off, a = some ⟨b, off, none⟩ ∧ ∀ (k : Nat) (r : List Int), l[k]? = some r → ∃ ra rc, w.cell? ⟨b, off + k, none⟩ = some (.slice ra r.length rc) ∧ (ra = none → rc = 0) ∧ WordsAt w ra r
theorem WordsAt.below {w w' : World} {a : Option Addr} {l : List Int} (h : WordsAt w a l) (hb : Below w.heap.size w w') : WordsAt w' a l := by
  refine ⟨h.fits, h.words, ?_⟩
  rcases h.at_ with h0 | ⟨b, off, ha, hk⟩
  · exact .inl h0
  · exact .inr ⟨b, off, ha, fun k x hx => cell_below hb (hk k x hx)⟩
theorem ContAt.below {w w' : World} {a : Option Addr} {l : List (List Int)} (h : ContAt w a l) (hb : Below w.heap.size w w') : ContAt w' a l := by
  refine ⟨h.fits, ?_⟩
  rcases h.at_ with h0 | ⟨b, off, ha, hk⟩
  · exact .inl h0
  · exact .inr ⟨b, off, ha, fun k r hr => by obtain ⟨ra, rc, h1, h2, h3⟩ := hk k r hr; exact ⟨ra, rc, cell_below hb h1, h2, h3.below hb⟩⟩

/-- whether contents have the declared lengths -/
def matchOk : List (ByteArray × Int) → List (List Int) → Bool
  | [], [] => true
  | p :: l, r :: m => (p.2 == (r.length : Int)) && matchOk l m
  | _, _ => false
theorem match_len {l : List (ByteArray × Int)} : ∀ {m : List (List Int)}, ¬ l.length = m.length → matchOk l m = false := by
  induction l with
  | nil => intro m h; cases m with | nil => exact absurd rfl h | cons _ _ => rfl
  | cons p l ih =>
    intro m h
    cases m with
    | nil => rfl
    | cons r m => show (_ && _) = _; rw [ih (fun e => h (by simp [e])), Bool.and_false]
theorem match_drop {l : List (ByteArray × Int)} {m : List (List Int)} {j : Nat} {p : ByteArray × Int} {r : List Int} (h1 : l[j]? = some p) (h2 : m[j]? = some r) : matchOk (l.drop j) (m.drop j) = ((p.2 == (r.length : Int)) && matchOk (l.drop (j + 1)) (m.drop (j + 1))) := by
  obtain ⟨hk, rfl⟩ := List.getElem?_eq_some_iff.1 h1
  obtain ⟨hk', rfl⟩ := List.getElem?_eq_some_iff.1 h2
  rw [List.drop_eq_getElem_cons hk, List.drop_eq_getElem_cons hk']
  rfl

set_option maxHeartbeats 4000000
theorem match1_any (p : ByteArray × Int) (a : Option Addr) (n c : Nat) (w : World) (hn : n ≤ 9223372036854775807) :
    Calls Try.prog 54 #[.agg #[.string p.1, .int .i64 p.2], .slice a n c] w fun e w' => e = .returned (.bool (p.2 == (n : Int))) ∧ Below w.heap.size w w' := by
  go_enter Try.func54, Try.ntmps54
  go_wp2_with fail
  go_ret
  exact ⟨rfl, (Below.refl _ _).alloc (Nat.le_refl _) _⟩
theorem equalRows_any (l : List (ByteArray × Int)) (m : List (List Int)) (a b : Option Addr) (c d : Nat) (w : World) (hl : ArrsAt w a l) (hm : ContAt w b m) :
    Calls Try.prog 53 #[.slice a l.length c, .slice b m.length d, .func (.func 54) #[] #[]] w fun e w' => e = .returned (.bool (matchOk l m)) ∧ Below w.heap.size w w' := by
  have HL := Lib.hid hl
  have HM := Lib.hid hm
  have hlf := hl.fits
  have hmf := hm.fits
  clear hl hm
  by_cases hlen : l.length = m.length
  · have q0 : ((l.length : Int) != (m.length : Int)) = false := by simp [hlen]
    have HLEN := Lib.hid hlen
    clear hlen
    go_enter Try.func53, Try.ntmps53
    go_wp2_with fail
    go_loopw [17] (fun i wr => ∃ j : Nat, j ≤ l.length ∧ i = .int .i64 j ∧ matchOk (l.drop j) (m.drop j) = matchOk l m ∧ Below w.heap.size w wr) (fun i _ => l.length - (intOf i).toNat)
    case atStart => exact ⟨0, Nat.zero_le _, rfl, rfl, Below.refl _ _⟩
    case round =>
      obtain ⟨j, hj, rfl, hd, hB⟩ := hrel
      have HD := Lib.hid hd
      have HB := Lib.hid hB
      have hBs := hB.size
      clear hd hB
      have hk0 : (0 : Int) ≤ (j : Int) := by omega
      by_cases hlt : j < l.length
      · obtain ⟨p, hp⟩ : ∃ p, l[j]? = some p := ⟨_, List.getElem?_eq_getElem hlt⟩
        obtain ⟨r, hr⟩ : ∃ r, m[j]? = some r := ⟨_, List.getElem?_eq_getElem (by have := HLEN.out; omega)⟩
        rcases HL.out.at_ with h0 | ⟨lb, lo, rfl, hc⟩
        · omega
        rcases HM.out.at_ with h0 | ⟨mb, mo, rfl, hd⟩
        · have := HLEN.out; omega
        obtain ⟨c1, c2⟩ := hc j p hp
        obtain ⟨ra, rc, c3, _, hra⟩ := hd j r hr
        have f1 := cell_below HB.out c1
        have f2 := cell_below HB.out c2
        have f3 := cell_below HB.out c3
        have hm9 : mb < wr.heap.size := World.block_lt_of_cell? _ _ f3
        have hrf := hra.fits
        have HS := Lib.hid (match_drop hp hr)
        have hk1 : (j : Int) < (l.length : Int) := by omega
        have hk2 : (j : Int) < (m.length : Int) := by have := HLEN.out; omega
        clear hc hd hp hr c1 c2 c3 hra
        cases he : (p.2 == (r.length : Int)) with
        | true =>
          have HN : Hid (matchOk (l.drop (j + 1)) (m.drop (j + 1)) = matchOk l m) := by show _ = _; rw [← HD.out, HS.out, he, Bool.true_and]
          have HE := Lib.hid he
          clear he
          go_wp2_with fail
          refine (match1_any p ra r.length rc _ hrf).mono ?_
          rintro e w2 ⟨rfl, hB2⟩
          rw [HE.out]
          have HB2 := Lib.hid ((HB.out.alloc hBs _).trans (hB2.mono (by simp; omega)))
          clear hB2
          go_wp2_with fail
          go_roundw
          case rel => exact ⟨j + 1, by omega, by go_num, HN.out, HB2.out⟩
          case measure => simp [intOf]; omega
        | false =>
          have HN : Hid (matchOk l m = false) := by show _ = _; rw [← HD.out, HS.out, he, Bool.false_and]
          have HE := Lib.hid he
          clear he
          go_wp2_with fail
          refine (match1_any p ra r.length rc _ hrf).mono ?_
          rintro e w2 ⟨rfl, hB2⟩
          rw [HE.out]
          have HB2 := Lib.hid ((HB.out.alloc hBs _).trans (hB2.mono (by simp; omega)))
          clear hB2
          go_wp2_with fail
          go_ret
          exact ⟨by rw [HN.out]; rfl, HB2.out⟩
      · obtain rfl : j = l.length := by omega
        have HN : Hid (matchOk l m = true) := by show _ = _; rw [← HD.out, List.drop_length, HLEN.out, List.drop_length]; rfl
        go_wp2_with fail
        go_ret
        exact ⟨by rw [HN.out]; rfl, HB.out⟩
  · have q0 : ((l.length : Int) != (m.length : Int)) = true := by simp; omega
    rw [match_len hlen]
    go_enter Try.func53, Try.ntmps53
    go_wp2_with fail
    go_ret
    exact ⟨rfl, Below.refl _ _⟩
theorem match_any (l : List (ByteArray × Int)) (m : List (List Int)) (a b : Option Addr) (c d : Nat) (w : World) (hl : ArrsAt w a l) (hm : ContAt w b m) :
    Calls Try.prog 37 #[.slice a l.length c, .slice b m.length d] w fun e w' => e = .returned (.bool (matchOk l m)) ∧ Below w.heap.size w w' := by
  go_enter Try.func37, Try.ntmps37
  go_wp2_with fail
  refine (equalRows_any l m a b c d _ hl hm).mono ?_
  rintro e w1 ⟨rfl, hB1⟩
  go_wp2_with fail
  go_ret
  exact ⟨rfl, hB1⟩
end Go.Proofs.Ytjdfcpjlmfaaaaa
