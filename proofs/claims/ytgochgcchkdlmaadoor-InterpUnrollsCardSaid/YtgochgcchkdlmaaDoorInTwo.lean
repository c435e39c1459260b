/-
  Results of jobs and new boxes: what lies in memory stays behind the stores. No program's function is walked here.
-/
import Derived.Test.YtgochgcchkdlmaaDoorInAwake
namespace Go.Proofs.YtgochgcchkdlmaaDoor
set_option linter.unusedVariables false
set_option linter.unusedSimpArgs false
open Go.RowKit Go.Maps
set_option maxRecDepth 100000
set_option maxHeartbeats 8000000

theorem ResAt.below {w w' : World} {R : Res} {aa sa oa : Option Addr} (h : ResAt w R aa sa oa) (hb : Below w.heap.size w w') : ResAt w' R aa sa oa := ⟨h.mem.below hb, h.out.below hb⟩
/-- a box of zeros holds no word -/
theorem zRes_word {w : World} {b o : Nat} {x : Int} (h : w.heap[b]? = some zRes) : w.cell? ⟨b, o, none⟩ ≠ some (.int .i32 x) := by
  rw [mem_cell h]
  match o with
  | 0 => intro h; cases h
  | 1 => intro h; cases h
  | 2 => intro h; cases h
  | 3 => intro h; cases h
  | 4 => intro h; cases h
  | 5 => intro h; cases h
  | o + 6 => intro h; cases h
theorem WordsAt.stored {U E : World} {b : Nat} {a : Option Addr} {l : List Int} (hz : U.heap[b]? = some zRes) (h : ∀ k, k ≠ b → E.heap[k]? = U.heap[k]?) (hw : WordsAt U a l) : WordsAt E a l := by
  refine ⟨hw.fits, hw.words, ?_⟩
  rcases hw.at_ with h0 | ⟨b', off, ha, hk⟩
  · exact .inl h0
  · refine .inr ⟨b', off, ha, fun k x hx => ?_⟩
    have h1 := hk k x hx
    by_cases e : b' = b
    · subst e; exact absurd h1 (zRes_word hz)
    · exact (World.cell?_of_block (a := ⟨b', off + k, none⟩) (h b' e)).trans h1
theorem ContAt.stored {U E : World} {b : Nat} {a : Option Addr} {l : List (List Int)} (hz : U.heap[b]? = some zRes) (h : ∀ k, k ≠ b → E.heap[k]? = U.heap[k]?) (hw : ContAt U a l) (ht : ContTy U a l.length) : ContAt E a l ∧ ContTy E a l.length := by
  rcases ht with h0 | ⟨b', off, arr, ha, hc⟩
  · exact ⟨⟨hw.fits, .inl h0⟩, .inl h0⟩
  · have hne : b' ≠ b := by
      rintro rfl
      rw [hz] at hc
      injection hc with hc
      injection hc with _ hc
      exact absurd hc (by decide)
    refine ⟨⟨hw.fits, ?_⟩, .inr ⟨b', off, arr, ha, (h b' hne).trans hc⟩⟩
    rcases hw.at_ with h0 | ⟨b2, off2, ha2, hk⟩
    · exact .inl h0
    · rw [ha] at ha2
      cases ha2
      refine .inr ⟨b', off, ha, fun k r hr => ?_⟩
      obtain ⟨ra, rc, h1, h2, h3⟩ := hk k r hr
      exact ⟨ra, rc, (World.cell?_of_block (a := ⟨b', off + k, none⟩) (h b' hne)).trans h1, h2, h3.stored hz h⟩
theorem ResAt.stored {U E : World} {b : Nat} {R : Res} {aa sa oa : Option Addr} (hz : U.heap[b]? = some zRes) (h : ∀ k, k ≠ b → E.heap[k]? = U.heap[k]?) (hr : ResAt U R aa sa oa) (ht : MemTy U R.mem aa sa) : ResAt E R aa sa oa ∧ MemTy E R.mem aa sa := by
  obtain ⟨t1, t2, t3⟩ := ht
  obtain ⟨⟨m1, m2⟩, m3⟩ := hr
  obtain ⟨s1, s2⟩ := m2.stored hz h t3
  rcases t1 with h0 | ⟨b', off, arr, ha, hc⟩
  · exact ⟨⟨⟨⟨m1.fits, .inl h0⟩, s1⟩, m3.stored hz h⟩, .inl h0, fun k r hk => by have := (List.getElem?_eq_some_iff.1 hk).1; omega, s2⟩
  · have hne : b' ≠ b := by
      rintro rfl
      rw [hz] at hc
      injection hc with hc
      injection hc with _ hc
      exact absurd hc (by decide)
    have hcell : ∀ o, E.cell? ⟨b', o, none⟩ = U.cell? ⟨b', o, none⟩ := fun o => World.cell?_of_block (a := ⟨b', o, none⟩) (h b' hne)
    rcases m1.at_ with h0 | ⟨b2, off2, ha2, hk⟩
    · exact ⟨⟨⟨⟨m1.fits, .inl h0⟩, s1⟩, m3.stored hz h⟩, .inl h0, fun k r hk => by have := (List.getElem?_eq_some_iff.1 hk).1; omega, s2⟩
    · rw [ha] at ha2
      cases ha2
      have key : ∀ (k : Nat) (r : List (List Int)), R.mem.arrays[k]? = some r → ∃ ra rc, U.cell? ⟨b', off + k, none⟩ = some (.slice ra r.length rc) ∧ (ra = none → rc = 0) ∧ ContAt E ra r ∧ ContTy E ra r.length := fun k r hr => by
        obtain ⟨ra, rc, h1, h2, h3⟩ := hk k r hr
        obtain ⟨c1, c2⟩ := h3.stored hz h (t2 k r hr b' off ha ra _ rc h1)
        exact ⟨ra, rc, h1, h2, c1, c2⟩
      refine ⟨⟨⟨⟨m1.fits, .inr ⟨b', off, ha, fun k r hr => ?_⟩⟩, s1⟩, m3.stored hz h⟩, .inr ⟨b', off, arr, ha, (h b' hne).trans hc⟩, fun k r hr b2 off2 ha2 ra n rc hcl => ?_, s2⟩
      · obtain ⟨ra, rc, h1, h2, h3, _⟩ := key k r hr
        exact ⟨ra, rc, (hcell _).trans h1, h2, h3⟩
      · rw [ha] at ha2
        cases ha2
        obtain ⟨ra', rc', h1, _, _, h4⟩ := key k r hr
        rw [hcell, h1] at hcl
        cases hcl
        exact h4
theorem ContTy.below {w w' : World} {a : Option Addr} {n : Nat} (h : ContTy w a n) (hb : Below w.heap.size w w') : ContTy w' a n := h.imp id (fun ⟨b, off, arr, ha, hc⟩ => ⟨b, off, arr, ha, mem_keep hc hb⟩)
theorem MemTy.below {w w' : World} {M : Mem} {aa sa : Option Addr} (h : MemTy w M aa sa) (hb : Below w.heap.size w w') : MemTy w' M aa sa := by
  obtain ⟨h1, h2, h3⟩ := h
  refine ⟨h1.imp id (fun ⟨b, off, arr, ha, hc⟩ => ⟨b, off, arr, ha, mem_keep hc hb⟩), fun k r hr b off ha ra n rc hc => ?_, h3.below hb⟩
  rcases h1 with h0 | ⟨b', off', arr, ha', hc'⟩
  · have := (List.getElem?_eq_some_iff.1 hr).1; omega
  · rw [ha] at ha'
    cases ha'
    rw [World.cell?_of_block (a := ⟨b, off + k, none⟩) (hb.block b (mem_lt hc'))] at hc
    exact (h2 k r hr b off ha ra n rc hc).below hb
end Go.Proofs.YtgochgcchkdlmaaDoor
