/-
  Lengths and objects in the builder's maps (package lower); the boxes of translate.
-/
import Derived.Test.YtkpdngfkdmllkaaDoorLowAll
import Derived.Test.YtkpdngfkdmllkaaDoorMg36
import Derived.Test.YtkpdngfkdmllkaaDoorMg19
namespace Go.Proofs.YtkpdngfkdmllkaaDoor
set_option linter.unusedVariables false
set_option linter.unusedSimpArgs false
open Go.RowKit Go.Maps
set_option maxRecDepth 100000
set_option maxHeartbeats 4000000

/-- all but maps stays -/
def CellsKept (w w' : World) : Prop := ∀ (k : Nat) (arr : Array Value) (t : TypeId) (f : Nat × Nat), w.heap[k]? = some (Obj.cells arr t f) → w'.heap[k]? = some (Obj.cells arr t f)
section
variable {B N : Nat} {m : BM} {E : LEnv} {w w' : World} {G : List Nat} {bs : List Blk} {R d : Nat} {V : VM}
/-- one of the builder's other maps is turned -/
theorem BdAt.mapTurn {m' : BM} {E' : LEnv} {b : Nat} (h : BdAt B N m E w G bs R d V) (hb : b ≠ m.vb) (hmap : ∃ es ck, w.heap[b]? = some (.map es ck)) (hB : B ≤ b) (hg : w.grownBy w' (some b)) (e1 : m'.bb = m.bb) (e2 : m'.lb = m.lb) (e3 : m'.sb = m.sb) (e4 : m'.vb = m.vb)
    (hl : FMap Tryd.prog LKey w' m'.lb m'.nl m'.FL ∧ ∀ s, (m'.FL s).getD (.int .i64 0) = .int .i64 (E'.len s)) (hs : FMap Tryd.prog LKey w' m'.sb m'.ns m'.FS ∧ ∀ s, (m'.FS s).getD (.bool false) = .bool (E'.sh s)) (hI : ∀ s, irI64 (E'.len s)) :
    BdAt B N m' E' w' G bs R d V ∧ Below B w w' ∧ CellsKept w w' := by
  obtain ⟨es, ck, hm⟩ := hmap
  have keep : CellsKept w w' := fun k arr t f hk => (hg.block k (mem_lt hk) (fun e => by cases e; rw [hm] at hk; cases hk)).trans hk
  have hlow : Below B w w' := (Below.refl B w).grown hg h.up.2.2.2.2.2.2 (fun k hk => by cases hk; exact hB)
  obtain ⟨rv, h1, h2⟩ := h.box
  obtain ⟨L, h3, h4⟩ := h.blks
  refine ⟨⟨⟨rv, ?_, own_keep h2 (fun k hk hl => ?_)⟩, ⟨L, h3.move (fun k o hk ht => by obtain ⟨arr, f, rfl | rfl⟩ := ht <;> exact keep _ _ _ _ hk), h4⟩, hl, hs, ?_, h.small, h.varN, hI, h.cap, ?_⟩, hlow, keep⟩
  · rw [e1]
    have h9 := keep _ _ _ _ h1
    unfold bdObj at h9 ⊢
    rw [e2, e3, e4]
    exact h9
  · rcases h2.2 with ⟨e, _⟩ | ⟨g', cap, cur, e, _, hc1, _⟩
    · rw [e] at hk; cases hk
    · rw [e] at hk
      cases hk
      exact (keep _ _ _ _ hc1).trans hc1.symm
  · rw [e4]
    exact h.vars.move (hg.block _ h.vars.lt (fun e => hb (Option.some.inj e).symm))
  · rw [e1, e2, e3, e4]
    exact ⟨h.up.1, h.up.2.1, h.up.2.2.1, h.up.2.2.2.1, h.up.2.2.2.2.1, h.up.2.2.2.2.2.1, Nat.le_trans h.up.2.2.2.2.2.2 hlow.size⟩
theorem BdAt.setLen {s : ByteArray} {n : Int} (h : BdAt B N m E w G bs R d V) (hs : s.size ≤ 9223372036854775807) (hn : irI64 n) (hN : m.nl ≤ 1000000) (hne : m.lb ≠ m.sb) :
    ∃ w', (Instr.mapUpdate 52 (.map (some m.lb)) (.string s) (.int .i64 n)).run Tryd.prog w = .ok () w' ∧ BdAt B N { m with nl := m.nl + 1, FL := upd m.FL s (some (.int .i64 n)) } { E with len := fun t => if t = s then n else E.len t } w' G bs R d V ∧ Below B w w' ∧ CellsKept w w' := by
  obtain ⟨w', h1, h2, h3⟩ := h.lens.1.store (t := 52) lKey Tryd.underlying52 (s := s) hs (by unfold maxLen; omega) (.int .i64 n)
  refine ⟨w', h1, h.mapTurn h.up.2.2.2.2.1 h.lens.1.obj h.up.2.1 h3 rfl rfl rfl rfl ⟨h2, fun t => ?_⟩ ⟨h.shs.1.move (h3.block _ h.shs.1.lt (fun e => hne (Option.some.inj e).symm)), h.shs.2⟩ (fun t => ?_)⟩
  · show (upd m.FL s _ t).getD _ = .int .i64 (if t = s then n else E.len t)
    unfold upd
    split
    · rfl
    · exact h.lens.2 t
  · show irI64 (if t = s then n else E.len t)
    split
    · exact hn
    · exact h.lenI t
theorem BdAt.setSh {s : ByteArray} (h : BdAt B N m E w G bs R d V) (hs : s.size ≤ 9223372036854775807) (hN : m.ns ≤ 1000000) (hne : m.lb ≠ m.sb) :
    ∃ w', (Instr.mapUpdate 70 (.map (some m.sb)) (.string s) (.bool true)).run Tryd.prog w = .ok () w' ∧ BdAt B N { m with ns := m.ns + 1, FS := upd m.FS s (some (.bool true)) } { E with sh := fun t => if t = s then true else E.sh t } w' G bs R d V ∧ Below B w w' ∧ CellsKept w w' := by
  obtain ⟨w', h1, h2, h3⟩ := h.shs.1.store (t := 70) lKey Tryd.underlying70 (s := s) hs (by unfold maxLen; omega) (.bool true)
  refine ⟨w', h1, h.mapTurn h.up.2.2.2.2.2.1 h.shs.1.obj h.up.2.2.1 h3 rfl rfl rfl rfl ⟨h.lens.1.move (h3.block _ h.lens.1.lt (fun e => hne (Option.some.inj e))), h.lens.2⟩ ⟨h2, fun t => ?_⟩ h.lenI⟩
  show (upd m.FS s _ t).getD _ = .bool (if t = s then true else E.sh t)
  unfold upd
  split
  · rfl
  · exact h.shs.2 t
end
end Go.Proofs.YtkpdngfkdmllkaaDoor
