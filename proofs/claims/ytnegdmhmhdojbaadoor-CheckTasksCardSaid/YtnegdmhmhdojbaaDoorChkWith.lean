/-
  Contracts: maps.Clone of a set of names; with (package check).
-/
import Derived.Test.YtnegdmhmhdojbaaDoorChk
import Derived.Test.YtnegdmhmhdojbaaDoorProg
import Derived.Test.YtnegdmhmhdojbaaDoorMemSet
import Derived.Outline
namespace Go.Proofs.YtnegdmhmhdojbaaDoor
set_option linter.unusedVariables false
set_option linter.unusedSimpArgs false
open Go.RowKit
set_option maxRecDepth 100000
set_option maxHeartbeats 4000000

abbrev SetS := StrSet Tryd.prog 9 4
theorem mclone_any (b n : Nat) (S : List ByteArray) (w : World) (h : SetS w b n S) :
    Calls Tryd.prog 75 #[.map (some b)] w fun e w' => e = .returned (.map (some w.heap.size)) ∧ SetS w' w.heap.size n S ∧ Below w.heap.size w w' := by
  have HS := Lib.hid h
  obtain ⟨es, clock, hb⟩ : ∃ es clock, w.heap[b]? = some (.map es clock) := by
    obtain ⟨D, ⟨es, clock, h1, _⟩, _⟩ := h
    exact ⟨es, clock, h1⟩
  have HB := Lib.hid hb
  have hq := fun w => run_eql_map_nil_sl (P := Tryd.prog) w 72 _ _ (some b) Tryd.underlying72
  clear h hb
  go_enter Tryd.func75, Tryd.ntmps75
  go_wp2_with fail
  rw [run_callFunc_extern Tryd.func81 (by kernel_rfl) (by kernel_rfl) (by kernel_rfl) (e := Extern.MapsClone.clone) (by kernel_rfl), run_maps_clone_sl w 72 HB.out]
  simp only [Result.andThen]
  rw [Oper.upon_value]
  go_wp2_with fail
  rw [run_typeAssert_map_sl _ 72 _ _ _ _ Tryd.underlying72]
  simp only [Result.andThen]
  rw [Oper.upon_value]
  go_wp2_with fail
  go_ret
  exact ⟨rfl, HS.out.copy HB.out, mem_alloc _ _⟩
theorem with_any (b n : Nat) (S : List ByteArray) (s : ByteArray) (w : World) (h : SetS w b n S) (hs : s.size ≤ maxLen) (hn : n < maxLen) :
    Calls Tryd.prog 64 #[.map (some b), .string s] w fun e w' => e = .returned (.map (some w.heap.size)) ∧ SetS w' w.heap.size (n + 1) (S ++ [s]) ∧ Below w.heap.size w w' := by
  go_enter Tryd.func64, Tryd.ntmps64
  go_wp2_with fail
  refine (mclone_any b n S w h).mono ?_
  rintro e w1 ⟨rfl, h1, hB1⟩
  have HS1 := Lib.hid h1
  have HB1 := Lib.hid hB1
  clear h1 hB1 h
  go_wp2_with (at_mapUpdate; refine wpList_store_str _ rfl _ _ _ 72 rfl 9 4 Tryd.underlying9 Tryd.underlying4 Tryd.underlying72 w.heap.size n S rfl HS1.out s rfl rfl hs hn ?_)
  intro w2 h2 hg2
  have HS2 := Lib.hid h2
  have HB2 : Hid (Below w.heap.size w w2) := HB1.out.grown hg2 HB1.out.size (fun k hk => by cases hk; exact Nat.le_refl _)
  clear h2 hg2
  go_wp2_with fail
  go_ret
  exact ⟨rfl, HS2.out, HB2.out⟩
end Go.Proofs.YtnegdmhmhdojbaaDoor
