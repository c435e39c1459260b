/-
  The names of a node that reads as data are no longer than what the reading weighs.
-/
import Derived.Test.YtfkegjdgbnkicaaDoorSigns
import Derived.Test.YtfkegjdgbnkicaaDoorChangePlain
import Derived.SizedLaws
namespace Go.Proofs.YtfkegjdgbnkicaaDoor
open Go.ChangeShapes Go.WideShapes Go.ChangeAt Go.RowKit

theorem weightsAll_mem {H : Type} {P : Program} {e : TypeId} : ∀ {l : List (DataW H)} {d : DataW H}, d ∈ l → ∀ n ∈ d.weights P e, n ∈ DataW.weightsAll P e l := by
  intro l
  induction l with
  | nil => intro d h; cases h
  | cons x l ih =>
    intro d h n hn
    rw [DataW.weightsAll, List.mem_append]
    rcases List.mem_cons.1 h with rfl | h
    · exact .inl hn
    · exact .inr (ih h n hn)

section
variable {H : Type} {enc : TypeId × Value → H} {w : World} {base : Nat} {sp : Nat → Bool} {held : Bool}
theorem tree_names {R : Nat} : ∀ (t : Tree) (a : Option Addr) (c fuel : Nat) (x : DataW H × List MemPlace), Rep w t a →
    DataW.trod enc Tryd.prog w base sp held fuel 24 [.int .u8 t.kind, .int .i64 t.num, .string t.name, .slice a t.len c] = some x → (∀ n ∈ x.1.weights Tryd.prog 24, n ≤ R) → t.namesLe R := by
  intro t
  induction t using Tree.ind with
  | h t ih =>
    intro a c fuel x hr h hw
    obtain ⟨xs, n, rfl, rfl, hl, hxl, hf⟩ := DataW.trod_struct Tryd.underlying24 h
    match xs, hxl with
    | [y0, y1, y2, y3], _ =>
      have h2 : DataW.trod enc Tryd.prog w base sp held n 9 (([.int .u8 t.kind, .int .i64 t.num, .string t.name, .slice a t.len c].drop 2).take (Tryd.prog.cellsOf 9)) = [y0, y1, y2, y3][2]? := hf 2 _ rfl
      have h3 : DataW.trod enc Tryd.prog w base sp held n 22 (([.int .u8 t.kind, .int .i64 t.num, .string t.name, .slice a t.len c].drop 3).take (Tryd.prog.cellsOf 22)) = [y0, y1, y2, y3][3]? := hf 3 _ rfl
      rw [cellsNode2] at h2
      rw [cellsNode3] at h3
      simp only [List.drop_zero, List.drop_succ_cons, List.take_succ_cons, List.take_zero, List.getElem?_cons_zero, List.getElem?_cons_succ] at h2 h3
      have hw' : ∀ (j : Nat) (T : TypeId) (y : DataW H), [5, 3, 9, 22][j]? = some T → [y0.1, y1.1, y2.1, y3.1][j]? = some y → ∀ n ∈ y.weights Tryd.prog T, n ≤ R := by
        intro j T y h1 h2 n hn
        refine hw n ?_
        simp only [DataW.weights, Tryd.underlying24]
        exact DataW.weights_mem_each h1 h2 n hn
      refine Tree.namesLe_iff.2 ⟨?_, fun i hi => ?_⟩
      · obtain ⟨s, hs, hy, _⟩ := DataW.trod_string Tryd.underlying9 h2
        cases hs
        have := hw' 2 9 y2.1 rfl rfl t.name.data.toList.length (by rw [hy]; simp [DataW.weights])
        simpa using this
      · rcases DataW.trod_slice Tryd.underlying22 h3 with ⟨h4, _⟩ | ⟨a0, len, cap, elems, rest, n', hn', h4, hy, hb, hlc, hcm, hel, hel2, _, _⟩
        · injection h4 with h4 _
          injection h4 with _ h5 _
          omega
        · injection h4 with h4 _
          injection h4 with h5 h6 h7
          subst h5 h6 h7
          rcases hr.kids with h0 | ⟨b, off, hab, hk⟩
          · omega
          cases hab
          obtain ⟨ai, ci, hnode, hri⟩ := hk i hi
          have hi2 := hel2 i hi
          rw [cellsNode] at hi2
          obtain ⟨y, hyi⟩ : ∃ y, elems[i]? = some y := ⟨_, List.getElem?_eq_getElem (by omega)⟩
          rw [hyi] at hi2
          obtain ⟨cs', hc1, hc2⟩ := Option.bind_eq_some_iff.1 hi2
          obtain ⟨_, _, _, _, hl4, _, _⟩ := DataW.trod_struct Tryd.underlying24 hc2
          rw [cellsNode] at hl4
          obtain ⟨c0, c1, c2, c3, rfl⟩ := list4 hl4
          obtain ⟨_, _, hcs⟩ := World.cells?_some hc1
          have hadd : ∀ d, ((⟨b, off, none⟩ : Addr).add (i * 4)).add d = ⟨b, off + i * 4 + d, none⟩ := by
            intro d
            unfold Addr.add
            by_cases h1 : i * 4 = 0 <;> by_cases h2 : d = 0 <;> simp [h1, h2]
            all_goals omega
          have e0 := hcs 0 (by omega)
          have e1 := hcs 1 (by omega)
          have e2 := hcs 2 (by omega)
          have e3 := hcs 3 (by omega)
          rw [hadd] at e0 e1 e2 e3
          rw [show off + i * 4 + 0 = off + i * 4 from rfl, hnode.kind] at e0
          rw [hnode.num] at e1
          rw [hnode.name] at e2
          rw [hnode.kids] at e3
          have e0' : c0 = .int .u8 (t.kid i).kind := by simpa using e0.symm
          have e1' : c1 = .int .i64 (t.kid i).num := by simpa using e1.symm
          have e2' : c2 = .string (t.kid i).name := by simpa using e2.symm
          have e3' : c3 = .slice ai (t.kid i).len ci := by simpa using e3.symm
          subst e0' e1' e2' e3'
          refine ih i hi ai ci _ y hri hc2 (fun m hm => hw' 3 22 y3.1 rfl rfl m ?_)
          rw [hy]
          simp only [DataW.weights, Tryd.underlying22]
          refine List.mem_cons_of_mem _ (List.mem_append.2 (.inl (weightsAll_mem ?_ m hm)))
          exact List.mem_map.2 ⟨y, List.mem_of_getElem? hyi, rfl⟩

theorem open_node_named {r : Reach} {b0 : Nat} {v : Value} {d : DataW H} {p : List MemPlace} {R : Nat} (hv : Value.okWide Tryd.prog w r b0 24 v) (h : DataW.Trod enc Tryd.prog w base sp held 24 v d p) (hw : ∀ n ∈ d.weights Tryd.prog 24, n ≤ R) :
    ∃ (t : Tree) (a : Option Addr) (c : Nat), v = t.val a c ∧ Rep w t a ∧ t.namesLe R := by
  obtain ⟨t, a, c, rfl, hr⟩ := open_node hv h
  obtain ⟨fuel, hf⟩ := h
  exact ⟨t, a, c, rfl, hr, tree_names t a c fuel _ hr (by simpa [Value.cells] using hf) hw⟩
end
end Go.Proofs.YtfkegjdgbnkicaaDoor
