/-
  What an instruction of the reference's machine leaves; what the walks of its operations share.
-/
import Derived.Test.YtjdfcpjlmfaaaaaRefRunAt
import Derived.Test.YtjdfcpjlmfaaaaaRef17Uses
import Derived.Test.YtjdfcpjlmfaaaaaDrews
namespace Go.Proofs.Ytjdfcpjlmfaaaaa
set_option linter.unusedVariables false
set_option linter.unusedSimpArgs false
open Go.RowKit
set_option maxRecDepth 100000

/-- what an instruction leaves -/
def RStep (N : Nat) (G : RGeo) (sh : List (ByteArray × Int)) (n : Int) (s : St) (w : World) (r : Except Int St) (e : Ending) (w' : World) : Prop :=
  e = .returned (.int .i64 (stepErr r)) ∧ Below N w w' ∧ ∃ uv', RefAt N G sh w' uv' n 0 (stepSt s r)
section
variable {N : Nat} {G : RGeo} {sh : List (ByteArray × Int)} {w w' V : World} {uv : Value} {n : Int} {s s' : St} {r : Except Int St}
theorem RStep.ok (hr : r = .ok s') (h : RefAt N G sh w' uv n 0 s') (hB : Below N w w') : RStep N G sh n s w r (.returned (.int .i64 0)) w' := by
  subst hr
  exact ⟨rfl, hB, uv, h⟩
theorem RStep.trap {e : Int} (hr : r = .error e) (h : RefAt N G sh w' uv n 0 s) (hB : Below N w w') : RStep N G sh n s w r (.returned (.int .i64 e)) w' := by
  subst hr
  exact ⟨rfl, hB, uv, h⟩
end
theorem below_then {W w1 w2 : World} (h : Below W.heap.size W w1) (hB : Below w1.heap.size w1 w2) : Below W.heap.size W w2 := h.trans (hB.mono h.size)
/-- a world that differs by draws alone, behind a world -/
theorem below_drawn2 {W wr V : World} {n : Nat} (h : Below W.heap.size W wr) (hV : World.drewN wr n = V) : Below W.heap.size W V := by
  rw [← hV]
  exact ⟨h.os, h.tape, h.output, h.size, h.block⟩
theorem self_drawn {wr V : World} {n : Nat} (hV : World.drewN wr n = V) : Below wr.heap.size wr V := below_drawn2 (Below.refl _ _) hV
/-- the six cells of an instruction's box -/
def ICells (b : Nat) (i : Ins) (w : World) : Prop :=
  w.cell? ⟨b, 0, none⟩ = some (.int .u8 i.op) ∧ w.cell? ⟨b, 1, none⟩ = some (.int .i64 i.dst) ∧ w.cell? ⟨b, 2, none⟩ = some (.int .i64 i.x) ∧ w.cell? ⟨b, 3, none⟩ = some (.int .i64 i.y) ∧ w.cell? ⟨b, 4, none⟩ = some (.int .i64 i.imm) ∧ w.cell? ⟨b, 5, none⟩ = some (.string i.sym)
theorem ICells.of {W : World} {b : Nat} {i : Ins} {t : TypeId} (h : W.heap[b]? = some (.cells #[.int .u8 i.op, .int .i64 i.dst, .int .i64 i.x, .int .i64 i.y, .int .i64 i.imm, .string i.sym] t)) : ICells b i W :=
  ⟨cell_heap h 0, cell_heap h 1, cell_heap h 2, cell_heap h 3, cell_heap h 4, cell_heap h 5⟩
theorem ICells.other {w : World} {b c k : Nat} {i : Ins} {v : Value} (h : ICells b i w) (hne : b ≠ c) : ICells b i (w.setCell ⟨c, k, none⟩ v) := by
  have e : ∀ o, (w.setCell ⟨c, k, none⟩ v).cell? ⟨b, o, none⟩ = w.cell? ⟨b, o, none⟩ := fun o => World.cell?_of_block (a := ⟨b, o, none⟩) (Below.heap_setCell _ _ _ _ hne)
  obtain ⟨h0, h1, h2, h3, h4, h5⟩ := h
  exact ⟨(e 0).trans h0, (e 1).trans h1, (e 2).trans h2, (e 3).trans h3, (e 4).trans h4, (e 5).trans h5⟩
theorem ints_val {w : World} {v : Value} {xs : List Int} {P : Nat → Prop} (h : IntsIn P w v xs) : ∃ a c, v = .slice a xs.length c := by
  rcases h with ⟨rfl, rfl⟩ | ⟨b, off, cap, rfl, _⟩
  · exact ⟨_, _, rfl⟩
  · exact ⟨_, _, rfl⟩
theorem rUses_any (i : Ins) (h0 : 0 ≤ i.op) (h1 : i.op ≤ 255) (k : Nat) (hk : i.uses.length = k) (w : World) :
    Calls Try.prog 32 #[.agg #[.int .u8 i.op, .int .i64 i.dst, .int .i64 i.x, .int .i64 i.y, .int .i64 i.imm, .string i.sym]] w fun e w' => (∃ a c, e = .returned (.slice a k c)) ∧ Below w.heap.size w w' := by
  subst hk
  refine (refUses_any i w h0 h1).mono ?_
  rintro e w' ⟨v, rfl, hv, hB⟩
  obtain ⟨a, c, rfl⟩ := ints_val hv
  exact ⟨⟨a, c, rfl⟩, hB⟩
theorem rDefines_any (i : Ins) (h0 : 0 ≤ i.op) (h1 : i.op ≤ 255) (d : Int) (b : Bool) (hd : i.defines.getD 0 = d) (hb : i.defines.isSome = b) (w : World) :
    Calls Try.prog 31 #[.agg #[.int .u8 i.op, .int .i64 i.dst, .int .i64 i.x, .int .i64 i.y, .int .i64 i.imm, .string i.sym]] w fun e w' => e = .returned (.tuple #[.int .i64 d, .bool b]) ∧ Below w.heap.size w w' := by
  subst hd hb
  exact (refDefines_any i w h0 h1)
theorem rIndex_any (l : List (ByteArray × Int)) (a : Option Addr) (m c : Nat) (sym : ByteArray) (k : Int) (w : World) (hl : ArrsAt w a l) (hm : l.length = m) (hk : idx l sym = k) (n : Nat) :
    Calls Try.prog 35 #[.slice a m c, .string sym] (World.drewN w n) fun e w' => e = .returned (.int .i64 k) ∧ ∃ q, w' = World.drewN w q := by
  subst hm hk
  exact (index_any l a c sym (World.drewN w n) (hl.below (self_drawn rfl))).mono fun e w' ⟨h1, h2⟩ => ⟨h1, n, h2.symm⟩
end Go.Proofs.Ytjdfcpjlmfaaaaa
