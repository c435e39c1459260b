/-
  What the laws of layer 17 share: the reference's validity as the package's own; what a small function says; the box of a function.
-/
import Derived.Test.YtjdfcpjlmfaaaaaIrSame
import Derived.Test.YtjdfcpjlmfaaaaaIrPlain
import Derived.Test.YtjdfcpjlmfaaaaaIrLawFns
namespace Go.Proofs.Ytjdfcpjlmfaaaaa
set_option linter.unusedVariables false
set_option linter.unusedSimpArgs false
open Go.RowKit
set_option maxRecDepth 100000

theorem FnAt.ops {w : World} {f : Fn} {aa ba : Option Addr} (h : FnAt w f aa ba) : ∀ b ∈ f.blocks, ∀ i ∈ b.code, i.Wf := by
  intro b hb i hi
  rcases h.blocks.at_ with h0 | ⟨bb, off, _, hc⟩
  · have := List.length_pos_of_mem hb
    omega
  · obtain ⟨k, hk⟩ := List.getElem?_of_mem hb
    obtain ⟨_, _, _, hcode⟩ := hc k b hk
    exact hcode.wf i hi
theorem refValid_is (f : Fn) (shared : List (ByteArray × Int)) (aa ba sa : Option Addr) (ac bc sc : Nat) (w : World) (hf : FnAt w f aa ba) (hs : ArrsAt w sa shared) :
    Calls Try.prog 13 #[fnVal f.name f.regs aa f.arrays.length ac ba f.blocks.length bc, .slice sa shared.length sc] w fun e w' => e = .returned (.bool (fnOk f shared)) ∧ Below w.heap.size w w' := by
  refine (refValid_any f shared aa ba sa ac bc sc w hf hs).mono ?_
  rintro e w' ⟨⟨b, rfl, hb⟩, hB⟩
  refine ⟨?_, hB⟩
  have h2 := hb.trans (ref_same (shared := shared) (fun b hb i hi => (hf.ops b hb i hi).op0))
  have e : b = fnOk f shared := by
    cases b <;> cases h3 : fnOk f shared <;> rw [h3] at h2 <;> simp at h2 <;> rfl
  rw [e]
theorem small_blocks {f : Fn} (h : smallOk f = true) : f.blocks.length ≤ 30 ∧ ∀ b ∈ f.blocks, b.code.length ≤ 40 := by
  unfold smallOk at h
  rw [Bool.and_eq_true, Bool.and_eq_true, Bool.and_eq_true] at h
  obtain ⟨⟨⟨h1, _⟩, _⟩, h4⟩ := h
  refine ⟨by simpa using h1, fun b hb => ?_⟩
  have := List.all_eq_true.1 h4 b hb
  simpa using this
theorem conts_short {l : List (List Int)} (h : contsOk l = true) : ∀ r ∈ l, r.length ≤ 1000000 := by
  intro r hr
  unfold contsOk at h
  rw [Bool.and_eq_true] at h
  have := List.all_eq_true.1 h.2 r hr
  simp at this
  omega
theorem fb_cells {W w' : World} {n : Nat} {c0 c1 c2 c3 : Value} (hn : n < W.heap.size) (h : W.cell? ⟨n, 0, none⟩ = some c0 ∧ W.cell? ⟨n, 1, none⟩ = some c1 ∧ W.cell? ⟨n, 2, none⟩ = some c2 ∧ W.cell? ⟨n, 3, none⟩ = some c3) (hB : Below W.heap.size W w') :
    w'.cell? ⟨n, 0, none⟩ = some c0 ∧ w'.cell? ⟨n, 1, none⟩ = some c1 ∧ w'.cell? ⟨n, 2, none⟩ = some c2 ∧ w'.cell? ⟨n, 3, none⟩ = some c3 ∧ Below W.heap.size W w' :=
  ⟨(hB.cell (p := ⟨n, 0, none⟩) hn).trans h.1, (hB.cell (p := ⟨n, 1, none⟩) hn).trans h.2.1, (hB.cell (p := ⟨n, 2, none⟩) hn).trans h.2.2.1, (hB.cell (p := ⟨n, 3, none⟩) hn).trans h.2.2.2, hB⟩
theorem blk_cells {W w' : World} {n : Nat} {c0 c1 c2 c3 c4 : Value} (hn : n < W.heap.size) (h : W.cell? ⟨n, 0, none⟩ = some c0 ∧ W.cell? ⟨n, 1, none⟩ = some c1 ∧ W.cell? ⟨n, 2, none⟩ = some c2 ∧ W.cell? ⟨n, 3, none⟩ = some c3 ∧ W.cell? ⟨n, 4, none⟩ = some c4) (hB : Below W.heap.size W w') :
    w'.cell? ⟨n, 0, none⟩ = some c0 ∧ w'.cell? ⟨n, 1, none⟩ = some c1 ∧ w'.cell? ⟨n, 2, none⟩ = some c2 ∧ w'.cell? ⟨n, 3, none⟩ = some c3 ∧ w'.cell? ⟨n, 4, none⟩ = some c4 ∧ Below W.heap.size W w' :=
  ⟨(hB.cell (p := ⟨n, 0, none⟩) hn).trans h.1, (hB.cell (p := ⟨n, 1, none⟩) hn).trans h.2.1, (hB.cell (p := ⟨n, 2, none⟩) hn).trans h.2.2.1, (hB.cell (p := ⟨n, 3, none⟩) hn).trans h.2.2.2.1, (hB.cell (p := ⟨n, 4, none⟩) hn).trans h.2.2.2.2, hB⟩
theorem below_next {W w1 w2 : World} (h : Below W.heap.size W w1) (hB : Below w1.heap.size w1 w2) : Below W.heap.size W w2 := h.trans (hB.mono h.size)
theorem below_drawn {W w1 : World} (h : Below W.heap.size W w1) : Below W.heap.size W w1.drew := h.trans ((Below.refl _ _).drew.mono h.size)
end Go.Proofs.Ytjdfcpjlmfaaaaa
