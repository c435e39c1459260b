/-
  What the walk over a task's body keeps (package check: task); slices.Clone of a path.
-/
import Derived.Test.YtkpdngfkdmllkaaDoorMg7
import Derived.Test.YtkpdngfkdmllkaaDoorMg5
namespace Go.Proofs.YtkpdngfkdmllkaaDoor
set_option linter.unusedVariables false
set_option linter.unusedSimpArgs false
open Go.RowKit
set_option maxRecDepth 100000
set_option maxHeartbeats 4000000

/-- a path: nil, or a row of ints of the call's own -/
def PathV (N : Nat) (w : World) (v : Value) (p : List Int) : Prop := w.ownsRow N 3 1 v p.length (ints p)
theorem iclone_any (N : Nat) (p : List Int) (w : World) (v : Value) (hp : PathV N w v p) (hl : p.length ≤ 1000000) :
    Calls Tryd.prog 59 #[v] w fun e w' => ∃ v', e = .returned v' ∧ PathV w.heap.size w' v' p ∧ Below w.heap.size w w' := by
  obtain ⟨i0, hi, hz0, hz1, hz2⟩ := info_parts Tryd.infoInt
  have hnil := fun (w : World) (a : Option Addr) (n c : Nat) => Lib.run_eql_slice_nil (P := Tryd.prog) w 107 3 a n c 0 0 Tryd.underlying107
  have HP := Lib.hid hp
  obtain ⟨a, c, rfl⟩ := own_val hp
  cases a with
  | none =>
    have h0 : p = [] := by
      rcases hp.2 with ⟨_, h0⟩ | ⟨g, cap, cur, h1, _⟩
      · exact List.length_eq_zero_iff.1 h0
      · cases h1
    subst h0
    have hc0 : c = 0 := by
      rcases hp.2 with ⟨h1, _⟩ | ⟨g, cap, cur, h1, _⟩
      · injection h1
      · cases h1
    subst hc0
    clear hp
    go_enter Tryd.func59, Tryd.ntmps59
    go_wp2_with fail
    go_ret
    exact ⟨_, rfl, World.ownsRow_nil _ _ _ _, Below.refl _ _⟩
  | some ad =>
    have hsrc : Src (w.alloc (.cells #[] 3)) (some ad) p.length 1 (ints p) := by
      refine ⟨by rw [ints_len]; omega, ?_⟩
      rcases Nat.eq_zero_or_pos p.length with h0 | h0
      · exact .inl h0
      · obtain ⟨b, e, _⟩ := own_at hp h0
        refine .inr ⟨ad, rfl, fun j u hj => ?_⟩
        injection e with e
        subst e
        exact (own_below hp (mem_alloc w _)).cells rfl j u hj
    have HSRC := Lib.hid hsrc
    have hmade : (w.alloc (.cells #[] 3)).ownsRow w.heap.size 3 1 (.slice (some ⟨w.heap.size, 0, none⟩) 0 0) 0 [] := World.ownsRow_made _ #[] 0 (Nat.le_refl _) (by unfold maxLen; omega) rfl
    have HMADE := Lib.hid hmade
    clear hp hsrc hmade
    go_enter Tryd.func59, Tryd.ntmps59
    go_wp2_with (at_builtin; refine wpList_append_src _ rfl (.tmp 5) (.tmp 6) 107 rfl w.heap.size 3 i0 _ 1 8 Tryd.underlying107 hi hz0 hz1 hz2 rfl (by decide) (.slice (some ⟨w.heap.size, 0, none⟩) 0 0) 0 [] rfl HMADE.out (some ad) p.length c (ints p) rfl HSRC.out (ints_one p) (by unfold maxLen; omega) (by omega) (by simp) ?_)
    intro v2 w2 hown2 hgrow2 _
    have HO : Hid (PathV w.heap.size w2 v2 p) := by show World.ownsRow _ _ _ _ _ _ _; simpa using hown2
    have HB : Hid (Below w.heap.size w w2) := (mem_alloc w _).grown hgrow2 (by simp) (fun k hk => by cases hk; exact Nat.le_refl _)
    clear hown2 hgrow2
    go_wp2_with fail
    go_ret
    exact ⟨_, rfl, HO.out, HB.out⟩
/-- a fault with its path's slice -/
structure FltP where
  task : Int
  flt : Flt
  pv : Value
def FltP.cells (f : FltP) : List Value := [.int .i64 f.task, f.pv, .int .i64 f.flt.err, .string f.flt.name]
theorem FltP.len (f : FltP) : f.cells.length = 4 := rfl
theorem FltP.info : (Tryd.prog.info? 109).map (fun i => (i.zero, i.size, i.bytes)) = some (some (.agg #[.int .i64 0, .slice none 0 0, .int .i64 0, .string ⟨#[]⟩]), 4, 56) := by kernel_rfl
/-- faults in rows of the call's own -/
structure FltsAt (N : Nat) (w : World) (v : Value) (L : List FltP) : Prop where
  ro : w.ownsRow N 109 4 v L.length (L.flatMap FltP.cells)
  ri : ∀ f ∈ L, PathV N w f.pv f.flt.path
theorem FltsAt.nil {N : Nat} {w : World} : FltsAt N w (.slice none 0 0) [] := ⟨World.ownsRow_nil _ _ _ _, by simp⟩
theorem FltsAt.keep {N : Nat} {w w' : World} {v : Value} {L : List FltP} (h : FltsAt N w v L) (hB : Below w.heap.size w w') : FltsAt N w' v L :=
  ⟨own_below h.ro hB, fun f hf => own_below (h.ri f hf) hB⟩
/-- an object that the walk does not turn -/
def Still15 : Obj → Prop
  | .cells _ t _ => t ≠ 109 ∧ t ≠ 81
  | _ => True
/-- what the walk leaves alone: what lay below N, and all that is neither faults nor their box -/
structure FrT (N : Nat) (w w' : World) : Prop where
  low : Below N w w'
  still : ∀ (k : Nat) (o : Obj), w.heap[k]? = some o → Still15 o → w'.heap[k]? = some o
section
variable {N : Nat} {w w' w'' : World} {v : Value}
theorem FrT.refl : FrT N w w := ⟨Below.refl _ _, fun _ _ h _ => h⟩
theorem FrT.trans (h : FrT N w w') (h' : FrT N w' w'') : FrT N w w'' := ⟨h.low.trans h'.low, fun k o hk hs => h'.still k o (h.still k o hk hs) hs⟩
theorem FrT.of (h : Below w.heap.size w w') (hN : N ≤ w.heap.size) : FrT N w w' := ⟨h.mono hN, fun _ _ hk _ => mem_keep hk h⟩
theorem FrT.cells {b : Nat} {arr : Array Value} {t : TypeId} (h : FrT N w w') (hb : w.heap[b]? = some (.cells arr t)) (h1 : t ≠ 109) (h2 : t ≠ 81) : w'.heap[b]? = some (.cells arr t) := h.still b _ hb ⟨h1, h2⟩
theorem FrT.set {b n : Nat} {S : List ByteArray} (h : FrT N w w') (hs : SetS w b n S) : SetS w' b n S := by
  obtain ⟨D, ⟨es, clock, h1, h2⟩, h3⟩ := hs
  exact ⟨D, ⟨es, clock, h.still b _ h1 trivial, h2⟩, h3⟩
theorem FrT.path {B : Nat} {p : List Int} (h : FrT N w w') (hp : PathV B w v p) : PathV B w' v p := by
  rcases hp.2 with ⟨rfl, h0⟩ | ⟨g, cap, cur, rfl, hg, hc, r⟩
  · exact ⟨hp.1, .inl ⟨rfl, h0⟩⟩
  · exact ⟨hp.1, .inr ⟨g, cap, cur, rfl, hg, h.still g _ hc ⟨by decide, by decide⟩, r⟩⟩
theorem FrT.nms {sb cb ab : Nat} {d : Nms} (h : FrT N w w') (hd : NmsAt w sb cb ab d) : NmsAt w' sb cb ab d :=
  ⟨hd.shared.imp fun _ x => h.set x, hd.scalars.imp fun _ x => h.set x, hd.arrays.imp fun _ x => h.set x⟩
theorem FrT.rep {t : Tree} {a : Option Addr} (h : FrT N w w') (hr : RepIn (fun k => k < N) w t a) : RepIn (fun k => k < N) w' t a := hr.move (fun k hk _ => h.low.block k hk) (fun _ hk _ => hk)
end
/-- faults in their box -/
structure FB (N : Nat) (w : World) (fb : Nat) (v : Value) (L : List FltP) : Prop where
  box : w.heap[fb]? = some (.cells #[v] 81)
  row : FltsAt N w v L
  up : N ≤ fb
theorem FB.keep {N : Nat} {w w' : World} {fb : Nat} {v : Value} {L : List FltP} (h : FB N w fb v L) (hB : Below w.heap.size w w') : FB N w' fb v L := ⟨mem_keep h.box hB, h.row.keep hB, h.up⟩
/-- the row of faults grows -/
theorem FB.grow {N : Nat} {w V w2 : World} {fb : Nat} {v : Value} {L : List FltP} (h : FB N w fb v L) (hN : N ≤ w.heap.size) (hB : Below w.heap.size w V) (hg : V.grownBy w2 v.ownBlock) : FrT N w w2 ∧ w2.heap[fb]? = some (.cells #[v] 81) := by
  have hV := h.keep hB
  refine ⟨⟨(hB.mono hN).grown hg (Nat.le_trans hN hB.size) (fun k hk => (own_lt hV.row.ro hk).1), fun k o hk hs => ?_⟩, (hg.block _ (mem_lt hV.box) (fun e => own_other hV.row.ro hV.box (by decide) e.symm)).trans hV.box⟩
  have h1 := mem_keep hk hB
  refine (hg.block k (mem_lt h1) (fun e => ?_)).trans h1
  rcases hV.row.ro.2 with ⟨rfl, _⟩ | ⟨g', cap', cur, rfl, _, hc, _⟩
  · cases e
  · have e : k = g' := by injection e
    subst e
    rw [hc] at h1
    injection h1 with h1
    subst h1
    exact hs.1 rfl
/-- a fault more, stored into the box -/
theorem FB.push {N : Nat} {w V w2 : World} {fb gb cap : Nat} {v : Value} {L : List FltP} {f : FltP} (h : FB N w fb v L) (hN : N ≤ w.heap.size) (hB : Below w.heap.size w V) (hp : PathV N V f.pv f.flt.path) (hg : V.grownBy w2 v.ownBlock)
    (ho : w2.ownsRow N 109 4 (.slice (some ⟨gb, 0, none⟩) (L.length + 1) cap) (L.length + 1) (L.flatMap FltP.cells ++ f.cells)) :
    FB N (w2.setCell ⟨fb, 0, none⟩ (.slice (some ⟨gb, 0, none⟩) (L.length + 1) cap)) fb (.slice (some ⟨gb, 0, none⟩) (L.length + 1) cap) (L ++ [f]) ∧
    FrT N w (w2.setCell ⟨fb, 0, none⟩ (.slice (some ⟨gb, 0, none⟩) (L.length + 1) cap)) := by
  have hV := h.keep hB
  have keep : ∀ {b : Nat} {arr : Array Value} {t : TypeId}, V.heap[b]? = some (.cells arr t) → t ≠ 109 → w2.heap[b]? = some (.cells arr t) := fun hb ht =>
    (hg.block _ (mem_lt hb) (fun e => own_other hV.row.ro hb ht e.symm)).trans hb
  have path : ∀ {B : Nat} {z : Value} {p : List Int}, PathV B V z p → PathV B w2 z p := fun {B z p} hz => by
    refine own_keep hz (fun k hk hl => hg.block k hl ?_)
    rcases hz.2 with ⟨rfl, _⟩ | ⟨g', cap', cur, rfl, _, hc, _⟩
    · cases hk
    · have hk : g' = k := by injection hk
      subst hk
      exact fun e => own_other hV.row.ro hc (by decide) e.symm
  have hbox := keep hV.box (by decide)
  have path2 : ∀ {B : Nat} {z : Value} {p : List Int}, PathV B w2 z p → PathV B (w2.setCell ⟨fb, 0, none⟩ (.slice (some ⟨gb, 0, none⟩) (L.length + 1) cap)) z p := fun {B z p} hz =>
    own_keep hz (fun k hk _ => Below.heap_setCell _ _ _ _ (by rintro rfl; exact own_other hz hbox (by decide) hk))
  refine ⟨⟨?_, ⟨?_, fun g hg' => ?_⟩, h.up⟩, ⟨?_, fun k o hk hs => ?_⟩⟩
  · rw [mem_set hbox]; rfl
  · have e : (L ++ [f]).flatMap FltP.cells = L.flatMap FltP.cells ++ f.cells := by simp
    rw [e]
    simp only [List.length_append, List.length_singleton]
    exact own_keep ho (fun k hk _ => Below.heap_setCell _ _ _ _ (by rintro rfl; exact own_other ho hbox (by decide) hk))
  · rcases List.mem_append.1 hg' with hg' | hg'
    · exact path2 (path (hV.row.ri g hg'))
    · obtain rfl := List.mem_singleton.1 hg'
      exact path2 (path hp)
  · exact ((hB.mono hN).grown hg (Nat.le_trans hN hB.size) (fun k hk => (own_lt hV.row.ro hk).1)).setCell h.up _
  · have h1 := mem_keep hk hB
    have h2 : w2.heap[k]? = some o := (hg.block k (mem_lt h1) (fun e => by
      rcases hV.row.ro.2 with ⟨rfl, _⟩ | ⟨g', cap', cur, rfl, _, hc, _⟩
      · cases e
      · have e : k = g' := by injection e
        subst e
        rw [hc] at h1
        injection h1 with h1
        subst h1
        exact hs.1 rfl)).trans h1
    refine (Below.heap_setCell _ _ _ _ ?_).trans h2
    rintro rfl
    rw [hbox] at h2
    injection h2 with h2
    subst h2
    exact hs.2 rfl
end Go.Proofs.YtkpdngfkdmllkaaDoor
