/-
  solve (package liveness): what its rows hold in memory, and how each step turns them.
-/
import Derived.Test.YteknhnnlhhgppaaDoorLiveBack
import Derived.Test.YteknhnnlhhgppaaDoorLiveList
import Derived.Test.YteknhnnlhhgppaaDoorLiveWork
namespace Go.Proofs.YteknhnnlhhgppaaDoor
set_option linter.unusedVariables false
set_option linter.unusedSimpArgs false
open Go.RowKit
set_option maxRecDepth 100000
set_option maxHeartbeats 4000000

/-- two values in blocks apart -/
def Apart (a b : Value) : Prop := a.ownBlock = none ∨ a.ownBlock ≠ b.ownBlock
theorem Apart.symm {a b : Value} (h : Apart a b) : Apart b a := by
  unfold Apart at *
  cases hb : b.ownBlock with
  | none => exact .inl rfl
  | some k =>
    refine .inr fun e => ?_
    rcases h with h | h
    · rw [h] at e; cases e
    · exact h (by rw [hb, e])
/-- apart: one lies below N, the other from N on -/
theorem apart_lt {a b : Value} {N : Nat} (h1 : ∀ k, a.ownBlock = some k → k < N) (h2 : ∀ k, b.ownBlock = some k → N ≤ k) : Apart a b := by
  cases ha : a.ownBlock with
  | none => exact .inl ha
  | some k => exact .inr fun e => by have := h1 k ha; have := h2 k (by rw [← e, ha]); omega
theorem own_obj {w : World} {N : Nat} {e : TypeId} {size n b : Nat} {v : Value} {xs : List Value} (h : w.ownsRow N e size v n xs) (hb : v.ownBlock = some b) : ∃ arr, w.heap[b]? = some (.cells arr e) := by
  rcases h.2 with ⟨rfl, _⟩ | ⟨g, cap, cur, rfl, _, hh, _⟩
  · cases hb
  · have : g = b := by simpa [Value.ownBlock] using hb
    subst this
    exact ⟨cur, hh⟩
section
variable {w w' : World} {N M n m : Nat} {e T : TypeId} {size size' : Nat} {u v : Value} {xs ys : List Value}
theorem row_other (h : w.ownsRow N e size u n xs) (k : w.ownsRow M T size' v m ys) (hT : T ≠ e) (ht : Turn v w w') : w'.ownsRow N e size u n xs :=
  ownsRow_move h fun b hb hlt => ht.block b hlt fun e1 => by
    obtain ⟨arr, ha⟩ := own_obj k e1
    exact ownsRow_ne h ha hT hb
theorem row_apart (h : w.ownsRow N e size u n xs) (hne : Apart u v) (ht : Turn v w w') : w'.ownsRow N e size u n xs :=
  ownsRow_move h fun b hb hlt => ht.block b hlt fun e1 => by
    rcases hne with h1 | h1
    · rw [h1] at hb; cases hb
    · exact h1 (by rw [hb, e1])
theorem Turn.grown (h : w.grownBy w' v.ownBlock) : Turn v w w' := ⟨h.os, h.tape, h.output, h.size, fun k hk hv => h.block k hk (fun e => hv e.symm)⟩
theorem apart_place {v' : Value} (hu : w.ownsRow N e size u n xs) (hne : Apart u v) (hp : v'.ownBlock = v.ownBlock ∨ v'.ownBlock = some w.heap.size) : Apart u v' := by
  rcases hp with hp | hp
  · unfold Apart; rw [hp]; exact hne
  · exact apart_lt (N := w.heap.size) (fun k hk => (ownsRow_lt hu hk).2) (fun k hk => by rw [hp] at hk; injection hk with hk; omega)
end
def natInts (l : List Nat) : List Int := l.map Int.ofNat
theorem natInts_snoc (l : List Nat) (x : Nat) : natInts (l ++ [x]) = natInts l ++ [(x : Int)] := by unfold natInts; rw [List.map_append]; rfl
theorem natInts_len (l : List Nat) : (natInts l).length = l.length := by unfold natInts; rw [List.length_map]
theorem set_at_same {α : Type} {l : List α} {k : Nat} {x : α} (h : l[k]? = some x) : l.set k x = l := by
  obtain ⟨hk, rfl⟩ := List.getElem?_eq_some_iff.1 h
  exact List.set_getElem_self hk
theorem own_slice {a : Option Addr} {n m c : Nat} : (Value.slice a n c).ownBlock = (Value.slice a m c).ownBlock := by cases a <;> rfl
/-- the rows of solve -/
structure SolSt (B R : Nat) (w : World) (iv ov pv wv kv : Value) (ins outs : List (Value × Nat)) (prev : List (Value × List Nat)) (wait : List Bool) (work : List Nat) : Prop where
  io : w.ownsRow B 86 1 iv ins.length (ins.map (·.1))
  oo : w.ownsRow B 86 1 ov outs.length (outs.map (·.1))
  po : w.ownsRow B 39 1 pv prev.length (prev.map (·.1))
  wo : w.ownsRow B 4 1 wv wait.length (wait.map Value.bool)
  ko : IntRow B w kv (natInts work)
  ii : ∀ p ∈ ins, SetV B R w p.1 p.2
  oi : ∀ p ∈ outs, SetV B R w p.1 p.2
  pi : ∀ p ∈ prev, IntRow B w p.1 (natInts p.2)
  ne : Apart iv ov
  sets : ∀ p ∈ ins, ∀ q ∈ outs, Apart p.1 q.1
  outs_ne : ∀ (i j : Nat) (p q : Value × Nat), i ≠ j → outs[i]? = some p → outs[j]? = some q → Apart p.1 q.1
  prevs : ∀ (i j : Nat) (p q : Value × List Nat), i ≠ j → prev[i]? = some p → prev[j]? = some q → Apart p.1 q.1
  pk : ∀ p ∈ prev, Apart p.1 kv
section
variable {B R : Nat} {w w' : World} {iv ov pv wv kv : Value} {ins outs : List (Value × Nat)} {prev : List (Value × List Nat)} {wait : List Bool} {work : List Nat}
theorem SolSt.keep (h : SolSt B R w iv ov pv wv kv ins outs prev wait work) (hB : Below w.heap.size w w') : SolSt B R w' iv ov pv wv kv ins outs prev wait work :=
  { h with io := ownsRow_below h.io hB, oo := ownsRow_below h.oo hB, po := ownsRow_below h.po hB, wo := ownsRow_below h.wo hB, ko := h.ko.keep hB, ii := fun p hp => (h.ii p hp).keep hB, oi := fun p hp => (h.oi p hp).keep hB, pi := fun p hp => (h.pi p hp).keep hB }
/-- a set made after w is apart from all that was -/
theorem SolSt.fresh {u : Value} {s : Nat} {w' : World} (h : SolSt B R w iv ov pv wv kv ins outs prev wait work) (k : SetV w.heap.size R w' u s) : (∀ p ∈ ins, Apart p.1 u) ∧ (∀ p ∈ outs, Apart p.1 u) :=
  ⟨fun p hp => apart_lt (N := w.heap.size) (fun _ hk => ((h.ii p hp).own hk).2) (fun _ hk => (k.own hk).1), fun p hp => apart_lt (N := w.heap.size) (fun _ hk => ((h.oi p hp).own hk).2) (fun _ hk => (k.own hk).1)⟩
theorem SetV.other {u v : Value} {s m M size' : Nat} {T : TypeId} {ys : List Value} (h : SetV B R w u s) (k : w.ownsRow M T size' v m ys) (hT : T ≠ 127) (ht : Turn v w w') : SetV B R w' u s := ⟨row_other h.row k hT ht, h.lt, h.few⟩
theorem SetV.apart {u v : Value} {s : Nat} (h : SetV B R w u s) (hne : Apart u v) (ht : Turn v w w') : SetV B R w' u s := ⟨row_apart h.row hne ht, h.lt, h.few⟩
/-- in = append(in, u) -/
theorem SolSt.addIn {iv' u : Value} {s : Nat} (h : SolSt B R w iv ov pv wv kv ins outs prev wait work) (hu : SetV B R w u s) (hne : ∀ q ∈ outs, Apart u q.1) (hg : w.grownBy w' iv.ownBlock) (hn : w'.ownsRow B 86 1 iv' (ins.length + 1) (ins.map (·.1) ++ [u])) (hp : iv'.ownBlock = iv.ownBlock ∨ iv'.ownBlock = some w.heap.size) :
    SolSt B R w' iv' ov pv wv kv (ins ++ [(u, s)]) outs prev wait work := by
  have ht : Turn iv w w' := Turn.grown hg
  refine { io := by simpa using hn, oo := row_apart h.oo h.ne.symm ht, po := row_other h.po h.io (by decide) ht, wo := row_other h.wo h.io (by decide) ht, ko := row_other h.ko h.io (by decide) ht, ii := fun p hp => ?_, oi := fun p hp => (h.oi p hp).other h.io (by decide) ht, pi := fun p hp => row_other (h.pi p hp) h.io (by decide) ht, ne := ?_, sets := fun p hp => ?_, outs_ne := h.outs_ne, prevs := h.prevs, pk := h.pk }
  · rcases List.mem_append.1 hp with hp | hp
    · exact (h.ii p hp).other h.io (by decide) ht
    · obtain rfl := List.mem_singleton.1 hp
      exact hu.other h.io (by decide) ht
  · exact (apart_place h.oo h.ne.symm hp).symm
  · rcases List.mem_append.1 hp with hp | hp
    · exact h.sets p hp
    · obtain rfl := List.mem_singleton.1 hp
      exact hne
/-- out = append(out, u) -/
theorem SolSt.addOut {ov' u : Value} {s : Nat} (h : SolSt B R w iv ov pv wv kv ins outs prev wait work) (hu : SetV B R w u s) (hni : ∀ q ∈ ins, Apart q.1 u) (hne : ∀ q ∈ outs, Apart q.1 u) (hg : w.grownBy w' ov.ownBlock) (hn : w'.ownsRow B 86 1 ov' (outs.length + 1) (outs.map (·.1) ++ [u])) (hp : ov'.ownBlock = ov.ownBlock ∨ ov'.ownBlock = some w.heap.size) :
    SolSt B R w' iv ov' pv wv kv ins (outs ++ [(u, s)]) prev wait work := by
  have ht : Turn ov w w' := Turn.grown hg
  refine { io := row_apart h.io h.ne ht, oo := by simpa using hn, po := row_other h.po h.oo (by decide) ht, wo := row_other h.wo h.oo (by decide) ht, ko := row_other h.ko h.oo (by decide) ht, ii := fun p hp => (h.ii p hp).other h.oo (by decide) ht, oi := fun p hp => ?_, pi := fun p hp => row_other (h.pi p hp) h.oo (by decide) ht, ne := apart_place h.io h.ne hp, sets := fun p hp q hq => ?_, outs_ne := fun i j p q hij h1 h2 => ?_, prevs := h.prevs, pk := h.pk }
  · rcases List.mem_append.1 hp with hp | hp
    · exact (h.oi p hp).other h.oo (by decide) ht
    · obtain rfl := List.mem_singleton.1 hp
      exact hu.other h.oo (by decide) ht
  · rcases List.mem_append.1 hq with hq | hq
    · exact h.sets p hp q hq
    · obtain rfl := List.mem_singleton.1 hq
      exact hni p hp
  · rw [List.getElem?_append] at h1 h2
    split at h1 <;> split at h2
    · exact h.outs_ne i j p q hij h1 h2
    · have e : q = (u, s) := by have := List.mem_of_getElem? h2; simpa using this
      rw [e]; exact hne p (List.mem_of_getElem? h1)
    · have e : p = (u, s) := by have := List.mem_of_getElem? h1; simpa using this
      rw [e]; exact (hne q (List.mem_of_getElem? h2)).symm
    · have h3 := (List.getElem?_eq_some_iff.1 h1).1
      have h4 := (List.getElem?_eq_some_iff.1 h2).1
      simp at h3 h4
      omega
/-- a row whose block alone turned -/
theorem SolSt.prevTurn {t : Nat} {q q' : Value} {l l' : List Nat} {pb n c : Nat} {w2 : World} (h : SolSt B R w iv ov (.slice (some ⟨pb, 0, none⟩) n c) wv kv ins outs prev wait work) (hq : prev[t]? = some (q, l)) (hg : w.grownBy w2 q.ownBlock) (hn : IntRow B w2 q' (natInts l')) (hp : q'.ownBlock = q.ownBlock ∨ q'.ownBlock = some w.heap.size) (hnn : n = prev.length) :
    SolSt B R (w2.setCell ⟨pb, t, none⟩ q') iv ov (.slice (some ⟨pb, 0, none⟩) n c) wv kv ins outs (prev.set t (q', l')) wait work := by
  subst hnn
  have hm := List.mem_of_getElem? hq
  have ht : Turn q w w2 := Turn.grown hg
  have hr := h.pi _ hm
  have htl := (List.getElem?_eq_some_iff.1 hq).1
  have hpo2 : w2.ownsRow B 39 1 (.slice (some ⟨pb, 0, none⟩) prev.length c) prev.length (prev.map (·.1)) := row_other h.po hr (by decide) ht
  have hs : Turn (.slice (some ⟨pb, 0, none⟩) prev.length c) w2 (w2.setCell ⟨pb, t, none⟩ q') := Turn.set
  have hpi : ∀ (j : Nat) (p : Value × List Nat), j ≠ t → prev[j]? = some p → IntRow B w2 p.1 (natInts p.2) ∧ Apart p.1 q' := fun j p hj hp1 =>
    ⟨row_apart (h.pi p (List.mem_of_getElem? hp1)) (h.prevs j t p (q, l) hj hp1 hq) ht, apart_place (h.pi p (List.mem_of_getElem? hp1)) (h.prevs j t p (q, l) hj hp1 hq) hp⟩
  have hget : ∀ (j : Nat) (p : Value × List Nat), (prev.set t (q', l'))[j]? = some p → (j = t ∧ p = (q', l')) ∨ (j ≠ t ∧ prev[j]? = some p) := fun j p hj => by
    by_cases e : j = t
    · subst e
      rw [List.getElem?_set_self htl] at hj
      exact .inl ⟨rfl, (Option.some.inj hj).symm⟩
    · rw [List.getElem?_set_ne (fun e' => e e'.symm)] at hj
      exact .inr ⟨e, hj⟩
  have hko : w2.ownsRow B 3 1 kv (natInts work).length ((natInts work).map (Value.int .i64)) := row_apart h.ko (h.pk _ hm).symm ht
  refine { io := row_other (row_other h.io hr (by decide) ht) hpo2 (by decide) hs, oo := row_other (row_other h.oo hr (by decide) ht) hpo2 (by decide) hs, po := ?_, wo := row_other (row_other h.wo hr (by decide) ht) hpo2 (by decide) hs, ko := row_other hko hpo2 (by decide) hs, ii := fun p hp => ((h.ii p hp).other hr (by decide) ht).other hpo2 (by decide) hs, oi := fun p hp => ((h.oi p hp).other hr (by decide) ht).other hpo2 (by decide) hs, pi := fun p hp => ?_, ne := h.ne, sets := h.sets, outs_ne := h.outs_ne, prevs := fun i j p r hij h1 h2 => ?_, pk := fun p hp => ?_ }
  · have := ownsRow_set (j := t) (u := q') hpo2 (by omega)
    rw [List.length_set, List.map_set]
    exact this
  · obtain ⟨j, hj⟩ := List.getElem?_of_mem hp
    rcases hget j p hj with ⟨_, rfl⟩ | ⟨hne, hj⟩
    · exact row_other hn hpo2 (by decide) hs
    · exact row_other (hpi j p hne hj).1 hpo2 (by decide) hs
  · rcases hget i p h1 with ⟨rfl, rfl⟩ | ⟨h3, h4⟩ <;> rcases hget j r h2 with ⟨rfl, rfl⟩ | ⟨h5, h6⟩
    · exact absurd rfl hij
    · exact (hpi j r h5 h6).2.symm
    · exact (hpi i p h3 h4).2
    · exact h.prevs i j p r hij h4 h6
  · obtain ⟨j, hj⟩ := List.getElem?_of_mem hp
    rcases hget j p hj with ⟨_, rfl⟩ | ⟨hne, hj⟩
    · exact (apart_place h.ko (h.pk _ hm).symm ‹_›).symm
    · exact h.pk p (List.mem_of_getElem? hj)
/-- work = append(work, p) -/
theorem SolSt.addWork {kv' : Value} {p : Nat} (h : SolSt B R w iv ov pv wv kv ins outs prev wait work) (hg : w.grownBy w' kv.ownBlock) (hn : IntRow B w' kv' (natInts work ++ [(p : Int)])) (hp : kv'.ownBlock = kv.ownBlock ∨ kv'.ownBlock = some w.heap.size) :
    SolSt B R w' iv ov pv wv kv' ins outs prev wait (work ++ [p]) := by
  have ht : Turn kv w w' := Turn.grown hg
  refine { io := row_other h.io h.ko (by decide) ht, oo := row_other h.oo h.ko (by decide) ht, po := row_other h.po h.ko (by decide) ht, wo := row_other h.wo h.ko (by decide) ht, ko := ?_, ii := fun p hp => (h.ii p hp).other h.ko (by decide) ht, oi := fun p hp => (h.oi p hp).other h.ko (by decide) ht, pi := fun p hp => row_apart (h.pi p hp) (h.pk p hp) ht, ne := h.ne, sets := h.sets, outs_ne := h.outs_ne, prevs := h.prevs, pk := fun q hq => apart_place (h.pi q hq) (h.pk q hq) hp }
  have e : natInts (work ++ [p]) = natInts work ++ [(p : Int)] := natInts_snoc _ _
  rw [e]
  exact hn
/-- waiting[k] = b -/
theorem SolSt.setWait {wb n c k : Nat} {b : Bool} (h : SolSt B R w iv ov pv (.slice (some ⟨wb, 0, none⟩) n c) kv ins outs prev wait work) (hnn : n = wait.length) (hk : k < wait.length) :
    SolSt B R (w.setCell ⟨wb, k, none⟩ (.bool b)) iv ov pv (.slice (some ⟨wb, 0, none⟩) n c) kv ins outs prev (wait.set k b) work := by
  subst hnn
  have ht : Turn (.slice (some ⟨wb, 0, none⟩) wait.length c) w (w.setCell ⟨wb, k, none⟩ (.bool b)) := Turn.set
  refine { io := row_other h.io h.wo (by decide) ht, oo := row_other h.oo h.wo (by decide) ht, po := row_other h.po h.wo (by decide) ht, wo := ?_, ko := row_other h.ko h.wo (by decide) ht, ii := fun p hp => (h.ii p hp).other h.wo (by decide) ht, oi := fun p hp => (h.oi p hp).other h.wo (by decide) ht, pi := fun p hp => row_other (h.pi p hp) h.wo (by decide) ht, ne := h.ne, sets := h.sets, outs_ne := h.outs_ne, prevs := h.prevs, pk := h.pk }
  have := ownsRow_set (j := k) (u := .bool b) h.wo (by omega)
  rw [List.length_set, List.map_set]
  exact this
/-- a set of out turns -/
theorem SolSt.turnOut {i s s' : Nat} {v : Value} (h : SolSt B R w iv ov pv wv kv ins outs prev wait work) (hi : outs[i]? = some (v, s)) (ht : Turn v w w') (hn : SetV B R w' v s') : SolSt B R w' iv ov pv wv kv ins (outs.set i (v, s')) prev wait work := by
  have hm := List.mem_of_getElem? hi
  have hr := (h.oi _ hm).row
  have hil := (List.getElem?_eq_some_iff.1 hi).1
  have hget : ∀ (j : Nat) (p : Value × Nat), (outs.set i (v, s'))[j]? = some p → ∃ q, outs[j]? = some q ∧ q.1 = p.1 ∧ ((j = i ∧ p = (v, s')) ∨ (j ≠ i ∧ p = q)) := fun j p hj => by
    by_cases e : j = i
    · subst e
      rw [List.getElem?_set_self hil] at hj
      obtain rfl := Option.some.inj hj
      exact ⟨_, hi, rfl, .inl ⟨rfl, rfl⟩⟩
    · rw [List.getElem?_set_ne (fun e' => e e'.symm)] at hj
      exact ⟨p, hj, rfl, .inr ⟨e, rfl⟩⟩
  refine { io := row_other h.io hr (by decide) ht, oo := ?_, po := row_other h.po hr (by decide) ht, wo := row_other h.wo hr (by decide) ht, ko := row_other h.ko hr (by decide) ht, ii := fun p hp => (h.ii p hp).apart (h.sets p hp _ hm) ht, oi := fun p hp => ?_, pi := fun p hp => row_other (h.pi p hp) hr (by decide) ht, ne := h.ne, sets := fun p hp q hq => ?_, outs_ne := fun a b p q hab h1 h2 => ?_, prevs := h.prevs, pk := h.pk }
  · have e : (outs.set i (v, s')).map (·.1) = outs.map (·.1) := by
      rw [List.map_set]
      exact set_at_same (by rw [List.getElem?_map, hi]; rfl)
    rw [e, List.length_set]
    exact row_other h.oo hr (by decide) ht
  · obtain ⟨j, hj⟩ := List.getElem?_of_mem hp
    obtain ⟨q, h1, _, (⟨_, rfl⟩ | ⟨h3, rfl⟩)⟩ := hget j p hj
    · exact hn
    · exact (h.oi p (List.mem_of_getElem? h1)).apart (h.outs_ne j i p (v, s) h3 h1 hi) ht
  · obtain ⟨j, hj⟩ := List.getElem?_of_mem hq
    obtain ⟨r, h1, h2, _⟩ := hget j q hj
    rw [← h2]
    exact h.sets p hp r (List.mem_of_getElem? h1)
  · obtain ⟨r1, g1, e1, _⟩ := hget a p h1
    obtain ⟨r2, g2, e2, _⟩ := hget b q h2
    rw [← e1, ← e2]
    exact h.outs_ne a b r1 r2 hab g1 g2
/-- in[i] = u -/
theorem SolSt.setIn {ib n c i s : Nat} {u : Value} (h : SolSt B R w (.slice (some ⟨ib, 0, none⟩) n c) ov pv wv kv ins outs prev wait work) (hnn : n = ins.length) (hi : i < ins.length) (hu : SetV B R w u s) (hne : ∀ q ∈ outs, Apart q.1 u) :
    SolSt B R (w.setCell ⟨ib, i, none⟩ u) (.slice (some ⟨ib, 0, none⟩) n c) ov pv wv kv (ins.set i (u, s)) outs prev wait work := by
  subst hnn
  have ht : Turn (.slice (some ⟨ib, 0, none⟩) ins.length c) w (w.setCell ⟨ib, i, none⟩ u) := Turn.set
  refine { io := ?_, oo := row_apart h.oo h.ne.symm ht, po := row_other h.po h.io (by decide) ht, wo := row_other h.wo h.io (by decide) ht, ko := row_other h.ko h.io (by decide) ht, ii := fun p hp => ?_, oi := fun p hp => (h.oi p hp).other h.io (by decide) ht, pi := fun p hp => row_other (h.pi p hp) h.io (by decide) ht, ne := h.ne, sets := fun p hp q hq => ?_, outs_ne := h.outs_ne, prevs := h.prevs, pk := h.pk }
  · have := ownsRow_set (j := i) (u := u) h.io (by omega)
    rw [List.length_set, List.map_set]
    exact this
  · rcases List.mem_or_eq_of_mem_set hp with hp | rfl
    · exact (h.ii p hp).other h.io (by decide) ht
    · exact hu.other h.io (by decide) ht
  · rcases List.mem_or_eq_of_mem_set hp with hp | rfl
    · exact h.sets p hp q hq
    · exact (hne q hq).symm
/-- work = work[:len(work)-1] -/
theorem SolSt.popWork {a : Option Addr} {c x : Nat} (h : SolSt B R w iv ov pv wv (.slice a (work.length + 1) c) ins outs prev wait (work ++ [x])) : SolSt B R w iv ov pv wv (.slice a work.length c) ins outs prev wait work := by
  have e : natInts (work ++ [x]) = natInts work ++ [(x : Int)] := natInts_snoc _ _
  have hko : IntRow B w (.slice a work.length c) (natInts work) := by
    have := h.ko
    rw [e] at this
    obtain ⟨h1, h2⟩ := this
    refine ⟨by simp [natInts], ?_⟩
    rcases h2 with ⟨_, h2⟩ | ⟨g, cap, cur, hv, hg, hh, hc, hm, hs, hx⟩
    · simp at h2
    · right
      injection hv with hv1 hv2 hv3
      subst hv1 hv3
      refine ⟨g, c, cur, by simp [natInts], hg, hh, by simp [natInts] at hc ⊢; omega, hm, hs, ?_⟩
      have := congrArg (List.take (natInts work).length) hx
      simpa [List.take_take] using this
  exact { h with ko := hko, pk := fun p hp => by have := h.pk p hp; unfold Apart at this ⊢; rw [own_slice (m := work.length + 1)]; exact this }
end
end Go.Proofs.YteknhnnlhhgppaaDoor
