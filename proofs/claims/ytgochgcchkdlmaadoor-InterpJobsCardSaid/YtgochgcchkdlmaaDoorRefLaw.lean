/-
  RefLaw: several texts in one (Ref16L, Ref16Y).
-/
import Derived.Test.YtgochgcchkdlmaaDoorRefJobs
import Derived.Test.YtgochgcchkdlmaaDoorInCopies
import Derived.Test.YtgochgcchkdlmaaDoorInEqs
import Derived.Test.YtgochgcchkdlmaaDoorInRun
/-
  The expected memory of a job (package ontimelaw16): a copy whose rows are replaced by the words of the reference's cells.
-/
namespace Go.Proofs.YtgochgcchkdlmaaDoor
set_option linter.unusedVariables false
set_option linter.unusedSimpArgs false
open Go.RowKit Go.Maps

structure WantSt (N1 N2 N3 : Nat) (w : World) (M : Mem) (i : Nat) (ri : List (List Int)) (va ua sa : Option Addr) (vc uc sc : Nat) (vs uq sq : List Value) : Prop where
  av : w.ownsRow N1 27 1 (.slice va M.arrays.length vc) M.arrays.length vs
  ui : w.ownsRow N2 30 1 (.slice ua ri.length uc) ri.length uq
  sh : w.ownsRow N3 30 1 (.slice sa M.shared.length sc) M.shared.length sq
  hvi : vs[i]? = some (.slice ua ri.length uc)
  oth : ∀ (k : Nat) (r : List (List Int)), k ≠ i → M.arrays[k]? = some r → ∃ a c, vs[k]? = some (.slice a r.length c) ∧ (a = none → c = 0) ∧ (r.length = 0 ∨ ∃ N q, LOwn N w (.slice a r.length c) q r ∧ ∀ b, (Value.slice a r.length c).ownBlock = some b → (0 < ri.length → ua ≠ some ⟨b, 0, none⟩) ∧ sa ≠ some ⟨b, 0, none⟩)
  usa : ∀ b, ua = some ⟨b, 0, none⟩ → sa ≠ some ⟨b, 0, none⟩
section
variable {N N1 N2 N3 B : Nat} {w w' : World} {M : Mem} {i : Nat} {ri : List (List Int)} {va ua sa ca : Option Addr} {vc uc sc : Nat} {vs uq sq : List Value} {us : List (List Value)} {cs : List Cel} {y : Nat → Value}
theorem WantSt.keep (h : WantSt N1 N2 N3 w M i ri va ua sa vc uc sc vs uq sq) (hb : Below w.heap.size w w') : WantSt N1 N2 N3 w' M i ri va ua sa vc uc sc vs uq sq :=
  ⟨own_below h.av hb, own_below h.ui hb, own_below h.sh hb, h.hvi, fun k r hk hr => by
    obtain ⟨a, c, e1, e2, e3⟩ := h.oth k r hk hr
    exact ⟨a, c, e1, e2, e3.imp id (fun ⟨N, q, g1, g2⟩ => ⟨N, q, g1.keep hb, g2⟩)⟩, h.usa⟩
theorem WantSt.move {T : TypeId} (h : WantSt N1 N2 N3 w M i ri va ua sa vc uc sc vs uq sq) (h1 : 27 ≠ T) (h2 : 30 ≠ T) (h3 : 21 ≠ T) (hm : ∀ (k : Nat) arr t, w.heap[k]? = some (.cells arr t) → t ≠ T → w'.heap[k]? = some (.cells arr t)) : WantSt N1 N2 N3 w' M i ri va ua sa vc uc sc vs uq sq :=
  ⟨own_move h.av h1 hm, own_move h.ui h2 hm, own_move h.sh h2 hm, h.hvi, fun k r hk hr => by
    obtain ⟨a, c, e1, e2, e3⟩ := h.oth k r hk hr
    exact ⟨a, c, e1, e2, e3.imp id (fun ⟨N, q, g1, g2⟩ => ⟨N, q, g1.move h2 h3 hm, g2⟩)⟩, h.usa⟩
/-- a cell of the task's row is set -/
theorem WantSt.setU {ub j : Nat} {x : Value} (h : WantSt N1 N2 N3 w M i ri va (some ⟨ub, 0, none⟩) sa vc uc sc vs uq sq) (hj : j < ri.length) : WantSt N1 N2 N3 (w.setCell ⟨ub, j, none⟩ x) M i ri va (some ⟨ub, 0, none⟩) sa vc uc sc vs (uq.set j x) sq := by
  obtain ⟨cur, hcur⟩ := row_obj h.ui
  have hoth : ∀ b, b ≠ ub → (w.setCell ⟨ub, j, none⟩ x).heap[b]? = w.heap[b]? := fun b hb => Below.heap_setCell _ _ _ _ hb
  refine ⟨own_keep h.av (fun b hb _ => hoth b (fun e => own_other h.av hcur (by decide) (by rw [hb, e]))), ownsRow_set h.ui (by omega), own_keep h.sh (fun b hb _ => hoth b (fun e => ?_)), h.hvi, fun k r hk hr => ?_, h.usa⟩
  · subst e
    rcases h.sh.2 with ⟨e1, _⟩ | ⟨g, cap, cur', e1, _⟩
    · rw [e1] at hb; cases hb
    · have e2 : sa = some ⟨g, 0, none⟩ := by injection e1
      subst e2
      have : g = b := Option.some.inj hb
      subst this
      exact h.usa _ rfl rfl
  · obtain ⟨a, c, e1, e2, e3⟩ := h.oth k r hk hr
    refine ⟨a, c, e1, e2, e3.imp id (fun ⟨N, q, g1, g2⟩ => ⟨N, q, g1.stay (fun b hb => hoth b (fun e => ?_)) (fun k' z b hz hb => hoth b (fun e => ?_)), g2⟩)⟩
    · subst e; exact (g2 b hb).1 (by omega) rfl
    · subst e
      have hkl := (List.getElem?_eq_some_iff.1 hz).1
      obtain ⟨u, h1, h2⟩ := g1.ri k' _ (List.getElem?_eq_getElem (show k' < r.length by have := g1.len; omega))
      rw [hz] at h1
      cases h1
      exact own_other h2 hcur (by decide) hb
theorem WantSt.setS {sb j : Nat} {x : Value} (h : WantSt N1 N2 N3 w M i ri va ua (some ⟨sb, 0, none⟩) vc uc sc vs uq sq) (hj : j < M.shared.length) : WantSt N1 N2 N3 (w.setCell ⟨sb, j, none⟩ x) M i ri va ua (some ⟨sb, 0, none⟩) vc uc sc vs uq (sq.set j x) := by
  obtain ⟨cur, hcur⟩ := row_obj h.sh
  have hoth : ∀ b, b ≠ sb → (w.setCell ⟨sb, j, none⟩ x).heap[b]? = w.heap[b]? := fun b hb => Below.heap_setCell _ _ _ _ hb
  refine ⟨own_keep h.av (fun b hb _ => hoth b (fun e => own_other h.av hcur (by decide) (by rw [hb, e]))), own_keep h.ui (fun b hb _ => hoth b (fun e => ?_)), ownsRow_set h.sh (by omega), h.hvi, fun k r hk hr => ?_, h.usa⟩
  · subst e
    rcases h.ui.2 with ⟨e1, _⟩ | ⟨g, cap, cur', e1, _⟩
    · rw [e1] at hb; cases hb
    · have e2 : ua = some ⟨g, 0, none⟩ := by injection e1
      subst e2
      have : g = b := Option.some.inj hb
      subst this
      exact h.usa _ rfl rfl
  · obtain ⟨a, c, e1, e2, e3⟩ := h.oth k r hk hr
    refine ⟨a, c, e1, e2, e3.imp id (fun ⟨N, q, g1, g2⟩ => ⟨N, q, g1.stay (fun b hb => hoth b (fun e => ?_)) (fun k' z b hz hb => hoth b (fun e => ?_)), g2⟩)⟩
    · subst e; exact (g2 b hb).2 rfl
    · subst e
      have hkl := (List.getElem?_eq_some_iff.1 hz).1
      obtain ⟨u, h1, h2⟩ := g1.ri k' _ (List.getElem?_eq_getElem (show k' < r.length by have := g1.len; omega))
      rw [hz] at h1
      cases h1
      exact own_other h2 hcur (by decide) hb
/-- out of a copy -/
theorem MOwn.want (h : MOwn N N1 w M (.slice va M.arrays.length vc) vs us (.slice sa M.shared.length sc) sq) (hi : M.arrays[i]? = some ri) (h1 : ∀ r ∈ M.arrays, ∀ l ∈ r, 1 ≤ l.length) :
    ∃ ua uc uq, WantSt N1 N1 N w M i ri va ua sa vc uc sc vs uq sq := by
  obtain ⟨u, q, e1, e2, e3⟩ := h.arrs.ri i ri hi
  obtain ⟨ua, uc, rfl⟩ := own_val e3.ro
  refine ⟨ua, uc, q, h.arrs.ro, e3.ro, h.shared.ro, e1, fun k r hk hr => ?_, fun b e hs => ?_⟩
  · obtain ⟨u', q', f1, f2, f3⟩ := h.arrs.ri k r hr
    obtain ⟨a, c, rfl⟩ := own_val f3.ro
    refine ⟨a, c, f1, fun h0 => by subst h0; exact own_none f3.ro, ?_⟩
    by_cases h0 : r.length = 0
    · exact .inl h0
    · refine .inr ⟨N1, q', f3, fun b hb => ⟨fun hri e => ?_, fun e => ?_⟩⟩
      · subst e
        obtain ⟨g, ga, _⟩ := own_at f3.ro (by omega)
        subst ga
        have hg : g = b := Option.some.inj hb
        subst hg
        obtain ⟨z, hz1, hz2⟩ := e3.ri 0 _ (List.getElem?_eq_getElem hri)
        obtain ⟨z', hz1', hz2'⟩ := f3.ri 0 _ (List.getElem?_eq_getElem (show 0 < r.length by omega))
        have c1 := own_get e3.ro hz1
        have c2 := own_get f3.ro hz1'
        rw [c1] at c2
        cases c2
        have hl := h1 ri (List.mem_of_getElem? hi) _ (List.getElem_mem hri)
        rcases hz2.2 with ⟨_, h9⟩ | ⟨g2, cap, cur, h9, _⟩
        · omega
        · exact hk (h.arrs.apart k i q' q 0 0 z z g2 f2 e2 hz1' hz1 (by rw [h9]; rfl) (by rw [h9]; rfl))
      · have h2 := (own_lt f3.ro hb).1
        have h3 := h.lows b (by rw [e]; rfl)
        omega
  · subst e
    have h2 := (own_lt e3.ro (k := b) rfl).1
    have h3 := h.lows b (by rw [hs]; rfl)
    omega
/-- the memory at the end -/
theorem WantSt.mem {Lt Ls : List (List Int)} (h : WantSt N1 N2 N3 w M i ri va ua sa vc uc sc vs uq sq) (hi : i < M.arrays.length) (m1 : M.arrays.length ≤ 1000000) (m2 : ri.length ≤ 1000000) (m3 : M.shared.length ≤ 1000000) (m4 : ∀ r ∈ M.arrays, r.length ≤ 1000000) (hW : ∀ r ∈ M.arrays, ∀ l ∈ r, ∀ x ∈ l, Wd.W x) (lt : Lt.length = ri.length) (ls : Ls.length = M.shared.length)
    (hLt : ∀ (k : Nat) (r : List Int), Lt[k]? = some r → ∃ u, uq[k]? = some u ∧ (∀ x ∈ r, Wd.W x) ∧ ∃ B, w.ownsRow B 21 1 u r.length (i32s r)) (hLs : ∀ (k : Nat) (r : List Int), Ls[k]? = some r → ∃ u, sq[k]? = some u ∧ (∀ x ∈ r, Wd.W x) ∧ ∃ B, w.ownsRow B 21 1 u r.length (i32s r)) :
    MemAt w ⟨M.arrays.set i Lt, Ls⟩ va sa := by
  constructor
  · refine cont3_end h.av (by simp) m1 (fun k r hk => ?_)
    have hk : (M.arrays.set i Lt)[k]? = some r := hk
    by_cases e : k = i
    · subst e
      rw [List.getElem?_set_self hi] at hk
      cases hk
      exact ⟨ua, uc, by rw [h.hvi, lt], fun h0 => by subst h0; exact own_none h.ui, cont_end h.ui (by have := h.ui.1; omega) lt m2 hLt⟩
    · rw [List.getElem?_set_ne (fun h => e h.symm)] at hk
      obtain ⟨a, c, e1, e2, e3⟩ := h.oth k r e hk
      refine ⟨a, c, e1, e2, ?_⟩
      have hm := List.mem_of_getElem? hk
      rcases e3 with h0 | ⟨N, q, g1, _⟩
      · exact ⟨by have := m4 r hm; omega, .inl h0⟩
      · exact cont_own g1 rfl (m4 r hm) (hW r hm)
  · exact cont_end h.sh (by have := h.sh.1; omega) ls m3 hLs
/-- a copy is a memory -/
theorem MOwn.memAt (h : MOwn N N1 w M (.slice va M.arrays.length vc) vs us (.slice sa M.shared.length sc) sq) (m1 : M.arrays.length ≤ 1000000) (m3 : M.shared.length ≤ 1000000) (m4 : ∀ r ∈ M.arrays, r.length ≤ 1000000) (hW : ∀ r ∈ M.arrays, ∀ l ∈ r, ∀ x ∈ l, Wd.W x) (hS : ∀ l ∈ M.shared, ∀ x ∈ l, Wd.W x) : MemAt w M va sa := by
  refine ⟨cont3_end h.arrs.ro rfl m1 (fun k r hk => ?_), cont_own h.shared rfl m3 hS⟩
  obtain ⟨u, q, e1, e2, e3⟩ := h.arrs.ri k r hk
  obtain ⟨a, c, rfl⟩ := own_val e3.ro
  have hm := List.mem_of_getElem? hk
  exact ⟨a, c, e1, fun h0 => by subst h0; exact own_none e3.ro, cont_own e3 rfl (m4 r hm) (hW r hm)⟩
/-- cells beside a turned block of another type -/
theorem CelsOwn.moved {T : TypeId} (h : CelsOwn B w ca cs y) (h1 : 54 ≠ T) (h2 : 21 ≠ T) (hm : ∀ (k : Nat) arr t, w.heap[k]? = some (.cells arr t) → t ≠ T → w'.heap[k]? = some (.cells arr t)) : CelsOwn B w' ca cs y := by
  refine ⟨h.len, fun k c hk => ?_, fun b off e => (h.ty b off e).imp id (fun ⟨arr, ha⟩ => ⟨arr, hm b _ _ ha h1⟩), fun k c hk => own_move (h.own k c hk) h2 hm, h.fit, h.apart⟩
  obtain ⟨b, off, e1, e2, e3, e4⟩ := h.row k c hk
  have hkl := (List.getElem?_eq_some_iff.1 hk).1
  have hb : w'.heap[b]? = w.heap[b]? := by
    rcases h.ty b off e1 with h9 | ⟨arr, h9⟩
    · omega
    · rw [h9]; exact hm b _ _ h9 h1
  have hc : ∀ o, w'.cell? ⟨b, o, none⟩ = w.cell? ⟨b, o, none⟩ := fun o => World.cell?_of_block hb
  exact ⟨b, off, e1, (hc _).trans e2, (hc _).trans e3, (hc _).trans e4⟩
end
/-- the cells of a job's end hold what the names say -/
theorem cells_get {D S : List Arr} {V : List ByteArray} {cs : List Cel} (hN : celN cs = D.map (fun a => (a.name, true)) ++ S.map (fun a => (a.name, true)) ++ V.map (fun v => (v, false))) (hn : (S.map (·.name) ++ D.map (·.name)).Nodup) {k : Nat} {a : Arr} (hk : (D ++ S)[k]? = some a) :
    ∃ c, cs[k]? = some c ∧ celA cs a.name = some c.l := by
  have hn2 : ((D ++ S).map (·.name)).Nodup := by
    rw [List.map_append]
    rw [List.nodup_append] at hn ⊢
    exact ⟨hn.2.1, hn.1, fun x hx y hy e => hn.2.2 y hy x hx e.symm⟩
  have hkl := (List.getElem?_eq_some_iff.1 hk).1
  rw [← List.map_append] at hN
  have hat : ∀ (j : Nat), (celN cs)[j]? = (cs[j]?).map fun c => (c.name, c.arr) := fun j => by unfold celN; rw [List.getElem?_map]
  have hk2 : (celN cs)[k]? = some (a.name, true) := by
    rw [hN, List.getElem?_append_left (by simpa using hkl), List.getElem?_map, hk]; rfl
  rw [hat] at hk2
  obtain ⟨c, hc, e⟩ := Option.map_eq_some_iff.1 hk2
  injection e with e1 e2
  refine ⟨c, hc, celL_some fA_ar hc (by unfold fA; rw [e2, e1]; rfl) (fun k' d hlt hd hh => ?_)⟩
  have h2 : (celN cs)[k']? = some (a.name, true) := by rw [hat, hd]; show some (d.name, d.arr) = _; rw [hh.1, hh.2]
  rw [hN] at h2
  by_cases hl : k' < (D ++ S).length
  · rw [List.getElem?_append_left (by simpa using hl), List.getElem?_map, List.getElem?_eq_getElem hl] at h2
    have h3 : ((D ++ S)[k']).name = a.name := by
      have := Option.some.inj h2
      injection this
    have h4 := (List.getElem?_eq_some_iff.1 hk).2
    have h5 : ((D ++ S).map (·.name))[k']'(by simpa using hl) = ((D ++ S).map (·.name))[k]'(by simpa using hkl) := by
      rw [List.getElem_map, List.getElem_map, h3, h4]
    have := (List.getElem_inj hn2).1 h5
    omega
  · rw [List.getElem?_append_right (by simpa using hl), List.getElem?_map] at h2
    obtain ⟨v, _, e⟩ := Option.map_eq_some_iff.1 h2
    cases e
theorem getA_at' {A : AF} {D : List Arr} {k : Nat} {r : List Int} (h : (getA A D)[k]? = some r) : ∃ a, D[k]? = some a ∧ r = (A a.name).getD [] := by
  unfold getA at h
  rw [List.getElem?_map] at h
  obtain ⟨a, ha, e⟩ := Option.map_eq_some_iff.1 h
  exact ⟨a, ha, e.symm⟩
end Go.Proofs.YtgochgcchkdlmaaDoor

/-
  The law InterpJobs, plainly (package ontimelaw16): what the reference's job leaves is what the interpreter's leaves.
-/
namespace Go.Proofs.YtgochgcchkdlmaaDoor
set_option linter.unusedVariables false
set_option linter.unusedSimpArgs false
open Go.RowKit Go.Maps

theorem smallP_le16 {L : List (List Int)} (h : smallP L = true) : L.length ≤ 10 ∧ ∀ r ∈ L, r.length ≤ 70 := by
  unfold smallP at h
  simp only [Bool.and_eq_true, decide_eq_true_eq, List.all_eq_true] at h
  first | exact ⟨h.2, h.1⟩ | exact h
theorem bigP_small16 {p : Prg} {M : Mem} {n : Nat} (h : bigP p M n = false) : (M.shared.length ≤ 10 ∧ ∀ r ∈ M.shared, r.length ≤ 70) ∧ (M.arrays.length ≤ 10 ∧ ∀ t ∈ M.arrays, t.length ≤ 10 ∧ ∀ r ∈ t, r.length ≤ 70) ∧ n ≤ 40 := by
  unfold bigP at h
  simp only [Bool.or_eq_false_iff, decide_eq_false_iff_not, Bool.not_eq_false'] at h
  obtain ⟨_, h1, h2, h4, h3⟩ := h
  refine ⟨smallP_le16 h1, ⟨by omega, fun t ht => smallP_le16 ?_⟩, by omega⟩
  rw [List.any_eq_false] at h3
  simpa using h3 t ht
theorem eqN_self (M : Mem) : eqN M M = 1 := if_pos rfl
theorem sameP_self (R : Res) (al : Bool) : sameP R R al = true := by unfold sameP; simp
theorem fits_ref {p : Prg} {M : Mem} (h : okP p = true) : fitsP p M = refFits p M := by
  unfold fitsP refFits
  rw [(okP_parts h).1, Bool.true_and, Bool.and_comm (fitsAll p.tasks M.arrays)]
/-- what is known of a job that runs -/
structure RunF (p : Prg) (i : Nat) (M : Mem) (t : Tsk) (L : List (List Int)) : Prop where
  at_ : M.arrays[i]? = some L
  getD : M.arrays.getD i [] = L
  lenA : t.arrays.length = L.length
  lenS : p.shared.length = M.shared.length
  small : t.vars.length ≤ 12 ∧ t.arrays.length ≤ 4 ∧ t.body.size ≤ 400 ∧ p.shared.length ≤ 4
  ones : ∀ r ∈ M.arrays, ∀ l ∈ r, 1 ≤ l.length
  vld : t.body.vld 98 = true
  dec : Dec (celN (jobC p i L M.shared)) t.body
  names : (p.shared.map (·.name) ++ t.arrays.map (·.name)).Nodup
  st : st0 (jobC p i L M.shared) = jobS p i M
theorem run_facts {p : Prg} {i : Nat} {M : Mem} {t : Tsk} (ht : p.tasks.getD i Tsk.none = t) (hi : i < p.tasks.length) (hok : okP p = true) (hf : refFits p M = true) : ∃ L, RunF p i M t L := by
  have hfit := fit_of (show fitsP p M = true by rw [fits_ref hok]; exact hf)
  have hl : i < M.arrays.length := by rw [hfit.len]; exact hi
  obtain ⟨L, hL⟩ : ∃ L, M.arrays[i]? = some L := ⟨_, List.getElem?_eq_getElem hl⟩
  have hto := (prgOk_le hfit.ok).2.2 i hi
  obtain ⟨k1, k2, k3⟩ := tskOk_le hto
  obtain ⟨m1, m2, m3⟩ := hfit.task i L hL
  have e1 := (matchP_parts m1).1
  have e2 := (matchP_parts hfit.shared).1
  have hn := (names_apart hok hi).1
  have hd : M.arrays.getD i [] = L := by rw [List.getD_eq_getElem?_getD, hL]; rfl
  have hfl := (taskF_nil (task_in hok hi).2).2
  rw [ht] at k1 k2 k3 e1 hn hfl hto
  refine ⟨L, hL, hd, e1, e2, ⟨k1, k2, k3, (prgOk_le hfit.ok).1⟩, fun r hr l hl => ?_, tskOk_body hto, ?_, hn, ?_⟩
  · obtain ⟨k, hk⟩ := List.getElem?_of_mem hr
    exact ((hfit.task k r hk).2.2 l hl).1
  · have hN := jobC_dec (p := p) (i := i) (L := L) (S := M.shared) e2 (by rw [ht]; exact e1)
    rw [ht] at hN
    exact dec_of t.body [] false [] [] _ hfl hN
  · exact jobC_st hd e2 (by rw [ht]; exact e1) (by rw [ht]; exact hn)
theorem jobP_ok {p : Prg} {i : Nat} {M : Mem} {t : Tsk} {inp : List Int} {F : Int} (ht : p.tasks.getD i Tsk.none = t) (hi : i < p.tasks.length) (hok : okP p = true) (hf : refFits p M = true) : jobP p (i : Int) M inp F = runR p i M (t.body.ex (if F < 0 then 0 else F) inp (jobS p i M)) := by
  unfold jobP
  rw [if_neg (by rw [hok]; decide), if_neg (by omega), if_neg (by rw [fits_ref hok, hf]; decide), Int.toNat_natCast, ht]
  by_cases h : F < 0
  · rw [if_pos h, ex_neg (by omega)]
  · rw [if_neg h]
theorem jobP_3 {p : Prg} {task : Int} {M : Mem} {inp : List Int} {F : Int} (h : okP p = false) : jobP p task M inp F = .fail 3 := by unfold jobP; rw [if_pos h]
theorem jobP_2 {p : Prg} {task : Int} {M : Mem} {inp : List Int} {F : Int} (h : okP p = true) (h2 : task < 0 ∨ (p.tasks.length : Int) ≤ task) : jobP p task M inp F = .fail 2 := by unfold jobP; rw [if_neg (by rw [h]; decide), if_pos h2]
theorem jobP_14 {p : Prg} {task : Int} {M : Mem} {inp : List Int} {F : Int} (h : okP p = true) (h2 : ¬ (task < 0 ∨ (p.tasks.length : Int) ≤ task)) (h3 : refFits p M = false) : jobP p task M inp F = .fail 14 := by unfold jobP; rw [if_neg (by rw [h]; decide), if_neg h2, if_pos (by rw [fits_ref h]; exact h3)]
theorem own_le16 {w : World} {B : Nat} {e : TypeId} {size : Nat} {v : Value} {n : Nat} {xs : List Value} (h : w.ownsRow B e size v n xs) : n ≤ 9223372036854775807 := by
  rcases h.2 with ⟨_, h0⟩ | ⟨g, cap, cur, _, _, _, h1, h2, _⟩
  · omega
  · unfold maxLen at h2; omega
/-- the first j are replaced -/
def repV (f : Nat → Value) (j : Nat) (l : List Value) : List Value := (List.range j).map f ++ l.drop j
theorem repV_set {f : Nat → Value} {j : Nat} {l : List Value} (h : j < l.length) : (repV f j l).set j (f j) = repV f (j + 1) l := by
  unfold repV
  rw [List.set_append_right _ _ (by simp), List.length_map, List.length_range, Nat.sub_self, List.range_succ, List.map_append, List.append_assoc]
  congr 1
  rw [List.drop_eq_getElem_cons h]
  rfl
theorem repV_all {f : Nat → Value} {l : List Value} {n : Nat} (h : l.length = n) {k : Nat} (hk : k < n) : (repV f n l)[k]? = some (f k) := by
  unfold repV
  rw [List.getElem?_append_left (by simpa using hk), List.getElem?_map, List.getElem?_range hk]
  rfl
/-- a region's end: slots from lo on, and one more -/
def EndV (lo n s : Nat) (P : Value → World → Prop) (a a' : Act) (w' : World) : Prop := ∃ (l : List Value) (v : Value), l.length = n ∧ a' = { a with tmps := (putNine a.tmps lo l).setIfInBounds s v } ∧ P v w'
theorem list12_16 {α : Type} {l : List α} (h : l.length = 12) : ∃ a0 a1 a2 a3 a4 a5 a6 a7 a8 a9 a10 a11, l = [a0, a1, a2, a3, a4, a5, a6, a7, a8, a9, a10, a11] := by
  match l, h with
  | [a0, a1, a2, a3, a4, a5, a6, a7, a8, a9, a10, a11], _ => exact ⟨a0, a1, a2, a3, a4, a5, a6, a7, a8, a9, a10, a11, rfl⟩
end Go.Proofs.YtgochgcchkdlmaaDoor
