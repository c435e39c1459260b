/-
  Plain law of CheckLoopVariables: what a statement more in a loop's block, or behind the body, is blamed for. No walk here.
-/
import Derived.Test.YtnegdmhmhdojbaaDoorChkInside
import Derived.Test.YtnegdmhmhdojbaaDoorChkMark
import Derived.Test.YtnegdmhmhdojbaaDoorChkTwiceP
import Derived.Test.YtnegdmhmhdojbaaDoorParts
namespace Go.Proofs.YtnegdmhmhdojbaaDoor
set_option linter.unusedVariables false
set_option linter.unusedSimpArgs false
open Go.RowKit
set_option maxRecDepth 100000

/-- what surrounds the node at a path -/
def loQ : Tree → List Int → List ByteArray → List ByteArray
  | _, [], lo => lo
  | t, i :: q, lo => loQ (t.kid i.toNat) q (loopsIn t lo)
def lkQ : Tree → List Int → List ByteArray → List ByteArray
  | _, [], lk => lk
  | t, i :: q, lk => lkQ (t.kid i.toNat) q (locksIn t lk)
def plQ : Tree → List Int → Bool → Bool
  | _, [], pl => pl
  | t, i :: q, _ => plQ (t.kid i.toNat) q (placeIn t i.toNat)
theorem loQ_snoc : ∀ (q : List Int) (t u : Tree) (i : Int) (lo : List ByteArray), t.at q = some u → loQ t (q ++ [i]) lo = loopsIn u (loQ t q lo)
  | [], t, u, i, lo, h => by cases h; rfl
  | j :: q, t, u, i, lo, h => by
    rw [Tree.at] at h
    split at h
    · exact loQ_snoc q (t.kid j.toNat) u i _ h
    · cases h
theorem concatTo_one {α : Type} {f : Nat → List α} {n i : Nat} (hi : i < n) (h : ∀ j, j < n → j ≠ i → f j = []) : concatTo f n = f i := by
  induction n with
  | zero => omega
  | succ n ih =>
    rw [concatTo_succ]
    by_cases e : i = n
    · subst e
      have h0 : concatTo f i = [] := by
        have key : ∀ m, m ≤ i → concatTo f m = [] := by
          intro m
          induction m with
          | zero => intro _; rfl
          | succ m ihm => intro hm; rw [concatTo_succ, ihm (by omega), h m (by omega) (by omega)]; rfl
        exact key i (Nat.le_refl _)
      rw [h0]; rfl
    · rw [ih (by omega) (fun j hj hne => h j (by omega) hne), h n (by omega) (fun e' => e e'.symm), List.append_nil]
theorem concatTo_none {α : Type} {f : Nat → List α} : ∀ {n : Nat}, (∀ j, j < n → f j = []) → concatTo f n = []
  | 0, _ => rfl
  | n + 1, h => by rw [concatTo_succ, concatTo_none (fun j hj => h j (by omega)), h n (by omega)]; rfl
section
variable {d : Nms}
theorem setKid_ctx (t : Tree) (i : Nat) (v : Tree) (path : List Int) (pl : Bool) (lo lk : List ByteArray) : ownF d (setKid t i v) path pl lo lk = ownF d t path pl lo lk ∧ loopsIn (setKid t i v) lo = loopsIn t lo ∧ locksIn (setKid t i v) lk = locksIn t lk ∧ ∀ j, placeIn (setKid t i v) j = placeIn t j := ⟨rfl, rfl, rfl, fun _ => rfl⟩
theorem rep_faults : ∀ (q : List Int) (t u v : Tree) (p : List Int) (pl : Bool) (lo lk : List ByteArray), t.at q = some u → faultsT d t p pl lo lk = [] →
    faultsT d (repAt t q v) p pl lo lk = faultsT d v (p ++ q) (plQ t q pl) (loQ t q lo) (lkQ t q lk) ∧ faultsT d u (p ++ q) (plQ t q pl) (loQ t q lo) (lkQ t q lk) = []
  | [], t, u, v, p, pl, lo, lk, h, h0 => by
    cases h
    rw [List.append_nil]
    exact ⟨rfl, h0⟩
  | i :: q, t, u, v, p, pl, lo, lk, h, h0 => by
    rw [Tree.at] at h
    split at h
    · rename_i hi
      obtain ⟨m, rfl⟩ : ∃ m : Nat, i = (m : Int) := ⟨i.toNat, by omega⟩
      have hm : m < t.len := by omega
      rw [faultsT_eq, List.append_eq_nil_iff] at h0
      obtain ⟨h1, h2⟩ := h0
      have hk := concatTo_nil h2
      obtain ⟨a1, a2⟩ := rep_faults q (t.kid m) u v (p ++ [(m : Int)]) (placeIn t m) (loopsIn t lo) (locksIn t lk) h (hk m hm)
      have e1 : p ++ [(m : Int)] ++ q = p ++ ((m : Int) :: q) := by simp
      rw [e1] at a1 a2
      refine ⟨?_, a2⟩
      have e2 : repAt t ((m : Int) :: q) v = setKid t m (repAt (t.kid m) q v) := rfl
      obtain ⟨c1, c2, c3, c4⟩ := setKid_ctx (d := d) t m (repAt (t.kid m) q v) p pl lo lk
      rw [e2, faultsT_eq, c1, h1, List.nil_append, c2, c3]
      have e3 : (setKid t m (repAt (t.kid m) q v)).len = t.len := rfl
      rw [e3, concatTo_one hm (fun j hj hne => ?_)]
      · have e4 : (setKid t m (repAt (t.kid m) q v)).kid m = repAt (t.kid m) q v := by
          unfold setKid; rw [Tree.make_kid hm, if_pos rfl]
        rw [e4, c4 m]
        exact a1
      · have e4 : (setKid t m (repAt (t.kid m) q v)).kid j = t.kid j := by
          unfold setKid; rw [Tree.make_kid hj, if_neg hne]
        rw [e4, c4 j]
        exact hk j hj
    · cases h
/-- a block with a statement more -/
theorem add_faults {u s : Tree} {p : List Int} {pl : Bool} {lo lk : List ByteArray} (h47 : u.kind = 47) (h0 : faultsT d u p pl lo lk = []) : faultsT d (addKid u s) p pl lo lk = faultsT d s (p ++ [(u.len : Int)]) false lo lk := by
  rw [faultsT_eq, List.append_eq_nil_iff] at h0
  obtain ⟨_, h2⟩ := h0
  have hk := concatTo_nil h2
  have k1 : (addKid u s).kind = 47 := h47
  have o1 : ownF d (addKid u s) p pl lo lk = [] := by unfold ownF faultN; rw [k1]; rfl
  have l1 : loopsIn (addKid u s) lo = lo := by unfold loopsIn; rw [k1]; rfl
  have l2 : locksIn (addKid u s) lk = lk := by unfold locksIn; rw [k1]; rfl
  have l3 : ∀ j, placeIn (addKid u s) j = false := fun j => by unfold placeIn; rw [k1]; simp
  have m1 : loopsIn u lo = lo := by unfold loopsIn; rw [h47]; rfl
  have m2 : locksIn u lk = lk := by unfold locksIn; rw [h47]; rfl
  have m3 : ∀ j, placeIn u j = false := fun j => by unfold placeIn; rw [h47]; simp
  rw [faultsT_eq, o1, List.nil_append, l1, l2]
  have e : (addKid u s).len = u.len + 1 := rfl
  have n1 : u.len < u.len + 1 := by omega
  rw [e, concatTo_one n1 (fun j hj hne => ?_)]
  · have e4 : (addKid u s).kid u.len = s := by unfold addKid; rw [Tree.make_kid n1, if_neg (by omega)]
    rw [e4, l3]
  · have hj : j < u.len + 1 := hj
    have e4 : (addKid u s).kid j = u.kid j := by unfold addKid; rw [Tree.make_kid hj, if_pos (by omega)]
    rw [e4, l3]
    have := hk j (by omega)
    rw [m1, m2, m3] at this
    exact this
end
/-! the statements -/
def varT (s : ByteArray) : Tree := Tree.leaf 2 0 s
def numZ : Tree := Tree.leaf 1 0 ⟨#[]⟩
def assignT (s : ByteArray) : Tree := Tree.make 40 0 ⟨#[]⟩ 2 (fun i => if i = 0 then varT s else numZ)
def inT (s : ByteArray) : Tree := Tree.make 44 0 ⟨#[]⟩ 1 (fun _ => varT s)
def outT (s : ByteArray) : Tree := Tree.make 45 0 ⟨#[]⟩ 1 (fun _ => varT s)
def forT (s : ByteArray) : Tree := Tree.make 42 1 s 1 (fun _ => emptyB)
section
variable {d : Nms} {s : ByteArray} {P : List Int} {lo lk : List ByteArray}
theorem var_faults (pl : Bool) : faultsT d (varT s) P pl lo lk = if faultN d 2 s pl lo lk = 0 then [] else [⟨P, faultN d 2 s pl lo lk, s⟩] := by
  rw [faultsT_eq]
  show ownF d (varT s) P pl lo lk ++ concatTo _ 0 = _
  rw [show concatTo _ 0 = ([] : List Flt) from rfl, List.append_nil]
  rfl
theorem assign_faults (h : s ∈ lo) : faultsT d (assignT s) P false lo lk = [⟨P ++ [0], 7, s⟩] := by
  have hf : faultN d 2 s true lo lk = 7 := by unfold faultN; rw [if_pos rfl, memB_iff.2 h]; rfl
  rw [faultsT_eq]
  have k0 : (assignT s).kid 0 = varT s := Tree.make_kid (show 0 < 2 by decide)
  have k1 : (assignT s).kid 1 = numZ := Tree.make_kid (show 1 < 2 by decide)
  show [] ++ concatTo _ (0 + 1 + 1) = _
  rw [concatTo_succ, concatTo_succ, k0, k1, var_faults]
  show [] ++ ((concatTo _ 0 ++ (if faultN d 2 s true lo lk = 0 then [] else [Flt.mk (P ++ [0]) (faultN d 2 s true lo lk) s])) ++ faultsT d numZ _ _ _ _) = _
  rw [hf]
  unfold numZ
  rw [faultsT_leaf d (by decide)]
  rfl
theorem in_faults (h : s ∈ lo) : faultsT d (inT s) P false lo lk = [⟨P ++ [0], 7, s⟩] := by
  have hf : faultN d 2 s true lo lk = 7 := by unfold faultN; rw [if_pos rfl, memB_iff.2 h]; rfl
  rw [faultsT_eq]
  have k0 : (inT s).kid 0 = varT s := Tree.make_kid (show 0 < 1 by decide)
  show [] ++ concatTo _ (0 + 1) = _
  rw [concatTo_succ, k0, var_faults]
  show [] ++ (concatTo _ 0 ++ (if faultN d 2 s true lo lk = 0 then [] else [Flt.mk (P ++ [0]) (faultN d 2 s true lo lk) s])) = _
  rw [hf]
  rfl
theorem out_faults {e : Int} (h : faultN d 2 s false lo lk = e) : faultsT d (outT s) P false lo lk = if e = 0 then [] else [⟨P ++ [0], e, s⟩] := by
  rw [faultsT_eq]
  have k0 : (outT s).kid 0 = varT s := Tree.make_kid (show 0 < 1 by decide)
  show [] ++ concatTo _ (0 + 1) = _
  rw [concatTo_succ, k0, var_faults]
  show [] ++ (concatTo _ 0 ++ (if faultN d 2 s false lo lk = 0 then [] else [Flt.mk (P ++ [0]) (faultN d 2 s false lo lk) s])) = _
  rw [h]
  rfl
theorem for_faults (h : s ∈ lo) : faultsT d (forT s) P false lo lk = [⟨P, 8, s⟩] := by
  have hf : faultN d 42 s false lo lk = 8 := by
    unfold faultN
    rw [if_neg (by decide), if_neg (by decide), if_pos rfl, memB_iff.2 h]
    simp
  rw [faultsT_eq]
  have k0 : (forT s).kid 0 = emptyB := Tree.make_kid (show 0 < 1 by decide)
  show (if faultN d 42 s false lo lk = 0 then [] else [Flt.mk P (faultN d 42 s false lo lk) s]) ++ concatTo _ (0 + 1) = _
  rw [concatTo_succ, k0, hf]
  unfold emptyB
  rw [faultsT_leaf d (by decide)]
  rfl
end
/-! a loop of a program without faults -/
theorem vld_block {t : Tree} (h : t.vld 98 = true) : t.kind = 47 := by
  rw [Tree.vld_eq, Bool.and_eq_true] at h
  have := h.1
  unfold Fm.belongs at this
  simpa using this
structure LoopAt (p : Prg) (t : Tsk) (path : List Int) (n u : Tree) : Prop where
  atn : t.body.at path = some n
  kind : n.kind = 42
  len : n.len = 1
  blk : n.kid 0 = u
  atu : t.body.at (path ++ [0]) = some u
  k47 : u.kind = 47
theorem loop_at {p : Prg} {t : Tsk} {path : List Int} (hv : t.body.vld 98 = true) (hm : path ∈ wantP (fun x => decide (x.kind = 42)) (t.body.items [])) : ∃ n u, LoopAt p t path n u := by
  unfold wantP at hm
  obtain ⟨x, hx, rfl⟩ := List.mem_map.1 hm
  obtain ⟨hx, hk⟩ := List.mem_filter.1 hx
  have hk : x.2.kind = 42 := of_decide_eq_true hk
  have hat := its_at t.body x hx
  obtain ⟨c, hc, hxv⟩ := vld_items t.body 98 (by simp) hv x hx
  rw [Tree.vld_eq, Bool.and_eq_true] at hxv
  have h2 := hxv.2
  rw [if_neg (by rw [hk]; decide), hk] at h2
  simp only [Bool.and_eq_true, decide_eq_true_eq] at h2
  have hlen : x.2.len = 1 := h2.1.1.2
  have hkid := Tree.allTo_iff.1 h2.2 0 (by omega)
  have hkid : (x.2.kid 0).vld 98 = true := hkid
  refine ⟨x.2, x.2.kid 0, hat, hk, hlen, rfl, ?_, vld_block hkid⟩
  rw [Tree.at_snoc, hat]
  show (if 0 ≤ (0 : Int) ∧ (0 : Int) < (x.2.len : Int) then some (x.2.kid (0 : Int).toNat) else none) = _
  rw [if_pos ⟨by omega, by omega⟩]
  rfl
section
variable {p : Prg} {i : Nat} {t : Tsk} {path : List Int} {n u s : Tree}
/-- the faults with a statement more in the loop's block -/
theorem ins_check (ht : p.tasks.getD i Tsk.none = t) (h : okP p = true) (hi : i < p.tasks.length) (hl : LoopAt p t path n u) (hv : prgOk (swapP p i (insT t path u s)) = true) :
    ∃ lo lk, n.name ∈ lo ∧ checkE (swapP p i (insT t path u s)) = (faultsT (⟨p.shared.map (·.name), t.vars, t.arrays.map (·.name)⟩ : Nms) s (path ++ [0, (u.len : Int)]) false lo lk).map (TFlt.mk (i : Int)) := by
  have h3 := taskF_nil (task_in h hi).2
  rw [ht] at h3
  obtain ⟨r1, r2⟩ := rep_faults (path ++ [0]) t.body u (addKid u s) [] false [] [] hl.atu h3.2
  rw [add_faults hl.k47 r2] at r1
  refine ⟨loQ t.body (path ++ [0]) [], lkQ t.body (path ++ [0]) [], ?_, ?_⟩
  · rw [loQ_snoc path t.body n 0 [] hl.atn]
    unfold loopsIn
    rw [if_pos hl.kind]
    simp
  · rw [checkE_swap (t := insT t path u s) h hi (by rw [ht]; rfl) (swap_valid hv hi)]
    congr 1
    show declF (memB (p.shared.map (·.name))) [] (t.vars ++ t.arrays.map (·.name)) ++ faultsT ⟨p.shared.map (·.name), t.vars, t.arrays.map (·.name)⟩ (repAt t.body (path ++ [0]) (addKid u s)) [] false [] [] = _
    rw [h3.1, List.nil_append, r1]
    simp
theorem only_of {q : Prg} {k e : Int} {P : List Int} {nm : ByteArray} (h : checkE q = [⟨k, ⟨P, e, nm⟩⟩]) : onlyP q k e [P] = true := by
  unfold onlyP
  rw [h]
  exact decide_eq_true rfl
theorem ins_assign (ht : p.tasks.getD i Tsk.none = t) (h : okP p = true) (hi : i < p.tasks.length) (hl : LoopAt p t path n u) (hv : prgOk (swapP p i (insT t path u (assignT n.name))) = true) :
    onlyP (swapP p i (insT t path u (assignT n.name))) (i : Int) 7 [path ++ [0, (u.len : Int)] ++ [0]] = true := by
  obtain ⟨lo, lk, h1, h2⟩ := ins_check ht h hi hl hv
  rw [assign_faults h1] at h2
  exact only_of h2
theorem ins_in (ht : p.tasks.getD i Tsk.none = t) (h : okP p = true) (hi : i < p.tasks.length) (hl : LoopAt p t path n u) (hv : prgOk (swapP p i (insT t path u (inT n.name))) = true) :
    onlyP (swapP p i (insT t path u (inT n.name))) (i : Int) 7 [path ++ [0, (u.len : Int)] ++ [0]] = true := by
  obtain ⟨lo, lk, h1, h2⟩ := ins_check ht h hi hl hv
  rw [in_faults h1] at h2
  exact only_of h2
theorem ins_for (ht : p.tasks.getD i Tsk.none = t) (h : okP p = true) (hi : i < p.tasks.length) (hl : LoopAt p t path n u) (hv : prgOk (swapP p i (insT t path u (forT n.name))) = true) :
    onlyP (swapP p i (insT t path u (forT n.name))) (i : Int) 8 [path ++ [0, (u.len : Int)]] = true := by
  obtain ⟨lo, lk, h1, h2⟩ := ins_check ht h hi hl hv
  rw [for_faults h1] at h2
  exact only_of h2
theorem ins_out (ht : p.tasks.getD i Tsk.none = t) (h : okP p = true) (hi : i < p.tasks.length) (hl : LoopAt p t path n u) (hv : prgOk (swapP p i (insT t path u (outT n.name))) = true) :
    okP (swapP p i (insT t path u (outT n.name))) = true := by
  obtain ⟨lo, lk, h1, h2⟩ := ins_check ht h hi hl hv
  have hf : faultN (⟨p.shared.map (·.name), t.vars, t.arrays.map (·.name)⟩ : Nms) 2 n.name false lo lk = 0 := by
    unfold faultN
    rw [if_pos rfl, memB_iff.2 h1]
    simp
  rw [out_faults hf] at h2
  unfold okP
  rw [hv, h2]
  rfl
/-- the body with a statement behind -/
def endT (t : Tsk) (s : Tree) : Tree := Tree.make 47 0 ⟨#[]⟩ (t.body.len + 1) (fun i => if i < t.body.len then t.body.kid i else s)
theorem end_check (ht : p.tasks.getD i Tsk.none = t) (h : okP p = true) (hi : i < p.tasks.length) (hl : LoopAt p t path n u) (h47 : t.body.kind = 47) (hv : prgOk (swapP p i (bodyT t (endT t (outT n.name)))) = true) :
    onlyP (swapP p i (bodyT t (endT t (outT n.name)))) (i : Int) 6 [[(t.body.len : Int), 0]] = true := by
  have h3 := taskF_nil (task_in h hi).2
  rw [ht] at h3
  obtain ⟨_, r2⟩ := rep_faults path t.body n n [] false [] [] hl.atn h3.2
  rw [faultsT_eq, List.append_eq_nil_iff] at r2
  have hown := r2.1
  have hz : faultN (⟨p.shared.map (·.name), t.vars, t.arrays.map (·.name)⟩ : Nms) 42 n.name (plQ t.body path false) (loQ t.body path []) (lkQ t.body path []) = 0 := by
    unfold ownF at hown
    rw [hl.kind] at hown
    split at hown
    · rename_i hz; exact hz
    · cases hown
  unfold faultN at hz
  rw [if_neg (by decide), if_neg (by decide), if_pos rfl] at hz
  have hb : ((memB t.vars n.name || memB (loQ t.body path []) n.name) || (memB (t.arrays.map (·.name)) n.name || memB (p.shared.map (·.name)) n.name)) = false := by
    cases hc : ((memB t.vars n.name || memB (loQ t.body path []) n.name) || (memB (t.arrays.map (·.name)) n.name || memB (p.shared.map (·.name)) n.name)) with
    | false => rfl
    | true => rw [hc] at hz; cases hz
  simp only [Bool.or_eq_false_iff] at hb
  have hf : faultN (⟨p.shared.map (·.name), t.vars, t.arrays.map (·.name)⟩ : Nms) 2 n.name false [] [] = 6 := by
    unfold faultN
    rw [if_pos rfl, hb.1.1, hb.2.1, hb.2.2]
    rfl
  have e : faultsT (⟨p.shared.map (·.name), t.vars, t.arrays.map (·.name)⟩ : Nms) (endT t (outT n.name)) [] false [] [] = faultsT ⟨p.shared.map (·.name), t.vars, t.arrays.map (·.name)⟩ (addKid t.body (outT n.name)) [] false [] [] := by
    have k1 : (addKid t.body (outT n.name)).kind = 47 := h47
    rw [faultsT_eq, faultsT_eq]
    have o2 : ownF (⟨p.shared.map (·.name), t.vars, t.arrays.map (·.name)⟩ : Nms) (addKid t.body (outT n.name)) [] false [] [] = [] := by unfold ownF faultN; rw [k1]; rfl
    have l1 : loopsIn (addKid t.body (outT n.name)) [] = [] := by unfold loopsIn; rw [k1]; rfl
    have l2 : locksIn (addKid t.body (outT n.name)) [] = [] := by unfold locksIn; rw [k1]; rfl
    have l3 : ∀ j, placeIn (addKid t.body (outT n.name)) j = false := fun j => by unfold placeIn; rw [k1]; simp
    have l4 : ∀ j, placeIn (endT t (outT n.name)) j = false := fun j => by unfold placeIn endT; simp [Tree.make, Tree.kind]
    rw [o2, l1, l2]
    show [] ++ _ = [] ++ _
    rw [List.nil_append, List.nil_append]
    refine concatTo_congr fun j hj => ?_
    have hj : j < t.body.len + 1 := hj
    have e1 : (endT t (outT n.name)).kid j = (addKid t.body (outT n.name)).kid j := by unfold endT addKid; rw [Tree.make_kid hj, Tree.make_kid hj]
    rw [e1, l3, l4]
    rfl
  refine only_of (nm := n.name) ?_
  rw [checkE_swap (t := bodyT t (endT t (outT n.name))) h hi (by rw [ht]; rfl) (swap_valid hv hi)]
  show (declF (memB (p.shared.map (·.name))) [] (t.vars ++ t.arrays.map (·.name)) ++ faultsT ⟨p.shared.map (·.name), t.vars, t.arrays.map (·.name)⟩ (endT t (outT n.name)) [] false [] []).map _ = _
  rw [h3.1, List.nil_append, e, add_faults h47 h3.2, out_faults hf]
  rfl
end
end Go.Proofs.YtnegdmhmhdojbaaDoor
