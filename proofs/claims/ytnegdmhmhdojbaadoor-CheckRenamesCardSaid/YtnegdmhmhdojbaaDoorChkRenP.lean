/-
  Plain law of CheckRenames: a variable renamed to a name that does not occur changes no fault but that name. No walk here.
-/
import Derived.Test.YtnegdmhmhdojbaaDoorChkPlains
import Derived.Test.YtnegdmhmhdojbaaDoorChkWhere
import Derived.Test.YtnegdmhmhdojbaaDoorChkEdit
namespace Go.Proofs.YtnegdmhmhdojbaaDoor
set_option linter.unusedVariables false
set_option linter.unusedSimpArgs false
open Go.RowKit
set_option maxRecDepth 100000

def freshS : ByteArray := ⟨#[122, 122, 122, 102, 114, 101, 115, 104]⟩
def renS (name s : ByteArray) : ByteArray := if s = name then freshS else s
/-- a node that is the variable gets the new name -/
def renN (name : ByteArray) (x : Tree) : Tree := if x.kind = 2 ∧ x.name = name then Tree.make x.kind x.num freshS x.len x.kid else x
abbrev renT (name : ByteArray) (t : Tree) : Tree := editT (renN name) t
def renTsk (name : ByteArray) (t : Tsk) : Tsk := ⟨t.name, t.period, t.vars.map (renS name), t.arrays, renT name t.body⟩
/-- what the law has found of every node -/
def renQ (name : ByteArray) (x : Tree) : Prop := x.name ≠ freshS ∧ (x.kind ≠ 2 → x.name ≠ name)
section
variable {name : ByteArray}
theorem renT_parts (t : Tree) : (renT name t).kind = t.kind ∧ (renT name t).num = t.num ∧ (renT name t).len = t.len ∧ (renT name t).name = (if t.kind = 2 ∧ t.name = name then freshS else t.name) ∧ ∀ i, i < t.len → (renT name t).kid i = renT name (t.kid i) := by
  unfold renT
  rw [editT_eq]
  unfold renN
  by_cases h : t.kind = 2 ∧ t.name = name
  · rw [if_pos (show (mapK _ t).kind = 2 ∧ (mapK _ t).name = name from h), if_pos h]
    exact ⟨rfl, rfl, rfl, rfl, fun i hi => (Tree.make_kid (show i < (mapK _ t).len from hi)).trans (mapK_kid hi)⟩
  · rw [if_neg (show ¬ ((mapK _ t).kind = 2 ∧ (mapK _ t).name = name) from h), if_neg h]
    exact ⟨rfl, rfl, rfl, rfl, fun i hi => mapK_kid hi⟩
theorem renT_size : ∀ t : Tree, (renT name t).size = t.size := by
  intro t
  induction t using Tree.ind with
  | h t ih =>
    obtain ⟨_, _, h3, _, h5⟩ := renT_parts (name := name) t
    rw [Tree.size_eq, Tree.size_eq, h3]
    congr 1
    exact Tree.sumTo_congr fun i hi => by rw [h5 i hi, ih i hi]
theorem renT_depth : ∀ t : Tree, (renT name t).depth = t.depth := by
  intro t
  induction t using Tree.ind with
  | h t ih =>
    obtain ⟨_, _, h3, _, h5⟩ := renT_parts (name := name) t
    rw [Tree.depth_eq, Tree.depth_eq, h3]
    congr 1
    exact Tree.maxTo_congr fun i hi => by rw [h5 i hi, ih i hi]
theorem renT_nest : ∀ t : Tree, (renT name t).nest = t.nest := by
  intro t
  induction t using Tree.ind with
  | h t ih =>
    obtain ⟨h1, _, h3, _, h5⟩ := renT_parts (name := name) t
    rw [Tree.nest_eq, Tree.nest_eq, h3, h1]
    congr 1
    exact Tree.maxTo_congr fun i hi => by rw [h5 i hi, ih i hi]
theorem fresh_nm : Lx.name freshS.toList = true := by decide +kernel
theorem renT_vld : ∀ (t : Tree) (c : Int), t.vld c = true → (renT name t).vld c = true := by
  intro t
  induction t using Tree.ind with
  | h t ih =>
    intro c h
    obtain ⟨h1, h2, h3, h4, h5⟩ := renT_parts (name := name) t
    rw [Tree.vld_eq] at h ⊢
    rw [h1, h2, h3, h4]
    simp only [Bool.and_eq_true] at h ⊢
    refine ⟨h.1, ?_⟩
    have h := h.2
    by_cases k : t.kind = 47
    · rw [if_pos k] at h ⊢
      simp only [Bool.and_eq_true] at h ⊢
      refine ⟨⟨h.1.1, ?_⟩, ?_⟩
      · rw [if_neg (fun e => by rw [k] at e; exact absurd e.1 (by decide))]
        exact h.1.2
      · refine Tree.allTo_iff.2 fun i hi => ?_
        rw [h5 i hi]
        exact ih i hi _ (Tree.allTo_iff.1 h.2 i hi)
    · rw [if_neg k] at h ⊢
      simp only [Bool.and_eq_true] at h ⊢
      refine ⟨⟨h.1.1, ?_⟩, ?_⟩
      · by_cases e : t.kind = 2 ∧ t.name = name
        · rw [if_pos e, e.1]
          show (if Fm.name 2 then Lx.name freshS.toList else _) = true
          rw [if_pos (by decide), fresh_nm]
        · rw [if_neg e]
          exact h.1.2
      · refine Tree.allTo_iff.2 fun i hi => ?_
        rw [h5 i hi]
        exact ih i hi _ (Tree.allTo_iff.1 h.2 i hi)
theorem renTsk_ok {t : Tsk} (h : tskOk t = true) : tskOk (renTsk name t) = true := by
  unfold tskOk at h ⊢
  simp only [Bool.and_eq_true, decide_eq_true_eq, List.all_eq_true] at h ⊢
  obtain ⟨a1, a2, a3, a4, a5, a6, a7, a8, a9, a10⟩ := h
  refine ⟨a1, a2, a3, ?_, a5, a6, fun s hs => ?_, ?_, ?_, ?_⟩
  · show (t.vars.map _).length ≤ 12; rw [List.length_map]; exact a4
  · obtain ⟨s', hs', rfl⟩ := List.mem_map.1 hs
    unfold renS
    split
    · exact fresh_nm
    · exact a7 s' hs'
  · show (renT name t.body).depth ≤ 16 ∧ (renT name t.body).size ≤ 400
    rw [renT_depth, renT_size]; exact a8
  · show (renT name t.body).nest ≤ 4
    rw [renT_nest]; exact a9
  · exact renT_vld t.body 98 a10
theorem ren_ok : ∀ (t : Tree) (p : List Int), (∀ x ∈ t.items p, renQ name x.2) → EdOk (renN name) (renQ name) t := by
  intro t
  induction t using Tree.ind with
  | h t ih =>
    intro p h
    refine EdOk.mk (h (p, t) (by rw [t.items_eq p]; simp)) (fun i hi => ih i hi (p ++ [(i : Int)]) (fun x hx => h x ?_))
    rw [t.items_eq p]
    exact List.mem_cons_of_mem _ (mem_concatTo.2 ⟨i, hi, hx⟩)
/-! names -/
theorem renS_other {s : ByteArray} (h : s ≠ name) : renS name s = s := if_neg h
theorem renS_inj {s t : ByteArray} (hs : s ≠ freshS) (ht : t ≠ freshS) (h : renS name s = renS name t) : s = t := by
  unfold renS at h
  split at h <;> split at h
  · rename_i h1 h2; rw [h1, h2]
  · exact absurd h.symm ht
  · exact absurd h hs
  · exact h
theorem memB_ren {l : List ByteArray} {s : ByteArray} (hl : freshS ∉ l) (hs : s ≠ freshS) : memB (l.map (renS name)) (renS name s) = memB l s := by
  rw [Bool.eq_iff_iff, memB_iff, memB_iff]
  constructor
  · intro h
    obtain ⟨x, hx, he⟩ := List.mem_map.1 h
    rwa [← renS_inj (fun e => hl (e ▸ hx)) hs he]
  · exact fun h => List.mem_map_of_mem h
theorem memB_false {l : List ByteArray} {s : ByteArray} : memB l s = false ↔ s ∉ l := by
  rw [← memB_iff]; simp
theorem memB_at {l : List ByteArray} {s : ByteArray} (hl : freshS ∉ l) (h1 : s ≠ name) (h2 : s ≠ freshS) : memB (l.map (renS name)) s = memB l s := by
  have h := memB_ren (name := name) hl h2
  rwa [renS_other h1] at h
def renF (name : ByteArray) (f : Flt) : Flt := ⟨f.path, f.err, renS name f.name⟩
theorem declF_ren {known : ByteArray → Bool} (h1 : known name = false) (h2 : known freshS = false) : ∀ (l so : List ByteArray), freshS ∉ l → freshS ∉ so → declF known (so.map (renS name)) (l.map (renS name)) = (declF known so l).map (renF name)
  | [], so, _, _ => rfl
  | x :: l, so, hl, hso => by
    have hx : x ≠ freshS := fun e => hl (by rw [e]; simp)
    have ih := declF_ren h1 h2 l (so ++ [x]) (fun h => hl (List.mem_cons_of_mem _ h)) (fun h => by
      rcases List.mem_append.1 h with h | h
      · exact hso h
      · exact hx (List.mem_singleton.1 h).symm)
    rw [List.map_append, List.map_cons, List.map_nil] at ih
    rw [List.map_cons, declF, declF, ih, List.map_append, memB_ren hso hx]
    have hk : known (renS name x) = known x := by
      by_cases e : x = name
      · rw [e, h1]; unfold renS; rw [if_pos rfl, h2]
      · rw [renS_other e]
    rw [hk]
    congr 1
    split <;> rfl
theorem declF_each {known : ByteArray → Bool} : ∀ (l so : List ByteArray) (f : Flt), f ∈ declF known so l → f.path = [] ∧ f.err = 8
  | [], so, f, h => by cases h
  | x :: l, so, f, h => by
    rw [declF] at h
    rcases List.mem_append.1 h with h | h
    · split at h
      · obtain rfl := List.mem_singleton.1 h; exact ⟨rfl, rfl⟩
      · cases h
    · exact declF_each l _ f h
/-- what the law has found of the names -/
structure RenD (name : ByteArray) (d : Nms) : Prop where
  s1 : memB d.shared name = false
  s2 : memB d.shared freshS = false
  a1 : memB d.arrays name = false
  a2 : memB d.arrays freshS = false
  v1 : memB d.scalars name = true
  v2 : freshS ∉ d.scalars
def renD (name : ByteArray) (d : Nms) : Nms := ⟨d.shared, d.scalars.map (renS name), d.arrays⟩
theorem ownF_ren {d : Nms} (hd : RenD name d) {t : Tree} (hq : renQ name t) (path : List Int) (pl : Bool) (lo lk : List ByteArray) (h1 : name ∉ lo) (h2 : freshS ∉ lo) :
    ownF (renD name d) (renT name t) path pl lo lk = (ownF d t path pl lo lk).map (renF name) ∧ ∀ f ∈ ownF d t path pl lo lk, f.name ≠ name := by
  obtain ⟨e1, _, _, e4, _⟩ := renT_parts (name := name) t
  unfold ownF
  rw [e1, e4]
  by_cases h : t.kind = 2 ∧ t.name = name
  · rw [if_pos h, h.1, h.2]
    have z1 : faultN (renD name d) 2 freshS pl lo lk = 0 := by
      unfold faultN
      rw [if_pos rfl, memB_false.2 h2]
      have hm : memB (renD name d).scalars freshS = true := by
        have h3 := memB_ren (name := name) (l := d.scalars) (s := name) hd.v2 (fun e => hq.1 (by rw [h.2]; exact e))
        unfold renS at h3
        rw [if_pos rfl, hd.v1] at h3
        exact h3
      rw [hm]; simp
    have z2 : faultN d 2 name pl lo lk = 0 := by
      unfold faultN
      rw [if_pos rfl, memB_false.2 h1, hd.v1]; simp
    rw [z1, z2, if_pos rfl, if_pos rfl]
    exact ⟨rfl, by simp⟩
  · have hn : t.name ≠ name := fun e => by
      by_cases k : t.kind = 2
      · exact h ⟨k, e⟩
      · exact hq.2 k e
    rw [if_neg h]
    have z : faultN (renD name d) t.kind t.name pl lo lk = faultN d t.kind t.name pl lo lk := by
      have hm : memB (renD name d).scalars t.name = memB d.scalars t.name := memB_at hd.v2 hn hq.1
      unfold faultN
      rw [hm]
      rfl
    rw [z]
    split
    · exact ⟨rfl, by simp⟩
    · exact ⟨by show _ = [renF name _]; unfold renF; rw [renS_other hn], fun f hf => by obtain rfl := List.mem_singleton.1 hf; exact hn⟩
theorem concatTo_map' {α β : Type} (g : α → β) (f : Nat → List α) (n : Nat) : (concatTo f n).map g = concatTo (fun i => (f i).map g) n := concatTo_map g f n
theorem faultsT_ren {d : Nms} (hd : RenD name d) : ∀ (t : Tree) (path : List Int) (pl : Bool) (lo lk : List ByteArray), EdOk (renN name) (renQ name) t → name ∉ lo → freshS ∉ lo →
    faultsT (renD name d) (renT name t) path pl lo lk = (faultsT d t path pl lo lk).map (renF name) ∧ ∀ f ∈ faultsT d t path pl lo lk, f.name ≠ name := by
  intro t
  induction t using Tree.ind with
  | h t ih =>
    intro path pl lo lk hed h1 h2
    have hq : renQ name t := hed.own
    obtain ⟨e1, _, e3, e4, e5⟩ := renT_parts (name := name) t
    obtain ⟨o1, o2⟩ := ownF_ren hd hq path pl lo lk h1 h2
    have hlo : loopsIn (renT name t) lo = loopsIn t lo := by
      unfold loopsIn
      rw [e1, e4]
      by_cases k : t.kind = 42
      · rw [if_pos k, if_pos k, if_neg (fun e => by rw [k] at e; exact absurd e.1 (by decide))]
      · rw [if_neg k, if_neg k]
    have hpl : ∀ i, placeIn (renT name t) i = placeIn t i := fun i => by unfold placeIn; rw [e1]
    have h1' : name ∉ loopsIn t lo := by
      unfold loopsIn
      split
      · rename_i k
        intro h
        rcases List.mem_append.1 h with h | h
        · exact h1 h
        · exact hq.2 (by rw [k]; decide) (List.mem_singleton.1 h).symm
      · exact h1
    have h2' : freshS ∉ loopsIn t lo := by
      unfold loopsIn
      split
      · intro h
        rcases List.mem_append.1 h with h | h
        · exact h2 h
        · exact hq.1 (List.mem_singleton.1 h).symm
      · exact h2
    -- the locks are names of Lock nodes: not the variable, not the new name
    have hlk : locksIn (renT name t) lk = locksIn t lk := by
      unfold locksIn
      rw [e1, e4]
      by_cases k : t.kind = 46
      · rw [if_pos k, if_pos k, if_neg (fun e => by rw [k] at e; exact absurd e.1 (by decide))]
      · rw [if_neg k, if_neg k]
    rw [faultsT_eq, faultsT_eq, o1, List.map_append, concatTo_map, e3, hlo, hlk]
    refine ⟨?_, fun f hf => ?_⟩
    · congr 1
      exact concatTo_congr fun i hi => by
        rw [e5 i hi, hpl i]
        exact (ih i hi _ _ _ _ (hed.kid hi) h1' h2').1
    · rcases List.mem_append.1 hf with hf | hf
      · exact o2 f hf
      · obtain ⟨i, hi, hf⟩ := mem_concatTo.1 hf
        exact (ih i hi _ _ _ _ (hed.kid hi) h1' h2').2 f hf
theorem taskF_ren {shared : List ByteArray} {t : Tsk} (hd : RenD name ⟨shared, t.vars, t.arrays.map (·.name)⟩) (hed : EdOk (renN name) (renQ name) t.body) :
    taskF shared (renTsk name t) = (taskF shared t).map (renF name) ∧ ∀ f ∈ taskF shared t, f.name = name → f.path = [] ∧ f.err = 8 := by
  obtain ⟨b1, b2⟩ := faultsT_ren hd t.body [] false [] [] hed (by simp) (by simp)
  have harr : (t.arrays.map (·.name)).map (renS name) = t.arrays.map (·.name) := by
    refine (List.map_congr_left (fun s hs => renS_other (fun e => ?_))).trans (List.map_id _)
    rw [e] at hs
    exact memB_false.1 hd.a1 hs
  have hfr : freshS ∉ t.vars ++ t.arrays.map (·.name) := fun h => by
    rcases List.mem_append.1 h with h | h
    · exact hd.v2 h
    · exact memB_false.1 hd.a2 h
  have hdec := declF_ren (known := memB shared) hd.s1 hd.s2 (t.vars ++ t.arrays.map (·.name)) [] hfr (by simp)
  rw [List.map_append, harr] at hdec
  refine ⟨?_, fun f hf he => ?_⟩
  · unfold taskF
    rw [List.map_append]
    exact congr (congrArg HAppend.hAppend hdec) b1
  · unfold taskF at hf
    rcases List.mem_append.1 hf with hf | hf
    · exact declF_each _ _ f hf
    · exact absurd he (b2 f hf)
end
/-! two lists of faults, one by one -/
inductive RelL {α : Type} (R : α → α → Prop) : List α → List α → Prop
  | nil : RelL R [] []
  | cons {a b : α} {l m : List α} : R a b → RelL R l m → RelL R (a :: l) (b :: m)
theorem RelL.refl {α : Type} {R : α → α → Prop} (h : ∀ a, R a a) : ∀ l : List α, RelL R l l
  | [] => .nil
  | a :: l => .cons (h a) (RelL.refl h l)
theorem RelL.append {α : Type} {R : α → α → Prop} {l m l' m' : List α} (h : RelL R l m) (h' : RelL R l' m') : RelL R (l ++ l') (m ++ m') := by
  induction h with
  | nil => exact h'
  | cons a _ ih => exact .cons a ih
theorem RelL.map {α β : Type} {R : β → β → Prop} {f g : α → β} : ∀ (l : List α), (∀ a ∈ l, R (f a) (g a)) → RelL R (l.map f) (l.map g)
  | [], _ => .nil
  | a :: l, h => .cons (h a (by simp)) (RelL.map l (fun b hb => h b (List.mem_cons_of_mem _ hb)))
theorem RelL.len {α : Type} {R : α → α → Prop} {l m : List α} (h : RelL R l m) : l.length = m.length := by
  induction h with
  | nil => rfl
  | cons _ _ ih => rw [List.length_cons, List.length_cons, ih]
theorem RelL.get {α : Type} {R : α → α → Prop} {l m : List α} (h : RelL R l m) : ∀ (j : Nat) (a b : α), l[j]? = some a → m[j]? = some b → R a b := by
  induction h with
  | nil => intro j a b h; cases h
  | cons hab _ ih =>
    intro j a b h1 h2
    cases j with
    | zero => cases h1; cases h2; exact hab
    | succ j => exact ih j a b (by simpa using h1) (by simpa using h2)
/-- a fault before and behind the renaming -/
def renRel (ix : Int) (name : ByteArray) (f g : TFlt) : Prop :=
  g.task = f.task ∧ g.flt.err = f.flt.err ∧ g.flt.path = f.flt.path ∧ (g.flt.name = f.flt.name ∨ (f.task = ix ∧ f.flt.name = name ∧ f.flt.err = 8 ∧ f.flt.path = [] ∧ g.flt.name = freshS))
theorem renRel_refl (ix : Int) (name : ByteArray) (f : TFlt) : renRel ix name f f := ⟨rfl, rfl, rfl, .inl rfl⟩
theorem tasksF_ren {shared : List ByteArray} {name : ByteArray} {t t' : Tsk} (hn : t'.name = t.name) (h1 : taskF shared t' = (taskF shared t).map (renF name)) (h2 : ∀ f ∈ taskF shared t, f.name = name → f.path = [] ∧ f.err = 8) :
    ∀ (l : List Tsk) (so : List ByteArray) (i j : Nat), l[j]? = some t → RelL (renRel ((i + j : Nat) : Int) name) (tasksF shared so i l) (tasksF shared so i (l.set j t'))
  | [], _, _, _, h => by cases h
  | x :: l, so, i, 0, h => by
    cases h
    rw [List.set_cons_zero, tasksF, tasksF, hn, h1]
    refine RelL.append ?_ (RelL.refl (renRel_refl _ _) _)
    rw [List.map_append, List.map_append, List.map_map]
    refine RelL.append (RelL.refl (renRel_refl _ _) _) (RelL.map _ (fun f hf => ⟨rfl, rfl, rfl, ?_⟩))
    by_cases e : f.name = name
    · obtain ⟨e1, e2⟩ := h2 f hf e
      exact .inr ⟨rfl, e, e2, e1, if_pos e⟩
    · exact .inl (renS_other e)
  | x :: l, so, i, j + 1, h => by
    rw [List.set_cons_succ, tasksF, tasksF]
    have ih := tasksF_ren hn h1 h2 l (so ++ [x.name]) (i + 1) j (by simpa using h)
    rw [show i + 1 + j = i + (j + 1) by omega] at ih
    exact RelL.append (RelL.refl (renRel_refl _ _) _) ih
theorem check_ren {p : Prg} {i : Nat} {t : Tsk} {name : ByteArray} (ht : p.tasks.getD i Tsk.none = t) (hok : prgOk p = true) (hi : i < p.tasks.length) (hd : RenD name ⟨p.shared.map (·.name), t.vars, t.arrays.map (·.name)⟩) (hed : EdOk (renN name) (renQ name) t.body) :
    RelL (renRel (i : Int) name) (checkE p) (checkE (swapP p i (renTsk name t))) := by
  have htk : tskOk t = true := by rw [← ht]; exact (prgOk_le hok).2.2 i hi
  have hv : prgOk (swapP p i (renTsk name t)) = true := by
    unfold prgOk at hok ⊢
    simp only [Bool.and_eq_true, decide_eq_true_eq, List.all_eq_true] at hok ⊢
    refine ⟨hok.1, by show (p.tasks.set i _).length ≤ 8; rw [List.length_set]; exact hok.2.1, hok.2.2.1, fun x hx => ?_⟩
    rcases List.mem_or_eq_of_mem_set hx with hx | rfl
    · exact hok.2.2.2 x hx
    · exact renTsk_ok htk
  unfold checkE
  rw [hok, hv]
  obtain ⟨h1, h2⟩ := taskF_ren hd hed
  have h3 := tasksF_ren (t := t) (t' := renTsk name t) (show t.name = t.name from rfl) h1 h2 p.tasks [] 0 i (by rw [← ht]; simp [hi])
  rw [Nat.zero_add] at h3
  exact RelL.append (RelL.refl (renRel_refl _ _) _) h3
end Go.Proofs.YtnegdmhmhdojbaaDoor
