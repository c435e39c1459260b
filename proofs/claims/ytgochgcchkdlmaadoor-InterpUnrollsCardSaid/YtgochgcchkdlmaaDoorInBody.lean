/-
  A program's tasks copied, the body of one replaced (package ontimelaw16): plainly, and in memory.
-/
import Derived.Test.YtgochgcchkdlmaaDoorInLawFuel
import Derived.Test.YtgochgcchkdlmaaDoorInRepl
namespace Go.Proofs.YtgochgcchkdlmaaDoor
set_option linter.unusedVariables false
set_option linter.unusedSimpArgs false
open Go.RowKit Go.Maps
set_option maxRecDepth 100000
set_option maxHeartbeats 8000000

def bodyW (t : Tsk) (B : Tree) : Tsk := { t with body := B }
/-- the program with the body of a task replaced -/
def bodyP (p : Prg) (i : Nat) (B : Tree) : Prg := ⟨p.shared, p.tasks.set i (bodyW (p.tasks.getD i Tsk.none) B)⟩
theorem bodyP_len {p : Prg} {i : Nat} {B : Tree} : (bodyP p i B).tasks.length = p.tasks.length := by unfold bodyP; rw [List.length_set]
theorem bodyP_at {p : Prg} {i : Nat} {B : Tree} (hi : i < p.tasks.length) : (bodyP p i B).tasks.getD i Tsk.none = bodyW (p.tasks.getD i Tsk.none) B := by unfold bodyP; simp [hi]
theorem bodyP_other {p : Prg} {i k : Nat} {B : Tree} (h : k ≠ i) : (bodyP p i B).tasks.getD k Tsk.none = p.tasks.getD k Tsk.none := by
  unfold bodyP
  rw [List.getD_eq_getElem?_getD, List.getElem?_set_ne (fun e => h e.symm), ← List.getD_eq_getElem?_getD]
theorem fitsAll_set {T : List Tsk} {B : Tree} : ∀ {i : Nat} {R : List (List (List Int))}, fitsAll (T.set i (bodyW (T.getD i Tsk.none) B)) R = fitsAll T R := by
  induction T with
  | nil => intro i R; rfl
  | cons t T ih =>
    intro i R
    cases R with
    | nil => cases i <;> rfl
    | cons r R =>
      cases i with
      | zero => rfl
      | succ i =>
        show (matchP t.arrays r && fitsAll (T.set i (bodyW ((t :: T).getD (i + 1) Tsk.none) B)) R) = (matchP t.arrays r && fitsAll T R)
        rw [show (t :: T).getD (i + 1) Tsk.none = T.getD i Tsk.none by simp, ih]
theorem bodyP_fits {p : Prg} {i : Nat} {B : Tree} {M : Mem} : refFits (bodyP p i B) M = refFits p M := by
  unfold refFits
  rw [bodyP_len]
  show (_ && (matchP p.shared M.shared && fitsAll (p.tasks.set i (bodyW (p.tasks.getD i Tsk.none) B)) M.arrays)) = _
  rw [fitsAll_set]
/-- a job of such a program -/
theorem bodyP_job {p : Prg} {task : Int} {M : Mem} {B : Tree} {inp : List Int} {F : Int} (h : runP p task M = true) (hq : okP (bodyP p task.toNat B) = true) : jobP (bodyP p task.toNat B) task M inp F = runR p task.toNat M (B.ex F inp (jobS p task.toNat M)) := by
  have h3 := h
  unfold runP at h3
  simp only [Bool.and_eq_true, decide_eq_true_eq] at h3
  obtain ⟨_, g2, g3, g4⟩ := h3
  have hi : task.toNat < p.tasks.length := by omega
  have hrun : runP (bodyP p task.toNat B) task M = true := by
    unfold runP
    rw [hq, bodyP_fits, g4, bodyP_len, decide_eq_true g2, decide_eq_true g3]
    rfl
  rw [jobP_run hrun, bodyP_at hi]
  have e : jobS (bodyP p task.toNat B) task.toNat M = jobS p task.toNat M := by unfold jobS; rw [bodyP_at hi]; rfl
  rw [e]
  unfold runR
  rw [bodyP_at hi]
  rfl
/-! ### in memory -/
def set4at (w : World) (b o : Nat) (x0 x1 x2 x3 : Value) : World := (((w.setCell ⟨b, o, none⟩ x0).setCell ⟨b, o + 1, none⟩ x1).setCell ⟨b, o + 2, none⟩ x2).setCell ⟨b, o + 3, none⟩ x3
theorem row_set4 {w : World} {base : Nat} {e : TypeId} {g n cap i : Nat} {xs : List Value} {x0 x1 x2 x3 : Value} (h : w.ownsRow base e 8 (.slice (some ⟨g, 0, none⟩) n cap) n xs) (hi : i < n) :
    (set4at w g (i * 8 + 4) x0 x1 x2 x3).ownsRow base e 8 (.slice (some ⟨g, 0, none⟩) n cap) n ((((xs.set (i * 8 + 4) x0).set (i * 8 + 4 + 1) x1).set (i * 8 + 4 + 2) x2).set (i * 8 + 4 + 3) x3) :=
  ownsRow_set (ownsRow_set (ownsRow_set (ownsRow_set h (by omega)) (by omega)) (by omega)) (by omega)
theorem set4at_get {n i k o : Nat} {xs : List Value} {x0 x1 x2 x3 : Value} (hx : xs.length = n * 8) (hi : i < n) (ho : o < 8) :
    ((((xs.set (i * 8 + 4) x0).set (i * 8 + 4 + 1) x1).set (i * 8 + 4 + 2) x2).set (i * 8 + 4 + 3) x3)[k * 8 + o]? = if k = i ∧ 4 ≤ o then (#[x0, x1, x2, x3] : Array Value)[o - 4]? else xs[k * 8 + o]? := by
  by_cases hk : k = i
  · subst hk
    match o, ho with
    | 0, _ => rw [if_neg (by omega)]; simp only [List.getElem?_set]; repeat rw [if_neg (by omega)]
    | 1, _ => rw [if_neg (by omega)]; simp only [List.getElem?_set]; repeat rw [if_neg (by omega)]
    | 2, _ => rw [if_neg (by omega)]; simp only [List.getElem?_set]; repeat rw [if_neg (by omega)]
    | 3, _ => rw [if_neg (by omega)]; simp only [List.getElem?_set]; repeat rw [if_neg (by omega)]
    | 4, _ => rw [if_pos (by omega)]; simp [List.getElem?_set, hx]; omega
    | 5, _ => rw [if_pos (by omega)]; simp [List.getElem?_set, hx]; omega
    | 6, _ => rw [if_pos (by omega)]; simp [List.getElem?_set, hx]; omega
    | 7, _ => rw [if_pos (by omega)]; simp [List.getElem?_set, hx]; omega
  · rw [if_neg (by omega)]
    simp only [List.getElem?_set]
    repeat rw [if_neg (by omega)]
theorem set4at_far {w : World} {b o k : Nat} {x0 x1 x2 x3 : Value} (h : k ≠ b) : (set4at w b o x0 x1 x2 x3).heap[k]? = w.heap[k]? := by
  unfold set4at
  iterate 4 rw [Below.heap_setCell _ _ _ _ (by exact h)]
theorem set4at_below {B : Nat} {a w : World} {b o : Nat} {x0 x1 x2 x3 : Value} (h : Below B a w) (hb : B ≤ b) : Below B a (set4at w b o x0 x1 x2 x3) :=
  (((h.setCell (p := ⟨b, _, none⟩) hb _).setCell (p := ⟨b, _, none⟩) hb _).setCell (p := ⟨b, _, none⟩) hb _).setCell (p := ⟨b, _, none⟩) hb _
/-- the copied tasks, the body of one replaced -/
theorem tasks_body {w0 w6 W7 : World} {p : Prg} {sa a3 : Option Addr} {b off gb cap i c3 base : Nat} {news : List Value} {B : Tree} (hp : PrgAt w0 p sa (some ⟨b, off, none⟩)) (hi : i < p.tasks.length) (hown : w6.ownsRow base 52 8 (.slice (some ⟨gb, 0, none⟩) p.tasks.length cap) p.tasks.length news)
    (hnews : ∀ j, j < p.tasks.length * 8 → w0.cell? ⟨b, off + j, none⟩ = news[j]?) (hW7 : W7 = set4at w6 gb (i * 8 + 4) (.int .u8 B.kind) (.int .i64 B.num) (.string B.name) (.slice a3 B.len c3)) (hB7 : Below w0.heap.size w0 W7) (hr : Rep W7 B a3) : PrgAt W7 (bodyP p i B) sa (some ⟨gb, 0, none⟩) := by
  have hlen : news.length = p.tasks.length * 8 := hown.1
  have hown7 := row_set4 (x0 := .int .u8 B.kind) (x1 := .int .i64 B.num) (x2 := .string B.name) (x3 := .slice a3 B.len c3) hown hi
  rw [← hW7] at hown7
  have hcell : ∀ k o, k < p.tasks.length → o < 8 → W7.cell? ⟨gb, 0 + k * 8 + o, none⟩ = if k = i ∧ 4 ≤ o then (#[.int .u8 B.kind, .int .i64 B.num, .string B.name, .slice a3 B.len c3] : Array Value)[o - 4]? else w0.cell? ⟨b, off + k * 8 + o, none⟩ := fun k o hk ho => by
    rw [Nat.zero_add, Nat.add_assoc off, hnews (k * 8 + o) (by omega), ← set4at_get (k := k) (x0 := .int .u8 B.kind) (x1 := .int .i64 B.num) (x2 := .string B.name) (x3 := .slice a3 B.len c3) hlen hi ho]
    rw [List.getElem?_eq_getElem (by simp only [List.length_set]; rw [hlen]; omega)]
    exact own_get hown7 (List.getElem?_eq_getElem _)
  refine ⟨hp.1.below hB7, by rw [bodyP_len]; exact hp.2.1, fun k hk => ?_⟩
  rw [bodyP_len] at hk
  obtain ⟨b2, off2, q, ha2, hc2, hin⟩ := hp.2.2 k hk
  cases ha2
  by_cases e : k = i
  · subst e
    rw [bodyP_at hk]
    have hin7 := hin.below hB7
    refine ⟨gb, 0, ⟨q.va, q.vc, q.aa, q.ac, a3, c3⟩, rfl, fun o ho => ?_, ⟨hin7.name, hin7.period, hin7.vars, hin7.arrays, hr⟩⟩
    rw [hcell k o hk ho]
    match o, ho with
    | 0, _ => rw [if_neg (by omega)]; exact hc2 0 (by omega)
    | 1, _ => rw [if_neg (by omega)]; exact hc2 1 (by omega)
    | 2, _ => rw [if_neg (by omega)]; exact hc2 2 (by omega)
    | 3, _ => rw [if_neg (by omega)]; exact hc2 3 (by omega)
    | 4, _ => rw [if_pos (by omega)]; rfl
    | 5, _ => rw [if_pos (by omega)]; rfl
    | 6, _ => rw [if_pos (by omega)]; rfl
    | 7, _ => rw [if_pos (by omega)]; rfl
  · rw [bodyP_other e]
    exact ⟨gb, 0, q, rfl, fun o ho => by rw [hcell k o hk ho, if_neg (by omega)]; exact hc2 o ho, hin.below hB7⟩
/-! ### children's rows, cut -/
/-- the room of a task's body's children -/
def BodyCap (w : World) (a : Option Addr) (l : List Tsk) : Prop := ∀ i, i < l.length → ∀ b off p, a = some ⟨b, off, none⟩ → (∀ o, o < 8 → w.cell? ⟨b, off + i * 8 + o, none⟩ = ((l.getD i Tsk.none).cells p)[o]?) → (l.getD i Tsk.none).body.len ≤ p.kc
/-- where a row begins behind its first elements -/
def lowA (a : Option Addr) (c k size : Nat) : Option Addr := if c = k then a else a.map (·.add (k * size))
theorem lowA_at {b off c k size n : Nat} (hn : k + n ≤ c) : n = 0 ∨ lowA (some ⟨b, off, none⟩) c k size = some ⟨b, off + k * size, none⟩ := by
  by_cases h0 : n = 0
  · exact .inl h0
  · refine .inr ?_
    unfold lowA
    rw [if_neg (by omega)]
    show some ((⟨b, off, none⟩ : Addr).add (k * size)) = _
    unfold Addr.add
    by_cases h : k * size = 0 <;> simp [h]
/-- the children's places -/
theorem kid_places {w : World} {t : Tree} {a : Option Addr} (h : Rep w t a) : ∃ y : Nat → Option Addr × Nat, t.len = 0 ∨ ∃ b off, a = some ⟨b, off, none⟩ ∧ ∀ i, i < t.len → NodeAt w b (off + i * 4) (t.kid i) (y i).1 (y i).2 ∧ Rep w (t.kid i) (y i).1 := by
  rcases h.kids with h0 | ⟨b, off, ha, hk⟩
  · exact ⟨fun _ => (none, 0), .inl h0⟩
  · have hm : ∀ i : Nat, ∃ y : Option Addr × Nat, i < t.len → NodeAt w b (off + i * 4) (t.kid i) y.1 y.2 ∧ Rep w (t.kid i) y.1 := fun i => by
      by_cases hi : i < t.len
      · obtain ⟨ai, ci, h1, h2⟩ := hk i hi
        exact ⟨(ai, ci), fun _ => ⟨h1, h2⟩⟩
      · exact ⟨(none, 0), fun h => absurd h hi⟩
    obtain ⟨y, hy⟩ := Classical.axiomOfChoice hm
    exact ⟨y, .inr ⟨b, off, ha, hy⟩⟩
/-- a row of nodes, read -/
theorem nodes_src {w : World} {b off n : Nat} {f : Nat → Tree} {y : Nat → Option Addr × Nat} (h : ∀ i, i < n → NodeAt w b (off + i * 4) (f i) (y i).1 (y i).2) : Src w (some ⟨b, off, none⟩) n 4 (rowsTo f y n) := by
  refine ⟨rowsTo_len _ _ _, .inr ⟨_, rfl, fun j u hu => ?_⟩⟩
  have hj : j < n * 4 := by have := (List.getElem?_eq_some_iff.1 hu).1; rwa [rowsTo_len] at this
  have add : (⟨b, off, none⟩ : Addr).add j = ⟨b, off + j, none⟩ := by
    unfold Addr.add
    by_cases h0 : j = 0 <;> simp [h0]
  rw [add]
  have hn := h (j / 4) (by omega)
  have hr := rowsTo_at f y (n := n) (i := j / 4) (by omega) (j % 4) (by omega)
  rw [show j / 4 * 4 + j % 4 = j by omega, hu] at hr
  have hm : j % 4 < 4 := by omega
  obtain ⟨d, hd⟩ : ∃ d, j % 4 = d := ⟨_, rfl⟩
  rw [hd] at hr hm
  have hje : off + j = off + j / 4 * 4 + d := by omega
  rw [hje]
  match d, hm with
  | 0, _ => rw [Nat.add_zero, hn.kind, hr]; rfl
  | 1, _ => rw [hn.num, hr]; rfl
  | 2, _ => rw [hn.name, hr]; rfl
  | 3, _ => rw [hn.kids, hr]; rfl
/-- a block over part of the children -/
theorem blk_rep {w : World} {t : Tree} {b off k n : Nat} {a : Option Addr} {y : Nat → Option Addr × Nat} (hy : ∀ i, i < t.len → NodeAt w b (off + i * 4) (t.kid i) (y i).1 (y i).2 ∧ Rep w (t.kid i) (y i).1) (hkn : k + n ≤ t.len) (hl : t.len ≤ 1000000) (ha : n = 0 ∨ a = some ⟨b, off + k * 4, none⟩) : Rep w (blk t k n) a := by
  refine Rep.mk ⟨by show (0 : Int) ≤ 47 ∧ (47 : Int) ≤ 255; omega, by show (-9223372036854775808 : Int) ≤ 0 ∧ (0 : Int) ≤ 9223372036854775807; omega, by show (0 : Nat) ≤ _; omega, by show n ≤ _; omega⟩ ?_
  rcases ha with h0 | ha
  · exact .inl h0
  · refine .inr ⟨b, off + k * 4, ha, fun i hi => ?_⟩
    have hi' : i < n := hi
    have h1 := hy (k + i) (by omega)
    rw [show off + (k + i) * 4 = off + k * 4 + i * 4 by omega] at h1
    rw [show (blk t k n).kid i = t.kid (k + i) from Tree.make_kid hi']
    exact ⟨_, _, h1.1, h1.2⟩
theorem blk_rep2 {w : World} {t : Tree} {k n : Nat} {a0 a : Option Addr} (h : Rep w t a0) (hkn : k + n ≤ t.len) (hl : t.len ≤ 1000000) (ha : n = 0 ∨ ∀ b off, a0 = some ⟨b, off, none⟩ → a = some ⟨b, off + k * 4, none⟩) : Rep w (blk t k n) a := by
  obtain ⟨y, hy⟩ := kid_places h
  rcases hy with h0 | ⟨b, off, e, hy⟩
  · refine Rep.mk ⟨by show (0 : Int) ≤ 47 ∧ (47 : Int) ≤ 255; omega, by show (-9223372036854775808 : Int) ≤ 0 ∧ (0 : Int) ≤ 9223372036854775807; omega, by show (0 : Nat) ≤ _; omega, by show n ≤ _; omega⟩ (.inl (by show n = 0; omega))
  · exact blk_rep hy hkn hl (ha.imp id (fun h => h b off e))
/-- the rest of the children's row, read -/
theorem rest_src {w : World} {t : Tree} {k c : Nat} {a0 : Option Addr} (h : Rep w t a0) (hk : k ≤ t.len) (hc : t.len ≤ c) : ∃ y : Nat → Option Addr × Nat, Src w (lowA a0 c k 4) (t.len - k) 4 (rowsTo (fun i => t.kid (k + i)) y (t.len - k)) ∧ ∀ i, i < t.len - k → Rep w (t.kid (k + i)) (y i).1 := by
  obtain ⟨y, hy⟩ := kid_places h
  refine ⟨fun i => y (k + i), ?_⟩
  rcases hy with h0 | ⟨b, off, e, hy⟩
  · have h1 : t.len - k = 0 := by omega
    rw [h1]
    exact ⟨⟨rfl, .inl rfl⟩, fun i hi => by omega⟩
  · refine ⟨?_, fun i hi => (hy (k + i) (by omega)).2⟩
    rcases lowA_at (b := b) (off := off) (c := c) (k := k) (size := 4) (n := t.len - k) (by omega) with h0 | h1
    · rw [h0]
      exact ⟨rfl, .inl rfl⟩
    · rw [e, h1]
      refine nodes_src (fun i hi => ?_)
      have h2 := (hy (k + i) (by omega)).1
      rwa [show off + (k + i) * 4 = off + k * 4 + i * 4 by omega] at h2
/-- a block over a row of the call's own -/
theorem NRow.rep {N : Nat} {S : Nat → Prop} {w : World} {a : Option Addr} {n c : Nat} {l : List Tree} {x : Nat → Option Addr × Nat} (h : NRow N S w (.slice a n c) l x) : Rep w (ofL l) a := by
  have hlen : l.length ≤ 9223372036854775807 := own_size h.ro
  refine Rep.mk ⟨by show (0 : Int) ≤ 47 ∧ (47 : Int) ≤ 255; omega, by show (-9223372036854775808 : Int) ≤ 0 ∧ (0 : Int) ≤ 9223372036854775807; omega, by show (0 : Nat) ≤ _; omega, hlen⟩ ?_
  by_cases h0 : l.length = 0
  · exact .inl h0
  · obtain ⟨g, ha, _, _⟩ := h.at_ (i := 0) (by omega)
    refine .inr ⟨g, 0, ha, fun i hi => ?_⟩
    have hi' : i < l.length := hi
    obtain ⟨g', ha', _, hn⟩ := h.at_ hi'
    rw [ha] at ha'
    cases ha'
    rw [show (ofL l).kid i = l.getD i noT from Tree.make_kid hi']
    exact ⟨_, _, hn, (h.reps i hi').rep⟩
theorem Src.keep {w w' : World} {a : Option Addr} {n size : Nat} {news : List Value} (h : Src w a n size news) (hB : Below w.heap.size w w') : Src w' a n size news :=
  ⟨h.1, h.2.imp id (fun ⟨ad, h1, h2⟩ => ⟨ad, h1, fun j u hu => (hB.cell (World.block_lt_of_cell? w _ (h2 j u hu))).trans (h2 j u hu)⟩)⟩
/-- what was there lies where it lay -/
theorem Rep.old {w w' : World} {t : Tree} {a : Option Addr} (h : Rep w t a) (hB : Below w.heap.size w w') : RepIn (fun k => k < w.heap.size) w' t a := h.in_.move (fun k _ hk => hB.block k hk) (fun k hk _ => hk)
/-- a row of one node, made by the call -/
theorem own_one {w : World} {N g : Nat} {x0 x1 x2 x3 : Value} (h : w.heap[g]? = some (nodeObj x0 x1 x2 x3)) (hN : N ≤ g) : w.ownsRow N 50 4 (.slice (some ⟨g, 0, none⟩) 1 1) 1 [x0, x1, x2, x3] :=
  ⟨rfl, .inr ⟨g, 1, #[x0, x1, x2, x3], rfl, hN, h, Nat.le_refl _, by unfold maxLen; omega, rfl, rfl⟩⟩
theorem own_at8 {w : World} {N g n cap : Nat} {e : TypeId} {xs : List Value} (h : w.ownsRow N e 8 (.slice (some ⟨g, 0, none⟩) n cap) n xs) {j : Nat} (hj : j < n * 8) : ∃ u, w.cell? ⟨g, j, none⟩ = some u ∧ w.frozen? ⟨g, j, none⟩ = false := by
  have hlen : xs.length = n * 8 := h.1
  refine ⟨_, own_get h (List.getElem?_eq_getElem (by rw [hlen]; exact hj)), ?_⟩
  rcases h.2 with ⟨h0, _⟩ | ⟨g', cap', cur, hv, _, hc, _⟩
  · cases h0
  · cases hv
    exact mem_free hc j
end Go.Proofs.YtgochgcchkdlmaaDoor
