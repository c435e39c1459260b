/- Part. -/
import Derived.Test.YtkpdngfkdmllkaaGreatDoorSimE
import Derived.Test.YtkpdngfkdmllkaaGreatDoorMg17
namespace Go.Proofs.YtkpdngfkdmllkaaGreatDoor
set_option linter.unusedVariables false
set_option linter.unusedSimpArgs false
open Go.RowKit
set_option maxRecDepth 100000
def MLen(y:IrSt):Except Int IrSt→Prop
 | .error _=>True
 | .ok y'=>y'.mem.length=y.mem.length
theorem mlen_ite{y:IrSt}{c:Prop}[Decidable c]{a b:Except Int IrSt}(ha:MLen y a)(hb:MLen y b):MLen y (if c then a else b):=by
 by_cases h:c
 ·rw[if_pos h];exact ha
 ·rw[if_neg h];exact hb
theorem step_mlen0(N:List ByteArray)(inp:List Int)(i:Ins)(y:IrSt):MLen y (step N inp i y):=by
 unfold step
 repeat' (refine mlen_ite ?_ ?_)
 all_goals (first | exact True.intro | exact (rfl:y.mem.length=y.mem.length) | exact (List.length_set:(y.mem.set _ _).length=_))
theorem step_mlen{N:List ByteArray}{inp:List Int}{i:Ins}{y y':IrSt}(h:step N inp i y = .ok y'):y'.mem.length=y.mem.length:=by
 have h1:=step_mlen0 N inp i y
 rw[h] at h1
 exact h1
theorem go_mlen{B:List Blk}{N:List ByteArray}{inp:List Int}:∀ (n a i:Nat) (y:IrSt),(go B N inp n a i y).2.2.mem.length=y.mem.length:=by
 intro n
 induction n with
 | zero=>intro a i y;rfl
 | succ n ih =>
  intro a i y
  unfold go
  split
  ·rfl
  ·split
   ·split
    ·rfl
    ·rename_i s' hs
     exact (ih _ _ s').trans (step_mlen hs)
   ·split
    ·split <;> rfl
    ·exact ih _ _ y
theorem go_end{B:List Blk}{N:List ByteArray}{inp:List Int}{m a i:Nat}{y:IrSt}{b:Blk}(hb:B[a]? = some b)(hc:b.code[i]? = none)(hk:b.kind=3)(hl:y.locked=false):(go B N inp (m+1) a i y).2=(0,y):=by
 unfold go
 simp only[hb,hc]
 rw[if_pos hk,if_neg (by rw[hl];decide)]
theorem varsM_at{l:List ByteArray}{s:ByteArray}{r:Nat}:∀ j,j≤l.length→varsM l j s=some r→r<j∧l.getD r ⟨#[]⟩=s:=by
 intro j
 induction j with
 | zero=>intro _ h;cases h
 | succ j ih =>
  intro hj h
  unfold varsM at h
  by_cases e:s=l.getD j ⟨#[]⟩
  ·rw[e,upd_same] at h
   cases h
   exact⟨by omega,e.symm⟩
  ·rw[upd_other _ _ e] at h
   obtain⟨h1,h2⟩:=ih (by omega) h
   exact⟨by omega,h2⟩
theorem lenA_at{s:ByteArray}{a:Arr}:∀ (l:List Arr),(l.map (·.name)).Nodup→a∈l→lenA l a.name=a.len:=by
 have key:∀ n,∀ (l:List Arr),l.length=n→(l.map (·.name)).Nodup→a∈l→lenA l a.name=a.len:=by
  intro n
  induction n with
  | zero=>intro l hl _ h;rw[List.length_eq_zero_iff.1 hl] at h;cases h
  | succ n ih =>
   intro l hl hn h
   obtain⟨l',b,rfl⟩:∃ l' a,l=l'++[a]:=⟨l.dropLast,l.getLast (by intro e;rw[e] at hl;cases hl),(List.dropLast_concat_getLast _).symm⟩
   rw[lenA_snoc]
   show (if a.name=b.name then b.len else lenA l' a.name)=a.len
   rw[List.map_append,List.nodup_append] at hn
   rcases List.mem_append.1 h with h|h
   ·rw[if_neg (hn.2.2 a.name (List.mem_map_of_mem h) b.name (by simp))]
    exact ih l' (by simpa using hl) hn.1 h
   ·obtain rfl:=List.mem_singleton.1 h
    rw[if_pos rfl]
 exact fun l hn h=>key l.length l rfl hn h
theorem pos_nodup{N:List ByteArray}{nm:ByteArray}{k:Nat}(hn:N.Nodup)(h:N[k]? = some nm):pos N nm=k:=by
 have hm:nm∈N:=List.mem_of_getElem? h
 have h1:=names_at hm
 obtain⟨k1,e1⟩:=List.getElem?_eq_some_iff.1 h
 obtain⟨k2,e2⟩:=List.getElem?_eq_some_iff.1 h1
 exact (List.getElem_inj hn).1 (e2.trans e1.symm)
theorem match_of{D:List Arr}:∀ {L:List (List Int)},matchP D L=true→matchOk (D.map arrP) L=true:=by
 induction D with
 | nil=>intro L h;cases L with
  | nil=>rfl
  | cons _ _=>cases h
 | cons x D ih =>
  intro L h
  cases L with
  | nil=>cases h
  | cons r L =>
   have h:((x.len == (r.length:Int)) && matchP D L)=true:=h
   rw[Bool.and_eq_true] at h
   show (((arrP x).2 == (r.length:Int)) && matchOk (D.map arrP) L)=true
   rw[Bool.and_eq_true]
   exact⟨h.1,ih h.2⟩
def SameRun(p:Prg)(i:Nat)(r:SR)(o:Oc):Prop:=
 o.err=r.2∧o.read=r.1.rd∧o.out=r.1.out∧o.arrays=getA r.1.A (p.tasks.getD i Tsk.none).arrays∧o.objects=getA r.1.A p.shared
theorem run_same {p : Prg} {i : Nat} {M : Mem} {inp : List Int} {F : Int} {fuel : Nat} (hok : okP p = true) (hi : i < p.tasks.length) (hft : taskF (p.shared.map (·.name)) (p.tasks.getD i Tsk.none) = []) (hfit : fitsP p M = true)
    (h13 : ((p.tasks.getD i Tsk.none).body.ex F inp (jobS p i M)).2 ≠ 13) (hfu : 20 * ((p.tasks.getD i Tsk.none).body.size + 1) * (((p.tasks.getD i Tsk.none).body.ex F inp (jobS p i M)).1.st + 1) ≤ fuel) :
    SameRun p i ((p.tasks.getD i Tsk.none).body.ex F inp (jobS p i M)) (runOf (lowFn p.shared (p.tasks.getD i Tsk.none)) (p.shared.map arrP) (M.arrays.getD i []) M.shared inp (fuel : Nat)) := by
  have hfp := fit_of hfit
  have hto := (prgOk_le hfp.ok).2.2 i hi
  obtain ⟨napart, nvars, nva⟩ := names_apart hok hi
  obtain ⟨row, hrow⟩ : ∃ r, M.arrays[i]? = some r := ⟨_, List.getElem?_eq_getElem (by rw [hfp.len]; exact hi)⟩
  have hrow2 : M.arrays.getD i [] = row := by rw [List.getD_eq_getElem?_getD, hrow]; rfl
  obtain ⟨hmatch, _, _⟩ := hfp.task i row hrow
  have hjS : jobS p i M = ⟨varsV (p.tasks.getD i Tsk.none).vars, fP (named p.shared M.shared ++ named (p.tasks.getD i Tsk.none).arrays row), [], 0, 0⟩ := by unfold jobS; rw [hrow2]
  obtain ⟨t, ht⟩ : ∃ t, p.tasks.getD i Tsk.none = t := ⟨_, rfl⟩
  unfold SameRun
  rw [ht] at hto napart nvars hmatch hjS hft h13 hfu ⊢
  rw [hrow2]
  obtain ⟨x0, hx0⟩ : ∃ x, jobS p i M = x := ⟨_, rfl⟩
  rw [hx0] at hjS h13 hfu ⊢
  have hb := tskOk_body hto
  have hfn := lowFn_ok hok hto hft
  obtain ⟨hl1, hm1⟩ := matchP_parts hmatch
  obtain ⟨hl2, hm2⟩ := matchP_parts hfp.shared
  have hff : runFits (lowFn p.shared t) (p.shared.map arrP) row M.shared = true := by
    unfold runFits
    rw [hfn, Bool.true_and, Bool.and_eq_true]
    exact ⟨match_of hmatch, match_of hfp.shared⟩
  unfold runOf
  rw [hff]
  show (runGo _ _ _ _ _ _).2.1 = _ ∧ (runGo _ _ _ _ _ _).2.2.read = _ ∧ (runGo _ _ _ _ _ _).2.2.out = _ ∧ (runGo _ _ _ _ _ _).2.2.mem.take row.length = _ ∧ (runGo _ _ _ _ _ _).2.2.mem.drop row.length = _
  obtain ⟨N, hN⟩ : ∃ N, fnNames (lowFn p.shared t) (p.shared.map arrP) = N := ⟨_, rfl⟩
  have hNe : N = t.arrays.map (·.name) ++ p.shared.map (·.name) := by
    rw [← hN]
    unfold fnNames
    rw [map_arrP]
    show (t.arrays.map arrP).map (·.1) ++ _ = _
    rw [map_arrP]
  have hNd : N.Nodup := by
    rw [hNe]
    rw [List.nodup_append] at napart ⊢
    exact ⟨napart.2.1, napart.1, fun a ha b hb e => napart.2.2 b hb a ha e.symm⟩
  obtain ⟨s, hs⟩ : ∃ s, lowS0 p.shared t = s := ⟨_, rfl⟩
  have hB : (lowFn p.shared t).blocks = s.done ++ [⟨s.code, 3, 0, 0, 0⟩] := by rw [← hs]; rfl
  have hR : (lowFn p.shared t).regs = ((s.regs : Nat) : Int) := by rw [← hs]; rfl
  obtain ⟨D, hD⟩ : ∃ D : Nms, (⟨p.shared.map (·.name), t.vars, t.arrays.map (·.name)⟩ : Nms) = D := ⟨_, rfl⟩
  have hf : faultsT D t.body [] false [] [] = [] := by
    unfold taskF at hft
    rw [List.append_eq_nil_iff] at hft
    rw [← hD]
    exact hft.2
  have hvis : ∀ nm, (memB D.arrays nm || memB D.shared nm) = true → nm ∈ N := fun nm h => by
    rw [← hD] at h
    rw [hNe, List.mem_append]
    rw [Bool.or_eq_true] at h
    exact h.imp (fun h => memB_iff.1 h) (fun h => memB_iff.1 h)
  have hnd : (((p.shared ++ t.arrays)).map (·.name)).Nodup := by rw [List.map_append]; exact napart
  have hnm : ((named p.shared M.shared ++ named t.arrays row).map (·.1)).Nodup := by
    rw [List.map_append, named_names hl2, named_names hl1]
    exact napart
  have hmem0 : MemR (envOf p.shared t.arrays) D N x0.A (row ++ M.shared) := by
    intro nm hn
    have hin := hvis nm hn
    rw [hjS]
    show fP (named p.shared M.shared ++ named t.arrays row) nm = _ ∧ _
    have hp0 := names_at hin
    obtain ⟨k, hk⟩ : ∃ k, pos N nm = k := ⟨_, rfl⟩
    rw [hk] at hp0 ⊢
    have hkl := (List.getElem?_eq_some_iff.1 hp0).1
    have hNl : N.length = t.arrays.length + p.shared.length := by rw [hNe]; simp
    have hklen : k < (row ++ M.shared).length := by rw [List.length_append, ← hl1, ← hl2]; omega
    rw [hNe] at hp0
    by_cases h1 : k < t.arrays.length
    · rw [List.getElem?_append_left (by rw [List.length_map]; exact h1), List.getElem?_map, List.getElem?_eq_getElem h1] at hp0
      have hp0 : t.arrays[k].name = nm := Option.some.inj hp0
      obtain ⟨l, hlk⟩ : ∃ l, row[k]? = some l := ⟨_, List.getElem?_eq_getElem (by omega)⟩
      have e1 : (row ++ M.shared).getD k [] = l := by rw [List.getD_eq_getElem?_getD, List.getElem?_append_left (by omega), hlk]; rfl
      rw [e1]
      obtain ⟨a, ha, hal⟩ := hm1 k l hlk
      rw [List.getElem?_eq_getElem h1] at ha
      have ha : t.arrays[k] = a := Option.some.inj ha
      refine ⟨fP_nodup hnm (k := p.shared.length + k) ?_, ?_, hklen⟩
      · rw [List.getElem?_append_right (by unfold named; rw [List.length_zip, List.length_map]; omega)]
        have e2 : p.shared.length + k - (named p.shared M.shared).length = k := by unfold named; rw [List.length_zip, List.length_map]; omega
        rw [e2]
        unfold named
        rw [List.getElem?_zip_eq_some]
        exact ⟨by rw [List.getElem?_map, List.getElem?_eq_getElem h1]; exact congrArg some hp0, hlk⟩
      · show ((l.length : Nat) : Int) = lenA (p.shared ++ t.arrays) nm
        rw [← hp0, lenA_at (s := nm) (a := t.arrays[k]) _ hnd (List.mem_append_right _ (List.getElem_mem h1)), ha]
        exact hal.symm
    · rw [List.getElem?_append_right (by rw [List.length_map]; omega), List.length_map, List.getElem?_map] at hp0
      have h2 : k - t.arrays.length < p.shared.length := by omega
      rw [List.getElem?_eq_getElem h2] at hp0
      have hp0 : p.shared[k - t.arrays.length].name = nm := Option.some.inj hp0
      obtain ⟨l, hlk⟩ : ∃ l, M.shared[k - t.arrays.length]? = some l := ⟨_, List.getElem?_eq_getElem (by omega)⟩
      have e1 : (row ++ M.shared).getD k [] = l := by rw [List.getD_eq_getElem?_getD, List.getElem?_append_right (by omega), ← hl1, hlk]; rfl
      rw [e1]
      obtain ⟨a, ha, hal⟩ := hm2 _ l hlk
      rw [List.getElem?_eq_getElem h2] at ha
      have ha : p.shared[k - t.arrays.length] = a := Option.some.inj ha
      refine ⟨fP_nodup hnm (k := k - t.arrays.length) ?_, ?_, hklen⟩
      · rw [List.getElem?_append_left (by unfold named; rw [List.length_zip, List.length_map]; omega)]
        unfold named
        rw [List.getElem?_zip_eq_some]
        exact ⟨by rw [List.getElem?_map, List.getElem?_eq_getElem h2]; exact congrArg some hp0, hlk⟩
      · show ((l.length : Nat) : Int) = lenA (p.shared ++ t.arrays) nm
        rw [← hp0, lenA_at (s := nm) (a := p.shared[k - t.arrays.length]) _ hnd (List.mem_append_left _ (List.getElem_mem h2)), ha]
        exact hal.symm
  obtain ⟨y0, hy0⟩ : ∃ y, IrSt.init (lowFn p.shared t).regs.toNat (row ++ M.shared) = y := ⟨_, rfl⟩
  have hregs : y0.regs = List.replicate s.regs 0 := by rw [← hy0, hR]; rfl
  have hrel : RelS (envOf p.shared t.arrays) D N [] [] (varsM t.vars t.vars.length) t.vars.length x0 y0 := by
    refine ⟨fun nm hn => ?_, fun a b r ha hb h1 h2 => ?_, ⟨by rw [← hy0]; exact hmem0, by rw [← hy0, hjS]; rfl, by rw [← hy0, hjS]; rfl⟩, ⟨fun _ => by rw [← hy0]; rfl, fun nm h => (by cases h)⟩, by rw [← hy0]; rfl⟩
    · have hn : nm ∈ t.vars := by
        rw [← hD] at hn
        have hn : (memB t.vars nm || false) = true := hn
        rw [Bool.or_false] at hn
        exact memB_iff.1 hn
      obtain ⟨r, h1, h2⟩ := varsM_mem (l := t.vars) t.vars.length (Nat.le_refl _) (by rw [List.take_length]; exact hn)
      refine ⟨r, h1, h2, ?_⟩
      have e0 : y0.regs.getD r 0 = 0 := by rw [hregs, List.getD_eq_getElem?_getD, List.getElem?_replicate]; split <;> rfl
      rw [e0, hjS]
      show fP (t.vars.map fun v => (v, (0 : Int))) nm = some 0
      obtain ⟨k, hk, e⟩ := List.mem_iff_getElem.1 hn
      refine fP_nodup (k := k) (by have e9 : (t.vars.map fun v => (v, (0 : Int))).map (·.1) = t.vars := by simp [Function.comp_def]
                                   rw [e9]; exact nvars) ?_
      rw [List.getElem?_map, List.getElem?_eq_getElem hk, e]
      rfl
    · obtain ⟨_, e1⟩ := varsM_at _ (Nat.le_refl _) h1
      obtain ⟨_, e2⟩ := varsM_at _ (Nat.le_refl _) h2
      exact e1.symm.trans e2
  have hE : EnvOk (envOf p.shared t.arrays) (nsOf p.shared t) D := by
    rw [← hD]
    exact env_ok hok hto (by rw [← ht] at hft ⊢; exact hft)
  have hin : InL (lowFn p.shared t).blocks 0 s := by
    rw [hB]
    refine ⟨fun j b hj => ?_, ⟨s.code, 3, 0, 0, 0⟩, ?_, List.prefix_refl _⟩
    · rw [Nat.zero_add, List.getElem?_append_left (List.getElem?_eq_some_iff.1 hj).1]
      exact hj
    · rw [Nat.zero_add, List.getElem?_append_right (Nat.le_refl _), Nat.sub_self]
      rfl
  have hlow : t.body.low (envOf p.shared t.arrays) 0 0 [] t.vars.length (varsM t.vars t.vars.length) = s := hs
  obtain ⟨_, hnest⟩ := tskOk_more hto
  have hsim := simT (B := (lowFn p.shared t).blocks) (N := N) (inp := inp) (C := 2 * t.body.size + 12) hE hvis F t.body (.inl hb) [] false [] [] hf 0 (by omega) (Nat.le_refl _) 0 [] t.vars.length (varsM t.vars t.vars.length) (by rw [hlow]; exact hin) x0 y0 hrel (by rw [hlow, hregs, List.length_replicate]; exact Nat.le_refl _) h13
  rw [hlow] at hsim
  obtain ⟨r, hr⟩ : ∃ r, t.body.ex F inp x0 = r := ⟨_, rfl⟩
  rw [hr] at hsim hfu h13 ⊢
  have hst0 : x0.st = 0 := by rw [hjS]
  rw [hst0, Nat.sub_zero, Nat.add_zero] at hsim
  have hcost : (2 * t.body.size + 12) * r.1.st + 1 ≤ fuel := by
    have h1 : (2 * t.body.size + 12) * r.1.st ≤ 20 * (t.body.size + 1) * r.1.st := Nat.mul_le_mul_right _ (by omega)
    have h2 : 20 * (t.body.size + 1) * (r.1.st + 1) = 20 * (t.body.size + 1) * r.1.st + 20 * (t.body.size + 1) := by rw [Nat.mul_add, Nat.mul_one]
    omega
  have hgo : ∃ y', (go (lowFn p.shared t).blocks N inp fuel 0 0 y0).2 = (r.2, y') ∧ EndR (envOf p.shared t.arrays) D N r.1 y' := by
    rcases hsim.2 with ⟨e, n, y', p1, p2, p3⟩ | ⟨e, n, y', p1, p2, p3⟩
    · obtain ⟨m, hm⟩ : ∃ m, fuel = n + (m + 1) := ⟨fuel - n - 1, by omega⟩
      refine ⟨y', ?_, p3.1.fin⟩
      have p1' : Reach (lowFn p.shared t).blocks N inp n 0 0 y0 (0 + s.done.length) s.code.length y' := p1
      rw [hm, p1' (m + 1)]
      show (go (lowFn p.shared t).blocks N inp (m + 1) (0 + s.done.length) s.code.length y').2 = _
      rw [go_end (b := ⟨s.code, 3, 0, 0, 0⟩) (by rw [hB, Nat.zero_add, List.getElem?_append_right (Nat.le_refl _), Nat.sub_self]; rfl) (List.getElem?_eq_none (Nat.le_refl _)) rfl (p3.1.lock.1 rfl), e]
    · obtain ⟨m, hm⟩ : ∃ m, fuel = n + 1 + m := ⟨fuel - n - 1, by omega⟩
      exact ⟨y', by rw [hm]; exact p1 m, p3⟩
  obtain ⟨y', hg, hend⟩ := hgo
  have hrg : runGo (lowFn p.shared t) (p.shared.map arrP) row M.shared inp ((fuel : Nat) : Int) = go (lowFn p.shared t).blocks N inp fuel 0 0 y0 := by
    unfold runGo
    rw [hN, hy0, Int.toNat_natCast]
  have hml : y'.mem.length = row.length + M.shared.length := by
    have h1 := go_mlen (B := (lowFn p.shared t).blocks) (N := N) (inp := inp) fuel 0 0 y0
    rw [hg] at h1
    rw [h1, ← hy0]
    exact List.length_append
  rw [hrg, hg]
  show r.2 = r.2 ∧ y'.read = r.1.rd ∧ y'.out = r.1.out ∧ y'.mem.take row.length = getA r.1.A t.arrays ∧ y'.mem.drop row.length = getA r.1.A p.shared
  refine ⟨rfl, hend.rd, hend.out, ?_, ?_⟩
  · refine List.ext_getElem? (fun k => ?_)
    unfold getA
    by_cases hk : k < t.arrays.length
    · have hNk : N[k]? = some t.arrays[k].name := by rw [hNe, List.getElem?_append_left (by rw [List.length_map]; exact hk), List.getElem?_map, List.getElem?_eq_getElem hk]; rfl
      obtain ⟨m1, _, _⟩ := hend.mem t.arrays[k].name (by rw [← hD]; rw [memB_iff.2 (List.mem_map_of_mem (List.getElem_mem hk))]; rfl)
      rw [pos_nodup hNd hNk] at m1
      rw [List.getElem?_take, if_pos (by omega), List.getElem?_map, List.getElem?_eq_getElem hk]
      show _ = some ((r.1.A t.arrays[k].name).getD [])
      rw [m1, List.getElem?_eq_getElem (by omega)]
      rw [List.getD_eq_getElem?_getD, List.getElem?_eq_getElem (by omega)]
      rfl
    · rw [List.getElem?_eq_none (by rw [List.length_take]; omega), List.getElem?_eq_none (by rw [List.length_map]; omega)]
  · refine List.ext_getElem? (fun k => ?_)
    unfold getA
    by_cases hk : k < p.shared.length
    · have hNk : N[row.length + k]? = some p.shared[k].name := by rw [hNe, List.getElem?_append_right (by rw [List.length_map]; omega), List.length_map, ← hl1, Nat.add_sub_cancel_left, List.getElem?_map, List.getElem?_eq_getElem hk]; rfl
      obtain ⟨m1, _, _⟩ := hend.mem p.shared[k].name (by rw [← hD]; rw [memB_iff.2 (List.mem_map_of_mem (f := (·.name)) (List.getElem_mem hk)), Bool.or_true])
      rw [pos_nodup hNd hNk] at m1
      rw [List.getElem?_drop, List.getElem?_map, List.getElem?_eq_getElem hk]
      show _ = some ((r.1.A p.shared[k].name).getD [])
      rw [m1, List.getElem?_eq_getElem (by omega)]
      rw [List.getD_eq_getElem?_getD, List.getElem?_eq_getElem (by omega)]
      rfl
    · rw [List.getElem?_eq_none (by rw [List.length_drop]; omega), List.getElem?_eq_none (by rw [List.length_map]; omega)]
