/- Part. -/
import Derived.Test.YtkpdngfkdmllkaaGreatDoorMg3
import Derived.Deep.RegionHeld
import Derived.OrdersHeld
import Derived.Deep.Cut
import Derived.Deep.CutRange
import Derived.Deep.DeepCutAuto
import Derived.Deep.CutBlock
namespace Go.Proofs.YtkpdngfkdmllkaaGreatDoor
set_option linter.unusedVariables false
set_option linter.unusedSimpArgs false
open Go.RowKit
set_option maxRecDepth 100000
set_option maxHeartbeats 16000000
def OnlyRun(R:Act→World→Prop):Exit→Act→World→Prop
 | .normal,a,w=>R a w
 | _,_,_=>False
theorem cut_run{P:Program}{cd:Code}{Q:Exit→Act→World→Prop}{a:Act}{W:World}(R:Act→Act→World→Prop)
 (h:cd.wp P (OnlyRun (R a)) a W) (hq:∀ a' w',R a a' w'→Q .normal a' w'):cd.wp P Q a W:=
 wp_mono h fun e a' w' h'=>by cases e <;> first | exact hq a' w' h' | exact (h':False).elim
structure VCtx(w:World)(db fb ib vb sb cb ab:Nat)(ix:Int)(d:Nms):Prop where
 dbx:w.heap[db]? = some (.cells #[.map (some sb),.map (some cb),.map (some ab)] 131)
 ibx:w.heap[ib]? = some (.cells #[.int .i64 ix] 3)
 vbx:w.heap[vb]? = some (.cells #[.func (.func 64) #[] #[.pointer (some ⟨db,0,none⟩),.pointer (some ⟨fb,0,none⟩),.pointer (some ⟨ib,0,none⟩),.pointer (some ⟨vb,0,none⟩)]] 133)
 nms:NmsAt w sb cb ab d
theorem VCtx.fr{N:Nat}{w w':World}{db fb ib vb sb cb ab:Nat}{ix:Int}{d:Nms}(h:VCtx w db fb ib vb sb cb ab ix d)(hf:FrT N w w'):VCtx w' db fb ib vb sb cb ab ix d:=
 ⟨hf.cells h.dbx (by decide) (by decide),hf.cells h.ibx (by decide) (by decide),hf.cells h.vbx (by decide) (by decide),hf.nms h.nms⟩
def RV3(P:World→Prop)(a a':Act)(w':World):Prop:=
 ∃ y24 y25 y26 y27 y28 y29 y30 y31 y32 y33,a' = { a with tmps:=((((((((((a.tmps.setIfInBounds 24 y24).setIfInBounds 25 y25).setIfInBounds 26 y26).setIfInBounds 27 y27).setIfInBounds 28 y28).setIfInBounds 29 y29).setIfInBounds 30 y30).setIfInBounds 31 y31).setIfInBounds 32 y32).setIfInBounds 33 y33) }∧P w'
theorem one_newF(w:World)(f:FltP):∀ (j:Nat) (x:Value),f.cells[j]? = some x→(w.alloc (.cells #[.int .i64 f.task,f.pv,.int .i64 f.flt.err,.string f.flt.name] 116)).cell? ((⟨w.heap.size,0,none⟩:Addr).add j)=some x:=by
 intro j x hx
 match j,hx with
 | 0,hx=>cases hx;exact World.cell?_alloc_new _ _ _ 0
 | 1,hx=>cases hx;exact World.cell?_alloc_new _ _ _ 1
 | 2,hx=>cases hx;exact World.cell?_alloc_new _ _ _ 2
 | 3,hx=>cases hx;exact World.cell?_alloc_new _ _ _ 3
theorem FltP.one(p:FltP)(h:p.pv.oneCell'=true):∀ u∈p.cells,u.oneCell'=true:=by
 intro u hu
 simp only[FltP.cells,List.mem_cons,List.not_mem_nil,or_false] at hu
 rcases hu with rfl|rfl|rfl|rfl
 ·rfl
 ·exact h
 ·rfl
 ·rfl
def VEnd(N:Nat)(fb:Nat)(ix:Int)(L:List FltP)(F:List Flt)(sz:Nat)(w:World)(e:Ending)(w':World):Prop:=
 e = .returned (.tuple #[])∧FrT N w w'∧∃ v' L',FB N w' fb v' (L++L')∧L'.map (·.flt)=F∧(∀ f∈L',f.task=ix)∧L'.length≤sz
theorem visit15_any(N db fb ib vb sb cb ab:Nat)(ix:Int)(d:Nms):∀ (t:Tree) (w:World) (a:Option Addr) (c:Nat) (path:List Int) (pv:Value) (place:Bool) (loops locks:List ByteArray) (lb kb nl nk:Nat) (v:Value) (L:List FltP),
 N≤w.heap.size→VCtx w db fb ib vb sb cb ab ix d→FB N w fb v L→RepIn (fun k=>k<N) w t a→PathV N w pv path→SetS w lb nl loops→SetS w kb nk locks→nl+t.size≤1000000→nk+t.size≤1000000→path.length+t.size≤1000000→L.length+t.size≤1000000 →
 Calls Tryz.prog 64 #[t.val a c,pv,.bool place,.agg #[.map (some lb),.map (some kb)],.pointer (some ⟨db,0,none⟩),.pointer (some ⟨fb,0,none⟩),.pointer (some ⟨ib,0,none⟩),.pointer (some ⟨vb,0,none⟩)] w (VEnd N fb ix L (faultsT d t path place loops locks) t.size w):=by
 intro t
 induction t using Tree.ind with
 | h t ih =>
 intro w a c path pv place loops locks lb kb nl nk v L hN hctx hfb hrep hpath hloops hlocks hnl hnk hpl hLl
 obtain⟨ti,hi,hz0,hz1,hz2⟩:=info_parts FltP.info
 obtain⟨ii,ji,jz0,jz1,jz2⟩:=info_parts Tryz.infoInt
 have HIH:=ξ ih
 have HN:=ξ hN
 have HREP:=ξ hrep
 have HNM:Hid (t.name.size≤maxLen):=hrep.fits.name
 have hfit:=hrep.fits.len
 have HNL:=ξ hnl
 have HNK:=ξ hnk
 have HPL:=ξ hpl
 have HLL:=ξ hLl
 have HSP:Hid (1≤t.size):=t.size_pos
 obtain⟨pva,pvc,rfl⟩:=own_val hpath
 obtain⟨va,vc,rfl⟩:=own_val hfb.row.ro
 obtain⟨W,hW⟩:∃ W:World,(w.alloc (.cells #[.int .u8 t.kind,.int .i64 t.num,.string t.name,.slice a t.len c] 47)).alloc (.cells #[.map (some lb),.map (some kb)] 135)=W:=⟨_,rfl⟩
 have hBW:Below w.heap.size w W:=by rw[←hW];exact ((Below.refl _ _).alloc (Nat.le_refl _) _).alloc (by simp) _
 have hFW:FrT N w W:=FrT.of hBW hN
 have HFW:=ξ hFW
 have hX0:W.heap[w.heap.size]? = some (.cells #[.int .u8 t.kind,.int .i64 t.num,.string t.name,.slice a t.len c] 47):=by rw[←hW];exact mem_old1 w _ _
 have hX1:W.heap[w.heap.size+1]? = some (.cells #[.map (some lb),.map (some kb)] 135):=by rw[←hW];exact mem_new1 w _ _
 have K:Hid (∀ w',FrT N W w'→VCtx w' db fb ib vb sb cb ab ix d∧RepIn (fun k=>k<N) w' t a∧PathV N w' (.slice pva path.length pvc) path∧SetS w' lb nl loops∧SetS w' kb nk locks ∧
  w'.heap[w.heap.size]? = some (.cells #[.int .u8 t.kind,.int .i64 t.num,.string t.name,.slice a t.len c] 47)∧w'.heap[w.heap.size+1]? = some (.cells #[.map (some lb),.map (some kb)] 135)):=fun w' h =>
  ⟨(hctx.fr hFW).fr h,h.rep (hFW.rep hrep),h.path (hFW.path hpath),h.set (hFW.set hloops),h.set (hFW.set hlocks),h.cells hX0 (by decide) (by decide),h.cells hX1 (by decide) (by decide)⟩
 have HFB:=ξ (hfb.keep hBW)
 have HNW:Hid (N≤W.heap.size):=Nat.le_trans hN hBW.size
 obtain⟨hc0,_,_,hl0,hk0,hx0,hx1⟩:=K.out W FrT.refl
 have d0:=mem_cell hc0.dbx 0
 have d1:=mem_cell hc0.dbx 1
 have d2:=mem_cell hc0.dbx 2
 have n0:=mem_cell hx0 0
 have n1:=mem_cell hx0 1
 have n2:=mem_cell hx0 2
 have n3:=mem_cell hx0 3
 have s0:=mem_cell hx1 0
 have s1:=mem_cell hx1 1
 simp only[List.getElem?_toArray,List.getElem?_cons_zero,List.getElem?_cons_succ] at d0 d1 d2 n0 n1 n2 n3 s0 s1
 have QF:Hid (Calls Tryz.prog 65 #[.agg #[.map (some sb),.map (some cb),.map (some ab)],.agg #[.int .u8 t.kind,.int .i64 t.num,.string t.name,.slice a t.len c],.bool place,.agg #[.map (some lb),.map (some kb)]] W fun e w'=>e = .returned (.int .i64 (faultN d t.kind t.name place loops locks))∧Below W.heap.size W w'):=
  fault_any d t place loops locks sb cb ab lb kb nl nk a c W hc0.nms hl0 hk0 HNM.out
 clear ih hN hrep hctx hfb hpath hloops hlocks hnl hnk hpl hLl hBW hFW hX0 hX1 hc0 hl0 hk0 hx0 hx1
 go_enter Tryz.func64,Tryz.ntmps64
 go_wp2_with fail
 clear hW d0 d1 d2 n0 n1 n2 n3 s0 s1
 refine QF.out.mono ?_
 rintro e w1 ⟨rfl,hB1⟩
 have HF1:Hid (FrT N W w1):=FrT.of hB1 HNW.out
 have HFB1:=ξ (HFB.out.keep hB1)
 have HN1:Hid (N≤w1.heap.size):=Nat.le_trans HNW.out hB1.size
 clear hB1 QF HFB
 obtain⟨er,her⟩:∃ er,faultN d t.kind t.name place loops locks=er:=⟨_,rfl⟩
 have HER:=ξ her
 rw[her]
 clear her
 go_upto_if 23 with fail
 go_cut [] (fun w'=>∃ v1 L1,FB N w' fb v1 (L++L1)∧L1.map (·.flt)=ownF d t path place loops locks∧(∀ f∈L1,f.task=ix)∧L1.length≤1∧FrT N w1 w')
 case first =>
  by_cases h0:er=0
  ·subst h0
   have HEND:Hid (∃ v1 L1,FB N w1 fb v1 (L++L1)∧L1.map (·.flt)=ownF d t path place loops locks∧(∀ f∈L1,f.task=ix)∧L1.length≤1∧FrT N w1 w1):=⟨_,[],by rw[List.append_nil];exact HFB1.out,by unfold ownF;rw[HER.out];rfl,by simp,Nat.zero_le _,FrT.refl⟩
   go_wp2_with fail
   go_meet
   exact HEND.out
  ·have h0b:(er != 0)=true:=by simpa using h0
   have HE0:=ξ h0
   clear h0
   obtain⟨hc3,_,_,_,_,hx3,_⟩:=K.out w1 HF1.out
   have HCI:Hid (∀ w',FrT N w1 w'→w'.cell? ⟨ib,0,none⟩=some (.int .i64 ix)∧w'.cell? ⟨w.heap.size,2,none⟩=some (.string t.name)∧PathV N w' (.slice pva path.length pvc) path):=fun w' h=>by
    obtain⟨hc,_,hp,_,_,hx,_⟩:=K.out w' (HF1.out.trans h)
    exact⟨mem_cell hc.ibx 0,mem_cell hx 2,hp⟩
   clear hc3 hx3
   go_wp2_with fail
   rw[h0b]
   clear h0b
   refine cut_run (RV3 (fun w'=>∃ v3 f1,FB N w' fb v3 (L++[f1])∧f1.flt=⟨path,er,t.name⟩∧f1.task=ix∧FrT N w1 w')) ?_ ?_
   ·refine wp_region_held_drew (S:=fun w'=>FrT N w1 w') (by kernel_rfl) (FrT.of ((Below.refl _ _).drew) HN1.out) (fun hHeld=>?_)
    have HBD:Hid (Below w1.heap.size w1 w1.drew):=(Below.refl _ _).drew
    generalize hwd:w1.drew=D at hHeld HBD⊢
    clear hwd
    have HND:Hid (N≤D.heap.size):=Nat.le_trans HN1.out HBD.out.size
    refine hT 1 (.int .i64 ix) rfl (hy:=?_) (h:=?_)
    ·intro w' hSw;obtain⟨g0,_⟩:=HCI.out _ hSw;go_simp
    (try simp only[Act.put,pZ])
    refine hT 2 (.slice pva path.length pvc) rfl (hy:=?_) (h:=?_)
    ·intro w' hSw;go_simp
    (try simp only[Act.put,pZ])
    refine hT 4 (.int .i64 er) rfl (hy:=?_) (h:=?_)
    ·intro w' hSw;go_simp
    (try simp only[Act.put,pZ])
    refine hT 5 (.pointer (some ⟨w.heap.size,2,none⟩)) rfl (hy:=?_) (h:=?_)
    ·intro w' hSw;go_simp
    (try simp only[Act.put,pZ])
    refine hT 6 (.string t.name) rfl (hy:=?_) (h:=?_)
    ·intro w' hSw;obtain⟨_,g0,_⟩:=HCI.out _ hSw;go_simp
    (try simp only[Act.put,pZ])
    refine wpAnyH_ready (rs:=[0,3]) (by kernel_rfl) (by simp) (AllReadyH.cons rfl (fun K hK=>?_) (AllReadyH.cons rfl (fun K hK=>?_) AllReadyH.nil))
    ·skip
     have r0:D.cell? ⟨fb,0,none⟩=some (.slice va L.length vc):=mem_cell (HFB1.out.keep HBD.out).box 0
     go_simp
     clear r0
     refine hK.out _ _ (hHeld) (fun hHeld=>?_)
     clear hK K
     rename_i hOld
     clear hOld
     (try simp only[Act.put,pZ])
     refine hR 3 rfl (fun K hK=>?_)
     go_simp
     refine (iclone_any N path D (.slice pva path.length pvc) (HCI.out _ (FrT.of HBD.out HN1.out)).2.2 (by have:=HPL.out;have:=HSP.out;omega)).mono ?_
     rintro e D1 ⟨vp,rfl,hp1,hD1⟩
     have HBD1:Hid (Below w1.heap.size w1 D1):=mem_then HBD.out hD1
     obtain⟨p2a,p2c,rfl⟩:=own_val hp1
     have HP1:Hid (PathV N D1 (.slice p2a path.length p2c) path):=own_down hp1 HND.out
     clear hp1 hD1
     refine hK.out _ _ (FrT.of HBD1.out HN1.out) (fun hHeld=>?_)
     clear hK K
     rename_i hOld
     clear hOld
     (try simp only[Act.put,pZ])
     refine hT 7 (.agg #[.int .i64 ix,.slice p2a path.length p2c,.int .i64 er,.string t.name]) rfl (hy:=?_) (h:=?_)
     ·intro w' hSw;go_simp
     (try simp only[Act.put,pZ])
     obtain⟨D2,hD2⟩:∃ D2:World,D1.alloc (.cells #[.int .i64 ix,.slice p2a path.length p2c,.int .i64 er,.string t.name] 116)=D2:=⟨_,rfl⟩
     have HBD2:Hid (Below w1.heap.size w1 D2):=by show Below _ _ _;rw[←hD2];exact mem_then HBD1.out (mem_alloc _ _)
     have HP2:Hid (PathV N D2 (.slice p2a path.length p2c) path):=by show World.ownsRow _ _ _ _ _ _ _;rw[←hD2];exact own_below HP1.out (mem_alloc _ _)
     have HLIT:Hid (∀ (k:Nat) (u:Value),(FltP.mk ix ⟨path,er,t.name⟩ (.slice p2a path.length p2c)).cells[k]? = some u→D2.cell? ((⟨D1.heap.size,0,none⟩:Addr).add k)=some u):=by
      show ∀ _ _,_
      rw[←hD2]
      exact one_newF D1 ⟨ix,⟨path,er,t.name⟩,.slice p2a path.length p2c⟩
     refine hR 8 rfl (fun K hK=>?_)
     go_simp
     clear hD2
     refine hK.out _ _ (FrT.of HBD2.out HN1.out) (fun hHeld=>?_)
     clear hK K
     rename_i hOld
     clear hOld
     (try simp only[Act.put,pZ])
     refine hR 9 rfl (fun K hK=>?_)
     refine step_append_row rfl (.tmp 24) (.tmp 32) 85 rfl N 116 ti _ 4 56 Tryz.underlying85 hi hz0 hz1 hz2 rfl (by decide) (.slice va L.length vc) L.length (L.flatMap FltP.cells) (by simp[Act.eval]) (HFB1.out.keep HBD2.out).row.ro ⟨D1.heap.size,0,none⟩ 1 1 (FltP.mk ix ⟨path,er,t.name⟩ (.slice p2a path.length p2c)).cells (by simp[Act.eval]) rfl HLIT.out (FltP.one _ rfl) (by decide) (by have:=HLL.out;unfold maxLen;omega) (by have:=HLL.out;omega) (Nat.le_trans HN1.out HBD2.out.size) ?_
     intro gb cap w2 hown2 hgrow2 _
     obtain⟨hfg,hbx⟩:=HFB1.out.grow HN1.out HBD2.out hgrow2
     have hpush:=HFB1.out.push (f:=⟨ix,⟨path,er,t.name⟩,.slice p2a path.length p2c⟩) HN1.out HBD2.out HP2.out hgrow2 hown2
     have HPUSH:=ξ hpush
     have f0:w2.frozen? ⟨fb,0,none⟩=false:=mem_free hbx 0
     have f1:w2.cell? ⟨fb,0,none⟩=some (.slice va L.length vc):=mem_cell hbx 0
     clear hown2 hgrow2 hpush hbx
     refine hK.out _ _ (hfg) (fun hHeld=>?_)
     clear hK K
     rename_i hOld
     clear hOld
     (try simp only[Act.put,pZ])
     clear hfg
     refine hR 10 rfl (fun K hK=>?_)
     go_simp
     generalize World.setCell _ _ _=wS at HPUSH⊢
     clear f0 f1
     refine hK.out _ _ (HPUSH.out.2) (fun hHeld=>?_)
     clear hK K
     rename_i hOld
     clear hOld
     (try simp only[Act.put,pZ])
     refine wpAnyH_done (by kernel_rfl) ?_ _
     exact⟨_,_,_,_,_,_,_,_,_,_,(by simp only[List.setIfInBounds_toArray,List.set_cons_zero,List.set_cons_succ];rfl),_,_,HPUSH.out.1,rfl,rfl,HPUSH.out.2⟩
    ·go_simp
     refine (iclone_any N path D (.slice pva path.length pvc) (HCI.out _ (FrT.of HBD.out HN1.out)).2.2 (by have:=HPL.out;have:=HSP.out;omega)).mono ?_
     rintro e D1 ⟨vp,rfl,hp1,hD1⟩
     have HBD1:Hid (Below w1.heap.size w1 D1):=mem_then HBD.out hD1
     obtain⟨p2a,p2c,rfl⟩:=own_val hp1
     have HP1:Hid (PathV N D1 (.slice p2a path.length p2c) path):=own_down hp1 HND.out
     clear hp1 hD1
     refine hK.out _ _ (FrT.of HBD1.out HN1.out) (fun hHeld=>?_)
     clear hK K
     rename_i hOld
     clear hOld
     (try simp only[Act.put,pZ])
     refine hT 7 (.agg #[.int .i64 ix,.slice p2a path.length p2c,.int .i64 er,.string t.name]) rfl (hy:=?_) (h:=?_)
     ·intro w' hSw;go_simp
     (try simp only[Act.put,pZ])
     refine wpAnyH_ready (rs:=[0,8]) (by kernel_rfl) (by simp) (AllReadyH.cons rfl (fun K hK=>?_) (AllReadyH.cons rfl (fun K hK=>?_) AllReadyH.nil))
     ·skip
      have r0:D1.cell? ⟨fb,0,none⟩=some (.slice va L.length vc):=mem_cell (HFB1.out.keep HBD1.out).box 0
      go_simp
      clear r0
      refine hK.out _ _ (FrT.of HBD1.out HN1.out) (fun hHeld=>?_)
      clear hK K
      rename_i hOld
      clear hOld
      (try simp only[Act.put,pZ])
      obtain⟨D2,hD2⟩:∃ D2:World,D1.alloc (.cells #[.int .i64 ix,.slice p2a path.length p2c,.int .i64 er,.string t.name] 116)=D2:=⟨_,rfl⟩
      have HBD2:Hid (Below w1.heap.size w1 D2):=by show Below _ _ _;rw[←hD2];exact mem_then HBD1.out (mem_alloc _ _)
      have HP2:Hid (PathV N D2 (.slice p2a path.length p2c) path):=by show World.ownsRow _ _ _ _ _ _ _;rw[←hD2];exact own_below HP1.out (mem_alloc _ _)
      have HLIT:Hid (∀ (k:Nat) (u:Value),(FltP.mk ix ⟨path,er,t.name⟩ (.slice p2a path.length p2c)).cells[k]? = some u→D2.cell? ((⟨D1.heap.size,0,none⟩:Addr).add k)=some u):=by
       show ∀ _ _,_
       rw[←hD2]
       exact one_newF D1 ⟨ix,⟨path,er,t.name⟩,.slice p2a path.length p2c⟩
      refine hR 8 rfl (fun K hK=>?_)
      go_simp
      clear hD2
      refine hK.out _ _ (FrT.of HBD2.out HN1.out) (fun hHeld=>?_)
      clear hK K
      rename_i hOld
      clear hOld
      (try simp only[Act.put,pZ])
      refine hR 9 rfl (fun K hK=>?_)
      refine step_append_row rfl (.tmp 24) (.tmp 32) 85 rfl N 116 ti _ 4 56 Tryz.underlying85 hi hz0 hz1 hz2 rfl (by decide) (.slice va L.length vc) L.length (L.flatMap FltP.cells) (by simp[Act.eval]) (HFB1.out.keep HBD2.out).row.ro ⟨D1.heap.size,0,none⟩ 1 1 (FltP.mk ix ⟨path,er,t.name⟩ (.slice p2a path.length p2c)).cells (by simp[Act.eval]) rfl HLIT.out (FltP.one _ rfl) (by decide) (by have:=HLL.out;unfold maxLen;omega) (by have:=HLL.out;omega) (Nat.le_trans HN1.out HBD2.out.size) ?_
      intro gb cap w2 hown2 hgrow2 _
      obtain⟨hfg,hbx⟩:=HFB1.out.grow HN1.out HBD2.out hgrow2
      have hpush:=HFB1.out.push (f:=⟨ix,⟨path,er,t.name⟩,.slice p2a path.length p2c⟩) HN1.out HBD2.out HP2.out hgrow2 hown2
      have HPUSH:=ξ hpush
      have f0:w2.frozen? ⟨fb,0,none⟩=false:=mem_free hbx 0
      have f1:w2.cell? ⟨fb,0,none⟩=some (.slice va L.length vc):=mem_cell hbx 0
      clear hown2 hgrow2 hpush hbx
      refine hK.out _ _ (hfg) (fun hHeld=>?_)
      clear hK K
      rename_i hOld
      clear hOld
      (try simp only[Act.put,pZ])
      clear hfg
      refine hR 10 rfl (fun K hK=>?_)
      go_simp
      generalize World.setCell _ _ _=wS at HPUSH⊢
      clear f0 f1
      refine hK.out _ _ (HPUSH.out.2) (fun hHeld=>?_)
      clear hK K
      rename_i hOld
      clear hOld
      (try simp only[Act.put,pZ])
      refine wpAnyH_done (by kernel_rfl) ?_ _
      exact⟨_,_,_,_,_,_,_,_,_,_,(by simp only[List.setIfInBounds_toArray,List.set_cons_zero,List.set_cons_succ];rfl),_,_,HPUSH.out.1,rfl,rfl,HPUSH.out.2⟩
     ·skip
      obtain⟨D2,hD2⟩:∃ D2:World,D1.alloc (.cells #[.int .i64 ix,.slice p2a path.length p2c,.int .i64 er,.string t.name] 116)=D2:=⟨_,rfl⟩
      have HBD2:Hid (Below w1.heap.size w1 D2):=by show Below _ _ _;rw[←hD2];exact mem_then HBD1.out (mem_alloc _ _)
      have HP2:Hid (PathV N D2 (.slice p2a path.length p2c) path):=by show World.ownsRow _ _ _ _ _ _ _;rw[←hD2];exact own_below HP1.out (mem_alloc _ _)
      have HLIT:Hid (∀ (k:Nat) (u:Value),(FltP.mk ix ⟨path,er,t.name⟩ (.slice p2a path.length p2c)).cells[k]? = some u→D2.cell? ((⟨D1.heap.size,0,none⟩:Addr).add k)=some u):=by
       show ∀ _ _,_
       rw[←hD2]
       exact one_newF D1 ⟨ix,⟨path,er,t.name⟩,.slice p2a path.length p2c⟩
      go_simp
      clear hD2
      refine hK.out _ _ (FrT.of HBD2.out HN1.out) (fun hHeld=>?_)
      clear hK K
      rename_i hOld
      clear hOld
      (try simp only[Act.put,pZ])
      have r0:D2.cell? ⟨fb,0,none⟩=some (.slice va L.length vc):=mem_cell (HFB1.out.keep HBD2.out).box 0
      refine hR 0 rfl (fun K hK=>?_)
      go_simp
      clear r0
      refine hK.out _ _ (FrT.of HBD2.out HN1.out) (fun hHeld=>?_)
      clear hK K
      rename_i hOld
      clear hOld
      (try simp only[Act.put,pZ])
      refine hR 9 rfl (fun K hK=>?_)
      refine step_append_row rfl (.tmp 24) (.tmp 32) 85 rfl N 116 ti _ 4 56 Tryz.underlying85 hi hz0 hz1 hz2 rfl (by decide) (.slice va L.length vc) L.length (L.flatMap FltP.cells) (by simp[Act.eval]) (HFB1.out.keep HBD2.out).row.ro ⟨D1.heap.size,0,none⟩ 1 1 (FltP.mk ix ⟨path,er,t.name⟩ (.slice p2a path.length p2c)).cells (by simp[Act.eval]) rfl HLIT.out (FltP.one _ rfl) (by decide) (by have:=HLL.out;unfold maxLen;omega) (by have:=HLL.out;omega) (Nat.le_trans HN1.out HBD2.out.size) ?_
      intro gb cap w2 hown2 hgrow2 _
      obtain⟨hfg,hbx⟩:=HFB1.out.grow HN1.out HBD2.out hgrow2
      have hpush:=HFB1.out.push (f:=⟨ix,⟨path,er,t.name⟩,.slice p2a path.length p2c⟩) HN1.out HBD2.out HP2.out hgrow2 hown2
      have HPUSH:=ξ hpush
      have f0:w2.frozen? ⟨fb,0,none⟩=false:=mem_free hbx 0
      have f1:w2.cell? ⟨fb,0,none⟩=some (.slice va L.length vc):=mem_cell hbx 0
      clear hown2 hgrow2 hpush hbx
      refine hK.out _ _ (hfg) (fun hHeld=>?_)
      clear hK K
      rename_i hOld
      clear hOld
      (try simp only[Act.put,pZ])
      clear hfg
      refine hR 10 rfl (fun K hK=>?_)
      go_simp
      generalize World.setCell _ _ _=wS at HPUSH⊢
      clear f0 f1
      refine hK.out _ _ (HPUSH.out.2) (fun hHeld=>?_)
      clear hK K
      rename_i hOld
      clear hOld
      (try simp only[Act.put,pZ])
      refine wpAnyH_done (by kernel_rfl) ?_ _
      exact⟨_,_,_,_,_,_,_,_,_,_,(by simp only[List.setIfInBounds_toArray,List.set_cons_zero,List.set_cons_succ];rfl),_,_,HPUSH.out.1,rfl,rfl,HPUSH.out.2⟩
   ·rintro a' w3 ⟨y24,y25,y26,y27,y28,y29,y30,y31,y32,y33,rfl,v3,f1,hfb3,hf1,ht1,hfr3⟩
    simp only[List.setIfInBounds_toArray,List.set_cons_zero,List.set_cons_succ]
    have HEND:Hid (∃ v1 L1,FB N w3 fb v1 (L++L1)∧L1.map (·.flt)=ownF d t path place loops locks∧(∀ f∈L1,f.task=ix)∧L1.length≤1∧FrT N w1 w3):=⟨v3,[f1],hfb3,by unfold ownF;rw[HER.out,if_neg HE0.out];simp[hf1],by simp[ht1],Nat.le_refl _,hfr3⟩
    clear hfb3 hf1 ht1 hfr3
    go_wp2_with fail
    go_meet
    exact HEND.out
 obtain⟨w3,hw3⟩:∃ w3:World,w3=wc:=⟨_,rfl⟩
 rw[←hw3] at hcut⊢
 clear hw3
 obtain⟨v1,L1,hfb1,hm1,ht1,hl1,hfr1⟩:=hcut
 have HF3:Hid (FrT N W w3):=HF1.out.trans hfr1
 have HFB3:=ξ hfb1
 have HL1:Hid (L1.map (·.flt)=ownF d t path place loops locks∧(∀ f∈L1,f.task=ix)∧L1.length≤1):=⟨hm1,ht1,hl1⟩
 clear hfb1 hm1 ht1 hl1 hfr1
 obtain⟨_,_,_,hl4,hk4,hx4,hy4⟩:=K.out w3 HF3.out
 have n0:=mem_cell hx4 0
 have n2:=mem_cell hx4 2
 have s0:=mem_cell hy4 0
 have s1:=mem_cell hy4 1
 simp only[List.getElem?_toArray,List.getElem?_cons_zero,List.getElem?_cons_succ] at n0 n2 s0 s1
 obtain⟨U,hU⟩:∃ U:World,w3.alloc (.cells #[.map (some lb),.map (some kb)] 135)=U:=⟨_,rfl⟩
 have hBU:Below w3.heap.size w3 U:=by rw[←hU];exact mem_alloc _ _
 have HNU:Hid (N≤U.heap.size):=Nat.le_trans (Nat.le_trans HNW.out HF3.out.low.size) hBU.size
 have HFU:Hid (FrT N W U):=HF3.out.trans (FrT.of hBU (Nat.le_trans HNW.out HF3.out.low.size))
 have HFBU:=ξ (HFB3.out.keep hBU)
 have HUB:Hid (U.heap[w3.heap.size]? = some (.cells #[.map (some lb),.map (some kb)] 135)):=by show _=_;rw[←hU];exact mem_new _ _
 obtain⟨_,_,_,hl5,hk5,hx5,hy5⟩:=K.out U HFU.out
 have u0:=mem_cell hx5 0
 have u2:=mem_cell hx5 2
 have t0:=mem_cell hy5 0
 have t1:=mem_cell hy5 1
 have q0:=mem_cell HUB.out 0
 have q1:=mem_cell HUB.out 1
 have z0:=mem_free HUB.out 0
 have z1:=mem_free HUB.out 1
 simp only[List.getElem?_toArray,List.getElem?_cons_zero,List.getElem?_cons_succ] at u0 u2 t0 t1 q0 q1
 have HL5:=ξ hl5
 have HK5:=ξ hk5
 obtain⟨ub,hub⟩:∃ ub,w3.heap.size=ub:=⟨_,rfl⟩
 rw[hub] at HUB q0 q1 z0 z1
 clear hl4 hk4 hx4 hy4 hl5 hk5 hx5 hy5 hBU
 go_upto_block 0 with fail
 go_cut [] (fun X=>FrT N W X∧FB N X fb v1 (L++L1)∧∃ lb' kb' nl' nk',X.heap[ub]? = some (.cells #[.map (some lb'),.map (some kb')] 135)∧SetS X lb' nl' (loopsIn t loops)∧SetS X kb' nk' (locksIn t locks)∧nl'≤nl+1∧nk'≤nk+1)
 case first =>
  by_cases k42:t.kind=42
  ·have k42':(t.kind == 42)=true:=by simp[k42]
   have HLI:Hid (loopsIn t loops=loops++[t.name]∧locksIn t locks=locks):=⟨by unfold loopsIn;rw[if_pos k42],by unfold locksIn;rw[if_neg (by omega)]⟩
   have QW:Hid (Calls Tryz.prog 67 #[.map (some lb),.string t.name] U fun e w'=>e = .returned (.map (some U.heap.size))∧SetS w' U.heap.size (nl+1) (loops++[t.name])∧Below U.heap.size U w'):=with_any lb nl loops t.name U HL5.out HNM.out (by have:=HNL.out;have:=HSP.out;unfold maxLen;omega)
   clear k42
   go_wp2_with fail
   clear n0 n2 s0 s1 u0 u2 t0 t1 q0 q1 z0 z1
   refine QW.out.mono ?_
   rintro e U2 ⟨rfl,hset,hB2⟩
   have HU2:Hid (FrT N W U2):=HFU.out.trans (FrT.of hB2 HNU.out)
   have HFBV:=ξ (HFBU.out.keep hB2)
   have HUV:Hid (U2.heap[ub]? = some (.cells #[.map (some lb),.map (some kb)] 135)):=mem_keep HUB.out hB2
   have HSET:=ξ hset
   obtain⟨X,hX⟩:∃ X:World,U2.setCell ⟨ub,0,none⟩ (.map (some U.heap.size))=X:=⟨_,rfl⟩
   have hoth:∀ (k:Nat) (o:Obj),U2.heap[k]? = some o→k≠ub→X.heap[k]? = some o:=fun k o hk hne=>by rw[←hX];exact (Below.heap_setCell _ _ _ _ (by exact hne)).trans hk
   have HUBN:Hid (N≤ub):=by show _≤_;rw[←hub];exact Nat.le_trans HNW.out HF3.out.low.size
   have HUBW:Hid (W.heap.size≤ub):=by show _≤_;rw[←hub];exact HF3.out.low.size
   have HFX:Hid (FrT N W X):=by
    refine⟨by rw[←hX];exact HU2.out.low.setCell HUBN.out _,fun k o hk hs=>hoth k o (HU2.out.still k o hk hs) (by have:=mem_lt hk;have:=HUBW.out;omega)⟩
   have hsub:∀ (k:Nat) (o:Obj),U2.heap[k]? = some o→(∀ ar,o≠.cells ar 135)→X.heap[k]? = some o:=fun k o hk hne=>hoth k o hk (by rintro rfl;rw[HUV.out] at hk;injection hk with hk;exact hne _ hk.symm)
   have setX:∀ {b' n':Nat} {S':List ByteArray},SetS U2 b' n' S'→SetS X b' n' S':=fun {b' n' S'} hs9=>by
    obtain⟨D,⟨es,clock,e1,e2⟩,e3⟩:=hs9
    exact⟨D,⟨es,clock,hsub _ _ e1 (fun ar h=>by cases h),e2⟩,e3⟩
   have HFBX:Hid (FB N X fb v1 (L++L1)):=by
    have h9:=HFBV.out
    refine⟨hsub _ _ h9.box (fun ar h=>by injection h with _ e;cases e),⟨own_keep h9.row.ro (fun k hk hl=>?_),fun f hf=>own_keep (h9.row.ri f hf) (fun k hk hl=>?_)⟩,h9.up⟩
    ·rw[←hX];exact Below.heap_setCell _ _ _ _ (by rintro rfl;exact own_other h9.row.ro HUV.out (by decide) hk)
    ·rw[←hX];exact Below.heap_setCell _ _ _ _ (by rintro rfl;exact own_other (h9.row.ri f hf) HUV.out (by decide) hk)
   have HIN:Hid (∃ lb' kb' nl' nk',X.heap[ub]? = some (.cells #[.map (some lb'),.map (some kb')] 135)∧SetS X lb' nl' (loopsIn t loops)∧SetS X kb' nk' (locksIn t locks)∧nl'≤nl+1∧nk'≤nk+1):=by
    refine⟨U.heap.size,kb,nl+1,nk,?_,?_,?_,by omega,by omega⟩
    ·rw[←hX,mem_set HUV.out];rfl
    ·rw[HLI.out.1];exact setX HSET.out
    ·rw[HLI.out.2];exact HFX.out.set (K.out W FrT.refl).2.2.2.2.1
   have g0:=mem_cell HUV.out 0
   have g1:=mem_cell HUV.out 1
   have f0:=mem_free HUV.out 0
   have f1:=mem_free HUV.out 1
   simp only[List.getElem?_toArray,List.getElem?_cons_zero,List.getElem?_cons_succ] at g0 g1
   have HENDX:=ξ (And.intro HFX.out (And.intro HFBX.out HIN.out))
   have u0:U2.cell? ⟨w.heap.size,0,none⟩=some (.int .u8 t.kind):=mem_cell (K.out U2 HU2.out).2.2.2.2.2.1 0
   clear hset hB2 hoth hsub setX
   go_wp2_with fail
   go_meet
   exact HENDX.out
  ·have k42':(t.kind == 42)=false:=by simp[k42]
   by_cases k46:t.kind=46
   ·have k46':(t.kind == 46)=true:=by simp[k46]
    have HLI:Hid (loopsIn t loops=loops∧locksIn t locks=locks++[t.name]):=⟨by unfold loopsIn;rw[if_neg k42],by unfold locksIn;rw[if_pos k46]⟩
    have QW:Hid (Calls Tryz.prog 67 #[.map (some kb),.string t.name] U fun e w'=>e = .returned (.map (some U.heap.size))∧SetS w' U.heap.size (nk+1) (locks++[t.name])∧Below U.heap.size U w'):=with_any kb nk locks t.name U HK5.out HNM.out (by have:=HNK.out;have:=HSP.out;unfold maxLen;omega)
    clear k42 k46
    go_wp2_with fail
    clear n0 n2 s0 s1 u0 u2 t0 t1 q0 q1 z0 z1
    refine QW.out.mono ?_
    rintro e U2 ⟨rfl,hset,hB2⟩
    have HU2:Hid (FrT N W U2):=HFU.out.trans (FrT.of hB2 HNU.out)
    have HFBV:=ξ (HFBU.out.keep hB2)
    have HUV:Hid (U2.heap[ub]? = some (.cells #[.map (some lb),.map (some kb)] 135)):=mem_keep HUB.out hB2
    have HSET:=ξ hset
    obtain⟨X,hX⟩:∃ X:World,U2.setCell ⟨ub,1,none⟩ (.map (some U.heap.size))=X:=⟨_,rfl⟩
    have hoth:∀ (k:Nat) (o:Obj),U2.heap[k]? = some o→k≠ub→X.heap[k]? = some o:=fun k o hk hne=>by rw[←hX];exact (Below.heap_setCell _ _ _ _ (by exact hne)).trans hk
    have HUBN:Hid (N≤ub):=by show _≤_;rw[←hub];exact Nat.le_trans HNW.out HF3.out.low.size
    have HUBW:Hid (W.heap.size≤ub):=by show _≤_;rw[←hub];exact HF3.out.low.size
    have HFX:Hid (FrT N W X):=by
     refine⟨by rw[←hX];exact HU2.out.low.setCell HUBN.out _,fun k o hk hs=>hoth k o (HU2.out.still k o hk hs) (by have:=mem_lt hk;have:=HUBW.out;omega)⟩
    have hsub:∀ (k:Nat) (o:Obj),U2.heap[k]? = some o→(∀ ar,o≠.cells ar 135)→X.heap[k]? = some o:=fun k o hk hne=>hoth k o hk (by rintro rfl;rw[HUV.out] at hk;injection hk with hk;exact hne _ hk.symm)
    have setX:∀ {b' n':Nat} {S':List ByteArray},SetS U2 b' n' S'→SetS X b' n' S':=fun {b' n' S'} hs9=>by
     obtain⟨D,⟨es,clock,e1,e2⟩,e3⟩:=hs9
     exact⟨D,⟨es,clock,hsub _ _ e1 (fun ar h=>by cases h),e2⟩,e3⟩
    have HFBX:Hid (FB N X fb v1 (L++L1)):=by
     have h9:=HFBV.out
     refine⟨hsub _ _ h9.box (fun ar h=>by injection h with _ e;cases e),⟨own_keep h9.row.ro (fun k hk hl=>?_),fun f hf=>own_keep (h9.row.ri f hf) (fun k hk hl=>?_)⟩,h9.up⟩
     ·rw[←hX];exact Below.heap_setCell _ _ _ _ (by rintro rfl;exact own_other h9.row.ro HUV.out (by decide) hk)
     ·rw[←hX];exact Below.heap_setCell _ _ _ _ (by rintro rfl;exact own_other (h9.row.ri f hf) HUV.out (by decide) hk)
    have HIN:Hid (∃ lb' kb' nl' nk',X.heap[ub]? = some (.cells #[.map (some lb'),.map (some kb')] 135)∧SetS X lb' nl' (loopsIn t loops)∧SetS X kb' nk' (locksIn t locks)∧nl'≤nl+1∧nk'≤nk+1):=by
     refine⟨lb,U.heap.size,nl,nk+1,?_,?_,?_,by omega,by omega⟩
     ·rw[←hX,mem_set HUV.out];rfl
     ·rw[HLI.out.1];exact HFX.out.set (K.out W FrT.refl).2.2.2.1
     ·rw[HLI.out.2];exact setX HSET.out
    have g0:=mem_cell HUV.out 0
    have g1:=mem_cell HUV.out 1
    have f0:=mem_free HUV.out 0
    have f1:=mem_free HUV.out 1
    simp only[List.getElem?_toArray,List.getElem?_cons_zero,List.getElem?_cons_succ] at g0 g1
    have HENDX:=ξ (And.intro HFX.out (And.intro HFBX.out HIN.out))
    have u0:U2.cell? ⟨w.heap.size,0,none⟩=some (.int .u8 t.kind):=mem_cell (K.out U2 HU2.out).2.2.2.2.2.1 0
    clear hset hB2 hoth hsub setX
    go_wp2_with fail
    go_meet
    exact HENDX.out
   ·have k46':(t.kind == 46)=false:=by simp[k46]
    have HLI:Hid (loopsIn t loops=loops∧locksIn t locks=locks):=⟨by unfold loopsIn;rw[if_neg k42],by unfold locksIn;rw[if_neg k46]⟩
    have HIN:Hid (∃ lb' kb' nl' nk',U.heap[ub]? = some (.cells #[.map (some lb'),.map (some kb')] 135)∧SetS U lb' nl' (loopsIn t loops)∧SetS U kb' nk' (locksIn t locks)∧nl'≤nl+1∧nk'≤nk+1):=⟨lb,kb,nl,nk,HUB.out,by rw[HLI.out.1];exact HL5.out,by rw[HLI.out.2];exact HK5.out,Nat.le_succ _,Nat.le_succ _⟩
    obtain⟨X,hX⟩:∃ X:World,X=U:=⟨_,rfl⟩
    have HFX:Hid (FrT N W X):=by show FrT _ _ _;rw[hX];exact HFU.out
    have HFBX:=HFBU
    rw[←hX] at HFBX HIN
    clear k42 k46
    have HENDX:=ξ (And.intro HFX.out (And.intro HFBX.out HIN.out))
    go_wp2_with fail
    go_meet
    rw[←hX]
    exact HENDX.out
 obtain⟨hfx,hfbx,hin⟩:=hcut
 obtain⟨X,hX⟩:∃ X:World,X=wc:=⟨_,rfl⟩
 rw[←hX] at hfx hfbx hin⊢
 have HFX:=ξ hfx
 have HFBX:=ξ hfbx
 have HIN:=ξ hin
 clear hX hU hub n0 n2 s0 s1 u0 u2 t0 t1 q0 q1 z0 z1 hfx hfbx hin HUB HFBU HL5 HK5
 have u3:X.cell? ⟨w.heap.size,3,none⟩=some (.slice a t.len c):=mem_cell (K.out X HFX.out).2.2.2.2.2.1 3
 go_wp2_with fail
 clear u3
 obtain⟨lb',kb',nl',nk',hin0,hin1,hin2,hin3,hin4⟩:=HIN.out
 have HIB:=ξ hin0
 have HIL:=ξ hin1
 have HIK:=ξ hin2
 have HIM:=ξ (And.intro hin3 hin4)
 have HNX:Hid (N≤X.heap.size):=Nat.le_trans HNW.out HFX.out.low.size
 clear hin0 hin1 hin2 hin3 hin4
 go_loopw [56] (fun iv wr=>∃ (j:Nat) (v2:Value) (L2:List FltP),j≤t.len∧iv = .int .i64 (j:Int)∧FrT N X wr∧FB N wr fb v2 ((L++L1)++L2)∧L2.map (·.flt)=concatTo (fun i=>faultsT d (t.kid i) (path++[(i:Int)]) (placeIn t i) (loopsIn t loops) (locksIn t locks)) j∧(∀ f∈L2,f.task=ix)∧L2.length≤Tree.sumTo (fun i=>(t.kid i).size) j) (fun iv _=>t.len-(intOf iv).toNat)
 case atStart=>exact⟨0,_,[],Nat.zero_le _,rfl,FrT.refl,by rw[List.append_nil];exact HFBX.out,rfl,by simp,Nat.zero_le _⟩
 case round =>
  clear HFBX
  obtain⟨j,v2,L2,hj,rfl,hfr,hfb2,hmap,htk,hlen⟩:=hrel
  have HFR:=ξ hfr
  have HFB2:=ξ hfb2
  have HMAP:=ξ hmap
  have HTK:=ξ htk
  have HLEN:=ξ hlen
  have HFRW:Hid (FrT N W wr):=HFX.out.trans hfr
  have HNR:Hid (N≤wr.heap.size):=Nat.le_trans HNX.out hfr.low.size
  have hj0:(0:Int)≤(j:Int):=by omega
  clear hfr hfb2 hmap htk hlen
  by_cases hlt:j<t.len
  ·have hlt2:(j:Int)<(t.len:Int):=by omega
   obtain⟨_,hrw,hpw,_,_,hxw,_⟩:=K.out wr HFRW.out
   rcases hrw.kids with hz|⟨bb,off,rfl,hS,hk⟩
   ·omega
   obtain⟨ai,ci,hn,hrk⟩:=hk j hlt
   obtain⟨c0,c1,c2,c3⟩:=hn
   have hkl:=hrk.fits.len
   have HRK:=ξ hrk
   obtain⟨V,hV⟩:∃ V:World,wr.alloc (.cells #[.int .u8 (t.kid j).kind,.int .i64 (t.kid j).num,.string (t.kid j).name,.slice ai (t.kid j).len ci] 47)=V:=⟨_,rfl⟩
   have hBV:Below wr.heap.size wr V:=by rw[←hV];exact mem_alloc _ _
   have HFV:Hid (FrT N wr V):=FrT.of hBV HNR.out
   have HNV:Hid (N≤V.heap.size):=Nat.le_trans HNR.out hBV.size
   have HFBV:=ξ (HFB2.out.keep hBV)
   have HKB:Hid (V.heap[wr.heap.size]? = some (.cells #[.int .u8 (t.kid j).kind,.int .i64 (t.kid j).num,.string (t.kid j).name,.slice ai (t.kid j).len ci] 47)):=by show _=_;rw[←hV];exact mem_new _ _
   have HSZ:Hid (L2.length+(t.kid j).size≤Tree.sumTo (fun i=>(t.kid i).size) (j+1)∧Tree.sumTo (fun i=>(t.kid i).size) (j+1)+1≤t.size):=by
    have h1:=HLEN.out
    have h2:=Tree.sumTo_le (f:=fun i=>(t.kid i).size) (show j+1≤t.len by omega)
    have h3:=Tree.size_eq t
    rw[Tree.sumTo_succ] at h2
    refine⟨?_,?_⟩ <;> rw[Tree.sumTo_succ] <;> omega
   have u0:V.cell? ⟨w.heap.size,0,none⟩=some (.int .u8 t.kind):=mem_cell (HFV.out.cells hxw (by decide) (by decide)) 0
   obtain⟨kbx,hkbx⟩:∃ kbx,wr.heap.size=kbx:=⟨_,rfl⟩
   rw[hkbx] at HKB
   clear hrw hpw hxw hk hrk hBV
   obtain⟨pl,hpl⟩:∃ pl,placeIn t j=pl:=⟨_,rfl⟩
   have HPLC:=ξ hpl
   clear hpl
   go_upto_region 13 with fail
   go_cut [16] (fun s w'=>s = .bool pl∧w'=V)
   case first =>
    by_cases j0:j=0
    ·have j0':((j:Int) == 0)=true:=by simp[j0]
     by_cases k40:t.kind=40
     ·have k40':(t.kind == 40)=true:=by simp[k40]
      have HPV:Hid (pl=true):=by show _=_;rw[←HPLC.out];unfold placeIn;simp[k40,j0]
      clear k40 j0
      go_wp2_with fail
      go_meet
      exact⟨by rw[HPV.out],rfl⟩
     ·have k40':(t.kind == 40)=false:=by simp[k40]
      by_cases k44:t.kind=44
      ·have k44':(t.kind == 44)=true:=by simp[k44]
       have HPV:Hid (pl=true):=by show _=_;rw[←HPLC.out];unfold placeIn;simp[k44,j0]
       clear k40 k44 j0
       go_wp2_with fail
       go_meet
       exact⟨by rw[HPV.out],rfl⟩
      ·have k44':(t.kind == 44)=false:=by simp[k44]
       have HPV:Hid (pl=false):=by show _=_;rw[←HPLC.out];unfold placeIn;simp[k40,k44]
       clear k40 k44 j0
       go_wp2_with fail
       go_meet
       exact⟨by rw[HPV.out],rfl⟩
    ·have j0':((j:Int) == 0)=false:=by simp;omega
     have HPV:Hid (pl=false):=by show _=_;rw[←HPLC.out];unfold placeIn;simp[j0]
     clear j0
     go_wp2_with fail
     go_meet
     exact⟨by rw[HPV.out],rfl⟩
   obtain⟨rfl,hwV⟩:=hcut
   rw[hwV]
   clear hwV
   go_wp2_with fail
   ·clear hV hkbx c0 c1 c2 c3 u0
    have HSQ:Hid (∀ w',FrT N V w'→w'.cell? ⟨vb,0,none⟩=some (.func (.func 64) #[] #[.pointer (some ⟨db,0,none⟩),.pointer (some ⟨fb,0,none⟩),.pointer (some ⟨ib,0,none⟩),.pointer (some ⟨vb,0,none⟩)]) ∧
     (w'.cell? ⟨kbx,0,none⟩=some (.int .u8 (t.kid j).kind)∧w'.cell? ⟨kbx,1,none⟩=some (.int .i64 (t.kid j).num)∧w'.cell? ⟨kbx,2,none⟩=some (.string (t.kid j).name)∧w'.cell? ⟨kbx,3,none⟩=some (.slice ai (t.kid j).len ci)) ∧
     (w'.cell? ⟨ub,0,none⟩=some (.map (some lb'))∧w'.cell? ⟨ub,1,none⟩=some (.map (some kb')))∧PathV N w' (.slice pva path.length pvc) path∧SetS w' lb' nl' (loopsIn t loops)∧SetS w' kb' nk' (locksIn t locks)∧VCtx w' db fb ib vb sb cb ab ix d∧RepIn (fun k=>k<N) w' (t.kid j) ai):=fun w' h=>by
     have hXw:=HFR.out.trans (HFV.out.trans h)
     obtain⟨hc,_,hp,_,_,_,_⟩:=K.out w' (HFX.out.trans hXw)
     have hkb:=h.cells HKB.out (by decide) (by decide)
     have hib:=hXw.cells HIB.out (by decide) (by decide)
     exact⟨mem_cell hc.vbx 0,⟨mem_cell hkb 0,mem_cell hkb 1,mem_cell hkb 2,mem_cell hkb 3⟩,⟨mem_cell hib 0,mem_cell hib 1⟩,hp,hXw.set HIL.out,hXw.set HIK.out,hc,(HFV.out.trans h).rep HRK.out⟩
    refine wp_region_held_drew (S:=fun w'=>FrT N V w') (by kernel_rfl) (FrT.of ((Below.refl _ _).drew) HNV.out) (fun hHeld=>?_)
    have HBD:Hid (Below V.heap.size V V.drew):=(Below.refl _ _).drew
    generalize hwd:V.drew=D at hHeld HBD⊢
    clear hwd
    have HDS:Hid (V.heap.size≤D.heap.size):=HBD.out.size
    refine hT 0 (.func (.func 64) #[] #[.pointer (some ⟨db,0,none⟩),.pointer (some ⟨fb,0,none⟩),.pointer (some ⟨ib,0,none⟩),.pointer (some ⟨vb,0,none⟩)]) rfl (hy:=?_) (h:=?_)
    ·intro w' hSw;obtain⟨g0,_⟩:=HSQ.out _ hSw;go_simp
    (try simp only[Act.put,pZ])
    refine hT 1 (.agg #[.int .u8 (t.kid j).kind,.int .i64 (t.kid j).num,.string (t.kid j).name,.slice ai (t.kid j).len ci]) rfl (hy:=?_) (h:=?_)
    ·intro w' hSw;obtain⟨_,⟨g0,g1,g2,g3⟩,_⟩:=HSQ.out _ hSw;go_simp
    (try simp only[Act.put,pZ])
    refine hT 2 (.slice pva path.length pvc) rfl (hy:=?_) (h:=?_)
    ·intro w' hSw;go_simp
    (try simp only[Act.put,pZ])
    refine hT 4 (.int .i64 (j:Int)) rfl (hy:=?_) (h:=?_)
    ·intro w' hSw;go_simp
    (try simp only[Act.put,pZ])
    refine hT 7 (.bool pl) rfl (hy:=?_) (h:=?_)
    ·intro w' hSw;go_simp
    (try simp only[Act.put,pZ])
    refine hT 8 (.agg #[.map (some lb'),.map (some kb')]) rfl (hy:=?_) (h:=?_)
    ·intro w' hSw;obtain⟨_,_,⟨g0,g1⟩,_⟩:=HSQ.out _ hSw;go_simp
    (try simp only[Act.put,pZ])
    refine wpAnyH_ready (rs:=[3,5]) (by kernel_rfl) (by simp) (AllReadyH.cons rfl (fun K hK=>?_) (AllReadyH.cons rfl (fun K hK=>?_) AllReadyH.nil))
    ·go_simp
     refine (iclone_any N path D (.slice pva path.length pvc) (HSQ.out _ (FrT.of HBD.out HNV.out)).2.2.2.1 (by have:=HPL.out;have:=HSP.out;omega)).mono ?_
     rintro e D1 ⟨vp,rfl,hp1,hD1⟩
     have HBD1:Hid (Below V.heap.size V D1):=mem_then HBD.out hD1
     obtain⟨p2a,p2c,rfl⟩:=own_val hp1
     have HP1:Hid (PathV V.heap.size D1 (.slice p2a path.length p2c) path):=own_down hp1 HDS.out
     clear hp1 hD1
     refine hK.out _ _ (FrT.of HBD1.out HNV.out) (fun hHeld=>?_)
     clear hK K
     rename_i hOld
     clear hOld
     (try simp only[Act.put,pZ])
     obtain⟨D2,hD2⟩:∃ D2:World,D1.alloc (.cells #[.int .i64 (j:Int)] 3)=D2:=⟨_,rfl⟩
     have HBD2:Hid (Below V.heap.size V D2):=by show Below _ _ _;rw[←hD2];exact mem_then HBD1.out (mem_alloc _ _)
     have HP2:Hid (PathV V.heap.size D2 (.slice p2a path.length p2c) path):=by show World.ownsRow _ _ _ _ _ _ _;rw[←hD2];exact own_below HP1.out (mem_alloc _ _)
     have HLIT:Hid (∀ (k:Nat) (u:Value),[Value.int .i64 (j:Int)][k]? = some u→D2.cell? ((⟨D1.heap.size,0,none⟩:Addr).add k)=some u):=by
      show ∀ _ _,_
      rw[←hD2]
      intro k u hku
      match k,hku with
      | 0,hku=>cases hku;exact World.cell?_alloc_new _ _ _ 0
     refine hR 5 rfl (fun K hK=>?_)
     go_simp
     clear hD2
     refine hK.out _ _ (FrT.of HBD2.out HNV.out) (fun hHeld=>?_)
     clear hK K
     rename_i hOld
     clear hOld
     (try simp only[Act.put,pZ])
     refine hR 6 rfl (fun K hK=>?_)
     refine step_append_row rfl (.tmp 76) (.tmp 78) 114 rfl V.heap.size 3 ii _ 1 8 Tryz.underlying114 ji jz0 jz1 jz2 rfl (by decide) (.slice p2a path.length p2c) path.length (ints path) (by simp[Act.eval]) HP2.out ⟨D1.heap.size,0,none⟩ 1 1 [.int .i64 (j:Int)] (by simp[Act.eval]) rfl HLIT.out (by simp[Value.oneCell']) (by decide) (by have:=HPL.out;unfold maxLen;omega) (by have:=HPL.out;omega) HBD2.out.size ?_
     intro gb cap w2 hown2 hgrow2 _
     have HBA:Hid (Below V.heap.size V w2):=HBD2.out.grown hgrow2 HBD2.out.size (fun k hk=>(own_lt HP2.out hk).1)
     have HPN:Hid (PathV N w2 (.slice (some ⟨gb,0,none⟩) (path.length+1) cap) (path++[(j:Int)])):=by
      have h9:=own_down hown2 HNV.out
      show World.ownsRow _ _ _ _ _ _ _
      have e1:ints path++[Value.int .i64 (j:Int)]=ints (path++[(j:Int)]):=by simp[ints]
      rw[e1] at h9
      simpa using h9
     clear hown2 hgrow2
     have HFA:Hid (FrT N V w2):=FrT.of HBA.out HNV.out
     refine hK.out _ _ (HFA.out) (fun hHeld=>?_)
     clear hK K
     rename_i hOld
     clear hOld
     (try simp only[Act.put,pZ])
     obtain⟨_,_,_,_,hla,hka,hca,hra⟩:=HSQ.out _ HFA.out
     have QV:=HIH.out j hlt w2 ai ci (path++[(j:Int)]) (.slice (some ⟨gb,0,none⟩) (path.length+1) cap) pl (loopsIn t loops) (locksIn t locks) lb' kb' nl' nk' v2 ((L++L1)++L2) (Nat.le_trans HNV.out HBA.out.size) hca (HFBV.out.keep HBA.out) hra HPN.out hla hka
      (by have:=HIM.out.1;have:=HNL.out;have:=HSZ.out;omega) (by have:=HIM.out.2;have:=HNK.out;have:=HSZ.out;omega) (by have:=HPL.out;have:=HSZ.out;simp;omega) (by have:=HLL.out;have:=HSZ.out;have:=HL1.out.2.2;simp only[List.length_append];omega)
     have HQV:=ξ QV
     clear hla hka hca hra QV
     refine hR 9 rfl (fun K hK=>?_)
     go_simp
     refine HQV.out.mono ?_
     rintro e w3 ⟨rfl,hf3,v3,L3,hb3,hm3,ht3,hl3⟩
     have HF3:Hid (FrT N V w3):=HFA.out.trans hf3
     have HREL:Hid (∃ (j':Nat) (v':Value) (L':List FltP),j'≤t.len∧Value.int .i64 ((j:Int)+1) = .int .i64 (j':Int)∧FrT N X w3∧FB N w3 fb v' ((L++L1)++L')∧L'.map (·.flt)=concatTo (fun i=>faultsT d (t.kid i) (path++[(i:Int)]) (placeIn t i) (loopsIn t loops) (locksIn t locks)) j'∧(∀ f∈L',f.task=ix)∧L'.length≤Tree.sumTo (fun i=>(t.kid i).size) j'):=by
      refine⟨j+1,v3,L2++L3,by omega,by rw[show ((j+1:Nat):Int)=(j:Int)+1 by omega],HFR.out.trans (HFV.out.trans HF3.out),by rw[←List.append_assoc];exact hb3,?_,fun f hf=>?_,?_⟩
      ·rw[List.map_append,HMAP.out,hm3,concatTo_succ]
       simp only[HPLC.out]
      ·rcases List.mem_append.1 hf with hf|hf
       ·exact HTK.out f hf
       ·exact ht3 f hf
      ·rw[List.length_append,Tree.sumTo_succ]
       have:=HLEN.out
       omega
     clear hf3 hb3 hm3 ht3 hl3 HQV
     refine hK.out _ _ (HF3.out) (fun hHeld=>?_)
     clear hK K
     rename_i hOld
     clear hOld
     (try simp only[Act.put,pZ])
     refine wpAnyH_done (by kernel_rfl) ?_ _
     go_wp2_with fail
     exact⟨HREL.out,by simp[intOf];omega⟩
    ·obtain⟨D1,hD1⟩:∃ D1:World,D.alloc (.cells #[.int .i64 (j:Int)] 3)=D1:=⟨_,rfl⟩
     have HBD1:Hid (Below V.heap.size V D1):=by show Below _ _ _;rw[←hD1];exact mem_then HBD.out (mem_alloc _ _)
     have HLB:Hid (D1.heap[D.heap.size]? = some (.cells #[.int .i64 (j:Int)] 3)):=by show _=_;rw[←hD1];exact mem_new _ _
     go_simp
     clear hD1
     refine hK.out _ _ (FrT.of HBD1.out HNV.out) (fun hHeld=>?_)
     clear hK K
     rename_i hOld
     clear hOld
     (try simp only[Act.put,pZ])
     refine hR 3 rfl (fun K hK=>?_)
     go_simp
     refine (iclone_any N path D1 (.slice pva path.length pvc) (HSQ.out _ (FrT.of HBD1.out HNV.out)).2.2.2.1 (by have:=HPL.out;have:=HSP.out;omega)).mono ?_
     rintro e D2 ⟨vp,rfl,hp1,hD2⟩
     have HBD2:Hid (Below V.heap.size V D2):=mem_then HBD1.out hD2
     obtain⟨p2a,p2c,rfl⟩:=own_val hp1
     have HP2:Hid (PathV V.heap.size D2 (.slice p2a path.length p2c) path):=own_down hp1 HBD1.out.size
     have HLIT:Hid (∀ (k:Nat) (u:Value),[Value.int .i64 (j:Int)][k]? = some u→D2.cell? ((⟨D.heap.size,0,none⟩:Addr).add k)=some u):=fun k u hku=>by
      match k,hku with
      | 0,hku=>cases hku;exact mem_cell (mem_keep HLB.out hD2) 0
     clear hp1 hD2
     refine hK.out _ _ (FrT.of HBD2.out HNV.out) (fun hHeld=>?_)
     clear hK K
     rename_i hOld
     clear hOld
     (try simp only[Act.put,pZ])
     refine hR 6 rfl (fun K hK=>?_)
     refine step_append_row rfl (.tmp 76) (.tmp 78) 114 rfl V.heap.size 3 ii _ 1 8 Tryz.underlying114 ji jz0 jz1 jz2 rfl (by decide) (.slice p2a path.length p2c) path.length (ints path) (by simp[Act.eval]) HP2.out ⟨D.heap.size,0,none⟩ 1 1 [.int .i64 (j:Int)] (by simp[Act.eval]) rfl HLIT.out (by simp[Value.oneCell']) (by decide) (by have:=HPL.out;unfold maxLen;omega) (by have:=HPL.out;omega) HBD2.out.size ?_
     intro gb cap w2 hown2 hgrow2 _
     have HBA:Hid (Below V.heap.size V w2):=HBD2.out.grown hgrow2 HBD2.out.size (fun k hk=>(own_lt HP2.out hk).1)
     have HPN:Hid (PathV N w2 (.slice (some ⟨gb,0,none⟩) (path.length+1) cap) (path++[(j:Int)])):=by
      have h9:=own_down hown2 HNV.out
      show World.ownsRow _ _ _ _ _ _ _
      have e1:ints path++[Value.int .i64 (j:Int)]=ints (path++[(j:Int)]):=by simp[ints]
      rw[e1] at h9
      simpa using h9
     clear hown2 hgrow2
     have HFA:Hid (FrT N V w2):=FrT.of HBA.out HNV.out
     refine hK.out _ _ (HFA.out) (fun hHeld=>?_)
     clear hK K
     rename_i hOld
     clear hOld
     (try simp only[Act.put,pZ])
     obtain⟨_,_,_,_,hla,hka,hca,hra⟩:=HSQ.out _ HFA.out
     have QV:=HIH.out j hlt w2 ai ci (path++[(j:Int)]) (.slice (some ⟨gb,0,none⟩) (path.length+1) cap) pl (loopsIn t loops) (locksIn t locks) lb' kb' nl' nk' v2 ((L++L1)++L2) (Nat.le_trans HNV.out HBA.out.size) hca (HFBV.out.keep HBA.out) hra HPN.out hla hka
      (by have:=HIM.out.1;have:=HNL.out;have:=HSZ.out;omega) (by have:=HIM.out.2;have:=HNK.out;have:=HSZ.out;omega) (by have:=HPL.out;have:=HSZ.out;simp;omega) (by have:=HLL.out;have:=HSZ.out;have:=HL1.out.2.2;simp only[List.length_append];omega)
     have HQV:=ξ QV
     clear hla hka hca hra QV
     refine hR 9 rfl (fun K hK=>?_)
     go_simp
     refine HQV.out.mono ?_
     rintro e w3 ⟨rfl,hf3,v3,L3,hb3,hm3,ht3,hl3⟩
     have HF3:Hid (FrT N V w3):=HFA.out.trans hf3
     have HREL:Hid (∃ (j':Nat) (v':Value) (L':List FltP),j'≤t.len∧Value.int .i64 ((j:Int)+1) = .int .i64 (j':Int)∧FrT N X w3∧FB N w3 fb v' ((L++L1)++L')∧L'.map (·.flt)=concatTo (fun i=>faultsT d (t.kid i) (path++[(i:Int)]) (placeIn t i) (loopsIn t loops) (locksIn t locks)) j'∧(∀ f∈L',f.task=ix)∧L'.length≤Tree.sumTo (fun i=>(t.kid i).size) j'):=by
      refine⟨j+1,v3,L2++L3,by omega,by rw[show ((j+1:Nat):Int)=(j:Int)+1 by omega],HFR.out.trans (HFV.out.trans HF3.out),by rw[←List.append_assoc];exact hb3,?_,fun f hf=>?_,?_⟩
      ·rw[List.map_append,HMAP.out,hm3,concatTo_succ]
       simp only[HPLC.out]
      ·rcases List.mem_append.1 hf with hf|hf
       ·exact HTK.out f hf
       ·exact ht3 f hf
      ·rw[List.length_append,Tree.sumTo_succ]
       have:=HLEN.out
       omega
     clear hf3 hb3 hm3 ht3 hl3 HQV
     refine hK.out _ _ (HF3.out) (fun hHeld=>?_)
     clear hK K
     rename_i hOld
     clear hOld
     (try simp only[Act.put,pZ])
     refine wpAnyH_done (by kernel_rfl) ?_ _
     go_wp2_with fail
     exact⟨HREL.out,by simp[intOf];omega⟩
  ·obtain rfl:j=t.len:=by omega
   have HEND:Hid (VEnd N fb ix L (faultsT d t path place loops locks) t.size w (.returned (.tuple #[])) wr):=by
    refine⟨rfl,HFW.out.trans HFRW.out,v2,L1++L2,by rw[←List.append_assoc];exact HFB2.out,?_,fun f hf=>?_,?_⟩
    ·rw[List.map_append,HMAP.out,HL1.out.1,faultsT_eq]
    ·rcases List.mem_append.1 hf with hf|hf
     ·exact HL1.out.2.1 f hf
     ·exact HTK.out f hf
    ·rw[List.length_append]
     have h1:=HL1.out.2.2
     have h2:=HLEN.out
     have h3:=Tree.size_eq t
     omega
   go_wp2_with fail
   go_end0
   exact HEND.out
