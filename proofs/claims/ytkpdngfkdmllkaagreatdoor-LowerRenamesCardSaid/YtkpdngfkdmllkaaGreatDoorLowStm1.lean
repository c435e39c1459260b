/- Part. -/
import Derived.Test.YtkpdngfkdmllkaaGreatDoorLowExpr
namespace Go.Proofs.YtkpdngfkdmllkaaGreatDoor
set_option linter.unusedVariables false
set_option linter.unusedSimpArgs false
open Go.RowKit Go.Maps
set_option maxRecDepth 100000
set_option maxHeartbeats 8000000
def SQ(B N:Nat)(m:BM)(E:LEnv)(w:World)(G:List Nat)(d:Nat)(pre:List Blk)(L:LS)(e:Ending)(w':World):Prop:=
 e = .returned (.tuple #[])∧∃ G',BdC B N m E w' (G++G') (pre++L.done) L.code L.regs d L.vars∧FrL B m w w'
def LkV(m:BM)(V:VM)(nb:Nat)(o:Obj)(nb2:Nat)(o2:Obj)(w:World):Prop:=
 w.cell? ⟨m.bb,2,none⟩=some (.map (some m.vb))∧w.heap[nb]? = some o∧w.heap[nb2]? = some o2∧∀ s:ByteArray,s.size≤9223372036854775807→(Instr.lookup 107 (.map (some m.vb)) (.string s) false).run Tryz.prog w = .ok (.int .i64 (V.reg s)) w
section
variable {B N:Nat} {m:BM} {E:LEnv} {w w':World} {G:List Nat} {pre:List Blk} {c:List Ins} {R d:Nat} {V:VM}
theorem LkV.of{bs:List Blk}{nb nb2:Nat}{o o2:Obj}(h:BdAt B N m E w G bs R d V)(ho:w.heap[nb]? = some o)(ho2:w.heap[nb2]? = some o2):LkV m V nb o nb2 o2 w:=
 ⟨h.cells.2.2.1,ho,ho2,fun _ hs=>h.look_var hs⟩
theorem SQ.flat{L:LS}(h:BdC B N m E w' G pre L.code L.regs d L.vars)(hd:L.done = [])(hf:FrL B m w w'):SQ B N m E w G d pre L (.returned (.tuple #[])) w':=
 ⟨rfl,[],by rw[hd,List.append_nil,List.append_nil];exact h,hf⟩
theorem SQ.flat'{L L':LS}(he:L'=L)(h:BdC B N m E w' G pre L.code L.regs d L.vars)(hd:L.done = [])(hf:FrL B m w w'):SQ B N m E w G d pre L' (.returned (.tuple #[])) w':=by rw[he];exact SQ.flat h hd hf
end
theorem assign_any(B N:Nat)(m:BM)(E:LEnv)(w:World)(G:List Nat)(pre:List Blk)(c:List Ins)(R d:Nat)(V:VM)(t:Tree)(a:Option Addr)(cap:Nat)(hv:t.vld 115=true)(hkd:t.kind=40)(h:BdC B N m E w G pre c R d V)(hr:InB B w t a)(hN:N+16*t.size≤1000000) :
 Calls Tryz.prog 77 #[ptrV m.bb,t.val a cap] w (SQ B (N+16*t.size) m E w G d pre (t.low E d pre.length c R V)):=by
 obtain⟨_,hnum,hlen,hkids⟩:=vldS hv
 have hfit:=hr.fits
 rw[hkd] at hlen hkids
 replace hlen:t.len=2:=hlen
 have hl0:0<t.len:=by omega
 have hl0i:(0:Int)<(t.len:Int):=by omega
 have hv0:(t.kid 0).vld 112=true:=hkids 0 hl0
 have hl1:1<t.len:=by omega
 have hl1i:(1:Int)<(t.len:Int):=by omega
 have HV1:Hid ((t.kid 1).vld 101=true):=hkids 1 hl1
 have hK1:∀ R,kidLE E t 1 V R=(t.kid 1).lowE E V R:=fun R=>by unfold kidLE;rw[if_pos hl1]
 have hlow:t.low E d pre.length c R V=lowS E 40 t.num t.name (t.kid 0) (kidLE E t) (kidL E t) d pre.length c R V:=by
  rw[Tree.low_eq,if_neg (by omega),hkd]
 have HSK0:Hid (1+(t.kid 0).size+(t.kid 1).size≤t.size):=by
  show _≤_
  rw[Tree.size_eq t,hlen]
  show _≤1+(0+(t.kid 0).size+(t.kid 1).size)
  omega
 obtain⟨kb,ko,rfl,hkb,pa,pc,hnd,hrp⟩:=kid_in hr hl0
 obtain⟨p,hp⟩:∃ p,t.kid 0=p:=⟨_,rfl⟩
 rw[Nat.zero_mul,Nat.add_zero] at hnd
 rw[hp] at hnd hrp hv0 hlow HSK0
 have hps:=hrp.fits.name
 obtain⟨W,hW⟩:∃ W:World,w.alloc (ndObj t (some ⟨kb,ko,none⟩) cap)=W:=⟨_,rfl⟩
 obtain⟨X,hX⟩:∃ X:World,W.alloc (ndObj p pa pc)=X:=⟨_,rfl⟩
 have HBW:Hid (Below w.heap.size w W):=by show Below _ _ _;rw[←hW];exact mem_alloc _ _
 have HBX:Hid (Below W.heap.size W X):=by show Below _ _ _;rw[←hX];exact mem_alloc _ _
 have HX0:Hid (W.heap[w.heap.size]? = some (ndObj t (some ⟨kb,ko,none⟩) cap)):=by show _=_;rw[←hW];exact mem_new _ _
 have HX1:Hid (X.heap[W.heap.size]? = some (ndObj p pa pc)):=by show _=_;rw[←hX];exact mem_new _ _
 have HBWX:=ξ (mem_then HBW.out HBX.out)
 have HS:=ξ (show BdC B N m E X G pre c R d V from h.keep HBWX.out)
 have HF0:Hid (FrL B m w X):=FrL.of HBWX.out h.lt.2.2.2.2
 have HK:Hid (∀ w',FrL B m X w'→w'.heap[w.heap.size]? = some (ndObj t (some ⟨kb,ko,none⟩) cap)∧w'.heap[W.heap.size]? = some (ndObj p pa pc)∧InB B w' t (some ⟨kb,ko,none⟩)∧InB B w' p pa∧FrL B m w w'):=fun w' hf =>
  ⟨hf.still _ _ (mem_keep HX0.out HBX.out) (by show _≠_∧_;decide),hf.still _ _ HX1.out (by show _≠_∧_;decide),hr.low (HF0.out.trans hf).low,hrp.low (HF0.out.trans hf).low,HF0.out.trans hf⟩
 have HSZ:Hid (N+16*t.size≤1000000∧1≤t.size):=⟨hN,t.size_pos⟩
 have HNUM:=ξ hfit.num
 have hndW:=hnd.below (HBW.out.mono h.lt.2.2.2.2) hkb
 have z0:=hndW.kind
 have z1:=hndW.num
 have z2:=hndW.name
 have z3:=hndW.kids
 obtain⟨x0,x1,x2,x3⟩:=nd_cells HX0.out
 obtain⟨p0,p1,p2,p3⟩:=nd_cells HX1.out
 obtain⟨s0,s1,s2,s3⟩:=nd_cells (mem_keep HX0.out HBX.out)
 have HLOW:=ξ hlow
 clear hnd hndW h hr hN hv hkids hlow hnum hlen hkd
 obtain⟨n1,hn1⟩:∃ n,(t.kid 1).size=n:=⟨_,rfl⟩
 have HN0:=ξ hn1
 rcases vldP hv0 with k2|⟨k3,hpl,hpv⟩
 ·have b2:(p.kind == 2)=true:=by simp[k2]
  obtain⟨L1,hL1⟩:∃ L,(t.kid 1).lowE E V R=L:=⟨_,rfl⟩
  have HL1:=ξ hL1
  have HE:Hid (t.low E d pre.length c R V=⟨[],c++L1.code++[insB 2 (V.reg p.name) L1.r 0 0 noB],L1.regs,V⟩):=by
   show _=_;rw[HLOW.out];unfold lowS;rw[if_pos rfl,if_pos k2,hK1,hL1]
  have HSK:Hid (1+p.size+n1≤t.size):=by show _≤_;rw[←hn1];exact HSK0.out
  clear k2 hL1 hK1 hn1 HLOW
  go_enter Tryz.func77,Tryz.ntmps77
  obtain⟨kb',ko',hsame,_,ai,ci,hnd,hrk⟩:=kid_in (HK.out X FrL.refl).2.2.1 hl1
  cases hsame
  rw[Nat.one_mul] at hnd
  have y0:=hnd.kind
  have y1:=hnd.num
  have y2:=hnd.name
  have y3:=hnd.kids
  have h9:=lexpr_any B m E G pre d V (t.kid 1) HV1.out (N) X (c) (R) ai ci HS.out hrk (by have:=HSZ.out;have:=HSK.out;have:=HN0.out;omega)
  have H9:=ξ h9
  clear hnd hrk h9
  go_wp2_with fail
  clear y0 y1 y2 y3 x0 x1 x2 x3 p0 p1 p2 p3 z0 z1 z2 z3 s0 s1 s2 s3 hW hX
  refine H9.out.mono ?_
  rintro e w1 ⟨rfl,hs,hf⟩
  clear H9
  have Hw1:=ξ hs
  have HFw1:=ξ (FrL.trans FrL.refl hf)
  clear hs hf
  rw[HL1.out,HN0.out] at Hw1
  have HRESL1:=ξ (show irI64 L1.r from by have h9:=BdAt.res HS.out (t.kid 1) (by rw[HL1.out];exact Hw1.out);rw[HL1.out] at h9;exact h9)
  rw[HL1.out]
  go_upto_region 4 with fail
  skip
  have HB1:Hid (Below w1.heap.size w1 w1.drew):=(Below.refl _ _).drew
  have HS1:=ξ (BdAt.keep Hw1.out HB1.out)
  have HFd:Hid (FrL B m X w1.drew):=FrL.trans HFw1.out (FrL.of HB1.out (BdAt.lt Hw1.out).2.2.2.2)
  refine wp_region_held_drew (S:=LkV m V W.heap.size (ndObj p pa pc) w.heap.size (ndObj t (some ⟨kb,ko,none⟩) cap)) (by kernel_rfl) (LkV.of HS1.out (HK.out _ HFd.out).2.1 (HK.out _ HFd.out).1) (fun hHeld=>?_)
  generalize hwd:World.drew w1=v1 at hHeld HB1 HS1 HFd⊢
  clear hwd
  refine hT 0 (ptrV m.bb) rfl (hy:=?_) (h:=?_)
  ·intro w' hSw;go_simp
  (try simp only[Act.put,pZ])
  refine hT 1 (ptrV m.bb) rfl (hy:=?_) (h:=?_)
  ·intro w' hSw;go_simp
  (try simp only[Act.put,pZ])
  refine hT 2 (.pointer (some ⟨m.bb,0,none⟩)) rfl (hy:=?_) (h:=?_)
  ·intro w' hSw;go_simp
  (try simp only[Act.put,pZ])
  refine hT 3 (.pointer (some ⟨m.bb,2,none⟩)) rfl (hy:=?_) (h:=?_)
  ·intro w' hSw;go_simp
  (try simp only[Act.put,pZ])
  refine hT 4 (.map (some m.vb)) rfl (hy:=?_) (h:=?_)
  ·intro w' hSw;have q2:=hSw.1;go_simp
  (try simp only[Act.put,pZ])
  refine hT 5 (.pointer (some ⟨W.heap.size,2,none⟩)) rfl (hy:=?_) (h:=?_)
  ·intro w' hSw;go_simp
  (try simp only[Act.put,pZ])
  refine hT 6 (.string p.name) rfl (hy:=?_) (h:=?_)
  ·intro w' hSw;obtain⟨_,_,q2,_⟩:=nd_cells hSw.2.1;go_simp
  (try simp only[Act.put,pZ])
  refine hT 7 (.int .i64 (V.reg p.name)) rfl (hy:=?_) (h:=?_)
  ·intro w' hSw;have zl:=hSw.2.2.2 p.name hps;go_simp
  (try simp only[Act.put,pZ])
  refine hT 8 (.int .i64 L1.r) rfl (hy:=?_) (h:=?_)
  ·intro w' hSw;go_simp
  (try simp only[Act.put,pZ])
  refine hT 9 (.agg #[.int .u8 2,.int .i64 (V.reg p.name),.int .i64 L1.r,.int .i64 0,.int .i64 0,.string ⟨#[]⟩]) rfl (hy:=?_) (h:=?_)
  ·intro w' hSw;go_simp
  (try simp only[Act.put,pZ])
  refine hR 10 rfl (fun K hK=>?_)
  go_simp
  refine (emit_cur (insB 2 (V.reg p.name) L1.r 0 0 noB) HS1.out (ins_wf (by decide) (BdAt.var_le HS.out _) HRESL1.out i64_0 i64_0 noB_size) (by have:=HSZ.out;have:=HSK.out;have:=HN0.out;omega)).mono ?_
  rintro e w2 ⟨rfl,hs,hf⟩
  have H2:=ξ hs
  have HF2:Hid (FrL B m X w2):=FrL.trans HFd.out hf
  clear hs hf
  refine hK.out _ _ (LkV.of H2.out (HK.out _ HF2.out).2.1 (HK.out _ HF2.out).1) (fun hHeld=>?_)
  clear hK K
  rename_i hOld
  clear hOld
  (try simp only[Act.put,pZ])
  clear hHeld
  refine wpAnyH_done (by kernel_rfl) ?_ _
  have HE5:=ξ (BdAt.mono H2.out (show N+16*n1+1≤N+16*t.size by have:=HSZ.out;have:=HSK.out;have:=HN0.out;omega) HSZ.out.1)
  have HF5:=ξ (HF0.out.trans HF2.out)
  go_wp2_with fail
  go_end0
  refine SQ.flat' HE.out ?_ rfl HF5.out
  have h9:=HE5.out
  simp only[List.append_assoc] at h9⊢
  exact h9
 ·have b2:(p.kind == 2)=false:=by simp[k3]
  have hpl0:0<p.len:=by omega
  have hpl0i:(0:Int)<(p.len:Int):=by omega
  obtain⟨L0,hL0⟩:∃ L,(p.kid 0).lowE E V R=L:=⟨_,rfl⟩
  obtain⟨L1,hL1⟩:∃ L,(t.kid 1).lowE E V L0.regs=L:=⟨_,rfl⟩
  have HL0:=ξ hL0
  have HL1:=ξ hL1
  obtain⟨n0,hn0⟩:∃ n,(p.kid 0).size=n:=⟨_,rfl⟩
  have HNN:=ξ hn0
  have HE:Hid (t.low E d pre.length c R V=⟨[],c++L0.code++L1.code++[insB 8 0 L0.r 0 (E.len p.name) noB,stoB E p.name L0.r L1.r],L1.regs,V⟩):=by
   show _=_;rw[HLOW.out];unfold lowS;rw[if_pos rfl,if_neg (by omega)];simp only[hK1,hL0,hL1]
  have HSK:Hid (2+n0+n1≤t.size∧(p.kid 0).size=n0∧(t.kid 1).size=n1):=by
   refine⟨?_,hn0,hn1⟩
   have:=Tree.size_kid hpl0
   have:=HSK0.out
   omega
  have HPV:=ξ hpv
  clear k3 hL0 hL1 hK1 hn1 hn0 HLOW hpl hpv
  obtain⟨qb,qo,rfl,_,_⟩:=kid_in (HK.out X FrL.refl).2.2.2.1 hpl0
  go_enter Tryz.func77,Tryz.ntmps77
  obtain⟨kb',ko',hsame,_,ai,ci,hnd,hrk⟩:=kid_in (HK.out X FrL.refl).2.2.2.1 hpl0
  cases hsame
  rw[Nat.zero_mul,Nat.add_zero] at hnd
  have y0:=hnd.kind
  have y1:=hnd.num
  have y2:=hnd.name
  have y3:=hnd.kids
  have h9:=lexpr_any B m E G pre d V (p.kid 0) HPV.out (N) X (c) (R) ai ci HS.out hrk (by have:=HSZ.out;have:=HSK.out;have:=HN0.out;omega)
  have H9:=ξ h9
  clear hnd hrk h9
  go_wp2_with fail
  clear y0 y1 y2 y3 x0 x1 x2 x3 p0 p1 p2 p3 z0 z1 z2 z3 s0 s1 s2 s3 hW hX
  refine H9.out.mono ?_
  rintro e w1 ⟨rfl,hs,hf⟩
  clear H9
  have Hw1:=ξ hs
  have HFw1:=ξ (FrL.trans FrL.refl hf)
  clear hs hf
  rw[HL0.out,HNN.out] at Hw1
  have HRESL0:=ξ (show irI64 L0.r from by have h9:=BdAt.res HS.out (p.kid 0) (by rw[HL0.out];exact Hw1.out);rw[HL0.out] at h9;exact h9)
  rw[HL0.out]
  obtain⟨kb',ko',hsame,_,ai,ci,hnd,hrk⟩:=kid_in (HK.out w1 HFw1.out).2.2.1 hl1
  cases hsame
  rw[Nat.one_mul] at hnd
  have y0:=hnd.kind
  have y1:=hnd.num
  have y2:=hnd.name
  have y3:=hnd.kids
  obtain⟨x0,x1,x2,x3⟩:=nd_cells (HK.out w1 HFw1.out).1
  obtain⟨p0,p1,p2,p3⟩:=nd_cells (HK.out w1 HFw1.out).2.1
  have h9:=lexpr_any B m E G pre d V (t.kid 1) HV1.out (N+16*n0) w1 (c++L0.code) (L0.regs) ai ci Hw1.out hrk (by have:=HSZ.out;have:=HSK.out;have:=HN0.out;omega)
  have H9:=ξ h9
  clear hnd hrk h9
  go_wp2_with fail
  clear y0 y1 y2 y3 x0 x1 x2 x3 p0 p1 p2 p3
  refine H9.out.mono ?_
  rintro e w2 ⟨rfl,hs,hf⟩
  clear H9
  have Hw2:=ξ hs
  have HFw2:=ξ (FrL.trans HFw1.out hf)
  clear hs hf
  rw[HL1.out,HN0.out] at Hw2
  have HRESL1:=ξ (show irI64 L1.r from by have h9:=BdAt.res Hw1.out (t.kid 1) (by rw[HL1.out];exact Hw2.out);rw[HL1.out] at h9;exact h9)
  rw[HL1.out]
  go_upto_region 7 with fail
  have HB1:Hid (Below w2.heap.size w2 w2.drew):=(Below.refl _ _).drew
  have HS1:=ξ (BdAt.keep Hw2.out HB1.out)
  have HFd:Hid (FrL B m X w2.drew):=FrL.trans HFw2.out (FrL.of HB1.out (BdAt.lt Hw2.out).2.2.2.2)
  refine wp_region_held_drew (S:=LkS m E W.heap.size (ndObj p (some ⟨qb,qo,none⟩) pc)) (by kernel_rfl) (LkS.of HS1.out (HK.out _ HFd.out).2.1) (fun hHeld=>?_)
  generalize hwd:World.drew w2=v1 at hHeld HB1 HS1 HFd⊢
  clear hwd
  refine hT 0 (ptrV m.bb) rfl (hy:=?_) (h:=?_)
  ·intro w' hSw;go_simp
  (try simp only[Act.put,pZ])
  refine hT 1 (.int .i64 L0.r) rfl (hy:=?_) (h:=?_)
  ·intro w' hSw;go_simp
  (try simp only[Act.put,pZ])
  refine hT 2 (ptrV m.bb) rfl (hy:=?_) (h:=?_)
  ·intro w' hSw;go_simp
  (try simp only[Act.put,pZ])
  refine hT 3 (.pointer (some ⟨m.bb,0,none⟩)) rfl (hy:=?_) (h:=?_)
  ·intro w' hSw;go_simp
  (try simp only[Act.put,pZ])
  refine hT 4 (.pointer (some ⟨m.bb,0,none⟩)) rfl (hy:=?_) (h:=?_)
  ·intro w' hSw;go_simp
  (try simp only[Act.put,pZ])
  refine hT 5 (.map (some m.lb)) rfl (hy:=?_) (h:=?_)
  ·intro w' hSw;have q2:=hSw.1;go_simp
  (try simp only[Act.put,pZ])
  refine hT 6 (.pointer (some ⟨W.heap.size,2,none⟩)) rfl (hy:=?_) (h:=?_)
  ·intro w' hSw;go_simp
  (try simp only[Act.put,pZ])
  refine hT 7 (.string p.name) rfl (hy:=?_) (h:=?_)
  ·intro w' hSw;obtain⟨_,_,q2,_⟩:=nd_cells hSw.2.1;go_simp
  (try simp only[Act.put,pZ])
  refine hT 8 (.int .i64 (E.len p.name)) rfl (hy:=?_) (h:=?_)
  ·intro w' hSw;have zl:=hSw.2.2 p.name hps;go_simp
  (try simp only[Act.put,pZ])
  refine hT 9 (.agg #[.int .u8 8,.int .i64 0,.int .i64 L0.r,.int .i64 0,.int .i64 (E.len p.name),.string ⟨#[]⟩]) rfl (hy:=?_) (h:=?_)
  ·intro w' hSw;go_simp
  (try simp only[Act.put,pZ])
  refine hR 10 rfl (fun K hK=>?_)
  go_simp
  refine (emit_cur (insB 8 0 L0.r 0 (E.len p.name) noB) HS1.out (ins_wf (by decide) i64_0 HRESL0.out i64_0 (BdAt.lenI HS.out _) noB_size) (by have:=HSZ.out;have:=HSK.out;have:=HN0.out;omega)).mono ?_
  rintro e w3 ⟨rfl,hs,hf⟩
  have H3:=ξ hs
  have HF3:Hid (FrL B m X w3):=FrL.trans HFd.out hf
  clear hs hf
  refine hK.out _ _ (LkS.of H3.out (HK.out _ HF3.out).2.1) (fun hHeld=>?_)
  clear hK K
  rename_i hOld
  clear hOld
  (try simp only[Act.put,pZ])
  clear hHeld
  refine wpAnyH_done (by kernel_rfl) ?_ _
  obtain⟨p0,p1,p2,p3⟩:=nd_cells (HK.out _ HF3.out).2.1
  go_wp2_with fail
  clear p0 p1 p2 p3
  refine (store_any p.name L0.r L1.r H3.out hps HRESL0.out HRESL1.out (by have:=HSZ.out;have:=HSK.out;have:=HN0.out;omega)).mono ?_
  rintro e w4 ⟨rfl,hs,hf⟩
  have H4:=ξ hs
  have HF4:=ξ (FrL.trans HF3.out hf)
  clear hs hf
  have HE5:=ξ (BdAt.mono H4.out (show N+16*n0+16*n1+1+1≤N+16*t.size by have:=HSZ.out;have:=HSK.out;have:=HN0.out;omega) HSZ.out.1)
  have HF5:=ξ (HF0.out.trans HF4.out)
  go_wp2_with fail
  go_end0
  refine SQ.flat' HE.out ?_ rfl HF5.out
  have h9:=HE5.out
  simp only[List.append_assoc] at h9⊢
  exact h9
theorem receive_any(B N:Nat)(m:BM)(E:LEnv)(w:World)(G:List Nat)(pre:List Blk)(c:List Ins)(R d:Nat)(V:VM)(t:Tree)(a:Option Addr)(cap:Nat)(hv:t.vld 115=true)(hkd:t.kind=44)(h:BdC B N m E w G pre c R d V)(hr:InB B w t a)(hN:N+16*t.size≤1000000) :
 Calls Tryz.prog 81 #[ptrV m.bb,t.val a cap] w (SQ B (N+16*t.size) m E w G d pre (t.low E d pre.length c R V)):=by
 obtain⟨_,hnum,hlen,hkids⟩:=vldS hv
 have hfit:=hr.fits
 rw[hkd] at hlen hkids
 replace hlen:t.len=1:=hlen
 have hl0:0<t.len:=by omega
 have hl0i:(0:Int)<(t.len:Int):=by omega
 have hv0:(t.kid 0).vld 112=true:=hkids 0 hl0
 have hlow:t.low E d pre.length c R V=lowS E 44 t.num t.name (t.kid 0) (kidLE E t) (kidL E t) d pre.length c R V:=by
  rw[Tree.low_eq,if_neg (by omega),hkd]
 have HSK0:Hid (1+(t.kid 0).size≤t.size):=by
  show _≤_
  rw[Tree.size_eq t,hlen]
  show _≤1+(0+(t.kid 0).size)
  omega
 obtain⟨kb,ko,rfl,hkb,pa,pc,hnd,hrp⟩:=kid_in hr hl0
 obtain⟨p,hp⟩:∃ p,t.kid 0=p:=⟨_,rfl⟩
 rw[Nat.zero_mul,Nat.add_zero] at hnd
 rw[hp] at hnd hrp hv0 hlow HSK0
 have hps:=hrp.fits.name
 obtain⟨W,hW⟩:∃ W:World,w.alloc (ndObj t (some ⟨kb,ko,none⟩) cap)=W:=⟨_,rfl⟩
 obtain⟨X,hX⟩:∃ X:World,W.alloc (ndObj p pa pc)=X:=⟨_,rfl⟩
 have HBW:Hid (Below w.heap.size w W):=by show Below _ _ _;rw[←hW];exact mem_alloc _ _
 have HBX:Hid (Below W.heap.size W X):=by show Below _ _ _;rw[←hX];exact mem_alloc _ _
 have HX0:Hid (W.heap[w.heap.size]? = some (ndObj t (some ⟨kb,ko,none⟩) cap)):=by show _=_;rw[←hW];exact mem_new _ _
 have HX1:Hid (X.heap[W.heap.size]? = some (ndObj p pa pc)):=by show _=_;rw[←hX];exact mem_new _ _
 have HBWX:=ξ (mem_then HBW.out HBX.out)
 have HS:=ξ (show BdC B N m E X G pre c R d V from h.keep HBWX.out)
 have HF0:Hid (FrL B m w X):=FrL.of HBWX.out h.lt.2.2.2.2
 have HK:Hid (∀ w',FrL B m X w'→w'.heap[w.heap.size]? = some (ndObj t (some ⟨kb,ko,none⟩) cap)∧w'.heap[W.heap.size]? = some (ndObj p pa pc)∧InB B w' t (some ⟨kb,ko,none⟩)∧InB B w' p pa∧FrL B m w w'):=fun w' hf =>
  ⟨hf.still _ _ (mem_keep HX0.out HBX.out) (by show _≠_∧_;decide),hf.still _ _ HX1.out (by show _≠_∧_;decide),hr.low (HF0.out.trans hf).low,hrp.low (HF0.out.trans hf).low,HF0.out.trans hf⟩
 have HSZ:Hid (N+16*t.size≤1000000∧1≤t.size):=⟨hN,t.size_pos⟩
 have HNUM:=ξ hfit.num
 have hndW:=hnd.below (HBW.out.mono h.lt.2.2.2.2) hkb
 have z0:=hndW.kind
 have z1:=hndW.num
 have z2:=hndW.name
 have z3:=hndW.kids
 obtain⟨x0,x1,x2,x3⟩:=nd_cells HX0.out
 obtain⟨p0,p1,p2,p3⟩:=nd_cells HX1.out
 obtain⟨s0,s1,s2,s3⟩:=nd_cells (mem_keep HX0.out HBX.out)
 have HLOW:=ξ hlow
 clear hnd hndW h hr hN hv hkids hlow hnum hlen hkd
 rcases vldP hv0 with k2|⟨k3,hpl,hpv⟩
 ·have b2:(p.kind == 2)=true:=by simp[k2]
  have HE:Hid (t.low E d pre.length c R V=⟨[],c++[insB 9 (V.reg p.name) 0 0 t.num noB],R,V⟩):=by
   show _=_;rw[HLOW.out];unfold lowS;rw[if_neg (by decide),if_neg (by decide),if_neg (by decide),if_neg (by decide),if_pos rfl,if_pos k2]
  have HSK:Hid (1+p.size≤t.size):=HSK0
  have HN0:Hid True:=trivial
  clear k2 HLOW
  go_enter Tryz.func81,Tryz.ntmps81
  go_upto_region 3 with fail
  clear z0 z1 z2 z3 x0 x1 x2 x3 p0 p1 p2 p3 s0 s1 s2 s3 hW hX
  have HB1:Hid (Below X.heap.size X X.drew):=(Below.refl _ _).drew
  have HS1:=ξ (BdAt.keep HS.out HB1.out)
  have HFd:Hid (FrL B m X X.drew):=FrL.trans FrL.refl (FrL.of HB1.out (BdAt.lt HS.out).2.2.2.2)
  refine wp_region_held_drew (S:=LkV m V W.heap.size (ndObj p pa pc) w.heap.size (ndObj t (some ⟨kb,ko,none⟩) cap)) (by kernel_rfl) (LkV.of HS1.out (HK.out _ HFd.out).2.1 (HK.out _ HFd.out).1) (fun hHeld=>?_)
  generalize hwd:World.drew X=v1 at hHeld HB1 HS1 HFd⊢
  clear hwd
  refine hT 0 (ptrV m.bb) rfl (hy:=?_) (h:=?_)
  ·intro w' hSw;go_simp
  (try simp only[Act.put,pZ])
  refine hT 1 (ptrV m.bb) rfl (hy:=?_) (h:=?_)
  ·intro w' hSw;go_simp
  (try simp only[Act.put,pZ])
  refine hT 2 (.pointer (some ⟨m.bb,0,none⟩)) rfl (hy:=?_) (h:=?_)
  ·intro w' hSw;go_simp
  (try simp only[Act.put,pZ])
  refine hT 3 (.pointer (some ⟨m.bb,2,none⟩)) rfl (hy:=?_) (h:=?_)
  ·intro w' hSw;go_simp
  (try simp only[Act.put,pZ])
  refine hT 4 (.map (some m.vb)) rfl (hy:=?_) (h:=?_)
  ·intro w' hSw;have q2:=hSw.1;go_simp
  (try simp only[Act.put,pZ])
  refine hT 5 (.pointer (some ⟨W.heap.size,2,none⟩)) rfl (hy:=?_) (h:=?_)
  ·intro w' hSw;go_simp
  (try simp only[Act.put,pZ])
  refine hT 6 (.string p.name) rfl (hy:=?_) (h:=?_)
  ·intro w' hSw;obtain⟨_,_,q2,_⟩:=nd_cells hSw.2.1;go_simp
  (try simp only[Act.put,pZ])
  refine hT 7 (.int .i64 (V.reg p.name)) rfl (hy:=?_) (h:=?_)
  ·intro w' hSw;have zl:=hSw.2.2.2 p.name hps;go_simp
  (try simp only[Act.put,pZ])
  refine hT 8 (.pointer (some ⟨w.heap.size,1,none⟩)) rfl (hy:=?_) (h:=?_)
  ·intro w' hSw;go_simp
  (try simp only[Act.put,pZ])
  refine hT 9 (.int .i64 t.num) rfl (hy:=?_) (h:=?_)
  ·intro w' hSw;obtain⟨_,q2,_,_⟩:=nd_cells hSw.2.2.1;go_simp
  (try simp only[Act.put,pZ])
  refine hT 10 (.agg #[.int .u8 9,.int .i64 (V.reg p.name),.int .i64 0,.int .i64 0,.int .i64 t.num,.string ⟨#[]⟩]) rfl (hy:=?_) (h:=?_)
  ·intro w' hSw;go_simp
  (try simp only[Act.put,pZ])
  refine hR 11 rfl (fun K hK=>?_)
  go_simp
  refine (emit_cur (insB 9 (V.reg p.name) 0 0 t.num noB) HS1.out (ins_wf (by decide) (BdAt.var_le HS.out _) i64_0 i64_0 HNUM.out noB_size) (by have:=HSZ.out;have:=HSK.out;have:=HN0.out;omega)).mono ?_
  rintro e w2 ⟨rfl,hs,hf⟩
  have H2:=ξ hs
  have HF2:Hid (FrL B m X w2):=FrL.trans HFd.out hf
  clear hs hf
  refine hK.out _ _ (LkV.of H2.out (HK.out _ HF2.out).2.1 (HK.out _ HF2.out).1) (fun hHeld=>?_)
  clear hK K
  rename_i hOld
  clear hOld
  (try simp only[Act.put,pZ])
  clear hHeld
  refine wpAnyH_done (by kernel_rfl) ?_ _
  have HE5:=ξ (BdAt.mono H2.out (show N+1≤N+16*t.size by have:=HSZ.out;have:=HSK.out;have:=HN0.out;omega) HSZ.out.1)
  have HF5:=ξ (HF0.out.trans HF2.out)
  go_wp2_with fail
  go_end0
  refine SQ.flat' HE.out ?_ rfl HF5.out
  have h9:=HE5.out
  simp only[List.append_assoc] at h9⊢
  exact h9
 ·have b2:(p.kind == 2)=false:=by simp[k3]
  have hpl0:0<p.len:=by omega
  have hpl0i:(0:Int)<(p.len:Int):=by omega
  obtain⟨L0,hL0⟩:∃ L,(p.kid 0).lowE E V R=L:=⟨_,rfl⟩
  have HL0:=ξ hL0
  obtain⟨n0,hn0⟩:∃ n,(p.kid 0).size=n:=⟨_,rfl⟩
  have HN0:=ξ hn0
  have HE:Hid (t.low E d pre.length c R V=⟨[],c++L0.code++[insB 8 0 L0.r 0 (E.len p.name) noB,insB 9 L0.regs 0 0 t.num noB,stoB E p.name L0.r L0.regs],L0.regs+1,V⟩):=by
   show _=_;rw[HLOW.out];unfold lowS;rw[if_neg (by decide),if_neg (by decide),if_neg (by decide),if_neg (by decide),if_pos rfl,if_neg (by omega)];simp only[hL0]
  have HSK:Hid (2+n0≤t.size):=by
   show _≤_
   have:=Tree.size_kid hpl0
   have:=HSK0.out
   omega
  have HPV:=ξ hpv
  clear k3 hL0 hn0 HLOW hpl hpv
  obtain⟨qb,qo,rfl,_,_⟩:=kid_in (HK.out X FrL.refl).2.2.2.1 hpl0
  go_enter Tryz.func81,Tryz.ntmps81
  obtain⟨kb',ko',hsame,_,ai,ci,hnd,hrk⟩:=kid_in (HK.out X FrL.refl).2.2.2.1 hpl0
  cases hsame
  rw[Nat.zero_mul,Nat.add_zero] at hnd
  have y0:=hnd.kind
  have y1:=hnd.num
  have y2:=hnd.name
  have y3:=hnd.kids
  have h9:=lexpr_any B m E G pre d V (p.kid 0) HPV.out (N) X (c) (R) ai ci HS.out hrk (by have:=HSZ.out;have:=HSK.out;have:=HN0.out;omega)
  have H9:=ξ h9
  clear hnd hrk h9
  go_wp2_with fail
  clear y0 y1 y2 y3 x0 x1 x2 x3 p0 p1 p2 p3 z0 z1 z2 z3 s0 s1 s2 s3 hW hX
  refine H9.out.mono ?_
  rintro e w1 ⟨rfl,hs,hf⟩
  clear H9
  have Hw1:=ξ hs
  have HFw1:=ξ (FrL.trans FrL.refl hf)
  clear hs hf
  rw[HL0.out,HN0.out] at Hw1
  have HRESL0:=ξ (show irI64 L0.r from by have h9:=BdAt.res HS.out (p.kid 0) (by rw[HL0.out];exact Hw1.out);rw[HL0.out] at h9;exact h9)
  rw[HL0.out]
  go_upto_region 5 with fail
  have HB1:Hid (Below w1.heap.size w1 w1.drew):=(Below.refl _ _).drew
  have HS1:=ξ (BdAt.keep Hw1.out HB1.out)
  have HFd:Hid (FrL B m X w1.drew):=FrL.trans HFw1.out (FrL.of HB1.out (BdAt.lt Hw1.out).2.2.2.2)
  refine wp_region_held_drew (S:=LkS m E W.heap.size (ndObj p (some ⟨qb,qo,none⟩) pc)) (by kernel_rfl) (LkS.of HS1.out (HK.out _ HFd.out).2.1) (fun hHeld=>?_)
  generalize hwd:World.drew w1=v1 at hHeld HB1 HS1 HFd⊢
  clear hwd
  refine hT 0 (ptrV m.bb) rfl (hy:=?_) (h:=?_)
  ·intro w' hSw;go_simp
  (try simp only[Act.put,pZ])
  refine hT 1 (.int .i64 L0.r) rfl (hy:=?_) (h:=?_)
  ·intro w' hSw;go_simp
  (try simp only[Act.put,pZ])
  refine hT 2 (ptrV m.bb) rfl (hy:=?_) (h:=?_)
  ·intro w' hSw;go_simp
  (try simp only[Act.put,pZ])
  refine hT 3 (.pointer (some ⟨m.bb,0,none⟩)) rfl (hy:=?_) (h:=?_)
  ·intro w' hSw;go_simp
  (try simp only[Act.put,pZ])
  refine hT 4 (.pointer (some ⟨m.bb,0,none⟩)) rfl (hy:=?_) (h:=?_)
  ·intro w' hSw;go_simp
  (try simp only[Act.put,pZ])
  refine hT 5 (.map (some m.lb)) rfl (hy:=?_) (h:=?_)
  ·intro w' hSw;have q2:=hSw.1;go_simp
  (try simp only[Act.put,pZ])
  refine hT 6 (.pointer (some ⟨W.heap.size,2,none⟩)) rfl (hy:=?_) (h:=?_)
  ·intro w' hSw;go_simp
  (try simp only[Act.put,pZ])
  refine hT 7 (.string p.name) rfl (hy:=?_) (h:=?_)
  ·intro w' hSw;obtain⟨_,_,q2,_⟩:=nd_cells hSw.2.1;go_simp
  (try simp only[Act.put,pZ])
  refine hT 8 (.int .i64 (E.len p.name)) rfl (hy:=?_) (h:=?_)
  ·intro w' hSw;have zl:=hSw.2.2 p.name hps;go_simp
  (try simp only[Act.put,pZ])
  refine hT 9 (.agg #[.int .u8 8,.int .i64 0,.int .i64 L0.r,.int .i64 0,.int .i64 (E.len p.name),.string ⟨#[]⟩]) rfl (hy:=?_) (h:=?_)
  ·intro w' hSw;go_simp
  (try simp only[Act.put,pZ])
  refine hR 10 rfl (fun K hK=>?_)
  go_simp
  refine (emit_cur (insB 8 0 L0.r 0 (E.len p.name) noB) HS1.out (ins_wf (by decide) i64_0 HRESL0.out i64_0 (BdAt.lenI HS.out _) noB_size) (by have:=HSZ.out;have:=HSK.out;have:=HN0.out;omega)).mono ?_
  rintro e w3 ⟨rfl,hs,hf⟩
  have H3:=ξ hs
  have HF3:Hid (FrL B m X w3):=FrL.trans HFd.out hf
  clear hs hf
  refine hK.out _ _ (LkS.of H3.out (HK.out _ HF3.out).2.1) (fun hHeld=>?_)
  clear hK K
  rename_i hOld
  clear hOld
  (try simp only[Act.put,pZ])
  clear hHeld
  refine wpAnyH_done (by kernel_rfl) ?_ _
  go_wp2_with fail
  refine (register_any H3.out (by have:=HSZ.out;have:=HSK.out;have:=HN0.out;omega)).mono ?_
  rintro e w4 ⟨rfl,hs,hf⟩
  have H4:Hid (BdC B (N+16*n0+1+1) m E w4 G pre (c++L0.code++[insB 8 0 L0.r 0 (E.len p.name) noB]) (L0.regs+1) d V):=hs
  have HF4:=ξ (FrL.trans HF3.out hf)
  have hR4:L0.regs+1≤1000000:=Nat.le_trans hs.small.1 hs.cap
  clear hs hf
  obtain⟨x0,x1,x2,x3⟩:=nd_cells (HK.out _ HF4.out).1
  go_wp2_with fail
  clear x0 x1 x2 x3
  refine (emit_cur (insB 9 L0.regs 0 0 t.num noB) H4.out (ins_wf (by decide) (i64_nat (by omega)) i64_0 i64_0 HNUM.out noB_size) (by have:=HSZ.out;have:=HSK.out;have:=HN0.out;omega)).mono ?_
  rintro e w5 ⟨rfl,hs,hf⟩
  have H5:=ξ hs
  have HF6:=ξ (FrL.trans HF4.out hf)
  clear hs hf
  obtain⟨p0,p1,p2,p3⟩:=nd_cells (HK.out _ HF6.out).2.1
  go_wp2_with fail
  clear p0 p1 p2 p3
  refine (store_any p.name L0.r L0.regs H5.out hps HRESL0.out (i64_nat (by omega)) (by have:=HSZ.out;have:=HSK.out;have:=HN0.out;omega)).mono ?_
  rintro e w7 ⟨rfl,hs,hf⟩
  have H7:=ξ hs
  have HF7:=ξ (FrL.trans HF6.out hf)
  clear hs hf
  have HE5:=ξ (BdAt.mono H7.out (show N+16*n0+1+1+1+1≤N+16*t.size by have:=HSZ.out;have:=HSK.out;have:=HN0.out;omega) HSZ.out.1)
  have HF5:=ξ (HF0.out.trans HF7.out)
  go_wp2_with fail
  go_end0
  refine SQ.flat' HE.out ?_ rfl HF5.out
  have h9:=HE5.out
  simp only[List.append_assoc] at h9⊢
  exact h9
