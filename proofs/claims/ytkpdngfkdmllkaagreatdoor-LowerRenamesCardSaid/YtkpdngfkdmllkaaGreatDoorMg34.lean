/- Part. -/
import Derived.Test.YtkpdngfkdmllkaaGreatDoorLowStm1
namespace Go.Proofs.YtkpdngfkdmllkaaGreatDoor
set_option linter.unusedVariables false
set_option linter.unusedSimpArgs false
open Go.RowKit Go.Maps
set_option maxRecDepth 100000
set_option maxHeartbeats 8000000
def StL(B:Nat)(m:BM)(E:LEnv)(t:Tree):Prop:=∀ (N:Nat) (w:World) (G:List Nat) (pre:List Blk) (c:List Ins) (R d:Nat) (V:VM) (a:Option Addr) (cap:Nat),t.vld 115=true→BdC B N m E w G pre c R d V→InB B w t a→N+16*t.size≤1000000 →
 Calls Tryz.prog 62 #[ptrV m.bb,t.val a cap] w (SQ B (N+16*t.size) m E w G d pre (t.low E d pre.length c R V))
def BkL(B:Nat)(m:BM)(E:LEnv)(t:Tree):Prop:=∀ (N:Nat) (w:World) (G:List Nat) (pre:List Blk) (c:List Ins) (R d:Nat) (V:VM) (a:Option Addr) (cap:Nat),t.vld 98=true→BdC B N m E w G pre c R d V→InB B w t a→N+16*t.size≤1000000 →
 Calls Tryz.prog 42 #[ptrV m.bb,t.val a cap] w (SQ B (N+16*t.size) m E w G d pre (t.low E d pre.length c R V))
section
variable {B N:Nat} {m:BM} {E:LEnv} {w w':World} {G:List Nat} {bs:List Blk} {R d:Nat} {V:VM}
theorem set_mid{α:Type}(p r:List α)(x y:α):(p++x::r).set p.length y=p++y::r:=by
 rw[List.set_append_right _ _ (Nat.le_refl _),Nat.sub_self];rfl
theorem get_mid{α:Type}(p r:List α)(x:α):(p++x::r)[p.length]? = some x:=by
 rw[List.getElem?_append_right (Nat.le_refl _),Nat.sub_self];rfl
theorem BdAt.fld{i g o:Nat}{q q':Blk}{u:Value}(h:BdAt B N m E w G bs R d V)(hg:G[i]? = some g)(hq:bs[i]? = some q)(hc:q'.code=q.code)(hwf:q'.Wf)
 (hset:∀ a c,(#[.slice a q.code.length c,.int .u8 q.kind,.int .i64 q.x,.int .i64 q.to,.int .i64 q.els]:Array Value).setIfInBounds o u = #[.slice a q'.code.length c,.int .u8 q'.kind,.int .i64 q'.x,.int .i64 q'.to,.int .i64 q'.els]) :
 BdAt B N m E (w.setCell ⟨g,o,none⟩ u) G (bs.set i q') R d V∧FrL B m w (w.setCell ⟨g,o,none⟩ u):=by
 obtain⟨a,c,h0,hrow,hgB,hgl,_,hiw,hlen⟩:=h.at_ hg hq
 have far:∀ k,k≠g→(w.setCell ⟨g,o,none⟩ u).heap[k]? = w.heap[k]?:=fun k hk=>Below.heap_setCell _ _ _ _ hk
 refine h.put hg hq h0 (a':=a) (c':=c) ?_ ?_ (.inl (by rw[hc])) (fun k _ hk _=>far k hk) ((Below.refl _ _).setCell (p:=⟨g,o,none⟩) hgB _) ⟨hwf,fun i hi=>hiw i (hc ▸ hi)⟩ (Nat.le_refl _) h.cap (by rw[hc];exact hlen)
 ·rw[mem_set h0,hset];rfl
 ·rw[hc]
  exact own_keep hrow (fun k hk hl=>far k (by rintro rfl;exact own_other hrow h0 (by decide) hk))
theorem BdAt.bcell{i g:Nat}{q:Blk}(h:BdAt B N m E w G bs R d V)(hg:G[i]? = some g)(hq:bs[i]? = some q):w.cell? ⟨g,3,none⟩=some (.int .i64 q.to)∧w.cell? ⟨g,4,none⟩=some (.int .i64 q.els)∧∀ j,w.frozen? ⟨g,j,none⟩=false:=by
 obtain⟨a,c,h0,_⟩:=h.at_ hg hq
 exact⟨mem_cell h0 3,mem_cell h0 4,fun j=>mem_free h0 j⟩
theorem BdAt.cur6{i g:Nat}(h:BdAt B N m E w G bs R d V)(hg:G[i]? = some g)(hl:G.length=i+1):w.cell? ⟨m.bb,6,none⟩=some (ptrV g):=by
 rw[←cur_last hg hl];exact h.cells.2.2.2.2.2.1
theorem BdAt.getG{i:Nat}(h:BdAt B N m E w G bs R d V)(hi:i<bs.length):∃ g,G[i]? = some g:=⟨_,List.getElem?_eq_getElem (by rw[h.len];exact hi)⟩
theorem start_at{n:Nat}(h:BdAt B N m E w G bs R d V)(hn:bs.length=n)(hN:N+1≤1000000) :
 Calls Tryz.prog 41 #[ptrV m.bb] w fun e w'=>e = .returned (.int .i64 (n:Int))∧∃ g,BdAt B (N+1) m E w' (G++[g]) (bs++[opnB []]) R d V∧FrL B m w w':=by
 subst hn;exact start_any h hN
end
theorem block_low(B:Nat)(m:BM)(E:LEnv)(t:Tree)(hk:∀ i,i<t.len→StL B m E (t.kid i)):BkL B m E t:=by
 intro N w G pre c R d V a cap hv h hr hN
 obtain⟨h47,hkv⟩:=vldB hv
 have HEX:Hid (t.low E d pre.length c R V=seqL (fun i=>kidL E t i d) pre.length c R V t.len):=by show _=_;rw[Tree.low_eq,if_pos h47]
 have HKO:=ξ hk
 have HKV:=ξ hkv
 have hnl:=hr.fits.len
 have HSUM:Hid (∀ j,j≤t.len→1+Tree.sumTo (fun i=>(t.kid i).size) j≤t.size):=fun j hj=>by
  rw[Tree.size_eq t]
  have:=Tree.sumTo_le (f:=fun i=>(t.kid i).size) hj
  omega
 have HSZ:Hid (N+16*t.size≤1000000):=hN
 obtain⟨W,hW⟩:∃ W:World,w.alloc (ndObj t a cap)=W:=⟨_,rfl⟩
 have HBW:Hid (Below w.heap.size w W):=by show Below _ _ _;rw[←hW];exact mem_alloc _ _
 have hXW:W.heap[w.heap.size]? = some (ndObj t a cap):=by rw[←hW];exact mem_new _ _
 have HS:=ξ (show BdC B N m E W G pre c R d V from h.keep HBW.out)
 have HF0:Hid (FrL B m w W):=FrL.of HBW.out h.lt.2.2.2.2
 have HR:=ξ hr
 obtain⟨_,_,_,t3⟩:=nd_cells hXW
 clear hk hv hr h h47 hkv hXW hN
 go_enter Tryz.func42,Tryz.ntmps42
 go_wp2_with fail
 clear hW t3
 go_loopw [9] (fun iv wr=>∃ (j:Nat) (G':List Nat),j≤t.len∧iv = .int .i64 (j:Int)∧BdC B (N+16*Tree.sumTo (fun i=>(t.kid i).size) j) m E wr (G++G') (pre++(seqL (fun i=>kidL E t i d) pre.length c R V j).done) (seqL (fun i=>kidL E t i d) pre.length c R V j).code (seqL (fun i=>kidL E t i d) pre.length c R V j).regs d (seqL (fun i=>kidL E t i d) pre.length c R V j).vars∧FrL B m W wr) (fun iv _=>t.len-(intOf iv).toNat)
 case atStart=>exact⟨0,[],Nat.zero_le _,rfl,by show BdC B N m E W (G++[]) (pre++[]) c R d V;rw[List.append_nil,List.append_nil];exact HS.out,FrL.refl⟩
 case round =>
  obtain⟨j,G',hj,rfl,hst,hfr⟩:=hrel
  obtain⟨L,hL⟩:∃ L,seqL (fun i=>kidL E t i d) pre.length c R V j=L:=⟨_,rfl⟩
  rw[hL] at hst
  have HL:=ξ hL
  have HST:=ξ hst
  have HFW:=ξ hfr
  have HFR:Hid (FrL B m w wr):=HF0.out.trans hfr
  have hj0:(0:Int)≤(j:Int):=by omega
  clear hst hfr hL
  by_cases hlt:j<t.len
  ·have hlt2:(j:Int)<(t.len:Int):=by omega
   obtain⟨kb,ko,rfl,hkb,ai,ci,hn,hri⟩:=kid_in HR.out hlt
   have hn1:=hn.below HFR.out.low hkb
   have n0:=hn1.kind
   have n1:=hn1.num
   have n2:=hn1.name
   have n3:=hn1.kids
   obtain⟨u,hu⟩:∃ u,t.kid j=u:=⟨_,rfl⟩
   rw[hu] at n0 n1 n2 n3 hri
   obtain⟨X,hX⟩:∃ X:World,wr.alloc (ndObj u ai ci)=X:=⟨_,rfl⟩
   have hBX:Below wr.heap.size wr X:=by rw[←hX];exact mem_alloc _ _
   have hXX:X.heap[wr.heap.size]? = some (ndObj u ai ci):=by rw[←hX];exact mem_new _ _
   obtain⟨v0,v1,v2,v3⟩:=nd_cells hXX
   have HFX:Hid (FrL B m wr X):=FrL.of hBX (BdAt.lt HST.out).2.2.2.2
   have hsz:16*Tree.sumTo (fun i=>(t.kid i).size) (j+1)=16*Tree.sumTo (fun i=>(t.kid i).size) j+16*u.size:=by rw[Tree.sumTo_succ,hu];omega
   have HSM:=ξ hsz
   have h9:=HKO.out j hlt (N+16*Tree.sumTo (fun i=>(t.kid i).size) j) X (G++G') (pre++L.done) L.code L.regs d L.vars ai ci (HKV.out j hlt) (BdAt.keep HST.out hBX)
   rw[hu] at h9
   have h9:=h9 (hri.low (HFR.out.trans HFX.out).low) (by have:=HSUM.out (j+1) (by omega);have:=HSZ.out;omega)
   have H9:=ξ h9
   have HNX:Hid (seqL (fun i=>kidL E t i d) pre.length c R V (j+1)=LS.mk (L.done++(u.low E d (pre++L.done).length L.code L.regs L.vars).done) (u.low E d (pre++L.done).length L.code L.regs L.vars).code (u.low E d (pre++L.done).length L.code L.regs L.vars).regs (u.low E d (pre++L.done).length L.code L.regs L.vars).vars):=by
    show _=_
    show (seqL (fun i=>kidL E t i d) pre.length c R V j).next pre.length (kidL E t j d)=_
    rw[HL.out,List.length_append]
    unfold LS.next kidL
    rw[if_pos hlt,hu]
   clear hn hn1 hri hu hBX hXX h9 hsz
   go_wp2_with fail
   clear hX n0 n1 n2 n3 v0 v1 v2 v3
   refine H9.out.mono ?_
   rintro e w2 ⟨rfl,G2,hs,hf⟩
   clear H9
   have HS2:Hid (BdC B (N+16*Tree.sumTo (fun i=>(t.kid i).size) (j+1)) m E w2 (G++(G'++G2)) (pre++(seqL (fun i=>kidL E t i d) pre.length c R V (j+1)).done) (seqL (fun i=>kidL E t i d) pre.length c R V (j+1)).code (seqL (fun i=>kidL E t i d) pre.length c R V (j+1)).regs d (seqL (fun i=>kidL E t i d) pre.length c R V (j+1)).vars):=by
    show BdC _ _ _ _ _ _ _ _ _ _ _
    rw[HNX.out,HSM.out]
    rw[←List.append_assoc,←List.append_assoc,←Nat.add_assoc]
    exact hs
   have HF2:Hid (FrL B m W w2):=HFW.out.trans (HFX.out.trans hf)
   clear hs hf HSM
   go_wp2_with fail
   go_roundw
   case rel=>exact⟨j+1,G'++G2,by omega,by go_num,HS2.out,HF2.out⟩
   case measure=>simp[intOf];omega
  ·obtain rfl:j=t.len:=by omega
   go_wp2_with fail
   go_end0
   refine⟨rfl,G',?_,HFR.out⟩
   rw[HEX.out,HL.out]
   refine BdAt.mono HST.out ?_ HSZ.out
   have:=HSUM.out t.len (Nat.le_refl _)
   omega
theorem get_left{α:Type}{l r:List α}{i:Nat}{x:α}(h:l[i]? = some x):(l++r)[i]? = some x:=by
 rw[List.getElem?_append_left (List.getElem?_eq_some_iff.1 h).1];exact h
theorem choice_low(B:Nat)(m:BM)(E:LEnv)(t:Tree)(hb1:BkL B m E (t.kid 1))(hb2:BkL B m E (t.kid 2))(N:Nat)(w:World)(G:List Nat)(pre:List Blk)(c:List Ins)(R d:Nat)(V:VM)(a:Option Addr)(cap:Nat)(hv:t.vld 115=true)(hkd:t.kind=41)(h:BdC B N m E w G pre c R d V)(hr:InB B w t a)(hN:N+16*t.size≤1000000) :
 Calls Tryz.prog 78 #[ptrV m.bb,t.val a cap] w (SQ B (N+16*t.size) m E w G d pre (t.low E d pre.length c R V)):=by
 obtain⟨_,_,hlen,hkids⟩:=vldS hv
 rw[hkd] at hlen hkids
 replace hlen:t.len=3:=hlen
 have hl0:0<t.len:=by omega
 have hl1:1<t.len:=by omega
 have hl2:2<t.len:=by omega
 have hl0i:(0:Int)<(t.len:Int):=by omega
 have hl1i:(1:Int)<(t.len:Int):=by omega
 have hl2i:(2:Int)<(t.len:Int):=by omega
 have HV0:Hid ((t.kid 0).vld 101=true):=hkids 0 hl0
 have HV1:Hid ((t.kid 1).vld 98=true):=hkids 1 hl1
 have HV2:Hid ((t.kid 2).vld 98=true):=hkids 2 hl2
 obtain⟨k,hk⟩:∃ k,pre.length=k:=⟨_,rfl⟩
 have HKK:=ξ hk
 obtain⟨L0,hL0⟩:∃ L,(t.kid 0).lowE E V R=L:=⟨_,rfl⟩
 have HL0:=ξ hL0
 obtain⟨k1,hk1e⟩:∃ n,k+1=n:=⟨_,rfl⟩
 have HK1:=ξ hk1e
 obtain⟨s1,hs1⟩:∃ L,(t.kid 1).low E d k1 [] L0.regs V=L:=⟨_,rfl⟩
 have HS1:=ξ hs1
 obtain⟨k2,hk2⟩:∃ n,k1+s1.done.length+1=n:=⟨_,rfl⟩
 have HK2:=ξ hk2
 obtain⟨s2,hs2⟩:∃ L,(t.kid 2).low E d k2 [] s1.regs s1.vars=L:=⟨_,rfl⟩
 have HS2:=ξ hs2
 obtain⟨k3,hk3⟩:∃ n,k2+s2.done.length+1=n:=⟨_,rfl⟩
 have HK3:=ξ hk3
 have HLOW:Hid (t.low E d k c R V=⟨(⟨c++L0.code,2,L0.r,(k1:Int),k2⟩::s1.done)++(jmpB s1.code k3::s2.done)++[jmpB s2.code k3],[],s2.regs,s2.vars⟩):=by
  show _=_
  have e0:kidLE E t 0 V R=L0:=by unfold kidLE;rw[if_pos hl0];exact hL0
  have e1:kidL E t 1 d=(t.kid 1).low E d:=by unfold kidL;rw[if_pos hl1]
  have e2:kidL E t 2 d=(t.kid 2).low E d:=by unfold kidL;rw[if_pos hl2]
  rw[Tree.low_eq,if_neg (by omega),hkd]
  unfold lowS
  rw[if_neg (by decide),if_pos rfl,e0,e1,e2]
  unfold ifL
  simp only[hk1e,hs1,hk2,hs2,hk3]
 obtain⟨n0,hn0⟩:∃ n,(t.kid 0).size=n:=⟨_,rfl⟩
 obtain⟨n1,hn1⟩:∃ n,(t.kid 1).size=n:=⟨_,rfl⟩
 obtain⟨n2,hn2⟩:∃ n,(t.kid 2).size=n:=⟨_,rfl⟩
 have HN0:Hid ((t.kid 0).size=n0∧(t.kid 1).size=n1∧(t.kid 2).size=n2):=⟨hn0,hn1,hn2⟩
 have HSK:Hid (1+n0+n1+n2≤t.size):=by
  show _≤_
  rw[Tree.size_eq t,hlen,←hn0,←hn1,←hn2]
  show _≤1+(0+(t.kid 0).size+(t.kid 1).size+(t.kid 2).size)
  omega
 have HSZ:Hid (N+16*t.size≤1000000∧1≤t.size):=⟨hN,t.size_pos⟩
 obtain⟨W,hW⟩:∃ W:World,w.alloc (ndObj t a cap)=W:=⟨_,rfl⟩
 have HBW:Hid (Below w.heap.size w W):=by show Below _ _ _;rw[←hW];exact mem_alloc _ _
 have HX:Hid (W.heap[w.heap.size]? = some (ndObj t a cap)):=by show _=_;rw[←hW];exact mem_new _ _
 have HS:=ξ (show BdC B N m E W G pre c R d V from h.keep HBW.out)
 have HF0:Hid (FrL B m w W):=FrL.of HBW.out h.lt.2.2.2.2
 have HK:Hid (∀ w',FrL B m W w'→w'.heap[w.heap.size]? = some (ndObj t a cap)∧InB B w' t a∧FrL B m w w'):=fun w' hf =>
  ⟨hf.still _ _ HX.out (by show _≠_∧_;decide),hr.low (HF0.out.trans hf).low,HF0.out.trans hf⟩
 have hGl:G.length=k+1:=by rw[h.len];simp[hk]
 obtain⟨g0,hg0⟩:=h.getG (i:=k) (by simp[hk])
 have HG0:Hid (G[k]? = some g0∧G.length=k+1):=⟨hg0,hGl⟩
 have HB1:=ξ hb1
 have HB2:=ξ hb2
 rw[hk]
 obtain⟨kb,ko,rfl,hkb,_⟩:=kid_in (HK.out W FrL.refl).2.1 hl0
 clear hv hkids h hr hlen hkd hN hk hL0 hk1e hs1 hk2 hs2 hk3 hn0 hn1 hn2 hGl hg0 hb1 hb2
 obtain⟨x0,x1,x2,x3⟩:=nd_cells HX.out
 go_enter Tryz.func78,Tryz.ntmps78
 obtain⟨kb',ko',hsame,_,ai,ci,hnd,hrk⟩:=kid_in (HK.out W FrL.refl).2.1 hl0
 cases hsame
 rw[Nat.zero_mul,Nat.add_zero] at hnd
 have z0:=hnd.kind
 have z1:=hnd.num
 have z2:=hnd.name
 have z3:=hnd.kids
 have h9:=lexpr_any B m E G pre d V (t.kid 0) HV0.out N W c R ai ci HS.out hrk (by have:=HSZ.out;have:=HSK.out;have:=HN0.out;omega)
 have H9:=ξ h9
 clear hnd hrk h9
 go_wp2_with fail
 clear z0 z1 z2 z3 x0 x1 x2 x3 hW
 refine H9.out.mono ?_
 rintro e w1 ⟨rfl,hs,hf⟩
 clear H9
 rw[HL0.out,HN0.out.1] at hs
 have H1:=ξ hs
 have HF1:=ξ hf
 have HRES:Hid (irI64 L0.r):=by
  have h9:=BdAt.res HS.out (t.kid 0) (by rw[HL0.out];exact hs)
  rw[HL0.out] at h9
  exact h9
 clear hs hf
 rw[HL0.out]
 go_wp2_with fail
 refine (branch_any H1.out HG0.out.1 HG0.out.2 (by rw[←HKK.out];exact get_mid pre [] _) HRES.out).mono ?_
 rintro e w2 ⟨rfl,hs,hf⟩
 have H2:Hid (BdAt B (N+16*n0) m E w2 G (pre++[⟨c++L0.code,2,L0.r,0,0⟩]) L0.regs d V):=by
  have e9:=set_mid pre [] (opnB (c++L0.code)) ⟨c++L0.code,2,L0.r,0,0⟩
  rw[HKK.out] at e9
  rw[←e9]
  exact hs
 have HF2:=ξ (FrL.trans HF1.out hf)
 clear hs hf
 go_wp2_with fail
 refine (start_at (n:=k1) H2.out (by simp[HKK.out];exact HK1.out) (by have:=HSZ.out;have:=HSK.out;have:=HN0.out;omega)).mono ?_
 rintro e w3 ⟨rfl,g1,hs,hf⟩
 have H3:=ξ hs
 have HF3:=ξ (FrL.trans HF2.out hf)
 clear hs hf
 have HG1:Hid ((G++[g1])[k]? = some g0):=get_left HG0.out.1
 have HQ1:Hid ((pre++[(⟨c++L0.code,2,L0.r,0,0⟩:Blk)]++[opnB []])[k]? = some ⟨c++L0.code,2,L0.r,0,0⟩):=by
  show _=_
  rw[List.append_assoc,←HKK.out];exact get_mid pre _ _
 have hk1:k1≤1000000:=by have h7:=HK1.out;have h9:=BdAt.lt H3.out;have h8:=H3.out.small.2.2.1;have:=H3.out.cap;simp only[List.length_append,HKK.out,List.length_singleton] at h8;omega
 have HFLD:=ξ (BdAt.fld (u:=.int .i64 (k1:Int)) (o:=3) (q':=⟨c++L0.code,2,L0.r,(k1:Int),0⟩) H3.out HG1.out HQ1.out rfl ⟨by show (0:Int)≤2;decide,by show (2:Int)≤255;decide,HRES.out,i64_nat (n:=k1) hk1,i64_0⟩ (fun _ _=>rfl))
 obtain⟨W4,hW4⟩:∃ X:World,w3.setCell ⟨g0,3,none⟩ (.int .i64 (k1:Int))=X:=⟨_,rfl⟩
 rw[hW4] at HFLD
 have H4:Hid (BdC B (N+16*n0+1) m E W4 (G++[g1]) (pre++[⟨c++L0.code,2,L0.r,(k1:Int),0⟩]) [] L0.regs d V):=by
  have h9:=HFLD.out.1
  have e9:=set_mid pre [opnB []] (⟨c++L0.code,2,L0.r,0,0⟩:Blk) ⟨c++L0.code,2,L0.r,(k1:Int),0⟩
  rw[HKK.out] at e9
  rw[List.append_assoc,List.singleton_append,e9] at h9
  show BdAt B _ m E W4 _ _ _ _ _
  rw[List.append_assoc,List.singleton_append]
  exact h9
 have HF4:=ξ (FrL.trans HF3.out HFLD.out.2)
 obtain⟨y3,y4,yf⟩:=BdAt.bcell H3.out HG1.out HQ1.out
 clear HFLD
 obtain⟨kb',ko',hsame,_,ai,ci,hnd,hrk⟩:=kid_in (HK.out W4 HF4.out).2.1 hl1
 cases hsame
 rw[Nat.one_mul] at hnd
 have z0:=hnd.kind
 have z1:=hnd.num
 have z2:=hnd.name
 have z3:=hnd.kids
 obtain⟨x0,x1,x2,x3⟩:=nd_cells (HK.out W4 HF4.out).1
 have h9:=HB1.out (N+16*n0+1) W4 (G++[g1]) (pre++[⟨c++L0.code,2,L0.r,(k1:Int),0⟩]) [] L0.regs d V ai ci HV1.out H4.out hrk (by have:=HSZ.out;have:=HSK.out;have:=HN0.out;omega)
 rw[show (pre++[(⟨c++L0.code,2,L0.r,(k1:Int),0⟩:Blk)]).length=k1 by simp[HKK.out];exact HK1.out,HS1.out,HN0.out.2.1] at h9
 have H9:=ξ h9
 clear hnd hrk h9 HG1 HQ1
 go_wp2_with fail
 clear z0 z1 z2 z3 x0 x1 x2 x3 y3 y4 yf hW4
 refine H9.out.mono ?_
 rintro e w5 ⟨rfl,G1,hs,hf⟩
 clear H9
 have H5:=ξ hs
 have HF5:=ξ (FrL.trans HF4.out hf)
 obtain⟨i1,hi1⟩:∃ i,k1+s1.done.length=i:=⟨_,rfl⟩
 have HI1:=ξ hi1
 have hlb:(pre++[(⟨c++L0.code,2,L0.r,(k1:Int),0⟩:Blk)]++s1.done++[opnB s1.code]).length=i1+1:=by simp[HKK.out];have:=HK1.out;omega
 obtain⟨gf,hgf⟩:=BdAt.getG hs (i:=i1) (by rw[hlb];omega)
 have hgl:(G++[g1]++G1).length=i1+1:=by rw[BdAt.len hs,hlb]
 have HGF:Hid ((G++[g1]++G1)[i1]? = some gf):=hgf
 have HLB:=ξ hlb
 have x6:=BdAt.cur6 hs hgf hgl
 clear hs hf hi1 hlb hgf hgl
 go_wp2_with fail
 clear x6
 refine (start_at (n:=k2) H5.out (by rw[HLB.out];have:=HI1.out;have:=HK2.out;omega) (by have:=HSZ.out;have:=HSK.out;have:=HN0.out;omega)).mono ?_
 rintro e w6 ⟨rfl,g2,hs,hf⟩
 have H6:=ξ hs
 have HF6:=ξ (FrL.trans HF5.out hf)
 clear hs hf
 have HG2:Hid ((G++[g1]++G1++[g2])[k]? = some g0):=get_left (get_left (get_left HG0.out.1))
 have HLE:Hid ((pre++[(⟨c++L0.code,2,L0.r,(k1:Int),0⟩:Blk)]++s1.done++[opnB s1.code]++[opnB []])=pre++(⟨c++L0.code,2,L0.r,(k1:Int),0⟩:Blk)::(s1.done++[opnB s1.code]++[opnB []])):=by show _=_;simp
 have HQ2:Hid ((pre++[(⟨c++L0.code,2,L0.r,(k1:Int),0⟩:Blk)]++s1.done++[opnB s1.code]++[opnB []])[k]? = some ⟨c++L0.code,2,L0.r,(k1:Int),0⟩):=by
  show _=_
  rw[HLE.out,←HKK.out];exact get_mid pre _ _
 have hk22:k2≤1000000:=by have h8:=H6.out.small.2.2.1;have:=H6.out.cap;rw[List.length_append,HLB.out] at h8;have:=HI1.out;have:=HK2.out;omega
 have HFLD:=ξ (BdAt.fld (u:=.int .i64 (k2:Int)) (o:=4) (q':=⟨c++L0.code,2,L0.r,(k1:Int),(k2:Int)⟩) H6.out HG2.out HQ2.out rfl ⟨by show (0:Int)≤2;decide,by show (2:Int)≤255;decide,HRES.out,i64_nat (n:=k1) hk1,i64_nat hk22⟩ (fun _ _=>rfl))
 obtain⟨W7,hW7⟩:∃ X:World,w6.setCell ⟨g0,4,none⟩ (.int .i64 (k2:Int))=X:=⟨_,rfl⟩
 rw[hW7] at HFLD
 have H7:Hid (BdC B (N+16*n0+1+16*n1+1) m E W7 (G++[g1]++G1++[g2]) (pre++⟨c++L0.code,2,L0.r,(k1:Int),(k2:Int)⟩::(s1.done++[opnB s1.code])) [] s1.regs d s1.vars):=by
  have h9:=HFLD.out.1
  have e9:=set_mid pre (s1.done++[opnB s1.code]++[opnB []]) (⟨c++L0.code,2,L0.r,(k1:Int),0⟩:Blk) ⟨c++L0.code,2,L0.r,(k1:Int),(k2:Int)⟩
  rw[HKK.out] at e9
  rw[HLE.out,e9] at h9
  show BdAt B _ m E W7 _ _ _ _ _
  rw[show ∀ (q:Blk),(pre++q::(s1.done++[opnB s1.code]))++[opnB []]=pre++q::(s1.done++[opnB s1.code]++[opnB []]) from fun q=>by simp]
  exact h9
 have HF7:=ξ (FrL.trans HF6.out HFLD.out.2)
 obtain⟨y3,y4,yf⟩:=BdAt.bcell H6.out HG2.out HQ2.out
 clear HFLD
 obtain⟨kb',ko',hsame,_,ai,ci,hnd,hrk⟩:=kid_in (HK.out W7 HF7.out).2.1 hl2
 cases hsame
 skip
 have z0:=hnd.kind
 have z1:=hnd.num
 have z2:=hnd.name
 have z3:=hnd.kids
 obtain⟨x0,x1,x2,x3⟩:=nd_cells (HK.out W7 HF7.out).1
 have h9:=HB2.out (N+16*n0+1+16*n1+1) W7 (G++[g1]++G1++[g2]) (pre++⟨c++L0.code,2,L0.r,(k1:Int),(k2:Int)⟩::(s1.done++[opnB s1.code])) [] s1.regs d s1.vars ai ci HV2.out H7.out hrk (by have:=HSZ.out;have:=HSK.out;have:=HN0.out;omega)
 rw[show (pre++(⟨c++L0.code,2,L0.r,(k1:Int),(k2:Int)⟩:Blk)::(s1.done++[opnB s1.code])).length=k2 by simp[HKK.out];have:=HK1.out;have:=HK2.out;omega,HS2.out,HN0.out.2.2] at h9
 have H9:=ξ h9
 clear hnd hrk h9 HG2 HQ2 HLE
 go_wp2_with fail
 clear z0 z1 z2 z3 x0 x1 x2 x3 y3 y4 yf hW7
 refine H9.out.mono ?_
 rintro e w8 ⟨rfl,G2,hs,hf⟩
 clear H9
 have H8:=ξ hs
 have HF8:=ξ (FrL.trans HF7.out hf)
 obtain⟨i2,hi2⟩:∃ i,k2+s2.done.length=i:=⟨_,rfl⟩
 have HI2:=ξ hi2
 have hlb:((pre++(⟨c++L0.code,2,L0.r,(k1:Int),(k2:Int)⟩:Blk)::(s1.done++[opnB s1.code]))++s2.done++[opnB s2.code]).length=i2+1:=by simp[HKK.out];have:=HK1.out;have:=HK2.out;omega
 obtain⟨gs,hgs⟩:=BdAt.getG hs (i:=i2) (by rw[hlb];omega)
 have hgl:(G++[g1]++G1++[g2]++G2).length=i2+1:=by rw[BdAt.len hs,hlb]
 have HGS:Hid ((G++[g1]++G1++[g2]++G2)[i2]? = some gs):=hgs
 have HLB2:=ξ hlb
 have x6:=BdAt.cur6 hs hgs hgl
 clear hs hf hi2 hlb hgs hgl
 go_wp2_with fail
 clear x6
 refine (start_at (n:=k3) H8.out (by rw[HLB2.out];have:=HI2.out;have:=HK3.out;omega) (by have:=HSZ.out;have:=HSK.out;have:=HN0.out;omega)).mono ?_
 rintro e w9 ⟨rfl,g3,hs,hf⟩
 have H10:=ξ hs
 have HF10:=ξ (FrL.trans HF8.out hf)
 have hk33:k3≤1000000:=by have h8:=hs.small.2.2.1;have:=hs.cap;rw[List.length_append,HLB2.out] at h8;have:=HI2.out;have:=HK3.out;omega
 clear hs hf
 go_wp2_with fail
 refine (jump_any (i:=i1) (g:=gf) (q:=opnB s1.code) (t:=k3) H10.out (get_left (get_left (get_left HGF.out))) ?_ hk33).mono ?_
 ·have e9:(pre++(⟨c++L0.code,2,L0.r,(k1:Int),(k2:Int)⟩:Blk)::(s1.done++[opnB s1.code]))++s2.done++[opnB s2.code]++[opnB []]=(pre++(⟨c++L0.code,2,L0.r,(k1:Int),(k2:Int)⟩:Blk)::s1.done)++opnB s1.code::(s2.done++[opnB s2.code]++[opnB []]):=by simp
  have e8:(pre++(⟨c++L0.code,2,L0.r,(k1:Int),(k2:Int)⟩:Blk)::s1.done).length=i1:=by simp[HKK.out];have:=HK1.out;have:=HI1.out;omega
  rw[e9,←e8];exact get_mid _ _ _
 rintro e wA ⟨rfl,hs,hf⟩
 have HA:Hid (BdAt B (N+16*n0+1+16*n1+1+16*n2+1) m E wA (G++[g1]++G1++[g2]++G2++[g3]) ((pre++(⟨c++L0.code,2,L0.r,(k1:Int),(k2:Int)⟩:Blk)::s1.done++jmpB s1.code k3::s2.done)++opnB s2.code::[opnB []]) s2.regs d s2.vars):=by
  have e9:(pre++(⟨c++L0.code,2,L0.r,(k1:Int),(k2:Int)⟩:Blk)::(s1.done++[opnB s1.code]))++s2.done++[opnB s2.code]++[opnB []]=(pre++(⟨c++L0.code,2,L0.r,(k1:Int),(k2:Int)⟩:Blk)::s1.done)++opnB s1.code::(s2.done++[opnB s2.code]++[opnB []]):=by simp
  have e8:(pre++(⟨c++L0.code,2,L0.r,(k1:Int),(k2:Int)⟩:Blk)::s1.done).length=i1:=by simp[HKK.out];have:=HK1.out;have:=HI1.out;omega
  have e7:=set_mid (pre++(⟨c++L0.code,2,L0.r,(k1:Int),(k2:Int)⟩:Blk)::s1.done) (s2.done++[opnB s2.code]++[opnB []]) (opnB s1.code) (jmpB s1.code k3)
  rw[e8] at e7
  rw[e9,e7] at hs
  have e6:(pre++(⟨c++L0.code,2,L0.r,(k1:Int),(k2:Int)⟩:Blk)::s1.done)++jmpB s1.code k3::(s2.done++[opnB s2.code]++[opnB []])=(pre++(⟨c++L0.code,2,L0.r,(k1:Int),(k2:Int)⟩:Blk)::s1.done++jmpB s1.code k3::s2.done)++opnB s2.code::[opnB []]:=by simp
  rw[←e6]
  exact hs
 have HFA:=ξ (FrL.trans HF10.out hf)
 clear hs hf H10
 go_wp2_with fail
 have HE8:Hid ((pre++(⟨c++L0.code,2,L0.r,(k1:Int),(k2:Int)⟩:Blk)::s1.done++jmpB s1.code k3::s2.done).length=i2):=by show _=_;simp[HKK.out];have:=HK1.out;have:=HI2.out;have:=HK2.out;omega
 refine (jump_any (i:=i2) (g:=gs) (q:=opnB s2.code) (t:=k3) HA.out (get_left HGS.out) (by rw[←HE8.out];exact get_mid _ _ _) hk33).mono ?_
 rintro e wB ⟨rfl,hs,hf⟩
 have HB:Hid (BdAt B (N+16*n0+1+16*n1+1+16*n2+1) m E wB (G++[g1]++G1++[g2]++G2++[g3]) ((pre++(⟨c++L0.code,2,L0.r,(k1:Int),(k2:Int)⟩:Blk)::s1.done++jmpB s1.code k3::s2.done)++jmpB s2.code k3::[opnB []]) s2.regs d s2.vars):=by
  have e7:=set_mid (pre++(⟨c++L0.code,2,L0.r,(k1:Int),(k2:Int)⟩:Blk)::s1.done++jmpB s1.code k3::s2.done) [opnB []] (opnB s2.code) (jmpB s2.code k3)
  rw[HE8.out] at e7
  rw[←e7]
  exact hs
 have HFB:=ξ (FrL.trans HFA.out hf)
 clear hs hf
 go_wp2_with fail
 go_end0
 rw[HLOW.out]
 refine⟨rfl,[g1]++G1++[g2]++G2++[g3],?_,HF0.out.trans HFB.out⟩
 have h9:=BdAt.mono HB.out (show N+16*n0+1+16*n1+1+16*n2+1≤N+16*t.size by have:=HSK.out;omega) HSZ.out.1
 show BdAt B _ m E wB _ _ _ _ _
 simp only[List.append_assoc,List.cons_append,List.nil_append,List.singleton_append] at h9⊢
 exact h9
