/- Part. -/
import Derived.Test.YtkpdngfkdmllkaaGreatDoorMg34
namespace Go.Proofs.YtkpdngfkdmllkaaGreatDoor
set_option linter.unusedVariables false
set_option linter.unusedSimpArgs false
open Go.RowKit Go.Maps
set_option maxRecDepth 100000
set_option maxHeartbeats 8000000
def loopS(lim:Int)(d:Nat)(h:LE)(k:Nat)(c:List Ins)(s:LS):LS:=
 ⟨[jmpB (c++[insB 13 0 0 0 d noB]) (k+1),⟨h.code,2,h.r,(k+2:Nat),(k+2+s.done.length+1:Nat)⟩]++s.done++[jmpB (s.code++[insB 14 0 0 0 d noB]) (k+1)],[],s.regs,s.vars⟩
theorem loopL_eq(lim:Int)(d:Nat)(h:LE)(enter:VM→VM)(b:LF)(k:Nat)(c:List Ins)(V:VM):loopL lim d h enter b k c V=loopS lim d h k c (b (k+2) [insB 16 0 d 0 lim noB] h.regs (enter V)):=rfl
theorem get_at{α:Type}{p r:List α}{x:α}{n:Nat}(h:p.length=n):(p++x::r)[n]? = some x:=by subst h;exact get_mid p r x
section
variable {B N:Nat} {m:BM} {E:LEnv} {w w':World} {G:List Nat} {bs:List Blk} {R d:Nat} {V:VM}
theorem BdAt.dep{d':Nat}{x:Int}(h:BdAt B N m E w G bs R d V)(hx:x=(d':Int))(hd:d'≤N):BdAt B N m E (w.setCell ⟨m.bb,4,none⟩ (.int .i64 x)) G bs R d' V∧FrL B m w (w.setCell ⟨m.bb,4,none⟩ (.int .i64 x)):=by
 subst hx
 refine h.turn (fun rv hrv=>?_) (fun k hk=>Below.heap_setCell _ _ _ _ hk) ((Below.refl _ _).setCell (p:=⟨m.bb,4,none⟩) (Nat.le_refl _) _) (Nat.le_refl _) h.cap ⟨Nat.le_refl _,h.small.1⟩ hd
 rw[mem_set hrv];rfl
end
theorem loop_rep(B:Nat)(m:BM)(E:LEnv)(t:Tree)(hb:BkL B m E t)(h:LE)(V':VM)(lim:Int)(b1 v1 nb:Nat)(N nh:Nat)(w:World)(G:List Nat)(pre:List Blk)(c:List Ins)(R d:Nat)(V:VM)(a:Option Addr)(cap:Nat)(hv:t.vld 98=true)(hlim:irI64 lim)(hst:BdC B N m E w G pre c R d V)(hr:InB B w t a)
 (hN:N+16*t.size+nh+10≤1000000) (hhr:irI64 h.r)
 (hcond:∀ (N':Nat) (w':World) (G':List Nat) (pre':List Blk),FrL B m w w'→BdC B N' m E w' G' pre' [] R d V→N'+nh≤1000000→Calls Tryz.prog 101 #[.int .i64 (d:Int),.pointer (some ⟨b1,0,none⟩),.pointer (some ⟨v1,0,none⟩),.pointer (some ⟨nb,0,none⟩)] w' (fun e w''=>e = .returned (.int .i64 h.r)∧BdC B (N'+nh) m E w'' G' pre' h.code h.regs d V∧FrL B m w' w''))
 (henter:∀ (N':Nat) (w':World) (G':List Nat) (pre':List Blk) (c':List Ins),FrL B m w w'→BdC B N' m E w' G' pre' c' h.regs d V→N'+1≤1000000→Calls Tryz.prog 104 #[.pointer (some ⟨v1,0,none⟩),.pointer (some ⟨b1,0,none⟩),.pointer (some ⟨nb,0,none⟩)] w' (fun e w''=>e = .returned (.tuple #[])∧BdC B (N'+1) m E w'' G' pre' c' h.regs d V'∧FrL B m w' w'')) :
 Calls Tryz.prog 100 #[ptrV m.bb,.int .i64 lim,t.val a cap,.func (.func 101) #[] #[.pointer (some ⟨b1,0,none⟩),.pointer (some ⟨v1,0,none⟩),.pointer (some ⟨nb,0,none⟩)],.func (.func 104) #[] #[.pointer (some ⟨v1,0,none⟩),.pointer (some ⟨b1,0,none⟩),.pointer (some ⟨nb,0,none⟩)]] w (SQ B (N+16*t.size+nh+10) m E w G d pre (loopS lim d h pre.length c (t.low E (d+1) (pre.length+2) [insB 16 0 d 0 lim noB] h.regs V'))):=by
 obtain⟨k,hk⟩:∃ k,pre.length=k:=⟨_,rfl⟩
 have HKK:=ξ hk
 obtain⟨k1,hk1e⟩:∃ n,k+1=n:=⟨_,rfl⟩
 have HK1:=ξ hk1e
 obtain⟨k2,hk2e⟩:∃ n,k1+1=n:=⟨_,rfl⟩
 have HK2:=ξ hk2e
 obtain⟨d1,hd1e⟩:∃ n,d+1=n:=⟨_,rfl⟩
 have HD1:=ξ hd1e
 obtain⟨s,hs⟩:∃ L,t.low E d1 k2 [insB 16 0 d 0 lim noB] h.regs V'=L:=⟨_,rfl⟩
 have HS0:=ξ hs
 obtain⟨k3,hk3e⟩:∃ n,k2+s.done.length+1=n:=⟨_,rfl⟩
 have HK3:=ξ hk3e
 obtain⟨c1,hc1⟩:∃ x,c++[insB 13 0 0 0 d noB]=x:=⟨_,rfl⟩
 have HC1:=ξ hc1
 have HLOW:Hid (loopS lim d h k c (t.low E (d+1) (k+2) [insB 16 0 d 0 lim noB] h.regs V')=⟨[jmpB c1 k1,⟨h.code,2,h.r,(k2:Int),(k3:Int)⟩]++s.done++[jmpB (s.code++[insB 14 0 0 0 d noB]) k1],[],s.regs,s.vars⟩):=by
  show _=_
  rw[show k+2=k2 by omega,hd1e,hs]
  unfold loopS
  rw[show k+2=k2 by omega,hk1e,hk3e,hc1]
 have HSZ:Hid (N+16*t.size+nh+10≤1000000):=hN
 obtain⟨n0,hn0⟩:∃ n,t.size=n:=⟨_,rfl⟩
 have HN0:=ξ hn0
 rw[hk]
 rw[hn0] at HSZ⊢
 obtain⟨W,hW⟩:∃ W:World,w.alloc (ndObj t a cap)=W:=⟨_,rfl⟩
 have HBW:Hid (Below w.heap.size w W):=by show Below _ _ _;rw[←hW];exact mem_alloc _ _
 have HX:Hid (W.heap[w.heap.size]? = some (ndObj t a cap)):=by show _=_;rw[←hW];exact mem_new _ _
 have HS:=ξ (show BdC B N m E W G pre c R d V from hst.keep HBW.out)
 have HF0:Hid (FrL B m w W):=FrL.of HBW.out hst.lt.2.2.2.2
 have HK:Hid (∀ w',FrL B m W w'→w'.heap[w.heap.size]? = some (ndObj t a cap)∧InB B w' t a∧FrL B m w w'):=fun w' hf =>
  ⟨hf.still _ _ HX.out (by show _≠_∧_;decide),hr.low (HF0.out.trans hf).low,HF0.out.trans hf⟩
 have HB:=ξ hb
 have HV:=ξ hv
 have HLIM:=ξ hlim
 have HHR:=ξ hhr
 have HCD:=ξ hcond
 have HEN:=ξ henter
 have hdN:d≤1000000:=by have:=hst.small.2.1;have:=hst.cap;omega
 have HDN:Hid (d≤N∧N≤1000000):=⟨hst.small.2.1,hst.cap⟩
 have x4:=HS.out.cells.2.2.2.2.1
 clear hb hv hlim hst hr hN hhr hcond henter hk hk1e hk2e hd1e hs hk3e hc1 hn0
 go_enter Tryz.func100,Tryz.ntmps100
 go_wp2_with fail
 clear x4 hW
 refine (emit_cur (insB 13 0 0 0 d noB) HS.out (ins_wf (by decide) i64_0 i64_0 i64_0 (i64_nat hdN) noB_size) (by have:=HSZ.out;omega)).mono ?_
 rintro e w1 ⟨rfl,hs,hf⟩
 have H1:Hid (BdC B (N+1) m E w1 G pre c1 R d V):=by show BdC _ _ _ _ _ _ _ _ _ _ _;rw[←HC1.out];exact hs
 have HF1:=ξ hf
 clear hs hf
 obtain⟨g0,hg0⟩:=BdAt.getG H1.out (i:=k) (by simp[HKK.out])
 have hgl:G.length=k+1:=by rw[BdAt.len H1.out];simp[HKK.out]
 have HG0:Hid (G[k]? = some g0∧G.length=k+1):=⟨hg0,hgl⟩
 have x6:=BdAt.cur6 H1.out hg0 hgl
 clear hg0 hgl
 go_wp2_with fail
 clear x6
 refine (start_at (n:=k1) H1.out (by simp[HKK.out];exact HK1.out) (by have:=HSZ.out;omega)).mono ?_
 rintro e w2 ⟨rfl,g1,hs,hf⟩
 have H2:=ξ hs
 have HF2:=ξ (FrL.trans HF1.out hf)
 have hk1:k1≤1000000:=by have h7:=HK1.out;have h8:=hs.small.2.2.1;have:=hs.cap;simp only[List.length_append,HKK.out,List.length_singleton] at h8;omega
 clear hs hf
 go_wp2_with fail
 refine (jump_any (i:=k) (g:=g0) (q:=opnB c1) (t:=k1) H2.out (get_left HG0.out.1) (by rw[List.append_assoc,←HKK.out];exact get_mid pre _ _) hk1).mono ?_
 rintro e w3 ⟨rfl,hs,hf⟩
 have H3:Hid (BdC B (N+1+1) m E w3 (G++[g1]) (pre++[jmpB c1 k1]) [] R d V):=by
  have e7:=set_mid pre [opnB []] (opnB c1) (jmpB c1 k1)
  rw[HKK.out] at e7
  rw[List.append_assoc,List.singleton_append,e7] at hs
  show BdAt B _ m E w3 _ _ _ _ _
  rw[List.append_assoc,List.singleton_append]
  exact hs
 have HF3:=ξ (FrL.trans HF2.out hf)
 clear hs hf
 have HCC:=ξ (HCD.out (N+1+1) w3 (G++[g1]) (pre++[jmpB c1 k1]) (HK.out _ HF3.out).2.2 H3.out (by have:=HSZ.out;omega))
 go_wp2_with fail
 refine HCC.out.mono ?_
 rintro e w4 ⟨rfl,hs,hf⟩
 have H4:=ξ hs
 have HF4:=ξ (FrL.trans HF3.out hf)
 clear hs hf HCC
 have HGL:Hid ((G++[g1])[k1]? = some g1∧(G++[g1]).length=k1+1):=by
  refine⟨?_,by simp[HG0.out.2];exact HK1.out⟩
  rw[show k1=G.length by rw[HG0.out.2];exact HK1.out.symm]
  exact get_mid G [] g1
 have HPL:Hid ((pre++[jmpB c1 k1]).length=k1):=by show _=_;simp[HKK.out];exact HK1.out
 go_wp2_with fail
 refine (branch_any H4.out HGL.out.1 HGL.out.2 (get_at HPL.out) HHR.out).mono ?_
 rintro e w5 ⟨rfl,hs,hf⟩
 have H5:Hid (BdAt B (N+1+1+nh) m E w5 (G++[g1]) (pre++[jmpB c1 k1]++[⟨h.code,2,h.r,0,0⟩]) h.regs d V):=by
  have e9:=set_mid (pre++[jmpB c1 k1]) [] (opnB h.code) ⟨h.code,2,h.r,0,0⟩
  rw[HPL.out] at e9
  rw[←e9]
  exact hs
 have HF5:=ξ (FrL.trans HF4.out hf)
 clear hs hf
 go_wp2_with fail
 refine (start_at (n:=k2) H5.out (by rw[List.length_append,HPL.out];exact HK2.out) (by have:=HSZ.out;omega)).mono ?_
 rintro e w6 ⟨rfl,g2,hs,hf⟩
 have H6:=ξ hs
 have HF6:=ξ (FrL.trans HF5.out hf)
 have hk2:k2≤1000000:=by have h7:=HK2.out;have h8:=hs.small.2.2.1;have:=hs.cap;rw[List.length_append,List.length_append,HPL.out] at h8;simp only[List.length_singleton] at h8;omega
 clear hs hf
 have HG1:Hid ((G++[g1]++[g2])[k1]? = some g1):=get_left HGL.out.1
 have HQ1:Hid ((pre++[jmpB c1 k1]++[(⟨h.code,2,h.r,0,0⟩:Blk)]++[opnB []])[k1]? = some ⟨h.code,2,h.r,0,0⟩):=by
  show _=_
  rw[List.append_assoc (pre++[jmpB c1 k1])];exact get_at HPL.out
 have HFLD:=ξ (BdAt.fld (u:=.int .i64 (k2:Int)) (o:=3) (q':=⟨h.code,2,h.r,(k2:Int),0⟩) H6.out HG1.out HQ1.out rfl ⟨by show (0:Int)≤2;decide,by show (2:Int)≤255;decide,HHR.out,i64_nat hk2,i64_0⟩ (fun _ _=>rfl))
 obtain⟨W7,hW7⟩:∃ X:World,w6.setCell ⟨g1,3,none⟩ (.int .i64 (k2:Int))=X:=⟨_,rfl⟩
 rw[hW7] at HFLD
 have H7:Hid (BdC B (N+1+1+nh+1) m E W7 (G++[g1]++[g2]) (pre++[jmpB c1 k1]++[⟨h.code,2,h.r,(k2:Int),0⟩]) [] h.regs d V):=by
  have h9:=HFLD.out.1
  have e9:=set_mid (pre++[jmpB c1 k1]) [opnB []] (⟨h.code,2,h.r,0,0⟩:Blk) ⟨h.code,2,h.r,(k2:Int),0⟩
  rw[HPL.out] at e9
  rw[List.append_assoc (pre++[jmpB c1 k1]),List.singleton_append,e9] at h9
  show BdAt B _ m E W7 _ _ _ _ _
  rw[List.append_assoc (pre++[jmpB c1 k1]),List.singleton_append]
  exact h9
 have HF7:=ξ (FrL.trans HF6.out HFLD.out.2)
 obtain⟨y3,y4,yf⟩:=BdAt.bcell H6.out HG1.out HQ1.out
 clear HFLD HQ1
 go_wp2_with fail
 clear y3 y4 yf hW7
 refine (emit_cur (insB 16 0 d 0 lim noB) H7.out (ins_wf (by decide) i64_0 (i64_nat hdN) i64_0 HLIM.out noB_size) (by have:=HSZ.out;omega)).mono ?_
 rintro e w8 ⟨rfl,hs,hf⟩
 have H8:Hid (BdC B (N+1+1+nh+1+1) m E w8 (G++[g1]++[g2]) (pre++[jmpB c1 k1]++[⟨h.code,2,h.r,(k2:Int),0⟩]) [insB 16 0 d 0 lim noB] h.regs d V):=hs
 have HF8:=ξ (FrL.trans HF7.out hf)
 clear hs hf
 have HCC:=ξ (HEN.out (N+1+1+nh+1+1) w8 (G++[g1]++[g2]) (pre++[jmpB c1 k1]++[⟨h.code,2,h.r,(k2:Int),0⟩]) [insB 16 0 d 0 lim noB] (HK.out _ HF8.out).2.2 H8.out (by have:=HSZ.out;omega))
 go_wp2_with fail
 refine HCC.out.mono ?_
 rintro e w9 ⟨rfl,hs,hf⟩
 have H9:=ξ hs
 have HF9:=ξ (FrL.trans HF8.out hf)
 clear hs hf HCC
 have HDD:=ξ (BdAt.dep (d':=d1) (x:=(d:Int)+1) H9.out (by have:=HD1.out;omega) (by have:=HD1.out;have:=HDN.out;omega))
 obtain⟨W10,hW10⟩:∃ X:World,w9.setCell ⟨m.bb,4,none⟩ (.int .i64 ((d:Int)+1))=X:=⟨_,rfl⟩
 rw[hW10] at HDD
 have H10:=ξ HDD.out.1
 have HF10:=ξ (FrL.trans HF9.out HDD.out.2)
 have x4:=(BdAt.cells H9.out).2.2.2.2.1
 have xf:=(BdAt.cells H9.out).2.2.2.2.2.2
 obtain⟨x0,x1,x2,x3⟩:=nd_cells (HK.out _ HF10.out).1
 have h9:=HB.out (N+1+1+nh+1+1+1) W10 (G++[g1]++[g2]) (pre++[jmpB c1 k1]++[⟨h.code,2,h.r,(k2:Int),0⟩]) [insB 16 0 d 0 lim noB] h.regs d1 V' a cap HV.out H10.out (HK.out _ HF10.out).2.1 (by have:=HSZ.out;have:=HN0.out;omega)
 rw[show (pre++[jmpB c1 k1]++[(⟨h.code,2,h.r,(k2:Int),0⟩:Blk)]).length=k2 by rw[List.length_append,HPL.out];exact HK2.out,HS0.out,HN0.out] at h9
 have HBD:=ξ h9
 clear h9 HDD
 go_wp2_with fail
 clear x0 x1 x2 x3 x4 xf hW10
 refine HBD.out.mono ?_
 rintro e w11 ⟨rfl,G1,hs,hf⟩
 clear HBD
 have H11:=ξ hs
 have HF11:=ξ (FrL.trans HF10.out hf)
 clear hs hf
 have HDD:=ξ (BdAt.dep (d':=d) (x:=(d1:Int)-1) H11.out (by have:=HD1.out;omega) (by have:=HDN.out;omega))
 obtain⟨W12,hW12⟩:∃ X:World,w11.setCell ⟨m.bb,4,none⟩ (.int .i64 ((d1:Int)-1))=X:=⟨_,rfl⟩
 rw[hW12] at HDD
 have H12:Hid (BdC B (N+1+1+nh+1+1+1+16*n0) m E W12 (G++[g1]++[g2]++G1) (pre++[jmpB c1 k1]++[⟨h.code,2,h.r,(k2:Int),0⟩]++s.done) s.code s.regs d s.vars):=HDD.out.1
 have HF12:=ξ (FrL.trans HF11.out HDD.out.2)
 have x4:=(BdAt.cells H11.out).2.2.2.2.1
 have xf:=(BdAt.cells H11.out).2.2.2.2.2.2
 have hd1N:d1≤1000000:=by have:=HD1.out;have:=HDN.out;have:=HSZ.out;omega
 clear HDD
 go_wp2_with fail
 clear x4 xf hW12 hd1N
 refine (emit_cur (insB 14 0 0 0 d noB) H12.out (ins_wf (by decide) i64_0 i64_0 i64_0 (i64_nat hdN) noB_size) (by have:=HSZ.out;omega)).mono ?_
 rintro e w13 ⟨rfl,hs,hf⟩
 have H13:=ξ hs
 have HF13:=ξ (FrL.trans HF12.out hf)
 obtain⟨i1,hi1⟩:∃ i,k2+s.done.length=i:=⟨_,rfl⟩
 have HI1:=ξ hi1
 have HP2:Hid ((pre++[jmpB c1 k1]++[(⟨h.code,2,h.r,(k2:Int),0⟩:Blk)]++s.done).length=i1):=by show _=_;rw[List.length_append,List.length_append,HPL.out];have:=HK2.out;simp only[List.length_singleton];omega
 obtain⟨gl,hgl⟩:=BdAt.getG hs (i:=i1) (by rw[List.length_append,HP2.out];simp)
 have hgll:(G++[g1]++[g2]++G1).length=i1+1:=by rw[BdAt.len hs,List.length_append,HP2.out];rfl
 have HGLL:Hid ((G++[g1]++[g2]++G1)[i1]? = some gl):=hgl
 have x6:=BdAt.cur6 hs hgl hgll
 clear hs hf hi1 hgl hgll
 go_wp2_with fail
 clear x6
 refine (jump_any (i:=i1) (g:=gl) (q:=opnB (s.code++[insB 14 0 0 0 d noB])) (t:=k1) H13.out HGLL.out (get_at HP2.out) hk1).mono ?_
 rintro e w14 ⟨rfl,hs,hf⟩
 have H14:Hid (BdAt B (N+1+1+nh+1+1+1+16*n0+1) m E w14 (G++[g1]++[g2]++G1) (pre++[jmpB c1 k1]++[⟨h.code,2,h.r,(k2:Int),0⟩]++s.done++[jmpB (s.code++[insB 14 0 0 0 d noB]) k1]) s.regs d s.vars):=by
  have e9:=set_mid (pre++[jmpB c1 k1]++[(⟨h.code,2,h.r,(k2:Int),0⟩:Blk)]++s.done) [] (opnB (s.code++[insB 14 0 0 0 d noB])) (jmpB (s.code++[insB 14 0 0 0 d noB]) k1)
  rw[HP2.out] at e9
  rw[←e9]
  exact hs
 have HF14:=ξ (FrL.trans HF13.out hf)
 clear hs hf
 go_wp2_with fail
 refine (start_at (n:=k3) H14.out (by rw[List.length_append,HP2.out];have:=HI1.out;have:=HK3.out;simp only[List.length_singleton];omega) (by have:=HSZ.out;omega)).mono ?_
 rintro e w15 ⟨rfl,g3,hs,hf⟩
 have H15:=ξ hs
 have HF15:=ξ (FrL.trans HF14.out hf)
 have hk3:k3≤1000000:=by have h8:=hs.small.2.2.1;have:=hs.cap;rw[List.length_append,List.length_append,HP2.out] at h8;have:=HI1.out;have:=HK3.out;simp only[List.length_singleton] at h8;omega
 clear hs hf
 have HG3:Hid ((G++[g1]++[g2]++G1++[g3])[k1]? = some g1):=get_left (get_left HG1.out)
 have HLE:Hid (∀ q:Blk,pre++[jmpB c1 k1]++[q]++s.done++[jmpB (s.code++[insB 14 0 0 0 d noB]) k1]++[opnB []]=(pre++[jmpB c1 k1])++q::(s.done++[jmpB (s.code++[insB 14 0 0 0 d noB]) k1]++[opnB []])):=fun q=>by simp
 have HQ3:Hid ((pre++[jmpB c1 k1]++[(⟨h.code,2,h.r,(k2:Int),0⟩:Blk)]++s.done++[jmpB (s.code++[insB 14 0 0 0 d noB]) k1]++[opnB []])[k1]? = some ⟨h.code,2,h.r,(k2:Int),0⟩):=by
  show _=_
  rw[HLE.out];exact get_at HPL.out
 have HFLD:=ξ (BdAt.fld (u:=.int .i64 (k3:Int)) (o:=4) (q':=⟨h.code,2,h.r,(k2:Int),(k3:Int)⟩) H15.out HG3.out HQ3.out rfl ⟨by show (0:Int)≤2;decide,by show (2:Int)≤255;decide,HHR.out,i64_nat hk2,i64_nat hk3⟩ (fun _ _=>rfl))
 obtain⟨W16,hW16⟩:∃ X:World,w15.setCell ⟨g1,4,none⟩ (.int .i64 (k3:Int))=X:=⟨_,rfl⟩
 rw[hW16] at HFLD
 have H16:Hid (BdAt B (N+1+1+nh+1+1+1+16*n0+1+1) m E W16 (G++[g1]++[g2]++G1++[g3]) (pre++[jmpB c1 k1]++[⟨h.code,2,h.r,(k2:Int),(k3:Int)⟩]++s.done++[jmpB (s.code++[insB 14 0 0 0 d noB]) k1]++[opnB []]) s.regs d s.vars):=by
  have h9:=HFLD.out.1
  have e9:=set_mid (pre++[jmpB c1 k1]) (s.done++[jmpB (s.code++[insB 14 0 0 0 d noB]) k1]++[opnB []]) (⟨h.code,2,h.r,(k2:Int),0⟩:Blk) ⟨h.code,2,h.r,(k2:Int),(k3:Int)⟩
  rw[HPL.out] at e9
  rw[HLE.out,e9] at h9
  show BdAt B _ m E W16 _ _ _ _ _
  rw[HLE.out]
  exact h9
 have HF16:=ξ (FrL.trans HF15.out HFLD.out.2)
 obtain⟨y3,y4,yf⟩:=BdAt.bcell H15.out HG3.out HQ3.out
 clear HFLD HQ3
 go_wp2_with fail
 clear y3 y4 yf hW16
 go_end0
 rw[HLOW.out]
 refine⟨rfl,[g1]++[g2]++G1++[g3],?_,HF0.out.trans HF16.out⟩
 have h9:=BdAt.mono H16.out (show N+1+1+nh+1+1+1+16*n0+1+1≤N+16*n0+nh+10 by omega) HSZ.out
 show BdAt B _ m E W16 _ _ _ _ _
 simp only[List.append_assoc,List.cons_append,List.nil_append,List.singleton_append] at h9⊢
 exact h9
theorem loop_whl(B:Nat)(m:BM)(E:LEnv)(t:Tree)(hb:BkL B m E t)(h:LE)(V':VM)(lim:Int)(b1 nb:Nat)(N nh:Nat)(w:World)(G:List Nat)(pre:List Blk)(c:List Ins)(R d:Nat)(V:VM)(a:Option Addr)(cap:Nat)(hv:t.vld 98=true)(hlim:irI64 lim)(hst:BdC B N m E w G pre c R d V)(hr:InB B w t a)
 (hN:N+16*t.size+nh+10≤1000000) (hhr:irI64 h.r)
 (hcond:∀ (N':Nat) (w':World) (G':List Nat) (pre':List Blk),FrL B m w w'→BdC B N' m E w' G' pre' [] R d V→N'+nh≤1000000→Calls Tryz.prog 105 #[.int .i64 (d:Int),.pointer (some ⟨b1,0,none⟩),.pointer (some ⟨nb,0,none⟩)] w' (fun e w''=>e = .returned (.int .i64 h.r)∧BdC B (N'+nh) m E w'' G' pre' h.code h.regs d V∧FrL B m w' w''))
 (henter:∀ (N':Nat) (w':World) (G':List Nat) (pre':List Blk) (c':List Ins),FrL B m w w'→BdC B N' m E w' G' pre' c' h.regs d V→N'+1≤1000000→Calls Tryz.prog 106 #[] w' (fun e w''=>e = .returned (.tuple #[])∧BdC B (N'+1) m E w'' G' pre' c' h.regs d V'∧FrL B m w' w'')) :
 Calls Tryz.prog 100 #[ptrV m.bb,.int .i64 lim,t.val a cap,.func (.func 105) #[] #[.pointer (some ⟨b1,0,none⟩),.pointer (some ⟨nb,0,none⟩)],.func (.func 106) #[] #[]] w (SQ B (N+16*t.size+nh+10) m E w G d pre (loopS lim d h pre.length c (t.low E (d+1) (pre.length+2) [insB 16 0 d 0 lim noB] h.regs V'))):=by
 obtain⟨k,hk⟩:∃ k,pre.length=k:=⟨_,rfl⟩
 have HKK:=ξ hk
 obtain⟨k1,hk1e⟩:∃ n,k+1=n:=⟨_,rfl⟩
 have HK1:=ξ hk1e
 obtain⟨k2,hk2e⟩:∃ n,k1+1=n:=⟨_,rfl⟩
 have HK2:=ξ hk2e
 obtain⟨d1,hd1e⟩:∃ n,d+1=n:=⟨_,rfl⟩
 have HD1:=ξ hd1e
 obtain⟨s,hs⟩:∃ L,t.low E d1 k2 [insB 16 0 d 0 lim noB] h.regs V'=L:=⟨_,rfl⟩
 have HS0:=ξ hs
 obtain⟨k3,hk3e⟩:∃ n,k2+s.done.length+1=n:=⟨_,rfl⟩
 have HK3:=ξ hk3e
 obtain⟨c1,hc1⟩:∃ x,c++[insB 13 0 0 0 d noB]=x:=⟨_,rfl⟩
 have HC1:=ξ hc1
 have HLOW:Hid (loopS lim d h k c (t.low E (d+1) (k+2) [insB 16 0 d 0 lim noB] h.regs V')=⟨[jmpB c1 k1,⟨h.code,2,h.r,(k2:Int),(k3:Int)⟩]++s.done++[jmpB (s.code++[insB 14 0 0 0 d noB]) k1],[],s.regs,s.vars⟩):=by
  show _=_
  rw[show k+2=k2 by omega,hd1e,hs]
  unfold loopS
  rw[show k+2=k2 by omega,hk1e,hk3e,hc1]
 have HSZ:Hid (N+16*t.size+nh+10≤1000000):=hN
 obtain⟨n0,hn0⟩:∃ n,t.size=n:=⟨_,rfl⟩
 have HN0:=ξ hn0
 rw[hk]
 rw[hn0] at HSZ⊢
 obtain⟨W,hW⟩:∃ W:World,w.alloc (ndObj t a cap)=W:=⟨_,rfl⟩
 have HBW:Hid (Below w.heap.size w W):=by show Below _ _ _;rw[←hW];exact mem_alloc _ _
 have HX:Hid (W.heap[w.heap.size]? = some (ndObj t a cap)):=by show _=_;rw[←hW];exact mem_new _ _
 have HS:=ξ (show BdC B N m E W G pre c R d V from hst.keep HBW.out)
 have HF0:Hid (FrL B m w W):=FrL.of HBW.out hst.lt.2.2.2.2
 have HK:Hid (∀ w',FrL B m W w'→w'.heap[w.heap.size]? = some (ndObj t a cap)∧InB B w' t a∧FrL B m w w'):=fun w' hf =>
  ⟨hf.still _ _ HX.out (by show _≠_∧_;decide),hr.low (HF0.out.trans hf).low,HF0.out.trans hf⟩
 have HB:=ξ hb
 have HV:=ξ hv
 have HLIM:=ξ hlim
 have HHR:=ξ hhr
 have HCD:=ξ hcond
 have HEN:=ξ henter
 have hdN:d≤1000000:=by have:=hst.small.2.1;have:=hst.cap;omega
 have HDN:Hid (d≤N∧N≤1000000):=⟨hst.small.2.1,hst.cap⟩
 have x4:=HS.out.cells.2.2.2.2.1
 clear hb hv hlim hst hr hN hhr hcond henter hk hk1e hk2e hd1e hs hk3e hc1 hn0
 go_enter Tryz.func100,Tryz.ntmps100
 go_wp2_with fail
 clear x4 hW
 refine (emit_cur (insB 13 0 0 0 d noB) HS.out (ins_wf (by decide) i64_0 i64_0 i64_0 (i64_nat hdN) noB_size) (by have:=HSZ.out;omega)).mono ?_
 rintro e w1 ⟨rfl,hs,hf⟩
 have H1:Hid (BdC B (N+1) m E w1 G pre c1 R d V):=by show BdC _ _ _ _ _ _ _ _ _ _ _;rw[←HC1.out];exact hs
 have HF1:=ξ hf
 clear hs hf
 obtain⟨g0,hg0⟩:=BdAt.getG H1.out (i:=k) (by simp[HKK.out])
 have hgl:G.length=k+1:=by rw[BdAt.len H1.out];simp[HKK.out]
 have HG0:Hid (G[k]? = some g0∧G.length=k+1):=⟨hg0,hgl⟩
 have x6:=BdAt.cur6 H1.out hg0 hgl
 clear hg0 hgl
 go_wp2_with fail
 clear x6
 refine (start_at (n:=k1) H1.out (by simp[HKK.out];exact HK1.out) (by have:=HSZ.out;omega)).mono ?_
 rintro e w2 ⟨rfl,g1,hs,hf⟩
 have H2:=ξ hs
 have HF2:=ξ (FrL.trans HF1.out hf)
 have hk1:k1≤1000000:=by have h7:=HK1.out;have h8:=hs.small.2.2.1;have:=hs.cap;simp only[List.length_append,HKK.out,List.length_singleton] at h8;omega
 clear hs hf
 go_wp2_with fail
 refine (jump_any (i:=k) (g:=g0) (q:=opnB c1) (t:=k1) H2.out (get_left HG0.out.1) (by rw[List.append_assoc,←HKK.out];exact get_mid pre _ _) hk1).mono ?_
 rintro e w3 ⟨rfl,hs,hf⟩
 have H3:Hid (BdC B (N+1+1) m E w3 (G++[g1]) (pre++[jmpB c1 k1]) [] R d V):=by
  have e7:=set_mid pre [opnB []] (opnB c1) (jmpB c1 k1)
  rw[HKK.out] at e7
  rw[List.append_assoc,List.singleton_append,e7] at hs
  show BdAt B _ m E w3 _ _ _ _ _
  rw[List.append_assoc,List.singleton_append]
  exact hs
 have HF3:=ξ (FrL.trans HF2.out hf)
 clear hs hf
 have HCC:=ξ (HCD.out (N+1+1) w3 (G++[g1]) (pre++[jmpB c1 k1]) (HK.out _ HF3.out).2.2 H3.out (by have:=HSZ.out;omega))
 go_wp2_with fail
 refine HCC.out.mono ?_
 rintro e w4 ⟨rfl,hs,hf⟩
 have H4:=ξ hs
 have HF4:=ξ (FrL.trans HF3.out hf)
 clear hs hf HCC
 have HGL:Hid ((G++[g1])[k1]? = some g1∧(G++[g1]).length=k1+1):=by
  refine⟨?_,by simp[HG0.out.2];exact HK1.out⟩
  rw[show k1=G.length by rw[HG0.out.2];exact HK1.out.symm]
  exact get_mid G [] g1
 have HPL:Hid ((pre++[jmpB c1 k1]).length=k1):=by show _=_;simp[HKK.out];exact HK1.out
 go_wp2_with fail
 refine (branch_any H4.out HGL.out.1 HGL.out.2 (get_at HPL.out) HHR.out).mono ?_
 rintro e w5 ⟨rfl,hs,hf⟩
 have H5:Hid (BdAt B (N+1+1+nh) m E w5 (G++[g1]) (pre++[jmpB c1 k1]++[⟨h.code,2,h.r,0,0⟩]) h.regs d V):=by
  have e9:=set_mid (pre++[jmpB c1 k1]) [] (opnB h.code) ⟨h.code,2,h.r,0,0⟩
  rw[HPL.out] at e9
  rw[←e9]
  exact hs
 have HF5:=ξ (FrL.trans HF4.out hf)
 clear hs hf
 go_wp2_with fail
 refine (start_at (n:=k2) H5.out (by rw[List.length_append,HPL.out];exact HK2.out) (by have:=HSZ.out;omega)).mono ?_
 rintro e w6 ⟨rfl,g2,hs,hf⟩
 have H6:=ξ hs
 have HF6:=ξ (FrL.trans HF5.out hf)
 have hk2:k2≤1000000:=by have h7:=HK2.out;have h8:=hs.small.2.2.1;have:=hs.cap;rw[List.length_append,List.length_append,HPL.out] at h8;simp only[List.length_singleton] at h8;omega
 clear hs hf
 have HG1:Hid ((G++[g1]++[g2])[k1]? = some g1):=get_left HGL.out.1
 have HQ1:Hid ((pre++[jmpB c1 k1]++[(⟨h.code,2,h.r,0,0⟩:Blk)]++[opnB []])[k1]? = some ⟨h.code,2,h.r,0,0⟩):=by
  show _=_
  rw[List.append_assoc (pre++[jmpB c1 k1])];exact get_at HPL.out
 have HFLD:=ξ (BdAt.fld (u:=.int .i64 (k2:Int)) (o:=3) (q':=⟨h.code,2,h.r,(k2:Int),0⟩) H6.out HG1.out HQ1.out rfl ⟨by show (0:Int)≤2;decide,by show (2:Int)≤255;decide,HHR.out,i64_nat hk2,i64_0⟩ (fun _ _=>rfl))
 obtain⟨W7,hW7⟩:∃ X:World,w6.setCell ⟨g1,3,none⟩ (.int .i64 (k2:Int))=X:=⟨_,rfl⟩
 rw[hW7] at HFLD
 have H7:Hid (BdC B (N+1+1+nh+1) m E W7 (G++[g1]++[g2]) (pre++[jmpB c1 k1]++[⟨h.code,2,h.r,(k2:Int),0⟩]) [] h.regs d V):=by
  have h9:=HFLD.out.1
  have e9:=set_mid (pre++[jmpB c1 k1]) [opnB []] (⟨h.code,2,h.r,0,0⟩:Blk) ⟨h.code,2,h.r,(k2:Int),0⟩
  rw[HPL.out] at e9
  rw[List.append_assoc (pre++[jmpB c1 k1]),List.singleton_append,e9] at h9
  show BdAt B _ m E W7 _ _ _ _ _
  rw[List.append_assoc (pre++[jmpB c1 k1]),List.singleton_append]
  exact h9
 have HF7:=ξ (FrL.trans HF6.out HFLD.out.2)
 obtain⟨y3,y4,yf⟩:=BdAt.bcell H6.out HG1.out HQ1.out
 clear HFLD HQ1
 go_wp2_with fail
 clear y3 y4 yf hW7
 refine (emit_cur (insB 16 0 d 0 lim noB) H7.out (ins_wf (by decide) i64_0 (i64_nat hdN) i64_0 HLIM.out noB_size) (by have:=HSZ.out;omega)).mono ?_
 rintro e w8 ⟨rfl,hs,hf⟩
 have H8:Hid (BdC B (N+1+1+nh+1+1) m E w8 (G++[g1]++[g2]) (pre++[jmpB c1 k1]++[⟨h.code,2,h.r,(k2:Int),0⟩]) [insB 16 0 d 0 lim noB] h.regs d V):=hs
 have HF8:=ξ (FrL.trans HF7.out hf)
 clear hs hf
 have HCC:=ξ (HEN.out (N+1+1+nh+1+1) w8 (G++[g1]++[g2]) (pre++[jmpB c1 k1]++[⟨h.code,2,h.r,(k2:Int),0⟩]) [insB 16 0 d 0 lim noB] (HK.out _ HF8.out).2.2 H8.out (by have:=HSZ.out;omega))
 go_wp2_with fail
 refine HCC.out.mono ?_
 rintro e w9 ⟨rfl,hs,hf⟩
 have H9:=ξ hs
 have HF9:=ξ (FrL.trans HF8.out hf)
 clear hs hf HCC
 have HDD:=ξ (BdAt.dep (d':=d1) (x:=(d:Int)+1) H9.out (by have:=HD1.out;omega) (by have:=HD1.out;have:=HDN.out;omega))
 obtain⟨W10,hW10⟩:∃ X:World,w9.setCell ⟨m.bb,4,none⟩ (.int .i64 ((d:Int)+1))=X:=⟨_,rfl⟩
 rw[hW10] at HDD
 have H10:=ξ HDD.out.1
 have HF10:=ξ (FrL.trans HF9.out HDD.out.2)
 have x4:=(BdAt.cells H9.out).2.2.2.2.1
 have xf:=(BdAt.cells H9.out).2.2.2.2.2.2
 obtain⟨x0,x1,x2,x3⟩:=nd_cells (HK.out _ HF10.out).1
 have h9:=HB.out (N+1+1+nh+1+1+1) W10 (G++[g1]++[g2]) (pre++[jmpB c1 k1]++[⟨h.code,2,h.r,(k2:Int),0⟩]) [insB 16 0 d 0 lim noB] h.regs d1 V' a cap HV.out H10.out (HK.out _ HF10.out).2.1 (by have:=HSZ.out;have:=HN0.out;omega)
 rw[show (pre++[jmpB c1 k1]++[(⟨h.code,2,h.r,(k2:Int),0⟩:Blk)]).length=k2 by rw[List.length_append,HPL.out];exact HK2.out,HS0.out,HN0.out] at h9
 have HBD:=ξ h9
 clear h9 HDD
 go_wp2_with fail
 clear x0 x1 x2 x3 x4 xf hW10
 refine HBD.out.mono ?_
 rintro e w11 ⟨rfl,G1,hs,hf⟩
 clear HBD
 have H11:=ξ hs
 have HF11:=ξ (FrL.trans HF10.out hf)
 clear hs hf
 have HDD:=ξ (BdAt.dep (d':=d) (x:=(d1:Int)-1) H11.out (by have:=HD1.out;omega) (by have:=HDN.out;omega))
 obtain⟨W12,hW12⟩:∃ X:World,w11.setCell ⟨m.bb,4,none⟩ (.int .i64 ((d1:Int)-1))=X:=⟨_,rfl⟩
 rw[hW12] at HDD
 have H12:Hid (BdC B (N+1+1+nh+1+1+1+16*n0) m E W12 (G++[g1]++[g2]++G1) (pre++[jmpB c1 k1]++[⟨h.code,2,h.r,(k2:Int),0⟩]++s.done) s.code s.regs d s.vars):=HDD.out.1
 have HF12:=ξ (FrL.trans HF11.out HDD.out.2)
 have x4:=(BdAt.cells H11.out).2.2.2.2.1
 have xf:=(BdAt.cells H11.out).2.2.2.2.2.2
 have hd1N:d1≤1000000:=by have:=HD1.out;have:=HDN.out;have:=HSZ.out;omega
 clear HDD
 go_wp2_with fail
 clear x4 xf hW12 hd1N
 refine (emit_cur (insB 14 0 0 0 d noB) H12.out (ins_wf (by decide) i64_0 i64_0 i64_0 (i64_nat hdN) noB_size) (by have:=HSZ.out;omega)).mono ?_
 rintro e w13 ⟨rfl,hs,hf⟩
 have H13:=ξ hs
 have HF13:=ξ (FrL.trans HF12.out hf)
 obtain⟨i1,hi1⟩:∃ i,k2+s.done.length=i:=⟨_,rfl⟩
 have HI1:=ξ hi1
 have HP2:Hid ((pre++[jmpB c1 k1]++[(⟨h.code,2,h.r,(k2:Int),0⟩:Blk)]++s.done).length=i1):=by show _=_;rw[List.length_append,List.length_append,HPL.out];have:=HK2.out;simp only[List.length_singleton];omega
 obtain⟨gl,hgl⟩:=BdAt.getG hs (i:=i1) (by rw[List.length_append,HP2.out];simp)
 have hgll:(G++[g1]++[g2]++G1).length=i1+1:=by rw[BdAt.len hs,List.length_append,HP2.out];rfl
 have HGLL:Hid ((G++[g1]++[g2]++G1)[i1]? = some gl):=hgl
 have x6:=BdAt.cur6 hs hgl hgll
 clear hs hf hi1 hgl hgll
 go_wp2_with fail
 clear x6
 refine (jump_any (i:=i1) (g:=gl) (q:=opnB (s.code++[insB 14 0 0 0 d noB])) (t:=k1) H13.out HGLL.out (get_at HP2.out) hk1).mono ?_
 rintro e w14 ⟨rfl,hs,hf⟩
 have H14:Hid (BdAt B (N+1+1+nh+1+1+1+16*n0+1) m E w14 (G++[g1]++[g2]++G1) (pre++[jmpB c1 k1]++[⟨h.code,2,h.r,(k2:Int),0⟩]++s.done++[jmpB (s.code++[insB 14 0 0 0 d noB]) k1]) s.regs d s.vars):=by
  have e9:=set_mid (pre++[jmpB c1 k1]++[(⟨h.code,2,h.r,(k2:Int),0⟩:Blk)]++s.done) [] (opnB (s.code++[insB 14 0 0 0 d noB])) (jmpB (s.code++[insB 14 0 0 0 d noB]) k1)
  rw[HP2.out] at e9
  rw[←e9]
  exact hs
 have HF14:=ξ (FrL.trans HF13.out hf)
 clear hs hf
 go_wp2_with fail
 refine (start_at (n:=k3) H14.out (by rw[List.length_append,HP2.out];have:=HI1.out;have:=HK3.out;simp only[List.length_singleton];omega) (by have:=HSZ.out;omega)).mono ?_
 rintro e w15 ⟨rfl,g3,hs,hf⟩
 have H15:=ξ hs
 have HF15:=ξ (FrL.trans HF14.out hf)
 have hk3:k3≤1000000:=by have h8:=hs.small.2.2.1;have:=hs.cap;rw[List.length_append,List.length_append,HP2.out] at h8;have:=HI1.out;have:=HK3.out;simp only[List.length_singleton] at h8;omega
 clear hs hf
 have HG3:Hid ((G++[g1]++[g2]++G1++[g3])[k1]? = some g1):=get_left (get_left HG1.out)
 have HLE:Hid (∀ q:Blk,pre++[jmpB c1 k1]++[q]++s.done++[jmpB (s.code++[insB 14 0 0 0 d noB]) k1]++[opnB []]=(pre++[jmpB c1 k1])++q::(s.done++[jmpB (s.code++[insB 14 0 0 0 d noB]) k1]++[opnB []])):=fun q=>by simp
 have HQ3:Hid ((pre++[jmpB c1 k1]++[(⟨h.code,2,h.r,(k2:Int),0⟩:Blk)]++s.done++[jmpB (s.code++[insB 14 0 0 0 d noB]) k1]++[opnB []])[k1]? = some ⟨h.code,2,h.r,(k2:Int),0⟩):=by
  show _=_
  rw[HLE.out];exact get_at HPL.out
 have HFLD:=ξ (BdAt.fld (u:=.int .i64 (k3:Int)) (o:=4) (q':=⟨h.code,2,h.r,(k2:Int),(k3:Int)⟩) H15.out HG3.out HQ3.out rfl ⟨by show (0:Int)≤2;decide,by show (2:Int)≤255;decide,HHR.out,i64_nat hk2,i64_nat hk3⟩ (fun _ _=>rfl))
 obtain⟨W16,hW16⟩:∃ X:World,w15.setCell ⟨g1,4,none⟩ (.int .i64 (k3:Int))=X:=⟨_,rfl⟩
 rw[hW16] at HFLD
 have H16:Hid (BdAt B (N+1+1+nh+1+1+1+16*n0+1+1) m E W16 (G++[g1]++[g2]++G1++[g3]) (pre++[jmpB c1 k1]++[⟨h.code,2,h.r,(k2:Int),(k3:Int)⟩]++s.done++[jmpB (s.code++[insB 14 0 0 0 d noB]) k1]++[opnB []]) s.regs d s.vars):=by
  have h9:=HFLD.out.1
  have e9:=set_mid (pre++[jmpB c1 k1]) (s.done++[jmpB (s.code++[insB 14 0 0 0 d noB]) k1]++[opnB []]) (⟨h.code,2,h.r,(k2:Int),0⟩:Blk) ⟨h.code,2,h.r,(k2:Int),(k3:Int)⟩
  rw[HPL.out] at e9
  rw[HLE.out,e9] at h9
  show BdAt B _ m E W16 _ _ _ _ _
  rw[HLE.out]
  exact h9
 have HF16:=ξ (FrL.trans HF15.out HFLD.out.2)
 obtain⟨y3,y4,yf⟩:=BdAt.bcell H15.out HG3.out HQ3.out
 clear HFLD HQ3
 go_wp2_with fail
 clear y3 y4 yf hW16
 go_end0
 rw[HLOW.out]
 refine⟨rfl,[g1]++[g2]++G1++[g3],?_,HF0.out.trans HF16.out⟩
 have h9:=BdAt.mono H16.out (show N+1+1+nh+1+1+1+16*n0+1+1≤N+16*n0+nh+10 by omega) HSZ.out
 show BdAt B _ m E W16 _ _ _ _ _
 simp only[List.append_assoc,List.cons_append,List.nil_append,List.singleton_append] at h9⊢
 exact h9
