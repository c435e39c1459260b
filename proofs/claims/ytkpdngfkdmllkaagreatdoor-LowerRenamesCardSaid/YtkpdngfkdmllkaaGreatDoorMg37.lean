/- Part. -/
import Derived.Test.YtkpdngfkdmllkaaGreatDoorLowRep
namespace Go.Proofs.YtkpdngfkdmllkaaGreatDoor
set_option linter.unusedVariables false
set_option linter.unusedSimpArgs false
open Go.RowKit Go.Maps
set_option maxRecDepth 100000
set_option maxHeartbeats 8000000
theorem repeat_low(B:Nat)(m:BM)(E:LEnv)(t:Tree)(hb:BkL B m E (t.kid 0))(N:Nat)(w:World)(G:List Nat)(pre:List Blk)(c:List Ins)(R d:Nat)(V:VM)(a:Option Addr)(cap:Nat)(hv:t.vld 115=true)(hkd:t.kind=42)(h:BdC B N m E w G pre c R d V)(hr:InB B w t a)(hN:N+16*t.size≤1000000) :
 Calls Tryz.prog 79 #[ptrV m.bb,t.val a cap] w (SQ B (N+16*t.size) m E w G d pre (t.low E d pre.length c R V)):=by
 obtain⟨_,_,hlen,hkids⟩:=vldS hv
 have hfit:=hr.fits
 have hns:=hfit.name
 rw[hkd] at hlen hkids
 replace hlen:t.len=1:=hlen
 have hl0:0<t.len:=by omega
 have hl0i:(0:Int)<(t.len:Int):=by omega
 have HV0:Hid ((t.kid 0).vld 98=true):=hkids 0 hl0
 obtain⟨s,hs⟩:∃ s,loopS t.num d (forH t.num d R) pre.length c ((t.kid 0).low E (d+1) (pre.length+2) [insB 16 0 d 0 t.num noB] (forH t.num d R).regs (upd V t.name (some R)))=s:=⟨_,rfl⟩
 have HS0:=ξ hs
 have HLOW:Hid (t.low E d pre.length c R V=⟨s.done,s.code,s.regs,upd s.vars t.name none⟩):=by
  show _=_
  have e1:kidL E t 0 (d+1)=(t.kid 0).low E (d+1):=by unfold kidL;rw[if_pos hl0]
  rw[Tree.low_eq,if_neg (by omega),hkd]
  unfold lowS
  rw[if_neg (by decide),if_neg (by decide),if_pos rfl,e1,loopL_eq,hs]
 have HSK:Hid (1+(t.kid 0).size≤t.size):=by show _≤_;have:=Tree.size_kid hl0;omega
 have HSZ:Hid (N+16*t.size≤1000000):=hN
 have HNUM:=ξ hfit.num
 obtain⟨kb,ko,rfl,hkb,pa,pc,hnd,hrp⟩:=kid_in hr hl0
 rw[Nat.zero_mul,Nat.add_zero] at hnd
 obtain⟨W1,hW1⟩:∃ W:World,w.alloc (.cells #[ptrV m.bb] 106)=W:=⟨_,rfl⟩
 obtain⟨W,hW⟩:∃ X:World,W1.alloc (ndObj t (some ⟨kb,ko,none⟩) cap)=X:=⟨_,rfl⟩
 have HB1:Hid (Below w.heap.size w W1):=by show Below _ _ _;rw[←hW1];exact mem_alloc _ _
 have HB2:Hid (Below W1.heap.size W1 W):=by show Below _ _ _;rw[←hW];exact mem_alloc _ _
 have HX1:Hid (W1.heap[w.heap.size]? = some (.cells #[ptrV m.bb] 106)):=by show _=_;rw[←hW1];exact mem_new _ _
 have HX2:Hid (W.heap[W1.heap.size]? = some (ndObj t (some ⟨kb,ko,none⟩) cap)):=by show _=_;rw[←hW];exact mem_new _ _
 have HBW:=ξ (mem_then HB1.out HB2.out)
 have HS:=ξ (show BdC B N m E W G pre c R d V from h.keep HBW.out)
 have HF0:Hid (FrL B m w W):=FrL.of HBW.out h.lt.2.2.2.2
 have HK:Hid (∀ w',FrL B m W w'→w'.heap[w.heap.size]? = some (.cells #[ptrV m.bb] 106)∧w'.heap[W1.heap.size]? = some (ndObj t (some ⟨kb,ko,none⟩) cap)∧InB B w' t (some ⟨kb,ko,none⟩)∧InB B w' (t.kid 0) pa∧NodeAt w' kb ko (t.kid 0) pa pc∧FrL B m w w'):=fun w' hf =>
  ⟨hf.still _ _ (mem_keep HX1.out HB2.out) (by show _≠_∧_;decide),hf.still _ _ HX2.out (by show _≠_∧_;decide),hr.low (HF0.out.trans hf).low,hrp.low (HF0.out.trans hf).low,hnd.below (HF0.out.trans hf).low hkb,HF0.out.trans hf⟩
 have HB:=ξ hb
 have x0:W.cell? ⟨w.heap.size,0,none⟩=some (ptrV m.bb):=mem_cell (HK.out W FrL.refl).1 0
 clear hv hkids h hr hlen hkd hN hnd hrp hb hfit hs
 go_enter Tryz.func79,Tryz.ntmps79
 go_wp2_with fail
 clear x0 hW hW1
 refine (register_any HS.out (by have:=HSZ.out;have:=HSK.out;omega)).mono ?_
 rintro e w1 ⟨rfl,hst,hf⟩
 have H1:Hid (BdC B (N+1) m E w1 G pre c (R+1) d V):=hst
 have HF1:=ξ hf
 clear hst hf
 obtain⟨X,hX⟩:∃ X:World,w1.alloc (.cells #[.int .i64 (R:Int)] 3)=X:=⟨_,rfl⟩
 have HBX:Hid (Below w1.heap.size w1 X):=by show Below _ _ _;rw[←hX];exact mem_alloc _ _
 have HXV:Hid (X.heap[w1.heap.size]? = some (.cells #[.int .i64 (R:Int)] 3)):=by show _=_;rw[←hX];exact mem_new _ _
 have HSX:=ξ (show BdC B (N+1) m E X G pre c (R+1) d V from BdAt.keep H1.out HBX.out)
 have HFX:Hid (FrL B m W X):=FrL.trans HF1.out (FrL.of HBX.out (BdAt.lt H1.out).2.2.2.2)
 have HRX:Hid (RepBx m w.heap.size w1.heap.size W1.heap.size R t (some ⟨kb,ko,none⟩) cap X):=⟨(HK.out X HFX.out).1,HXV.out,(HK.out X HFX.out).2.1⟩
 go_upto_region 2 with fail
 clear hX
 have HBD:Hid (Below X.heap.size X X.drew):=(Below.refl _ _).drew
 have HD:=ξ (show BdC B (N+1) m E X.drew G pre c (R+1) d V from BdAt.keep HSX.out HBD.out)
 have HFD:Hid (FrL B m X X.drew):=FrL.of HBD.out (BdAt.lt HSX.out).2.2.2.2
 have HKX:Hid (∀ w',FrL B m X w'→RepBx m w.heap.size w1.heap.size W1.heap.size R t (some ⟨kb,ko,none⟩) cap w'∧InB B w' (t.kid 0) pa∧NodeAt w' kb ko (t.kid 0) pa pc∧FrL B m w w'):=fun w' hf =>
  ⟨HRX.out.move hf,(HK.out w' (HFX.out.trans hf)).2.2.2.1,(HK.out w' (HFX.out.trans hf)).2.2.2.2.1,(HK.out w' (HFX.out.trans hf)).2.2.2.2.2⟩
 refine wp_region_held_drew (S:=fun w'=>FrL B m X w') (by kernel_rfl) HFD.out (fun hHeld=>?_)
 generalize hwd:World.drew X=D at hHeld HBD HD HFD⊢
 clear hwd
 refine hT 0 (ptrV m.bb) rfl (hy:=?_) (h:=?_)
 ·intro w' hSw;obtain⟨q0,_⟩:=(HKX.out _ hSw).1.cells;go_simp
 (try simp only[Act.put,pZ])
 refine hT 1 (.pointer (some ⟨W1.heap.size,1,none⟩)) rfl (hy:=?_) (h:=?_)
 ·intro w' hSw;go_simp
 (try simp only[Act.put,pZ])
 refine hT 2 (.int .i64 t.num) rfl (hy:=?_) (h:=?_)
 ·intro w' hSw;obtain⟨_,_,q0,_⟩:=(HKX.out _ hSw).1.cells;go_simp
 (try simp only[Act.put,pZ])
 refine hT 3 (.pointer (some ⟨W1.heap.size,3,none⟩)) rfl (hy:=?_) (h:=?_)
 ·intro w' hSw;go_simp
 (try simp only[Act.put,pZ])
 refine hT 4 (.slice (some ⟨kb,ko,none⟩) t.len cap) rfl (hy:=?_) (h:=?_)
 ·intro w' hSw;obtain⟨_,_,_,_,q0⟩:=(HKX.out _ hSw).1.cells;go_simp
 (try simp only[Act.put,pZ])
 refine hT 5 (.pointer (some ⟨kb,ko,none⟩)) rfl (hy:=?_) (h:=?_)
 ·intro w' hSw;go_simp
 (try simp only[Act.put,pZ])
 refine hT 6 ((t.kid 0).val pa pc) rfl (hy:=?_) (h:=?_)
 ·intro w' hSw;have zn:=(HKX.out _ hSw).2.2.1;have q0:=zn.kind;have q1:=zn.num;have q2:=zn.name;have q3:=zn.kids;go_simp
 (try simp only[Act.put,pZ])
 refine hT 7 (.func (.func 101) #[] #[.pointer (some ⟨w.heap.size,0,none⟩),.pointer (some ⟨w1.heap.size,0,none⟩),.pointer (some ⟨W1.heap.size,0,none⟩)]) rfl (hy:=?_) (h:=?_)
 ·intro w' hSw;go_simp
 (try simp only[Act.put,pZ])
 refine hT 8 (.func (.func 104) #[] #[.pointer (some ⟨w1.heap.size,0,none⟩),.pointer (some ⟨w.heap.size,0,none⟩),.pointer (some ⟨W1.heap.size,0,none⟩)]) rfl (hy:=?_) (h:=?_)
 ·intro w' hSw;go_simp
 (try simp only[Act.put,pZ])
 have HC:=ξ (loop_rep B m E (t.kid 0) HB.out (forH t.num d R) (upd V t.name (some R)) t.num w.heap.size w1.heap.size W1.heap.size (N+1) 5 D G pre c (R+1) d V pa pc HV0.out HNUM.out HD.out (HKX.out _ HFD.out).2.1 (by have:=HSZ.out;have:=HSK.out;omega)
  (by
   have h1:=HD.out.small.1
   have h2:=HD.out.cap
   have:=HSZ.out
   have:=HSK.out
   show irI64 ((R+2:Nat):Int)
   exact i64_nat (by omega))
  (fun N' w' G' pre' hf hst hN'=>repeat1_any (HKX.out _ (HFD.out.trans hf)).1 hst rfl HNUM.out hN')
  (fun N' w' G' pre' c' hf hst hN'=>repeat2_any (HKX.out _ (HFD.out.trans hf)).1 hst (show R<R+3 by omega) hns hN'))
 refine hR 9 rfl (fun K hK=>?_)
 go_simp
 refine HC.out.mono ?_
 rintro e w3 ⟨rfl,G',hst3,hfr3⟩
 rw[HS0.out] at hst3
 have H3:=ξ hst3
 have HF3:=ξ (FrL.trans HFD.out hfr3)
 clear hst3 hfr3 HC
 refine hK.out _ _ (HF3.out) (fun hHeld=>?_)
 clear hK K
 rename_i hOld
 clear hOld
 (try simp only[Act.put,pZ])
 clear hHeld
 refine wpAnyH_done (by kernel_rfl) ?_ _
 go_upto_region 3 with fail
 have HBD2:Hid (Below w3.heap.size w3 w3.drew):=(Below.refl _ _).drew
 have HD2:=ξ (BdAt.keep H3.out HBD2.out)
 have HFD2:Hid (FrL B m X w3.drew):=FrL.trans HF3.out (FrL.of HBD2.out (BdAt.lt H3.out).2.2.2.2)
 refine wp_region_held_drew (S:=fun w'=>FrL B m X w'∧w'.cell? ⟨m.bb,2,none⟩=some (.map (some m.vb))) (by kernel_rfl) ⟨HFD2.out,(BdAt.cells HD2.out).2.2.1⟩ (fun hHeld=>?_)
 generalize hwd:World.drew w3=D2 at hHeld HBD2 HD2 HFD2⊢
 clear hwd
 refine hT 0 (ptrV m.bb) rfl (hy:=?_) (h:=?_)
 ·intro w' hSw;obtain⟨q0,_⟩:=(HKX.out _ hSw.1).1.cells;go_simp
 (try simp only[Act.put,pZ])
 refine hT 1 (.pointer (some ⟨m.bb,0,none⟩)) rfl (hy:=?_) (h:=?_)
 ·intro w' hSw;go_simp
 (try simp only[Act.put,pZ])
 refine hT 2 (.pointer (some ⟨m.bb,2,none⟩)) rfl (hy:=?_) (h:=?_)
 ·intro w' hSw;go_simp
 (try simp only[Act.put,pZ])
 refine hT 3 (.map (some m.vb)) rfl (hy:=?_) (h:=?_)
 ·intro w' hSw;have q0:=hSw.2;go_simp
 (try simp only[Act.put,pZ])
 refine hT 4 (.pointer (some ⟨W1.heap.size,2,none⟩)) rfl (hy:=?_) (h:=?_)
 ·intro w' hSw;go_simp
 (try simp only[Act.put,pZ])
 refine hT 5 (.string t.name) rfl (hy:=?_) (h:=?_)
 ·intro w' hSw;obtain⟨_,_,_,q0,_⟩:=(HKX.out _ hSw.1).1.cells;go_simp
 (try simp only[Act.put,pZ])
 obtain⟨w4,hrun,hst4,hfr4⟩:=BdAt.dropVar (s:=t.name) HD2.out hns 0
 have H4:=ξ hst4
 have HF4:=ξ (FrL.trans HFD2.out hfr4)
 clear hst4 hfr4
 refine hR 6 rfl (fun K hK=>?_)
 go_simp
 refine hK.out _ _ (⟨HF4.out,(BdAt.cells H4.out).2.2.1⟩) (fun hHeld=>?_)
 clear hK K
 rename_i hOld
 clear hOld
 (try simp only[Act.put,pZ])
 clear hrun hHeld
 refine wpAnyH_done (by kernel_rfl) ?_ _
 go_wp2_with fail
 go_end0
 rw[HLOW.out]
 exact⟨rfl,G',BdAt.mono H4.out (by have:=HSK.out;omega) HSZ.out,(HKX.out _ HF4.out).2.2.2⟩
theorem statement_low(B:Nat)(m:BM)(E:LEnv)(t:Tree)(hk:∀ i,i<t.len→BkL B m E (t.kid i)):StL B m E t:=by
 intro N w G pre c R d V a cap hv h hr hN
 obtain⟨hkind,_,hlen,hkids⟩:=vldS hv
 have hfit:=hr.fits
 have hns:=hfit.name
 obtain⟨W,hW⟩:∃ W:World,w.alloc (ndObj t a cap)=W:=⟨_,rfl⟩
 have HBW:Hid (Below w.heap.size w W):=by show Below _ _ _;rw[←hW];exact mem_alloc _ _
 have HX:Hid (W.heap[w.heap.size]? = some (ndObj t a cap)):=by show _=_;rw[←hW];exact mem_new _ _
 have HS:=ξ (show BdC B N m E W G pre c R d V from h.keep HBW.out)
 have HF0:Hid (FrL B m w W):=FrL.of HBW.out h.lt.2.2.2.2
 have HK:Hid (∀ w',FrL B m W w'→w'.heap[w.heap.size]? = some (ndObj t a cap)∧InB B w' t a∧FrL B m w w'):=fun w' hf =>
  ⟨hf.still _ _ HX.out (by show _≠_∧_;decide),hr.low (HF0.out.trans hf).low,HF0.out.trans hf⟩
 have HSZ:Hid (N+16*t.size≤1000000):=hN
 have HBK:=ξ hk
 have HVV:=ξ hv
 have HLEN:=ξ hlen
 have HKD:=ξ hkids
 have HNUM:=ξ hfit.num
 have HRW:=ξ (HK.out W FrL.refl).2.1
 have HEND:Hid (∀ e w',SQ B (N+16*t.size) m E W G d pre (t.low E d pre.length c R V) e w'→SQ B (N+16*t.size) m E w G d pre (t.low E d pre.length c R V) e w'):=fun e w' ⟨h1,G',h2,h3⟩=>⟨h1,G',h2,HF0.out.trans h3⟩
 obtain⟨x0,x1,x2,x3⟩:=nd_cells HX.out
 clear hk hv h hr hlen hkids hN hfit
 have hc:t.kind=40∨t.kind=41∨t.kind=42∨t.kind=43∨t.kind=44∨t.kind=45∨t.kind=46:=by omega
 clear hkind
 rcases hc with hk|hk|hk|hk|hk|hk|hk
 ·have b0:(t.kind == 40)=true:=by simp[hk]
  have HC:=ξ (assign_any B N m E W G pre c R d V t a cap HVV.out hk HS.out HRW.out HSZ.out)
  clear hk
  go_enter Tryz.func62,Tryz.ntmps62
  go_wp2_with fail
  clear hW x0 x1 x2 x3
  refine HC.out.mono ?_
  rintro e w1 hq
  obtain rfl:=hq.1
  have HQ:=ξ (HEND.out _ _ hq)
  clear hq HC
  go_wp2_with fail
  go_end0
  exact HQ.out
 ·have b0:(t.kind == 40)=false:=by simp[hk]
  have b1:(t.kind == 41)=true:=by simp[hk]
  have hl:t.len=3:=by rw[HLEN.out,hk];rfl
  have HC:=ξ (choice_low B m E t (HBK.out 1 (by omega)) (HBK.out 2 (by omega)) N W G pre c R d V a cap HVV.out hk HS.out HRW.out HSZ.out)
  clear hk hl
  go_enter Tryz.func62,Tryz.ntmps62
  go_wp2_with fail
  clear hW x0 x1 x2 x3
  refine HC.out.mono ?_
  rintro e w1 hq
  obtain rfl:=hq.1
  have HQ:=ξ (HEND.out _ _ hq)
  clear hq HC
  go_wp2_with fail
  go_end0
  exact HQ.out
 ·have b0:(t.kind == 40)=false:=by simp[hk]
  have b1:(t.kind == 41)=false:=by simp[hk]
  have b2:(t.kind == 42)=true:=by simp[hk]
  have hl:t.len=1:=by rw[HLEN.out,hk];rfl
  have HC:=ξ (repeat_low B m E t (HBK.out 0 (by omega)) N W G pre c R d V a cap HVV.out hk HS.out HRW.out HSZ.out)
  clear hk hl
  go_enter Tryz.func62,Tryz.ntmps62
  go_wp2_with fail
  clear hW x0 x1 x2 x3
  refine HC.out.mono ?_
  rintro e w1 hq
  obtain rfl:=hq.1
  have HQ:=ξ (HEND.out _ _ hq)
  clear hq HC
  go_wp2_with fail
  go_end0
  exact HQ.out
 ·have b0:(t.kind == 40)=false:=by simp[hk]
  have b1:(t.kind == 41)=false:=by simp[hk]
  have b2:(t.kind == 42)=false:=by simp[hk]
  have b3:(t.kind == 43)=true:=by simp[hk]
  have hl:t.len=2:=by rw[HLEN.out,hk];rfl
  have HC:=ξ (while_low B m E t (HBK.out 1 (by omega)) N W G pre c R d V a cap HVV.out hk HS.out HRW.out HSZ.out)
  clear hk hl
  go_enter Tryz.func62,Tryz.ntmps62
  go_wp2_with fail
  clear hW x0 x1 x2 x3
  refine HC.out.mono ?_
  rintro e w1 hq
  obtain rfl:=hq.1
  have HQ:=ξ (HEND.out _ _ hq)
  clear hq HC
  go_wp2_with fail
  go_end0
  exact HQ.out
 ·have b0:(t.kind == 40)=false:=by simp[hk]
  have b1:(t.kind == 41)=false:=by simp[hk]
  have b2:(t.kind == 42)=false:=by simp[hk]
  have b3:(t.kind == 43)=false:=by simp[hk]
  have b4:(t.kind == 44)=true:=by simp[hk]
  have HC:=ξ (receive_any B N m E W G pre c R d V t a cap HVV.out hk HS.out HRW.out HSZ.out)
  clear hk
  go_enter Tryz.func62,Tryz.ntmps62
  go_wp2_with fail
  clear hW x0 x1 x2 x3
  refine HC.out.mono ?_
  rintro e w1 hq
  obtain rfl:=hq.1
  have HQ:=ξ (HEND.out _ _ hq)
  clear hq HC
  go_wp2_with fail
  go_end0
  exact HQ.out
 ·have b0:(t.kind == 40)=false:=by simp[hk]
  have b1:(t.kind == 41)=false:=by simp[hk]
  have b2:(t.kind == 42)=false:=by simp[hk]
  have b3:(t.kind == 43)=false:=by simp[hk]
  have b4:(t.kind == 44)=false:=by simp[hk]
  have b5:(t.kind == 45)=true:=by simp[hk]
  have hl:t.len=1:=by rw[HLEN.out,hk];rfl
  have hl0:0<t.len:=by omega
  have hl0i:(0:Int)<(t.len:Int):=by omega
  have HV0:Hid ((t.kid 0).vld 101=true):=by
   have h9:=HKD.out 0 hl0
   rw[hk] at h9
   exact h9
  obtain⟨L0,hL0⟩:∃ L,(t.kid 0).lowE E V R=L:=⟨_,rfl⟩
  have HL0:=ξ hL0
  have HLOW:Hid (t.low E d pre.length c R V=⟨[],c++L0.code++[insB 10 0 L0.r 0 t.num noB],L0.regs,V⟩):=by
   show _=_
   have e0:kidLE E t 0 V R=L0:=by unfold kidLE;rw[if_pos hl0];exact hL0
   rw[Tree.low_eq,if_neg (by omega),hk]
   unfold lowS
   rw[if_neg (by decide),if_neg (by decide),if_neg (by decide),if_neg (by decide),if_neg (by decide),if_pos rfl,e0]
  have HSK:Hid (1+(t.kid 0).size≤t.size):=by show _≤_;have:=Tree.size_kid hl0;omega
  obtain⟨kb,ko,rfl,hkb,pa,pc,hnd,hrp⟩:=kid_in HRW.out hl0
  rw[Nat.zero_mul,Nat.add_zero] at hnd
  have HND:Hid (∀ w',FrL B m W w'→NodeAt w' kb ko (t.kid 0) pa pc∧InB B w' (t.kid 0) pa):=fun w' hf=>⟨hnd.below hf.low hkb,hrp.low hf.low⟩
  clear hk hl hL0 hnd hrp
  go_enter Tryz.func62,Tryz.ntmps62
  go_upto_region 13 with fail
  clear hW x0 x1 x2 x3
  have HBD:Hid (Below W.heap.size W W.drew):=(Below.refl _ _).drew
  have HD:=ξ (show BdC B N m E W.drew G pre c R d V from BdAt.keep HS.out HBD.out)
  have HFD:Hid (FrL B m W W.drew):=FrL.of HBD.out (BdAt.lt HS.out).2.2.2.2
  refine wp_region_held_drew (S:=fun w'=>FrL B m W w') (by kernel_rfl) HFD.out (fun hHeld=>?_)
  generalize hwd:World.drew W=D at hHeld HBD HD HFD⊢
  clear hwd
  refine hT 0 (ptrV m.bb) rfl (hy:=?_) (h:=?_)
  ·intro w' hSw;go_simp
  (try simp only[Act.put,pZ])
  refine hT 1 (ptrV m.bb) rfl (hy:=?_) (h:=?_)
  ·intro w' hSw;go_simp
  (try simp only[Act.put,pZ])
  refine hT 2 (.pointer (some ⟨w.heap.size,3,none⟩)) rfl (hy:=?_) (h:=?_)
  ·intro w' hSw;go_simp
  (try simp only[Act.put,pZ])
  refine hT 3 (.slice (some ⟨kb,ko,none⟩) t.len cap) rfl (hy:=?_) (h:=?_)
  ·intro w' hSw;obtain⟨_,_,_,q0⟩:=nd_cells (HK.out _ hSw).1;go_simp
  (try simp only[Act.put,pZ])
  refine hT 4 (.pointer (some ⟨kb,ko,none⟩)) rfl (hy:=?_) (h:=?_)
  ·intro w' hSw;go_simp
  (try simp only[Act.put,pZ])
  refine hT 5 ((t.kid 0).val pa pc) rfl (hy:=?_) (h:=?_)
  ·intro w' hSw;have zn:=(HND.out _ hSw).1;have q0:=zn.kind;have q1:=zn.num;have q2:=zn.name;have q3:=zn.kids;go_simp
  (try simp only[Act.put,pZ])
  refine hT 7 (.pointer (some ⟨w.heap.size,1,none⟩)) rfl (hy:=?_) (h:=?_)
  ·intro w' hSw;go_simp
  (try simp only[Act.put,pZ])
  refine hT 8 (.int .i64 t.num) rfl (hy:=?_) (h:=?_)
  ·intro w' hSw;obtain⟨_,q0,_,_⟩:=nd_cells (HK.out _ hSw).1;go_simp
  (try simp only[Act.put,pZ])
  have HC:=ξ (lexpr_any B m E G pre d V (t.kid 0) HV0.out N D c R pa pc HD.out (HND.out _ HFD.out).2 (by have:=HSZ.out;have:=HSK.out;omega))
  refine hR 6 rfl (fun K hK=>?_)
  go_simp
  refine HC.out.mono ?_
  rintro e w3 ⟨rfl,hst3,hfr3⟩
  have HRES:Hid (irI64 L0.r):=by
   have h9:=BdAt.res HD.out (t.kid 0) hst3
   rw[HL0.out] at h9
   exact h9
  rw[HL0.out] at hst3
  have H3:=ξ hst3
  have HF3:=ξ (FrL.trans HFD.out hfr3)
  clear hst3 hfr3 HC
  rw[HL0.out]
  refine hK.out _ _ (HF3.out) (fun hHeld=>?_)
  clear hK K
  rename_i hOld
  clear hOld
  (try simp only[Act.put,pZ])
  clear hHeld
  refine hT 9 (.agg #[.int .u8 10,.int .i64 0,.int .i64 L0.r,.int .i64 0,.int .i64 t.num,.string ⟨#[]⟩]) rfl (hy:=?_) (h:=?_)
  ·intro w' hSw;go_simp
  (try simp only[Act.put,pZ])
  refine hR 10 rfl (fun K hK=>?_)
  go_simp
  refine (emit_cur (insB 10 0 L0.r 0 t.num noB) H3.out (ins_wf (by decide) i64_0 HRES.out i64_0 HNUM.out noB_size) (by have:=HSZ.out;have:=HSK.out;omega)).mono ?_
  rintro e w4 ⟨rfl,hst4,hfr4⟩
  have H4:=ξ hst4
  have HF4:=ξ (FrL.trans HF3.out hfr4)
  clear hst4 hfr4
  refine hK.out _ _ (HF4.out) (fun hHeld=>?_)
  clear hK K
  rename_i hOld
  clear hOld
  (try simp only[Act.put,pZ])
  clear hHeld
  refine wpAnyH_done (by kernel_rfl) ?_ _
  go_wp2_with fail
  go_end0
  exact SQ.flat' HLOW.out (BdAt.mono H4.out (by have:=HSK.out;omega) HSZ.out) rfl (HK.out _ HF4.out).2.2
 ·have b0:(t.kind == 40)=false:=by simp[hk]
  have b1:(t.kind == 41)=false:=by simp[hk]
  have b2:(t.kind == 42)=false:=by simp[hk]
  have b3:(t.kind == 43)=false:=by simp[hk]
  have b4:(t.kind == 44)=false:=by simp[hk]
  have b5:(t.kind == 45)=false:=by simp[hk]
  have b6:(t.kind == 46)=true:=by simp[hk]
  have hl:t.len=1:=by rw[HLEN.out,hk];rfl
  have hl0:0<t.len:=by omega
  have hl0i:(0:Int)<(t.len:Int):=by omega
  have HV0:Hid ((t.kid 0).vld 98=true):=by
   have h9:=HKD.out 0 hl0
   rw[hk] at h9
   exact h9
  obtain⟨s,hs⟩:∃ L,(t.kid 0).low E d pre.length (c++[insB 11 0 0 0 0 t.name]) R V=L:=⟨_,rfl⟩
  have HS1:=ξ hs
  have HLOW:Hid (t.low E d pre.length c R V=⟨s.done,s.code++[insB 12 0 0 0 0 t.name],s.regs,s.vars⟩):=by
   show _=_
   have e0:kidL E t 0 d=(t.kid 0).low E d:=by unfold kidL;rw[if_pos hl0]
   rw[Tree.low_eq,if_neg (by omega),hk]
   unfold lowS
   rw[if_neg (by decide),if_neg (by decide),if_neg (by decide),if_neg (by decide),if_neg (by decide),if_neg (by decide),if_pos rfl,e0,hs]
  have HSK:Hid (1+(t.kid 0).size≤t.size):=by show _≤_;have:=Tree.size_kid hl0;omega
  obtain⟨kb,ko,rfl,hkb,pa,pc,hnd,hrp⟩:=kid_in HRW.out hl0
  rw[Nat.zero_mul,Nat.add_zero] at hnd
  have HND:Hid (∀ w',FrL B m W w'→NodeAt w' kb ko (t.kid 0) pa pc∧InB B w' (t.kid 0) pa):=fun w' hf=>⟨hnd.below hf.low hkb,hrp.low hf.low⟩
  have HB0:=ξ (HBK.out 0 hl0)
  clear hk hl hs hnd hrp
  go_enter Tryz.func62,Tryz.ntmps62
  go_wp2_with fail
  clear hW x0 x1 x2 x3
  refine (emit_cur (insB 11 0 0 0 0 t.name) HS.out (ins_wf (by decide) i64_0 i64_0 i64_0 i64_0 hns) (by have:=HSZ.out;have:=HSK.out;omega)).mono ?_
  rintro e w1 ⟨rfl,hst,hf⟩
  have H1:=ξ hst
  have HF1:=ξ hf
  obtain⟨x0,x1,x2,x3⟩:=nd_cells (HK.out _ hf).1
  have zn:=(HND.out _ hf).1
  have q0:=zn.kind
  have q1:=zn.num
  have q2:=zn.name
  have q3:=zn.kids
  have h9:=HB0.out (N+1) w1 G pre (c++[insB 11 0 0 0 0 t.name]) R d V pa pc HV0.out hst (HND.out _ hf).2 (by have:=HSZ.out;have:=HSK.out;omega)
  rw[HS1.out] at h9
  have HC:=ξ h9
  clear hst hf zn h9
  go_wp2_with fail
  clear x0 x1 x2 x3 q0 q1 q2 q3
  refine HC.out.mono ?_
  rintro e w2 ⟨rfl,G',hst,hf⟩
  have H2:=ξ hst
  have HF2:=ξ (FrL.trans HF1.out hf)
  obtain⟨x0,x1,x2,x3⟩:=nd_cells (HK.out _ HF2.out).1
  clear hst hf HC
  go_wp2_with fail
  clear x0 x1 x2 x3
  refine (emit_cur (insB 12 0 0 0 0 t.name) H2.out (ins_wf (by decide) i64_0 i64_0 i64_0 i64_0 hns) (by have:=HSZ.out;have:=HSK.out;omega)).mono ?_
  rintro e w3 ⟨rfl,hst,hf⟩
  have H3:=ξ hst
  have HF3:=ξ (FrL.trans HF2.out hf)
  clear hst hf
  go_wp2_with fail
  go_end0
  rw[HLOW.out]
  exact⟨rfl,G',BdAt.mono H3.out (by have:=HSK.out;omega) HSZ.out,(HK.out _ HF3.out).2.2⟩
theorem low_all(B:Nat)(m:BM)(E:LEnv)(t:Tree):StL B m E t∧BkL B m E t:=by
 induction t using Tree.ind with
 | h t ih=>exact⟨statement_low B m E t (fun i hi=>(ih i hi).2),block_low B m E t (fun i hi=>(ih i hi).1)⟩
set_option maxHeartbeats 4000000
def CellsKept(w w':World):Prop:=∀ (k:Nat) (arr:Array Value) (t:TypeId) (f:Nat×Nat),w.heap[k]? = some (Obj.cells arr t f)→w'.heap[k]? = some (Obj.cells arr t f)
section
variable {B N:Nat} {m:BM} {E:LEnv} {w w':World} {G:List Nat} {bs:List Blk} {R d:Nat} {V:VM}
theorem BdAt.mapTurn{m':BM}{E':LEnv}{b:Nat}(h:BdAt B N m E w G bs R d V)(hb:b≠m.vb)(hmap:∃ es ck,w.heap[b]? = some (.map es ck))(hB:B≤b)(hg:w.grownBy w' (some b))(e1:m'.bb=m.bb)(e2:m'.lb=m.lb)(e3:m'.sb=m.sb)(e4:m'.vb=m.vb)
 (hl:FMap Tryz.prog LKey w' m'.lb m'.nl m'.FL∧∀ s,(m'.FL s).getD (.int .i64 0) = .int .i64 (E'.len s)) (hs:FMap Tryz.prog LKey w' m'.sb m'.ns m'.FS∧∀ s,(m'.FS s).getD (.bool false) = .bool (E'.sh s)) (hI:∀ s,irI64 (E'.len s)) :
 BdAt B N m' E' w' G bs R d V∧Below B w w'∧CellsKept w w':=by
 obtain⟨es,ck,hm⟩:=hmap
 have keep:CellsKept w w':=fun k arr t f hk=>(hg.block k (mem_lt hk) (fun e=>by cases e;rw[hm] at hk;cases hk)).trans hk
 have hlow:Below B w w':=(Below.refl B w).grown hg h.up.2.2.2.2.2.2 (fun k hk=>by cases hk;exact hB)
 obtain⟨rv,h1,h2⟩:=h.box
 obtain⟨L,h3,h4⟩:=h.blks
 refine⟨⟨⟨rv,?_,own_keep h2 (fun k hk hl=>?_)⟩,⟨L,h3.move (fun k o hk ht=>by obtain⟨arr,f,rfl | rfl⟩:=ht <;> exact keep _ _ _ _ hk),h4⟩,hl,hs,?_,h.small,h.varN,hI,h.cap,?_⟩,hlow,keep⟩
 ·rw[e1]
  have h9:=keep _ _ _ _ h1
  unfold bdObj at h9⊢
  rw[e2,e3,e4]
  exact h9
 ·rcases h2.2 with⟨e,_⟩|⟨g',cap,cur,e,_,hc1,_⟩
  ·rw[e] at hk;cases hk
  ·rw[e] at hk
   cases hk
   exact (keep _ _ _ _ hc1).trans hc1.symm
 ·rw[e4]
  exact h.vars.move (hg.block _ h.vars.lt (fun e=>hb (Option.some.inj e).symm))
 ·rw[e1,e2,e3,e4]
  exact⟨h.up.1,h.up.2.1,h.up.2.2.1,h.up.2.2.2.1,h.up.2.2.2.2.1,h.up.2.2.2.2.2.1,Nat.le_trans h.up.2.2.2.2.2.2 hlow.size⟩
theorem BdAt.setLen{s:ByteArray}{n:Int}(h:BdAt B N m E w G bs R d V)(hs:s.size≤9223372036854775807)(hn:irI64 n)(hN:m.nl≤1000000)(hne:m.lb≠m.sb) :
 ∃ w',(Instr.mapUpdate 107 (.map (some m.lb)) (.string s) (.int .i64 n)).run Tryz.prog w = .ok () w'∧BdAt B N { m with nl:=m.nl+1,FL:=upd m.FL s (some (.int .i64 n)) } { E with len:=fun t=>if t=s then n else E.len t } w' G bs R d V∧Below B w w'∧CellsKept w w':=by
 obtain⟨w',h1,h2,h3⟩:=h.lens.1.store (t:=107) lKey Tryz.underlying107 (s:=s) hs (by unfold maxLen;omega) (.int .i64 n)
 refine⟨w',h1,h.mapTurn h.up.2.2.2.2.1 h.lens.1.obj h.up.2.1 h3 rfl rfl rfl rfl ⟨h2,fun t=>?_⟩ ⟨h.shs.1.move (h3.block _ h.shs.1.lt (fun e=>hne (Option.some.inj e).symm)),h.shs.2⟩ (fun t=>?_)⟩
 ·show (upd m.FL s _ t).getD _ = .int .i64 (if t=s then n else E.len t)
  unfold upd
  split
  ·rfl
  ·exact h.lens.2 t
 ·show irI64 (if t=s then n else E.len t)
  split
  ·exact hn
  ·exact h.lenI t
theorem BdAt.setSh{s:ByteArray}(h:BdAt B N m E w G bs R d V)(hs:s.size≤9223372036854775807)(hN:m.ns≤1000000)(hne:m.lb≠m.sb) :
 ∃ w',(Instr.mapUpdate 93 (.map (some m.sb)) (.string s) (.bool true)).run Tryz.prog w = .ok () w'∧BdAt B N { m with ns:=m.ns+1,FS:=upd m.FS s (some (.bool true)) } { E with sh:=fun t=>if t=s then true else E.sh t } w' G bs R d V∧Below B w w'∧CellsKept w w':=by
 obtain⟨w',h1,h2,h3⟩:=h.shs.1.store (t:=93) lKey Tryz.underlying93 (s:=s) hs (by unfold maxLen;omega) (.bool true)
 refine⟨w',h1,h.mapTurn h.up.2.2.2.2.2.1 h.shs.1.obj h.up.2.2.1 h3 rfl rfl rfl rfl ⟨h.lens.1.move (h3.block _ h.lens.1.lt (fun e=>hne (Option.some.inj e))),h.lens.2⟩ ⟨h2,fun t=>?_⟩ h.lenI⟩
 show (upd m.FS s _ t).getD _ = .bool (if t=s then true else E.sh t)
 unfold upd
 split
 ·rfl
 ·exact h.shs.2 t
end
