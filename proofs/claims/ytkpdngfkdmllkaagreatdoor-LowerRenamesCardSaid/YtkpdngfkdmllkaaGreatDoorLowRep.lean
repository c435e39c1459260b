/- Part. -/
import Derived.Test.YtkpdngfkdmllkaaGreatDoorLowLoop
namespace Go.Proofs.YtkpdngfkdmllkaaGreatDoor
set_option linter.unusedVariables false
set_option linter.unusedSimpArgs false
open Go.RowKit Go.Maps
set_option maxRecDepth 100000
set_option maxHeartbeats 8000000
section
variable {B N:Nat} {m:BM} {E:LEnv} {w w':World} {G:List Nat} {bs:List Blk} {R d:Nat} {V:VM}
theorem varV_upd(V:VM)(s:ByteArray)(r:Option Nat):varV (upd V s r)=upd (varV V) s (r.map fun r=>.int .i64 ((r:Nat):Int)):=by
 funext n
 unfold varV upd
 by_cases e:n=s
 ·simp[e]
 ·simp[e]
theorem BdAt.setVar{s:ByteArray}{r:Nat}(h:BdAt B N m E w G bs R d V)(hs:s.size≤9223372036854775807)(hr:r<R)(hN:N+1≤1000000) :
 ∃ w',(Instr.mapUpdate 107 (.map (some m.vb)) (.string s) (.int .i64 (r:Int))).run Tryz.prog w = .ok () w'∧BdAt B (N+1) m E w' G bs R d (upd V s (some r))∧FrL B m w w':=by
 obtain⟨w',h1,h2,h3⟩:=h.vars.store (t:=107) lKey Tryz.underlying107 (s:=s) hs (by unfold maxLen;omega) (.int .i64 (r:Int))
 refine⟨w',h1,h.var h3 (by rw[varV_upd];exact h2) (fun n x hx=>?_) (Nat.le_succ _) hN⟩
 unfold upd at hx
 split at hx
 ·cases hx;exact hr
 ·exact h.varN n x hx
theorem BdAt.dropVar{s:ByteArray}(h:BdAt B N m E w G bs R d V)(hs:s.size≤9223372036854775807)(ty:TypeId) :
 ∃ w',(Builtin.delete_ #[107,9] ty #[.map (some m.vb),.string s]).run Tryz.prog w = .ok (.tuple #[]) w'∧BdAt B N m E w' G bs R d (upd V s none)∧FrL B m w w':=by
 obtain⟨w',h1,h2,h3⟩:=h.vars.drop (t:=107) lKey Tryz.underlying107 (s:=s) hs ty
 refine⟨w',h1,h.var h3 (by rw[varV_upd];exact h2) (fun n x hx=>?_) (Nat.le_refl _) h.cap⟩
 unfold upd at hx
 split at hx
 ·cases hx
 ·exact h.varN n x hx
end
structure RepBx(m:BM)(b1 v1 nb v:Nat)(t:Tree)(a:Option Addr)(cap:Nat)(w:World):Prop where
 b:w.heap[b1]? = some (.cells #[ptrV m.bb] 106)
 v:w.heap[v1]? = some (.cells #[.int .i64 (v:Int)] 3)
 n:w.heap[nb]? = some (ndObj t a cap)
section
variable {B N:Nat} {m:BM} {E:LEnv} {w w':World} {G:List Nat} {pre:List Blk} {c:List Ins} {R d:Nat} {V:VM} {b1 v1 nb v cap:Nat} {t:Tree} {a:Option Addr}
theorem RepBx.move(h:RepBx m b1 v1 nb v t a cap w)(hf:FrL B m w w'):RepBx m b1 v1 nb v t a cap w':=
 ⟨hf.still _ _ h.b (by show _≠_∧_;decide),hf.still _ _ h.v (by show _≠_∧_;decide),hf.still _ _ h.n (by show _≠_∧_;decide)⟩
theorem RepBx.cells(h:RepBx m b1 v1 nb v t a cap w):w.cell? ⟨b1,0,none⟩=some (ptrV m.bb)∧w.cell? ⟨v1,0,none⟩=some (.int .i64 (v:Int))∧w.cell? ⟨nb,1,none⟩=some (.int .i64 t.num)∧w.cell? ⟨nb,2,none⟩=some (.string t.name)∧w.cell? ⟨nb,3,none⟩=some (.slice a t.len cap):=
 ⟨mem_cell h.b 0,mem_cell h.v 0,mem_cell h.n 1,mem_cell h.n 2,mem_cell h.n 3⟩
theorem repeat1_any(hx:RepBx m b1 v1 nb v t a cap w)(h:BdC B N m E w G pre [] R d V)(hR:R=v+1)(hn:irI64 t.num)(hN:N+5≤1000000) :
 Calls Tryz.prog 101 #[.int .i64 (d:Int),.pointer (some ⟨b1,0,none⟩),.pointer (some ⟨v1,0,none⟩),.pointer (some ⟨nb,0,none⟩)] w
  (fun e w'=>e = .returned (.int .i64 (forH t.num d v).r)∧BdC B (N+5) m E w' G pre (forH t.num d v).code (forH t.num d v).regs d V∧FrL B m w w'):=by
 have HX:=ξ hx
 have H:=ξ h
 have HNM:=ξ hn
 have HR:=ξ hR
 have hd:d≤1000000:=by have:=h.small.2.1;have:=h.cap;omega
 have hv:v+1≤1000000:=by have:=h.small.1;have:=h.cap;omega
 have HN:Hid (N+5≤1000000):=hN
 obtain⟨x0,x1,x2,x3,x4⟩:=hx.cells
 clear hx h hn hN hR
 go_enter Tryz.func101,Tryz.ntmps101
 go_wp2_with fail
 clear x0 x1 x2 x3 x4
 refine (emit_cur (insB 15 v 0 0 d noB) H.out (ins_wf (by decide) (i64_nat (by omega)) i64_0 i64_0 (i64_nat hd) noB_size) (by have:=HN.out;omega)).mono ?_
 rintro e w1 ⟨rfl,hs,hf⟩
 have H1:=ξ hs
 have HF1:=ξ hf
 obtain⟨x0,x1,x2,x3,x4⟩:=(HX.out.move hf).cells
 clear hs hf
 go_wp2_with fail
 clear x0 x1 x2 x3 x4
 refine (constant_any t.num H1.out HNM.out (by have:=HN.out;omega)).mono ?_
 rintro e w2 ⟨rfl,hs,hf⟩
 have H2:=ξ hs
 have HF2:=ξ (FrL.trans HF1.out hf)
 have hR2:R+1≤1000000:=by have:=hs.small.1;have:=hs.cap;omega
 obtain⟨x0,x1,x2,x3,x4⟩:=(HX.out.move HF2.out).cells
 clear hs hf
 go_wp2_with fail
 clear x0 x1 x2 x3 x4
 refine (binary_any 18 (v:Int) (R:Int) H2.out (by decide) (i64_nat (by omega)) (i64_nat (by omega)) (by have:=HN.out;omega)).mono ?_
 rintro e w3 ⟨rfl,hs,hf⟩
 have H3:=ξ hs
 have HF3:=ξ (FrL.trans HF2.out hf)
 clear hs hf
 go_wp2_with fail
 go_ret
 have hR:=HR.out
 subst hR
 exact⟨rfl,H3.out,HF3.out⟩
theorem repeat2_any(hx:RepBx m b1 v1 nb v t a cap w)(h:BdC B N m E w G pre c R d V)(hR:v<R)(hs:t.name.size≤9223372036854775807)(hN:N+1≤1000000) :
 Calls Tryz.prog 104 #[.pointer (some ⟨v1,0,none⟩),.pointer (some ⟨b1,0,none⟩),.pointer (some ⟨nb,0,none⟩)] w
  (fun e w'=>e = .returned (.tuple #[])∧BdC B (N+1) m E w' G pre c R d (upd V t.name (some v))∧FrL B m w w'):=by
 have HX:=ξ hx
 have H:=ξ h
 have HR:Hid (v<R):=hR
 have HN:Hid (N+1≤1000000):=hN
 clear hx h hN hR
 go_enter Tryz.func104,Tryz.ntmps104
 go_upto_region 0 with fail
 have HBD:Hid (Below w.heap.size w w.drew):=(Below.refl _ _).drew
 have HD:=ξ (BdAt.keep H.out HBD.out)
 have HFD:Hid (FrL B m w w.drew):=FrL.of HBD.out (BdAt.lt H.out).2.2.2.2
 refine wp_region_held_drew (S:=fun w'=>RepBx m b1 v1 nb v t a cap w'∧w'.cell? ⟨m.bb,2,none⟩=some (.map (some m.vb))) (by kernel_rfl) ⟨HX.out.move HFD.out,(BdAt.cells HD.out).2.2.1⟩ (fun hHeld=>?_)
 generalize hwd:World.drew w=D at hHeld HBD HD HFD⊢
 clear hwd
 refine hT 0 (ptrV m.bb) rfl (hy:=?_) (h:=?_)
 ·intro w' hSw;obtain⟨q0,q1,q2,q3,q4⟩:=hSw.1.cells;go_simp
 (try simp only[Act.put,pZ])
 refine hT 1 (.pointer (some ⟨m.bb,0,none⟩)) rfl (hy:=?_) (h:=?_)
 ·intro w' hSw;go_simp
 (try simp only[Act.put,pZ])
 refine hT 2 (.pointer (some ⟨m.bb,2,none⟩)) rfl (hy:=?_) (h:=?_)
 ·intro w' hSw;go_simp
 (try simp only[Act.put,pZ])
 refine hT 3 (.map (some m.vb)) rfl (hy:=?_) (h:=?_)
 ·intro w' hSw;have q0:=hSw.2;go_simp
 (try simp only[Act.put,pZ])
 refine hT 4 (.pointer (some ⟨nb,2,none⟩)) rfl (hy:=?_) (h:=?_)
 ·intro w' hSw;go_simp
 (try simp only[Act.put,pZ])
 refine hT 5 (.string t.name) rfl (hy:=?_) (h:=?_)
 ·intro w' hSw;obtain⟨q0,q1,q2,q3,q4⟩:=hSw.1.cells;go_simp
 (try simp only[Act.put,pZ])
 refine hT 6 (.int .i64 (v:Int)) rfl (hy:=?_) (h:=?_)
 ·intro w' hSw;obtain⟨q0,q1,q2,q3,q4⟩:=hSw.1.cells;go_simp
 (try simp only[Act.put,pZ])
 obtain⟨w3,hrun,hst3,hfr3⟩:=BdAt.setVar (s:=t.name) (r:=v) HD.out hs HR.out HN.out
 have H3:=ξ hst3
 have HF3:=ξ (FrL.trans HFD.out hfr3)
 clear hst3 hfr3
 refine hR 7 rfl (fun K hK=>?_)
 go_simp
 refine hK.out _ _ (⟨HX.out.move HF3.out,(BdAt.cells H3.out).2.2.1⟩) (fun hHeld=>?_)
 clear hK K
 rename_i hOld
 clear hOld
 (try simp only[Act.put,pZ])
 clear hrun hHeld
 refine wpAnyH_done (by kernel_rfl) ?_ _
 go_wp2_with fail
 go_end0
 exact⟨rfl,H3.out,HF3.out⟩
end
theorem while1_any(B:Nat)(m:BM)(E:LEnv)(t:Tree)(N:Nat)(w:World)(G:List Nat)(pre:List Blk)(R d:Nat)(V:VM)(b1 nb cap:Nat)(a:Option Addr)(hb:w.heap[b1]? = some (.cells #[ptrV m.bb] 106))(hx:w.heap[nb]? = some (ndObj t a cap))(hr:InB B w t a)(hl:0<t.len)(hv:(t.kid 0).vld 101=true)(h:BdC B N m E w G pre [] R d V)(hN:N+16*(t.kid 0).size≤1000000) :
 Calls Tryz.prog 105 #[.int .i64 (d:Int),.pointer (some ⟨b1,0,none⟩),.pointer (some ⟨nb,0,none⟩)] w
  (fun e w'=>e = .returned (.int .i64 ((t.kid 0).lowE E V R).r)∧BdC B (N+16*(t.kid 0).size) m E w' G pre ((t.kid 0).lowE E V R).code ((t.kid 0).lowE E V R).regs d V∧FrL B m w w'):=by
 have HB:=ξ hb
 have HX:=ξ hx
 have HR:=ξ hr
 have H:=ξ h
 have HV:=ξ hv
 have HN:Hid (N+16*(t.kid 0).size≤1000000):=hN
 have hl0i:(0:Int)<(t.len:Int):=by omega
 obtain⟨kb,ko,rfl,_⟩:=kid_in hr hl
 clear hb hx hr h hv hN
 go_enter Tryz.func105,Tryz.ntmps105
 go_upto_region 1 with fail
 have HBD:Hid (Below w.heap.size w w.drew):=(Below.refl _ _).drew
 have HD:=ξ (BdAt.keep H.out HBD.out)
 have HFD:Hid (FrL B m w w.drew):=FrL.of HBD.out (BdAt.lt H.out).2.2.2.2
 have HK:Hid (∀ w',FrL B m w w'→w'.heap[b1]? = some (.cells #[ptrV m.bb] 106)∧w'.heap[nb]? = some (ndObj t (some ⟨kb,ko,none⟩) cap)∧InB B w' t (some ⟨kb,ko,none⟩)):=fun w' hf =>
  ⟨hf.still _ _ HB.out (by show _≠_∧_;decide),hf.still _ _ HX.out (by show _≠_∧_;decide),HR.out.low hf.low⟩
 obtain⟨kb',ko',hsame,hkb,ai,ci,hnd,_⟩:=kid_in HR.out hl
 cases hsame
 rw[Nat.zero_mul,Nat.add_zero] at hnd
 have HND:Hid (∀ w',FrL B m w w'→NodeAt w' kb ko (t.kid 0) ai ci):=fun w' hf=>hnd.below hf.low hkb
 have HRK:Hid (InB B w.drew (t.kid 0) ai):=by
  obtain⟨kb',ko',hsame,_,ai',ci',hnd',hrk'⟩:=kid_in (HK.out _ HFD.out).2.2 hl
  cases hsame
  rw[Nat.zero_mul,Nat.add_zero] at hnd'
  have e1:=(HND.out _ HFD.out).kids
  rw[hnd'.kids] at e1
  injection e1 with e1
  injection e1 with e1
  subst e1
  exact hrk'
 clear hnd
 refine wp_region_held_drew (S:=fun w'=>FrL B m w w') (by kernel_rfl) HFD.out (fun hHeld=>?_)
 generalize hwd:World.drew w=D at hHeld HBD HD HFD HRK⊢
 clear hwd
 refine hT 0 (ptrV m.bb) rfl (hy:=?_) (h:=?_)
 ·intro w' hSw;have q0:=mem_cell (HK.out _ hSw).1 0;go_simp
 (try simp only[Act.put,pZ])
 refine hT 1 (.pointer (some ⟨nb,3,none⟩)) rfl (hy:=?_) (h:=?_)
 ·intro w' hSw;go_simp
 (try simp only[Act.put,pZ])
 refine hT 2 (.slice (some ⟨kb,ko,none⟩) t.len cap) rfl (hy:=?_) (h:=?_)
 ·intro w' hSw;obtain⟨_,_,_,q0⟩:=nd_cells (HK.out _ hSw).2.1;go_simp
 (try simp only[Act.put,pZ])
 refine hT 3 (.pointer (some ⟨kb,ko,none⟩)) rfl (hy:=?_) (h:=?_)
 ·intro w' hSw;go_simp
 (try simp only[Act.put,pZ])
 refine hT 4 ((t.kid 0).val ai ci) rfl (hy:=?_) (h:=?_)
 ·intro w' hSw;have zn:=HND.out _ hSw;have q0:=zn.kind;have q1:=zn.num;have q2:=zn.name;have q3:=zn.kids;go_simp
 (try simp only[Act.put,pZ])
 have HC:=ξ (lexpr_any B m E G pre d V (t.kid 0) HV.out N D [] R ai ci HD.out HRK.out HN.out)
 refine hR 5 rfl (fun K hK=>?_)
 go_simp
 refine HC.out.mono ?_
 rintro e w3 ⟨rfl,hst3,hfr3⟩
 have H3:=ξ hst3
 have HF3:=ξ (FrL.trans HFD.out hfr3)
 clear hst3 hfr3 HC
 refine hK.out _ _ (HF3.out) (fun hHeld=>?_)
 clear hK K
 rename_i hOld
 clear hOld
 (try simp only[Act.put,pZ])
 clear hHeld
 refine hR 6 rfl (fun K hK=>?_)
 go_simp
 refine hK.out _ _ (HF3.out) (fun hHeld=>?_)
 clear hK K
 rename_i hOld
 clear hOld
 (try simp only[Act.put,pZ])
 refine wpAnyH_done (by kernel_rfl) ?_ _
 clear hHeld
 go_wp2_with fail
 go_ret
 exact⟨rfl,by rw[List.nil_append] at H3;exact H3.out,HF3.out⟩
theorem while2_any(w:World):Calls Tryz.prog 106 #[] w (fun e w'=>e = .returned (.tuple #[])∧w'=w):=by
 go_enter Tryz.func106,Tryz.ntmps106
 go_wp2_with fail
 go_end0
 exact⟨rfl,rfl⟩
theorem while_low(B:Nat)(m:BM)(E:LEnv)(t:Tree)(hb:BkL B m E (t.kid 1))(N:Nat)(w:World)(G:List Nat)(pre:List Blk)(c:List Ins)(R d:Nat)(V:VM)(a:Option Addr)(cap:Nat)(hv:t.vld 115=true)(hkd:t.kind=43)(h:BdC B N m E w G pre c R d V)(hr:InB B w t a)(hN:N+16*t.size≤1000000) :
 Calls Tryz.prog 80 #[ptrV m.bb,t.val a cap] w (SQ B (N+16*t.size) m E w G d pre (t.low E d pre.length c R V)):=by
 obtain⟨_,_,hlen,hkids⟩:=vldS hv
 have hfit:=hr.fits
 rw[hkd] at hlen hkids
 replace hlen:t.len=2:=hlen
 have hl0:0<t.len:=by omega
 have hl1:1<t.len:=by omega
 have hl1i:(1:Int)<(t.len:Int):=by omega
 have HV0:Hid ((t.kid 0).vld 101=true):=hkids 0 hl0
 have HV1:Hid ((t.kid 1).vld 98=true):=hkids 1 hl1
 have HLOW:Hid (t.low E d pre.length c R V=loopS t.num d ((t.kid 0).lowE E V R) pre.length c ((t.kid 1).low E (d+1) (pre.length+2) [insB 16 0 d 0 t.num noB] ((t.kid 0).lowE E V R).regs V)):=by
  show _=_
  have e0:kidLE E t 0 V R=(t.kid 0).lowE E V R:=by unfold kidLE;rw[if_pos hl0]
  have e1:kidL E t 1 (d+1)=(t.kid 1).low E (d+1):=by unfold kidL;rw[if_pos hl1]
  rw[Tree.low_eq,if_neg (by omega),hkd]
  unfold lowS
  rw[if_neg (by decide),if_neg (by decide),if_neg (by decide),if_pos rfl,e0,e1,loopL_eq]
 have HSK:Hid (1+(t.kid 0).size+(t.kid 1).size≤t.size):=by
  show _≤_
  rw[Tree.size_eq t,hlen]
  show _≤1+(0+(t.kid 0).size+(t.kid 1).size)
  omega
 have HSZ:Hid (N+16*t.size≤1000000):=hN
 have HNUM:=ξ hfit.num
 obtain⟨kb,ko,rfl,hkb,pa,pc,hnd,hrp⟩:=kid_in hr hl1
 rw[Nat.one_mul] at hnd
 obtain⟨W1,hW1⟩:∃ W:World,w.alloc (.cells #[ptrV m.bb] 106)=W:=⟨_,rfl⟩
 obtain⟨W,hW⟩:∃ X:World,W1.alloc (ndObj t (some ⟨kb,ko,none⟩) cap)=X:=⟨_,rfl⟩
 have HB1:Hid (Below w.heap.size w W1):=by show Below _ _ _;rw[←hW1];exact mem_alloc _ _
 have HB2:Hid (Below W1.heap.size W1 W):=by show Below _ _ _;rw[←hW];exact mem_alloc _ _
 have HX1:Hid (W1.heap[w.heap.size]? = some (.cells #[ptrV m.bb] 106)):=by show _=_;rw[←hW1];exact mem_new _ _
 have HX2:Hid (W.heap[W1.heap.size]? = some (ndObj t (some ⟨kb,ko,none⟩) cap)):=by show _=_;rw[←hW];exact mem_new _ _
 have HBW:=ξ (mem_then HB1.out HB2.out)
 have HS:=ξ (show BdC B N m E W G pre c R d V from h.keep HBW.out)
 have HF0:Hid (FrL B m w W):=FrL.of HBW.out h.lt.2.2.2.2
 have HK:Hid (∀ w',FrL B m W w'→w'.heap[w.heap.size]? = some (.cells #[ptrV m.bb] 106)∧w'.heap[W1.heap.size]? = some (ndObj t (some ⟨kb,ko,none⟩) cap)∧InB B w' t (some ⟨kb,ko,none⟩)∧InB B w' (t.kid 1) pa∧NodeAt w' kb (ko+4) (t.kid 1) pa pc∧FrL B m w w'):=fun w' hf =>
  ⟨hf.still _ _ (mem_keep HX1.out HB2.out) (by show _≠_∧_;decide),hf.still _ _ HX2.out (by show _≠_∧_;decide),hr.low (HF0.out.trans hf).low,hrp.low (HF0.out.trans hf).low,hnd.below (HF0.out.trans hf).low hkb,HF0.out.trans hf⟩
 have HB:=ξ hb
 have HL0:Hid (0<t.len):=hl0
 clear hv hkids h hr hlen hkd hN hnd hrp hb hfit hl0
 go_enter Tryz.func80,Tryz.ntmps80
 go_upto_region 1 with fail
 clear hW hW1
 have HBD:Hid (Below W.heap.size W W.drew):=(Below.refl _ _).drew
 have HD:=ξ (show BdC B N m E W.drew G pre c R d V from BdAt.keep HS.out HBD.out)
 have HFD:Hid (FrL B m W W.drew):=FrL.of HBD.out (BdAt.lt HS.out).2.2.2.2
 refine wp_region_held_drew (S:=fun w'=>FrL B m W w') (by kernel_rfl) HFD.out (fun hHeld=>?_)
 generalize hwd:World.drew W=D at hHeld HBD HD HFD⊢
 clear hwd
 refine hT 0 (ptrV m.bb) rfl (hy:=?_) (h:=?_)
 ·intro w' hSw;have q0:=mem_cell (HK.out _ hSw).1 0;go_simp
 (try simp only[Act.put,pZ])
 refine hT 1 (.pointer (some ⟨W1.heap.size,1,none⟩)) rfl (hy:=?_) (h:=?_)
 ·intro w' hSw;go_simp
 (try simp only[Act.put,pZ])
 refine hT 2 (.int .i64 t.num) rfl (hy:=?_) (h:=?_)
 ·intro w' hSw;obtain⟨_,q0,_,_⟩:=nd_cells (HK.out _ hSw).2.1;go_simp
 (try simp only[Act.put,pZ])
 refine hT 3 (.pointer (some ⟨W1.heap.size,3,none⟩)) rfl (hy:=?_) (h:=?_)
 ·intro w' hSw;go_simp
 (try simp only[Act.put,pZ])
 refine hT 4 (.slice (some ⟨kb,ko,none⟩) t.len cap) rfl (hy:=?_) (h:=?_)
 ·intro w' hSw;obtain⟨_,_,_,q0⟩:=nd_cells (HK.out _ hSw).2.1;go_simp
 (try simp only[Act.put,pZ])
 refine hT 5 (.pointer (some ⟨kb,ko+4,none⟩)) rfl (hy:=?_) (h:=?_)
 ·intro w' hSw;go_simp
 (try simp only[Act.put,pZ])
 refine hT 6 ((t.kid 1).val pa pc) rfl (hy:=?_) (h:=?_)
 ·intro w' hSw;have zn:=(HK.out _ hSw).2.2.2.2.1;have q0:=zn.kind;have q1:=zn.num;have q2:=zn.name;have q3:=zn.kids;go_simp
 (try simp only[Act.put,pZ])
 refine hT 7 (.func (.func 105) #[] #[.pointer (some ⟨w.heap.size,0,none⟩),.pointer (some ⟨W1.heap.size,0,none⟩)]) rfl (hy:=?_) (h:=?_)
 ·intro w' hSw;go_simp
 (try simp only[Act.put,pZ])
 have HC:=ξ (loop_whl B m E (t.kid 1) HB.out ((t.kid 0).lowE E V R) V t.num w.heap.size W1.heap.size N (16*(t.kid 0).size) D G pre c R d V pa pc HV1.out HNUM.out HD.out (HK.out _ HFD.out).2.2.2.1 (by have:=HSZ.out;have:=HSK.out;omega)
  (by
   have h1:=lowE_r E V (t.kid 0) R HD.out.varN
   have h2:((t.kid 0).lowE E V R).regs≤1000000:=by
    have h3:=HD.out.small.1
    have h4:=lowE_regs E V (t.kid 0) R
    have:=HSZ.out
    have:=HSK.out
    omega
   unfold irI64
   omega)
  (fun N' w' G' pre' hf hst hN'=>while1_any B m E t N' w' G' pre' R d V w.heap.size W1.heap.size cap _ (HK.out _ (HFD.out.trans hf)).1 (HK.out _ (HFD.out.trans hf)).2.1 (HK.out _ (HFD.out.trans hf)).2.2.1 HL0.out HV0.out hst hN')
  (fun N' w' G' pre' c' hf hst hN'=>(while2_any w').mono (fun e w'' ⟨h1,h2⟩=>⟨h1,by rw[h2];exact BdAt.mono hst (Nat.le_succ _) hN',by rw[h2];exact FrL.refl⟩)))
 refine hR 8 rfl (fun K hK=>?_)
 go_simp
 refine HC.out.mono ?_
 rintro e w3 ⟨rfl,G',hst3,hfr3⟩
 have H3:=ξ hst3
 have HF3:=ξ (FrL.trans HFD.out hfr3)
 clear hst3 hfr3 HC
 refine hK.out _ _ (HF3.out) (fun hHeld=>?_)
 clear hK K
 rename_i hOld
 clear hOld
 (try simp only[Act.put,pZ])
 clear hHeld
 refine wpAnyH_done (by kernel_rfl) ?_ _
 go_wp2_with fail
 go_end0
 rw[HLOW.out]
 exact⟨rfl,G',BdAt.mono H3.out (by have:=HSK.out;omega) HSZ.out,HF0.out.trans HF3.out⟩
