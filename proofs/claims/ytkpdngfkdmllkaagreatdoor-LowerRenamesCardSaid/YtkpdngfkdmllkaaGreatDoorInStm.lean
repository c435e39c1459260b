/- Part. -/
import Derived.Test.YtkpdngfkdmllkaaGreatDoorMg15
namespace Go.Proofs.YtkpdngfkdmllkaaGreatDoor
set_option linter.unusedVariables false
set_option linter.unusedSimpArgs false
open Go.RowKit Go.Maps
set_option maxRecDepth 100000
set_option maxHeartbeats 80000000
theorem out_info:(Tryz.prog.info? 64).map (fun i=>(i.zero,i.size,i.bytes))=some (some (.agg #[.int .i64 0,.int .i32 0]),2,16):=by kernel_rfl
section
variable {B K:Nat} {m:IM} {F:Int} {inp:List Int} {w wa w9:World} {s:St} {ov v':Value}
theorem StAt.push{p:Int×Int}(h:StAt B K m F inp w s ov)(hBa:Below w.heap.size w wa)(hg:wa.grownBy w9 ov.ownBlock)(ho:w9.ownsRow B 64 2 v' (s.out.length+1) (outCells (s.out++[p]))) :
 StAt B (K+1) m F inp (w9.setCell ⟨m.sb,4,none⟩ v') { s with out:=s.out++[p] } v'∧FrI B m w (w9.setCell ⟨m.sb,4,none⟩ v')∧(∀ (k:Nat) (o:Obj),w.heap[k]? = some o→NotOut o→w9.heap[k]? = some o)∧Below B w w9:=by
 have h1:=h.keep hBa
 have hne:∀ {k:Nat} {o:Obj},wa.heap[k]? = some o→NotOut o→w9.heap[k]? = some o:=fun {k o} hk hn =>
  (hg.block k (mem_lt hk) (fun e=>by
   rcases h1.out.2 with⟨e1,_⟩|⟨g,cap,cur,e1,_,hc,_⟩
   ·rw[e1] at e;cases e
   ·rw[e1] at e
    have e:k=g:=Option.some.inj e
    subst e
    rw[hc] at hk
    cases hk
    exact hn rfl)).trans hk
 have hbox:=hne h1.box (by show 71≠64;decide)
 have hset:∀ {k:Nat} {o:Obj},k≠m.sb→w9.heap[k]? = some o→(w9.setCell ⟨m.sb,4,none⟩ v').heap[k]? = some o:=fun hk ho=>(Below.heap_setCell _ _ _ _ hk).trans ho
 obtain⟨k,hk1,hk2,hk3,hk4⟩:=h1.cnt
 obtain⟨es,ck,hm1⟩:=hk2.obj
 obtain⟨es2,ck2,hm2⟩:=h1.arrs.obj
 have hv:m.vb≠m.sb:=fun e=>by have:=h1.box;rw[←e,hm1] at this;cases this
 have ha:m.ab≠m.sb:=fun e=>by have:=h1.box;rw[←e,hm2] at this;cases this
 have hlow9:Below B w w9:=(hBa.mono h.sz.2.2.2).grown hg h1.sz.2.2.2 (fun k hk=>(own_lt h1.out hk).1)
 have hlow:Below B w (w9.setCell ⟨m.sb,4,none⟩ v'):=hlow9.setCell (p:=⟨m.sb,4,none⟩) h.up.1 _
 refine⟨⟨by rw[mem_set hbox];rfl,⟨k+1,by show k+1+2*(F.toNat-s.st)≤_;omega,(hk2.move ((hset hv (hne hm1 trivial)).trans hm1.symm)).mono (Nat.le_succ _),by show s.rd≤_;omega,by show (s.out++[p]).length≤_;simp;omega⟩,h1.arrs.move ((hset ha (hne hm2 trivial)).trans hm2.symm),?_,h.apart,?_,h.inr.low hlow,h.inl,h.fitV,h.fitA,h.fitI,h.stF,h.up⟩,⟨hlow,fun k o hk hs _ _ hn=>hset hs (hne (mem_keep hk hBa) hn)⟩,fun k o hk hn=>hne (mem_keep hk hBa) hn,hlow9⟩
 ·refine h1.rows.move (fun nm g n c hG _=>?_)
  obtain⟨l,_,_,_,_,hr⟩:=h1.rows.row hG
  obtain⟨cur,hcur⟩:=row_obj hr
  have hgs:g≠m.sb:=fun e=>by have:=h1.box;rw[←e,hcur] at this;cases this
  exact (hset hgs (hne hcur (by show 21≠64;decide))).trans hcur.symm
 ·show World.ownsRow _ _ _ _ _ (s.out++[p]).length _
  rw[List.length_append]
  exact own_keep ho (fun k hk _=>Below.heap_setCell _ _ _ _ (by rintro rfl;exact own_other ho hbox (by decide) hk))
end
theorem src_one{w:World}{b n size:Nat}{cs:List Value}{e:TypeId}(h:w.heap[b]? = some (.cells cs.toArray e))(hl:cs.length=n*size):Src w (some ⟨b,0,none⟩) n size cs:=
 ⟨hl,.inr ⟨_,rfl,fun j u hu=>by
  have e1:(⟨b,0,none⟩:Addr).add j=⟨b,j,none⟩:=by
   unfold Addr.add
   by_cases h0:j=0 <;> simp[h0]
  rw[e1,mem_cell h]
  simpa using hu⟩⟩
theorem stmt_of(B:Nat)(m:IM)(F:Int)(inp:List Int)(t:Tree)(hF:F≤10000000)(hk:∀ i,i<t.len→BlkOk B m F inp (t.kid i)):StmtOk B m F inp t:=by
 intro K w s ov a c hKK hv hr h
 obtain⟨hkind,hnum,hlen,hkv⟩:=vldS hv
 have HV:=ξ hv
 have HKO:=ξ hk
 have HKV:=ξ hkv
 have HLEN:=ξ hlen
 have HNUM:=ξ hnum
 have hnl:=hr.fits.len
 have hns:=hr.fits.name
 have hnk:=hr.fits.kind
 obtain⟨W,hW⟩:∃ W:World,w.alloc (ndObj t a c)=W:=⟨_,rfl⟩
 have HBW:Hid (Below w.heap.size w W):=by show Below _ _ _;rw[←hW];exact mem_alloc _ _
 have HXW:Hid (W.heap[w.heap.size]? = some (ndObj t a c)):=by show _=_;rw[←hW];exact mem_new _ _
 have HS:=ξ h
 have HSZ:=ξ h.sz
 have HSW:=ξ (h.keep HBW.out)
 have HR:=ξ hr
 have HK:Hid (∀ w',FrI B m W w'→w'.heap[w.heap.size]? = some (ndObj t a c)∧InB B w' t a∧FrI B m w w'∧Below B w w'):=fun w' hf=>by
  obtain⟨n1,n2,n3⟩:=row_no HS.out (Nat.le_refl _)
  have hl:FrI B m w w':=(FrI.of HBW.out HSZ.out.2.2.2).trans hf
  exact⟨hf.still _ _ HXW.out n1 n2 n3 (by show 47≠64;decide),HR.out.low hl.low,hl,hl.low⟩
 have hsb:m.sb<W.heap.size:=Nat.lt_of_lt_of_le h.sz.1 HBW.out.size
 have hbox:=HSW.out.box
 have HEX:=ξ (Tree.ex_eq F inp t s)
 clear hv hk hkv hlen hnum hr
 by_cases hlt:(s.st:Int)<F
 ·have h9:=step_ok W m.sb m.vb m.ab inp.length m.inc s.rd s.st m.ina F ov hbox hlt (by omega)
  have H9:=ξ h9
  have HLT:=ξ hlt
  have hge0:(0:Int)≤F:=by omega
  clear hbox h9 hlt h
  obtain⟨s1,hs1⟩:∃ s1,({ s with st:=s.st+1 }:St)=s1:=⟨_,rfl⟩
  have HE:Hid (t.ex F inp s=exB F inp t.kind t.num t.name (t.kid 0) (kidE t) (kidX F inp t) s1):=by
   show _=_;rw[HEX.out,if_neg (by omega),stp_lt HLT.out,hs1];exact SR.then_ok rfl
  have HS1:=ξ hs1
  clear HEX hs1
  have hk7:t.kind=40∨t.kind=41∨t.kind=42∨t.kind=43∨t.kind=44∨t.kind=45∨t.kind=46:=by omega
  rcases hk7 with hk|hk|hk|hk|hk|hk|hk
  ·skip
   have b40:(t.kind == 40)=true:=by simp[hk]
   have hkk:t.kind=40:=hk
   have HE2:Hid (t.ex F inp s=asgR t s1):=by
    have hl:t.len=2:=by rw[HLEN.out,hk];rfl
    show _=_;rw[HE.out];unfold exB;rw[if_pos hk];unfold asgR kidE;rw[if_pos (show 1<t.len by omega)]
   have HKK:=ξ hkk
   clear hk hkk HE
   go_enter Tryz.func34,Tryz.ntmps34
   go_wp2_with fail
   refine H9.out.mono ?_
   rintro e w2 ⟨rfl,hb2,ho2,hB2⟩
   obtain⟨hst2,hK2,hfr2⟩:=HSW.out.stepped HLT.out hb2 ho2 hB2
   rw[HS1.out] at hst2
   have HST2:=ξ hst2
   have HFR2:=ξ hfr2
   have HKB:=HK.out w2 hfr2
   have HBX:=ξ HKB.1
   have HIN:=ξ HKB.2.1
   have HLW:=ξ HKB.2.2.2
   clear H9 hb2 ho2 hB2 hst2 hfr2 HKB
   obtain⟨t0,t1,t2,t3⟩:=nd_cells HBX.out
   have h9:=in_assign_any B (K-2) m F inp t w2 s1 ov a c HV.out HKK.out HIN.out HST2.out (by omega)
   have H10:=ξ h9
   clear h9
   go_wp2_with fail
   clear t0 t1 t2 t3
   refine H10.out.mono ?_
   rintro e w3 ⟨he,ov3,hst3,hfr3⟩
   clear H10
   have HST3:=ξ (hst3.mono (show K-2+1≤K by omega))
   have HFR3:Hid (FrI B m w w3):=(HK.out _ HFR2.out).2.2.1.trans (hfr3)
   clear hst3 hfr3
   by_cases h0:(asgR t s1).2=0
   ·have he2:e = .returned (.tuple #[]):=by unfold SrE at he;rw[if_pos h0] at he;exact he
    have HE4:=ξ he
    subst he2
    clear h0 he
    go_wp2_with fail
    go_end0
    exact⟨by rw[HE2.out];exact HE4.out,ov3,by rw[HE2.out];exact HST3.out,HFR3.out⟩
   ·have he2:e = .panicked (failC (asgR t s1).2):=by unfold SrE at he;rw[if_neg h0] at he;exact he
    have HE4:=ξ he
    subst he2
    exact panic_end (P:=Tryz.prog) (fn:=Tryz.f34) rfl ⟨by rw[HE2.out];exact HE4.out,ov3,by rw[HE2.out];exact HST3.out,HFR3.out⟩
  ·skip
   have b40:(t.kind == 40)=false:=by simp[hk]
   have b41:(t.kind == 41)=true:=by simp[hk]
   have hl3:t.len=3:=by rw[HLEN.out,hk];rfl
   have hl0:0<t.len:=by omega
   have hl1:1<t.len:=by omega
   have hl2:2<t.len:=by omega
   have hl0i:(0:Int)<(t.len:Int):=by omega
   have hl1i:(1:Int)<(t.len:Int):=by omega
   have hl2i:(2:Int)<(t.len:Int):=by omega
   have hxv:(t.kid 0).vld 101=true:=by have h:=HKV.out 0 hl0;rw[hk] at h;exact h
   have hbv1:(t.kid 1).vld 98=true:=by have h:=HKV.out 1 hl1;rw[hk] at h;exact h
   have hbv2:(t.kid 2).vld 98=true:=by have h:=HKV.out 2 hl2;rw[hk] at h;exact h
   have HE1:Hid (t.ex F inp s=runE ((t.kid 0).ev s1.V s1.A) s1 fun x=>if x=0 then (t.kid 2).ex F inp s1 else (t.kid 1).ex F inp s1):=by
    show _=_;rw[HE.out];unfold exB;rw[if_neg (by omega),if_pos hk];unfold kidE kidX;rw[if_pos hl0,if_pos hl1,if_pos hl2]
   have HXV:=ξ hxv
   have HBV1:=ξ hbv1
   have HBV2:=ξ hbv2
   clear hk HE hl3 hxv hbv1 hbv2
   go_enter Tryz.func34,Tryz.ntmps34
   go_wp2_with fail
   refine H9.out.mono ?_
   rintro e w2 ⟨rfl,hb2,ho2,hB2⟩
   obtain⟨hst2,hK2,hfr2⟩:=HSW.out.stepped HLT.out hb2 ho2 hB2
   rw[HS1.out] at hst2
   have HST2:=ξ hst2
   have HFR2:=ξ hfr2
   have HKB:=HK.out w2 hfr2
   have HBX:=ξ HKB.1
   have HIN:=ξ HKB.2.1
   have HLW:=ξ HKB.2.2.2
   clear H9 hb2 ho2 hB2 hst2 hfr2 HKB
   obtain⟨t0,t1,t2,t3⟩:=nd_cells HBX.out
   obtain⟨kb,ko,rfl,hkb,xa,xc,hnx,hrx⟩:=kid_in HIN.out hl0
   rw[Nat.zero_mul,Nat.add_zero] at hnx
   obtain⟨k,hrd⟩:=HST2.out.rd
   have h9:=expr_any m.sb m.vb m.ab k m.na m.G s1.V s1.A (t.kid 0) HXV.out w2 xa xc hrx.rep hrd
   have H11:=ξ h9
   have n0:=hnx.kind
   have n1:=hnx.num
   have n2:=hnx.name
   have n3:=hnx.kids
   clear hnx hrx h9 hrd
   go_wp2_with fail
   clear t0 t1 t2 t3 n0 n1 n2 n3
   refine H11.out.mono ?_
   rintro e w4 ⟨he,hB4⟩
   have HB4:=ξ hB4
   have HFR4:Hid (FrI B m W w4):=HFR2.out.trans (FrI.of hB4 HST2.out.sz.2.2.2)
   have HST4:=ξ (HST2.out.keep hB4)
   clear hB4 H11
   cases hv0:(t.kid 0).ev s1.V s1.A with
   | er k =>
    rw[hv0] at he
    have he:e = .panicked (failC k):=he
    have hRE:t.ex F inp s=(s1,k):=by rw[HE1.out,hv0];rfl
    subst he
    exact panic_end (P:=Tryz.prog) (fn:=Tryz.f34) rfl ⟨by rw[hRE];exact srE_er (ev_er _ _ _ _ hv0),ov,by rw[hRE];exact HST4.out.mono (by omega),(HK.out _ HFR4.out).2.2.1⟩
   | ok v =>
    rw[hv0] at he
    obtain⟨rfl,_⟩:=he
    have HE3:Hid (t.ex F inp s=if v=0 then (t.kid 2).ex F inp s1 else (t.kid 1).ex F inp s1):=by show _=_;rw[HE1.out,hv0];rfl
    have HFR2:=HFR4
    obtain⟨hbx,hin,_,_⟩:=HK.out w4 HFR4.out
    obtain⟨t0,t1,t2,t3⟩:=nd_cells hbx
    obtain⟨kb1,ko1,hs1',_,ya,yc,hny,hry⟩:=kid_in hin hl1
    cases hs1'
    obtain⟨kb2,ko2,hs2',_,za,zc,hnz,hrz⟩:=kid_in hin hl2
    cases hs2'
    rw[Nat.one_mul] at hny
    rw[show ko+2*4=ko+8 from rfl] at hnz
    clear hv0
    by_cases h00:v=0
    ·have hb:(v != 0)=false:=by simp[h00]
     have HE2:Hid (t.ex F inp s=(t.kid 2).ex F inp s1):=by show _=_;rw[HE3.out,if_pos h00]
     have h9:=HKO.out 2 hl2 (K-2) w4 s1 ov za zc (by omega) HBV2.out hrz HST4.out
     have H10:=ξ h9
     have n0:=hnz.kind
     have n1:=hnz.num
     have n2:=hnz.name
     have n3:=hnz.kids
     clear h00 hbx hin hny hry hnz hrz h9 HE3
     go_wp2_with fail
     clear t0 t1 t2 t3 n0 n1 n2 n3
     refine H10.out.mono ?_
     rintro e w3 ⟨he,ov3,hst3,hfr3⟩
     clear H10
     have HST3:=ξ (hst3.mono (show K-2≤K by omega))
     have HFR3:Hid (FrI B m w w3):=(HK.out _ HFR2.out).2.2.1.trans (hfr3)
     clear hst3 hfr3
     by_cases h0:((t.kid 2).ex F inp s1).2=0
     ·have he2:e = .returned (.tuple #[]):=by unfold SrE at he;rw[if_pos h0] at he;exact he
      have HE4:=ξ he
      subst he2
      clear h0 he
      go_wp2_with fail
      go_end0
      exact⟨by rw[HE2.out];exact HE4.out,ov3,by rw[HE2.out];exact HST3.out,HFR3.out⟩
     ·have he2:e = .panicked (failC ((t.kid 2).ex F inp s1).2):=by unfold SrE at he;rw[if_neg h0] at he;exact he
      have HE4:=ξ he
      subst he2
      exact panic_end (P:=Tryz.prog) (fn:=Tryz.f34) rfl ⟨by rw[HE2.out];exact HE4.out,ov3,by rw[HE2.out];exact HST3.out,HFR3.out⟩
    ·have hb:(v != 0)=true:=by simp[h00]
     have HE2:Hid (t.ex F inp s=(t.kid 1).ex F inp s1):=by show _=_;rw[HE3.out,if_neg h00]
     have h9:=HKO.out 1 hl1 (K-2) w4 s1 ov ya yc (by omega) HBV1.out hry HST4.out
     have H10:=ξ h9
     have n0:=hny.kind
     have n1:=hny.num
     have n2:=hny.name
     have n3:=hny.kids
     clear h00 hbx hin hny hry hnz hrz h9 HE3
     go_wp2_with fail
     clear t0 t1 t2 t3 n0 n1 n2 n3
     refine H10.out.mono ?_
     rintro e w3 ⟨he,ov3,hst3,hfr3⟩
     clear H10
     have HST3:=ξ (hst3.mono (show K-2≤K by omega))
     have HFR3:Hid (FrI B m w w3):=(HK.out _ HFR2.out).2.2.1.trans (hfr3)
     clear hst3 hfr3
     by_cases h0:((t.kid 1).ex F inp s1).2=0
     ·have he2:e = .returned (.tuple #[]):=by unfold SrE at he;rw[if_pos h0] at he;exact he
      have HE4:=ξ he
      subst he2
      clear h0 he
      go_wp2_with fail
      go_end0
      exact⟨by rw[HE2.out];exact HE4.out,ov3,by rw[HE2.out];exact HST3.out,HFR3.out⟩
     ·have he2:e = .panicked (failC ((t.kid 1).ex F inp s1).2):=by unfold SrE at he;rw[if_neg h0] at he;exact he
      have HE4:=ξ he
      subst he2
      exact panic_end (P:=Tryz.prog) (fn:=Tryz.f34) rfl ⟨by rw[HE2.out];exact HE4.out,ov3,by rw[HE2.out];exact HST3.out,HFR3.out⟩
  ·skip
   have b40:(t.kind == 40)=false:=by simp[hk]
   have b41:(t.kind == 41)=false:=by simp[hk]
   have b42:(t.kind == 42)=true:=by simp[hk]
   have hl1:t.len=1:=by rw[HLEN.out,hk];rfl
   have hl0:0<t.len:=by omega
   have hl0i:(0:Int)<(t.len:Int):=by omega
   have hbv:(t.kid 0).vld 98=true:=by have h:=HKV.out 0 hl0;rw[hk] at h;exact h
   have hnum:(1:Int)≤t.num∧t.num≤1000:=by have h:=HNUM.out;rw[hk] at h;exact h
   obtain⟨n,hn⟩:∃ n:Nat,t.num=(n:Int):=⟨t.num.toNat,by omega⟩
   have hnn:t.num.toNat=n:=by omega
   have hn1000:n≤1000:=by omega
   have HN:=ξ hn
   obtain⟨y,hye⟩:∃ y,t.kid 0=y:=⟨_,rfl⟩
   have HE1:Hid (t.ex F inp s=(seqTo (forR F t.name (kidX F inp t 0)) n s1).then fun s2=>(s2.putV t.name none,0)):=by
    show _=_;rw[HE.out];unfold exB;rw[if_neg (by omega),if_neg (by omega),if_pos hk,hnn]
   have HY:Hid (∀ s1,kidX F inp t 0 s1=y.ex F inp s1):=fun s1=>by unfold kidX;rw[if_pos hl0,hye]
   rw[hye] at hbv
   have HBV:=ξ hbv
   have HYE:=ξ hye
   have HBO:Hid (BlkOk B m F inp y):=by show BlkOk _ _ _ _ _;rw[←hye];exact HKO.out 0 hl0
   clear hk HE hl1 hbv hnum hn hnn hye
   go_enter Tryz.func34,Tryz.ntmps34
   go_wp2_with fail
   refine H9.out.mono ?_
   rintro e w2 ⟨rfl,hb2,ho2,hB2⟩
   obtain⟨hst2,hK2,hfr2⟩:=HSW.out.stepped HLT.out hb2 ho2 hB2
   rw[HS1.out] at hst2
   have HST2:=ξ hst2
   have HFR2:=ξ hfr2
   have HKB:=HK.out w2 hfr2
   have HBX:=ξ HKB.1
   have HIN:=ξ HKB.2.1
   have HLW:=ξ HKB.2.2.2
   clear H9 hb2 ho2 hB2 hst2 hfr2 HKB
   obtain⟨t0,t1,t2,t3⟩:=nd_cells HBX.out
   go_wp2_with fail
   clear t0 t1 t2 t3
   go_loopw [40] (fun iv wr=>∃ (j:Nat) (s2:St) (ov2:Value),j≤n∧iv = .int .i64 (j:Int)∧seqTo (forR F t.name (kidX F inp t 0)) j s1=(s2,0)∧StAt B (K-2) m F inp wr s2 ov2∧FrI B m W wr) (fun iv _=>n-(intOf iv).toNat)
   case atStart=>exact⟨0,s1,ov,Nat.zero_le _,rfl,rfl,HST2.out,HFR2.out⟩
   case round =>
    obtain⟨j,s2,ov2,hj,rfl,hseq,hst,hfr⟩:=hrel
    have HSEQ:=ξ hseq
    have HST:=ξ hst
    have HFW:=ξ hfr
    have HKB:=ξ (HK.out wr hfr)
    have HS0:Hid (∀ w',Below wr.heap.size wr w'→AsS B m wr w.heap.size w.heap.size (ndObj t a c) (ndObj t a c) w'):=fun w' hw =>
     ⟨hw.mono HST.out.sz.2.2.2,mem_keep HKB.out.1 hw,mem_keep HKB.out.1 hw,mem_cell (HST.out.keep hw).box 0⟩
    have HS1':Hid (∀ v w' K' s' ov',Below wr.heap.size wr v→FrI B m v w'→StAt B K' m F inp w' s' ov'→AsS B m wr w.heap.size w.heap.size (ndObj t a c) (ndObj t a c) w'):=fun v w' K' s' ov' hv hf hs=>by
     obtain⟨n1,n2,n3⟩:=row_no HS.out (Nat.le_refl _)
     have hb:=hf.still _ _ (mem_keep HKB.out.1 hv) n1 n2 n3 (by show 47≠64;decide)
     exact⟨(hv.mono HST.out.sz.2.2.2).trans hf.low,hb,hb,mem_cell hs.box 0⟩
    have hj0:(0:Int)≤(j:Int):=by omega
    clear hseq hst hfr
    by_cases hlt:j<n
    ·have hlt2:(j:Int)<t.num:=by rw[HN.out];omega
     have hj1000:(j:Int)≤1000:=by omega
     go_upto_region 13 with fail
     have hD0:Below wr.heap.size wr (World.drew wr):=(Below.refl _ _).drew
     refine wp_region_held_drew (S:=AsS B m wr w.heap.size w.heap.size (ndObj t a c) (ndObj t a c)) (by kernel_rfl) (HS0.out _ hD0) (fun hHeld=>?_)
     generalize hwd:World.drew wr=v1 at hHeld hD0⊢
     clear hwd
     refine hT 0 (.pointer (some ⟨m.sb,0,none⟩)) rfl (hy:=?_) (h:=?_)
     ·intro w' hSw;go_simp
     (try simp only[Act.put,pZ])
     refine hT 1 (.pointer (some ⟨m.sb,0,none⟩)) rfl (hy:=?_) (h:=?_)
     ·intro w' hSw;go_simp
     (try simp only[Act.put,pZ])
     refine hT 2 (.pointer (some ⟨m.sb,0,none⟩)) rfl (hy:=?_) (h:=?_)
     ·intro w' hSw;go_simp
     (try simp only[Act.put,pZ])
     refine hT 3 (.map (some m.vb)) rfl (hy:=?_) (h:=?_)
     ·intro w' hSw;have z0:=hSw.c0;go_simp
     (try simp only[Act.put,pZ])
     refine hT 4 (.pointer (some ⟨w.heap.size,2,none⟩)) rfl (hy:=?_) (h:=?_)
     ·intro w' hSw;go_simp
     (try simp only[Act.put,pZ])
     refine hT 5 (.string t.name) rfl (hy:=?_) (h:=?_)
     ·intro w' hSw;obtain⟨_,_,z0,_⟩:=nd_cells hSw.x1;go_simp
     (try simp only[Act.put,pZ])
     refine hT 6 (.int .i64 (j:Int)) rfl (hy:=?_) (h:=?_)
     ·intro w' hSw;go_simp
     (try simp only[Act.put,pZ])
     refine hT 7 (.int .i32 (j:Int)) rfl (hy:=?_) (h:=?_)
     ·intro w' hSw;go_simp;(first | done | (rw[IntKind.wrap_i32];omega) | omega)
     (try simp only[Act.put,pZ])
     obtain⟨w3,hrun,hst3,hfr3⟩:=(HST.out.keep hD0).store (nm:=t.name) (v:=(j:Int)) hns ⟨by omega,by omega⟩ (by omega)
     have HS3:=ξ (HS1'.out _ _ _ _ _ hD0 hfr3 hst3)
     have HST3:=ξ hst3
     have HFR3:Hid (FrI B m W w3):=HFW.out.trans ((FrI.of hD0 HST.out.sz.2.2.2).trans hfr3)
     clear hst3 hfr3 hD0
     refine hR 8 rfl (fun K hK=>?_)
     go_simp
     refine hK.out _ _ (HS3.out) (fun hHeld=>?_)
     clear hK K
     rename_i hOld
     clear hOld
     (try simp only[Act.put,pZ])
     clear hrun hHeld
     refine wpAnyH_done (by kernel_rfl) ?_ _
     have hbox3:=HST3.out.box
     by_cases hlt3:(s2.st:Int)<F
     ·have h9:=step_ok w3 m.sb m.vb m.ab inp.length m.inc s2.rd s2.st m.ina F ov2 hbox3 hlt3 (by omega)
      have H11:=ξ h9
      have HLT3:=ξ hlt3
      clear h9 hbox3 hlt3
      go_wp2_with fail
      refine H11.out.mono ?_
      rintro e w4 ⟨rfl,hb4,ho4,hB4⟩
      obtain⟨hst4,hK4,hfr4⟩:=HST3.out.stepped HLT3.out hb4 ho4 hB4
      obtain⟨s4,hs4⟩:∃ s4,({ s2.putV t.name (some (j:Int)) with st:=(s2.putV t.name (some (j:Int))).st+1 }:St)=s4:=⟨_,rfl⟩
      rw[hs4] at hst4
      have HFS:Hid (forR F t.name (kidX F inp t 0) j s2=y.ex F inp s4):=by
       show _=_;unfold forR;rw[stp_lt (show ((s2.putV t.name (some (j:Int))).st:Int)<F from HLT3.out),hs4,SR.then_ok rfl,HY.out]
      have HNX:Hid (seqTo (forR F t.name (kidX F inp t 0)) (j+1) s1=y.ex F inp s4):=by show _=_;rw[seqTo_next HSEQ.out,HFS.out]
      have HST4:=ξ hst4
      have HFR4:=ξ (HFR3.out.trans hfr4)
      obtain⟨hbx,hin4,_,_⟩:=HK.out w4 (HFR3.out.trans hfr4)
      obtain⟨kb,ko,rfl,hkb,ya,yc,hny,hry⟩:=kid_in hin4 hl0
      rw[Nat.zero_mul,Nat.add_zero,HYE.out] at hny
      rw[HYE.out] at hry
      obtain⟨_,_,_,t3⟩:=nd_cells hbx
      have h9:=HBO.out (K-2+1-2) w4 s4 ov2 ya yc (by omega) HBV.out hry HST4.out
      have H12:=ξ h9
      have n0:=hny.kind
      have n1:=hny.num
      have n2:=hny.name
      have n3:=hny.kids
      clear H11 hb4 ho4 hB4 hst4 hfr4 hs4 hbx hin4 hny hry h9
      go_wp2_with fail
      clear t3 n0 n1 n2 n3
      refine H12.out.mono ?_
      rintro e w5 ⟨he,ov5,hst5,hfr5⟩
      have HST5:=ξ (hst5.mono (show K-2+1-2≤K-2 by omega))
      have HFR5:=ξ (HFR4.out.trans hfr5)
      clear H12 hst5 hfr5
      by_cases h0:(y.ex F inp s4).2=0
      ·unfold SrE at he
       rw[if_pos h0] at he
       subst he
       have HEJ:=ξ (HNX.out.trans (pair_eq h0))
       clear h0
       go_wp2_with fail
       go_roundw
       case rel=>exact⟨j+1,_,ov5,by omega,by go_num,HEJ.out,HST5.out,HFR5.out⟩
       case measure=>simp[intOf];omega
      ·have he2:e = .panicked (failC (y.ex F inp s4).2):=by unfold SrE at he;rw[if_neg h0] at he;exact he
       have hall:t.ex F inp s=y.ex F inp s4:=by rw[HE1.out,seqTo_er HNX.out h0 (by omega)];exact SR.then_er h0
       subst he2
       exact panic_end (P:=Tryz.prog) (fn:=Tryz.f34) rfl ⟨by rw[hall];exact he,ov5,by rw[hall];exact HST5.out.mono (by omega),(HK.out _ HFR5.out).2.2.1⟩
     ·have hge3:F≤(s2.st:Int):=by omega
      have h9:=step_er w3 m.sb m.vb m.ab inp.length m.inc s2.rd s2.st m.ina F ov2 hbox3 hge3
      have H11:=ξ h9
      have HFS:Hid (forR F t.name (kidX F inp t 0) j s2=(s2.putV t.name (some (j:Int)),13)):=by
       show _=_;unfold forR;rw[stp_ge (show F≤((s2.putV t.name (some (j:Int))).st:Int) from hge3)];exact SR.then_er (show (13:Int)≠0 by decide)
      have HNX:Hid (seqTo (forR F t.name (kidX F inp t 0)) (j+1) s1=(s2.putV t.name (some (j:Int)),13)):=by show _=_;rw[seqTo_next HSEQ.out,HFS.out]
      clear h9 hbox3 hlt3 hge3
      go_wp2_with fail
      refine H11.out.mono ?_
      rintro e w4 ⟨rfl,ho4,hB4⟩
      have hall:t.ex F inp s=(s2.putV t.name (some (j:Int)),13):=by rw[HE1.out,seqTo_er HNX.out (show (13:Int)≠0 by decide) (by omega)];exact SR.then_er (show (13:Int)≠0 by decide)
      exact panic_end (P:=Tryz.prog) (fn:=Tryz.f34) rfl ⟨by rw[hall];exact srE_er (by decide),ov2,by rw[hall];exact (HST3.out.keep hB4).mono (by omega),(HK.out _ (HFR3.out.trans (FrI.of hB4 HST3.out.sz.2.2.2))).2.2.1⟩
    ·obtain rfl:j=n:=by omega
     have hge2:¬ (j:Int)<t.num:=by rw[HN.out];omega
     have HE2:Hid (t.ex F inp s=(s2.putV t.name none,0)):=by show _=_;rw[HE1.out,HSEQ.out];exact SR.then_ok rfl
     go_upto_region 17 with fail
     have hD0:Below wr.heap.size wr (World.drew wr):=(Below.refl _ _).drew
     refine wp_region_held_drew (S:=AsS B m wr w.heap.size w.heap.size (ndObj t a c) (ndObj t a c)) (by kernel_rfl) (HS0.out _ hD0) (fun hHeld=>?_)
     generalize hwd:World.drew wr=v1 at hHeld hD0⊢
     clear hwd
     refine hT 0 (.pointer (some ⟨m.sb,0,none⟩)) rfl (hy:=?_) (h:=?_)
     ·intro w' hSw;go_simp
     (try simp only[Act.put,pZ])
     refine hT 1 (.pointer (some ⟨m.sb,0,none⟩)) rfl (hy:=?_) (h:=?_)
     ·intro w' hSw;go_simp
     (try simp only[Act.put,pZ])
     refine hT 2 (.pointer (some ⟨m.sb,0,none⟩)) rfl (hy:=?_) (h:=?_)
     ·intro w' hSw;go_simp
     (try simp only[Act.put,pZ])
     refine hT 3 (.map (some m.vb)) rfl (hy:=?_) (h:=?_)
     ·intro w' hSw;have z0:=hSw.c0;go_simp
     (try simp only[Act.put,pZ])
     refine hT 4 (.pointer (some ⟨w.heap.size,2,none⟩)) rfl (hy:=?_) (h:=?_)
     ·intro w' hSw;go_simp
     (try simp only[Act.put,pZ])
     refine hT 5 (.string t.name) rfl (hy:=?_) (h:=?_)
     ·intro w' hSw;obtain⟨_,_,z0,_⟩:=nd_cells hSw.x1;go_simp
     (try simp only[Act.put,pZ])
     obtain⟨w3,hrun,hst3,hfr3⟩:=(HST.out.keep hD0).drop (nm:=t.name) hns 0
     have HS3:=ξ (HS1'.out _ _ _ _ _ hD0 hfr3 hst3)
     have HST3:=ξ hst3
     have HFR3:Hid (FrI B m W w3):=HFW.out.trans ((FrI.of hD0 HST.out.sz.2.2.2).trans hfr3)
     clear hst3 hfr3 hD0
     refine hR 6 rfl (fun K hK=>?_)
     go_simp
     refine hK.out _ _ (HS3.out) (fun hHeld=>?_)
     clear hK K
     rename_i hOld
     clear hOld
     (try simp only[Act.put,pZ])
     clear hrun hHeld
     refine wpAnyH_done (by kernel_rfl) ?_ _
     go_wp2_with fail
     go_end0
     exact⟨by rw[HE2.out];exact srE_ok,ov2,by rw[HE2.out];exact HST3.out.mono (by omega),(HK.out _ HFR3.out).2.2.1⟩
  ·skip
   have b40:(t.kind == 40)=false:=by simp[hk]
   have b41:(t.kind == 41)=false:=by simp[hk]
   have b42:(t.kind == 42)=false:=by simp[hk]
   have b43:(t.kind == 43)=true:=by simp[hk]
   have hkk:t.kind=43:=hk
   have hl2:t.len=2:=by rw[HLEN.out,hk];rfl
   have HE2:Hid (t.ex F inp s=whl F (kidE t 0) (kidX F inp t 1) t.num.toNat s1):=by
    show _=_;rw[HE.out];unfold exB;rw[if_neg (by omega),if_neg (by omega),if_neg (by omega),if_pos hk]
   have HB1:=ξ (HKO.out 1 (by omega))
   have HKK:=ξ hkk
   clear hk hkk HE hl2
   go_enter Tryz.func34,Tryz.ntmps34
   go_wp2_with fail
   refine H9.out.mono ?_
   rintro e w2 ⟨rfl,hb2,ho2,hB2⟩
   obtain⟨hst2,hK2,hfr2⟩:=HSW.out.stepped HLT.out hb2 ho2 hB2
   rw[HS1.out] at hst2
   have HST2:=ξ hst2
   have HFR2:=ξ hfr2
   have HKB:=HK.out w2 hfr2
   have HBX:=ξ HKB.1
   have HIN:=ξ HKB.2.1
   have HLW:=ξ HKB.2.2.2
   clear H9 hb2 ho2 hB2 hst2 hfr2 HKB
   obtain⟨t0,t1,t2,t3⟩:=nd_cells HBX.out
   have h9:=while_of B m F inp t hF HB1.out (K-2) w2 s1 ov a c (by omega) HV.out HKK.out HIN.out HST2.out
   have H10:=ξ h9
   clear h9
   go_wp2_with fail
   clear t0 t1 t2 t3
   refine H10.out.mono ?_
   rintro e w3 ⟨he,ov3,hst3,hfr3⟩
   clear H10
   have HST3:=ξ (hst3.mono (show K-2≤K by omega))
   have HFR3:Hid (FrI B m w w3):=(HK.out _ HFR2.out).2.2.1.trans (hfr3)
   clear hst3 hfr3
   by_cases h0:(whl F (kidE t 0) (kidX F inp t 1) t.num.toNat s1).2=0
   ·have he2:e = .returned (.tuple #[]):=by unfold SrE at he;rw[if_pos h0] at he;exact he
    have HE4:=ξ he
    subst he2
    clear h0 he
    go_wp2_with fail
    go_end0
    exact⟨by rw[HE2.out];exact HE4.out,ov3,by rw[HE2.out];exact HST3.out,HFR3.out⟩
   ·have he2:e = .panicked (failC (whl F (kidE t 0) (kidX F inp t 1) t.num.toNat s1).2):=by unfold SrE at he;rw[if_neg h0] at he;exact he
    have HE4:=ξ he
    subst he2
    exact panic_end (P:=Tryz.prog) (fn:=Tryz.f34) rfl ⟨by rw[HE2.out];exact HE4.out,ov3,by rw[HE2.out];exact HST3.out,HFR3.out⟩
  ·skip
   have b40:(t.kind == 40)=false:=by simp[hk]
   have b41:(t.kind == 41)=false:=by simp[hk]
   have b42:(t.kind == 42)=false:=by simp[hk]
   have b43:(t.kind == 43)=false:=by simp[hk]
   have b44:(t.kind == 44)=true:=by simp[hk]
   have hkk:t.kind=44:=hk
   have HE2:Hid (t.ex F inp s=recvR inp t s1):=by
    show _=_;rw[HE.out];unfold exB;rw[if_neg (by omega),if_neg (by omega),if_neg (by omega),if_neg (by omega),if_pos hk];rfl
   have HKK:=ξ hkk
   have HK2:Hid (2≤K):=by
    obtain⟨k,h1,_⟩:=HSW.out.cnt
    have:=HLT.out
    show _≤_;omega
   clear hk hkk HE
   go_enter Tryz.func34,Tryz.ntmps34
   go_wp2_with fail
   refine H9.out.mono ?_
   rintro e w2 ⟨rfl,hb2,ho2,hB2⟩
   obtain⟨hst2,hK2,hfr2⟩:=HSW.out.stepped HLT.out hb2 ho2 hB2
   rw[HS1.out] at hst2
   have HST2:=ξ hst2
   have HFR2:=ξ hfr2
   have HKB:=HK.out w2 hfr2
   have HBX:=ξ HKB.1
   have HIN:=ξ HKB.2.1
   have HLW:=ξ HKB.2.2.2
   clear H9 hb2 ho2 hB2 hst2 hfr2 HKB
   obtain⟨t0,t1,t2,t3⟩:=nd_cells HBX.out
   have h9:=in_receive_any B (K-2) m F inp t w2 s1 ov a c HV.out HKK.out HIN.out HST2.out (by omega)
   have H10:=ξ h9
   clear h9
   go_wp2_with fail
   clear t0 t1 t2 t3
   refine H10.out.mono ?_
   rintro e w3 ⟨he,ov3,hst3,hfr3⟩
   clear H10
   have HST3:=ξ (hst3.mono (show K-2+2≤K by have:=HK2.out;omega))
   have HFR3:Hid (FrI B m w w3):=(HK.out _ HFR2.out).2.2.1.trans (hfr3)
   clear hst3 hfr3
   by_cases h0:(recvR inp t s1).2=0
   ·have he2:e = .returned (.tuple #[]):=by unfold SrE at he;rw[if_pos h0] at he;exact he
    have HE4:=ξ he
    subst he2
    clear h0 he
    go_wp2_with fail
    go_end0
    exact⟨by rw[HE2.out];exact HE4.out,ov3,by rw[HE2.out];exact HST3.out,HFR3.out⟩
   ·have he2:e = .panicked (failC (recvR inp t s1).2):=by unfold SrE at he;rw[if_neg h0] at he;exact he
    have HE4:=ξ he
    subst he2
    exact panic_end (P:=Tryz.prog) (fn:=Tryz.f34) rfl ⟨by rw[HE2.out];exact HE4.out,ov3,by rw[HE2.out];exact HST3.out,HFR3.out⟩
  ·skip
   have b40:(t.kind == 40)=false:=by simp[hk]
   have b41:(t.kind == 41)=false:=by simp[hk]
   have b42:(t.kind == 42)=false:=by simp[hk]
   have b43:(t.kind == 43)=false:=by simp[hk]
   have b44:(t.kind == 44)=false:=by simp[hk]
   have b45:(t.kind == 45)=true:=by simp[hk]
   have hl1:t.len=1:=by rw[HLEN.out,hk];rfl
   have hl0:0<t.len:=by omega
   have hl0i:(0:Int)<(t.len:Int):=by omega
   have hxv:(t.kid 0).vld 101=true:=by have h:=HKV.out 0 hl0;rw[hk] at h;exact h
   obtain⟨x,hxe⟩:∃ x,t.kid 0=x:=⟨_,rfl⟩
   have HE1:Hid (t.ex F inp s=runE (x.ev s1.V s1.A) s1 fun v=>({ s1 with out:=s1.out++[(t.num,v)] },0)):=by
    show _=_;rw[HE.out];unfold exB;rw[if_neg (by omega),if_neg (by omega),if_neg (by omega),if_neg (by omega),if_neg (by omega),if_pos hk];unfold kidE;rw[if_pos hl0,hxe]
   rw[hxe] at hxv
   have HXV:=ξ hxv
   have HXE:=ξ hxe
   clear hk HE hl1 hxv hxe
   go_enter Tryz.func34,Tryz.ntmps34
   go_wp2_with fail
   refine H9.out.mono ?_
   rintro e w2 ⟨rfl,hb2,ho2,hB2⟩
   obtain⟨hst2,hK2,hfr2⟩:=HSW.out.stepped HLT.out hb2 ho2 hB2
   rw[HS1.out] at hst2
   have HST2:=ξ hst2
   have HFR2:=ξ hfr2
   have HKB:=HK.out w2 hfr2
   have HBX:=ξ HKB.1
   have HIN:=ξ HKB.2.1
   have HLW:=ξ HKB.2.2.2
   clear H9 hb2 ho2 hB2 hst2 hfr2 HKB
   obtain⟨t0,t1,t2,t3⟩:=nd_cells HBX.out
   obtain⟨kb,ko,rfl,hkb,xa,xc,hnx,hrx⟩:=kid_in HIN.out hl0
   rw[Nat.zero_mul,Nat.add_zero,HXE.out] at hnx
   rw[HXE.out] at hrx
   obtain⟨oa,oc,rfl⟩:=own_val HST2.out.out
   obtain⟨k,hrd⟩:=HST2.out.rd
   have h9:=expr_any m.sb m.vb m.ab k m.na m.G s1.V s1.A x HXV.out w2 xa xc hrx.rep hrd
   have H11:=ξ h9
   have n0:=hnx.kind
   have n1:=hnx.num
   have n2:=hnx.name
   have n3:=hnx.kids
   clear hnx hrx h9 hrd
   go_wp2_with fail
   clear t0 t1 t2 t3 n0 n1 n2 n3
   refine H11.out.mono ?_
   rintro e w4 ⟨he,hB4⟩
   have HB4:=ξ hB4
   have HFR4:Hid (FrI B m W w4):=HFR2.out.trans (FrI.of hB4 HST2.out.sz.2.2.2)
   have HST4:=ξ (HST2.out.keep hB4)
   clear hB4 H11
   cases hv0:x.ev s1.V s1.A with
   | er k =>
    rw[hv0] at he
    have he:e = .panicked (failC k):=he
    have hRE:t.ex F inp s=(s1,k):=by rw[HE1.out,hv0];rfl
    subst he
    exact panic_end (P:=Tryz.prog) (fn:=Tryz.f34) rfl ⟨by rw[hRE];exact srE_er (ev_er _ _ _ _ hv0),_,by rw[hRE];exact HST4.out.mono (by omega),(HK.out _ HFR4.out).2.2.1⟩
   | ok v =>
    rw[hv0] at he
    obtain⟨rfl,hWv⟩:=he
    have HE2:Hid (t.ex F inp s=({ s1 with out:=s1.out++[(t.num,v)] },0)):=by show _=_;rw[HE1.out,hv0];rfl
    have HKB:=ξ (HK.out w4 HFR4.out)
    have HS0:Hid (∀ w',Below w4.heap.size w4 w'→AsS B m w4 w.heap.size w.heap.size (ndObj t (some ⟨kb,ko,none⟩) c) (ndObj t (some ⟨kb,ko,none⟩) c) w'):=fun w' hw =>
     ⟨hw.mono HST4.out.sz.2.2.2,mem_keep HKB.out.1 hw,mem_keep HKB.out.1 hw,mem_cell (HST4.out.keep hw).box 0⟩
    have HS1':Hid (∀ v w' K' s' ov',Below w4.heap.size w4 v→FrI B m v w'→StAt B K' m F inp w' s' ov'→AsS B m w4 w.heap.size w.heap.size (ndObj t (some ⟨kb,ko,none⟩) c) (ndObj t (some ⟨kb,ko,none⟩) c) w'):=fun v w' K' s' ov' hv hf hs=>by
     obtain⟨n1,n2,n3⟩:=row_no HS.out (Nat.le_refl _)
     have hb:=hf.still _ _ (mem_keep HKB.out.1 hv) n1 n2 n3 (by show 47≠64;decide)
     exact⟨(hv.mono HST4.out.sz.2.2.2).trans hf.low,hb,hb,mem_cell hs.box 0⟩
    obtain⟨q0,hq,qz0,qz1,qz2⟩:=info_parts out_info
    have hol:s1.out.length≤100000000:=by
     obtain⟨k,h1,_,_,h4⟩:=HST4.out.cnt
     omega
    clear hv0 hWv
    go_wp2_with fail
    have hD0:Below w4.heap.size w4 (World.drew w4):=(Below.refl _ _).drew
    refine wp_region_held_drew (S:=AsS B m w4 w.heap.size w.heap.size (ndObj t (some ⟨kb,ko,none⟩) c) (ndObj t (some ⟨kb,ko,none⟩) c)) (by kernel_rfl) (HS0.out _ hD0) (fun hHeld=>?_)
    generalize hwd:World.drew w4=v1 at hHeld hD0⊢
    clear hwd
    refine hT 0 (.pointer (some ⟨m.sb,0,none⟩)) rfl (hy:=?_) (h:=?_)
    ·intro w' hSw;go_simp
    (try simp only[Act.put,pZ])
    refine hT 1 (.pointer (some ⟨m.sb,0,none⟩)) rfl (hy:=?_) (h:=?_)
    ·intro w' hSw;go_simp
    (try simp only[Act.put,pZ])
    refine hT 2 (.pointer (some ⟨m.sb,0,none⟩)) rfl (hy:=?_) (h:=?_)
    ·intro w' hSw;go_simp
    (try simp only[Act.put,pZ])
    refine hT 3 (.pointer (some ⟨m.sb,4,none⟩)) rfl (hy:=?_) (h:=?_)
    ·intro w' hSw;go_simp
    (try simp only[Act.put,pZ])
    refine hT 5 (.pointer (some ⟨w.heap.size,1,none⟩)) rfl (hy:=?_) (h:=?_)
    ·intro w' hSw;go_simp
    (try simp only[Act.put,pZ])
    refine hT 6 (.int .i64 t.num) rfl (hy:=?_) (h:=?_)
    ·intro w' hSw;obtain⟨_,z0,_,_⟩:=nd_cells hSw.x1;go_simp
    (try simp only[Act.put,pZ])
    refine hT 7 (.int .i32 v) rfl (hy:=?_) (h:=?_)
    ·intro w' hSw;go_simp
    (try simp only[Act.put,pZ])
    refine hT 8 (.agg #[.int .i64 t.num,.int .i32 v]) rfl (hy:=?_) (h:=?_)
    ·intro w' hSw;go_simp
    (try simp only[Act.put,pZ])
    have HD0:=ξ hD0
    have HBV:Hid (Below w4.heap.size w4 (v1.alloc (.cells #[.int .i64 t.num,.int .i32 v] 64))):=mem_then hD0 (mem_alloc _ _)
    have HNEW:Hid ((v1.alloc (.cells #[.int .i64 t.num,.int .i32 v] 64)).heap[v1.heap.size]? = some (.cells #[.int .i64 t.num,.int .i32 v] 64)):=mem_new _ _
    clear hD0
    refine wpAnyH_ready (rs:=[4,9]) (by kernel_rfl) (by simp) (AllReadyH.cons rfl (fun K hK=>?_) (AllReadyH.cons rfl (fun K hK=>?_) AllReadyH.nil))
    ·have z4:=mem_cell (HST4.out.keep HD0.out).box 4
     simp only[List.getElem?_toArray,List.getElem?_cons_zero,List.getElem?_cons_succ] at z4
     go_simp
     refine hK.out _ _ (HS0.out _ HD0.out) (fun hHeld=>?_)
     clear hK K
     rename_i hOld
     clear hOld
     (try simp only[Act.put,pZ])
     clear z4
     refine hR 9 rfl (fun K hK=>?_)
     go_simp
     refine hK.out _ _ (HS0.out _ HBV.out) (fun hHeld=>?_)
     clear hK K
     rename_i hOld
     clear hOld
     (try simp only[Act.put,pZ])
     refine hR 10 rfl (fun K hK=>?_)
     refine step_append_src _ rfl (.tmp 88) (.tmp 93) 38 rfl B 64 q0 _ 2 16 Tryz.underlying38 hq qz0 qz1 qz2 rfl (by decide) (.slice oa s1.out.length oc) s1.out.length (outCells s1.out) (by simp[Act.eval]) (own_below HST4.out.out HBV.out) (some ⟨v1.heap.size,0,none⟩) 1 1 [.int .i64 t.num,.int .i32 v] (by simp[Act.eval]) (src_one HNEW.out rfl) (by simp[Value.oneCell']) (by unfold maxLen;omega) (by omega) (Nat.le_trans HST4.out.sz.2.2.2 HBV.out.size) ?_
     intro r9 w9 hown hgrow _
     obtain⟨ra9,rc9,rfl⟩:=own_val hown
     rw[←outCells_snoc s1.out (t.num,v)] at hown
     obtain⟨hst9,hfr9,hsame,hlow⟩:=HST4.out.push HBV.out hgrow hown
     have hbx9:=hsame _ _ HST4.out.box (by show 71≠64;decide)
     have HS9:Hid (AsS B m w4 w.heap.size w.heap.size (ndObj t (some ⟨kb,ko,none⟩) c) (ndObj t (some ⟨kb,ko,none⟩) c) w9):=
      ⟨hlow,hsame _ _ HKB.out.1 (by show 47≠64;decide),hsame _ _ HKB.out.1 (by show 47≠64;decide),mem_cell hbx9 0⟩
     have HS10:=ξ (HS1'.out _ _ _ _ _ (Below.refl _ _) hfr9 hst9)
     have HST9:=ξ hst9
     have HFR9:=ξ (HFR4.out.trans hfr9)
     have z4:=mem_cell hbx9 4
     have f4:=mem_free hbx9 4
     simp only[List.getElem?_toArray,List.getElem?_cons_zero,List.getElem?_cons_succ] at z4
     clear hst9 hfr9 hsame hlow hbx9 hown hgrow
     refine hK.out _ _ (HS9.out) (fun hHeld=>?_)
     clear hK K
     rename_i hOld
     clear hOld
     (try simp only[Act.put,pZ])
     refine hT 11 (.pointer (some ⟨m.sb,0,none⟩)) rfl (hy:=?_) (h:=?_)
     ·intro w' hSw;go_simp
     (try simp only[Act.put,pZ])
     refine hT 12 (.pointer (some ⟨m.sb,4,none⟩)) rfl (hy:=?_) (h:=?_)
     ·intro w' hSw;go_simp
     (try simp only[Act.put,pZ])
     refine hR 13 rfl (fun K hK=>?_)
     go_simp
     refine hK.out _ _ (HS10.out) (fun hHeld=>?_)
     clear hK K
     rename_i hOld
     clear hOld
     (try simp only[Act.put,pZ])
     clear z4 f4 hHeld
     refine wpAnyH_done (by kernel_rfl) ?_ _
     go_wp2_with fail
     go_end0
     exact⟨by rw[HE2.out];exact srE_ok,_,by rw[HE2.out];exact HST9.out.mono (by omega),(HK.out _ HFR9.out).2.2.1⟩
    ·go_simp
     refine hK.out _ _ (HS0.out _ HBV.out) (fun hHeld=>?_)
     clear hK K
     rename_i hOld
     clear hOld
     (try simp only[Act.put,pZ])
     have z4:=mem_cell (HST4.out.keep HBV.out).box 4
     simp only[List.getElem?_toArray,List.getElem?_cons_zero,List.getElem?_cons_succ] at z4
     refine hR 4 rfl (fun K hK=>?_)
     go_simp
     refine hK.out _ _ (HS0.out _ HBV.out) (fun hHeld=>?_)
     clear hK K
     rename_i hOld
     clear hOld
     (try simp only[Act.put,pZ])
     clear z4
     refine hR 10 rfl (fun K hK=>?_)
     refine step_append_src _ rfl (.tmp 88) (.tmp 93) 38 rfl B 64 q0 _ 2 16 Tryz.underlying38 hq qz0 qz1 qz2 rfl (by decide) (.slice oa s1.out.length oc) s1.out.length (outCells s1.out) (by simp[Act.eval]) (own_below HST4.out.out HBV.out) (some ⟨v1.heap.size,0,none⟩) 1 1 [.int .i64 t.num,.int .i32 v] (by simp[Act.eval]) (src_one HNEW.out rfl) (by simp[Value.oneCell']) (by unfold maxLen;omega) (by omega) (Nat.le_trans HST4.out.sz.2.2.2 HBV.out.size) ?_
     intro r9 w9 hown hgrow _
     obtain⟨ra9,rc9,rfl⟩:=own_val hown
     rw[←outCells_snoc s1.out (t.num,v)] at hown
     obtain⟨hst9,hfr9,hsame,hlow⟩:=HST4.out.push HBV.out hgrow hown
     have hbx9:=hsame _ _ HST4.out.box (by show 71≠64;decide)
     have HS9:Hid (AsS B m w4 w.heap.size w.heap.size (ndObj t (some ⟨kb,ko,none⟩) c) (ndObj t (some ⟨kb,ko,none⟩) c) w9):=
      ⟨hlow,hsame _ _ HKB.out.1 (by show 47≠64;decide),hsame _ _ HKB.out.1 (by show 47≠64;decide),mem_cell hbx9 0⟩
     have HS10:=ξ (HS1'.out _ _ _ _ _ (Below.refl _ _) hfr9 hst9)
     have HST9:=ξ hst9
     have HFR9:=ξ (HFR4.out.trans hfr9)
     have z4:=mem_cell hbx9 4
     have f4:=mem_free hbx9 4
     simp only[List.getElem?_toArray,List.getElem?_cons_zero,List.getElem?_cons_succ] at z4
     clear hst9 hfr9 hsame hlow hbx9 hown hgrow
     refine hK.out _ _ (HS9.out) (fun hHeld=>?_)
     clear hK K
     rename_i hOld
     clear hOld
     (try simp only[Act.put,pZ])
     refine hT 11 (.pointer (some ⟨m.sb,0,none⟩)) rfl (hy:=?_) (h:=?_)
     ·intro w' hSw;go_simp
     (try simp only[Act.put,pZ])
     refine hT 12 (.pointer (some ⟨m.sb,4,none⟩)) rfl (hy:=?_) (h:=?_)
     ·intro w' hSw;go_simp
     (try simp only[Act.put,pZ])
     refine hR 13 rfl (fun K hK=>?_)
     go_simp
     refine hK.out _ _ (HS10.out) (fun hHeld=>?_)
     clear hK K
     rename_i hOld
     clear hOld
     (try simp only[Act.put,pZ])
     clear z4 f4 hHeld
     refine wpAnyH_done (by kernel_rfl) ?_ _
     go_wp2_with fail
     go_end0
     exact⟨by rw[HE2.out];exact srE_ok,_,by rw[HE2.out];exact HST9.out.mono (by omega),(HK.out _ HFR9.out).2.2.1⟩
  ·skip
   have b40:(t.kind == 40)=false:=by simp[hk]
   have b41:(t.kind == 41)=false:=by simp[hk]
   have b42:(t.kind == 42)=false:=by simp[hk]
   have b43:(t.kind == 43)=false:=by simp[hk]
   have b44:(t.kind == 44)=false:=by simp[hk]
   have b45:(t.kind == 45)=false:=by simp[hk]
   have b46:(t.kind == 46)=true:=by simp[hk]
   have hl1:t.len=1:=by rw[HLEN.out,hk];rfl
   have hl0:0<t.len:=by omega
   have hl0i:(0:Int)<(t.len:Int):=by omega
   have hbv:(t.kid 0).vld 98=true:=by have h:=HKV.out 0 hl0;rw[hk] at h;exact h
   have HE2:Hid (t.ex F inp s=(t.kid 0).ex F inp s1):=by
    show _=_;rw[HE.out];unfold exB;rw[if_neg (by omega),if_neg (by omega),if_neg (by omega),if_neg (by omega),if_neg (by omega),if_neg (by omega)];unfold kidX;rw[if_pos hl0]
   have HBV:=ξ hbv
   clear hk HE hl1 hbv
   go_enter Tryz.func34,Tryz.ntmps34
   go_wp2_with fail
   refine H9.out.mono ?_
   rintro e w2 ⟨rfl,hb2,ho2,hB2⟩
   obtain⟨hst2,hK2,hfr2⟩:=HSW.out.stepped HLT.out hb2 ho2 hB2
   rw[HS1.out] at hst2
   have HST2:=ξ hst2
   have HFR2:=ξ hfr2
   have HKB:=HK.out w2 hfr2
   have HBX:=ξ HKB.1
   have HIN:=ξ HKB.2.1
   have HLW:=ξ HKB.2.2.2
   clear H9 hb2 ho2 hB2 hst2 hfr2 HKB
   obtain⟨t0,t1,t2,t3⟩:=nd_cells HBX.out
   obtain⟨kb,ko,rfl,hkb,ya,yc,hny,hry⟩:=kid_in HIN.out hl0
   rw[Nat.zero_mul,Nat.add_zero] at hny
   have h9:=HKO.out 0 hl0 (K-2) w2 s1 ov ya yc (by omega) HBV.out hry HST2.out
   have H10:=ξ h9
   have n0:=hny.kind
   have n1:=hny.num
   have n2:=hny.name
   have n3:=hny.kids
   clear hny hry h9
   go_wp2_with fail
   clear t0 t1 t2 t3 n0 n1 n2 n3
   refine H10.out.mono ?_
   rintro e w3 ⟨he,ov3,hst3,hfr3⟩
   clear H10
   have HST3:=ξ (hst3.mono (show K-2≤K by omega))
   have HFR3:Hid (FrI B m w w3):=(HK.out _ HFR2.out).2.2.1.trans (hfr3)
   clear hst3 hfr3
   by_cases h0:((t.kid 0).ex F inp s1).2=0
   ·have he2:e = .returned (.tuple #[]):=by unfold SrE at he;rw[if_pos h0] at he;exact he
    have HE4:=ξ he
    subst he2
    clear h0 he
    go_wp2_with fail
    go_end0
    exact⟨by rw[HE2.out];exact HE4.out,ov3,by rw[HE2.out];exact HST3.out,HFR3.out⟩
   ·have he2:e = .panicked (failC ((t.kid 0).ex F inp s1).2):=by unfold SrE at he;rw[if_neg h0] at he;exact he
    have HE4:=ξ he
    subst he2
    exact panic_end (P:=Tryz.prog) (fn:=Tryz.f34) rfl ⟨by rw[HE2.out];exact HE4.out,ov3,by rw[HE2.out];exact HST3.out,HFR3.out⟩
 ·have hge:F≤(s.st:Int):=by omega
  have h9:=step_er W m.sb m.vb m.ab inp.length m.inc s.rd s.st m.ina F ov hbox hge
  have H9:=ξ h9
  have HRE:Hid (t.ex F inp s=(s,13)):=by show _=_;rw[HEX.out,if_neg (by omega),stp_ge hge];exact SR.then_er (show (13:Int)≠0 by decide)
  clear hbox h9 hlt hge h
  go_enter Tryz.func34,Tryz.ntmps34
  go_wp2_with fail
  refine H9.out.mono ?_
  rintro e w2 ⟨rfl,ho2,hB2⟩
  exact panic_end rfl ⟨by rw[HRE.out];exact srE_er (by decide),ov,by rw[HRE.out];exact HSW.out.keep hB2,(HK.out W FrI.refl).2.2.1.trans (FrI.of hB2 HSW.out.sz.2.2.2)⟩
theorem exec_all(B:Nat)(m:IM)(F:Int)(inp:List Int)(hF:F≤10000000):∀ t:Tree,BlkOk B m F inp t∧StmtOk B m F inp t:=by
 intro t
 induction t using Tree.ind with
 | h t ih=>exact⟨block_of B m F inp t (fun i hi=>(ih i hi).2),stmt_of B m F inp t hF (fun i hi=>(ih i hi).1)⟩
