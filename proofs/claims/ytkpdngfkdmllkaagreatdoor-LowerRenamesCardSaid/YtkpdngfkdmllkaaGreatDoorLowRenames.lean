/- Part. -/
import Derived.Test.YtkpdngfkdmllkaaGreatDoorMgR
import Derived.Test.YtkpdngfkdmllkaaGreatDoorInJob
import Derived.Deep.RegionHeld
import Derived.Deep.RegionHeld3
import Derived.Deep.DeepCutAuto
namespace Go.Proofs.YtkpdngfkdmllkaaGreatDoor
set_option linter.unusedVariables false
set_option linter.unusedSimpArgs false
open Go.RowKit Go.Maps
set_option maxRecDepth 100000
set_option maxHeartbeats 16000000
theorem row_frzR{w:World}{N:Nat}{e:TypeId}{size g m n c:Nat}{xs:List Value}(h:w.ownsRow N e size (.slice (some ⟨g,0,none⟩) m c) n xs)(i:Nat):w.frozen? ⟨g,i,none⟩=false:=by
 rcases h.2 with⟨h1,_⟩|⟨g',cap,cur,hv,_,hc,_⟩
 ·cases h1
 ·cases hv
  simp[World.frozen?,hc]
theorem words_ir{w:World}{a:Option Addr}{l:List Int}(h:WordsAt w a l):IrWordsAt w a l:=⟨h.fits,h.words,h.at_⟩
theorem cont_ir{w:World}{a:Option Addr}{l:List (List Int)}(h:ContAt w a l):IrContAt w a l:=by
 refine⟨h.fits,?_⟩
 rcases h.at_ with h0|⟨b,off,ha,hk⟩
 ·exact .inl h0
 ·refine .inr ⟨b,off,ha,fun k r hr=>?_⟩
  obtain⟨ra,rc,h1,h2,h3⟩:=hk k r hr
  exact⟨ra,rc,h1,h2,words_ir h3⟩
theorem jobP_runs{p:Prg}{j:Nat}{M:Mem}{inp:List Int}{F:Int}(hok:okP p=true)(hj:j<p.tasks.length)(hf:fitsP p M=true):jobP p (j:Int) M inp F=runR p j M ((p.tasks.getD j Tsk.none).body.ex F inp (jobS p j M)):=by
 unfold jobP
 rw[if_neg (by rw[hok];decide),if_neg (by omega),if_neg (by rw[hf];decide),Int.toNat_natCast]
abbrev Res.obj(R:Res)(aa:Option Addr)(ac:Nat)(sa:Option Addr)(sc:Nat)(oa:Option Addr)(oc:Nat):Obj:=resObj (.slice aa R.mem.arrays.length ac) (.slice sa R.mem.shared.length sc) (.slice oa R.out.length oc) R.rd R.st R.err
theorem below_dS(W:World)(m:Nat):Below W.heap.size W (W.drewN m):=⟨rfl,rfl,rfl,Nat.le_refl _,fun _ _=>rfl⟩
theorem mem_two'{w:World}{b:Nat}{x0 x1:Value}{T:TypeId}(h:w.heap[b]? = some (.cells #[x0,x1] T)):w.cell? ⟨b,0,none⟩=some x0∧w.cell? ⟨b,1,none⟩=some x1:=⟨mem_cell h 0,mem_cell h 1⟩
theorem lowerRenames_any(p:Prg)(k wh:Int)(M:Mem)(inp:List Int)(w:World)(sa ta:Option Addr)(sc tc:Nat)(ma ms:Option Addr)(mac msc:Nat)(ia:Option Addr)(ic:Nat)
 (hp:PrgAt w p sa ta) (hm:MemAt w M ma ms) (hi:WordsAt w ia inp) (hg:SignsIn w) (hk:isI64 k) (hwh:0≤wh∧wh≤255) :
 Calls Tryz.prog 4 #[p.val sa sc ta tc,.int .i64 k,.int .u8 wh,M.val ma mac ms msc,.slice ia inp.length ic] w fun e w'=>e = .returned (.bool true)∧Below w.heap.size w w':=by
 have htl:=hp.2.1
 have hil:=hi.fits
 have HKK:=ξ hk
 have hk1:=hk.1
 have hk2:=hk.2
 obtain⟨W,hW⟩:∃ W:World,w.alloc (prgObj p sa sc ta tc)=W:=⟨_,rfl⟩
 have hBW:Below w.heap.size w W:=by rw[←hW];exact mem_alloc _ _
 have hXW:W.heap[w.heap.size]? = some (prgObj p sa sc ta tc):=by rw[←hW];exact mem_new _ _
 obtain⟨A0,hA0⟩:∃ W2:World,W.alloc (memObj M ma mac ms msc)=W2:=⟨_,rfl⟩
 have hBW2:Below W.heap.size W A0:=by rw[←hA0];exact mem_alloc _ _
 have hXW2:A0.heap[W.heap.size]? = some (memObj M ma mac ms msc):=by rw[←hA0];exact mem_new _ _
 have HK:Hid (∀ w',Below A0.heap.size A0 w'→w'.heap[w.heap.size]? = some (prgObj p sa sc ta tc)∧PrgAt w' p sa ta∧Below w.heap.size w w'∧SignsIn w'∧w'.heap[W.heap.size]? = some (memObj M ma mac ms msc)∧MemAt w' M ma ms∧WordsAt w' ia inp):=fun w' hw=>by
  have hb:=mem_then (mem_then hBW hBW2) hw
  exact⟨mem_keep (mem_keep hXW hBW2) hw,hp.below hb,hb,hg.below hb,mem_keep hXW2 hw,hm.below hb,hi.below hb⟩
 clear hp hm hi hg hk hBW hXW hBW2 hXW2
 go_enter Tryz.func4,Tryz.ntmps4
 go_wp2_with fail
 clear hW hA0
 refine (lawake_any A0 (HK.out A0 (Below.refl _ _)).2.2.2.1).mono ?_
 rintro e w1 ⟨rfl,hB1⟩
 have HB1:=ξ hB1
 obtain⟨y0,y1⟩:=mem_two' (HK.out w1 hB1).1
 clear hB1
 go_wp2_with fail
 clear y0 y1
 refine (translated_fn p k w1 sa ta sc tc (HK.out w1 HB1.out).2.1 (HK.out w1 HB1.out).2.2.2.1 HKK.out).mono ?_
 rintro e w2 ⟨F,b,aa,ac,ba,bc,rfl,hfn,hB2,hyes⟩
 have HB2:=ξ (mem_then HB1.out hB2)
 obtain⟨an,hn1⟩:∃ n,F.arrays.length=n:=⟨_,rfl⟩
 obtain⟨bn,hn2⟩:∃ n,F.blocks.length=n:=⟨_,rfl⟩
 have HNN:Hid (F.arrays.length=an∧F.blocks.length=bn):=⟨hn1,hn2⟩
 simp only[hn1,hn2]
 obtain⟨V,hV⟩:∃ X:World,w2.alloc (fnObj F.name F.regs (.slice aa an ac) (.slice ba bn bc))=X:=⟨_,rfl⟩
 have HV0:Hid (Below w2.heap.size w2 V):=by show Below _ _ _;rw[←hV];exact mem_alloc _ _
 have HVX:Hid (V.heap[w2.heap.size]? = some (fnObj F.name F.regs (.slice aa an ac) (.slice ba bn bc))):=by show _=_;rw[←hV];exact mem_new _ _
 have HFN:=ξ (hfn.at_.below HV0.out)
 have HV:=ξ (mem_then HB2.out HV0.out)
 clear hfn hB2 hn1 hn2
 cases b with
 | false =>
  clear hyes
  go_wp2_with fail
  go_ret
  exact⟨rfl,(HK.out V HV.out).2.2.1⟩
 | true =>
 obtain⟨hok,⟨hk0,hkl⟩,hF⟩:=hyes rfl
 have HOK:=ξ hok
 have HF:=ξ hF
 obtain⟨j,rfl⟩:∃ j:Nat,k=(j:Int):=⟨k.toNat,by omega⟩
 have hj:j<p.tasks.length:=by omega
 have HJ:=ξ hj
 obtain⟨tb,to',q,rfl,htc,htin⟩:=(HK.out V HV.out).2.1.2.2 j hj
 obtain⟨t,ht⟩:∃ t,p.tasks.getD j Tsk.none=t:=⟨_,rfl⟩
 have HT:=ξ ht
 rw[ht] at htc htin
 have HTI:=ξ htin
 have HTC:=ξ htc
 have htv:=(prgOk_le (okP_ok HOK.out)).2.2 j hj
 rw[HT.out] at htv
 have HTV:=ξ htv
 have HFI:=ξ (fits16_any p M V sa (some ⟨tb,to',none⟩) sc tc ma ms mac msc (HK.out V HV.out).2.1 (HK.out V HV.out).2.2.2.2.2.1 (HK.out V HV.out).2.2.2.1)
 obtain⟨y0,y1⟩:=mem_two' (HK.out V HV.out).1
 obtain⟨z0,z1⟩:=mem_two' (HK.out V HV.out).2.2.2.2.1
 clear hyes hok hF htc htin ht htv
 go_wp2_with fail
 clear hV y0 y1 z0 z1
 refine HFI.out.mono ?_
 rintro e w3 ⟨rfl,hB3⟩
 have HB30:=ξ hB3
 have HB3:=ξ (mem_then HV.out hB3)
 clear hB3 HFI
 cases hfit:fitsP p M with
 | false =>
  clear hfit
  go_wp2_with fail
  go_ret
  exact⟨rfl,(HK.out w3 HB3.out).2.2.1⟩
 | true =>
 have HFIT:=ξ hfit
 clear hfit
 by_cases h100:(100:Int)<(inp.length:Int)
 ·go_wp2_with fail
  go_ret
  exact⟨rfl,(HK.out w3 HB3.out).2.2.1⟩
 have hn100:decide ((100:Int)<(inp.length:Int))=false:=decide_eq_false h100
 obtain⟨y0,y1⟩:=mem_two' (HK.out w3 HB3.out).1
 obtain⟨qva,qvc,qaa,qac,qka,qkc⟩:=q
 obtain⟨⟨g0,g1,g2,g3,g4,g5,g6,g7⟩,_⟩:=tsk_cells HB30.out HTC.out
 have hvl12:t.vars.length≤12:=(tskOk_le HTV.out).1
 have htl8:p.tasks.length≤8:=(prgOk_le (okP_ok HOK.out)).2.1
 by_cases hv0:t.vars.length=0
 ·have hzv:((t.vars.length:Int) == 0)=true:=by simp[hv0]
  clear hv0
  go_wp2_with fail
  go_ret
  exact⟨rfl,(HK.out w3 HB3.out).2.2.1⟩
 have hzv:((t.vars.length:Int) == 0)=false:=by rw[beq_eq_false_iff_ne];omega
 have hv3:(0:Int)<(t.vars.length:Int):=by omega
 have hy0:(t.vars.length:Int)≠0:=by omega
 obtain⟨y,hy⟩:∃ y:Nat,wh % (t.vars.length:Int)=(y:Int):=⟨(wh % (t.vars.length:Int)).toNat,by have:=Int.emod_nonneg wh hy0;omega⟩
 have hyl:y<t.vars.length:=by have:=Int.emod_lt_of_pos wh hv3;omega
 have hyl2:(y:Int)<(t.vars.length:Int):=by omega
 have hyl0:(0:Int)≤(y:Int):=by omega
 obtain⟨vb,vo,hva,hvc,_⟩:=HTI.out.vars.2 y hyl
 obtain⟨old,hold⟩:∃ v,t.vars.getD y ⟨#[]⟩=v:=⟨_,rfl⟩
 rw[hold] at hvc
 have HOLD:=ξ hold
 have HVC:=ξ (cell_below HB30.out hvc)
 obtain rfl:qva=some ⟨vb,vo,none⟩:=hva
 obtain⟨tT,htT,hT0,hT1,hT2⟩:=info_parts tsk_info
 obtain⟨tS,htS,hS0,hS1,hS2⟩:=info_parts str_infoR
 obtain⟨news,hnews1,hnews2,hnews3⟩:=(HK.out w3 HB3.out).2.1.2.src
 have HNW:=ξ (And.intro hnews2 hnews3)
 have HTIN:Hid (TskIn w3 t ⟨some ⟨vb,vo,none⟩,qvc,qaa,qac,qka,qkc⟩):=HTI.out.below HB30.out
 have HTC3:Hid (∀ o,o<8→news[j*8+o]? = (t.cells ⟨some ⟨vb,vo,none⟩,qvc,qaa,qac,qka,qkc⟩)[o]?):=fun o ho=>by
  rw[←hnews2 _ (by have:=HJ.out;omega),←Nat.add_assoc]
  match o,ho with
  | 0,_=>exact g0
  | 1,_=>exact g1
  | 2,_=>exact g2
  | 3,_=>exact g3
  | 4,_=>exact g4
  | 5,_=>exact g5
  | 6,_=>exact g6
  | 7,_=>exact g7
 obtain⟨Q0,hQ0⟩:∃ X:World,w3.alloc (prgObj p sa sc (some ⟨tb,to',none⟩) tc)=X:=⟨_,rfl⟩
 have HBQ0:Hid (Below w3.heap.size w3 Q0):=by show Below _ _ _;rw[←hQ0];exact mem_alloc _ _
 have HQX0:Hid (Q0.heap[w3.heap.size]? = some (prgObj p sa sc (some ⟨tb,to',none⟩) tc)):=by show _=_;rw[←hQ0];exact mem_new _ _
 have HQL:Hid (w3.heap.size<Q0.heap.size):=mem_lt HQX0.out
 have HSRC:Hid (Src Q0 (some ⟨tb,to',none⟩) p.tasks.length 8 news):=hnews1.below HBQ0.out
 have HMADE:Hid ((Q0.alloc (.cells #[] 49)).ownsRow Q0.heap.size 49 8 (.slice (some ⟨Q0.heap.size,0,none⟩) 0 0) 0 []):=World.ownsRow_made _ #[] 0 (Nat.le_refl _) (by unfold maxLen;omega) rfl
 have y1Q:=cell_below HBQ0.out y1
 have hq3:w3.heap.size<Q0.heap.size:=HQL.out
 have hq4:w.heap.size<Q0.heap.size:=mem_lt (mem_keep (HK.out w3 HB3.out).1 HBQ0.out)
 clear hvc hold hnews1 hnews2 hnews3 hy0 hv0
 go_wp2_with (at_builtin;refine wpList_append_src _ rfl (.tmp 55) (.tmp 57) 23 rfl Q0.heap.size 49 tT _ 8 128 Tryz.underlying23 htT hT0 hT1 hT2 rfl (by decide) (.slice (some ⟨Q0.heap.size,0,none⟩) 0 0) 0 [] rfl HMADE.out (some ⟨tb,to',none⟩) p.tasks.length tc news rfl (HSRC.out.below (mem_alloc _ _)) HNW.out.2 (by unfold maxLen;omega) (by omega) (by simp) ?_)
 intro v9 w9 hown9 hgrow9 _
 obtain⟨A9,c9,rfl⟩:=own_val hown9
 obtain⟨g,rfl,hgN,hgl⟩:=own_at hown9 (by have:=HJ.out;omega)
 have hB9:Below Q0.heap.size Q0 w9:=(mem_alloc Q0 _).grown hgrow9 (by simp) (fun b hb=>by cases hb;exact Nat.le_refl _)
 have hX9:=mem_keep HQX0.out hB9
 have u1:=mem_cell hX9 1
 have f1:=mem_free hX9 1
 clear hQ0 y0 y1 y1Q g0 g1 g2 g3 g4 g5 g6 g7
 go_upto_region 8 with fail
 obtain⟨Q2,hQ2⟩:∃ X:World,w9.setCell ⟨w3.heap.size,1,none⟩ (.slice (some ⟨g,0,none⟩) p.tasks.length c9)=X:=⟨_,rfl⟩
 rw[hQ2]
 have HQX2:Hid (Q2.heap[w3.heap.size]? = some (prgObj p sa sc (some ⟨g,0,none⟩) c9)):=by show _=_;rw[←hQ2,mem_set hX9];rfl
 have HOWN2:Hid (Q2.ownsRow Q0.heap.size 49 8 (.slice (some ⟨g,0,none⟩) p.tasks.length c9) p.tasks.length news):=by
  show World.ownsRow _ _ _ _ _ _ _
  rw[←hQ2]
  exact own_keep hown9 (fun k hk _=>Below.heap_setCell _ _ _ _ (fun e=>by
   have e:k=w3.heap.size:=e
   have:=(own_lt hown9 hk).1
   omega))
 have HBQ2:Hid (Below w3.heap.size w3 Q2):=by
  show Below _ _ _
  rw[←hQ2]
  exact (mem_then HBQ0.out hB9).setCell (p:=⟨w3.heap.size,1,none⟩) (Nat.le_refl _) _
 have HG:Hid (w3.heap.size<g∧g<Q2.heap.size):=by
  show _∧_
  rw[←hQ2]
  simp
  omega
 have u1:=mem_cell HQX2.out 1
 have d2:Q2.cell? ⟨g,j*8+2,none⟩=some (.slice (some ⟨vb,vo,none⟩) t.vars.length qvc):=own_get HOWN2.out (by rw[HTC3.out 2 (by omega)];rfl)
 have dv:Q2.cell? ⟨vb,vo+y,none⟩=some (.string old):=cell_below HBQ2.out HVC.out
 clear f1 hown9 hgrow9 hB9 hX9 hgl hQ2
 go_upto_region 10 with fail
 simp only[hy]
 go_upto_region 11 with fail
 clear u1 dv
 have hvsrc:Src Q2 (some ⟨vb,vo,none⟩) t.vars.length 1 (t.vars.map Value.string):=(HTIN.out.vars.below HBQ2.out).src
 have HVS:=ξ hvsrc
 have HMADE2:Hid ((Q2.alloc (.cells #[] 9)).ownsRow Q2.heap.size 9 1 (.slice (some ⟨Q2.heap.size,0,none⟩) 0 0) 0 []):=World.ownsRow_made _ #[] 0 (Nat.le_refl _) (by unfold maxLen;omega) rfl
 have hgl2:g<Q2.heap.size:=HG.out.2
 clear hvsrc
 go_wp2_with (at_builtin;refine wpList_append_src _ rfl (.tmp 80) (.tmp 84) 44 rfl Q2.heap.size 9 tS _ 1 16 Tryz.underlying44 htS hS0 hS1 hS2 rfl (by decide) (.slice (some ⟨Q2.heap.size,0,none⟩) 0 0) 0 [] rfl HMADE2.out (some ⟨vb,vo,none⟩) t.vars.length qvc (t.vars.map Value.string) rfl (HVS.out.below (mem_alloc _ _)) strs_ones (by unfold maxLen;omega) (by omega) (by simp) ?_)
 intro v10 w10 hown10 hgrow10 _
 obtain⟨A10,c10,rfl⟩:=own_val hown10
 obtain⟨vg,rfl,hvgN,hvgl⟩:=own_at hown10 (by omega)
 have hB10:Below Q2.heap.size Q2 w10:=(mem_alloc Q2 _).grown hgrow10 (by simp) (fun b hb=>by cases hb;exact Nat.le_refl _)
 have hrow10:=own_below HOWN2.out hB10
 have u2:=own_get hrow10 (show news[j*8+2]? = some (.slice (some ⟨vb,vo,none⟩) t.vars.length qvc) by rw[HTC3.out 2 (by omega)];rfl)
 have f2:=row_frzR hrow10 (j*8+2)
 clear d2
 go_upto_region 12 with fail
 obtain⟨Q4,hQ4⟩:∃ X:World,w10.setCell ⟨g,j*8+2,none⟩ (.slice (some ⟨vg,0,none⟩) t.vars.length c10)=X:=⟨_,rfl⟩
 rw[hQ4]
 have hj8:j*8+2<p.tasks.length*8:=by have:=HJ.out;omega
 have HOWN4:Hid (Q4.ownsRow Q0.heap.size 49 8 (.slice (some ⟨g,0,none⟩) p.tasks.length c9) p.tasks.length (news.set (j*8+2) (.slice (some ⟨vg,0,none⟩) t.vars.length c10))):=by
  show World.ownsRow _ _ _ _ _ _ _
  rw[←hQ4]
  exact ownsRow_set hrow10 hj8
 have HVO4:Hid (Q4.ownsRow Q2.heap.size 9 1 (.slice (some ⟨vg,0,none⟩) t.vars.length c10) t.vars.length (t.vars.map Value.string)):=by
  show World.ownsRow _ _ _ _ _ _ _
  rw[←hQ4]
  exact own_keep hown10 (fun k hk _=>Below.heap_setCell _ _ _ _ (fun e=>by
   have e:k=g:=e
   have:=(own_lt hown10 hk).1
   omega))
 have HBQ4:Hid (Below w3.heap.size w3 Q4):=by
  show Below _ _ _
  rw[←hQ4]
  exact (mem_then HBQ2.out hB10).setCell (p:=⟨g,j*8+2,none⟩) (by show w3.heap.size≤g;have:=HG.out.1;omega) _
 have HQX4:Hid (Q4.heap[w3.heap.size]? = some (prgObj p sa sc (some ⟨g,0,none⟩) c9)):=by
  show _=_
  rw[←hQ4,Below.heap_setCell _ _ _ _ (by show w3.heap.size≠g;have:=HG.out.1;omega)]
  exact mem_keep HQX2.out hB10
 have HVG:Hid (g<vg):=by show _<_;omega
 have u2:Q4.cell? ⟨g,j*8+2,none⟩=some (.slice (some ⟨vg,0,none⟩) t.vars.length c10):=own_get HOWN4.out (by rw[List.getElem?_set_self (by have h:=HOWN2.out.1;omega)])
 have e2:Q4.cell? ⟨vg,y,none⟩=some (.string old):=own_get HVO4.out (by rw[List.getElem?_map,List.getElem?_eq_getElem hyl,←HOLD.out];simp[hyl])
 have f3:=row_frzR HVO4.out y
 clear f2 hown10 hgrow10 hB10 hrow10 hQ4
 go_upto_region 13 with fail
 obtain⟨Q5,hQ5⟩:∃ X:World,Q4.setCell ⟨vg,y,none⟩ (.string ⟨#[114,101,110,97,109,101,100]⟩)=X:=⟨_,rfl⟩
 rw[hQ5]
 have HVO5:Hid (Q5.ownsRow Q2.heap.size 9 1 (.slice (some ⟨vg,0,none⟩) t.vars.length c10) t.vars.length ((t.vars.set y rnm).map Value.string)):=by
  show World.ownsRow _ _ _ _ _ _ _
  rw[←hQ5,List.map_set]
  exact ownsRow_set HVO4.out (by omega)
 have HOWN5:Hid (Q5.ownsRow Q0.heap.size 49 8 (.slice (some ⟨g,0,none⟩) p.tasks.length c9) p.tasks.length (news.set (j*8+2) (.slice (some ⟨vg,0,none⟩) t.vars.length c10))):=by
  show World.ownsRow _ _ _ _ _ _ _
  rw[←hQ5]
  exact own_keep HOWN4.out (fun k hk _=>Below.heap_setCell _ _ _ _ (fun e=>by
   have e:k=vg:=e
   have hk':some g=some k:=hk
   have hk'':=Option.some.inj hk'
   have:=HVG.out
   omega))
 have HBQ5:Hid (Below w3.heap.size w3 Q5):=by
  show Below _ _ _
  rw[←hQ5]
  exact HBQ4.out.setCell (p:=⟨vg,y,none⟩) (by show w3.heap.size≤vg;have:=HG.out.1;have:=HVG.out;omega) _
 have HQX5:Hid (Q5.heap[w3.heap.size]? = some (prgObj p sa sc (some ⟨g,0,none⟩) c9)):=by
  show _=_
  rw[←hQ5,Below.heap_setCell _ _ _ _ (by show w3.heap.size≠vg;have:=HG.out.1;have:=HVG.out;omega)]
  exact HQX4.out
 have HNWJ:Hid (∀ o,o<8→o≠2→(news.set (j*8+2) (.slice (some ⟨vg,0,none⟩) t.vars.length c10))[j*8+o]? = (t.cells ⟨some ⟨vb,vo,none⟩,qvc,qaa,qac,qka,qkc⟩)[o]?):=fun o ho h2=>by
  rw[List.getElem?_set,if_neg (by omega)]
  exact HTC3.out o ho
 have d4:Q5.cell? ⟨g,j*8+4,none⟩=some (.int .u8 t.body.kind):=own_get HOWN5.out (by rw[HNWJ.out 4 (by omega) (by omega)];rfl)
 have d5:Q5.cell? ⟨g,j*8+5,none⟩=some (.int .i64 t.body.num):=own_get HOWN5.out (by rw[HNWJ.out 5 (by omega) (by omega)];rfl)
 have d6:Q5.cell? ⟨g,j*8+6,none⟩=some (.string t.body.name):=own_get HOWN5.out (by rw[HNWJ.out 6 (by omega) (by omega)];rfl)
 have d7:Q5.cell? ⟨g,j*8+7,none⟩=some (.slice qka t.body.len qkc):=own_get HOWN5.out (by rw[HNWJ.out 7 (by omega) (by omega)];rfl)
 have HREN:=ξ (renamed_any old t.body Q5 qka qkc (HTIN.out.body.below HBQ5.out) (by have:=(tskOk_le HTV.out).2.2;omega))
 clear u2 e2 f3 hQ5
 go_wp2_with fail
 clear d4 d5 d6 d7
 refine HREN.out.mono ?_
 rintro e w11 ⟨a',c',rfl,hrin,hB11⟩
 have hrow11:=own_below HOWN5.out hB11
 have d4:w11.cell? ⟨g,j*8+4,none⟩=some (.int .u8 t.body.kind):=own_get hrow11 (by rw[HNWJ.out 4 (by omega) (by omega)];rfl)
 have d5:w11.cell? ⟨g,j*8+5,none⟩=some (.int .i64 t.body.num):=own_get hrow11 (by rw[HNWJ.out 5 (by omega) (by omega)];rfl)
 have d6:w11.cell? ⟨g,j*8+6,none⟩=some (.string t.body.name):=own_get hrow11 (by rw[HNWJ.out 6 (by omega) (by omega)];rfl)
 have d7:w11.cell? ⟨g,j*8+7,none⟩=some (.slice qka t.body.len qkc):=own_get hrow11 (by rw[HNWJ.out 7 (by omega) (by omega)];rfl)
 have f4:=row_frzR hrow11 (j*8+4)
 have f5:=row_frzR hrow11 (j*8+5)
 have f6:=row_frzR hrow11 (j*8+6)
 have f7:=row_frzR hrow11 (j*8+7)
 obtain⟨body',hbody⟩:∃ x,t.body.renR old=x:=⟨_,rfl⟩
 have HBODY:=ξ hbody
 rw[hbody] at hrin⊢
 clear HREN hbody
 go_upto_region 14 with fail
 obtain⟨Q6,hQ6⟩:∃ X:World,(((w11.setCell ⟨g,j*8+4,none⟩ (.int .u8 body'.kind)).setCell ⟨g,j*8+5,none⟩ (.int .i64 body'.num)).setCell ⟨g,j*8+6,none⟩ (.string body'.name)).setCell ⟨g,j*8+7,none⟩ (.slice a' body'.len c')=X:=⟨_,rfl⟩
 rw[hQ6]
 have hjn:j<p.tasks.length:=HJ.out
 have HOWN6:Hid (Q6.ownsRow Q0.heap.size 49 8 (.slice (some ⟨g,0,none⟩) p.tasks.length c9) p.tasks.length (((((news.set (j*8+2) (.slice (some ⟨vg,0,none⟩) t.vars.length c10)).set (j*8+4) (.int .u8 body'.kind)).set (j*8+5) (.int .i64 body'.num)).set (j*8+6) (.string body'.name)).set (j*8+7) (.slice a' body'.len c'))):=by
  show World.ownsRow _ _ _ _ _ _ _
  rw[←hQ6]
  exact ownsRow_set (ownsRow_set (ownsRow_set (ownsRow_set hrow11 (by omega)) (by omega)) (by omega)) (by omega)
 have HFAR6:Hid (∀ k,k≠g→Q6.heap[k]? = w11.heap[k]?):=fun k hk=>by
  rw[←hQ6,Below.heap_setCell _ _ _ _ (by show k≠g;exact hk),Below.heap_setCell _ _ _ _ (by show k≠g;exact hk),Below.heap_setCell _ _ _ _ (by show k≠g;exact hk),Below.heap_setCell _ _ _ _ (by show k≠g;exact hk)]
 have HBQ6:Hid (Below w3.heap.size w3 Q6):=by
  have hgg:w3.heap.size≤g:=by have:=HG.out.1;omega
  show Below _ _ _
  rw[←hQ6]
  exact ((((mem_then HBQ5.out hB11).setCell (p:=⟨g,j*8+4,none⟩) hgg _).setCell (p:=⟨g,j*8+5,none⟩) hgg _).setCell (p:=⟨g,j*8+6,none⟩) hgg _).setCell (p:=⟨g,j*8+7,none⟩) hgg _
 have HQX6:Hid (Q6.heap[w3.heap.size]? = some (prgObj p sa sc (some ⟨g,0,none⟩) c9)):=(HFAR6.out _ (by have:=HG.out.1;omega)).trans (mem_keep HQX5.out hB11)
 have HVO6:Hid (Q6.ownsRow Q2.heap.size 9 1 (.slice (some ⟨vg,0,none⟩) t.vars.length c10) t.vars.length ((t.vars.set y rnm).map Value.string)):=own_keep (own_below HVO5.out hB11) (fun k hk _=>HFAR6.out k (by
  have hk':some vg=some k:=hk
  have hk'':=Option.some.inj hk'
  have:=HVG.out
  omega))
 have HG5:Hid (g<Q5.heap.size):=by
  have h:=HOWN5.out
  exact (own_lt h (k:=g) rfl).2
 have HB6:Hid (Rep Q6 body' a'):=(RepIn.move (S':=fun _=>True) (fun k hk _=>HFAR6.out k (by have:=HG5.out;omega)) (fun _ _ _=>trivial) hrin).rep
 have hd4:Q6.cell? ⟨g,j*8+4,none⟩=some (.int .u8 body'.kind):=own_get HOWN6.out (by rw[(ren_sets (by have h:=HOWN2.out.1;omega) hjn).2 4 (by omega)];rfl)
 have hd5:Q6.cell? ⟨g,j*8+5,none⟩=some (.int .i64 body'.num):=own_get HOWN6.out (by rw[(ren_sets (by have h:=HOWN2.out.1;omega) hjn).2 5 (by omega)];rfl)
 have hd6:Q6.cell? ⟨g,j*8+6,none⟩=some (.string body'.name):=own_get HOWN6.out (by rw[(ren_sets (by have h:=HOWN2.out.1;omega) hjn).2 6 (by omega)];rfl)
 have hd7:Q6.cell? ⟨g,j*8+7,none⟩=some (.slice a' body'.len c'):=own_get HOWN6.out (by rw[(ren_sets (by have h:=HOWN2.out.1;omega) hjn).2 7 (by omega)];rfl)
 have HT6:Hid (renTsk (p.tasks.getD j Tsk.none) y=⟨t.name,t.period,t.vars.set y rnm,t.arrays,body'⟩):=by
  show _=_
  rw[HT.out]
  unfold renTsk
  rw[HOLD.out,HBODY.out]
 have HIN6:Hid (TskIn Q6 (renTsk (p.tasks.getD j Tsk.none) y) ⟨some ⟨vg,0,none⟩,c10,qaa,qac,a',c'⟩):=by
  show TskIn _ _ _
  rw[HT6.out]
  refine⟨HTIN.out.name,HTIN.out.period,strs_own (l:=t.vars.set y rnm) (by rw[List.length_set];exact HVO6.out) (fun x hx=>?_),HTIN.out.arrays.below HBQ6.out,HB6.out⟩
  rcases List.mem_or_eq_of_mem_set hx with h|h
  ·exact HTIN.out.vars.sizes x h
  ·rw[h];show (7:Nat)≤_;omega
 have HPQ6:Hid (PrgAt Q6 (renP p j y) sa (some ⟨g,0,none⟩)):=by
  refine⟨(HK.out w3 HB3.out).2.1.1.below HBQ6.out,?_⟩
  have hx:=HOWN2.out.1
  obtain⟨r1,r2⟩:=ren_sets (v2:=.slice (some ⟨vg,0,none⟩) t.vars.length c10) (v4:=.int .u8 body'.kind) (v5:=.int .i64 body'.num) (v6:=.string body'.name) (v7:=.slice a' body'.len c') hx hjn
  refine tsks_put (ys:=(((((news.set (j*8+2) (.slice (some ⟨vg,0,none⟩) t.vars.length c10)).set (j*8+4) (.int .u8 body'.kind)).set (j*8+5) (.int .i64 body'.num)).set (j*8+6) (.string body'.name)).set (j*8+7) (.slice a' body'.len c'))) (HK.out w3 HB3.out).2.1.2 hjn HBQ6.out (fun o ho=>?_) (fun i o hi hij ho=>?_) (fun o ho=>?_) HIN6.out
  ·have hl:=HOWN6.out.1
   rw[List.getElem?_eq_getElem (by omega)]
   exact own_get HOWN6.out (List.getElem?_eq_getElem (by omega))
  ·rw[r1 i o hij ho]
   exact (HNW.out.1 _ (by omega)).symm
  ·rw[r2 o ho,HT6.out]
   match o,ho with
   | 0,_=>rw[if_neg (by decide),if_neg (by decide),if_neg (by decide),if_neg (by decide),if_neg (by decide),HTC3.out 0 (by omega)];rfl
   | 1,_=>rw[if_neg (by decide),if_neg (by decide),if_neg (by decide),if_neg (by decide),if_neg (by decide),HTC3.out 1 (by omega)];rfl
   | 2,_=>rw[if_pos rfl];show _=some (Value.slice (some ⟨vg,0,none⟩) (t.vars.set y rnm).length c10);rw[List.length_set]
   | 3,_=>rw[if_neg (by decide),if_neg (by decide),if_neg (by decide),if_neg (by decide),if_neg (by decide),HTC3.out 3 (by omega)];rfl
   | 4,_=>rfl
   | 5,_=>rfl
   | 6,_=>rfl
   | 7,_=>rfl
 have HW6:Hid (∀ w',Below Q6.heap.size Q6 w'→w'.heap[w3.heap.size]? = some (prgObj p sa sc (some ⟨g,0,none⟩) c9)∧PrgAt w' (renP p j y) sa (some ⟨g,0,none⟩)∧(w'.cell? ⟨g,j*8+4,none⟩=some (.int .u8 body'.kind)∧w'.cell? ⟨g,j*8+5,none⟩=some (.int .i64 body'.num)∧w'.cell? ⟨g,j*8+6,none⟩=some (.string body'.name)∧w'.cell? ⟨g,j*8+7,none⟩=some (.slice a' body'.len c'))∧Rep w' body' a'):=fun w' h =>
  ⟨mem_keep HQX6.out h,HPQ6.out.below h,⟨cell_below h hd4,cell_below h hd5,cell_below h hd6,cell_below h hd7⟩,HB6.out.below h⟩
 have HBQ:=ξ (mem_then HB3.out HBQ6.out)
 have HLR:Hid ((renP p j y).tasks.length=p.tasks.length):=List.length_set
 obtain⟨G,hG⟩:∃ G,(taskR (renP p j y) (j:Int)).1=G:=⟨_,rfl⟩
 obtain⟨er,her⟩:∃ G,(taskR (renP p j y) (j:Int)).2=G:=⟨_,rfl⟩
 have HGE:=ξ (And.intro hG her)
 have HTK:Hid (Calls Tryz.prog 14 #[.agg #[.slice sa p.shared.length sc,.slice (some ⟨g,0,none⟩) p.tasks.length c9],.int .i64 (j:Int)] Q6 (FnRet G er Q6)):=by
  have h9:=task_any (renP p j y) (j:Int) Q6 sa (some ⟨g,0,none⟩) sc c9 HPQ6.out (HK.out Q6 HBQ.out).2.2.2.1 HKK.out
  rw[hG,her] at h9
  rw[show (renP p j y).val sa sc (some ⟨g,0,none⟩) c9 = .agg #[.slice sa p.shared.length sc,.slice (some ⟨g,0,none⟩) p.tasks.length c9] from by show Value.agg #[_,.slice _ (renP p j y).tasks.length _]=_;rw[HLR.out];rfl] at h9
  exact h9
 obtain⟨y0,y1⟩:=mem_two' HQX6.out
 clear d4 d5 d6 d7 f4 f5 f6 f7 hrin hB11 hrow11 hd4 hd5 hd6 hd7 hQ6 hG her
 go_wp2_with fail
 clear y0 y1
 refine HTK.out.mono ?_
 rintro e w12 ⟨ga,gac,gb,gbc,rfl,hgn,hB12⟩
 have HB120:=ξ hB12
 obtain⟨gn1,hgn1⟩:∃ n,G.arrays.length=n:=⟨_,rfl⟩
 obtain⟨gn2,hgn2⟩:∃ n,G.blocks.length=n:=⟨_,rfl⟩
 have HGN:Hid (G.arrays.length=gn1∧G.blocks.length=gn2):=⟨hgn1,hgn2⟩
 simp only[hgn1,hgn2]
 obtain⟨Y,hY⟩:∃ X:World,w12.alloc (fnObj G.name G.regs (.slice ga gn1 gac) (.slice gb gn2 gbc))=X:=⟨_,rfl⟩
 have HY0:Hid (Below w12.heap.size w12 Y):=by show Below _ _ _;rw[←hY];exact mem_alloc _ _
 have HYX:Hid (Y.heap[w12.heap.size]? = some (fnObj G.name G.regs (.slice ga gn1 gac) (.slice gb gn2 gbc))):=by show _=_;rw[←hY];exact mem_new _ _
 have HGF:=ξ (hgn.at_.below HY0.out)
 have HBY0:=ξ (mem_then HB120.out HY0.out)
 have HBY:=ξ (mem_then HBQ.out HBY0.out)
 have HCO:Hid (Calls Tryz.prog 15 #[.agg #[.slice sa p.shared.length sc,.slice (some ⟨g,0,none⟩) p.tasks.length c9]] Y fun e w'=>e = .returned (.bool (okP (renP p j y)))∧Below Y.heap.size Y w'):=by
  have h9:=ok15_any (renP p j y) Y sa (some ⟨g,0,none⟩) sc c9 (HW6.out Y HBY0.out).2.1 (HK.out Y HBY.out).2.2.2.1
  rw[show (renP p j y).val sa sc (some ⟨g,0,none⟩) c9 = .agg #[.slice sa p.shared.length sc,.slice (some ⟨g,0,none⟩) p.tasks.length c9] from by show Value.agg #[_,.slice _ (renP p j y).tasks.length _]=_;rw[HLR.out];rfl] at h9
  exact h9
 obtain⟨y0,y1⟩:=mem_two' (HW6.out Y HBY0.out).1
 clear hgn hB12 hgn1 hgn2
 go_wp2_with fail
 clear hY y0 y1
 refine HCO.out.mono ?_
 rintro e w13 ⟨rfl,hB13⟩
 have HB13:=ξ (mem_then HBY0.out hB13)
 have HB13Y:=ξ hB13
 have HB13B:=ξ (mem_then HBY.out hB13)
 clear hB13 HCO
 cases hok2:okP (renP p j y) with
 | false =>
  clear hok2
  go_wp2_with fail
  go_ret
  exact⟨rfl,(HK.out w13 HB13B.out).2.2.1⟩
 | true =>
 have HFG:Hid (G=F∧er=0):=by
  have h1:=lowFn_renP HOK.out hok2 HJ.out (by rw[HT.out];exact hyl)
  have h2:=HGE.out
  rw[h1] at h2
  refine⟨?_,h2.2.symm⟩
  rw[←h2.1,HF.out,Int.toNat_natCast]
 obtain⟨rfl,rfl⟩:=HFG.out
 have HNG:Hid (gn1=an∧gn2=bn):=⟨HGN.out.1.symm.trans HNN.out.1,HGN.out.2.symm.trans HNN.out.2⟩
 obtain⟨rfl,rfl⟩:=HNG.out
 clear hok2
 obtain⟨y0,y1⟩:=mem_two' (HK.out w13 HB13B.out).1
 obtain⟨z0,z1⟩:=mem_two' (HK.out w13 HB13B.out).2.2.2.2.1
 have HJOB:=ξ (job_any p (j:Int) M inp 300 w13 sa (some ⟨tb,to',none⟩) sc tc ma ms mac msc ia ic (HK.out w13 HB13B.out).2.1 (HK.out w13 HB13B.out).2.2.2.2.2.1 (HK.out w13 HB13B.out).2.2.2.2.2.2 (HK.out w13 HB13B.out).2.2.2.1 HKK.out (by decide) (by omega))
 go_wp2_with fail
 clear y0 y1 z0 z1
 refine HJOB.out.mono ?_
 rintro e w14 ⟨ra,rac,rs,rsc,ro,roc,rfl,hra,hB14,_,_⟩
 have HB14:=ξ (mem_then HB13.out hB14)
 have HB14Y:=ξ (mem_then HB13Y.out hB14)
 have HB14B:=ξ (mem_then HB13B.out hB14)
 obtain⟨r,hr⟩:∃ r,(p.tasks.getD j Tsk.none).body.ex 300 inp (jobS p j M)=r:=⟨_,rfl⟩
 have HR:=ξ hr
 have hjr:=jobP_runs (inp:=inp) (F:=300) HOK.out HJ.out HFIT.out
 rw[hr] at hjr
 rw[hjr]
 obtain⟨RJ,hRR⟩:∃ R,runR p j M r=R:=⟨_,rfl⟩
 have HRR:=ξ hRR
 rw[hRR]
 obtain⟨X,hX⟩:∃ X:World,w14.alloc (Res.obj RJ ra rac rs rsc ro roc)=X:=⟨_,rfl⟩
 have hBX:Below w14.heap.size w14 X:=by rw[←hX];exact mem_alloc _ _
 have HXX:Hid (X.heap[w14.heap.size]? = some (Res.obj RJ ra rac rs rsc ro roc)):=by show _=_;rw[←hX];exact mem_new _ _
 have HBX6:=ξ (mem_then HB14.out hBX)
 have HBXY:=ξ (mem_then HB14Y.out hBX)
 have HBXB:=ξ (mem_then HB14B.out hBX)
 obtain⟨x0,x1,x2,x3,x4,x5⟩:=res_cells HXX.out
 clear HJOB hr hjr hRR hra hB14 hBX
 by_cases h13:RJ.err=13
 ·have b1:(RJ.err == 13)=true:=by simpa using h13
  have b1':decide (RJ.err=13)=true:=decide_eq_true h13
  clear h13
  go_wp2_with fail
  go_ret
  exact⟨rfl,(HK.out X HBXB.out).2.2.1⟩
 have b1:(RJ.err == 13)=false:=by simpa using h13
 have b1':decide (RJ.err=13)=false:=decide_eq_false h13
 clear h13
 have HST:Hid (RJ.st≤300):=by
  have h0:((jobS p j M).st:Int)=0:=rfl
  have h5:=(ex_grows 300 inp (p.tasks.getD j Tsk.none).body (jobS p j M)).2.2.2.2 (by rw[h0];decide)
  rw[HR.out] at h5
  show _≤_
  rw[←HRR.out]
  show r.1.st≤300
  omega
 have HSZB:Hid (body'.size=t.body.size):=by show _=_;rw[←HBODY.out,renR_size]
 obtain⟨fu,hfu⟩:∃ fu:Nat,20*(body'.size+1)*(RJ.st+1)=fu:=⟨_,rfl⟩
 have hszt:body'.size≤400:=by rw[HSZB.out];exact (tskOk_le HTV.out).2.2
 have hst300:=HST.out
 have HFU:Hid (fu≤4000000):=by
  have h1:20*(body'.size+1)*(RJ.st+1)≤20*(400+1)*(300+1):=Nat.mul_le_mul (Nat.mul_le_mul_left _ (by omega)) (by omega)
  show fu≤_
  omega
 have HMUL:Hid (20*((body'.size:Int)+1)*((RJ.st:Int)+1)=(fu:Int)):=by show _=_;rw[←hfu];push_cast;rfl
 have hfub:fu≤4000000:=HFU.out
 clear hfu
 go_upto_region 22 with fail
 clear x0 x1 x2 x3 x4 x5 hX
 refine wp_region_held_drew (S:=fun w'=>Below X.heap.size X w') (by kernel_rfl) ((Below.refl _ _).drew) (fun hHeld=>?_)
 generalize hwd:World.drew X=v1 at hHeld⊢
 clear hwd
 have HHV:=ξ hHeld
 refine hT 0 (.pointer (some ⟨g,j*8,none⟩)) rfl (hy:=?_) (h:=?_)
 ·intro w' hSw;go_simp
 (try simp only[Act.put,pZ])
 refine hT 1 (.pointer (some ⟨g,j*8,none⟩)) rfl (hy:=?_) (h:=?_)
 ·intro w' hSw;go_simp
 (try simp only[Act.put,pZ])
 refine hT 2 (.pointer (some ⟨g,j*8+4,none⟩)) rfl (hy:=?_) (h:=?_)
 ·intro w' hSw;go_simp
 (try simp only[Act.put,pZ])
 refine hT 3 (.agg #[.int .u8 body'.kind,.int .i64 body'.num,.string body'.name,.slice a' body'.len c']) rfl (hy:=?_) (h:=?_)
 ·intro w' hSw;obtain⟨z4,z5,z6,z7⟩:=(HW6.out _ (mem_then HBX6.out hSw)).2.2.1;go_simp
 (try simp only[Act.put,pZ])
 refine hT 7 (.pointer (some ⟨w14.heap.size,4,none⟩)) rfl (hy:=?_) (h:=?_)
 ·intro w' hSw;go_simp
 (try simp only[Act.put,pZ])
 refine hT 8 (.int .i64 (RJ.st:Int)) rfl (hy:=?_) (h:=?_)
 ·intro w' hSw;obtain⟨z0,z1,z2,z3,z4,z5⟩:=res_cells (mem_keep HXX.out hSw);go_simp
 (try simp only[Act.put,pZ])
 refine hT 9 (.int .i64 ((RJ.st:Int)+1)) rfl (hy:=?_) (h:=?_)
 ·intro w' hSw;go_simp;(rw[IntKind.wrap_i64];omega)
 (try simp only[Act.put,pZ])
 refine hR 4 rfl (fun K hK=>?_)
 go_simp
 refine (size_any body' v1 a' c' (HW6.out v1 (mem_then HBX6.out HHV.out)).2.2.2 (by omega)).mono ?_
 rintro e w15 ⟨rfl,hB15⟩
 have HB15:=ξ (mem_then HHV.out hB15)
 clear hB15
 refine hK.out _ _ (HB15.out) (fun hHeld=>?_)
 clear hK K
 rename_i hOld
 clear hOld
 (try simp only[Act.put,pZ])
 refine hT 5 (.int .i64 ((body'.size:Int)+1)) rfl (hy:=?_) (h:=?_)
 ·intro w' hSw;go_simp;(rw[IntKind.wrap_i64];omega)
 (try simp only[Act.put,pZ])
 refine hT 6 (.int .i64 (20*((body'.size:Int)+1))) rfl (hy:=?_) (h:=?_)
 ·intro w' hSw;go_simp;(rw[IntKind.wrap_i64];omega)
 (try simp only[Act.put,pZ])
 refine hT 10 (.int .i64 (fu:Int)) rfl (hy:=?_) (h:=?_)
 ·intro w' hSw;go_simp;(rw[HMUL.out,IntKind.wrap_i64];omega)
 (try simp only[Act.put,pZ])
 refine hT 11 (.int .i64 (fu:Int)) rfl (hy:=?_) (h:=?_)
 ·intro w' hSw;go_simp
 (try simp only[Act.put,pZ])
 refine wpAnyH_done (by kernel_rfl) ?_ _
 clear hHeld
 obtain⟨E0,hE0⟩:∃ X:World,X=w15:=⟨_,rfl⟩
 rw[←hE0]
 have HE6:Hid (Below Q6.heap.size Q6 E0):=by show Below _ _ _;rw[hE0];exact mem_then HBX6.out HB15.out
 have HEY:Hid (Below Y.heap.size Y E0):=by show Below _ _ _;rw[hE0];exact mem_then HBXY.out HB15.out
 have HEB:Hid (Below A0.heap.size A0 E0):=by show Below _ _ _;rw[hE0];exact mem_then HBXB.out HB15.out
 have HEV:Hid (Below V.heap.size V E0):=mem_then (mem_then HB30.out HBQ6.out) HE6.out
 obtain⟨R,hRO⟩:∃ O,runOf G (p.shared.map arrP) (M.arrays.getD j []) M.shared inp (fu:Int)=O:=⟨_,rfl⟩
 have HFP:=ξ (fit_of HFIT.out)
 obtain⟨row,hrow⟩:∃ r,M.arrays[j]? = some r:=⟨_,List.getElem?_eq_getElem (by rw[HFP.out.len];exact HJ.out)⟩
 have hrow2:M.arrays.getD j []=row:=by rw[List.getD_eq_getElem?_getD,hrow];rfl
 have hmal:(j:Int)<(M.arrays.length:Int):=by have:=HFP.out.len;have:=HJ.out;omega
 have hj0:(0:Int)≤(j:Int):=by omega
 obtain⟨_,hrl,hrl2⟩:=HFP.out.task j row hrow
 have HMA:Hid (∃ mb mo rwa rwc,ma=some ⟨mb,mo,none⟩∧E0.cell? ⟨mb,mo+j,none⟩=some (.slice rwa row.length rwc)∧ContAt E0 rwa row):=by
  rcases (HK.out E0 HEB.out).2.2.2.2.2.1.1.at_ with h0|⟨mb,mo,e,hk⟩
  ·exfalso;omega
  ·obtain⟨rwa,rwc,h1,_,h2⟩:=hk j row hrow
   exact⟨mb,mo,rwa,rwc,e,h1,h2⟩
 obtain⟨mb,mo,rwa,rwc,rfl,hrc,hrct⟩:=HMA.out
 have HRC:=ξ hrc
 have HRCT:=ξ hrct
 have JR:Hid (∀ (xa xb:Option Addr) (xac xbc:Nat) (w':World),FnAt w' G xa xb→Below E0.heap.size E0 w'→Calls Tryz.prog 10 #[.agg #[.string G.name,.int .i64 G.regs,.slice xa gn1 xac,.slice xb gn2 xbc],.slice sa p.shared.length sc,.slice rwa row.length rwc,.slice ms M.shared.length msc,.slice ia inp.length ic,.int .i64 (fu:Int)] w' (RunQ R w')):=fun xa xb xac xbc w' hf h=>by
  have hk:=HK.out w' (mem_then HEB.out h)
  have h9:=runQ_any G (p.shared.map arrP) row M.shared inp (fu:Int) xa xb sa rwa ms ia xac xbc sc rwc msc ic w' hf (arrs_ir hk.2.1.1) (by rw[List.length_map];have:=(prgOk_le (okP_ok HOK.out)).1;omega) (cont_ir (HRCT.out.below h)) (cont_ir hk.2.2.2.2.2.1.2) (fun r hr=>by have:=hrl2 r hr;omega) (fun r hr=>by have:=HFP.out.slen.2 r hr;omega) (words_ir hk.2.2.2.2.2.2) (by have:=HFU.out;omega)
  rw[hrow2] at hRO
  rw[hRO,HGN.out.1,HGN.out.2,List.length_map] at h9
  exact h9
 obtain⟨S,hS⟩:∃ S,S=R:=⟨_,rfl⟩
 have HSR:=ξ hS
 have J1:Hid (∀ w',Below E0.heap.size E0 w'→Calls Tryz.prog 10 #[.agg #[.string G.name,.int .i64 G.regs,.slice aa gn1 ac,.slice ba gn2 bc],.slice sa p.shared.length sc,.slice rwa row.length rwc,.slice ms M.shared.length msc,.slice ia inp.length ic,.int .i64 (fu:Int)] w' (RunQ R w')):=fun w' h=>JR.out aa ba ac bc w' (HFN.out.below (mem_then HEV.out h)) h
 have J2:Hid (∀ w',Below E0.heap.size E0 w'→Calls Tryz.prog 10 #[.agg #[.string G.name,.int .i64 G.regs,.slice ga gn1 gac,.slice gb gn2 gbc],.slice sa p.shared.length sc,.slice rwa row.length rwc,.slice ms M.shared.length msc,.slice ia inp.length ic,.int .i64 (fu:Int)] w' (RunQ S w')):=fun w' h=>by
  rw[hS]
  exact JR.out ga gb gac gbc w' (HGF.out.below (mem_then HEY.out h)) h
 have HVF:Hid (∀ w',Below E0.heap.size E0 w'→(w'.cell? ⟨w2.heap.size,0,none⟩=some (.string G.name)∧w'.cell? ⟨w2.heap.size,1,none⟩=some (.int .i64 G.regs)∧w'.cell? ⟨w2.heap.size,2,none⟩=some (.slice aa gn1 ac)∧w'.cell? ⟨w2.heap.size,3,none⟩=some (.slice ba gn2 bc))∧(w'.cell? ⟨w12.heap.size,0,none⟩=some (.string G.name)∧w'.cell? ⟨w12.heap.size,1,none⟩=some (.int .i64 G.regs)∧w'.cell? ⟨w12.heap.size,2,none⟩=some (.slice ga gn1 gac)∧w'.cell? ⟨w12.heap.size,3,none⟩=some (.slice gb gn2 gbc))):=fun w' h=>by
  obtain⟨v0,v1,v2,v3,_⟩:=fn_four (mem_keep HVX.out (mem_then HEV.out h))
  obtain⟨u0,u1,u2,u3,_⟩:=fn_four (mem_keep HYX.out (mem_then HEY.out h))
  exact⟨⟨v0,v1,v2,v3⟩,u0,u1,u2,u3⟩
 clear hRO hrow hrow2 hrl hrl2 hrc hrct HMA hE0 hS JR
 go_upto_region 23 with fail
 go_cut [21,22] from 133 to 158 (fun s1 s2 w'=>∃ b1 b2 aa ac ra rc oa oc ba bc rb rd ob od,s1 = .pointer (some ⟨b1,0,none⟩)∧s2 = .pointer (some ⟨b2,0,none⟩)∧w'.heap[b1]? = some (Oc.obj R aa ac ra rc oa oc)∧w'.heap[b2]? = some (Oc.obj S ba bc rb rd ob od)∧OcIn w' R aa ra oa∧OcIn w' S ba rb ob∧Below E0.heap.size E0 w')
 case first =>
  refine wp_region_held_drew (S:=fun w'=>Below E0.heap.size E0 w') (by kernel_rfl) ((Below.refl _ _).drew) (fun hHeld=>?_)
  generalize hwd:World.drew E0=v1 at hHeld⊢
  clear hwd
  have HHV:=ξ hHeld
  refine hT 0 (.agg #[.string G.name,.int .i64 G.regs,.slice aa gn1 ac,.slice ba gn2 bc]) rfl (hy:=?_) (h:=?_)
  ·intro w' hSw;obtain⟨⟨z0,z1,z2,z3⟩,_⟩:=HVF.out _ hSw;go_simp
  (try simp only[Act.put,pZ])
  refine hT 1 (.pointer (some ⟨w.heap.size,0,none⟩)) rfl (hy:=?_) (h:=?_)
  ·intro w' hSw;go_simp
  (try simp only[Act.put,pZ])
  refine hT 2 (.slice sa p.shared.length sc) rfl (hy:=?_) (h:=?_)
  ·intro w' hSw;obtain⟨z0,z1⟩:=mem_two' (HK.out _ (mem_then HEB.out hSw)).1;go_simp
  (try simp only[Act.put,pZ])
  refine hT 3 (.pointer (some ⟨W.heap.size,0,none⟩)) rfl (hy:=?_) (h:=?_)
  ·intro w' hSw;go_simp
  (try simp only[Act.put,pZ])
  refine hT 4 (.slice (some ⟨mb,mo,none⟩) M.arrays.length mac) rfl (hy:=?_) (h:=?_)
  ·intro w' hSw;obtain⟨z0,z1⟩:=mem_two' (HK.out _ (mem_then HEB.out hSw)).2.2.2.2.1;go_simp
  (try simp only[Act.put,pZ])
  refine hT 5 (.int .i64 (j:Int)) rfl (hy:=?_) (h:=?_)
  ·intro w' hSw;go_simp
  (try simp only[Act.put,pZ])
  refine hT 6 (.pointer (some ⟨mb,mo+j,none⟩)) rfl (hy:=?_) (h:=?_)
  ·intro w' hSw;go_simp
  (try simp only[Act.put,pZ])
  refine hT 7 (.slice rwa row.length rwc) rfl (hy:=?_) (h:=?_)
  ·intro w' hSw;have z0:=cell_below hSw HRC.out;go_simp
  (try simp only[Act.put,pZ])
  refine hT 8 (.pointer (some ⟨W.heap.size,1,none⟩)) rfl (hy:=?_) (h:=?_)
  ·intro w' hSw;go_simp
  (try simp only[Act.put,pZ])
  refine hT 9 (.slice ms M.shared.length msc) rfl (hy:=?_) (h:=?_)
  ·intro w' hSw;obtain⟨z0,z1⟩:=mem_two' (HK.out _ (mem_then HEB.out hSw)).2.2.2.2.1;go_simp
  (try simp only[Act.put,pZ])
  refine hT 10 (.slice ia inp.length ic) rfl (hy:=?_) (h:=?_)
  ·intro w' hSw;go_simp
  (try simp only[Act.put,pZ])
  refine hT 11 (.int .i64 (fu:Int)) rfl (hy:=?_) (h:=?_)
  ·intro w' hSw;go_simp
  (try simp only[Act.put,pZ])
  refine hT 13 (.agg #[.string G.name,.int .i64 G.regs,.slice ga gn1 gac,.slice gb gn2 gbc]) rfl (hy:=?_) (h:=?_)
  ·intro w' hSw;obtain⟨_,z0,z1,z2,z3⟩:=HVF.out _ hSw;go_simp
  (try simp only[Act.put,pZ])
  refine hT 14 (.pointer (some ⟨w3.heap.size,0,none⟩)) rfl (hy:=?_) (h:=?_)
  ·intro w' hSw;go_simp
  (try simp only[Act.put,pZ])
  refine hT 15 (.slice sa p.shared.length sc) rfl (hy:=?_) (h:=?_)
  ·intro w' hSw;obtain⟨z0,z1⟩:=mem_two' (HW6.out _ (mem_then HE6.out hSw)).1;go_simp
  (try simp only[Act.put,pZ])
  refine hT 16 (.pointer (some ⟨W.heap.size,0,none⟩)) rfl (hy:=?_) (h:=?_)
  ·intro w' hSw;go_simp
  (try simp only[Act.put,pZ])
  refine hT 17 (.slice (some ⟨mb,mo,none⟩) M.arrays.length mac) rfl (hy:=?_) (h:=?_)
  ·intro w' hSw;obtain⟨z0,z1⟩:=mem_two' (HK.out _ (mem_then HEB.out hSw)).2.2.2.2.1;go_simp
  (try simp only[Act.put,pZ])
  refine hT 18 (.int .i64 (j:Int)) rfl (hy:=?_) (h:=?_)
  ·intro w' hSw;go_simp
  (try simp only[Act.put,pZ])
  refine hT 19 (.pointer (some ⟨mb,mo+j,none⟩)) rfl (hy:=?_) (h:=?_)
  ·intro w' hSw;go_simp
  (try simp only[Act.put,pZ])
  refine hT 20 (.slice rwa row.length rwc) rfl (hy:=?_) (h:=?_)
  ·intro w' hSw;have z0:=cell_below hSw HRC.out;go_simp
  (try simp only[Act.put,pZ])
  refine hT 21 (.pointer (some ⟨W.heap.size,1,none⟩)) rfl (hy:=?_) (h:=?_)
  ·intro w' hSw;go_simp
  (try simp only[Act.put,pZ])
  refine hT 22 (.slice ms M.shared.length msc) rfl (hy:=?_) (h:=?_)
  ·intro w' hSw;obtain⟨z0,z1⟩:=mem_two' (HK.out _ (mem_then HEB.out hSw)).2.2.2.2.1;go_simp
  (try simp only[Act.put,pZ])
  refine hT 23 (.slice ia inp.length ic) rfl (hy:=?_) (h:=?_)
  ·intro w' hSw;go_simp
  (try simp only[Act.put,pZ])
  refine hT 24 (.int .i64 (fu:Int)) rfl (hy:=?_) (h:=?_)
  ·intro w' hSw;go_simp
  (try simp only[Act.put,pZ])
  refine wpAnyH_ready (rs:=[12,26,27]) (by kernel_rfl) (by simp) (AllReadyH.cons rfl (fun K hK=>?_) (AllReadyH.cons rfl (fun K hK=>?_) (AllReadyH.cons rfl (fun K hK=>?_) AllReadyH.nil)))
  ·go_simp
   refine (J1.out v1 HHV.out).mono ?_
   rintro e w_1 ⟨aa,ac,ara,arc,aoa,aoc,rfl,hra,hB_1,_,hty⟩
   have HB_1:=ξ (mem_then HHV.out hB_1)
   have HS4_1:=ξ (And.intro hra hty)
   clear hra hty hB_1
   refine hK.out _ _ (HB_1.out) (fun hHeld=>?_)
   clear hK K
   rename_i hOld
   clear hOld
   (try simp only[Act.put,pZ])
   refine wpAnyH_ready (rs:=[25,26,27]) (by kernel_rfl) (by simp) (AllReadyH.cons rfl (fun K hK=>?_) (AllReadyH.cons rfl (fun K hK=>?_) (AllReadyH.cons rfl (fun K hK=>?_) AllReadyH.nil)))
   ·go_simp
    refine (J2.out w_1 HB_1.out).mono ?_
    rintro e w_2 ⟨ba,bc,bra,brc,boa,boc,rfl,hra,hB_2,_,hty⟩
    have HB_2:=ξ (mem_then HB_1.out hB_2)
    have HS4_2:=ξ (And.intro (OcIn.below HS4_1.out.1 hB_2) (OcTy.below HS4_1.out.2 hB_2))
    have HS9_2:=ξ (And.intro hra hty)
    clear hra hty hB_2
    refine hK.out _ _ (HB_2.out) (fun hHeld=>?_)
    clear hK K
    rename_i hOld
    clear hOld
    (try simp only[Act.put,pZ])
    refine wpAnyH_ready (rs:=[26,27]) (by kernel_rfl) (by simp) (AllReadyH.cons rfl (fun K hK=>?_) (AllReadyH.cons rfl (fun K hK=>?_) AllReadyH.nil))
    ·go_simp
     refine hK.out _ _ (mem_then HB_2.out (mem_alloc _ _)) (fun hHeld=>?_)
     clear hK K
     rename_i hOld
     clear hOld
     (try simp only[Act.put,pZ])
     have hz_3:(w_2.alloc zOc).heap[w_2.heap.size]? = some zOc:=mem_new _ _
     have hzB_3:=mem_alloc w_2 zOc
     generalize hQ_3:w_2.alloc zOc=U_3 at hz_3 hzB_3 hHeld⊢
     clear hQ_3
     have HB_3:=ξ (mem_then HB_2.out hzB_3)
     have HGA:Hid (E0.heap.size≤w_2.heap.size):=HB_2.out.size
     have HS4_3:=ξ (And.intro (OcIn.below HS4_2.out.1 hzB_3) (OcTy.below HS4_2.out.2 hzB_3))
     have HS9_3:=ξ (And.intro (OcIn.below HS9_2.out.1 hzB_3) (OcTy.below HS9_2.out.2 hzB_3))
     have HZA3:=ξ hz_3
     clear hz_3 hzB_3
     refine hR 27 rfl (fun K hK=>?_)
     go_simp
     refine hK.out _ _ (mem_then HB_3.out (mem_alloc _ _)) (fun hHeld=>?_)
     clear hK K
     rename_i hOld
     clear hOld
     (try simp only[Act.put,pZ])
     have hz_4:(U_3.alloc zOc).heap[U_3.heap.size]? = some zOc:=mem_new _ _
     have hzB_4:=mem_alloc U_3 zOc
     generalize hQ_4:U_3.alloc zOc=U_4 at hz_4 hzB_4 hHeld⊢
     clear hQ_4
     have HB_4:=ξ (mem_then HB_3.out hzB_4)
     have hlo_4:=mem_lt HZA3.out
     have HNE:Hid (w_2.heap.size≠U_3.heap.size):=fun e=>by omega
     clear hlo_4
     have HGB:Hid (E0.heap.size≤U_3.heap.size):=HB_3.out.size
     have HZA4:=ξ (mem_keep HZA3.out hzB_4)
     have HS4_4:=ξ (And.intro (OcIn.below HS4_3.out.1 hzB_4) (OcTy.below HS4_3.out.2 hzB_4))
     have HS9_4:=ξ (And.intro (OcIn.below HS9_3.out.1 hzB_4) (OcTy.below HS9_3.out.2 hzB_4))
     have HZB4:=ξ hz_4
     clear hz_4 hzB_4
     obtain⟨bA,hbA⟩:∃ b,w_2.heap.size=b:=⟨_,rfl⟩
     obtain⟨bB,hbB⟩:∃ b,U_3.heap.size=b:=⟨_,rfl⟩
     have HZA:=HZA4
     have HZB:=HZB4
     have HSA:=HS4_4
     have HSB:=HS9_4
     have HBE:=HB_4
     rw[hbA] at HZA HNE HGA
     rw[hbB] at HZB HNE HGB
     try rw[hbA]
     try rw[hbB]
     clear hbA hbB
     obtain⟨EW,hEW⟩:∃ E:World,U_4=E:=⟨_,rfl⟩
     rw[hEW] at HZA HZB HSA HSB HBE hHeld⊢
     clear hEW
     obtain⟨y0,y1,y2,y3,y4,y5⟩:=oc_cells HZA.out
     have f0:=mem_free HZA.out 0
     have f1:=mem_free HZA.out 1
     have f2:=mem_free HZA.out 2
     have f3:=mem_free HZA.out 3
     have f4:=mem_free HZA.out 4
     have f5:=mem_free HZA.out 5
     obtain⟨U2,hU2⟩:∃ U2:World,put6 EW bA (.slice aa R.arrays.length ac) (.slice ara R.objects.length arc) (.slice aoa R.out.length aoc) (.int .i64 (R.read:Int)) (.int .i64 (R.steps:Int)) (.int .i64 R.err)=U2:=⟨_,rfl⟩
     have HFAR2:Hid (∀ k,k≠bA→U2.heap[k]? = EW.heap[k]?):=fun k hk=>by rw[←hU2];exact put6_far hk
     have HA2':Hid (U2.heap[bA]? = some (Oc.obj R aa ac ara arc aoa aoc)):=by show _=_;rw[←hU2];exact put6_at HZA.out
     have HZB2:Hid (U2.heap[bB]? = some zOc):=(HFAR2.out bB (fun e=>HNE.out e.symm)).trans HZB.out
     have HBU2:Hid (Below E0.heap.size E0 U2):=by show Below _ _ _;rw[←hU2];exact put6_below HBE.out HGA.out
     have HSA2:=ξ (OcIn.stored HZA.out HFAR2.out HSA.out.1 HSA.out.2)
     have HSB2:=ξ (OcIn.stored HZA.out HFAR2.out HSB.out.1 HSB.out.2)
     obtain⟨p0,p1,p2,p3,p4,p5⟩:=oc_cells HZB2.out
     have g0:=mem_free HZB2.out 0
     have g1:=mem_free HZB2.out 1
     have g2:=mem_free HZB2.out 2
     have g3:=mem_free HZB2.out 3
     have g4:=mem_free HZB2.out 4
     have g5:=mem_free HZB2.out 5
     obtain⟨U3,hU3⟩:∃ U3:World,put6 U2 bB (.slice ba S.arrays.length bc) (.slice bra S.objects.length brc) (.slice boa S.out.length boc) (.int .i64 (S.read:Int)) (.int .i64 (S.steps:Int)) (.int .i64 S.err)=U3:=⟨_,rfl⟩
     have HFAR3:Hid (∀ k,k≠bB→U3.heap[k]? = U2.heap[k]?):=fun k hk=>by rw[←hU3];exact put6_far hk
     have HB3':Hid (U3.heap[bB]? = some (Oc.obj S ba bc bra brc boa boc)):=by show _=_;rw[←hU3];exact put6_at HZB2.out
     have HA3':Hid (U3.heap[bA]? = some (Oc.obj R aa ac ara arc aoa aoc)):=(HFAR3.out bA HNE.out).trans HA2'.out
     have HBU3:Hid (Below E0.heap.size E0 U3):=by show Below _ _ _;rw[←hU3];exact put6_below HBU2.out HGB.out
     have HSA3:=ξ (OcIn.stored HZB2.out HFAR3.out HSA2.out.1 HSA2.out.2)
     have HSB3:=ξ (OcIn.stored HZB2.out HFAR3.out HSB2.out.1 HSB2.out.2)
     unfold put6 at hU2 hU3
     refine hR 28 rfl (fun K hK=>?_)
     go_simp
     try rw[hU2]
     refine hK.out _ _ (HBU2.out) (fun hHeld=>?_)
     clear hK K
     rename_i hOld
     clear hOld
     (try simp only[Act.put,pZ])
     refine hR 29 rfl (fun K hK=>?_)
     go_simp
     try rw[hU3]
     refine hK.out _ _ (HBU3.out) (fun hHeld=>?_)
     clear hK K
     rename_i hOld
     clear hOld
     (try simp only[Act.put,pZ])
     clear hHeld y0 y1 y2 y3 y4 y5 f0 f1 f2 f3 f4 f5 p0 p1 p2 p3 p4 p5 g0 g1 g2 g3 g4 g5 hU2 hU3
     refine wpAnyH_done (by kernel_rfl) ?_ _
     go_wp2_with fail
     go_meet
     exact⟨bA,bB,aa,ac,ara,arc,aoa,aoc,ba,bc,bra,brc,boa,boc,rfl,rfl,HA3'.out,HB3'.out,HSA3.out.1,HSB3.out.1,HBU3.out⟩
    ·go_simp
     refine hK.out _ _ (mem_then HB_2.out (mem_alloc _ _)) (fun hHeld=>?_)
     clear hK K
     rename_i hOld
     clear hOld
     (try simp only[Act.put,pZ])
     have hz_5:(w_2.alloc zOc).heap[w_2.heap.size]? = some zOc:=mem_new _ _
     have hzB_5:=mem_alloc w_2 zOc
     generalize hQ_5:w_2.alloc zOc=U_5 at hz_5 hzB_5 hHeld⊢
     clear hQ_5
     have HB_5:=ξ (mem_then HB_2.out hzB_5)
     have HGB:Hid (E0.heap.size≤w_2.heap.size):=HB_2.out.size
     have HS4_5:=ξ (And.intro (OcIn.below HS4_2.out.1 hzB_5) (OcTy.below HS4_2.out.2 hzB_5))
     have HS9_5:=ξ (And.intro (OcIn.below HS9_2.out.1 hzB_5) (OcTy.below HS9_2.out.2 hzB_5))
     have HZB5:=ξ hz_5
     clear hz_5 hzB_5
     refine hR 26 rfl (fun K hK=>?_)
     go_simp
     refine hK.out _ _ (mem_then HB_5.out (mem_alloc _ _)) (fun hHeld=>?_)
     clear hK K
     rename_i hOld
     clear hOld
     (try simp only[Act.put,pZ])
     have hz_6:(U_5.alloc zOc).heap[U_5.heap.size]? = some zOc:=mem_new _ _
     have hzB_6:=mem_alloc U_5 zOc
     generalize hQ_6:U_5.alloc zOc=U_6 at hz_6 hzB_6 hHeld⊢
     clear hQ_6
     have HB_6:=ξ (mem_then HB_5.out hzB_6)
     have hlo_6:=mem_lt HZB5.out
     have HNE:Hid (U_5.heap.size≠w_2.heap.size):=fun e=>by omega
     clear hlo_6
     have HGA:Hid (E0.heap.size≤U_5.heap.size):=HB_5.out.size
     have HZB6:=ξ (mem_keep HZB5.out hzB_6)
     have HS4_6:=ξ (And.intro (OcIn.below HS4_5.out.1 hzB_6) (OcTy.below HS4_5.out.2 hzB_6))
     have HS9_6:=ξ (And.intro (OcIn.below HS9_5.out.1 hzB_6) (OcTy.below HS9_5.out.2 hzB_6))
     have HZA6:=ξ hz_6
     clear hz_6 hzB_6
     obtain⟨bA,hbA⟩:∃ b,U_5.heap.size=b:=⟨_,rfl⟩
     obtain⟨bB,hbB⟩:∃ b,w_2.heap.size=b:=⟨_,rfl⟩
     have HZA:=HZA6
     have HZB:=HZB6
     have HSA:=HS4_6
     have HSB:=HS9_6
     have HBE:=HB_6
     rw[hbA] at HZA HNE HGA
     rw[hbB] at HZB HNE HGB
     try rw[hbA]
     try rw[hbB]
     clear hbA hbB
     obtain⟨EW,hEW⟩:∃ E:World,U_6=E:=⟨_,rfl⟩
     rw[hEW] at HZA HZB HSA HSB HBE hHeld⊢
     clear hEW
     obtain⟨y0,y1,y2,y3,y4,y5⟩:=oc_cells HZA.out
     have f0:=mem_free HZA.out 0
     have f1:=mem_free HZA.out 1
     have f2:=mem_free HZA.out 2
     have f3:=mem_free HZA.out 3
     have f4:=mem_free HZA.out 4
     have f5:=mem_free HZA.out 5
     obtain⟨U2,hU2⟩:∃ U2:World,put6 EW bA (.slice aa R.arrays.length ac) (.slice ara R.objects.length arc) (.slice aoa R.out.length aoc) (.int .i64 (R.read:Int)) (.int .i64 (R.steps:Int)) (.int .i64 R.err)=U2:=⟨_,rfl⟩
     have HFAR2:Hid (∀ k,k≠bA→U2.heap[k]? = EW.heap[k]?):=fun k hk=>by rw[←hU2];exact put6_far hk
     have HA2':Hid (U2.heap[bA]? = some (Oc.obj R aa ac ara arc aoa aoc)):=by show _=_;rw[←hU2];exact put6_at HZA.out
     have HZB2:Hid (U2.heap[bB]? = some zOc):=(HFAR2.out bB (fun e=>HNE.out e.symm)).trans HZB.out
     have HBU2:Hid (Below E0.heap.size E0 U2):=by show Below _ _ _;rw[←hU2];exact put6_below HBE.out HGA.out
     have HSA2:=ξ (OcIn.stored HZA.out HFAR2.out HSA.out.1 HSA.out.2)
     have HSB2:=ξ (OcIn.stored HZA.out HFAR2.out HSB.out.1 HSB.out.2)
     obtain⟨p0,p1,p2,p3,p4,p5⟩:=oc_cells HZB2.out
     have g0:=mem_free HZB2.out 0
     have g1:=mem_free HZB2.out 1
     have g2:=mem_free HZB2.out 2
     have g3:=mem_free HZB2.out 3
     have g4:=mem_free HZB2.out 4
     have g5:=mem_free HZB2.out 5
     obtain⟨U3,hU3⟩:∃ U3:World,put6 U2 bB (.slice ba S.arrays.length bc) (.slice bra S.objects.length brc) (.slice boa S.out.length boc) (.int .i64 (S.read:Int)) (.int .i64 (S.steps:Int)) (.int .i64 S.err)=U3:=⟨_,rfl⟩
     have HFAR3:Hid (∀ k,k≠bB→U3.heap[k]? = U2.heap[k]?):=fun k hk=>by rw[←hU3];exact put6_far hk
     have HB3':Hid (U3.heap[bB]? = some (Oc.obj S ba bc bra brc boa boc)):=by show _=_;rw[←hU3];exact put6_at HZB2.out
     have HA3':Hid (U3.heap[bA]? = some (Oc.obj R aa ac ara arc aoa aoc)):=(HFAR3.out bA HNE.out).trans HA2'.out
     have HBU3:Hid (Below E0.heap.size E0 U3):=by show Below _ _ _;rw[←hU3];exact put6_below HBU2.out HGB.out
     have HSA3:=ξ (OcIn.stored HZB2.out HFAR3.out HSA2.out.1 HSA2.out.2)
     have HSB3:=ξ (OcIn.stored HZB2.out HFAR3.out HSB2.out.1 HSB2.out.2)
     unfold put6 at hU2 hU3
     refine hR 28 rfl (fun K hK=>?_)
     go_simp
     try rw[hU2]
     refine hK.out _ _ (HBU2.out) (fun hHeld=>?_)
     clear hK K
     rename_i hOld
     clear hOld
     (try simp only[Act.put,pZ])
     refine hR 29 rfl (fun K hK=>?_)
     go_simp
     try rw[hU3]
     refine hK.out _ _ (HBU3.out) (fun hHeld=>?_)
     clear hK K
     rename_i hOld
     clear hOld
     (try simp only[Act.put,pZ])
     clear hHeld y0 y1 y2 y3 y4 y5 f0 f1 f2 f3 f4 f5 p0 p1 p2 p3 p4 p5 g0 g1 g2 g3 g4 g5 hU2 hU3
     refine wpAnyH_done (by kernel_rfl) ?_ _
     go_wp2_with fail
     go_meet
     exact⟨bA,bB,aa,ac,ara,arc,aoa,aoc,ba,bc,bra,brc,boa,boc,rfl,rfl,HA3'.out,HB3'.out,HSA3.out.1,HSB3.out.1,HBU3.out⟩
   ·go_simp
    refine hK.out _ _ (mem_then HB_1.out (mem_alloc _ _)) (fun hHeld=>?_)
    clear hK K
    rename_i hOld
    clear hOld
    (try simp only[Act.put,pZ])
    have hz_7:(w_1.alloc zOc).heap[w_1.heap.size]? = some zOc:=mem_new _ _
    have hzB_7:=mem_alloc w_1 zOc
    generalize hQ_7:w_1.alloc zOc=U_7 at hz_7 hzB_7 hHeld⊢
    clear hQ_7
    have HB_7:=ξ (mem_then HB_1.out hzB_7)
    have HGA:Hid (E0.heap.size≤w_1.heap.size):=HB_1.out.size
    have HS4_7:=ξ (And.intro (OcIn.below HS4_1.out.1 hzB_7) (OcTy.below HS4_1.out.2 hzB_7))
    have HZA7:=ξ hz_7
    clear hz_7 hzB_7
    refine wpAnyH_ready (rs:=[25,27]) (by kernel_rfl) (by simp) (AllReadyH.cons rfl (fun K hK=>?_) (AllReadyH.cons rfl (fun K hK=>?_) AllReadyH.nil))
    ·go_simp
     refine (J2.out U_7 HB_7.out).mono ?_
     rintro e w_8 ⟨ba,bc,bra,brc,boa,boc,rfl,hra,hB_8,_,hty⟩
     have HB_8:=ξ (mem_then HB_7.out hB_8)
     have HZA8:=ξ (mem_keep HZA7.out hB_8)
     have HS4_8:=ξ (And.intro (OcIn.below HS4_7.out.1 hB_8) (OcTy.below HS4_7.out.2 hB_8))
     have HS9_8:=ξ (And.intro hra hty)
     clear hra hty hB_8
     refine hK.out _ _ (HB_8.out) (fun hHeld=>?_)
     clear hK K
     rename_i hOld
     clear hOld
     (try simp only[Act.put,pZ])
     refine hR 27 rfl (fun K hK=>?_)
     go_simp
     refine hK.out _ _ (mem_then HB_8.out (mem_alloc _ _)) (fun hHeld=>?_)
     clear hK K
     rename_i hOld
     clear hOld
     (try simp only[Act.put,pZ])
     have hz_9:(w_8.alloc zOc).heap[w_8.heap.size]? = some zOc:=mem_new _ _
     have hzB_9:=mem_alloc w_8 zOc
     generalize hQ_9:w_8.alloc zOc=U_9 at hz_9 hzB_9 hHeld⊢
     clear hQ_9
     have HB_9:=ξ (mem_then HB_8.out hzB_9)
     have hlo_9:=mem_lt HZA8.out
     have HNE:Hid (w_1.heap.size≠w_8.heap.size):=fun e=>by omega
     clear hlo_9
     have HGB:Hid (E0.heap.size≤w_8.heap.size):=HB_8.out.size
     have HZA9:=ξ (mem_keep HZA8.out hzB_9)
     have HS4_9:=ξ (And.intro (OcIn.below HS4_8.out.1 hzB_9) (OcTy.below HS4_8.out.2 hzB_9))
     have HS9_9:=ξ (And.intro (OcIn.below HS9_8.out.1 hzB_9) (OcTy.below HS9_8.out.2 hzB_9))
     have HZB9:=ξ hz_9
     clear hz_9 hzB_9
     obtain⟨bA,hbA⟩:∃ b,w_1.heap.size=b:=⟨_,rfl⟩
     obtain⟨bB,hbB⟩:∃ b,w_8.heap.size=b:=⟨_,rfl⟩
     have HZA:=HZA9
     have HZB:=HZB9
     have HSA:=HS4_9
     have HSB:=HS9_9
     have HBE:=HB_9
     rw[hbA] at HZA HNE HGA
     rw[hbB] at HZB HNE HGB
     try rw[hbA]
     try rw[hbB]
     clear hbA hbB
     obtain⟨EW,hEW⟩:∃ E:World,U_9=E:=⟨_,rfl⟩
     rw[hEW] at HZA HZB HSA HSB HBE hHeld⊢
     clear hEW
     obtain⟨y0,y1,y2,y3,y4,y5⟩:=oc_cells HZA.out
     have f0:=mem_free HZA.out 0
     have f1:=mem_free HZA.out 1
     have f2:=mem_free HZA.out 2
     have f3:=mem_free HZA.out 3
     have f4:=mem_free HZA.out 4
     have f5:=mem_free HZA.out 5
     obtain⟨U2,hU2⟩:∃ U2:World,put6 EW bA (.slice aa R.arrays.length ac) (.slice ara R.objects.length arc) (.slice aoa R.out.length aoc) (.int .i64 (R.read:Int)) (.int .i64 (R.steps:Int)) (.int .i64 R.err)=U2:=⟨_,rfl⟩
     have HFAR2:Hid (∀ k,k≠bA→U2.heap[k]? = EW.heap[k]?):=fun k hk=>by rw[←hU2];exact put6_far hk
     have HA2':Hid (U2.heap[bA]? = some (Oc.obj R aa ac ara arc aoa aoc)):=by show _=_;rw[←hU2];exact put6_at HZA.out
     have HZB2:Hid (U2.heap[bB]? = some zOc):=(HFAR2.out bB (fun e=>HNE.out e.symm)).trans HZB.out
     have HBU2:Hid (Below E0.heap.size E0 U2):=by show Below _ _ _;rw[←hU2];exact put6_below HBE.out HGA.out
     have HSA2:=ξ (OcIn.stored HZA.out HFAR2.out HSA.out.1 HSA.out.2)
     have HSB2:=ξ (OcIn.stored HZA.out HFAR2.out HSB.out.1 HSB.out.2)
     obtain⟨p0,p1,p2,p3,p4,p5⟩:=oc_cells HZB2.out
     have g0:=mem_free HZB2.out 0
     have g1:=mem_free HZB2.out 1
     have g2:=mem_free HZB2.out 2
     have g3:=mem_free HZB2.out 3
     have g4:=mem_free HZB2.out 4
     have g5:=mem_free HZB2.out 5
     obtain⟨U3,hU3⟩:∃ U3:World,put6 U2 bB (.slice ba S.arrays.length bc) (.slice bra S.objects.length brc) (.slice boa S.out.length boc) (.int .i64 (S.read:Int)) (.int .i64 (S.steps:Int)) (.int .i64 S.err)=U3:=⟨_,rfl⟩
     have HFAR3:Hid (∀ k,k≠bB→U3.heap[k]? = U2.heap[k]?):=fun k hk=>by rw[←hU3];exact put6_far hk
     have HB3':Hid (U3.heap[bB]? = some (Oc.obj S ba bc bra brc boa boc)):=by show _=_;rw[←hU3];exact put6_at HZB2.out
     have HA3':Hid (U3.heap[bA]? = some (Oc.obj R aa ac ara arc aoa aoc)):=(HFAR3.out bA HNE.out).trans HA2'.out
     have HBU3:Hid (Below E0.heap.size E0 U3):=by show Below _ _ _;rw[←hU3];exact put6_below HBU2.out HGB.out
     have HSA3:=ξ (OcIn.stored HZB2.out HFAR3.out HSA2.out.1 HSA2.out.2)
     have HSB3:=ξ (OcIn.stored HZB2.out HFAR3.out HSB2.out.1 HSB2.out.2)
     unfold put6 at hU2 hU3
     refine hR 28 rfl (fun K hK=>?_)
     go_simp
     try rw[hU2]
     refine hK.out _ _ (HBU2.out) (fun hHeld=>?_)
     clear hK K
     rename_i hOld
     clear hOld
     (try simp only[Act.put,pZ])
     refine hR 29 rfl (fun K hK=>?_)
     go_simp
     try rw[hU3]
     refine hK.out _ _ (HBU3.out) (fun hHeld=>?_)
     clear hK K
     rename_i hOld
     clear hOld
     (try simp only[Act.put,pZ])
     clear hHeld y0 y1 y2 y3 y4 y5 f0 f1 f2 f3 f4 f5 p0 p1 p2 p3 p4 p5 g0 g1 g2 g3 g4 g5 hU2 hU3
     refine wpAnyH_done (by kernel_rfl) ?_ _
     go_wp2_with fail
     go_meet
     exact⟨bA,bB,aa,ac,ara,arc,aoa,aoc,ba,bc,bra,brc,boa,boc,rfl,rfl,HA3'.out,HB3'.out,HSA3.out.1,HSB3.out.1,HBU3.out⟩
    ·go_simp
     refine hK.out _ _ (mem_then HB_7.out (mem_alloc _ _)) (fun hHeld=>?_)
     clear hK K
     rename_i hOld
     clear hOld
     (try simp only[Act.put,pZ])
     have hz_10:(U_7.alloc zOc).heap[U_7.heap.size]? = some zOc:=mem_new _ _
     have hzB_10:=mem_alloc U_7 zOc
     generalize hQ_10:U_7.alloc zOc=U_10 at hz_10 hzB_10 hHeld⊢
     clear hQ_10
     have HB_10:=ξ (mem_then HB_7.out hzB_10)
     have hlo_10:=mem_lt HZA7.out
     have HNE:Hid (w_1.heap.size≠U_7.heap.size):=fun e=>by omega
     clear hlo_10
     have HGB:Hid (E0.heap.size≤U_7.heap.size):=HB_7.out.size
     have HZA10:=ξ (mem_keep HZA7.out hzB_10)
     have HS4_10:=ξ (And.intro (OcIn.below HS4_7.out.1 hzB_10) (OcTy.below HS4_7.out.2 hzB_10))
     have HZB10:=ξ hz_10
     clear hz_10 hzB_10
     refine hR 25 rfl (fun K hK=>?_)
     go_simp
     refine (J2.out U_10 HB_10.out).mono ?_
     rintro e w_11 ⟨ba,bc,bra,brc,boa,boc,rfl,hra,hB_11,_,hty⟩
     have HB_11:=ξ (mem_then HB_10.out hB_11)
     have HZA11:=ξ (mem_keep HZA10.out hB_11)
     have HZB11:=ξ (mem_keep HZB10.out hB_11)
     have HS4_11:=ξ (And.intro (OcIn.below HS4_10.out.1 hB_11) (OcTy.below HS4_10.out.2 hB_11))
     have HS9_11:=ξ (And.intro hra hty)
     clear hra hty hB_11
     refine hK.out _ _ (HB_11.out) (fun hHeld=>?_)
     clear hK K
     rename_i hOld
     clear hOld
     (try simp only[Act.put,pZ])
     obtain⟨bA,hbA⟩:∃ b,w_1.heap.size=b:=⟨_,rfl⟩
     obtain⟨bB,hbB⟩:∃ b,U_7.heap.size=b:=⟨_,rfl⟩
     have HZA:=HZA11
     have HZB:=HZB11
     have HSA:=HS4_11
     have HSB:=HS9_11
     have HBE:=HB_11
     rw[hbA] at HZA HNE HGA
     rw[hbB] at HZB HNE HGB
     try rw[hbA]
     try rw[hbB]
     clear hbA hbB
     obtain⟨EW,hEW⟩:∃ E:World,w_11=E:=⟨_,rfl⟩
     rw[hEW] at HZA HZB HSA HSB HBE hHeld⊢
     clear hEW
     obtain⟨y0,y1,y2,y3,y4,y5⟩:=oc_cells HZA.out
     have f0:=mem_free HZA.out 0
     have f1:=mem_free HZA.out 1
     have f2:=mem_free HZA.out 2
     have f3:=mem_free HZA.out 3
     have f4:=mem_free HZA.out 4
     have f5:=mem_free HZA.out 5
     obtain⟨U2,hU2⟩:∃ U2:World,put6 EW bA (.slice aa R.arrays.length ac) (.slice ara R.objects.length arc) (.slice aoa R.out.length aoc) (.int .i64 (R.read:Int)) (.int .i64 (R.steps:Int)) (.int .i64 R.err)=U2:=⟨_,rfl⟩
     have HFAR2:Hid (∀ k,k≠bA→U2.heap[k]? = EW.heap[k]?):=fun k hk=>by rw[←hU2];exact put6_far hk
     have HA2':Hid (U2.heap[bA]? = some (Oc.obj R aa ac ara arc aoa aoc)):=by show _=_;rw[←hU2];exact put6_at HZA.out
     have HZB2:Hid (U2.heap[bB]? = some zOc):=(HFAR2.out bB (fun e=>HNE.out e.symm)).trans HZB.out
     have HBU2:Hid (Below E0.heap.size E0 U2):=by show Below _ _ _;rw[←hU2];exact put6_below HBE.out HGA.out
     have HSA2:=ξ (OcIn.stored HZA.out HFAR2.out HSA.out.1 HSA.out.2)
     have HSB2:=ξ (OcIn.stored HZA.out HFAR2.out HSB.out.1 HSB.out.2)
     obtain⟨p0,p1,p2,p3,p4,p5⟩:=oc_cells HZB2.out
     have g0:=mem_free HZB2.out 0
     have g1:=mem_free HZB2.out 1
     have g2:=mem_free HZB2.out 2
     have g3:=mem_free HZB2.out 3
     have g4:=mem_free HZB2.out 4
     have g5:=mem_free HZB2.out 5
     obtain⟨U3,hU3⟩:∃ U3:World,put6 U2 bB (.slice ba S.arrays.length bc) (.slice bra S.objects.length brc) (.slice boa S.out.length boc) (.int .i64 (S.read:Int)) (.int .i64 (S.steps:Int)) (.int .i64 S.err)=U3:=⟨_,rfl⟩
     have HFAR3:Hid (∀ k,k≠bB→U3.heap[k]? = U2.heap[k]?):=fun k hk=>by rw[←hU3];exact put6_far hk
     have HB3':Hid (U3.heap[bB]? = some (Oc.obj S ba bc bra brc boa boc)):=by show _=_;rw[←hU3];exact put6_at HZB2.out
     have HA3':Hid (U3.heap[bA]? = some (Oc.obj R aa ac ara arc aoa aoc)):=(HFAR3.out bA HNE.out).trans HA2'.out
     have HBU3:Hid (Below E0.heap.size E0 U3):=by show Below _ _ _;rw[←hU3];exact put6_below HBU2.out HGB.out
     have HSA3:=ξ (OcIn.stored HZB2.out HFAR3.out HSA2.out.1 HSA2.out.2)
     have HSB3:=ξ (OcIn.stored HZB2.out HFAR3.out HSB2.out.1 HSB2.out.2)
     unfold put6 at hU2 hU3
     refine hR 28 rfl (fun K hK=>?_)
     go_simp
     try rw[hU2]
     refine hK.out _ _ (HBU2.out) (fun hHeld=>?_)
     clear hK K
     rename_i hOld
     clear hOld
     (try simp only[Act.put,pZ])
     refine hR 29 rfl (fun K hK=>?_)
     go_simp
     try rw[hU3]
     refine hK.out _ _ (HBU3.out) (fun hHeld=>?_)
     clear hK K
     rename_i hOld
     clear hOld
     (try simp only[Act.put,pZ])
     clear hHeld y0 y1 y2 y3 y4 y5 f0 f1 f2 f3 f4 f5 p0 p1 p2 p3 p4 p5 g0 g1 g2 g3 g4 g5 hU2 hU3
     refine wpAnyH_done (by kernel_rfl) ?_ _
     go_wp2_with fail
     go_meet
     exact⟨bA,bB,aa,ac,ara,arc,aoa,aoc,ba,bc,bra,brc,boa,boc,rfl,rfl,HA3'.out,HB3'.out,HSA3.out.1,HSB3.out.1,HBU3.out⟩
   ·go_simp
    refine hK.out _ _ (mem_then HB_1.out (mem_alloc _ _)) (fun hHeld=>?_)
    clear hK K
    rename_i hOld
    clear hOld
    (try simp only[Act.put,pZ])
    have hz_12:(w_1.alloc zOc).heap[w_1.heap.size]? = some zOc:=mem_new _ _
    have hzB_12:=mem_alloc w_1 zOc
    generalize hQ_12:w_1.alloc zOc=U_12 at hz_12 hzB_12 hHeld⊢
    clear hQ_12
    have HB_12:=ξ (mem_then HB_1.out hzB_12)
    have HGB:Hid (E0.heap.size≤w_1.heap.size):=HB_1.out.size
    have HS4_12:=ξ (And.intro (OcIn.below HS4_1.out.1 hzB_12) (OcTy.below HS4_1.out.2 hzB_12))
    have HZB12:=ξ hz_12
    clear hz_12 hzB_12
    refine wpAnyH_ready (rs:=[25,26]) (by kernel_rfl) (by simp) (AllReadyH.cons rfl (fun K hK=>?_) (AllReadyH.cons rfl (fun K hK=>?_) AllReadyH.nil))
    ·go_simp
     refine (J2.out U_12 HB_12.out).mono ?_
     rintro e w_13 ⟨ba,bc,bra,brc,boa,boc,rfl,hra,hB_13,_,hty⟩
     have HB_13:=ξ (mem_then HB_12.out hB_13)
     have HZB13:=ξ (mem_keep HZB12.out hB_13)
     have HS4_13:=ξ (And.intro (OcIn.below HS4_12.out.1 hB_13) (OcTy.below HS4_12.out.2 hB_13))
     have HS9_13:=ξ (And.intro hra hty)
     clear hra hty hB_13
     refine hK.out _ _ (HB_13.out) (fun hHeld=>?_)
     clear hK K
     rename_i hOld
     clear hOld
     (try simp only[Act.put,pZ])
     refine hR 26 rfl (fun K hK=>?_)
     go_simp
     refine hK.out _ _ (mem_then HB_13.out (mem_alloc _ _)) (fun hHeld=>?_)
     clear hK K
     rename_i hOld
     clear hOld
     (try simp only[Act.put,pZ])
     have hz_14:(w_13.alloc zOc).heap[w_13.heap.size]? = some zOc:=mem_new _ _
     have hzB_14:=mem_alloc w_13 zOc
     generalize hQ_14:w_13.alloc zOc=U_14 at hz_14 hzB_14 hHeld⊢
     clear hQ_14
     have HB_14:=ξ (mem_then HB_13.out hzB_14)
     have hlo_14:=mem_lt HZB13.out
     have HNE:Hid (w_13.heap.size≠w_1.heap.size):=fun e=>by omega
     clear hlo_14
     have HGA:Hid (E0.heap.size≤w_13.heap.size):=HB_13.out.size
     have HZB14:=ξ (mem_keep HZB13.out hzB_14)
     have HS4_14:=ξ (And.intro (OcIn.below HS4_13.out.1 hzB_14) (OcTy.below HS4_13.out.2 hzB_14))
     have HS9_14:=ξ (And.intro (OcIn.below HS9_13.out.1 hzB_14) (OcTy.below HS9_13.out.2 hzB_14))
     have HZA14:=ξ hz_14
     clear hz_14 hzB_14
     obtain⟨bA,hbA⟩:∃ b,w_13.heap.size=b:=⟨_,rfl⟩
     obtain⟨bB,hbB⟩:∃ b,w_1.heap.size=b:=⟨_,rfl⟩
     have HZA:=HZA14
     have HZB:=HZB14
     have HSA:=HS4_14
     have HSB:=HS9_14
     have HBE:=HB_14
     rw[hbA] at HZA HNE HGA
     rw[hbB] at HZB HNE HGB
     try rw[hbA]
     try rw[hbB]
     clear hbA hbB
     obtain⟨EW,hEW⟩:∃ E:World,U_14=E:=⟨_,rfl⟩
     rw[hEW] at HZA HZB HSA HSB HBE hHeld⊢
     clear hEW
     obtain⟨y0,y1,y2,y3,y4,y5⟩:=oc_cells HZA.out
     have f0:=mem_free HZA.out 0
     have f1:=mem_free HZA.out 1
     have f2:=mem_free HZA.out 2
     have f3:=mem_free HZA.out 3
     have f4:=mem_free HZA.out 4
     have f5:=mem_free HZA.out 5
     obtain⟨U2,hU2⟩:∃ U2:World,put6 EW bA (.slice aa R.arrays.length ac) (.slice ara R.objects.length arc) (.slice aoa R.out.length aoc) (.int .i64 (R.read:Int)) (.int .i64 (R.steps:Int)) (.int .i64 R.err)=U2:=⟨_,rfl⟩
     have HFAR2:Hid (∀ k,k≠bA→U2.heap[k]? = EW.heap[k]?):=fun k hk=>by rw[←hU2];exact put6_far hk
     have HA2':Hid (U2.heap[bA]? = some (Oc.obj R aa ac ara arc aoa aoc)):=by show _=_;rw[←hU2];exact put6_at HZA.out
     have HZB2:Hid (U2.heap[bB]? = some zOc):=(HFAR2.out bB (fun e=>HNE.out e.symm)).trans HZB.out
     have HBU2:Hid (Below E0.heap.size E0 U2):=by show Below _ _ _;rw[←hU2];exact put6_below HBE.out HGA.out
     have HSA2:=ξ (OcIn.stored HZA.out HFAR2.out HSA.out.1 HSA.out.2)
     have HSB2:=ξ (OcIn.stored HZA.out HFAR2.out HSB.out.1 HSB.out.2)
     obtain⟨p0,p1,p2,p3,p4,p5⟩:=oc_cells HZB2.out
     have g0:=mem_free HZB2.out 0
     have g1:=mem_free HZB2.out 1
     have g2:=mem_free HZB2.out 2
     have g3:=mem_free HZB2.out 3
     have g4:=mem_free HZB2.out 4
     have g5:=mem_free HZB2.out 5
     obtain⟨U3,hU3⟩:∃ U3:World,put6 U2 bB (.slice ba S.arrays.length bc) (.slice bra S.objects.length brc) (.slice boa S.out.length boc) (.int .i64 (S.read:Int)) (.int .i64 (S.steps:Int)) (.int .i64 S.err)=U3:=⟨_,rfl⟩
     have HFAR3:Hid (∀ k,k≠bB→U3.heap[k]? = U2.heap[k]?):=fun k hk=>by rw[←hU3];exact put6_far hk
     have HB3':Hid (U3.heap[bB]? = some (Oc.obj S ba bc bra brc boa boc)):=by show _=_;rw[←hU3];exact put6_at HZB2.out
     have HA3':Hid (U3.heap[bA]? = some (Oc.obj R aa ac ara arc aoa aoc)):=(HFAR3.out bA HNE.out).trans HA2'.out
     have HBU3:Hid (Below E0.heap.size E0 U3):=by show Below _ _ _;rw[←hU3];exact put6_below HBU2.out HGB.out
     have HSA3:=ξ (OcIn.stored HZB2.out HFAR3.out HSA2.out.1 HSA2.out.2)
     have HSB3:=ξ (OcIn.stored HZB2.out HFAR3.out HSB2.out.1 HSB2.out.2)
     unfold put6 at hU2 hU3
     refine hR 28 rfl (fun K hK=>?_)
     go_simp
     try rw[hU2]
     refine hK.out _ _ (HBU2.out) (fun hHeld=>?_)
     clear hK K
     rename_i hOld
     clear hOld
     (try simp only[Act.put,pZ])
     refine hR 29 rfl (fun K hK=>?_)
     go_simp
     try rw[hU3]
     refine hK.out _ _ (HBU3.out) (fun hHeld=>?_)
     clear hK K
     rename_i hOld
     clear hOld
     (try simp only[Act.put,pZ])
     clear hHeld y0 y1 y2 y3 y4 y5 f0 f1 f2 f3 f4 f5 p0 p1 p2 p3 p4 p5 g0 g1 g2 g3 g4 g5 hU2 hU3
     refine wpAnyH_done (by kernel_rfl) ?_ _
     go_wp2_with fail
     go_meet
     exact⟨bA,bB,aa,ac,ara,arc,aoa,aoc,ba,bc,bra,brc,boa,boc,rfl,rfl,HA3'.out,HB3'.out,HSA3.out.1,HSB3.out.1,HBU3.out⟩
    ·go_simp
     refine hK.out _ _ (mem_then HB_12.out (mem_alloc _ _)) (fun hHeld=>?_)
     clear hK K
     rename_i hOld
     clear hOld
     (try simp only[Act.put,pZ])
     have hz_15:(U_12.alloc zOc).heap[U_12.heap.size]? = some zOc:=mem_new _ _
     have hzB_15:=mem_alloc U_12 zOc
     generalize hQ_15:U_12.alloc zOc=U_15 at hz_15 hzB_15 hHeld⊢
     clear hQ_15
     have HB_15:=ξ (mem_then HB_12.out hzB_15)
     have hlo_15:=mem_lt HZB12.out
     have HNE:Hid (U_12.heap.size≠w_1.heap.size):=fun e=>by omega
     clear hlo_15
     have HGA:Hid (E0.heap.size≤U_12.heap.size):=HB_12.out.size
     have HZB15:=ξ (mem_keep HZB12.out hzB_15)
     have HS4_15:=ξ (And.intro (OcIn.below HS4_12.out.1 hzB_15) (OcTy.below HS4_12.out.2 hzB_15))
     have HZA15:=ξ hz_15
     clear hz_15 hzB_15
     refine hR 25 rfl (fun K hK=>?_)
     go_simp
     refine (J2.out U_15 HB_15.out).mono ?_
     rintro e w_16 ⟨ba,bc,bra,brc,boa,boc,rfl,hra,hB_16,_,hty⟩
     have HB_16:=ξ (mem_then HB_15.out hB_16)
     have HZA16:=ξ (mem_keep HZA15.out hB_16)
     have HZB16:=ξ (mem_keep HZB15.out hB_16)
     have HS4_16:=ξ (And.intro (OcIn.below HS4_15.out.1 hB_16) (OcTy.below HS4_15.out.2 hB_16))
     have HS9_16:=ξ (And.intro hra hty)
     clear hra hty hB_16
     refine hK.out _ _ (HB_16.out) (fun hHeld=>?_)
     clear hK K
     rename_i hOld
     clear hOld
     (try simp only[Act.put,pZ])
     obtain⟨bA,hbA⟩:∃ b,U_12.heap.size=b:=⟨_,rfl⟩
     obtain⟨bB,hbB⟩:∃ b,w_1.heap.size=b:=⟨_,rfl⟩
     have HZA:=HZA16
     have HZB:=HZB16
     have HSA:=HS4_16
     have HSB:=HS9_16
     have HBE:=HB_16
     rw[hbA] at HZA HNE HGA
     rw[hbB] at HZB HNE HGB
     try rw[hbA]
     try rw[hbB]
     clear hbA hbB
     obtain⟨EW,hEW⟩:∃ E:World,w_16=E:=⟨_,rfl⟩
     rw[hEW] at HZA HZB HSA HSB HBE hHeld⊢
     clear hEW
     obtain⟨y0,y1,y2,y3,y4,y5⟩:=oc_cells HZA.out
     have f0:=mem_free HZA.out 0
     have f1:=mem_free HZA.out 1
     have f2:=mem_free HZA.out 2
     have f3:=mem_free HZA.out 3
     have f4:=mem_free HZA.out 4
     have f5:=mem_free HZA.out 5
     obtain⟨U2,hU2⟩:∃ U2:World,put6 EW bA (.slice aa R.arrays.length ac) (.slice ara R.objects.length arc) (.slice aoa R.out.length aoc) (.int .i64 (R.read:Int)) (.int .i64 (R.steps:Int)) (.int .i64 R.err)=U2:=⟨_,rfl⟩
     have HFAR2:Hid (∀ k,k≠bA→U2.heap[k]? = EW.heap[k]?):=fun k hk=>by rw[←hU2];exact put6_far hk
     have HA2':Hid (U2.heap[bA]? = some (Oc.obj R aa ac ara arc aoa aoc)):=by show _=_;rw[←hU2];exact put6_at HZA.out
     have HZB2:Hid (U2.heap[bB]? = some zOc):=(HFAR2.out bB (fun e=>HNE.out e.symm)).trans HZB.out
     have HBU2:Hid (Below E0.heap.size E0 U2):=by show Below _ _ _;rw[←hU2];exact put6_below HBE.out HGA.out
     have HSA2:=ξ (OcIn.stored HZA.out HFAR2.out HSA.out.1 HSA.out.2)
     have HSB2:=ξ (OcIn.stored HZA.out HFAR2.out HSB.out.1 HSB.out.2)
     obtain⟨p0,p1,p2,p3,p4,p5⟩:=oc_cells HZB2.out
     have g0:=mem_free HZB2.out 0
     have g1:=mem_free HZB2.out 1
     have g2:=mem_free HZB2.out 2
     have g3:=mem_free HZB2.out 3
     have g4:=mem_free HZB2.out 4
     have g5:=mem_free HZB2.out 5
     obtain⟨U3,hU3⟩:∃ U3:World,put6 U2 bB (.slice ba S.arrays.length bc) (.slice bra S.objects.length brc) (.slice boa S.out.length boc) (.int .i64 (S.read:Int)) (.int .i64 (S.steps:Int)) (.int .i64 S.err)=U3:=⟨_,rfl⟩
     have HFAR3:Hid (∀ k,k≠bB→U3.heap[k]? = U2.heap[k]?):=fun k hk=>by rw[←hU3];exact put6_far hk
     have HB3':Hid (U3.heap[bB]? = some (Oc.obj S ba bc bra brc boa boc)):=by show _=_;rw[←hU3];exact put6_at HZB2.out
     have HA3':Hid (U3.heap[bA]? = some (Oc.obj R aa ac ara arc aoa aoc)):=(HFAR3.out bA HNE.out).trans HA2'.out
     have HBU3:Hid (Below E0.heap.size E0 U3):=by show Below _ _ _;rw[←hU3];exact put6_below HBU2.out HGB.out
     have HSA3:=ξ (OcIn.stored HZB2.out HFAR3.out HSA2.out.1 HSA2.out.2)
     have HSB3:=ξ (OcIn.stored HZB2.out HFAR3.out HSB2.out.1 HSB2.out.2)
     unfold put6 at hU2 hU3
     refine hR 28 rfl (fun K hK=>?_)
     go_simp
     try rw[hU2]
     refine hK.out _ _ (HBU2.out) (fun hHeld=>?_)
     clear hK K
     rename_i hOld
     clear hOld
     (try simp only[Act.put,pZ])
     refine hR 29 rfl (fun K hK=>?_)
     go_simp
     try rw[hU3]
     refine hK.out _ _ (HBU3.out) (fun hHeld=>?_)
     clear hK K
     rename_i hOld
     clear hOld
     (try simp only[Act.put,pZ])
     clear hHeld y0 y1 y2 y3 y4 y5 f0 f1 f2 f3 f4 f5 p0 p1 p2 p3 p4 p5 g0 g1 g2 g3 g4 g5 hU2 hU3
     refine wpAnyH_done (by kernel_rfl) ?_ _
     go_wp2_with fail
     go_meet
     exact⟨bA,bB,aa,ac,ara,arc,aoa,aoc,ba,bc,bra,brc,boa,boc,rfl,rfl,HA3'.out,HB3'.out,HSA3.out.1,HSB3.out.1,HBU3.out⟩
  ·go_simp
   refine hK.out _ _ (mem_then HHV.out (mem_alloc _ _)) (fun hHeld=>?_)
   clear hK K
   rename_i hOld
   clear hOld
   (try simp only[Act.put,pZ])
   have hz_17:(v1.alloc zOc).heap[v1.heap.size]? = some zOc:=mem_new _ _
   have hzB_17:=mem_alloc v1 zOc
   generalize hQ_17:v1.alloc zOc=U_17 at hz_17 hzB_17 hHeld⊢
   clear hQ_17
   have HB_17:=ξ (mem_then HHV.out hzB_17)
   have HGA:Hid (E0.heap.size≤v1.heap.size):=HHV.out.size
   have HZA17:=ξ hz_17
   clear hz_17 hzB_17
   refine wpAnyH_ready (rs:=[12,27]) (by kernel_rfl) (by simp) (AllReadyH.cons rfl (fun K hK=>?_) (AllReadyH.cons rfl (fun K hK=>?_) AllReadyH.nil))
   ·go_simp
    refine (J1.out U_17 HB_17.out).mono ?_
    rintro e w_18 ⟨aa,ac,ara,arc,aoa,aoc,rfl,hra,hB_18,_,hty⟩
    have HB_18:=ξ (mem_then HB_17.out hB_18)
    have HZA18:=ξ (mem_keep HZA17.out hB_18)
    have HS4_18:=ξ (And.intro hra hty)
    clear hra hty hB_18
    refine hK.out _ _ (HB_18.out) (fun hHeld=>?_)
    clear hK K
    rename_i hOld
    clear hOld
    (try simp only[Act.put,pZ])
    refine wpAnyH_ready (rs:=[25,27]) (by kernel_rfl) (by simp) (AllReadyH.cons rfl (fun K hK=>?_) (AllReadyH.cons rfl (fun K hK=>?_) AllReadyH.nil))
    ·go_simp
     refine (J2.out w_18 HB_18.out).mono ?_
     rintro e w_19 ⟨ba,bc,bra,brc,boa,boc,rfl,hra,hB_19,_,hty⟩
     have HB_19:=ξ (mem_then HB_18.out hB_19)
     have HZA19:=ξ (mem_keep HZA18.out hB_19)
     have HS4_19:=ξ (And.intro (OcIn.below HS4_18.out.1 hB_19) (OcTy.below HS4_18.out.2 hB_19))
     have HS9_19:=ξ (And.intro hra hty)
     clear hra hty hB_19
     refine hK.out _ _ (HB_19.out) (fun hHeld=>?_)
     clear hK K
     rename_i hOld
     clear hOld
     (try simp only[Act.put,pZ])
     refine hR 27 rfl (fun K hK=>?_)
     go_simp
     refine hK.out _ _ (mem_then HB_19.out (mem_alloc _ _)) (fun hHeld=>?_)
     clear hK K
     rename_i hOld
     clear hOld
     (try simp only[Act.put,pZ])
     have hz_20:(w_19.alloc zOc).heap[w_19.heap.size]? = some zOc:=mem_new _ _
     have hzB_20:=mem_alloc w_19 zOc
     generalize hQ_20:w_19.alloc zOc=U_20 at hz_20 hzB_20 hHeld⊢
     clear hQ_20
     have HB_20:=ξ (mem_then HB_19.out hzB_20)
     have hlo_20:=mem_lt HZA19.out
     have HNE:Hid (v1.heap.size≠w_19.heap.size):=fun e=>by omega
     clear hlo_20
     have HGB:Hid (E0.heap.size≤w_19.heap.size):=HB_19.out.size
     have HZA20:=ξ (mem_keep HZA19.out hzB_20)
     have HS4_20:=ξ (And.intro (OcIn.below HS4_19.out.1 hzB_20) (OcTy.below HS4_19.out.2 hzB_20))
     have HS9_20:=ξ (And.intro (OcIn.below HS9_19.out.1 hzB_20) (OcTy.below HS9_19.out.2 hzB_20))
     have HZB20:=ξ hz_20
     clear hz_20 hzB_20
     obtain⟨bA,hbA⟩:∃ b,v1.heap.size=b:=⟨_,rfl⟩
     obtain⟨bB,hbB⟩:∃ b,w_19.heap.size=b:=⟨_,rfl⟩
     have HZA:=HZA20
     have HZB:=HZB20
     have HSA:=HS4_20
     have HSB:=HS9_20
     have HBE:=HB_20
     rw[hbA] at HZA HNE HGA
     rw[hbB] at HZB HNE HGB
     try rw[hbA]
     try rw[hbB]
     clear hbA hbB
     obtain⟨EW,hEW⟩:∃ E:World,U_20=E:=⟨_,rfl⟩
     rw[hEW] at HZA HZB HSA HSB HBE hHeld⊢
     clear hEW
     obtain⟨y0,y1,y2,y3,y4,y5⟩:=oc_cells HZA.out
     have f0:=mem_free HZA.out 0
     have f1:=mem_free HZA.out 1
     have f2:=mem_free HZA.out 2
     have f3:=mem_free HZA.out 3
     have f4:=mem_free HZA.out 4
     have f5:=mem_free HZA.out 5
     obtain⟨U2,hU2⟩:∃ U2:World,put6 EW bA (.slice aa R.arrays.length ac) (.slice ara R.objects.length arc) (.slice aoa R.out.length aoc) (.int .i64 (R.read:Int)) (.int .i64 (R.steps:Int)) (.int .i64 R.err)=U2:=⟨_,rfl⟩
     have HFAR2:Hid (∀ k,k≠bA→U2.heap[k]? = EW.heap[k]?):=fun k hk=>by rw[←hU2];exact put6_far hk
     have HA2':Hid (U2.heap[bA]? = some (Oc.obj R aa ac ara arc aoa aoc)):=by show _=_;rw[←hU2];exact put6_at HZA.out
     have HZB2:Hid (U2.heap[bB]? = some zOc):=(HFAR2.out bB (fun e=>HNE.out e.symm)).trans HZB.out
     have HBU2:Hid (Below E0.heap.size E0 U2):=by show Below _ _ _;rw[←hU2];exact put6_below HBE.out HGA.out
     have HSA2:=ξ (OcIn.stored HZA.out HFAR2.out HSA.out.1 HSA.out.2)
     have HSB2:=ξ (OcIn.stored HZA.out HFAR2.out HSB.out.1 HSB.out.2)
     obtain⟨p0,p1,p2,p3,p4,p5⟩:=oc_cells HZB2.out
     have g0:=mem_free HZB2.out 0
     have g1:=mem_free HZB2.out 1
     have g2:=mem_free HZB2.out 2
     have g3:=mem_free HZB2.out 3
     have g4:=mem_free HZB2.out 4
     have g5:=mem_free HZB2.out 5
     obtain⟨U3,hU3⟩:∃ U3:World,put6 U2 bB (.slice ba S.arrays.length bc) (.slice bra S.objects.length brc) (.slice boa S.out.length boc) (.int .i64 (S.read:Int)) (.int .i64 (S.steps:Int)) (.int .i64 S.err)=U3:=⟨_,rfl⟩
     have HFAR3:Hid (∀ k,k≠bB→U3.heap[k]? = U2.heap[k]?):=fun k hk=>by rw[←hU3];exact put6_far hk
     have HB3':Hid (U3.heap[bB]? = some (Oc.obj S ba bc bra brc boa boc)):=by show _=_;rw[←hU3];exact put6_at HZB2.out
     have HA3':Hid (U3.heap[bA]? = some (Oc.obj R aa ac ara arc aoa aoc)):=(HFAR3.out bA HNE.out).trans HA2'.out
     have HBU3:Hid (Below E0.heap.size E0 U3):=by show Below _ _ _;rw[←hU3];exact put6_below HBU2.out HGB.out
     have HSA3:=ξ (OcIn.stored HZB2.out HFAR3.out HSA2.out.1 HSA2.out.2)
     have HSB3:=ξ (OcIn.stored HZB2.out HFAR3.out HSB2.out.1 HSB2.out.2)
     unfold put6 at hU2 hU3
     refine hR 28 rfl (fun K hK=>?_)
     go_simp
     try rw[hU2]
     refine hK.out _ _ (HBU2.out) (fun hHeld=>?_)
     clear hK K
     rename_i hOld
     clear hOld
     (try simp only[Act.put,pZ])
     refine hR 29 rfl (fun K hK=>?_)
     go_simp
     try rw[hU3]
     refine hK.out _ _ (HBU3.out) (fun hHeld=>?_)
     clear hK K
     rename_i hOld
     clear hOld
     (try simp only[Act.put,pZ])
     clear hHeld y0 y1 y2 y3 y4 y5 f0 f1 f2 f3 f4 f5 p0 p1 p2 p3 p4 p5 g0 g1 g2 g3 g4 g5 hU2 hU3
     refine wpAnyH_done (by kernel_rfl) ?_ _
     go_wp2_with fail
     go_meet
     exact⟨bA,bB,aa,ac,ara,arc,aoa,aoc,ba,bc,bra,brc,boa,boc,rfl,rfl,HA3'.out,HB3'.out,HSA3.out.1,HSB3.out.1,HBU3.out⟩
    ·go_simp
     refine hK.out _ _ (mem_then HB_18.out (mem_alloc _ _)) (fun hHeld=>?_)
     clear hK K
     rename_i hOld
     clear hOld
     (try simp only[Act.put,pZ])
     have hz_21:(w_18.alloc zOc).heap[w_18.heap.size]? = some zOc:=mem_new _ _
     have hzB_21:=mem_alloc w_18 zOc
     generalize hQ_21:w_18.alloc zOc=U_21 at hz_21 hzB_21 hHeld⊢
     clear hQ_21
     have HB_21:=ξ (mem_then HB_18.out hzB_21)
     have hlo_21:=mem_lt HZA18.out
     have HNE:Hid (v1.heap.size≠w_18.heap.size):=fun e=>by omega
     clear hlo_21
     have HGB:Hid (E0.heap.size≤w_18.heap.size):=HB_18.out.size
     have HZA21:=ξ (mem_keep HZA18.out hzB_21)
     have HS4_21:=ξ (And.intro (OcIn.below HS4_18.out.1 hzB_21) (OcTy.below HS4_18.out.2 hzB_21))
     have HZB21:=ξ hz_21
     clear hz_21 hzB_21
     refine hR 25 rfl (fun K hK=>?_)
     go_simp
     refine (J2.out U_21 HB_21.out).mono ?_
     rintro e w_22 ⟨ba,bc,bra,brc,boa,boc,rfl,hra,hB_22,_,hty⟩
     have HB_22:=ξ (mem_then HB_21.out hB_22)
     have HZA22:=ξ (mem_keep HZA21.out hB_22)
     have HZB22:=ξ (mem_keep HZB21.out hB_22)
     have HS4_22:=ξ (And.intro (OcIn.below HS4_21.out.1 hB_22) (OcTy.below HS4_21.out.2 hB_22))
     have HS9_22:=ξ (And.intro hra hty)
     clear hra hty hB_22
     refine hK.out _ _ (HB_22.out) (fun hHeld=>?_)
     clear hK K
     rename_i hOld
     clear hOld
     (try simp only[Act.put,pZ])
     obtain⟨bA,hbA⟩:∃ b,v1.heap.size=b:=⟨_,rfl⟩
     obtain⟨bB,hbB⟩:∃ b,w_18.heap.size=b:=⟨_,rfl⟩
     have HZA:=HZA22
     have HZB:=HZB22
     have HSA:=HS4_22
     have HSB:=HS9_22
     have HBE:=HB_22
     rw[hbA] at HZA HNE HGA
     rw[hbB] at HZB HNE HGB
     try rw[hbA]
     try rw[hbB]
     clear hbA hbB
     obtain⟨EW,hEW⟩:∃ E:World,w_22=E:=⟨_,rfl⟩
     rw[hEW] at HZA HZB HSA HSB HBE hHeld⊢
     clear hEW
     obtain⟨y0,y1,y2,y3,y4,y5⟩:=oc_cells HZA.out
     have f0:=mem_free HZA.out 0
     have f1:=mem_free HZA.out 1
     have f2:=mem_free HZA.out 2
     have f3:=mem_free HZA.out 3
     have f4:=mem_free HZA.out 4
     have f5:=mem_free HZA.out 5
     obtain⟨U2,hU2⟩:∃ U2:World,put6 EW bA (.slice aa R.arrays.length ac) (.slice ara R.objects.length arc) (.slice aoa R.out.length aoc) (.int .i64 (R.read:Int)) (.int .i64 (R.steps:Int)) (.int .i64 R.err)=U2:=⟨_,rfl⟩
     have HFAR2:Hid (∀ k,k≠bA→U2.heap[k]? = EW.heap[k]?):=fun k hk=>by rw[←hU2];exact put6_far hk
     have HA2':Hid (U2.heap[bA]? = some (Oc.obj R aa ac ara arc aoa aoc)):=by show _=_;rw[←hU2];exact put6_at HZA.out
     have HZB2:Hid (U2.heap[bB]? = some zOc):=(HFAR2.out bB (fun e=>HNE.out e.symm)).trans HZB.out
     have HBU2:Hid (Below E0.heap.size E0 U2):=by show Below _ _ _;rw[←hU2];exact put6_below HBE.out HGA.out
     have HSA2:=ξ (OcIn.stored HZA.out HFAR2.out HSA.out.1 HSA.out.2)
     have HSB2:=ξ (OcIn.stored HZA.out HFAR2.out HSB.out.1 HSB.out.2)
     obtain⟨p0,p1,p2,p3,p4,p5⟩:=oc_cells HZB2.out
     have g0:=mem_free HZB2.out 0
     have g1:=mem_free HZB2.out 1
     have g2:=mem_free HZB2.out 2
     have g3:=mem_free HZB2.out 3
     have g4:=mem_free HZB2.out 4
     have g5:=mem_free HZB2.out 5
     obtain⟨U3,hU3⟩:∃ U3:World,put6 U2 bB (.slice ba S.arrays.length bc) (.slice bra S.objects.length brc) (.slice boa S.out.length boc) (.int .i64 (S.read:Int)) (.int .i64 (S.steps:Int)) (.int .i64 S.err)=U3:=⟨_,rfl⟩
     have HFAR3:Hid (∀ k,k≠bB→U3.heap[k]? = U2.heap[k]?):=fun k hk=>by rw[←hU3];exact put6_far hk
     have HB3':Hid (U3.heap[bB]? = some (Oc.obj S ba bc bra brc boa boc)):=by show _=_;rw[←hU3];exact put6_at HZB2.out
     have HA3':Hid (U3.heap[bA]? = some (Oc.obj R aa ac ara arc aoa aoc)):=(HFAR3.out bA HNE.out).trans HA2'.out
     have HBU3:Hid (Below E0.heap.size E0 U3):=by show Below _ _ _;rw[←hU3];exact put6_below HBU2.out HGB.out
     have HSA3:=ξ (OcIn.stored HZB2.out HFAR3.out HSA2.out.1 HSA2.out.2)
     have HSB3:=ξ (OcIn.stored HZB2.out HFAR3.out HSB2.out.1 HSB2.out.2)
     unfold put6 at hU2 hU3
     refine hR 28 rfl (fun K hK=>?_)
     go_simp
     try rw[hU2]
     refine hK.out _ _ (HBU2.out) (fun hHeld=>?_)
     clear hK K
     rename_i hOld
     clear hOld
     (try simp only[Act.put,pZ])
     refine hR 29 rfl (fun K hK=>?_)
     go_simp
     try rw[hU3]
     refine hK.out _ _ (HBU3.out) (fun hHeld=>?_)
     clear hK K
     rename_i hOld
     clear hOld
     (try simp only[Act.put,pZ])
     clear hHeld y0 y1 y2 y3 y4 y5 f0 f1 f2 f3 f4 f5 p0 p1 p2 p3 p4 p5 g0 g1 g2 g3 g4 g5 hU2 hU3
     refine wpAnyH_done (by kernel_rfl) ?_ _
     go_wp2_with fail
     go_meet
     exact⟨bA,bB,aa,ac,ara,arc,aoa,aoc,ba,bc,bra,brc,boa,boc,rfl,rfl,HA3'.out,HB3'.out,HSA3.out.1,HSB3.out.1,HBU3.out⟩
   ·go_simp
    refine hK.out _ _ (mem_then HB_17.out (mem_alloc _ _)) (fun hHeld=>?_)
    clear hK K
    rename_i hOld
    clear hOld
    (try simp only[Act.put,pZ])
    have hz_23:(U_17.alloc zOc).heap[U_17.heap.size]? = some zOc:=mem_new _ _
    have hzB_23:=mem_alloc U_17 zOc
    generalize hQ_23:U_17.alloc zOc=U_23 at hz_23 hzB_23 hHeld⊢
    clear hQ_23
    have HB_23:=ξ (mem_then HB_17.out hzB_23)
    have hlo_23:=mem_lt HZA17.out
    have HNE:Hid (v1.heap.size≠U_17.heap.size):=fun e=>by omega
    clear hlo_23
    have HGB:Hid (E0.heap.size≤U_17.heap.size):=HB_17.out.size
    have HZA23:=ξ (mem_keep HZA17.out hzB_23)
    have HZB23:=ξ hz_23
    clear hz_23 hzB_23
    refine hR 12 rfl (fun K hK=>?_)
    go_simp
    refine (J1.out U_23 HB_23.out).mono ?_
    rintro e w_24 ⟨aa,ac,ara,arc,aoa,aoc,rfl,hra,hB_24,_,hty⟩
    have HB_24:=ξ (mem_then HB_23.out hB_24)
    have HZA24:=ξ (mem_keep HZA23.out hB_24)
    have HZB24:=ξ (mem_keep HZB23.out hB_24)
    have HS4_24:=ξ (And.intro hra hty)
    clear hra hty hB_24
    refine hK.out _ _ (HB_24.out) (fun hHeld=>?_)
    clear hK K
    rename_i hOld
    clear hOld
    (try simp only[Act.put,pZ])
    refine hR 25 rfl (fun K hK=>?_)
    go_simp
    refine (J2.out w_24 HB_24.out).mono ?_
    rintro e w_25 ⟨ba,bc,bra,brc,boa,boc,rfl,hra,hB_25,_,hty⟩
    have HB_25:=ξ (mem_then HB_24.out hB_25)
    have HZA25:=ξ (mem_keep HZA24.out hB_25)
    have HZB25:=ξ (mem_keep HZB24.out hB_25)
    have HS4_25:=ξ (And.intro (OcIn.below HS4_24.out.1 hB_25) (OcTy.below HS4_24.out.2 hB_25))
    have HS9_25:=ξ (And.intro hra hty)
    clear hra hty hB_25
    refine hK.out _ _ (HB_25.out) (fun hHeld=>?_)
    clear hK K
    rename_i hOld
    clear hOld
    (try simp only[Act.put,pZ])
    obtain⟨bA,hbA⟩:∃ b,v1.heap.size=b:=⟨_,rfl⟩
    obtain⟨bB,hbB⟩:∃ b,U_17.heap.size=b:=⟨_,rfl⟩
    have HZA:=HZA25
    have HZB:=HZB25
    have HSA:=HS4_25
    have HSB:=HS9_25
    have HBE:=HB_25
    rw[hbA] at HZA HNE HGA
    rw[hbB] at HZB HNE HGB
    try rw[hbA]
    try rw[hbB]
    clear hbA hbB
    obtain⟨EW,hEW⟩:∃ E:World,w_25=E:=⟨_,rfl⟩
    rw[hEW] at HZA HZB HSA HSB HBE hHeld⊢
    clear hEW
    obtain⟨y0,y1,y2,y3,y4,y5⟩:=oc_cells HZA.out
    have f0:=mem_free HZA.out 0
    have f1:=mem_free HZA.out 1
    have f2:=mem_free HZA.out 2
    have f3:=mem_free HZA.out 3
    have f4:=mem_free HZA.out 4
    have f5:=mem_free HZA.out 5
    obtain⟨U2,hU2⟩:∃ U2:World,put6 EW bA (.slice aa R.arrays.length ac) (.slice ara R.objects.length arc) (.slice aoa R.out.length aoc) (.int .i64 (R.read:Int)) (.int .i64 (R.steps:Int)) (.int .i64 R.err)=U2:=⟨_,rfl⟩
    have HFAR2:Hid (∀ k,k≠bA→U2.heap[k]? = EW.heap[k]?):=fun k hk=>by rw[←hU2];exact put6_far hk
    have HA2':Hid (U2.heap[bA]? = some (Oc.obj R aa ac ara arc aoa aoc)):=by show _=_;rw[←hU2];exact put6_at HZA.out
    have HZB2:Hid (U2.heap[bB]? = some zOc):=(HFAR2.out bB (fun e=>HNE.out e.symm)).trans HZB.out
    have HBU2:Hid (Below E0.heap.size E0 U2):=by show Below _ _ _;rw[←hU2];exact put6_below HBE.out HGA.out
    have HSA2:=ξ (OcIn.stored HZA.out HFAR2.out HSA.out.1 HSA.out.2)
    have HSB2:=ξ (OcIn.stored HZA.out HFAR2.out HSB.out.1 HSB.out.2)
    obtain⟨p0,p1,p2,p3,p4,p5⟩:=oc_cells HZB2.out
    have g0:=mem_free HZB2.out 0
    have g1:=mem_free HZB2.out 1
    have g2:=mem_free HZB2.out 2
    have g3:=mem_free HZB2.out 3
    have g4:=mem_free HZB2.out 4
    have g5:=mem_free HZB2.out 5
    obtain⟨U3,hU3⟩:∃ U3:World,put6 U2 bB (.slice ba S.arrays.length bc) (.slice bra S.objects.length brc) (.slice boa S.out.length boc) (.int .i64 (S.read:Int)) (.int .i64 (S.steps:Int)) (.int .i64 S.err)=U3:=⟨_,rfl⟩
    have HFAR3:Hid (∀ k,k≠bB→U3.heap[k]? = U2.heap[k]?):=fun k hk=>by rw[←hU3];exact put6_far hk
    have HB3':Hid (U3.heap[bB]? = some (Oc.obj S ba bc bra brc boa boc)):=by show _=_;rw[←hU3];exact put6_at HZB2.out
    have HA3':Hid (U3.heap[bA]? = some (Oc.obj R aa ac ara arc aoa aoc)):=(HFAR3.out bA HNE.out).trans HA2'.out
    have HBU3:Hid (Below E0.heap.size E0 U3):=by show Below _ _ _;rw[←hU3];exact put6_below HBU2.out HGB.out
    have HSA3:=ξ (OcIn.stored HZB2.out HFAR3.out HSA2.out.1 HSA2.out.2)
    have HSB3:=ξ (OcIn.stored HZB2.out HFAR3.out HSB2.out.1 HSB2.out.2)
    unfold put6 at hU2 hU3
    refine hR 28 rfl (fun K hK=>?_)
    go_simp
    try rw[hU2]
    refine hK.out _ _ (HBU2.out) (fun hHeld=>?_)
    clear hK K
    rename_i hOld
    clear hOld
    (try simp only[Act.put,pZ])
    refine hR 29 rfl (fun K hK=>?_)
    go_simp
    try rw[hU3]
    refine hK.out _ _ (HBU3.out) (fun hHeld=>?_)
    clear hK K
    rename_i hOld
    clear hOld
    (try simp only[Act.put,pZ])
    clear hHeld y0 y1 y2 y3 y4 y5 f0 f1 f2 f3 f4 f5 p0 p1 p2 p3 p4 p5 g0 g1 g2 g3 g4 g5 hU2 hU3
    refine wpAnyH_done (by kernel_rfl) ?_ _
    go_wp2_with fail
    go_meet
    exact⟨bA,bB,aa,ac,ara,arc,aoa,aoc,ba,bc,bra,brc,boa,boc,rfl,rfl,HA3'.out,HB3'.out,HSA3.out.1,HSB3.out.1,HBU3.out⟩
  ·go_simp
   refine hK.out _ _ (mem_then HHV.out (mem_alloc _ _)) (fun hHeld=>?_)
   clear hK K
   rename_i hOld
   clear hOld
   (try simp only[Act.put,pZ])
   have hz_26:(v1.alloc zOc).heap[v1.heap.size]? = some zOc:=mem_new _ _
   have hzB_26:=mem_alloc v1 zOc
   generalize hQ_26:v1.alloc zOc=U_26 at hz_26 hzB_26 hHeld⊢
   clear hQ_26
   have HB_26:=ξ (mem_then HHV.out hzB_26)
   have HGB:Hid (E0.heap.size≤v1.heap.size):=HHV.out.size
   have HZB26:=ξ hz_26
   clear hz_26 hzB_26
   refine wpAnyH_ready (rs:=[12,26]) (by kernel_rfl) (by simp) (AllReadyH.cons rfl (fun K hK=>?_) (AllReadyH.cons rfl (fun K hK=>?_) AllReadyH.nil))
   ·go_simp
    refine (J1.out U_26 HB_26.out).mono ?_
    rintro e w_27 ⟨aa,ac,ara,arc,aoa,aoc,rfl,hra,hB_27,_,hty⟩
    have HB_27:=ξ (mem_then HB_26.out hB_27)
    have HZB27:=ξ (mem_keep HZB26.out hB_27)
    have HS4_27:=ξ (And.intro hra hty)
    clear hra hty hB_27
    refine hK.out _ _ (HB_27.out) (fun hHeld=>?_)
    clear hK K
    rename_i hOld
    clear hOld
    (try simp only[Act.put,pZ])
    refine wpAnyH_ready (rs:=[25,26]) (by kernel_rfl) (by simp) (AllReadyH.cons rfl (fun K hK=>?_) (AllReadyH.cons rfl (fun K hK=>?_) AllReadyH.nil))
    ·go_simp
     refine (J2.out w_27 HB_27.out).mono ?_
     rintro e w_28 ⟨ba,bc,bra,brc,boa,boc,rfl,hra,hB_28,_,hty⟩
     have HB_28:=ξ (mem_then HB_27.out hB_28)
     have HZB28:=ξ (mem_keep HZB27.out hB_28)
     have HS4_28:=ξ (And.intro (OcIn.below HS4_27.out.1 hB_28) (OcTy.below HS4_27.out.2 hB_28))
     have HS9_28:=ξ (And.intro hra hty)
     clear hra hty hB_28
     refine hK.out _ _ (HB_28.out) (fun hHeld=>?_)
     clear hK K
     rename_i hOld
     clear hOld
     (try simp only[Act.put,pZ])
     refine hR 26 rfl (fun K hK=>?_)
     go_simp
     refine hK.out _ _ (mem_then HB_28.out (mem_alloc _ _)) (fun hHeld=>?_)
     clear hK K
     rename_i hOld
     clear hOld
     (try simp only[Act.put,pZ])
     have hz_29:(w_28.alloc zOc).heap[w_28.heap.size]? = some zOc:=mem_new _ _
     have hzB_29:=mem_alloc w_28 zOc
     generalize hQ_29:w_28.alloc zOc=U_29 at hz_29 hzB_29 hHeld⊢
     clear hQ_29
     have HB_29:=ξ (mem_then HB_28.out hzB_29)
     have hlo_29:=mem_lt HZB28.out
     have HNE:Hid (w_28.heap.size≠v1.heap.size):=fun e=>by omega
     clear hlo_29
     have HGA:Hid (E0.heap.size≤w_28.heap.size):=HB_28.out.size
     have HZB29:=ξ (mem_keep HZB28.out hzB_29)
     have HS4_29:=ξ (And.intro (OcIn.below HS4_28.out.1 hzB_29) (OcTy.below HS4_28.out.2 hzB_29))
     have HS9_29:=ξ (And.intro (OcIn.below HS9_28.out.1 hzB_29) (OcTy.below HS9_28.out.2 hzB_29))
     have HZA29:=ξ hz_29
     clear hz_29 hzB_29
     obtain⟨bA,hbA⟩:∃ b,w_28.heap.size=b:=⟨_,rfl⟩
     obtain⟨bB,hbB⟩:∃ b,v1.heap.size=b:=⟨_,rfl⟩
     have HZA:=HZA29
     have HZB:=HZB29
     have HSA:=HS4_29
     have HSB:=HS9_29
     have HBE:=HB_29
     rw[hbA] at HZA HNE HGA
     rw[hbB] at HZB HNE HGB
     try rw[hbA]
     try rw[hbB]
     clear hbA hbB
     obtain⟨EW,hEW⟩:∃ E:World,U_29=E:=⟨_,rfl⟩
     rw[hEW] at HZA HZB HSA HSB HBE hHeld⊢
     clear hEW
     obtain⟨y0,y1,y2,y3,y4,y5⟩:=oc_cells HZA.out
     have f0:=mem_free HZA.out 0
     have f1:=mem_free HZA.out 1
     have f2:=mem_free HZA.out 2
     have f3:=mem_free HZA.out 3
     have f4:=mem_free HZA.out 4
     have f5:=mem_free HZA.out 5
     obtain⟨U2,hU2⟩:∃ U2:World,put6 EW bA (.slice aa R.arrays.length ac) (.slice ara R.objects.length arc) (.slice aoa R.out.length aoc) (.int .i64 (R.read:Int)) (.int .i64 (R.steps:Int)) (.int .i64 R.err)=U2:=⟨_,rfl⟩
     have HFAR2:Hid (∀ k,k≠bA→U2.heap[k]? = EW.heap[k]?):=fun k hk=>by rw[←hU2];exact put6_far hk
     have HA2':Hid (U2.heap[bA]? = some (Oc.obj R aa ac ara arc aoa aoc)):=by show _=_;rw[←hU2];exact put6_at HZA.out
     have HZB2:Hid (U2.heap[bB]? = some zOc):=(HFAR2.out bB (fun e=>HNE.out e.symm)).trans HZB.out
     have HBU2:Hid (Below E0.heap.size E0 U2):=by show Below _ _ _;rw[←hU2];exact put6_below HBE.out HGA.out
     have HSA2:=ξ (OcIn.stored HZA.out HFAR2.out HSA.out.1 HSA.out.2)
     have HSB2:=ξ (OcIn.stored HZA.out HFAR2.out HSB.out.1 HSB.out.2)
     obtain⟨p0,p1,p2,p3,p4,p5⟩:=oc_cells HZB2.out
     have g0:=mem_free HZB2.out 0
     have g1:=mem_free HZB2.out 1
     have g2:=mem_free HZB2.out 2
     have g3:=mem_free HZB2.out 3
     have g4:=mem_free HZB2.out 4
     have g5:=mem_free HZB2.out 5
     obtain⟨U3,hU3⟩:∃ U3:World,put6 U2 bB (.slice ba S.arrays.length bc) (.slice bra S.objects.length brc) (.slice boa S.out.length boc) (.int .i64 (S.read:Int)) (.int .i64 (S.steps:Int)) (.int .i64 S.err)=U3:=⟨_,rfl⟩
     have HFAR3:Hid (∀ k,k≠bB→U3.heap[k]? = U2.heap[k]?):=fun k hk=>by rw[←hU3];exact put6_far hk
     have HB3':Hid (U3.heap[bB]? = some (Oc.obj S ba bc bra brc boa boc)):=by show _=_;rw[←hU3];exact put6_at HZB2.out
     have HA3':Hid (U3.heap[bA]? = some (Oc.obj R aa ac ara arc aoa aoc)):=(HFAR3.out bA HNE.out).trans HA2'.out
     have HBU3:Hid (Below E0.heap.size E0 U3):=by show Below _ _ _;rw[←hU3];exact put6_below HBU2.out HGB.out
     have HSA3:=ξ (OcIn.stored HZB2.out HFAR3.out HSA2.out.1 HSA2.out.2)
     have HSB3:=ξ (OcIn.stored HZB2.out HFAR3.out HSB2.out.1 HSB2.out.2)
     unfold put6 at hU2 hU3
     refine hR 28 rfl (fun K hK=>?_)
     go_simp
     try rw[hU2]
     refine hK.out _ _ (HBU2.out) (fun hHeld=>?_)
     clear hK K
     rename_i hOld
     clear hOld
     (try simp only[Act.put,pZ])
     refine hR 29 rfl (fun K hK=>?_)
     go_simp
     try rw[hU3]
     refine hK.out _ _ (HBU3.out) (fun hHeld=>?_)
     clear hK K
     rename_i hOld
     clear hOld
     (try simp only[Act.put,pZ])
     clear hHeld y0 y1 y2 y3 y4 y5 f0 f1 f2 f3 f4 f5 p0 p1 p2 p3 p4 p5 g0 g1 g2 g3 g4 g5 hU2 hU3
     refine wpAnyH_done (by kernel_rfl) ?_ _
     go_wp2_with fail
     go_meet
     exact⟨bA,bB,aa,ac,ara,arc,aoa,aoc,ba,bc,bra,brc,boa,boc,rfl,rfl,HA3'.out,HB3'.out,HSA3.out.1,HSB3.out.1,HBU3.out⟩
    ·go_simp
     refine hK.out _ _ (mem_then HB_27.out (mem_alloc _ _)) (fun hHeld=>?_)
     clear hK K
     rename_i hOld
     clear hOld
     (try simp only[Act.put,pZ])
     have hz_30:(w_27.alloc zOc).heap[w_27.heap.size]? = some zOc:=mem_new _ _
     have hzB_30:=mem_alloc w_27 zOc
     generalize hQ_30:w_27.alloc zOc=U_30 at hz_30 hzB_30 hHeld⊢
     clear hQ_30
     have HB_30:=ξ (mem_then HB_27.out hzB_30)
     have hlo_30:=mem_lt HZB27.out
     have HNE:Hid (w_27.heap.size≠v1.heap.size):=fun e=>by omega
     clear hlo_30
     have HGA:Hid (E0.heap.size≤w_27.heap.size):=HB_27.out.size
     have HZB30:=ξ (mem_keep HZB27.out hzB_30)
     have HS4_30:=ξ (And.intro (OcIn.below HS4_27.out.1 hzB_30) (OcTy.below HS4_27.out.2 hzB_30))
     have HZA30:=ξ hz_30
     clear hz_30 hzB_30
     refine hR 25 rfl (fun K hK=>?_)
     go_simp
     refine (J2.out U_30 HB_30.out).mono ?_
     rintro e w_31 ⟨ba,bc,bra,brc,boa,boc,rfl,hra,hB_31,_,hty⟩
     have HB_31:=ξ (mem_then HB_30.out hB_31)
     have HZA31:=ξ (mem_keep HZA30.out hB_31)
     have HZB31:=ξ (mem_keep HZB30.out hB_31)
     have HS4_31:=ξ (And.intro (OcIn.below HS4_30.out.1 hB_31) (OcTy.below HS4_30.out.2 hB_31))
     have HS9_31:=ξ (And.intro hra hty)
     clear hra hty hB_31
     refine hK.out _ _ (HB_31.out) (fun hHeld=>?_)
     clear hK K
     rename_i hOld
     clear hOld
     (try simp only[Act.put,pZ])
     obtain⟨bA,hbA⟩:∃ b,w_27.heap.size=b:=⟨_,rfl⟩
     obtain⟨bB,hbB⟩:∃ b,v1.heap.size=b:=⟨_,rfl⟩
     have HZA:=HZA31
     have HZB:=HZB31
     have HSA:=HS4_31
     have HSB:=HS9_31
     have HBE:=HB_31
     rw[hbA] at HZA HNE HGA
     rw[hbB] at HZB HNE HGB
     try rw[hbA]
     try rw[hbB]
     clear hbA hbB
     obtain⟨EW,hEW⟩:∃ E:World,w_31=E:=⟨_,rfl⟩
     rw[hEW] at HZA HZB HSA HSB HBE hHeld⊢
     clear hEW
     obtain⟨y0,y1,y2,y3,y4,y5⟩:=oc_cells HZA.out
     have f0:=mem_free HZA.out 0
     have f1:=mem_free HZA.out 1
     have f2:=mem_free HZA.out 2
     have f3:=mem_free HZA.out 3
     have f4:=mem_free HZA.out 4
     have f5:=mem_free HZA.out 5
     obtain⟨U2,hU2⟩:∃ U2:World,put6 EW bA (.slice aa R.arrays.length ac) (.slice ara R.objects.length arc) (.slice aoa R.out.length aoc) (.int .i64 (R.read:Int)) (.int .i64 (R.steps:Int)) (.int .i64 R.err)=U2:=⟨_,rfl⟩
     have HFAR2:Hid (∀ k,k≠bA→U2.heap[k]? = EW.heap[k]?):=fun k hk=>by rw[←hU2];exact put6_far hk
     have HA2':Hid (U2.heap[bA]? = some (Oc.obj R aa ac ara arc aoa aoc)):=by show _=_;rw[←hU2];exact put6_at HZA.out
     have HZB2:Hid (U2.heap[bB]? = some zOc):=(HFAR2.out bB (fun e=>HNE.out e.symm)).trans HZB.out
     have HBU2:Hid (Below E0.heap.size E0 U2):=by show Below _ _ _;rw[←hU2];exact put6_below HBE.out HGA.out
     have HSA2:=ξ (OcIn.stored HZA.out HFAR2.out HSA.out.1 HSA.out.2)
     have HSB2:=ξ (OcIn.stored HZA.out HFAR2.out HSB.out.1 HSB.out.2)
     obtain⟨p0,p1,p2,p3,p4,p5⟩:=oc_cells HZB2.out
     have g0:=mem_free HZB2.out 0
     have g1:=mem_free HZB2.out 1
     have g2:=mem_free HZB2.out 2
     have g3:=mem_free HZB2.out 3
     have g4:=mem_free HZB2.out 4
     have g5:=mem_free HZB2.out 5
     obtain⟨U3,hU3⟩:∃ U3:World,put6 U2 bB (.slice ba S.arrays.length bc) (.slice bra S.objects.length brc) (.slice boa S.out.length boc) (.int .i64 (S.read:Int)) (.int .i64 (S.steps:Int)) (.int .i64 S.err)=U3:=⟨_,rfl⟩
     have HFAR3:Hid (∀ k,k≠bB→U3.heap[k]? = U2.heap[k]?):=fun k hk=>by rw[←hU3];exact put6_far hk
     have HB3':Hid (U3.heap[bB]? = some (Oc.obj S ba bc bra brc boa boc)):=by show _=_;rw[←hU3];exact put6_at HZB2.out
     have HA3':Hid (U3.heap[bA]? = some (Oc.obj R aa ac ara arc aoa aoc)):=(HFAR3.out bA HNE.out).trans HA2'.out
     have HBU3:Hid (Below E0.heap.size E0 U3):=by show Below _ _ _;rw[←hU3];exact put6_below HBU2.out HGB.out
     have HSA3:=ξ (OcIn.stored HZB2.out HFAR3.out HSA2.out.1 HSA2.out.2)
     have HSB3:=ξ (OcIn.stored HZB2.out HFAR3.out HSB2.out.1 HSB2.out.2)
     unfold put6 at hU2 hU3
     refine hR 28 rfl (fun K hK=>?_)
     go_simp
     try rw[hU2]
     refine hK.out _ _ (HBU2.out) (fun hHeld=>?_)
     clear hK K
     rename_i hOld
     clear hOld
     (try simp only[Act.put,pZ])
     refine hR 29 rfl (fun K hK=>?_)
     go_simp
     try rw[hU3]
     refine hK.out _ _ (HBU3.out) (fun hHeld=>?_)
     clear hK K
     rename_i hOld
     clear hOld
     (try simp only[Act.put,pZ])
     clear hHeld y0 y1 y2 y3 y4 y5 f0 f1 f2 f3 f4 f5 p0 p1 p2 p3 p4 p5 g0 g1 g2 g3 g4 g5 hU2 hU3
     refine wpAnyH_done (by kernel_rfl) ?_ _
     go_wp2_with fail
     go_meet
     exact⟨bA,bB,aa,ac,ara,arc,aoa,aoc,ba,bc,bra,brc,boa,boc,rfl,rfl,HA3'.out,HB3'.out,HSA3.out.1,HSB3.out.1,HBU3.out⟩
   ·go_simp
    refine hK.out _ _ (mem_then HB_26.out (mem_alloc _ _)) (fun hHeld=>?_)
    clear hK K
    rename_i hOld
    clear hOld
    (try simp only[Act.put,pZ])
    have hz_32:(U_26.alloc zOc).heap[U_26.heap.size]? = some zOc:=mem_new _ _
    have hzB_32:=mem_alloc U_26 zOc
    generalize hQ_32:U_26.alloc zOc=U_32 at hz_32 hzB_32 hHeld⊢
    clear hQ_32
    have HB_32:=ξ (mem_then HB_26.out hzB_32)
    have hlo_32:=mem_lt HZB26.out
    have HNE:Hid (U_26.heap.size≠v1.heap.size):=fun e=>by omega
    clear hlo_32
    have HGA:Hid (E0.heap.size≤U_26.heap.size):=HB_26.out.size
    have HZB32:=ξ (mem_keep HZB26.out hzB_32)
    have HZA32:=ξ hz_32
    clear hz_32 hzB_32
    refine hR 12 rfl (fun K hK=>?_)
    go_simp
    refine (J1.out U_32 HB_32.out).mono ?_
    rintro e w_33 ⟨aa,ac,ara,arc,aoa,aoc,rfl,hra,hB_33,_,hty⟩
    have HB_33:=ξ (mem_then HB_32.out hB_33)
    have HZA33:=ξ (mem_keep HZA32.out hB_33)
    have HZB33:=ξ (mem_keep HZB32.out hB_33)
    have HS4_33:=ξ (And.intro hra hty)
    clear hra hty hB_33
    refine hK.out _ _ (HB_33.out) (fun hHeld=>?_)
    clear hK K
    rename_i hOld
    clear hOld
    (try simp only[Act.put,pZ])
    refine hR 25 rfl (fun K hK=>?_)
    go_simp
    refine (J2.out w_33 HB_33.out).mono ?_
    rintro e w_34 ⟨ba,bc,bra,brc,boa,boc,rfl,hra,hB_34,_,hty⟩
    have HB_34:=ξ (mem_then HB_33.out hB_34)
    have HZA34:=ξ (mem_keep HZA33.out hB_34)
    have HZB34:=ξ (mem_keep HZB33.out hB_34)
    have HS4_34:=ξ (And.intro (OcIn.below HS4_33.out.1 hB_34) (OcTy.below HS4_33.out.2 hB_34))
    have HS9_34:=ξ (And.intro hra hty)
    clear hra hty hB_34
    refine hK.out _ _ (HB_34.out) (fun hHeld=>?_)
    clear hK K
    rename_i hOld
    clear hOld
    (try simp only[Act.put,pZ])
    obtain⟨bA,hbA⟩:∃ b,U_26.heap.size=b:=⟨_,rfl⟩
    obtain⟨bB,hbB⟩:∃ b,v1.heap.size=b:=⟨_,rfl⟩
    have HZA:=HZA34
    have HZB:=HZB34
    have HSA:=HS4_34
    have HSB:=HS9_34
    have HBE:=HB_34
    rw[hbA] at HZA HNE HGA
    rw[hbB] at HZB HNE HGB
    try rw[hbA]
    try rw[hbB]
    clear hbA hbB
    obtain⟨EW,hEW⟩:∃ E:World,w_34=E:=⟨_,rfl⟩
    rw[hEW] at HZA HZB HSA HSB HBE hHeld⊢
    clear hEW
    obtain⟨y0,y1,y2,y3,y4,y5⟩:=oc_cells HZA.out
    have f0:=mem_free HZA.out 0
    have f1:=mem_free HZA.out 1
    have f2:=mem_free HZA.out 2
    have f3:=mem_free HZA.out 3
    have f4:=mem_free HZA.out 4
    have f5:=mem_free HZA.out 5
    obtain⟨U2,hU2⟩:∃ U2:World,put6 EW bA (.slice aa R.arrays.length ac) (.slice ara R.objects.length arc) (.slice aoa R.out.length aoc) (.int .i64 (R.read:Int)) (.int .i64 (R.steps:Int)) (.int .i64 R.err)=U2:=⟨_,rfl⟩
    have HFAR2:Hid (∀ k,k≠bA→U2.heap[k]? = EW.heap[k]?):=fun k hk=>by rw[←hU2];exact put6_far hk
    have HA2':Hid (U2.heap[bA]? = some (Oc.obj R aa ac ara arc aoa aoc)):=by show _=_;rw[←hU2];exact put6_at HZA.out
    have HZB2:Hid (U2.heap[bB]? = some zOc):=(HFAR2.out bB (fun e=>HNE.out e.symm)).trans HZB.out
    have HBU2:Hid (Below E0.heap.size E0 U2):=by show Below _ _ _;rw[←hU2];exact put6_below HBE.out HGA.out
    have HSA2:=ξ (OcIn.stored HZA.out HFAR2.out HSA.out.1 HSA.out.2)
    have HSB2:=ξ (OcIn.stored HZA.out HFAR2.out HSB.out.1 HSB.out.2)
    obtain⟨p0,p1,p2,p3,p4,p5⟩:=oc_cells HZB2.out
    have g0:=mem_free HZB2.out 0
    have g1:=mem_free HZB2.out 1
    have g2:=mem_free HZB2.out 2
    have g3:=mem_free HZB2.out 3
    have g4:=mem_free HZB2.out 4
    have g5:=mem_free HZB2.out 5
    obtain⟨U3,hU3⟩:∃ U3:World,put6 U2 bB (.slice ba S.arrays.length bc) (.slice bra S.objects.length brc) (.slice boa S.out.length boc) (.int .i64 (S.read:Int)) (.int .i64 (S.steps:Int)) (.int .i64 S.err)=U3:=⟨_,rfl⟩
    have HFAR3:Hid (∀ k,k≠bB→U3.heap[k]? = U2.heap[k]?):=fun k hk=>by rw[←hU3];exact put6_far hk
    have HB3':Hid (U3.heap[bB]? = some (Oc.obj S ba bc bra brc boa boc)):=by show _=_;rw[←hU3];exact put6_at HZB2.out
    have HA3':Hid (U3.heap[bA]? = some (Oc.obj R aa ac ara arc aoa aoc)):=(HFAR3.out bA HNE.out).trans HA2'.out
    have HBU3:Hid (Below E0.heap.size E0 U3):=by show Below _ _ _;rw[←hU3];exact put6_below HBU2.out HGB.out
    have HSA3:=ξ (OcIn.stored HZB2.out HFAR3.out HSA2.out.1 HSA2.out.2)
    have HSB3:=ξ (OcIn.stored HZB2.out HFAR3.out HSB2.out.1 HSB2.out.2)
    unfold put6 at hU2 hU3
    refine hR 28 rfl (fun K hK=>?_)
    go_simp
    try rw[hU2]
    refine hK.out _ _ (HBU2.out) (fun hHeld=>?_)
    clear hK K
    rename_i hOld
    clear hOld
    (try simp only[Act.put,pZ])
    refine hR 29 rfl (fun K hK=>?_)
    go_simp
    try rw[hU3]
    refine hK.out _ _ (HBU3.out) (fun hHeld=>?_)
    clear hK K
    rename_i hOld
    clear hOld
    (try simp only[Act.put,pZ])
    clear hHeld y0 y1 y2 y3 y4 y5 f0 f1 f2 f3 f4 f5 p0 p1 p2 p3 p4 p5 g0 g1 g2 g3 g4 g5 hU2 hU3
    refine wpAnyH_done (by kernel_rfl) ?_ _
    go_wp2_with fail
    go_meet
    exact⟨bA,bB,aa,ac,ara,arc,aoa,aoc,ba,bc,bra,brc,boa,boc,rfl,rfl,HA3'.out,HB3'.out,HSA3.out.1,HSB3.out.1,HBU3.out⟩
 case rest =>
  obtain⟨d1,d2,va,vac,vo',voc,vu,vuc,xa,xac,xo,xoc,xu,xuc,rfl,rfl,hxr,hxs,hrr,hrx,hBE⟩:=hcut
  obtain⟨Z,hGc⟩:∃ Z:World,Z=wc:=⟨_,rfl⟩
  subst hGc
  have HXR:=ξ hxr
  have hSR:=HSR.out
  rw[hSR] at hxs hrx
  have HXS:=ξ hxs
  have HRR2:=ξ hrr
  have HRX:=ξ hrx
  have HBW:=ξ (mem_then HEB.out hBE)
  obtain⟨x0,x1,x2,x3,x4,x5⟩:=oc_cells hxr
  obtain⟨z0,z1,z2,z3,z4,z5⟩:=oc_cells hxs
  clear hrr hrx hBE hxr hxs hSR HSR
  go_wp2_with fail
  clear x0 x1 x2 x3 x4 x5 z0 z1 z2 z3 z4 z5
  refine (outputs_eq R.out vu xu vuc xuc _ HRR2.out.2.2 HRX.out.2.2).mono ?_
  rintro e G1 ⟨rfl,m1,rfl⟩
  have HD1:=ξ (below_dS Z m1)
  obtain⟨x0,x1,x2,x3,x4,x5⟩:=oc_cells (mem_keep HXR.out HD1.out)
  obtain⟨z0,z1,z2,z3,z4,z5⟩:=oc_cells (mem_keep HXS.out HD1.out)
  obtain⟨Z1,hZ1⟩:∃ X,Z.drewN m1=X:=⟨_,rfl⟩
  rw[hZ1] at HD1 x0 x1 x2 x3 x4 x5 z0 z1 z2 z3 z4 z5⊢
  clear hZ1
  go_wp2_with fail
  clear x0 x1 x2 x3 x4 x5 z0 z1 z2 z3 z4 z5
  refine (conts_eq R.arrays va xa vac xac _ (HRR2.out.1.below HD1.out) (HRX.out.1.below HD1.out)).mono ?_
  rintro e G2 ⟨rfl,m2,rfl⟩
  have HD2:=ξ (mem_then HD1.out (below_dS Z1 m2))
  obtain⟨x0,x1,x2,x3,x4,x5⟩:=oc_cells (mem_keep HXR.out HD2.out)
  obtain⟨z0,z1,z2,z3,z4,z5⟩:=oc_cells (mem_keep HXS.out HD2.out)
  obtain⟨Z2,hZ2⟩:∃ X,Z1.drewN m2=X:=⟨_,rfl⟩
  rw[hZ2] at HD2 x0 x1 x2 x3 x4 x5 z0 z1 z2 z3 z4 z5⊢
  clear hZ2
  go_wp2_with fail
  clear x0 x1 x2 x3 x4 x5 z0 z1 z2 z3 z4 z5
  refine (conts_eq R.objects vo' xo voc xoc _ (HRR2.out.2.1.below HD2.out) (HRX.out.2.1.below HD2.out)).mono ?_
  rintro e G3 ⟨rfl,m3,rfl⟩
  have HB3:=ξ (mem_then HBW.out (mem_then HD2.out (below_dS Z2 m3)))
  go_wp2_with fail
  go_ret
  exact⟨rfl,(HK.out _ HB3.out).2.2.1⟩
