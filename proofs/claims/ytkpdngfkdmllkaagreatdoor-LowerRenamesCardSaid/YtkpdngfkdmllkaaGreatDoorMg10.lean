/- Part. -/
import Derived.Test.YtkpdngfkdmllkaaGreatDoorMg9
import Derived.Test.YtkpdngfkdmllkaaGreatDoorProg
import Derived.LoopTactic
import Derived.Deep.QuietTactic
import Derived.BigQuiet
import Derived.WalkLawsBesides
import Derived.Deep.RegionHeld3
namespace Go.Proofs.YtkpdngfkdmllkaaGreatDoor
set_option linter.unusedVariables false
set_option linter.unusedSimpArgs false
open Go.RowKit
set_option maxRecDepth 100000
set_option maxHeartbeats 8000000
def checkE(p:Prg):List TFlt:=if prgOk p then checkF p else []
theorem check_any(p:Prg)(w:World)(sa ta:Option Addr)(sc tc:Nat)(hp:PrgAt w p sa ta)(hg:SignsIn w) :
 Calls Tryz.prog 29 #[p.val sa sc ta tc] w fun e w'=>∃ v L,e = .returned v∧FltsAt w.heap.size w' v L∧flat L=checkE p∧L.length≤4000∧Below w.heap.size w w':=by
 obtain⟨ti,hti,hz0,hz1,hz2⟩:=info_parts FltP.info
 have HP:=ξ hp
 have hsl:=hp.1.1
 have htl:=hp.2.1
 obtain⟨W,hW⟩:∃ W:World,w.alloc (prgObj p sa sc ta tc)=W:=⟨_,rfl⟩
 have HBW:Hid (Below w.heap.size w W):=by show Below _ _ _;rw[←hW];exact mem_alloc _ _
 have HBX:Hid (W.heap[w.heap.size]? = some (prgObj p sa sc ta tc)):=by show _=_;rw[←hW];exact mem_new _ _
 have y0:W.cell? ⟨w.heap.size,0,none⟩=some (.slice sa p.shared.length sc):=mem_cell HBX.out 0
 have y1:W.cell? ⟨w.heap.size,1,none⟩=some (.slice ta p.tasks.length tc):=mem_cell HBX.out 1
 have QV:=ξ (valid_any p W sa ta sc tc (hp.below HBW.out) (hg.below HBW.out))
 clear hp hg
 go_enter Tryz.func29,Tryz.ntmps29
 go_wp2_with fail
 clear hW y0 y1
 refine QV.out.mono ?_
 rintro e w1 ⟨rfl,hB1⟩
 have HB1:Hid (Below w.heap.size w w1):=HBW.out.trans (hB1.mono HBW.out.size)
 have HBX1:Hid (w1.heap[w.heap.size]? = some (prgObj p sa sc ta tc)):=mem_keep HBX.out hB1
 clear hB1 QV HBX HBW
 cases hv:prgOk p with
 | false =>
  have HE:Hid (flat []=checkE p):=by show _=_;unfold checkE;rw[hv];rfl
  clear hv
  go_wp2_with fail
  go_ret
  exact⟨_,[],rfl,FltsAt.nil,HE.out,Nat.zero_le _,HB1.out⟩
 | true =>
 have HLE:=ξ (prgOk_le hv)
 have HCE:Hid (checkE p=checkF p):=by show _=_;unfold checkE;rw[hv];rfl
 clear hv
 obtain⟨W2,hW2⟩:∃ W2:World,w1.alloc (.map #[] 0)=W2:=⟨_,rfl⟩
 have bW2:Below w1.heap.size w1 W2:=by rw[←hW2];exact mem_alloc _ _
 have HB2:Hid (Below w.heap.size w W2):=mem_then HB1.out bW2
 have HBX2:Hid (W2.heap[w.heap.size]? = some (prgObj p sa sc ta tc)):=mem_keep HBX1.out bW2
 have HS0:Hid (SetS W2 w1.heap.size 0 []):=by show StrSet _ _ _ _ _ _ _;rw[←hW2];exact StrSet.made _ _ _ _
 have HLT:Hid (w.heap.size<w1.heap.size):=mem_lt HBX1.out
 have y0:W2.cell? ⟨w.heap.size,0,none⟩=some (.slice sa p.shared.length sc):=mem_cell HBX2.out 0
 have hmm:=@run_makeMap Tryz.prog
 clear bW2 HBX1 HB1
 go_wp2_with fail
 clear hW2 y0 hmm
 go_loopw [3,17] (fun v iv wr=>∃ (i:Nat) (L:List FltP) (n:Nat),i≤p.shared.length∧iv = .int .i64 (i:Int)∧n≤i∧FrK w.heap.size w1.heap.size W2 wr∧FltsAt w.heap.size wr v L∧SetS wr w1.heap.size n ((p.shared.map (·.name)).take i)∧flat L=(declF (fun _=>false) [] ((p.shared.map (·.name)).take i)).map (TFlt.mk (-1))∧L.length≤i) (fun _ iv _=>p.shared.length-(intOf iv).toNat)
 case atStart=>exact⟨0,[],0,Nat.zero_le _,rfl,Nat.le_refl _,FrK.refl,FltsAt.nil,HS0.out,rfl,Nat.le_refl _⟩
 case round =>
  obtain⟨i,L,n,hi,rfl,hni,hfr,hfl,hset,hmap,hlen⟩:=hrel
  obtain⟨va,vc,rfl⟩:=own_val hfl.ro
  have HFR:=ξ hfr
  have HFL:=ξ hfl
  have HSET:=ξ hset
  have HMAP:=ξ hmap
  have HLEN:=ξ hlen
  have HNI:=ξ hni
  have hi0:(0:Int)≤(i:Int):=by omega
  have HNW:Hid (w.heap.size≤wr.heap.size):=Nat.le_trans HB2.out.size hfr.low.size
  have HBXR:Hid (wr.heap[w.heap.size]? = some (prgObj p sa sc ta tc)):=hfr.cells HBX2.out (by have:=HLT.out;omega) (by decide) (by decide)
  have HBWR:Hid (Below w.heap.size w wr):=HB2.out.trans hfr.low
  clear hfr hfl hset hmap hlen hni
  by_cases hlt:i<p.shared.length
  ·have hlt2:(i:Int)<(p.shared.length:Int):=by omega
   obtain⟨bb,off,hsa,hc⟩:=(HP.out.1.below HBWR.out).2 i hlt
   obtain⟨x,hx⟩:∃ x,p.shared.getD i Arr.none=x:=⟨_,rfl⟩
   rw[hx] at hc
   obtain⟨hc1,hc2,hsz,_⟩:=hc
   obtain⟨s,hs⟩:∃ s,x.name=s:=⟨_,rfl⟩
   have HSE:Hid ((p.shared.map (·.name)).take (i+1)=(p.shared.map (·.name)).take i++[s]):=by
    show _=_
    rw[List.take_succ_eq_append_getElem (by simpa using hlt),List.getElem_map,←hs,←hx]
    simp[hlt]
   obtain⟨D,hD⟩:∃ D:World,wr.alloc (.cells #[.string x.name,.int .i64 x.len] 73)=D:=⟨_,rfl⟩
   have hBD:Below wr.heap.size wr D:=by rw[←hD];exact mem_alloc _ _
   have HFD:Hid (FrT w.heap.size wr D):=FrT.of hBD HNW.out
   have HX0:Hid (D.heap[wr.heap.size]? = some (.cells #[.string x.name,.int .i64 x.len] 73)):=by show _=_;rw[←hD];exact mem_new _ _
   have x0:D.cell? ⟨wr.heap.size,0,none⟩=some (.string x.name):=mem_cell HX0.out 0
   have HSD:Hid (SetS D w1.heap.size n ((p.shared.map (·.name)).take i)):=HFD.out.set HSET.out
   have HFLD:Hid (FltsAt w.heap.size D (.slice va L.length vc) L):=HFL.out.keep hBD
   have g1:=sset_get HSD.out hsz
   have HSZ:=ξ hsz
   have HRE:Hid (∀ b,memB ((p.shared.map (·.name)).take i) s=b→flat (L++declOne (-1) b s)=(declF (fun _=>false) [] ((p.shared.map (·.name)).take (i+1))).map (TFlt.mk (-1))):=fun b hb=>by
    rw[flat_append,HMAP.out,HSE.out,declF_snoc,flat_declOne,List.map_append,List.nil_append,hb,Bool.false_or]
   have HND:Hid (w.heap.size≤D.heap.size):=Nat.le_trans HNW.out hBD.size
   rw[hs] at HX0 hc1 g1 x0 HSZ hD
   rw[hsa]
   clear hsz hx hBD HSET HFL HMAP hs HBXR
   cases hb:memB ((p.shared.map (·.name)).take i) s with
   | false =>
    rw[hb] at g1
    have HR2:=ξ (HRE.out _ hb)
    clear hb HRE
    go_wp2_with (at_mapUpdate;refine wpList_store_str _ rfl _ _ _ 93 rfl 9 4 Tryz.underlying9 Tryz.underlying4 Tryz.underlying93 w1.heap.size n _ rfl HSD.out s rfl rfl HSZ.out (by have:=HNI.out;have:=HLE.out.1;unfold maxLen;omega) ?_)
    intro w3 h3 hg3
    obtain⟨hf3,hk3⟩:=HFLD.out.map (Nat.le_of_lt HLT.out) HSD.out hg3
    have HF3:=ξ hf3
    have HK3:=ξ (HFR.out.trans ((FrK.of HFD.out).trans hk3))
    have HS3:=ξ h3
    clear h3 hg3 hf3 hk3 g1 x0 hc1 hc2 hD
    go_wp2_with fail
    go_roundw
    case rel=>exact⟨i+1,L,n+1,by omega,by go_num,by have:=HNI.out;omega,HK3.out,HF3.out,by rw[HSE.out];exact HS3.out,by rw[←HR2.out,declOne,if_neg (by decide),List.append_nil],by have:=HLEN.out;omega⟩
    case measure=>simp[intOf];omega
   | true =>
    rw[hb] at g1
    have HR2:=ξ (HRE.out _ hb)
    clear hb HRE
    obtain⟨D2,hD2⟩:∃ D2:World,D.alloc (.cells #[.int .i64 (-1),.slice none 0 0,.int .i64 8,.string s] 116)=D2:=⟨_,rfl⟩
    have hBD2:Below D.heap.size D D2:=by rw[←hD2];exact mem_alloc _ _
    have HLIT:Hid (∀ (k:Nat) (u:Value),(FltP.mk (-1) ⟨[],8,s⟩ (.slice none 0 0)).cells[k]? = some u→D2.cell? ((⟨D.heap.size,0,none⟩:Addr).add k)=some u):=by
     show ∀ _ _,_
     rw[←hD2]
     exact one_newF D ⟨-1,⟨[],8,s⟩,.slice none 0 0⟩
    have HFL2:Hid (FltsAt w.heap.size D2 (.slice va L.length vc) L):=HFLD.out.keep hBD2
    have HFD2:Hid (FrT w.heap.size D D2):=FrT.of hBD2 HND.out
    have HN2:Hid (w.heap.size≤D2.heap.size):=Nat.le_trans HND.out hBD2.size
    clear hBD2
    go_wp2_with (at_builtin;refine wpList_append_row _ rfl (.tmp 25) (.tmp 29) 85 rfl w.heap.size 116 ti _ 4 56 Tryz.underlying85 hti hz0 hz1 hz2 rfl (by decide) (.slice va L.length vc) L.length (L.flatMap FltP.cells) rfl HFL2.out.ro ⟨D.heap.size,0,none⟩ 1 1 (FltP.mk (-1) ⟨[],8,s⟩ (.slice none 0 0)).cells rfl rfl HLIT.out (FltP.one _ rfl) (by decide) (by have:=HLEN.out;have:=HLE.out.1;unfold maxLen;omega) (by have:=HLEN.out;have:=HLE.out.1;omega) HN2.out ?_)
    intro gb cap w2 hown2 hgrow2 _
    have HG2:Hid (FrT w.heap.size D2 w2):=HFL2.out.grown HN2.out hgrow2
    have HF2:Hid (FltsAt w.heap.size w2 (.slice (some ⟨gb,0,none⟩) (L.length+1) cap) (L++[⟨-1,⟨[],8,s⟩,.slice none 0 0⟩])):=HFL2.out.push HN2.out hgrow2 (World.ownsRow_nil _ _ _ _) hown2 rfl
    have HS2:Hid (SetS w2 w1.heap.size n ((p.shared.map (·.name)).take i)):=HG2.out.set (HFD2.out.set HSD.out)
    have x2:w2.cell? ⟨wr.heap.size,0,none⟩=some (.string s):=mem_cell ((HFD2.out.trans HG2.out).cells HX0.out (by decide) (by decide)) 0
    clear hown2 hgrow2 g1 x0 hc1 hc2 hD hD2
    go_wp2_with (at_mapUpdate;refine wpList_store_str _ rfl _ _ _ 93 rfl 9 4 Tryz.underlying9 Tryz.underlying4 Tryz.underlying93 w1.heap.size n _ rfl HS2.out s rfl rfl HSZ.out (by have:=HNI.out;have:=HLE.out.1;unfold maxLen;omega) ?_)
    intro w3 h3 hg3
    obtain⟨hf3,hk3⟩:=HF2.out.map (Nat.le_of_lt HLT.out) HS2.out hg3
    have HF3:=ξ hf3
    have HK3:=ξ (HFR.out.trans ((FrK.of (HFD.out.trans (HFD2.out.trans HG2.out))).trans hk3))
    have HS3:=ξ h3
    clear h3 hg3 hf3 hk3 x2
    go_wp2_with fail
    go_roundw
    case rel=>exact⟨i+1,L++[⟨-1,⟨[],8,s⟩,.slice none 0 0⟩],n+1,by omega,by go_num,by have:=HNI.out;omega,HK3.out,HF3.out,by rw[HSE.out];exact HS3.out,by rw[←HR2.out,declOne,if_pos rfl],by have:=HLEN.out;simp;omega⟩
    case measure=>simp[intOf];omega
  ·obtain rfl:i=p.shared.length:=by omega
   have HMAP0:Hid (flat L=(declF (fun _=>false) [] (p.shared.map (·.name))).map (TFlt.mk (-1))):=by
    have h:=HMAP.out
    rw[List.take_of_length_le (by simp)] at h
    exact h
   have HSH0:Hid (SetS wr w1.heap.size 4 (p.shared.map (·.name))):=by
    have h:=HSET.out
    rw[List.take_of_length_le (by simp)] at h
    show StrSet _ _ _ _ _ _ _
    exact StrSet.mono h (by have:=HNI.out;have:=HLE.out.1;omega)
   obtain⟨V,hV⟩:∃ V:World,wr.alloc (.map #[] 0)=V:=⟨_,rfl⟩
   have bV:Below wr.heap.size wr V:=by rw[←hV];exact mem_alloc _ _
   have HFV:Hid (FrT w.heap.size wr V):=FrT.of bV HNW.out
   have HSH:Hid (SetS V w1.heap.size 4 (p.shared.map (·.name))):=HFV.out.set HSH0.out
   have HES:Hid (SetS V wr.heap.size 0 []):=by show StrSet _ _ _ _ _ _ _;rw[←hV];exact StrSet.made _ _ _ _
   have HFLV:Hid (FltsAt w.heap.size V (.slice va L.length vc) L):=HFL.out.keep bV
   have HBXV:Hid (V.heap[w.heap.size]? = some (prgObj p sa sc ta tc)):=mem_keep HBXR.out bV
   have HBV:Hid (Below w.heap.size w V):=HBWR.out.trans HFV.out.low
   have HLU:Hid (w1.heap.size<wr.heap.size):=HSET.out.lt
   have y1:V.cell? ⟨w.heap.size,1,none⟩=some (.slice ta p.tasks.length tc):=mem_cell HBXV.out 1
   have hmm:=@run_makeMap Tryz.prog
   clear HMAP HSET HSH0 HNI hlt hi0 hi bV HFV HFL HBXR HFR HB2 HBX2 HS0
   go_wp2_with fail
   clear hV y1 hmm
   obtain⟨wz,hwz⟩:∃ wz:World,wz=wr:=⟨_,rfl⟩
   subst hwz
   go_loopw [3,39] (fun v iv wr=>∃ (i:Nat) (L1:List FltP) (n:Nat),i≤p.tasks.length∧iv = .int .i64 (i:Int)∧n≤i∧FrK w.heap.size wz.heap.size V wr∧FltsAt w.heap.size wr v L1∧SetS wr wz.heap.size n ((p.tasks.take i).map (·.name))∧flat L1=(declF (fun _=>false) [] (p.shared.map (·.name))).map (TFlt.mk (-1))++tasksF (p.shared.map (·.name)) [] 0 (p.tasks.take i)∧L1.length≤4+417*i) (fun _ iv _=>p.tasks.length-(intOf iv).toNat)
   case atStart=>exact⟨0,L,0,Nat.zero_le _,rfl,Nat.le_refl _,FrK.refl,HFLV.out,HES.out,by rw[HMAP0.out,List.take_zero];simp[tasksF],by have:=HLEN.out;have:=HLE.out.1;omega⟩
   case round =>
    obtain⟨i,L1,n,hi,rfl,hni,hfr,hfl,hset,hmap,hlen⟩:=hrel
    obtain⟨va1,vc1,rfl⟩:=own_val hfl.ro
    clear HLEN HMAP0 HFLV HES
    have HFR:=ξ hfr
    have HFL:=ξ hfl
    have HSET:=ξ hset
    have HMAP:=ξ hmap
    have HLEN:=ξ hlen
    have HNI:=ξ hni
    have hi0:(0:Int)≤(i:Int):=by omega
    have HNR:Hid (w.heap.size≤wr.heap.size):=Nat.le_trans HBV.out.size hfr.low.size
    have HBWR2:Hid (Below w.heap.size w wr):=HBV.out.trans hfr.low
    have HSHR:Hid (SetS wr w1.heap.size 4 (p.shared.map (·.name))):=hfr.set HSH.out (by have:=HLU.out;omega)
    clear hfr hfl hset hmap hlen hni
    by_cases hlt:i<p.tasks.length
    ·have hlt2:(i:Int)<(p.tasks.length:Int):=by omega
     have HTO:=ξ (tskOk_le (HLE.out.2.2 i hlt))
     obtain⟨bb,off,q,hta,hc,hin⟩:=HP.out.2.2 i hlt
     obtain⟨t,ht⟩:∃ t,p.tasks.getD i Tsk.none=t:=⟨_,rfl⟩
     have HTE:Hid (p.tasks.take (i+1)=p.tasks.take i++[t]):=by
      show _=_
      rw[←ht]
      exact take_more hlt
     have HTL:Hid ((p.tasks.take i).length=i):=by show _=_;rw[List.length_take];omega
     rw[ht] at hc hin HTO
     obtain⟨⟨g0,g1,g2,g3,g4,g5,g6,g7⟩,hbl⟩:=tsk_cells HBWR2.out hc
     have HIN:=ξ hin
     have HNM:Hid (t.name.size≤maxLen):=hin.name
     obtain⟨D,hD⟩:∃ D:World,wr.alloc (tskObj t q)=D:=⟨_,rfl⟩
     have hBD:Below wr.heap.size wr D:=by rw[←hD];exact mem_alloc _ _
     have HFD:Hid (FrT w.heap.size wr D):=FrT.of hBD HNR.out
     have HX0:Hid (D.heap[wr.heap.size]? = some (tskObj t q)):=by show _=_;rw[←hD];exact mem_new _ _
     have x0:D.cell? ⟨wr.heap.size,0,none⟩=some (.string t.name):=mem_cell HX0.out 0
     have HSD:Hid (SetS D wz.heap.size n ((p.tasks.take i).map (·.name))):=HFD.out.set HSET.out
     have HFLD:Hid (FltsAt w.heap.size D (.slice va1 L1.length vc1) L1):=HFL.out.keep hBD
     have HND:Hid (w.heap.size≤D.heap.size):=Nat.le_trans HNR.out hBD.size
     have HWZ:Hid (w.heap.size≤wz.heap.size):=HNW.out
     have k1:=sset_get HSD.out HNM.out
     have HZR:Hid (wz.heap.size<wr.heap.size):=HSET.out.lt
     have HEND:Hid (∀ (w3:World) (v3:Value) (b:Bool) (L3:List FltP),memB ((p.tasks.take i).map (·.name)) t.name=b→L3=L1++declOne (i:Int) b t.name→FrK w.heap.size wz.heap.size V w3→FltsAt w.heap.size w3 v3 L3→SetS w3 wz.heap.size (n+1) ((p.tasks.take i).map (·.name)++[t.name]) →
      Calls Tryz.prog 44 #[.int .i64 (i:Int),.agg (t.cells q),.map (some w1.heap.size)] w3 fun e w'=>∃ v L2,e = .returned v∧FltsAt w.heap.size w' v3 L3∧FltsAt w.heap.size w' v L2∧L2.length≤416∧w.heap.size≤w'.heap.size ∧
       FrK w.heap.size wz.heap.size V w'∧SetS w' wz.heap.size (n+1) ((p.tasks.take (i+1)).map (·.name)) ∧
       flat (L3++L2)=(declF (fun _=>false) [] (p.shared.map (·.name))).map (TFlt.mk (-1))++tasksF (p.shared.map (·.name)) [] 0 (p.tasks.take (i+1))):=fun w3 v3 b L3 hb hL hk hf hs=>by
      have hB3:Below w.heap.size w w3:=HBV.out.trans hk.low
      refine (task15_any (i:Int) t q w1.heap.size 4 (p.shared.map (·.name)) w3 (HIN.out.below hB3) (hk.set HSH.out (by have:=HLU.out;omega)) (by have:=HTO.out.1;omega) (by have:=HTO.out.2.1;omega) (by have:=HTO.out.2.2;omega)).mono ?_
      rintro e w4 ⟨v,L2,rfl,h1,h2,h3,h4,h5⟩
      have hN3:w.heap.size≤w3.heap.size:=hB3.size
      refine⟨v,L2,rfl,hf.keep h5,h1.down hN3,by have:=HTO.out;omega,Nat.le_trans hN3 h5.size,hk.trans (FrK.of (FrT.of h5 hN3)),?_,?_⟩
      ·rw[HTE.out,List.map_append]
       exact (FrT.of h5 hN3).set hs
      ·rw[hL,flat_append,flat_append,HMAP.out,flat_declOne,flat_of h3,h2,HTE.out,tasksF_snoc,HTL.out,List.append_assoc,←List.map_append,List.nil_append,hb,Nat.zero_add]
       exact List.append_assoc _ _ _
     clear hc hin ht hBD hbl HSET HFL HMAP HSHR
     rw[hta]
     cases hb:memB ((p.tasks.take i).map (·.name)) t.name with
     | false =>
      rw[hb] at k1
      have HBB:=ξ hb
      clear hb
      go_wp2_with (at_mapUpdate;refine wpList_store_str _ rfl _ _ _ 93 rfl 9 4 Tryz.underlying9 Tryz.underlying4 Tryz.underlying93 wz.heap.size n _ rfl HSD.out t.name rfl rfl HNM.out (by have:=HNI.out;have:=HLE.out.2.1;unfold maxLen;omega) ?_)
      intro w3 h3 hg3
      obtain⟨hf3,hk3⟩:=HFLD.out.map HWZ.out HSD.out hg3
      have hx3:w3.heap[wr.heap.size]? = some (tskObj t q):=hk3.cells HX0.out (by have:=HZR.out;omega) (by decide) (by decide)
      have HQ:=ξ (HEND.out w3 _ false L1 HBB.out (by simp[declOne]) (HFR.out.trans ((FrK.of HFD.out).trans hk3)) hf3 (by rw[List.map_take];exact h3))
      clear h3 hg3 hf3 hk3 k1 x0 g0 g1 g2 g3 g4 g5 g6 g7 hD
      have g0:=mem_cell hx3 0
      have g1:=mem_cell hx3 1
      have g2:=mem_cell hx3 2
      have g3:=mem_cell hx3 3
      have g4:=mem_cell hx3 4
      have g5:=mem_cell hx3 5
      have g6:=mem_cell hx3 6
      have g7:=mem_cell hx3 7
      simp only[List.getElem?_toArray,List.getElem?_cons_zero,List.getElem?_cons_succ] at g0 g1 g2 g3 g4 g5 g6 g7
      clear hx3
      go_wp2_with fail
      clear g0 g1 g2 g3 g4 g5 g6 g7
      refine HQ.out.mono ?_
      rintro e w4 ⟨v2,L2,rfl,ha,hb2,hl2,hn4,hk4,hs4,hm4⟩
      obtain⟨va2,vc2,rfl⟩:=own_val hb2.ro
      have HA4:=ξ ha
      have HB4:=ξ hb2
      have HL4:=ξ hl2
      have HN4:=ξ hn4
      have HK4:=ξ hk4
      have HS4:=ξ hs4
      have HM4:=ξ hm4
      clear ha hb2 hl2 hn4 hk4 hs4 hm4 HQ
      go_wp2_with (at_builtin;refine wpList_append_src _ rfl (.tmp 58) (.tmp 62) 85 rfl w.heap.size 116 ti _ 4 56 Tryz.underlying85 hti hz0 hz1 hz2 rfl (by decide) (.slice va1 L1.length vc1) L1.length (L1.flatMap FltP.cells) rfl HA4.out.ro va2 L2.length vc2 (L2.flatMap FltP.cells) rfl HB4.out.src HB4.out.ones (by have:=HLEN.out;have:=HL4.out;have:=HLE.out.2.1;unfold maxLen;omega) (by have:=HLEN.out;have:=HL4.out;have:=HLE.out.2.1;omega) HN4.out ?_)
      intro v5 w5 hown5 hg5 _
      have HF5:Hid (FltsAt w.heap.size w5 v5 (L1++L2)):=HA4.out.join HN4.out hg5 HB4.out.ri hown5
      have HG5:Hid (FrT w.heap.size w4 w5):=HA4.out.grown HN4.out hg5
      clear hown5 hg5
      go_wp2_with fail
      go_roundw
      case rel=>exact⟨i+1,L1++L2,n+1,by omega,by go_num,by have:=HNI.out;omega,HK4.out.trans (FrK.of HG5.out),HF5.out,HG5.out.set HS4.out,HM4.out,by have:=HLEN.out;have:=HL4.out;rw[List.length_append];omega⟩
      case measure=>simp[intOf];omega
     | true =>
      rw[hb] at k1
      have HBB:=ξ hb
      clear hb
      obtain⟨f,hf⟩:∃ f:FltP,(⟨i,⟨[],8,t.name⟩,.slice none 0 0⟩:FltP)=f:=⟨_,rfl⟩
      obtain⟨D2,hD2⟩:∃ D2:World,D.alloc (.cells #[.int .i64 (i:Int),.slice none 0 0,.int .i64 8,.string t.name] 116)=D2:=⟨_,rfl⟩
      have hBD2:Below D.heap.size D D2:=by rw[←hD2];exact mem_alloc _ _
      have HLIT:Hid (∀ (k:Nat) (u:Value),(FltP.mk (i:Int) ⟨[],8,t.name⟩ (.slice none 0 0)).cells[k]? = some u→D2.cell? ((⟨D.heap.size,0,none⟩:Addr).add k)=some u):=by
       show ∀ _ _,_
       rw[←hD2]
       exact one_newF D ⟨i,⟨[],8,t.name⟩,.slice none 0 0⟩
      have HFL2:Hid (FltsAt w.heap.size D2 (.slice va1 L1.length vc1) L1):=HFLD.out.keep hBD2
      have HFD2:Hid (FrT w.heap.size D D2):=FrT.of hBD2 HND.out
      have HN2:Hid (w.heap.size≤D2.heap.size):=Nat.le_trans HND.out hBD2.size
      clear hBD2
      go_wp2_with (at_builtin;refine wpList_append_row _ rfl (.tmp 48) (.tmp 53) 85 rfl w.heap.size 116 ti _ 4 56 Tryz.underlying85 hti hz0 hz1 hz2 rfl (by decide) (.slice va1 L1.length vc1) L1.length (L1.flatMap FltP.cells) rfl HFL2.out.ro ⟨D.heap.size,0,none⟩ 1 1 (FltP.mk (i:Int) ⟨[],8,t.name⟩ (.slice none 0 0)).cells rfl rfl HLIT.out (FltP.one _ rfl) (by decide) (by have:=HLEN.out;have:=HLE.out.2.1;unfold maxLen;omega) (by have:=HLEN.out;have:=HLE.out.2.1;omega) HN2.out ?_)
      intro gb cap w2 hown2 hgrow2 _
      have HG2:Hid (FrT w.heap.size D2 w2):=HFL2.out.grown HN2.out hgrow2
      have HF2:Hid (FltsAt w.heap.size w2 (.slice (some ⟨gb,0,none⟩) (L1.length+1) cap) (L1++[f])):=by
       show FltsAt _ _ _ _
       exact HFL2.out.push (f:=f) HN2.out hgrow2 (by rw[←hf];exact World.ownsRow_nil _ _ _ _) hown2 rfl
      have HS2:Hid (SetS w2 wz.heap.size n ((p.tasks.take i).map (·.name))):=HG2.out.set (HFD2.out.set HSD.out)
      have HX2:Hid (w2.heap[wr.heap.size]? = some (tskObj t q)):=(HFD2.out.trans HG2.out).cells HX0.out (by decide) (by decide)
      have x2:w2.cell? ⟨wr.heap.size,0,none⟩=some (.string t.name):=mem_cell HX2.out 0
      clear hown2 hgrow2 k1 x0 g0 g1 g2 g3 g4 g5 g6 g7 hD hD2
      go_wp2_with (at_mapUpdate;refine wpList_store_str _ rfl _ _ _ 93 rfl 9 4 Tryz.underlying9 Tryz.underlying4 Tryz.underlying93 wz.heap.size n _ rfl HS2.out t.name rfl rfl HNM.out (by have:=HNI.out;have:=HLE.out.2.1;unfold maxLen;omega) ?_)
      intro w3 h3 hg3
      obtain⟨hf3,hk3⟩:=HF2.out.map HWZ.out HS2.out hg3
      have hx3:w3.heap[wr.heap.size]? = some (tskObj t q):=hk3.cells HX2.out (by have:=HZR.out;omega) (by decide) (by decide)
      have HQ:=ξ (HEND.out w3 _ true (L1++[f]) HBB.out (by rw[←hf];rfl) (HFR.out.trans ((FrK.of (HFD.out.trans (HFD2.out.trans HG2.out))).trans hk3)) hf3 (by rw[List.map_take];exact h3))
      clear h3 hg3 hf3 hk3 x2
      have g0:=mem_cell hx3 0
      have g1:=mem_cell hx3 1
      have g2:=mem_cell hx3 2
      have g3:=mem_cell hx3 3
      have g4:=mem_cell hx3 4
      have g5:=mem_cell hx3 5
      have g6:=mem_cell hx3 6
      have g7:=mem_cell hx3 7
      simp only[List.getElem?_toArray,List.getElem?_cons_zero,List.getElem?_cons_succ] at g0 g1 g2 g3 g4 g5 g6 g7
      clear hx3
      go_wp2_with fail
      clear g0 g1 g2 g3 g4 g5 g6 g7
      refine HQ.out.mono ?_
      rintro e w4 ⟨v2,L2,rfl,ha,hb2,hl2,hn4,hk4,hs4,hm4⟩
      obtain⟨va2,vc2,rfl⟩:=own_val hb2.ro
      have HA4:=ξ ha
      have HB4:=ξ hb2
      have HL4:=ξ hl2
      have HN4:=ξ hn4
      have HK4:=ξ hk4
      have HS4:=ξ hs4
      have HM4:=ξ hm4
      have HRO4:Hid (w4.ownsRow w.heap.size 116 4 (.slice (some ⟨gb,0,none⟩) (L1.length+1) cap) (L1.length+1) ((L1++[f]).flatMap FltP.cells)):=by
       have h:=ha.ro
       rw[List.length_append] at h
       exact h
      clear ha hb2 hl2 hn4 hk4 hs4 hm4 HQ
      go_wp2_with (at_builtin;refine wpList_append_src _ rfl (.tmp 58) (.tmp 62) 85 rfl w.heap.size 116 ti _ 4 56 Tryz.underlying85 hti hz0 hz1 hz2 rfl (by decide) (.slice (some ⟨gb,0,none⟩) (L1.length+1) cap) (L1.length+1) ((L1++[f]).flatMap FltP.cells) rfl HRO4.out va2 L2.length vc2 (L2.flatMap FltP.cells) rfl HB4.out.src HB4.out.ones (by have:=HLEN.out;have:=HL4.out;have:=HLE.out.2.1;unfold maxLen;omega) (by have:=HLEN.out;have:=HL4.out;have:=HLE.out.2.1;omega) HN4.out ?_)
      intro v5 w5 hown5 hg5 _
      have HF5:Hid (FltsAt w.heap.size w5 v5 ((L1++[f])++L2)):=HA4.out.join HN4.out hg5 HB4.out.ri (by have h:=hown5;simp only[List.length_append,List.length_singleton,List.flatMap_append,List.flatMap_cons,List.flatMap_nil,List.append_nil,List.append_assoc] at h ⊢;exact h)
      have HG5:Hid (FrT w.heap.size w4 w5):=HA4.out.grown HN4.out hg5
      clear hown5 hg5
      go_wp2_with fail
      go_roundw
      case rel=>exact⟨i+1,(L1++[f])++L2,n+1,by omega,by go_num,by have:=HNI.out;omega,HK4.out.trans (FrK.of HG5.out),HF5.out,HG5.out.set HS4.out,HM4.out,by have:=HLEN.out;have:=HL4.out;simp only[List.length_append,List.length_singleton];omega⟩
      case measure=>simp[intOf];omega
    ·obtain rfl:i=p.tasks.length:=by omega
     have HM:Hid (flat L1=checkE p):=by
      have h:=HMAP.out
      rw[List.take_length] at h
      show _=_
      rw[h,HCE.out]
      rfl
     go_wp2_with fail
     go_ret
     exact⟨_,rfl,L1,HFL.out,HM.out,by have:=HLEN.out;have:=HLE.out.2.1;omega,HBWR2.out⟩
set_option maxHeartbeats 4000000
def okP(p:Prg):Bool:=prgOk p && (checkE p).isEmpty
theorem ok15_any(p:Prg)(w:World)(sa ta:Option Addr)(sc tc:Nat)(hp:PrgAt w p sa ta)(hg:SignsIn w) :
 Calls Tryz.prog 15 #[p.val sa sc ta tc] w fun e w'=>e = .returned (.bool (okP p))∧Below w.heap.size w w':=by
 obtain⟨W,hW⟩:∃ W:World,w.alloc (prgObj p sa sc ta tc)=W:=⟨_,rfl⟩
 have HBW:Hid (Below w.heap.size w W):=by show Below _ _ _;rw[←hW];exact mem_alloc _ _
 have HBX:Hid (W.heap[w.heap.size]? = some (prgObj p sa sc ta tc)):=by show _=_;rw[←hW];exact mem_new _ _
 have y0:W.cell? ⟨w.heap.size,0,none⟩=some (.slice sa p.shared.length sc):=mem_cell HBX.out 0
 have y1:W.cell? ⟨w.heap.size,1,none⟩=some (.slice ta p.tasks.length tc):=mem_cell HBX.out 1
 have HP:=ξ (hp.below HBW.out)
 have HG:=ξ (hg.below HBW.out)
 clear hp hg
 go_enter Tryz.func15,Tryz.ntmps15
 go_wp2_with fail
 clear hW y0 y1
 refine (valid_any p W sa ta sc tc HP.out HG.out).mono ?_
 rintro e w1 ⟨rfl,hB1⟩
 have HBX1:Hid (w1.heap[w.heap.size]? = some (prgObj p sa sc ta tc)):=mem_keep HBX.out hB1
 have HP1:=ξ (HP.out.below hB1)
 have HG1:=ξ (HG.out.below hB1)
 have HB1:Hid (Below w.heap.size w w1):=HBW.out.trans (hB1.mono HBW.out.size)
 clear hB1 HP HG HBW HBX
 cases hv:prgOk p with
 | false =>
  have HE:Hid (okP p=false):=by show _=_;unfold okP;rw[hv];rfl
  clear hv
  go_wp2_with fail
  go_ret
  exact⟨by rw[HE.out];rfl,HB1.out⟩
 | true =>
  have HV:=ξ hv
  clear hv
  have y0:w1.cell? ⟨w.heap.size,0,none⟩=some (.slice sa p.shared.length sc):=mem_cell HBX1.out 0
  have y1:w1.cell? ⟨w.heap.size,1,none⟩=some (.slice ta p.tasks.length tc):=mem_cell HBX1.out 1
  go_wp2_with fail
  clear y0 y1
  refine (check_any p w1 sa ta sc tc HP1.out HG1.out).mono ?_
  rintro e w2 ⟨v,L,rfl,hL,hF,hlen,hB2⟩
  obtain⟨va,vc,rfl⟩:=own_val hL.ro
  have HB2:Hid (Below w.heap.size w w2):=HB1.out.trans (hB2.mono HB1.out.size)
  have HF:=ξ hF
  clear hL hF hB2
  cases L with
  | nil =>
   have HE:Hid (okP p=true):=by show _=_;unfold okP;rw[HV.out,←HF.out];rfl
   go_wp2_with fail
   go_ret
   exact⟨by rw[HE.out];rfl,HB2.out⟩
  | cons f L =>
   have HE:Hid (okP p=false):=by show _=_;unfold okP;rw[HV.out,←HF.out];rfl
   have hz:(((L.length+1:Nat):Int) == 0)=false:=by simp;omega
   rw[List.length_cons]
   go_wp2_with fail
   go_ret
   exact⟨by rw[HE.out];rfl,HB2.out⟩
def IRow(w:World)(a:Option Addr)(p:List Int):Prop:=p.length≤9223372036854775807∧∀ i,i<p.length→∃ b off,a=some ⟨b,off,none⟩∧w.cell? ⟨b,off+i,none⟩=some (.int .i64 (p.getD i 0))
theorem IRow.nil{w:World}{a:Option Addr}:IRow w a []:=⟨by simp,fun i h=>by simp at h⟩
theorem IRow.below{w w':World}{a:Option Addr}{p:List Int}(h:IRow w a p)(hB:Below w.heap.size w w'):IRow w' a p:=
 ⟨h.1,fun i hi=>by obtain⟨b,off,ha,hc⟩:=h.2 i hi;exact⟨b,off,ha,(hB.cell (p:=⟨b,off+i,none⟩) (World.block_lt_of_cell? w _ hc)).trans hc⟩⟩
theorem PathV.row{N:Nat}{w:World}{a:Option Addr}{c:Nat}{p:List Int}(h:PathV N w (.slice a p.length c) p):IRow w a p:=by
 refine⟨own_size h,fun i hi=>?_⟩
 obtain⟨b,rfl,_,_⟩:=own_at h (by omega)
 refine⟨b,0,rfl,?_⟩
 rw[Nat.zero_add]
 refine own_get h ?_
 unfold ints
 simp[hi]
theorem FltsAt.cell{N g m cap j:Nat}{w:World}{L:List FltP}{u:Value}(h:FltsAt N w (.slice (some ⟨g,0,none⟩) m cap) L)(hu:(L.flatMap FltP.cells)[j]? = some u):w.cell? ⟨g,j,none⟩=some u:=own_get h.ro hu
set_option maxHeartbeats 8000000
def PathsAt(w:World)(a:Option Addr)(ps:List (List Int)):Prop:=ps.length≤9223372036854775807∧∀ i,i<ps.length→∃ b off pa pc,a=some ⟨b,off,none⟩∧w.cell? ⟨b,off+i,none⟩=some (.slice pa (ps.getD i []).length pc)∧IRow w pa (ps.getD i [])
theorem PathsAt.below{w w':World}{a:Option Addr}{ps:List (List Int)}(h:PathsAt w a ps)(hB:Below w.heap.size w w'):PathsAt w' a ps:=
 ⟨h.1,fun i hi=>by obtain⟨b,off,pa,pc,ha,hc,hr⟩:=h.2 i hi;exact⟨b,off,pa,pc,ha,(hB.cell (p:=⟨b,off+i,none⟩) (World.block_lt_of_cell? w _ hc)).trans hc,hr.below hB⟩⟩
theorem src_cells{w:World}{b off m size:Nat}(h:∀ j,j<m*size→∃ u,w.cell? ⟨b,off+j,none⟩=some u∧u.oneCell'=true) :
 ∃ news:List Value,Src w (some ⟨b,off,none⟩) m size news∧(∀ j,j<m*size→w.cell? ⟨b,off+j,none⟩=news[j]?)∧∀ u∈news,u.oneCell'=true:=by
 have add:∀ j,(⟨b,off,none⟩:Addr).add j=⟨b,off+j,none⟩:=fun j=>by
  unfold Addr.add
  by_cases h0:j=0 <;> simp[h0]
 have hm:∀ j,∃ u:Value,j<m*size→w.cell? ⟨b,off+j,none⟩=some u∧u.oneCell'=true:=fun j=>by
  by_cases hj:j<m*size
  ·obtain⟨u,hu⟩:=h j hj
   exact⟨u,fun _=>hu⟩
  ·exact⟨.bool false,fun h=>absurd h hj⟩
 obtain⟨f,hf⟩:=Classical.axiomOfChoice hm
 refine⟨(List.range (m*size)).map f,⟨by simp,.inr ⟨_,rfl,fun j u hu=>?_⟩⟩,fun j hj=>?_,fun u hu=>?_⟩
 ·rw[List.getElem?_map] at hu
  obtain⟨k,hk,rfl⟩:=Option.map_eq_some_iff.1 hu
  obtain⟨hj,rfl⟩:=List.getElem?_eq_some_iff.1 hk
  have hj':j<m*size:=by simpa using hj
  rw[add]
  simp only[List.getElem_range]
  exact (hf j hj').1
 ·rw[(hf j hj).1]
  simp[hj]
 ·obtain⟨k,hk,rfl⟩:=List.mem_map.1 hu
  exact (hf k (by simpa using hk)).2
theorem tsk_ones{t:Tsk}{p:TskPlace}{o:Nat}{u:Value}(h:(t.cells p)[o]? = some u):u.oneCell'=true:=by
 unfold Tsk.cells at h
 match o,h with
 | 0,h=>cases h;rfl
 | 1,h=>cases h;rfl
 | 2,h=>cases h;rfl
 | 3,h=>cases h;rfl
 | 4,h=>cases h;rfl
 | 5,h=>cases h;rfl
 | 6,h=>cases h;rfl
 | 7,h=>cases h;rfl
theorem TsksAt.src{w:World}{b off:Nat}{l:List Tsk}(h:TsksAt w (some ⟨b,off,none⟩) l) :
 ∃ news:List Value,Src w (some ⟨b,off,none⟩) l.length 8 news∧(∀ j,j<l.length*8→w.cell? ⟨b,off+j,none⟩=news[j]?)∧∀ u∈news,u.oneCell'=true:=
 src_cells fun j hj=>by
  obtain⟨b',off',p,ha,hc,_⟩:=h.2 (j / 8) (by omega)
  cases ha
  have:=hc (j % 8) (by omega)
  rw[show off+j / 8*8+j % 8=off+j by omega] at this
  have hs:j % 8<((l.getD (j / 8) Tsk.none).cells p).size:=by show j % 8<8;omega
  rw[Array.getElem?_eq_getElem hs] at this
  exact⟨_,this,tsk_ones (Array.getElem?_eq_getElem hs)⟩
theorem tsk_info:(Tryz.prog.info? 49).map (fun i=>(i.zero,i.size,i.bytes))=some (some (.agg #[.string ⟨#[]⟩,.int .i64 0,.slice none 0 0,.slice none 0 0,.int .u8 0,.int .i64 0,.string ⟨#[]⟩,.slice none 0 0]),8,128):=by kernel_rfl
