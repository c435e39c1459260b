/- Part. -/
import Derived.Test.YtkpdngfkdmllkaaGreatDoorMg40
import Derived.Test.YtkpdngfkdmllkaaGreatDoorSimF
import Derived.Test.YtkpdngfkdmllkaaGreatDoorInJob
import Derived.Deep.RegionHeld
import Derived.Deep.RegionHeld3
import Derived.Deep.DeepCutAuto
namespace Go.Proofs.YtkpdngfkdmllkaaGreatDoor
set_option linter.unusedVariables false
set_option linter.unusedSimpArgs false
open Go.RowKit Go.Maps
set_option maxRecDepth 100000
set_option maxHeartbeats 16000000
theorem words_ir{w:World}{a:Option Addr}{l:List Int}(h:WordsAt w a l):IrWordsAt w a l:=⟨h.fits,h.words,h.at_⟩
theorem cont_ir{w:World}{a:Option Addr}{l:List (List Int)}(h:ContAt w a l):IrContAt w a l:=by
 refine⟨h.fits,?_⟩
 rcases h.at_ with h0|⟨b,off,ha,hk⟩
 ·exact .inl h0
 ·refine .inr ⟨b,off,ha,fun k r hr=>?_⟩
  obtain⟨ra,rc,h1,h2,h3⟩:=hk k r hr
  exact⟨ra,rc,h1,h2,words_ir h3⟩
theorem outs_ir{w:World}{a:Option Addr}{l:List (Int×Int)}(h:OutAt w a l):OutsAt w a l:=by
 refine⟨h.1,?_⟩
 by_cases h0:l.length=0
 ·exact .inl h0
 ·obtain⟨x,hx⟩:∃ x,l[0]? = some x:=⟨_,List.getElem?_eq_getElem (by omega)⟩
  obtain⟨b,o,ha,_⟩:=h.2 0 x hx
  refine .inr ⟨b,o,ha,fun k p hp=>?_⟩
  obtain⟨b',o',ha',h1,h2⟩:=h.2 k p hp
  rw[ha] at ha'
  cases ha'
  exact⟨h1,h2⟩
theorem okP_taskS{p:Prg}(h:okP p=true){j:Nat}(hj:j<p.tasks.length):taskF (p.shared.map (·.name)) (p.tasks.getD j Tsk.none) = []:=by
 have hp:=okP_ok h
 unfold okP at h
 rw[Bool.and_eq_true] at h
 have h2:=h.2
 unfold checkE at h2
 rw[if_pos hp] at h2
 have h2:=List.isEmpty_iff.1 h2
 unfold checkF at h2
 rw[List.append_eq_nil_iff,List.map_eq_nil_iff] at h2
 exact tasksF_none _ _ _ h2.2 _ (by simp[hj])
theorem jobP_runs{p:Prg}{j:Nat}{M:Mem}{inp:List Int}{F:Int}(hok:okP p=true)(hj:j<p.tasks.length)(hf:fitsP p M=true):jobP p (j:Int) M inp F=runR p j M ((p.tasks.getD j Tsk.none).body.ex F inp (jobS p j M)):=by
 unfold jobP
 rw[if_neg (by rw[hok];decide),if_neg (by omega),if_neg (by rw[hf];decide),Int.toNat_natCast]
abbrev Res.obj(R:Res)(aa:Option Addr)(ac:Nat)(sa:Option Addr)(sc:Nat)(oa:Option Addr)(oc:Nat):Obj:=resObj (.slice aa R.mem.arrays.length ac) (.slice sa R.mem.shared.length sc) (.slice oa R.out.length oc) R.rd R.st R.err
theorem below_dS(W:World)(m:Nat):Below W.heap.size W (W.drewN m):=⟨rfl,rfl,rfl,Nat.le_refl _,fun _ _=>rfl⟩
theorem mem_two'{w:World}{b:Nat}{x0 x1:Value}{T:TypeId}(h:w.heap[b]? = some (.cells #[x0,x1] T)):w.cell? ⟨b,0,none⟩=some x0∧w.cell? ⟨b,1,none⟩=some x1:=⟨mem_cell h 0,mem_cell h 1⟩
theorem lowerSame_any(p:Prg)(k:Int)(M:Mem)(inp:List Int)(w:World)(sa ta:Option Addr)(sc tc:Nat)(ma ms:Option Addr)(mac msc:Nat)(ia:Option Addr)(ic:Nat)
 (hp:PrgAt w p sa ta) (hm:MemAt w M ma ms) (hi:WordsAt w ia inp) (hg:SignsIn w) (hk:isI64 k) :
 Calls Tryz.prog 3 #[p.val sa sc ta tc,.int .i64 k,M.val ma mac ms msc,.slice ia inp.length ic] w fun e w'=>e = .returned (.bool true)∧Below w.heap.size w w':=by
 have htl:=hp.2.1
 have hil:=hi.fits
 have HKK:=ξ hk
 have hk1:=hk.1
 have hk2:=hk.2
 obtain⟨W,hW⟩:∃ W:World,w.alloc (prgObj p sa sc ta tc)=W:=⟨_,rfl⟩
 have hBW:Below w.heap.size w W:=by rw[←hW];exact mem_alloc _ _
 have hXW:W.heap[w.heap.size]? = some (prgObj p sa sc ta tc):=by rw[←hW];exact mem_new _ _
 obtain⟨A0,hA0⟩:∃ W2:World,W.alloc (memObj M ma mac ms msc)=W2:=⟨_,rfl⟩
 have hBW2:Below W.heap.size W A0:=by rw[←hA0];exact mem_alloc _ _
 have hXW2:A0.heap[W.heap.size]? = some (memObj M ma mac ms msc):=by rw[←hA0];exact mem_new _ _
 have HK:Hid (∀ w',Below A0.heap.size A0 w'→w'.heap[w.heap.size]? = some (prgObj p sa sc ta tc)∧PrgAt w' p sa ta∧Below w.heap.size w w'∧SignsIn w'∧w'.heap[W.heap.size]? = some (memObj M ma mac ms msc)∧MemAt w' M ma ms∧WordsAt w' ia inp):=fun w' hw=>by
  have hb:=mem_then (mem_then hBW hBW2) hw
  exact⟨mem_keep (mem_keep hXW hBW2) hw,hp.below hb,hb,hg.below hb,mem_keep hXW2 hw,hm.below hb,hi.below hb⟩
 clear hp hm hi hg hk hBW hXW hBW2 hXW2
 go_enter Tryz.func3,Tryz.ntmps3
 go_wp2_with fail
 clear hW hA0
 refine (lawake_any A0 (HK.out A0 (Below.refl _ _)).2.2.2.1).mono ?_
 rintro e w1 ⟨rfl,hB1⟩
 have HB1:=ξ hB1
 obtain⟨y0,y1⟩:=mem_two' (HK.out w1 hB1).1
 clear hB1
 go_wp2_with fail
 clear y0 y1
 refine (translated_fn p k w1 sa ta sc tc (HK.out w1 HB1.out).2.1 (HK.out w1 HB1.out).2.2.2.1 HKK.out).mono ?_
 rintro e w2 ⟨F,b,aa,ac,ba,bc,rfl,hfn,hB2,hyes⟩
 have HB2:=ξ (mem_then HB1.out hB2)
 obtain⟨an,hn1⟩:∃ n,F.arrays.length=n:=⟨_,rfl⟩
 obtain⟨bn,hn2⟩:∃ n,F.blocks.length=n:=⟨_,rfl⟩
 have HNN:Hid (F.arrays.length=an∧F.blocks.length=bn):=⟨hn1,hn2⟩
 simp only[hn1,hn2]
 obtain⟨V,hV⟩:∃ X:World,w2.alloc (fnObj F.name F.regs (.slice aa an ac) (.slice ba bn bc))=X:=⟨_,rfl⟩
 have HV0:Hid (Below w2.heap.size w2 V):=by show Below _ _ _;rw[←hV];exact mem_alloc _ _
 have HVX:Hid (V.heap[w2.heap.size]? = some (fnObj F.name F.regs (.slice aa an ac) (.slice ba bn bc))):=by show _=_;rw[←hV];exact mem_new _ _
 have HFN:=ξ (hfn.at_.below HV0.out)
 have HV:=ξ (mem_then HB2.out HV0.out)
 clear hfn hB2 hn1 hn2
 cases b with
 | false =>
  clear hyes
  go_wp2_with fail
  go_ret
  exact⟨rfl,(HK.out V HV.out).2.2.1⟩
 | true =>
 obtain⟨hok,⟨hk0,hkl⟩,hF⟩:=hyes rfl
 have HOK:=ξ hok
 have HF:=ξ hF
 obtain⟨j,rfl⟩:∃ j:Nat,k=(j:Int):=⟨k.toNat,by omega⟩
 have hj:j<p.tasks.length:=by omega
 have HJ:=ξ hj
 obtain⟨tb,to',q,rfl,htc,htin⟩:=(HK.out V HV.out).2.1.2.2 j hj
 obtain⟨t,ht⟩:∃ t,p.tasks.getD j Tsk.none=t:=⟨_,rfl⟩
 have HT:=ξ ht
 rw[ht] at htc htin
 have HTI:=ξ htin
 have HTC:=ξ htc
 have htv:=(prgOk_le (okP_ok HOK.out)).2.2 j hj
 rw[HT.out] at htv
 have HTV:=ξ htv
 have HLF:Hid (F=lowFn p.shared (p.tasks.getD j Tsk.none)):=by show _=_;rw[HF.out,Int.toNat_natCast]
 have HFI:=ξ (fits16_any p M V sa (some ⟨tb,to',none⟩) sc tc ma ms mac msc (HK.out V HV.out).2.1 (HK.out V HV.out).2.2.2.2.2.1 (HK.out V HV.out).2.2.2.1)
 obtain⟨y0,y1⟩:=mem_two' (HK.out V HV.out).1
 obtain⟨z0,z1⟩:=mem_two' (HK.out V HV.out).2.2.2.2.1
 clear hyes hok hF htc htin ht htv
 go_wp2_with fail
 clear hV y0 y1 z0 z1
 refine HFI.out.mono ?_
 rintro e w3 ⟨rfl,hB3⟩
 have HB30:=ξ hB3
 have HB3:=ξ (mem_then HV.out hB3)
 clear hB3 HFI
 cases hfit:fitsP p M with
 | false =>
  clear hfit
  go_wp2_with fail
  go_ret
  exact⟨rfl,(HK.out w3 HB3.out).2.2.1⟩
 | true =>
 have HFIT:=ξ hfit
 clear hfit
 by_cases h100:(100:Int)<(inp.length:Int)
 ·go_wp2_with fail
  go_ret
  exact⟨rfl,(HK.out w3 HB3.out).2.2.1⟩
 have hn100:decide ((100:Int)<(inp.length:Int))=false:=decide_eq_false h100
 obtain⟨y0,y1⟩:=mem_two' (HK.out w3 HB3.out).1
 obtain⟨z0,z1⟩:=mem_two' (HK.out w3 HB3.out).2.2.2.2.1
 have HJOB:=ξ (job_any p (j:Int) M inp 300 w3 sa (some ⟨tb,to',none⟩) sc tc ma ms mac msc ia ic (HK.out w3 HB3.out).2.1 (HK.out w3 HB3.out).2.2.2.2.2.1 (HK.out w3 HB3.out).2.2.2.2.2.2 (HK.out w3 HB3.out).2.2.2.1 HKK.out (by decide) (by omega))
 go_wp2_with fail
 clear y0 y1 z0 z1
 refine HJOB.out.mono ?_
 rintro e w4 ⟨ra,rac,rs,rsc,ro,roc,rfl,hra,hB4,_,_⟩
 have HB40:=ξ (mem_then HB30.out hB4)
 have HB4:=ξ (mem_then HB3.out hB4)
 obtain⟨r,hr⟩:∃ r,(p.tasks.getD j Tsk.none).body.ex 300 inp (jobS p j M)=r:=⟨_,rfl⟩
 have HR:=ξ hr
 have hjr:=jobP_runs (inp:=inp) (F:=300) HOK.out HJ.out HFIT.out
 rw[hr] at hjr
 rw[hjr] at hra⊢
 obtain⟨R,hRR⟩:∃ R,runR p j M r=R:=⟨_,rfl⟩
 have HRR:=ξ hRR
 rw[hRR] at hra⊢
 have HRA0:=ξ hra
 obtain⟨X,hX⟩:∃ X:World,w4.alloc (Res.obj R ra rac rs rsc ro roc)=X:=⟨_,rfl⟩
 have hBX:Below w4.heap.size w4 X:=by rw[←hX];exact mem_alloc _ _
 have HXX:Hid (X.heap[w4.heap.size]? = some (Res.obj R ra rac rs rsc ro roc)):=by show _=_;rw[←hX];exact mem_new _ _
 have HBX0:=ξ (mem_then HB40.out hBX)
 have HBX:=ξ (mem_then HB4.out hBX)
 have HRA:Hid (ResAt X R ra rs ro):=⟨HRA0.out.mem.below hBX,HRA0.out.out.below hBX⟩
 obtain⟨x0,x1,x2,x3,x4,x5⟩:=res_cells HXX.out
 clear HJOB hr hjr hRR hra hB4 hBX HRA0
 by_cases h13:R.err=13
 ·have b1:(R.err == 13)=true:=by simpa using h13
  have b1':decide (R.err=13)=true:=decide_eq_true h13
  clear h13
  go_wp2_with fail
  go_ret
  exact⟨rfl,(HK.out X HBX.out).2.2.1⟩
 have b1:(R.err == 13)=false:=by simpa using h13
 have b1':decide (R.err=13)=false:=decide_eq_false h13
 have HERR:Hid (r.2≠13):=by have h:=h13;rw[←HRR.out] at h;exact h
 clear h13
 have HST:Hid (R.st≤300∧R.st=r.1.st):=by
  have h0:((jobS p j M).st:Int)=0:=rfl
  have h5:=(ex_grows 300 inp (p.tasks.getD j Tsk.none).body (jobS p j M)).2.2.2.2 (by rw[h0];decide)
  rw[HR.out] at h5
  show _∧_
  rw[←HRR.out]
  refine⟨?_,rfl⟩
  show r.1.st≤300
  omega
 obtain⟨fu,hfu⟩:∃ fu:Nat,20*(t.body.size+1)*(R.st+1)=fu:=⟨_,rfl⟩
 have HFU:Hid (fu≤4000000):=by
  have h1:20*(t.body.size+1)*(R.st+1)≤20*(400+1)*(300+1):=Nat.mul_le_mul (Nat.mul_le_mul_left _ (by have:=(tskOk_le HTV.out).2.2;omega)) (by have:=HST.out.1;omega)
  show fu≤_
  omega
 have hfu2:(20*((t.body.size:Int)+1))*((R.st:Int)+1)=(fu:Int):=by rw[←hfu];push_cast;rfl
 have HSAME:Hid (SameRun p j r (runOf F (p.shared.map arrP) (M.arrays.getD j []) M.shared inp (fu:Int))):=by
  show SameRun _ _ _ _
  rw[HLF.out,←HR.out]
  exact run_same HOK.out HJ.out (okP_taskS HOK.out HJ.out) HFIT.out (by rw[HR.out];exact HERR.out) (by rw[HT.out];have h:=HR.out;rw[HT.out] at h;rw[h,←HST.out.2,hfu];exact Nat.le_refl _)
 have hszt:t.body.size≤400:=(tskOk_le HTV.out).2.2
 have hst300:=HST.out.1
 have HCT:Hid (∀ w',Below V.heap.size V w'→w'.cell? ⟨tb,to'+j*8+4,none⟩=some (.int .u8 t.body.kind)∧w'.cell? ⟨tb,to'+j*8+5,none⟩=some (.int .i64 t.body.num)∧w'.cell? ⟨tb,to'+j*8+6,none⟩=some (.string t.body.name)∧w'.cell? ⟨tb,to'+j*8+7,none⟩=some (.slice q.ka t.body.len q.kc)∧Rep w' t.body q.ka):=fun w' h=>by
  obtain⟨⟨g0,g1,g2,g3,g4,g5,g6,g7⟩,_⟩:=tsk_cells h HTC.out
  exact⟨g4,g5,g6,g7,HTI.out.body.below h⟩
 have HMUL:Hid (20*((t.body.size:Int)+1)*((R.st:Int)+1)=(fu:Int)):=hfu2
 have hfub:fu≤4000000:=HFU.out
 clear hfu hfu2
 go_upto_region 9 with fail
 clear x0 x1 x2 x3 x4 x5 hX
 refine wp_region_held_drew (S:=fun w'=>Below X.heap.size X w') (by kernel_rfl) ((Below.refl _ _).drew) (fun hHeld=>?_)
 generalize hwd:World.drew X=v1 at hHeld⊢
 clear hwd
 have HHV:=ξ hHeld
 refine hT 0 (.pointer (some ⟨w.heap.size,1,none⟩)) rfl (hy:=?_) (h:=?_)
 ·intro w' hSw;go_simp
 (try simp only[Act.put,pZ])
 refine hT 1 (.slice (some ⟨tb,to',none⟩) p.tasks.length tc) rfl (hy:=?_) (h:=?_)
 ·intro w' hSw;obtain⟨z0,z1⟩:=mem_two' (HK.out _ (mem_then HBX.out hSw)).1;go_simp
 (try simp only[Act.put,pZ])
 refine hT 2 (.int .i64 (j:Int)) rfl (hy:=?_) (h:=?_)
 ·intro w' hSw;go_simp
 (try simp only[Act.put,pZ])
 refine hT 3 (.pointer (some ⟨tb,to'+j*8,none⟩)) rfl (hy:=?_) (h:=?_)
 ·intro w' hSw;go_simp
 (try simp only[Act.put,pZ])
 refine hT 4 (.pointer (some ⟨tb,to'+j*8+4,none⟩)) rfl (hy:=?_) (h:=?_)
 ·intro w' hSw;go_simp
 (try simp only[Act.put,pZ])
 refine hT 5 (.agg #[.int .u8 t.body.kind,.int .i64 t.body.num,.string t.body.name,.slice q.ka t.body.len q.kc]) rfl (hy:=?_) (h:=?_)
 ·intro w' hSw;obtain⟨z4,z5,z6,z7,_⟩:=HCT.out _ (mem_then HBX0.out hSw);go_simp
 (try simp only[Act.put,pZ])
 refine hT 9 (.pointer (some ⟨w4.heap.size,4,none⟩)) rfl (hy:=?_) (h:=?_)
 ·intro w' hSw;go_simp
 (try simp only[Act.put,pZ])
 refine hT 10 (.int .i64 (R.st:Int)) rfl (hy:=?_) (h:=?_)
 ·intro w' hSw;obtain⟨z0,z1,z2,z3,z4,z5⟩:=res_cells (mem_keep HXX.out hSw);go_simp
 (try simp only[Act.put,pZ])
 refine hT 11 (.int .i64 ((R.st:Int)+1)) rfl (hy:=?_) (h:=?_)
 ·intro w' hSw;go_simp;(rw[IntKind.wrap_i64];omega)
 (try simp only[Act.put,pZ])
 refine hR 6 rfl (fun K hK=>?_)
 go_simp
 refine (size_any t.body v1 q.ka q.kc (HCT.out v1 (mem_then HBX0.out HHV.out)).2.2.2.2 (by omega)).mono ?_
 rintro e w5 ⟨rfl,hB5⟩
 have HB5:=ξ (mem_then HHV.out hB5)
 clear hB5
 refine hK.out _ _ (HB5.out) (fun hHeld=>?_)
 clear hK K
 rename_i hOld
 clear hOld
 (try simp only[Act.put,pZ])
 refine hT 7 (.int .i64 ((t.body.size:Int)+1)) rfl (hy:=?_) (h:=?_)
 ·intro w' hSw;go_simp;(rw[IntKind.wrap_i64];omega)
 (try simp only[Act.put,pZ])
 refine hT 8 (.int .i64 (20*((t.body.size:Int)+1))) rfl (hy:=?_) (h:=?_)
 ·intro w' hSw;go_simp;(rw[IntKind.wrap_i64];omega)
 (try simp only[Act.put,pZ])
 refine hT 12 (.int .i64 (fu:Int)) rfl (hy:=?_) (h:=?_)
 ·intro w' hSw;go_simp;(rw[HMUL.out,IntKind.wrap_i64];omega)
 (try simp only[Act.put,pZ])
 refine hT 13 (.int .i64 (fu:Int)) rfl (hy:=?_) (h:=?_)
 ·intro w' hSw;go_simp
 (try simp only[Act.put,pZ])
 refine wpAnyH_done (by kernel_rfl) ?_ _
 clear hHeld
 have HBY0:=ξ (mem_then HBX0.out HB5.out)
 have HBY:=ξ (mem_then HBX.out HB5.out)
 have HXY:Hid (w5.heap[w4.heap.size]? = some (Res.obj R ra rac rs rsc ro roc)):=mem_keep HXX.out HB5.out
 have HRY:Hid (ResAt w5 R ra rs ro):=⟨HRA.out.mem.below HB5.out,HRA.out.out.below HB5.out⟩
 obtain⟨O,hO⟩:∃ O,runOf F (p.shared.map arrP) (M.arrays.getD j []) M.shared inp (fu:Int)=O:=⟨_,rfl⟩
 have HFP:=ξ (fit_of HFIT.out)
 obtain⟨row,hrow⟩:∃ r,M.arrays[j]? = some r:=⟨_,List.getElem?_eq_getElem (by rw[HFP.out.len];exact HJ.out)⟩
 have hrow2:M.arrays.getD j []=row:=by rw[List.getD_eq_getElem?_getD,hrow];rfl
 have hmal:(j:Int)<(M.arrays.length:Int):=by have:=HFP.out.len;have:=HJ.out;omega
 have hj0:(0:Int)≤(j:Int):=by omega
 obtain⟨_,hrl,hrl2⟩:=HFP.out.task j row hrow
 have HMA:Hid (∃ mb mo rwa rwc,ma=some ⟨mb,mo,none⟩∧w5.cell? ⟨mb,mo+j,none⟩=some (.slice rwa row.length rwc)∧ContAt w5 rwa row):=by
  rcases (HK.out w5 HBY.out).2.2.2.2.2.1.1.at_ with h0|⟨mb,mo,e,hk⟩
  ·exfalso;omega
  ·obtain⟨rwa,rwc,h1,_,h2⟩:=hk j row hrow
   exact⟨mb,mo,rwa,rwc,e,h1,h2⟩
 obtain⟨mb,mo,rwa,rwc,rfl,hrc,hrct⟩:=HMA.out
 have HRC:=ξ hrc
 have HRCT:=ξ hrct
 have JRUN:Hid (∀ w',Below w5.heap.size w5 w'→Calls Tryz.prog 10 #[.agg #[.string F.name,.int .i64 F.regs,.slice aa an ac,.slice ba bn bc],.slice sa p.shared.length sc,.slice rwa row.length rwc,.slice ms M.shared.length msc,.slice ia inp.length ic,.int .i64 (fu:Int)] w' (RunQ O w')):=fun w' h=>by
  have hk:=HK.out w' (mem_then HBY.out h)
  have h9:=runQ_any F (p.shared.map arrP) row M.shared inp (fu:Int) aa ba sa rwa ms ia ac bc sc rwc msc ic w' (HFN.out.below (mem_then HBY0.out h)) (arrs_ir hk.2.1.1) (by rw[List.length_map];have:=(prgOk_le (okP_ok HOK.out)).1;omega) (cont_ir (HRCT.out.below h)) (cont_ir hk.2.2.2.2.2.1.2) (fun r hr=>by have:=hrl2 r hr;omega) (fun r hr=>by have:=HFP.out.slen.2 r hr;omega) (words_ir hk.2.2.2.2.2.2) (by have:=HFU.out;omega)
  rw[hrow2] at hO
  rw[hO,HNN.out.1,HNN.out.2,List.length_map] at h9
  exact h9
 rw[hO] at HSAME
 have HVF:Hid (∀ w',Below w5.heap.size w5 w'→w'.cell? ⟨w2.heap.size,0,none⟩=some (.string F.name)∧w'.cell? ⟨w2.heap.size,1,none⟩=some (.int .i64 F.regs)∧w'.cell? ⟨w2.heap.size,2,none⟩=some (.slice aa an ac)∧w'.cell? ⟨w2.heap.size,3,none⟩=some (.slice ba bn bc)):=fun w' h=>by
  obtain⟨v0,v1,v2,v3,_⟩:=fn_four (mem_keep HVX.out (mem_then HBY0.out h))
  exact⟨v0,v1,v2,v3⟩
 clear hO hrow hrow2 hrl hrl2 hrc hrct HMA
 go_upto_region 10 with fail
 go_cut [13] from 56 to 68 (fun s w'=>∃ bb oaa oac oos oosc oo ooc,s = .pointer (some ⟨bb,0,none⟩)∧w'.heap[bb]? = some (Oc.obj O oaa oac oos oosc oo ooc)∧OcIn w' O oaa oos oo∧Below w5.heap.size w5 w')
 case first =>
  refine wp_region_held_drew (S:=fun w'=>Below w5.heap.size w5 w') (by kernel_rfl) ((Below.refl _ _).drew) (fun hHeld=>?_)
  generalize hwd:World.drew w5=v1 at hHeld⊢
  clear hwd
  have HHV:=ξ hHeld
  refine hT 0 (.agg #[.string F.name,.int .i64 F.regs,.slice aa an ac,.slice ba bn bc]) rfl (hy:=?_) (h:=?_)
  ·intro w' hSw;obtain⟨z0,z1,z2,z3⟩:=HVF.out _ hSw;go_simp
  (try simp only[Act.put,pZ])
  refine hT 1 (.pointer (some ⟨w.heap.size,0,none⟩)) rfl (hy:=?_) (h:=?_)
  ·intro w' hSw;go_simp
  (try simp only[Act.put,pZ])
  refine hT 2 (.slice sa p.shared.length sc) rfl (hy:=?_) (h:=?_)
  ·intro w' hSw;obtain⟨z0,z1⟩:=mem_two' (HK.out _ (mem_then HBY.out hSw)).1;go_simp
  (try simp only[Act.put,pZ])
  refine hT 3 (.pointer (some ⟨W.heap.size,0,none⟩)) rfl (hy:=?_) (h:=?_)
  ·intro w' hSw;go_simp
  (try simp only[Act.put,pZ])
  refine hT 4 (.slice (some ⟨mb,mo,none⟩) M.arrays.length mac) rfl (hy:=?_) (h:=?_)
  ·intro w' hSw;obtain⟨z0,z1⟩:=mem_two' (HK.out _ (mem_then HBY.out hSw)).2.2.2.2.1;go_simp
  (try simp only[Act.put,pZ])
  refine hT 5 (.int .i64 (j:Int)) rfl (hy:=?_) (h:=?_)
  ·intro w' hSw;go_simp
  (try simp only[Act.put,pZ])
  refine hT 6 (.pointer (some ⟨mb,mo+j,none⟩)) rfl (hy:=?_) (h:=?_)
  ·intro w' hSw;go_simp
  (try simp only[Act.put,pZ])
  refine hT 7 (.slice rwa row.length rwc) rfl (hy:=?_) (h:=?_)
  ·intro w' hSw;have z0:=cell_below hSw HRC.out;go_simp
  (try simp only[Act.put,pZ])
  refine hT 8 (.pointer (some ⟨W.heap.size,1,none⟩)) rfl (hy:=?_) (h:=?_)
  ·intro w' hSw;go_simp
  (try simp only[Act.put,pZ])
  refine hT 9 (.slice ms M.shared.length msc) rfl (hy:=?_) (h:=?_)
  ·intro w' hSw;obtain⟨z0,z1⟩:=mem_two' (HK.out _ (mem_then HBY.out hSw)).2.2.2.2.1;go_simp
  (try simp only[Act.put,pZ])
  refine hT 10 (.slice ia inp.length ic) rfl (hy:=?_) (h:=?_)
  ·intro w' hSw;go_simp
  (try simp only[Act.put,pZ])
  refine hT 11 (.int .i64 (fu:Int)) rfl (hy:=?_) (h:=?_)
  ·intro w' hSw;go_simp
  (try simp only[Act.put,pZ])
  refine wpAnyH_ready (rs:=[12,13]) (by kernel_rfl) (by simp) (AllReadyH.cons rfl (fun K hK=>?_) (AllReadyH.cons rfl (fun K hK=>?_) AllReadyH.nil))
  ·go_simp
   refine (JRUN.out v1 HHV.out).mono ?_
   rintro e w6 ⟨oaa,oac,oos,oosc,oo,ooc,rfl,hoc,hB6,_,hty⟩
   have HB6:=ξ (mem_then HHV.out hB6)
   have HOC:=ξ (And.intro hoc hty)
   clear hoc hty hB6
   refine hK.out _ _ (HB6.out) (fun hHeld=>?_)
   clear hK K
   rename_i hOld
   clear hOld
   (try simp only[Act.put,pZ])
   refine hR 13 rfl (fun K hK=>?_)
   go_simp
   refine hK.out _ _ (mem_then HB6.out (mem_alloc _ _)) (fun hHeld=>?_)
   clear hK K
   rename_i hOld
   clear hOld
   (try simp only[Act.put,pZ])
   have hz:(w6.alloc zOc).heap[w6.heap.size]? = some zOc:=mem_new _ _
   have hzB:=mem_alloc w6 zOc
   generalize hQ:w6.alloc zOc=U at hz hzB hHeld⊢
   clear hQ
   have HZ:=ξ hz
   have HBU:=ξ (mem_then HB6.out hzB)
   have HSU:=ξ (And.intro (HOC.out.1.below hzB) (HOC.out.2.below hzB))
   have HGE:Hid (w5.heap.size≤w6.heap.size):=HB6.out.size
   obtain⟨bb,hbb⟩:∃ b,w6.heap.size=b:=⟨_,rfl⟩
   rw[hbb] at HZ HGE
   try rw[hbb]
   clear hz hzB hbb
   obtain⟨y0,y1,y2,y3,y4,y5⟩:=oc_cells HZ.out
   have f0:=mem_free HZ.out 0
   have f1:=mem_free HZ.out 1
   have f2:=mem_free HZ.out 2
   have f3:=mem_free HZ.out 3
   have f4:=mem_free HZ.out 4
   have f5:=mem_free HZ.out 5
   obtain⟨U2,hU2⟩:∃ U2:World,put6 U bb (.slice oaa O.arrays.length oac) (.slice oos O.objects.length oosc) (.slice oo O.out.length ooc) (.int .i64 (O.read:Int)) (.int .i64 (O.steps:Int)) (.int .i64 O.err)=U2:=⟨_,rfl⟩
   have HFAR2:Hid (∀ k,k≠bb→U2.heap[k]? = U.heap[k]?):=fun k hk=>by rw[←hU2];exact put6_far hk
   have HA2':Hid (U2.heap[bb]? = some (Oc.obj O oaa oac oos oosc oo ooc)):=by show _=_;rw[←hU2];exact put6_at HZ.out
   have HBU2:Hid (Below w5.heap.size w5 U2):=by show Below _ _ _;rw[←hU2];exact put6_below HBU.out HGE.out
   have HSA2:=ξ (OcIn.stored HZ.out HFAR2.out HSU.out.1 HSU.out.2)
   unfold put6 at hU2
   refine hR 14 rfl (fun K hK=>?_)
   go_simp
   try rw[hU2]
   refine hK.out _ _ (HBU2.out) (fun hHeld=>?_)
   clear hK K
   rename_i hOld
   clear hOld
   (try simp only[Act.put,pZ])
   clear hHeld y0 y1 y2 y3 y4 y5 f0 f1 f2 f3 f4 f5 hU2
   refine wpAnyH_done (by kernel_rfl) ?_ _
   go_wp2_with fail
   go_meet
   exact⟨bb,oaa,oac,oos,oosc,oo,ooc,rfl,HA2'.out,HSA2.out.1,HBU2.out⟩
  ·go_simp
   refine hK.out _ _ (mem_then HHV.out (mem_alloc _ _)) (fun hHeld=>?_)
   clear hK K
   rename_i hOld
   clear hOld
   (try simp only[Act.put,pZ])
   have hz:(v1.alloc zOc).heap[v1.heap.size]? = some zOc:=mem_new _ _
   have hzB:=mem_alloc v1 zOc
   generalize hQ:v1.alloc zOc=T0 at hz hzB hHeld⊢
   clear hQ
   have HZ0:=ξ hz
   have HBT:=ξ (mem_then HHV.out hzB)
   have HGE:Hid (w5.heap.size≤v1.heap.size):=HHV.out.size
   obtain⟨bb,hbb⟩:∃ b,v1.heap.size=b:=⟨_,rfl⟩
   rw[hbb] at HZ0 HGE
   try rw[hbb]
   clear hz hzB hbb
   refine hR 12 rfl (fun K hK=>?_)
   go_simp
   refine (JRUN.out T0 HBT.out).mono ?_
   rintro e U ⟨oaa,oac,oos,oosc,oo,ooc,rfl,hoc,hB6,_,hty⟩
   have HBU:=ξ (mem_then HBT.out hB6)
   have HSU:=ξ (And.intro hoc hty)
   have HZ:Hid (U.heap[bb]? = some zOc):=mem_keep HZ0.out hB6
   clear hoc hty hB6
   refine hK.out _ _ (HBU.out) (fun hHeld=>?_)
   clear hK K
   rename_i hOld
   clear hOld
   (try simp only[Act.put,pZ])
   obtain⟨y0,y1,y2,y3,y4,y5⟩:=oc_cells HZ.out
   have f0:=mem_free HZ.out 0
   have f1:=mem_free HZ.out 1
   have f2:=mem_free HZ.out 2
   have f3:=mem_free HZ.out 3
   have f4:=mem_free HZ.out 4
   have f5:=mem_free HZ.out 5
   obtain⟨U2,hU2⟩:∃ U2:World,put6 U bb (.slice oaa O.arrays.length oac) (.slice oos O.objects.length oosc) (.slice oo O.out.length ooc) (.int .i64 (O.read:Int)) (.int .i64 (O.steps:Int)) (.int .i64 O.err)=U2:=⟨_,rfl⟩
   have HFAR2:Hid (∀ k,k≠bb→U2.heap[k]? = U.heap[k]?):=fun k hk=>by rw[←hU2];exact put6_far hk
   have HA2':Hid (U2.heap[bb]? = some (Oc.obj O oaa oac oos oosc oo ooc)):=by show _=_;rw[←hU2];exact put6_at HZ.out
   have HBU2:Hid (Below w5.heap.size w5 U2):=by show Below _ _ _;rw[←hU2];exact put6_below HBU.out HGE.out
   have HSA2:=ξ (OcIn.stored HZ.out HFAR2.out HSU.out.1 HSU.out.2)
   unfold put6 at hU2
   refine hR 14 rfl (fun K hK=>?_)
   go_simp
   try rw[hU2]
   refine hK.out _ _ (HBU2.out) (fun hHeld=>?_)
   clear hK K
   rename_i hOld
   clear hOld
   (try simp only[Act.put,pZ])
   clear hHeld y0 y1 y2 y3 y4 y5 f0 f1 f2 f3 f4 f5 hU2
   refine wpAnyH_done (by kernel_rfl) ?_ _
   go_wp2_with fail
   go_meet
   exact⟨bb,oaa,oac,oos,oosc,oo,ooc,rfl,HA2'.out,HSA2.out.1,HBU2.out⟩
 obtain⟨bb,oaa,oac,oos,oosc,oo,ooc,rfl,hbx,hin,hBc⟩:=hcut
 obtain⟨Z,hZ⟩:∃ Z:World,Z=wc:=⟨_,rfl⟩
 rw[←hZ] at hbx hin hBc⊢
 have HBX1:=ξ hbx
 have HIN:=ξ hin
 have HBZ:=ξ hBc
 have HBZ2:=ξ (mem_then HBY.out hBc)
 have HRZ:Hid (ResAt Z R ra rs ro):=⟨HRY.out.mem.below hBc,HRY.out.out.below hBc⟩
 have HXZ:Hid (Z.heap[w4.heap.size]? = some (Res.obj R ra rac rs rsc ro roc)):=mem_keep HXY.out hBc
 clear hZ hbx hin hBc
 obtain⟨s1,s2,s3,s4,s5⟩:=HSAME.out
 have e1:O.err=R.err:=by rw[s1,←HRR.out];rfl
 have e2:O.read=R.rd:=by rw[s2,←HRR.out];rfl
 have e3:O.out=R.out:=by rw[s3,←HRR.out];rfl
 have e5:O.objects=R.mem.shared:=by rw[s5,←HRR.out];rfl
 have e4:R.mem.arrays[j]? = some O.arrays:=by
  rw[s4,←HRR.out]
  show (M.arrays.set j _)[j]? = _
  rw[List.getElem?_set_self (by have:=HFP.out.len;have:=HJ.out;omega)]
 have hral:(j:Int)<(R.mem.arrays.length:Int):=by have:=(List.getElem?_eq_some_iff.1 e4).1;omega
 have b3:(O.err == R.err)=true:=by rw[e1];simp
 have b4:((O.read:Int) == (R.rd:Int))=true:=by rw[e2];simp
 have HRA1:Hid (∃ gb go' qa qc,ra=some ⟨gb,go',none⟩∧Z.cell? ⟨gb,go'+j,none⟩=some (.slice qa O.arrays.length qc)∧ContAt Z qa O.arrays):=by
  rcases HRZ.out.mem.1.at_ with h0|⟨gb,go',e,hk⟩
  ·exfalso;omega
  ·obtain⟨qa,qc,h1,_,h2⟩:=hk j O.arrays e4
   exact⟨gb,go',qa,qc,e,h1,h2⟩
 obtain⟨gb,go',qa,qc,rfl,hqc,hqt⟩:=HRA1.out
 have HQC:=ξ hqc
 have KA:Hid (∀ w',Below Z.heap.size Z w'→Calls Tryz.prog 12 #[.slice oaa O.arrays.length oac,.slice qa O.arrays.length qc] w' fun e w''=>e = .returned (.bool true)∧Below w'.heap.size w' w''):=fun w' h=>by
  refine (conts_eq O.arrays oaa qa oac qc w' (HIN.out.1.below h) (cont_ir (hqt.below h))).mono ?_
  rintro e w'' ⟨rfl,m,rfl⟩
  exact⟨rfl,below_dS _ _⟩
 have KO:Hid (∀ w',Below Z.heap.size Z w'→Calls Tryz.prog 12 #[.slice oos O.objects.length oosc,.slice rs R.mem.shared.length rsc] w' fun e w''=>e = .returned (.bool true)∧Below w'.heap.size w' w''):=fun w' h=>by
  rw[←e5]
  refine (conts_eq O.objects oos rs oosc rsc w' (HIN.out.2.1.below h) (cont_ir (by rw[e5];exact HRZ.out.mem.2.below h))).mono ?_
  rintro e w'' ⟨rfl,m,rfl⟩
  exact⟨rfl,below_dS _ _⟩
 have KU:Hid (∀ w',Below Z.heap.size Z w'→Calls Tryz.prog 11 #[.slice oo O.out.length ooc,.slice ro R.out.length roc] w' fun e w''=>e = .returned (.bool true)∧Below w'.heap.size w' w''):=fun w' h=>by
  rw[←e3]
  refine (outputs_eq O.out oo ro ooc roc w' (HIN.out.2.2.below h) (outs_ir (by rw[e3];exact HRZ.out.out.below h))).mono ?_
  rintro e w'' ⟨rfl,m,rfl⟩
  exact⟨rfl,below_dS _ _⟩
 have KX:Hid (∀ w',Below Z.heap.size Z w'→w'.heap[bb]? = some (Oc.obj O oaa oac oos oosc oo ooc)∧w'.heap[w4.heap.size]? = some (Res.obj R (some ⟨gb,go',none⟩) rac rs rsc ro roc)):=fun w' h=>⟨mem_keep HBX1.out h,mem_keep HXZ.out h⟩
 clear s1 s2 s3 s4 s5 e1 e2 e3 e4 e5 HRA1 hqc hqt
 go_upto_region 11 with fail
 refine wp_region_held_drew (S:=fun w'=>Below Z.heap.size Z w') (by kernel_rfl) ((Below.refl _ _).drew) (fun hHeld=>?_)
 generalize hwd:World.drew Z=v2 at hHeld⊢
 clear hwd
 have HHV:=ξ hHeld
 refine hT 0 (.pointer (some ⟨bb,5,none⟩)) rfl (hy:=?_) (h:=?_)
 ·intro w' hSw;go_simp
 (try simp only[Act.put,pZ])
 refine hT 1 (.int .i64 O.err) rfl (hy:=?_) (h:=?_)
 ·intro w' hSw;obtain⟨z0,z1,z2,z3,z4,z5⟩:=oc_cells (KX.out _ hSw).1;go_simp
 (try simp only[Act.put,pZ])
 refine hT 2 (.pointer (some ⟨w4.heap.size,5,none⟩)) rfl (hy:=?_) (h:=?_)
 ·intro w' hSw;go_simp
 (try simp only[Act.put,pZ])
 refine hT 3 (.int .i64 R.err) rfl (hy:=?_) (h:=?_)
 ·intro w' hSw;obtain⟨z0,z1,z2,z3,z4,z5⟩:=res_cells (KX.out _ hSw).2;go_simp
 (try simp only[Act.put,pZ])
 refine hT 4 (.bool true) rfl (hy:=?_) (h:=?_)
 ·intro w' hSw;go_simp
 (try simp only[Act.put,pZ])
 refine hT 5 (.bool true) rfl (hy:=?_) (h:=?_)
 ·intro w' hSw;go_simp
 (try simp only[Act.put,pZ])
 refine hT 6 (.pointer (some ⟨bb,3,none⟩)) rfl (hy:=?_) (h:=?_)
 ·intro w' hSw;go_simp
 (try simp only[Act.put,pZ])
 refine hT 7 (.int .i64 (O.read:Int)) rfl (hy:=?_) (h:=?_)
 ·intro w' hSw;obtain⟨z0,z1,z2,z3,z4,z5⟩:=oc_cells (KX.out _ hSw).1;go_simp
 (try simp only[Act.put,pZ])
 refine hT 8 (.pointer (some ⟨w4.heap.size,3,none⟩)) rfl (hy:=?_) (h:=?_)
 ·intro w' hSw;go_simp
 (try simp only[Act.put,pZ])
 refine hT 9 (.int .i64 (R.rd:Int)) rfl (hy:=?_) (h:=?_)
 ·intro w' hSw;obtain⟨z0,z1,z2,z3,z4,z5⟩:=res_cells (KX.out _ hSw).2;go_simp
 (try simp only[Act.put,pZ])
 refine hT 10 (.bool true) rfl (hy:=?_) (h:=?_)
 ·intro w' hSw;go_simp
 (try simp only[Act.put,pZ])
 refine hT 11 (.bool true) rfl (hy:=?_) (h:=?_)
 ·intro w' hSw;go_simp
 (try simp only[Act.put,pZ])
 refine hT 12 (.bool true) rfl (hy:=?_) (h:=?_)
 ·intro w' hSw;go_simp
 (try simp only[Act.put,pZ])
 refine hT 13 (.pointer (some ⟨bb,2,none⟩)) rfl (hy:=?_) (h:=?_)
 ·intro w' hSw;go_simp
 (try simp only[Act.put,pZ])
 refine hT 14 (.slice oo O.out.length ooc) rfl (hy:=?_) (h:=?_)
 ·intro w' hSw;obtain⟨z0,z1,z2,z3,z4,z5⟩:=oc_cells (KX.out _ hSw).1;go_simp
 (try simp only[Act.put,pZ])
 refine hT 15 (.pointer (some ⟨w4.heap.size,2,none⟩)) rfl (hy:=?_) (h:=?_)
 ·intro w' hSw;go_simp
 (try simp only[Act.put,pZ])
 refine hT 16 (.slice ro R.out.length roc) rfl (hy:=?_) (h:=?_)
 ·intro w' hSw;obtain⟨z0,z1,z2,z3,z4,z5⟩:=res_cells (KX.out _ hSw).2;go_simp
 (try simp only[Act.put,pZ])
 refine hR 17 rfl (fun K hK=>?_)
 go_simp
 refine (KU.out v2 HHV.out).mono ?_
 rintro e w7 ⟨rfl,hB7⟩
 have HB7:=ξ (mem_then HHV.out hB7)
 clear hB7
 refine hK.out _ _ (HB7.out) (fun hHeld=>?_)
 clear hK K
 rename_i hOld
 clear hOld
 (try simp only[Act.put,pZ])
 refine hT 18 (.bool true) rfl (hy:=?_) (h:=?_)
 ·intro w' hSw;go_simp
 (try simp only[Act.put,pZ])
 refine hT 19 (.bool true) rfl (hy:=?_) (h:=?_)
 ·intro w' hSw;go_simp
 (try simp only[Act.put,pZ])
 refine hT 20 (.pointer (some ⟨bb,0,none⟩)) rfl (hy:=?_) (h:=?_)
 ·intro w' hSw;go_simp
 (try simp only[Act.put,pZ])
 refine hT 21 (.slice oaa O.arrays.length oac) rfl (hy:=?_) (h:=?_)
 ·intro w' hSw;obtain⟨z0,z1,z2,z3,z4,z5⟩:=oc_cells (KX.out _ hSw).1;go_simp
 (try simp only[Act.put,pZ])
 refine hT 22 (.pointer (some ⟨w4.heap.size,0,none⟩)) rfl (hy:=?_) (h:=?_)
 ·intro w' hSw;go_simp
 (try simp only[Act.put,pZ])
 refine hT 23 (.pointer (some ⟨w4.heap.size,0,none⟩)) rfl (hy:=?_) (h:=?_)
 ·intro w' hSw;go_simp
 (try simp only[Act.put,pZ])
 refine hT 24 (.slice (some ⟨gb,go',none⟩) R.mem.arrays.length rac) rfl (hy:=?_) (h:=?_)
 ·intro w' hSw;obtain⟨z0,z1,z2,z3,z4,z5⟩:=res_cells (KX.out _ hSw).2;go_simp
 (try simp only[Act.put,pZ])
 refine hT 25 (.int .i64 (j:Int)) rfl (hy:=?_) (h:=?_)
 ·intro w' hSw;go_simp
 (try simp only[Act.put,pZ])
 refine hT 26 (.pointer (some ⟨gb,go'+j,none⟩)) rfl (hy:=?_) (h:=?_)
 ·intro w' hSw;go_simp
 (try simp only[Act.put,pZ])
 refine hT 27 (.slice qa O.arrays.length qc) rfl (hy:=?_) (h:=?_)
 ·intro w' hSw;have z0:=cell_below hSw HQC.out;go_simp
 (try simp only[Act.put,pZ])
 refine hR 28 rfl (fun K hK=>?_)
 go_simp
 refine (KA.out w7 HB7.out).mono ?_
 rintro e w8 ⟨rfl,hB8⟩
 have HB8:=ξ (mem_then HB7.out hB8)
 clear hB8
 refine hK.out _ _ (HB8.out) (fun hHeld=>?_)
 clear hK K
 rename_i hOld
 clear hOld
 (try simp only[Act.put,pZ])
 refine hT 29 (.bool true) rfl (hy:=?_) (h:=?_)
 ·intro w' hSw;go_simp
 (try simp only[Act.put,pZ])
 refine hT 30 (.bool true) rfl (hy:=?_) (h:=?_)
 ·intro w' hSw;go_simp
 (try simp only[Act.put,pZ])
 refine hT 31 (.pointer (some ⟨bb,1,none⟩)) rfl (hy:=?_) (h:=?_)
 ·intro w' hSw;go_simp
 (try simp only[Act.put,pZ])
 refine hT 32 (.slice oos O.objects.length oosc) rfl (hy:=?_) (h:=?_)
 ·intro w' hSw;obtain⟨z0,z1,z2,z3,z4,z5⟩:=oc_cells (KX.out _ hSw).1;go_simp
 (try simp only[Act.put,pZ])
 refine hT 33 (.pointer (some ⟨w4.heap.size,0,none⟩)) rfl (hy:=?_) (h:=?_)
 ·intro w' hSw;go_simp
 (try simp only[Act.put,pZ])
 refine hT 34 (.pointer (some ⟨w4.heap.size,1,none⟩)) rfl (hy:=?_) (h:=?_)
 ·intro w' hSw;go_simp
 (try simp only[Act.put,pZ])
 refine hT 35 (.slice rs R.mem.shared.length rsc) rfl (hy:=?_) (h:=?_)
 ·intro w' hSw;obtain⟨z0,z1,z2,z3,z4,z5⟩:=res_cells (KX.out _ hSw).2;go_simp
 (try simp only[Act.put,pZ])
 refine hR 36 rfl (fun K hK=>?_)
 go_simp
 refine (KO.out w8 HB8.out).mono ?_
 rintro e w9 ⟨rfl,hB9⟩
 have HB9:=ξ (mem_then HB8.out hB9)
 clear hB9
 refine hK.out _ _ (HB9.out) (fun hHeld=>?_)
 clear hK K
 rename_i hOld
 clear hOld
 (try simp only[Act.put,pZ])
 refine hT 37 (.bool true) rfl (hy:=?_) (h:=?_)
 ·intro w' hSw;go_simp
 (try simp only[Act.put,pZ])
 refine hT 38 (.bool true) rfl (hy:=?_) (h:=?_)
 ·intro w' hSw;go_simp
 (try simp only[Act.put,pZ])
 refine wpAnyH_done (by kernel_rfl) ?_ _
 clear hHeld
 go_wp2_with fail
 go_ret
 exact⟨rfl,(HK.out w9 (mem_then HBZ2.out HB9.out)).2.2.1⟩
