/- Part. -/
import Derived.Test.YtkpdngfkdmllkaaGreatDoorLowTr
namespace Go.Proofs.YtkpdngfkdmllkaaGreatDoor
set_option linter.unusedVariables false
set_option linter.unusedSimpArgs false
open Go.RowKit Go.Maps
set_option maxRecDepth 100000
set_option maxHeartbeats 8000000
def Fn.zero:Fn:=⟨noB,0,[],[]⟩
def taskR(p:Prg)(k:Int):Fn×Int:=
 if okP p=false then (Fn.zero,3) else if k<0∨(p.tasks.length:Int)≤k then (Fn.zero,2) else (lowFn p.shared (p.tasks.getD k.toNat Tsk.none),0)
def FnRet(F:Fn)(er:Int)(w:World)(e:Ending)(w':World):Prop:=∃ aa ac ba bc,e = .returned (.tuple #[fnVal F.name F.regs aa F.arrays.length ac ba F.blocks.length bc,.int .i64 er])∧FnNew w.heap.size w' F aa ba∧Below w.heap.size w w'
theorem Fn.zero_at(N:Nat)(w:World):FnNew N w Fn.zero none none:=fun w' _=>⟨⟨by decide,fun p hp=>(by cases hp),.inl rfl⟩,⟨by decide,fun p hp=>(by cases hp),.inl rfl⟩,i64_0,by decide⟩
theorem tskOk_body{t:Tsk}(h:tskOk t=true):t.body.vld 98=true:=by
 unfold tskOk at h
 simp only[Bool.and_eq_true] at h
 exact h.2.2.2.2.2.2.2.2.2
theorem okP_ok{p:Prg}(h:okP p=true):prgOk p=true:=by
 unfold okP at h
 rw[Bool.and_eq_true] at h
 exact h.1
theorem task_any(p:Prg)(k:Int)(w:World)(sa ta:Option Addr)(sc tc:Nat)(hp:PrgAt w p sa ta)(hg:SignsIn w)(hk:isI64 k) :
 Calls Tryz.prog 14 #[p.val sa sc ta tc,.int .i64 k] w (FnRet (taskR p k).1 (taskR p k).2 w):=by
 obtain⟨A0,h0⟩:∃ A0:World,w.alloc (prgObj p sa sc ta tc)=A0:=⟨_,rfl⟩
 obtain⟨A1,h1⟩:∃ A1:World,A0.alloc (fnObj ⟨#[]⟩ 0 (.slice none 0 0) (.slice none 0 0))=A1:=⟨_,rfl⟩
 have HB0:Hid (Below w.heap.size w A0):=by show Below _ _ _;rw[←h0];exact mem_alloc _ _
 have HB1:Hid (Below A0.heap.size A0 A1):=by show Below _ _ _;rw[←h1];exact mem_alloc _ _
 have HX0:Hid (A0.heap[w.heap.size]? = some (prgObj p sa sc ta tc)):=by show _=_;rw[←h0];exact mem_new _ _
 have HX1:Hid (A1.heap[A0.heap.size]? = some (fnObj ⟨#[]⟩ 0 (.slice none 0 0) (.slice none 0 0))):=by show _=_;rw[←h1];exact mem_new _ _
 have HBW:=ξ (mem_then HB0.out HB1.out)
 have HZ:Hid (A0.heap.size=w.heap.size+1):=by show _=_;rw[←h0];simp
 have HK:Hid (∀ w',Below A1.heap.size A1 w'→w'.heap[w.heap.size]? = some (prgObj p sa sc ta tc)∧w'.heap[A0.heap.size]? = some (fnObj ⟨#[]⟩ 0 (.slice none 0 0) (.slice none 0 0))∧PrgAt w' p sa ta∧Below w.heap.size w w'):=fun w' h =>
  ⟨mem_keep (mem_keep HX0.out HB1.out) h,mem_keep HX1.out h,hp.below (mem_then HBW.out h),mem_then HBW.out h⟩
 have HG:Hid (SignsIn A1):=hg.below HBW.out
 have HKK:=ξ hk
 have hk1:=hk.1
 have hk2:=hk.2
 obtain⟨ok,hok⟩:∃ b,okP p=b:=⟨_,rfl⟩
 have HOK:=ξ hok
 have hq:=ok15_any p A1 sa ta sc tc (HK.out A1 (Below.refl _ _)).2.2.1 HG.out
 rw[hok] at hq
 have HQ:=ξ hq
 have y0:A1.cell? ⟨w.heap.size,0,none⟩=some (.slice sa p.shared.length sc):=mem_cell (HK.out A1 (Below.refl _ _)).1 0
 have y1:A1.cell? ⟨w.heap.size,1,none⟩=some (.slice ta p.tasks.length tc):=mem_cell (HK.out A1 (Below.refl _ _)).1 1
 have HZF:Hid (∀ w',Below A1.heap.size A1 w'→FnNew w.heap.size (put4 w' A0.heap.size (.string ⟨#[]⟩) (.int .i64 0) (.slice none 0 0) (.slice none 0 0)) Fn.zero none none∧Below w.heap.size w (put4 w' A0.heap.size (.string ⟨#[]⟩) (.int .i64 0) (.slice none 0 0) (.slice none 0 0))∧(put4 w' A0.heap.size (.string ⟨#[]⟩) (.int .i64 0) (.slice none 0 0) (.slice none 0 0)).heap[A0.heap.size]? = some (fnObj ⟨#[]⟩ 0 (.slice none 0 0) (.slice none 0 0))):=fun w' h =>
  ⟨Fn.zero_at _ _,put4_below (HK.out w' h).2.2.2 (by have:=HZ.out;omega),put4_at (HK.out w' h).2.1⟩
 clear hp hg hok hq hk
 cases ok with
 | false =>
  have HR:Hid (taskR p k=(Fn.zero,3)):=by show _=_;unfold taskR;rw[if_pos HOK.out]
  rw[HR.out]
  go_enter Tryz.func14,Tryz.ntmps14
  go_wp2_with fail
  clear y0 y1 h0 h1
  refine HQ.out.mono ?_
  rintro e w1 ⟨rfl,hB⟩
  obtain⟨c0,c1,c2,c3,cf⟩:=fn_four (HK.out w1 hB).2.1
  obtain⟨WE,hWE⟩:∃ X:World,put4 w1 A0.heap.size (.string ⟨#[]⟩) (.int .i64 0) (.slice none 0 0) (.slice none 0 0)=X:=⟨_,rfl⟩
  have hz:=HZF.out w1 hB
  rw[hWE] at hz
  have HZ1:=ξ hz
  unfold put4 at hWE
  clear hz hB HQ
  go_wp2_with fail
  clear c0 c1 c2 c3 cf hWE
  obtain⟨r0,r1,r2,r3,_⟩:=fn_four HZ1.out.2.2
  exact bodyPost_ret (v:=.tuple #[fnVal ⟨#[]⟩ 0 none 0 0 none 0 0,.int .i64 3]) (by simp[results,Tryz.results14,go_sem,r0,r1,r2,r3]) rfl ⟨none,0,none,0,rfl,HZ1.out.1,HZ1.out.2.1⟩
 | true =>
  by_cases hr:k<0∨(p.tasks.length:Int)≤k
  ·have HR:Hid (taskR p k=(Fn.zero,2)):=by show _=_;unfold taskR;rw[if_neg (by rw[HOK.out];simp),if_pos hr]
   rw[HR.out]
   have hx:(decide (k<0) || decide ((p.tasks.length:Int)≤k))=true:=by simpa using hr
   rcases hr with hr|hr
   ·have hd:decide (k<0)=true:=decide_eq_true hr
    go_enter Tryz.func14,Tryz.ntmps14
    go_wp2_with fail
    clear y0 y1 h0 h1
    refine HQ.out.mono ?_
    rintro e w1 ⟨rfl,hB⟩
    obtain⟨c0,c1,c2,c3,cf⟩:=fn_four (HK.out w1 hB).2.1
    have y1:w1.cell? ⟨w.heap.size,1,none⟩=some (.slice ta p.tasks.length tc):=mem_cell (HK.out w1 hB).1 1
    obtain⟨WE,hWE⟩:∃ X:World,put4 w1 A0.heap.size (.string ⟨#[]⟩) (.int .i64 0) (.slice none 0 0) (.slice none 0 0)=X:=⟨_,rfl⟩
    have hz:=HZF.out w1 hB
    rw[hWE] at hz
    have HZ1:=ξ hz
    unfold put4 at hWE
    clear hz hB HQ
    go_wp2_with fail
    clear c0 c1 c2 c3 cf hWE
    obtain⟨r0,r1,r2,r3,_⟩:=fn_four HZ1.out.2.2
    exact bodyPost_ret (v:=.tuple #[fnVal ⟨#[]⟩ 0 none 0 0 none 0 0,.int .i64 2]) (by simp[results,Tryz.results14,go_sem,r0,r1,r2,r3]) rfl ⟨none,0,none,0,rfl,HZ1.out.1,HZ1.out.2.1⟩
   ·have hd2:decide ((p.tasks.length:Int)≤k)=true:=decide_eq_true hr
    have hd:decide (k<0)=false:=by simp;omega
    go_enter Tryz.func14,Tryz.ntmps14
    go_wp2_with fail
    clear y0 y1 h0 h1
    refine HQ.out.mono ?_
    rintro e w1 ⟨rfl,hB⟩
    obtain⟨c0,c1,c2,c3,cf⟩:=fn_four (HK.out w1 hB).2.1
    have y1:w1.cell? ⟨w.heap.size,1,none⟩=some (.slice ta p.tasks.length tc):=mem_cell (HK.out w1 hB).1 1
    obtain⟨WE,hWE⟩:∃ X:World,put4 w1 A0.heap.size (.string ⟨#[]⟩) (.int .i64 0) (.slice none 0 0) (.slice none 0 0)=X:=⟨_,rfl⟩
    have hz:=HZF.out w1 hB
    rw[hWE] at hz
    have HZ1:=ξ hz
    unfold put4 at hWE
    clear hz hB HQ
    go_wp2_with fail
    clear c0 c1 c2 c3 cf hWE
    obtain⟨r0,r1,r2,r3,_⟩:=fn_four HZ1.out.2.2
    exact bodyPost_ret (v:=.tuple #[fnVal ⟨#[]⟩ 0 none 0 0 none 0 0,.int .i64 2]) (by simp[results,Tryz.results14,go_sem,r0,r1,r2,r3]) rfl ⟨none,0,none,0,rfl,HZ1.out.1,HZ1.out.2.1⟩
  ·obtain⟨j,rfl⟩:∃ j:Nat,k=(j:Int):=⟨k.toNat,by omega⟩
   have hj:j<p.tasks.length:=by omega
   have HJ:Hid (j<p.tasks.length):=hj
   have htk:=(prgOk_le (okP_ok HOK.out)).2.2 j hj
   obtain⟨tk,htke⟩:∃ tk,p.tasks.getD j Tsk.none=tk:=⟨_,rfl⟩
   have HTKE:=ξ htke
   rw[htke] at htk
   have HTKO:=ξ htk
   obtain⟨F,hF⟩:∃ F,lowFn p.shared tk=F:=⟨_,rfl⟩
   have HFF:=ξ hF
   have HR:Hid (taskR p (j:Int)=(F,0)):=by show _=_;unfold taskR;rw[if_neg (by rw[HOK.out];simp),if_neg hr,Int.toNat_natCast,htke,hF]
   rw[HR.out]
   have hd:decide ((j:Int)<0)=false:=by simp
   have hd2:decide ((p.tasks.length:Int)≤(j:Int))=false:=by simp;omega
   have hj0:(0:Int)≤(j:Int):=by omega
   have hji:(j:Int)<(p.tasks.length:Int):=by omega
   clear hr hF htk htke
   go_enter Tryz.func14,Tryz.ntmps14
   go_wp2_with fail
   clear y0 y1 h0 h1
   refine HQ.out.mono ?_
   rintro e w1 ⟨rfl,hB⟩
   have HB9:=ξ hB
   obtain⟨tb,to',q,rfl,htc,htin⟩:=(HK.out w1 hB).2.2.1.2.2 j hj
   rw[HTKE.out] at htc htin
   have y1:w1.cell? ⟨w.heap.size,1,none⟩=some (.slice (some ⟨tb,to',none⟩) p.tasks.length tc):=mem_cell (HK.out w1 hB).1 1
   have HTC:=ξ htc
   have HTI:=ξ htin
   clear hB HQ htc htin
   go_upto_region 5 with fail
   clear y1
   have HBD:Hid (Below w1.heap.size w1 w1.drew):=(Below.refl _ _).drew
   refine wp_region_z 7 (S:=fun w'=>Below w1.heap.size w1 w') (by kernel_rfl) HBD.out (fun hHeld=>?_)
   generalize hwd:World.drew w1=D at hHeld HBD⊢
   clear hwd
   have HC8:Hid (∀ w',Below w1.heap.size w1 w'→w'.heap[w.heap.size]? = some (prgObj p sa sc (some ⟨tb,to',none⟩) tc)∧PrgAt w' p sa (some ⟨tb,to',none⟩)∧TskIn w' tk q∧Below w.heap.size w w'∧w'.heap[A0.heap.size]? = some (fnObj ⟨#[]⟩ 0 (.slice none 0 0) (.slice none 0 0))):=fun w' h=>by
    obtain⟨k1,k2,k3,k4⟩:=HK.out w' (mem_then HB9.out h)
    exact⟨k1,k3,HTI.out.below h,k4,k2⟩
   refine zT 0 (p.val sa sc (some ⟨tb,to',none⟩) tc) rfl (hy:=?_) (h:=?_)
   ·intro w' hSw;have q0:w'.cell? ⟨w.heap.size,0,none⟩=some (.slice sa p.shared.length sc):=mem_cell (HC8.out _ hSw).1 0;have q1:w'.cell? ⟨w.heap.size,1,none⟩=some (.slice (some ⟨tb,to',none⟩) p.tasks.length tc):=mem_cell (HC8.out _ hSw).1 1;go_simp
   (try simp only[Act.put,pZ])
   refine zT 1 (.pointer (some ⟨w.heap.size,1,none⟩)) rfl (hy:=?_) (h:=?_)
   ·intro w' hSw;go_simp
   (try simp only[Act.put,pZ])
   refine zT 2 (.slice (some ⟨tb,to',none⟩) p.tasks.length tc) rfl (hy:=?_) (h:=?_)
   ·intro w' hSw;have q1:w'.cell? ⟨w.heap.size,1,none⟩=some (.slice (some ⟨tb,to',none⟩) p.tasks.length tc):=mem_cell (HC8.out _ hSw).1 1;go_simp
   (try simp only[Act.put,pZ])
   refine zT 3 (.int .i64 (j:Int)) rfl (hy:=?_) (h:=?_)
   ·intro w' hSw;go_simp
   (try simp only[Act.put,pZ])
   refine zT 4 (.pointer (some ⟨tb,to'+j*8,none⟩)) rfl (hy:=?_) (h:=?_)
   ·intro w' hSw;go_simp
   (try simp only[Act.put,pZ])
   refine zT 5 (.agg #[.string tk.name,.int .i64 tk.period,.slice q.va tk.vars.length q.vc,.slice q.aa tk.arrays.length q.ac,.int .u8 tk.body.kind,.int .i64 tk.body.num,.string tk.body.name,.slice q.ka tk.body.len q.kc]) rfl (hy:=?_) (h:=?_)
   ·intro w' hSw;obtain⟨⟨q0,q1,q2,q3,q4,q5,q6,q7⟩,_⟩:=tsk_cells hSw HTC.out;go_simp
   (try simp only[Act.put,pZ])
   have hok:=HOK.out
   have htk:=HTKO.out
   have h9:=(translate_any p tk q sa (some ⟨tb,to',none⟩) sc tc D (HC8.out D HBD.out).2.1.1 (HC8.out D HBD.out).2.2.1 (by have:=(prgOk_le (okP_ok hok)).1;omega) (by have:=(tskOk_le htk).2.1;omega) (by have:=(tskOk_le htk).1;omega) (by have:=(tskOk_le htk).2.2;omega) (tskOk_body htk))
   unfold Tsk.cells at h9
   have HC:=ξ h9
   clear hok htk h9
   refine zR 6 rfl (fun K hK=>?_)
   go_simp
   refine HC.out.mono ?_
   rintro e w3 ⟨aa,ac,ba,bc,rfl,hfn,hB3⟩
   rw[HFF.out] at hfn
   have HFN:=ξ hfn
   have HB3:=ξ (mem_then HBD.out hB3)
   clear hfn hB3 HC
   have e1:tk.name=F.name:=by rw[←HFF.out];rfl
   rw[HFF.out,e1]
   clear e1
   refine hK.out _ _ (HB3.out) (fun hHeld=>?_)
   clear hK K
   rename_i hOld
   clear hOld
   (try simp only[Act.put,pZ])
   obtain⟨c0,c1,c2,c3,cf⟩:=fn_four (HC8.out w3 HB3.out).2.2.2.2
   obtain⟨an,hn1⟩:∃ n,F.arrays.length=n:=⟨_,rfl⟩
   obtain⟨bn,hn2⟩:∃ n,F.blocks.length=n:=⟨_,rfl⟩
   have HNN:Hid (F.arrays.length=an∧F.blocks.length=bn):=⟨hn1,hn2⟩
   rw[hn1,hn2]
   obtain⟨WE,hWE⟩:∃ X:World,put4 w3 A0.heap.size (.string F.name) (.int .i64 F.regs) (.slice aa an ac) (.slice ba bn bc)=X:=⟨_,rfl⟩
   have HEX:Hid (WE.heap[A0.heap.size]? = some (fnObj F.name F.regs (.slice aa an ac) (.slice ba bn bc))):=by show _=_;rw[←hWE];exact put4_at (HC8.out w3 HB3.out).2.2.2.2
   have HAE:Hid (FnNew w.heap.size WE F aa ba):=by
    refine (FnNew.move HFN.out (by rw[←hWE];unfold put4;simp) (fun k h1 h2=>?_)).mono (by have:=HB9.out.size;have:=HBW.out.size;have:=HBD.out.size;omega)
    rw[←hWE]
    exact put4_far (by have h3:=mem_lt (HC8.out D HBD.out).2.2.2.2;omega)
   have HBE:Hid (Below w.heap.size w WE):=by show Below _ _ _;rw[←hWE];exact put4_below (HC8.out w3 HB3.out).2.2.2.1 (by have:=HZ.out;omega)
   unfold put4 at hWE
   refine wpAnyZ_ready (rs:=[7]) (by kernel_rfl) (by simp) (AllReadyZ.last rfl (by decide) (fun K hK=>?_) AllReadyZ.nil)
   go_simp
   refine hK.out _ _ ?_
   clear hK K
   (try simp only[Act.put,pZ])
   clear c0 c1 c2 c3 cf hWE hHeld
   refine wpAnyZ_ready (rs:=[8]) (by kernel_rfl) (by simp) (AllReadyZ.last rfl (by decide) (fun K hK=>?_) AllReadyZ.nil)
   go_simp
   refine hK.out _ _ ?_
   clear hK K
   (try simp only[Act.put,pZ])
   refine wpAnyZ_done (by kernel_rfl) ?_ _
   obtain⟨r0,r1,r2,r3,_⟩:=fn_four HEX.out
   go_wp2_with fail
   exact bodyPost_ret (v:=.tuple #[fnVal F.name F.regs aa an ac ba bn bc,.int .i64 0]) (by simp[results,Tryz.results14,go_sem,r0,r1,r2,r3]) rfl ⟨aa,ac,ba,bc,by rw[HNN.out.1,HNN.out.2],HAE.out,HBE.out⟩
def allocs(w:World)(l:List Obj):World:=l.foldl (fun w o=>w.alloc o) w
theorem allocs_at:∀ (l:List Obj) (w:World) (i:Nat) (o:Obj),l[i]? = some o→(allocs w l).heap[w.heap.size+i]? = some o
 | [],w,i,o,h=>by simp at h
 | a::l,w,0,o,h=>by
  have h:a=o:=by simpa using h
  subst h
  exact mem_keep (mem_new w a) (allocs_below l _)
 | a::l,w,i+1,o,h=>by
  have h1:=allocs_at l (w.alloc a) i o (by simpa using h)
  have e:(w.alloc a).heap.size+i=w.heap.size+(i+1):=by simp;omega
  rw[e] at h1
  exact h1
where
 allocs_below:∀ (l:List Obj) (w:World),Below w.heap.size w (allocs w l)
  | [],w=>Below.refl _ _
  | a::l,w=>mem_then (mem_alloc w a) (allocs_below l (w.alloc a))
theorem allocs_low(l:List Obj)(w:World):Below w.heap.size w (allocs w l):=allocs_at.allocs_below l w
abbrev lX:ByteArray:=⟨#[120]⟩
abbrev lI:ByteArray:=⟨#[105]⟩
abbrev lT:ByteArray:=⟨#[116]⟩
def lV(s:ByteArray):Tree:=.node 2 0 s 0 (fun i=>i.elim0)
def l1(k n:Int)(s:ByteArray)(x:Tree):Tree:=.node k n s 1 (fun _=>x)
def l2(k n:Int)(s:ByteArray)(x y:Tree):Tree:=.node k n s 2 (fun i=>if i.val=0 then x else y)
def lAdd:Tree:=l2 40 0 noB (lV lX) (l2 6 0 noB (lV lX) (lV lI))
def lLoop:Tree:=l1 42 3 lI (l1 47 0 noB lAdd)
def lOut:Tree:=l1 45 1 noB (lV lX)
def lBody:Tree:=l2 47 0 noB lLoop lOut
def lsamT:Tsk:=⟨lT,5,[lX],[],lBody⟩
def lsamP:Prg:=⟨[],[lsamT]⟩
theorem lsam_ok:okP lsamP=true:=by kernel_rfl
theorem lsam_run:(runOf (lowFn [] lsamT) [] [] [] [] 1000).err=0∧(runOf (lowFn [] lsamT) [] [] [] [] 1000).out = [(1,3)]:=⟨by kernel_rfl,by kernel_rfl⟩
theorem l1_in{w:World}{b c0:Nat}{kk n:Int}{s:ByteArray}{x:Tree}{a0:Option Addr}{T:TypeId}(h:w.heap[b]? = some (.cells #[.int .u8 x.kind,.int .i64 x.num,.string x.name,.slice a0 x.len c0] T))(hx:Rep w x a0)(hf:(l1 kk n s x).Fits):Rep w (l1 kk n s x) (some ⟨b,0,none⟩):=by
 refine⟨hf,.inr ⟨b,0,rfl,fun i hi=>?_⟩⟩
 have:i=0:=by omega
 subst this
 exact⟨a0,c0,⟨mem_cell h 0,mem_cell h 1,mem_cell h 2,mem_cell h 3⟩,hx⟩
theorem l2_in{w:World}{b c0 c1:Nat}{kk n:Int}{s:ByteArray}{x y:Tree}{a0 a1:Option Addr}{T:TypeId}(h:w.heap[b]? = some (.cells #[.int .u8 x.kind,.int .i64 x.num,.string x.name,.slice a0 x.len c0,.int .u8 y.kind,.int .i64 y.num,.string y.name,.slice a1 y.len c1] T))(hx:Rep w x a0)(hy:Rep w y a1)(hf:(l2 kk n s x y).Fits):Rep w (l2 kk n s x y) (some ⟨b,0,none⟩):=by
 refine⟨hf,.inr ⟨b,0,rfl,fun i hi=>?_⟩⟩
 by_cases h0:i=0
 ·subst h0
  exact⟨a0,c0,⟨mem_cell h 0,mem_cell h 1,mem_cell h 2,mem_cell h 3⟩,hx⟩
 ·have:i=1:=by omega
  subst this
  exact⟨a1,c1,⟨mem_cell h 4,mem_cell h 5,mem_cell h 6,mem_cell h 7⟩,hy⟩
theorem lV_in{w:World}{s:ByteArray}{a:Option Addr}(hs:s.size≤9223372036854775807):Rep w (lV s) a:=
 ⟨⟨⟨show (0:Int)≤2 by decide,show (2:Int)≤255 by decide⟩,⟨show (-9223372036854775808:Int)≤0 by decide,show (0:Int)≤9223372036854775807 by decide⟩,hs,show (0:Nat)≤9223372036854775807 by decide⟩,.inl rfl⟩
def lsamObjs(n:Nat):List Obj:=[
 .cells #[.slice none 0 0,.slice (some ⟨n+13,0,none⟩) 1 1] 25,
 .cells #[.int .u8 2,.int .i64 0,.string lX,.slice none 0 0] 47,
 .cells #[.int .u8 2,.int .i64 0,.string lI,.slice none 0 0] 47,
 .cells #[.int .u8 2,.int .i64 0,.string lX,.slice none 0 0,.int .u8 2,.int .i64 0,.string lI,.slice none 0 0] 47,
 .cells #[.int .u8 2,.int .i64 0,.string lX,.slice none 0 0,.int .u8 6,.int .i64 0,.string noB,.slice (some ⟨n+3,0,none⟩) 2 2] 47,
 .cells #[.int .u8 40,.int .i64 0,.string noB,.slice (some ⟨n+4,0,none⟩) 2 2] 47,
 .cells #[.int .u8 40,.int .i64 0,.string noB,.slice (some ⟨n+4,0,none⟩) 2 2] 47,
 .cells #[.int .u8 47,.int .i64 0,.string noB,.slice (some ⟨n+6,0,none⟩) 1 1] 47,
 .cells #[.int .u8 42,.int .i64 3,.string lI,.slice (some ⟨n+7,0,none⟩) 1 1] 47,
 .cells #[.int .u8 2,.int .i64 0,.string lX,.slice none 0 0] 47,
 .cells #[.int .u8 45,.int .i64 1,.string noB,.slice (some ⟨n+9,0,none⟩) 1 1] 47,
 .cells #[.string lX] 9,
 .cells #[.int .u8 42,.int .i64 3,.string lI,.slice (some ⟨n+7,0,none⟩) 1 1,.int .u8 45,.int .i64 1,.string noB,.slice (some ⟨n+9,0,none⟩) 1 1] 47,
 .cells #[.string lT,.int .i64 5,.slice (some ⟨n+11,0,none⟩) 1 1,.slice none 0 0,.int .u8 47,.int .i64 0,.string noB,.slice (some ⟨n+12,0,none⟩) 2 2] 49]
theorem lsam_at(w:World):PrgAt (allocs w (lsamObjs w.heap.size)) lsamP none (some ⟨w.heap.size+13,0,none⟩):=by
 have K:∀ (i:Nat) (o:Obj),(lsamObjs w.heap.size)[i]? = some o→(allocs w (lsamObjs w.heap.size)).heap[w.heap.size+i]? = some o:=fun i o h=>allocs_at _ _ i o h
 generalize allocs w (lsamObjs w.heap.size)=U at K
 have hf:∀ {k n:Int} {s:ByteArray} {x:Tree},(0≤k∧k≤255)→(0≤n∧n≤1000)→s.size≤1000→(l1 k n s x).Fits:=fun h1 h2 h3=>⟨h1,⟨by show _≤_;simp[l1,Tree.num];omega,by show _≤_;simp[l1,Tree.num];omega⟩,by show _≤_;simp[l1,Tree.name];omega,by show (1:Nat)≤9223372036854775807;decide⟩
 have hf2:∀ {k n:Int} {s:ByteArray} {x y:Tree},(0≤k∧k≤255)→(0≤n∧n≤1000)→s.size≤1000→(l2 k n s x y).Fits:=fun h1 h2 h3=>⟨h1,⟨by show _≤_;simp[l2,Tree.num];omega,by show _≤_;simp[l2,Tree.num];omega⟩,by show _≤_;simp[l2,Tree.name];omega,by show (2:Nat)≤9223372036854775807;decide⟩
 have rAdd:Rep U (l2 6 0 noB (lV lX) (lV lI)) (some ⟨w.heap.size+3,0,none⟩):=l2_in (x:=lV lX) (y:=lV lI) (K 3 _ rfl) (lV_in (by decide)) (lV_in (by decide)) (hf2 (by decide) (by decide) (by decide))
 have rAsg:Rep U lAdd (some ⟨w.heap.size+4,0,none⟩):=l2_in (x:=lV lX) (y:=l2 6 0 noB (lV lX) (lV lI)) (K 4 _ rfl) (lV_in (by decide)) rAdd (hf2 (by decide) (by decide) (by decide))
 have rBlk:Rep U (l1 47 0 noB lAdd) (some ⟨w.heap.size+6,0,none⟩):=l1_in (x:=lAdd) (K 6 _ rfl) rAsg (hf (by decide) (by decide) (by decide))
 have rLoop:Rep U lLoop (some ⟨w.heap.size+7,0,none⟩):=l1_in (x:=l1 47 0 noB lAdd) (K 7 _ rfl) rBlk (hf (by decide) (by decide) (by decide))
 have rOut:Rep U lOut (some ⟨w.heap.size+9,0,none⟩):=l1_in (x:=lV lX) (K 9 _ rfl) (lV_in (by decide)) (hf (by decide) (by decide) (by decide))
 have rBody:Rep U lBody (some ⟨w.heap.size+12,0,none⟩):=l2_in (x:=lLoop) (y:=lOut) (K 12 _ rfl) rLoop rOut (hf2 (by decide) (by decide) (by decide))
 refine⟨⟨Nat.zero_le _,fun i hi=>absurd hi (Nat.not_lt_zero i)⟩,(show (1:Nat)≤9223372036854775807 by decide),fun i hi=>?_⟩
 have h0:i=0:=by have h1:i<1:=hi;omega
 subst h0
 refine⟨w.heap.size+13,0,⟨some ⟨w.heap.size+11,0,none⟩,1,none,0,some ⟨w.heap.size+12,0,none⟩,2⟩,rfl,fun o ho=>?_,⟨(show (1:Nat)≤9223372036854775807 by decide),⟨by decide,by decide⟩,⟨(show (1:Nat)≤9223372036854775807 by decide),fun i hi=>?_⟩,⟨Nat.zero_le _,fun i hi=>absurd hi (Nat.not_lt_zero i)⟩,rBody⟩⟩
 ·rw[show 0+0*8+o=o by omega]
  exact mem_cell (K 13 _ rfl) o
 ·have h0:i=0:=by have h1:i<1:=hi;omega
  subst h0
  exact⟨w.heap.size+11,0,rfl,mem_cell (K 11 _ rfl) 0,(show (1:Nat)≤9223372036854775807 by decide)⟩
theorem lsample_any(w:World):Calls Tryz.prog 16 #[] w fun e w'=>∃ ta,e = .returned (lsamP.val none 0 ta 1)∧PrgAt w' lsamP none ta∧Below w.heap.size w w':=by
 have hU:=lsam_at w
 have hB:=allocs_low (lsamObjs w.heap.size) w
 have hX:(allocs w (lsamObjs w.heap.size)).heap[w.heap.size+0]? = some (.cells #[.slice none 0 0,.slice (some ⟨w.heap.size+13,0,none⟩) 1 1] 25):=allocs_at _ _ 0 _ rfl
 obtain⟨U,hUe⟩:∃ U:World,allocs w (lsamObjs w.heap.size)=U:=⟨_,rfl⟩
 rw[hUe] at hU hB hX
 rw[Nat.add_zero] at hX
 have HU:=ξ hU
 have HB:=ξ hB
 have HX:=ξ hX
 have HE:=ξ hUe
 clear hU hB hX hUe
 go_enter Tryz.func16,Tryz.ntmps16
 go_wp2_with fail
 change bodyPost _ _ _ _ _ (allocs w (lsamObjs w.heap.size))
 rw[HE.out]
 have q0:U.cell? ⟨w.heap.size,0,none⟩=some (.slice none 0 0):=mem_cell HX.out 0
 have q1:U.cell? ⟨w.heap.size,1,none⟩=some (.slice (some ⟨w.heap.size+13,0,none⟩) 1 1):=mem_cell HX.out 1
 exact bodyPost_ret (v:=.agg #[.slice none 0 0,.slice (some ⟨w.heap.size+13,0,none⟩) 1 1]) (by simp[results,Tryz.results16,go_sem,q0,q1]) rfl ⟨_,rfl,HU.out,HB.out⟩
abbrev lawOc(va vo vu:Value)(rd st er:Int):Obj:=.cells #[va,vo,vu,.int .i64 rd,.int .i64 st,.int .i64 er] 51
theorem lawake_any(w:World)(hg:SignsIn w):Calls Tryz.prog 5 #[] w fun e w'=>e = .returned (.bool true)∧Below w.heap.size w w':=by
 have HG:=ξ hg
 clear hg
 have hcmp:=out_eql
 go_enter Tryz.func5,Tryz.ntmps5
 go_wp2_with fail
 refine (lsample_any w).mono ?_
 rintro e w1 ⟨ta,rfl,hp,hB1⟩
 have HB1:=ξ hB1
 have hT:=task_any lsamP 0 w1 none ta 0 1 hp (HG.out.below hB1) (by unfold isI64;decide)
 have hR:taskR lsamP 0=(lowFn [] lsamT,0):=by unfold taskR;rw[if_neg (by rw[lsam_ok];simp),if_neg (by decide)];rfl
 rw[hR] at hT
 have HT:=ξ hT
 clear hp hB1 hT hR
 go_wp2_with fail
 refine HT.out.mono ?_
 rintro e w2 ⟨aa,ac,ba,bc,rfl,hfn,hB2⟩
 obtain⟨F,hF⟩:∃ F,lowFn [] lsamT=F:=⟨_,rfl⟩
 have HF:=ξ hF
 have HNM:Hid (F.name=lT):=by show _=_;rw[←hF];rfl
 have HRUN:=ξ lsam_run
 rw[hF] at hfn HRUN
 simp only[hF]
 obtain⟨an,han⟩:∃ n,F.arrays.length=n:=⟨_,rfl⟩
 obtain⟨bn,hbn⟩:∃ n,F.blocks.length=n:=⟨_,rfl⟩
 have HAN:Hid (F.arrays.length=an∧F.blocks.length=bn):=⟨han,hbn⟩
 rw[han,hbn,HNM.out]
 obtain⟨rg,hrg⟩:∃ r,F.regs=r:=⟨_,rfl⟩
 have HRG:=ξ hrg
 rw[hrg]
 obtain⟨X,hX⟩:∃ X:World,w2.alloc (fnObj lT rg (.slice aa an ac) (.slice ba bn bc))=X:=⟨_,rfl⟩
 have HBX:Hid (Below w2.heap.size w2 X):=by show Below _ _ _;rw[←hX];exact mem_alloc _ _
 have HXX:Hid (X.heap[w2.heap.size]? = some (fnObj lT rg (.slice aa an ac) (.slice ba bn bc))):=by show _=_;rw[←hX];exact mem_new _ _
 have HB2:=ξ (mem_then HB1.out hB2)
 have hq:=run_any F [] [] [] [] 1000 aa ba none none none none ac bc 0 0 0 0 X (hfn.at_.below HBX.out) ⟨by decide,(by intro p hp;cases hp),.inl rfl⟩ (by decide) ⟨by decide,.inl rfl⟩ ⟨by decide,.inl rfl⟩ (by intro r hr;cases hr) (by intro r hr;cases hr) ⟨by decide,(by intro p hp;cases hp),.inl rfl⟩ (by decide)
 rw[han,hbn,HNM.out,hrg] at hq
 have HQ:=ξ hq
 obtain⟨u0,u1,u2,u3,_⟩:=fn_four HXX.out
 clear hF han hbn hrg hfn hB2 hq HT
 go_wp2_with fail
 clear hX u0 u1 u2 u3
 refine HQ.out.mono ?_
 rintro e w3 ⟨v,rfl,hoc,hB3⟩
 obtain⟨R,hR⟩:∃ R,runOf F [] [] [] [] 1000=R:=⟨_,rfl⟩
 have HRN:Hid (R.err=0∧R.out = [(1,3)]):=by show _∧_;rw[←hR];exact HRUN.out
 rw[hR] at hoc
 obtain⟨va,vo,vu,vac,voc,vuc,rfl,_,_,hout,_⟩:=hoc
 rw[HRN.out.2] at hout
 have HB3:=ξ (mem_then (mem_then HB2.out HBX.out) hB3)
 have h4:Hid (∃ ub uo,vu=some ⟨ub,uo,none⟩∧w3.cell? ⟨ub,uo,none⟩=some (.int .i64 1)∧w3.cell? ⟨ub,uo+1,none⟩=some (.int .i32 3)):=by
  rcases hout.at_ with h0|⟨ub,uo,hu,hc⟩
  ·cases h0
  ·obtain⟨c1,c2⟩:=hc 0 (1,3) rfl
   exact⟨ub,uo,hu,c1,c2⟩
 obtain⟨ub,uo,rfl,c1,c2⟩:=h4.out
 rw[HRN.out.1,HRN.out.2]
 have hXb:=mem_keep HXX.out hB3
 obtain⟨a1,ha1⟩:∃ n,R.arrays.length=n:=⟨_,rfl⟩
 obtain⟨a2,ha2⟩:∃ n,R.objects.length=n:=⟨_,rfl⟩
 obtain⟨a3,ha3⟩:∃ n:Int,((R.read:Nat):Int)=n:=⟨_,rfl⟩
 obtain⟨a4,ha4⟩:∃ n:Int,((R.steps:Nat):Int)=n:=⟨_,rfl⟩
 rw[ha1,ha2,ha3,ha4]
 have hl1:([(1,3)]:List (Int×Int)).length=1:=rfl
 rw[hl1]
 obtain⟨Y,hY⟩:∃ Y:World,w3.alloc (lawOc (.slice va a1 vac) (.slice vo a2 voc) (.slice (some ⟨ub,uo,none⟩) 1 vuc) a3 a4 0)=Y:=⟨_,rfl⟩
 have hBY:Below w3.heap.size w3 Y:=by rw[←hY];exact mem_alloc _ _
 have hYY:Y.heap[w3.heap.size]? = some (lawOc (.slice va a1 vac) (.slice vo a2 voc) (.slice (some ⟨ub,uo,none⟩) 1 vuc) a3 a4 0):=by rw[←hY];exact mem_new _ _
 obtain⟨u0,u1,u2,u3,_⟩:=fn_four (mem_keep hXb hBY)
 have hd1:=c1
 have HLE:Hid (w.heap.size≤w3.heap.size):=HB3.out.size
 have d1:=cell_below hBY c1
 have d2:=cell_below hBY c2
 have y2:Y.cell? ⟨w3.heap.size,2,none⟩=some (.slice (some ⟨ub,uo,none⟩) 1 vuc):=mem_cell hYY 2
 have y5:Y.cell? ⟨w3.heap.size,5,none⟩=some (.int .i64 0):=mem_cell hYY 5
 have HBE:=ξ (mem_then HB3.out hBY)
 clear hR ha1 ha2 ha3 ha4 hl1 hB3 hout h4 c1 c2 hXb hBY HQ HXX HRN HRUN
 have hub:ub<w3.heap.size:=World.block_lt_of_cell? _ _ hd1
 have e1:(Y.setCell ⟨w3.heap.size,5,none⟩ (.int .i64 0)).cell? ⟨ub,uo,none⟩=some (.int .i64 1):=by rw[World.cell?_setCell_other _ _ _ _ (fun e=>by cases e;omega)];exact d1
 have e2:(Y.setCell ⟨w3.heap.size,5,none⟩ (.int .i64 0)).cell? ⟨ub,uo+1,none⟩=some (.int .i32 3):=by rw[World.cell?_setCell_other _ _ _ _ (fun e=>by cases e;omega)];exact d2
 have hfz:Y.frozen? ⟨w3.heap.size,5,none⟩=false:=mem_free hYY 5
 clear hd1 hub hYY
 go_wp2_with fail
 go_ret
 exact⟨rfl,HBE.out.setCell HLE.out _⟩
