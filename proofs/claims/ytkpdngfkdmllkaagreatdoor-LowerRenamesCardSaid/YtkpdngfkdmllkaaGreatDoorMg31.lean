/- Part. -/
import Derived.Deep.RegionHeld
import Derived.StillTail
import Derived.Test.YtkpdngfkdmllkaaGreatDoorMg30
namespace Go.Proofs.YtkpdngfkdmllkaaGreatDoor
set_option linter.unusedVariables false
set_option linter.unusedSimpArgs false
open Go
section
variable {P:Program} {ops:Array Oper} {Q:Exit→Act→World→Prop} {md:Region.Mode} {S:World→Prop} {z:Nat}
def wpAnyZ(P:Program)(md:Region.Mode)(ops:Array Oper)(Q:Exit→Act→World→Prop)(S:World→Prop)(z:Nat):Nat→Array Bool→Act→World→Prop
 | 0,listed,a,w=>Region.ready md ops listed = []∧Q .normal a w
 | fuel+1,listed,a,w =>
  (Region.ready md ops listed = []→Q .normal a w) ∧
  ∀ i∈Region.ready md ops listed,wpOp P ops Q i (fun a' w'=>(i<z→S w')∧wpAnyZ P md ops Q S z fuel (listed.setIfInBounds i true) a' w') a w
theorem wpAny_of_Z:∀ (fuel:Nat) (listed:Array Bool) (a:Act) (w:World),wpAnyZ P md ops Q S z fuel listed a w→wpAny P md ops Q fuel listed a w
 | 0,_,_,_,h=>h
 | fuel+1,_,_,_,h=>⟨h.1,fun i hi=>wpOp_mono (fun a' w' h'=>wpAny_of_Z fuel _ a' w' h'.2) (h.2 i hi)⟩
def tailWaits(md:Region.Mode)(ops:Array Oper)(z i:Nat):Bool:=(List.range ops.size).all fun j=>decide (j<z) || Region.waitsFor md ops j i
theorem wpAnyZ_first{i:Nat}{oi:Oper}{v:Value}(hi:ops[i]? = some oi)(hsel:∀ (j:Nat) (o:Oper) cs b,ops[j]? = some o→o.op≠.select cs b)(hz:tailWaits md ops z i=true)
 (hQ:∀ c a w,Q (.panic c) (a.put oi.dst v) w→Q (.panic c) a w) :
 ∀ (fuel:Nat) (listed:Array Bool) (a:Act) (w:World),
  (∀ j oj,ops[j]? = some oj→j≠i→listed.getD j true=false→(∀ e∈oj.after,Region.binds md e=true→e.on≠i)→oi.apart ops oj=true) →
  i∈Region.ready md ops listed→YieldsIf P ops S oi v a→S w →
  wpAnyZ P md ops Q S z fuel (listed.setIfInBounds i true) (a.put oi.dst v) w→wpAnyZ P md ops Q S z (fuel+1) listed a w:=by
 intro fuel
 induction fuel with
 | zero =>
  intro listed a w _ hr hy hS H
  refine⟨fun h=>(by rw[h] at hr;cases hr),fun j hj=>?_⟩
  by_cases hji:j=i
  ·subst hji;exact hy.wpOp hi hS ⟨fun _=>hS,H⟩
  ·have:=ready_mono hj hji
   rw[H.1] at this
   cases this
 | succ fuel ih =>
  intro listed a w hfree hr hy hS H
  refine⟨fun h=>(by rw[h] at hr;cases hr),fun j hj=>?_⟩
  by_cases hji:j=i
  ·subst hji;exact hy.wpOp hi hS ⟨fun _=>hS,H⟩
  ·have h1:=H.2 j (ready_mono hj hji)
   obtain⟨hjun,oj,hoj,hall⟩:=mem_ready.1 hj
   have hnot:∀ e∈oj.after,Region.binds md e=true→e.on≠i:=fun e he hb heq=>by
    have h1:=hall e he hb
    have h0:=(mem_ready.1 hr).1
    rw[heq] at h1
    rcases Nat.lt_or_ge i listed.size with h'|h'
    ·simp[h'] at h0 h1;rw[h0] at h1;cases h1
    ·simp[Array.getElem?_eq_none h'] at h1
   have hjz:j<z:=by
    unfold tailWaits at hz
    have hjs:j<ops.size:=(Array.getElem?_eq_some_iff.1 hoj).1
    have h4:=List.all_eq_true.1 hz j (List.mem_range.2 hjs)
    rw[Bool.or_eq_true,decide_eq_true_eq] at h4
    rcases h4 with h4|h4
    ·exact h4
    ·obtain⟨oj',hoj',e,he,hb,hon⟩:=Region.waitsFor_spec h4
     rw[hoj] at hoj'
     cases hoj'
     exact absurd hon (hnot e he hb)
   have h2:=wpOp_putIf hoj (hfree j oj hoj hji hjun hnot) (fun cs b=>hsel i oi cs b hi) (fun cs b=>hsel j oj cs b hoj) hQ hy h1
   have hfree':∀ k ok,ops[k]? = some ok→k≠i→(listed.setIfInBounds j true).getD k true=false →
    (∀ e∈ok.after,Region.binds md e=true→e.on≠i)→oi.apart ops ok=true:=fun k ok hk hki hun hno=>by
    refine hfree k ok hk hki ?_ hno
    by_cases hjk:j=k
    ·subst hjk;exact hjun
    ·rw[getD_set_ne true hjk] at hun;exact hun
   refine wpOp_mono (fun a' w' h3=>⟨fun _=>h3.2.1 hjz,ih (listed.setIfInBounds j true) a' w' hfree' (ready_mono hr (Ne.symm hji)) h3.1 (h3.2.1 hjz) ?_⟩) h2
   rw[Array.setIfInBounds_comm _ _ hji]
   exact h3.2.2
theorem wpAnyZ_take{i:Nat}{oi:Oper}{v:Value}{fuel:Nat}{listed:Array Bool}{a:Act}{w:World}(hi:ops[i]? = some oi)
 (hs:Region.noSelect ops=true) (hf:Region.free md ops listed i=true) (hr:(Region.ready md ops listed).contains i=true) (hz:tailWaits md ops z i=true)
 (hQ:∀ c a w,Q (.panic c) (a.put oi.dst v) w→Q (.panic c) a w) (hy:YieldsIf P ops S oi v a) (hS:S w)
 (h:wpAnyZ P md ops Q S z fuel (listed.setIfInBounds i true) (a.put oi.dst v) w):wpAnyZ P md ops Q S z (fuel+1) listed a w:=
 wpAnyZ_first hi (Region.noSelect_spec hs) hz hQ fuel listed a w (Region.free_spec hi hf) (by simpa using hr) hy hS h
theorem zT{fuel:Nat}{listed:Array Bool}{a:Act}{w:World}(i:Nat)(v:Value){oi:Oper}(hi:ops[i]? = some oi)(hs:Region.noSelect ops=true:=by kernel_rfl)(hf:Region.free md ops listed i=true:=by kernel_rfl)
 (hr:(Region.ready md ops listed).contains i=true:=by kernel_rfl) (hz:tailWaits md ops z i=true:=by kernel_rfl) (hQ:∀ c a w,Q (.panic c) (a.put oi.dst v) w→Q (.panic c) a w:=by exact fun _ _ _ h=>h) (hw:Region.wanted oi (yielded ops a.tmps)=true:=by rfl) (hS:S w:=by assumption)
 (hy:∀ w,S w→(execOp a.eval oi).run P w = .ok (.value v) w) (h:wpAnyZ P md ops Q S z fuel (listed.setIfInBounds i true) (a.put oi.dst v) w):wpAnyZ P md ops Q S z (fuel+1) listed a w:=
 wpAnyZ_take hi hs hf hr hz hQ (Or.inl ⟨hw,hy⟩) hS h
theorem wpAnyZ_all{rs:List Nat}{fuel:Nat}{listed:Array Bool}{a:Act}{w:World}(hr:Region.ready md ops listed=rs)(hne:rs≠[])
 (h:∀ i∈rs,wpOp P ops Q i (fun a' w'=>(i<z→S w')∧wpAnyZ P md ops Q S z fuel (listed.setIfInBounds i true) a' w') a w):wpAnyZ P md ops Q S z (fuel+1) listed a w:=
 ⟨fun h0=>absurd (hr ▸ h0) hne,hr ▸ h⟩
theorem wpAnyZ_done{listed:Array Bool}{a:Act}{w:World}(hr:Region.ready md ops listed = [])(h:Q .normal a w) :
 ∀ fuel,wpAnyZ P md ops Q S z fuel listed a w
 | 0=>⟨hr,h⟩
 | _+1=>⟨fun _=>h,by rw[hr];simp⟩
def AllReadyZ(P:Program)(md:Region.Mode)(ops:Array Oper)(Q:Exit→Act→World→Prop)(S:World→Prop)(z fuel:Nat)(listed:Array Bool)(a:Act)(w:World)(rs:List Nat):Prop:=
 ∀ i∈rs,wpOp P ops Q i (fun a' w'=>(i<z→S w')∧wpAnyZ P md ops Q S z fuel (listed.setIfInBounds i true) a' w') a w
theorem AllReadyZ.nil{fuel:Nat}{listed:Array Bool}{a:Act}{w:World}:AllReadyZ P md ops Q S z fuel listed a w []:=fun _ h=>by cases h
theorem AllReadyZ.cons{fuel:Nat}{listed:Array Bool}{a:Act}{w:World}{i:Nat}{o:Oper}{rs:List Nat}(ho:ops[i]? = some o)
 (h:∀ K':Act→World→Prop,Shut (∀ a w,S w→(S w→wpAnyZ P md ops Q S z fuel (listed.setIfInBounds i true) a w)→K' a w)→if Region.wanted o (yielded ops a.tmps)=true then Oper.wp P o a w K' Q else K' (a.put o.dst undef) w)
 (hs:AllReadyZ P md ops Q S z fuel listed a w rs):AllReadyZ P md ops Q S z fuel listed a w (i::rs):=fun j hj=>by
 rcases List.mem_cons.1 hj with rfl|hj
 ·exact wpOp_step ho (fun K' hK=>h K' (fun a w hS hW=>hK a w ⟨fun _=>hS,hW hS⟩))
 ·exact hs j hj
theorem AllReadyZ.last{fuel:Nat}{listed:Array Bool}{a:Act}{w:World}{i:Nat}{o:Oper}{rs:List Nat}(ho:ops[i]? = some o)(hi:z≤i)
 (h:∀ K':Act→World→Prop,Shut (∀ a w,wpAnyZ P md ops Q S z fuel (listed.setIfInBounds i true) a w→K' a w)→if Region.wanted o (yielded ops a.tmps)=true then Oper.wp P o a w K' Q else K' (a.put o.dst undef) w)
 (hs:AllReadyZ P md ops Q S z fuel listed a w rs):AllReadyZ P md ops Q S z fuel listed a w (i::rs):=fun j hj=>by
 rcases List.mem_cons.1 hj with rfl|hj
 ·exact wpOp_step ho (fun K' hK=>h K' (fun a w hW=>hK a w ⟨fun hlt=>absurd hlt (by omega),hW⟩))
 ·exact hs j hj
theorem wpAnyZ_ready{rs:List Nat}{fuel:Nat}{listed:Array Bool}{a:Act}{w:World}(hr:Region.ready md ops listed=rs)(hne:rs≠[])
 (h:AllReadyZ P md ops Q S z fuel listed a w rs):wpAnyZ P md ops Q S z (fuel+1) listed a w:=wpAnyZ_all hr hne h
theorem zR{fuel:Nat}{listed:Array Bool}{a:Act}{w:World}(i:Nat){o:Oper}(ho:ops[i]? = some o)
 (h:∀ K':Act→World→Prop,Shut (∀ a w,S w→(S w→wpAnyZ P md ops Q S z fuel (listed.setIfInBounds i true) a w)→K' a w)→if Region.wanted o (yielded ops a.tmps)=true then Oper.wp P o a w K' Q else K' (a.put o.dst undef) w)
 (hr:Region.ready md ops listed = [i]:=by kernel_rfl):wpAnyZ P md ops Q S z (fuel+1) listed a w:=wpAnyZ_ready hr (by simp) (AllReadyZ.cons ho h AllReadyZ.nil)
theorem wp_region_z{id:Nat}(z:Nat){a:Act}{w:World}(hm:P.follows .mixedOrders=true)(hS:S w.drew)
 (h:S w.drew→wpAnyZ P .any ops Q S z ops.size (Array.replicate ops.size false) a w.drew):(Code.region id ops true).wp P Q a w:=
 wp_region_any hm (wpAny_of_Z _ _ _ _ (h hS))
end
open Go.RowKit Go.Maps
set_option maxRecDepth 100000
set_option maxHeartbeats 4000000
theorem Tryz.infoInsL:(Tryz.prog.info? 100).map (fun i=>(i.zero,i.size,i.bytes))=some (some (.agg #[.int .u8 0,.int .i64 0,.int .i64 0,.int .i64 0,.int .i64 0,.string ⟨#[]⟩]),6,56):=by kernel_rfl
theorem Tryz.infoPtrL:(Tryz.prog.info? 109).map (fun i=>(i.zero,i.size,i.bytes))=some (some (.pointer none),1,8):=by kernel_rfl
abbrev insObj(i:Ins):Obj:=.cells #[.int .u8 i.op,.int .i64 i.dst,.int .i64 i.x,.int .i64 i.y,.int .i64 i.imm,.string i.sym] 100
theorem cur_last{G:List Nat}{i g:Nat}(hg:G[i]? = some g)(hl:G.length=i+1):curV G=ptrV g:=by
 unfold curV
 rw[List.getLast?_eq_getElem?,hl]
 show (match G[i+1-1]? with | none=>_ | some g=>_)=_
 rw[Nat.add_sub_cancel,hg]
theorem ins_six{w:World}{b:Nat}{x0 x1 x2 x3 x4 x5:Value}{T:TypeId}(h:w.heap[b]? = some (.cells #[x0,x1,x2,x3,x4,x5] T)) :
 w.cell? ⟨b,0,none⟩=some x0∧w.cell? ⟨b,1,none⟩=some x1∧w.cell? ⟨b,2,none⟩=some x2∧w.cell? ⟨b,3,none⟩=some x3∧w.cell? ⟨b,4,none⟩=some x4∧w.cell? ⟨b,5,none⟩=some x5:=
 ⟨mem_cell h 0,mem_cell h 1,mem_cell h 2,mem_cell h 3,mem_cell h 4,mem_cell h 5⟩
section
variable {B N:Nat} {m:BM} {E:LEnv} {w:World} {G:List Nat} {bs:List Blk} {R d:Nat} {V:VM}
theorem emit_any{j g:Nat}{q:Blk}(i:Ins)(h:BdAt B N m E w G bs R d V)(hg:G[j]? = some g)(hl:G.length=j+1)(hq:bs[j]? = some q)(hi:i.Wf)(hN:N+1≤1000000) :
 Calls Tryz.prog 82 #[ptrV m.bb,i.val] w fun e w'=>e = .returned (.tuple #[])∧BdAt B (N+1) m E w' G (bs.set j { q with code:=q.code++[i] }) R d V∧FrL B m w w':=by
 have H:=ξ h
 have HG:=ξ hg
 have HQ:=ξ hq
 have HI:=ξ hi
 have hBw:=h.lt.2.2.2.2
 obtain⟨W,hW⟩:∃ W:World,w.alloc (insObj i)=W:=⟨_,rfl⟩
 have HBW:Hid (Below w.heap.size w W):=by show Below _ _ _;rw[←hW];exact mem_alloc _ _
 have HXW:Hid (W.heap[w.heap.size]? = some (insObj i)):=by show _=_;rw[←hW];exact mem_new _ _
 have HA:=ξ (h.keep HBW.out)
 obtain⟨a,c,h0,hrow,hgB,hgl,hwf,hiw,hlen⟩:=HA.out.at_ hg hq
 obtain⟨rv,hb0,_⟩:=HA.out.box
 have hcur:=cur_last hg hl
 rw[hcur] at hb0
 have HC:Hid (∀ w',Below W.heap.size W w'→w'.heap[m.bb]? = some (bdObj m R d rv (ptrV g))∧w'.heap[g]? = some (BP.obj ⟨g,⟨q,a,c⟩⟩)∧w'.heap[w.heap.size]? = some (insObj i)):=fun w' hb=>⟨mem_keep hb0 hb,mem_keep h0 hb,mem_keep HXW.out hb⟩
 have HROW:=ξ hrow
 have H0:=ξ h0
 have HWF:=ξ (And.intro hwf hiw)
 have hNl:=H.out.cap
 obtain⟨i0,hi0,hz0,hz1,hz2⟩:=info_parts Tryz.infoInsL
 have x6:W.cell? ⟨m.bb,6,none⟩=some (ptrV g):=mem_cell hb0 6
 clear h hg hl hq hi h0 hrow hb0 hwf hiw hcur
 unfold Ins.val
 go_enter Tryz.func82,Tryz.ntmps82
 go_upto_region 1 with fail
 clear x6 hW
 have hD0:Below W.heap.size W (World.drew W):=(Below.refl _ _).drew
 refine wp_region_z 16 (S:=fun w'=>w'.cell? ⟨m.bb,6,none⟩=some (ptrV g)∧w'.cell? ⟨g,0,none⟩=some (.slice a q.code.length c)∧w'.heap[w.heap.size]? = some (insObj i)) (by kernel_rfl) ⟨mem_cell (HC.out _ hD0).1 6,mem_cell (HC.out _ hD0).2.1 0,(HC.out _ hD0).2.2⟩ (fun hHeld=>?_)
 generalize hwd:World.drew W=v1 at hHeld hD0⊢
 clear hwd
 have HD0:=ξ hD0
 clear hD0
 refine zT 0 (ptrV m.bb) rfl (hy:=?_) (h:=?_)
 ·intro w' hSw;go_simp
 (try simp only[Act.put,pZ])
 refine zT 1 (.pointer (some ⟨m.bb,0,none⟩)) rfl (hy:=?_) (h:=?_)
 ·intro w' hSw;go_simp
 (try simp only[Act.put,pZ])
 refine zT 2 (.pointer (some ⟨m.bb,6,none⟩)) rfl (hy:=?_) (h:=?_)
 ·intro w' hSw;go_simp
 (try simp only[Act.put,pZ])
 refine zT 3 (ptrV g) rfl (hy:=?_) (h:=?_)
 ·intro w' hSw;obtain⟨z0,z1,z2⟩:=hSw;go_simp
 (try simp only[Act.put,pZ])
 refine zT 4 (ptrV m.bb) rfl (hy:=?_) (h:=?_)
 ·intro w' hSw;go_simp
 (try simp only[Act.put,pZ])
 refine zT 5 (.pointer (some ⟨m.bb,0,none⟩)) rfl (hy:=?_) (h:=?_)
 ·intro w' hSw;go_simp
 (try simp only[Act.put,pZ])
 refine zT 6 (.pointer (some ⟨m.bb,6,none⟩)) rfl (hy:=?_) (h:=?_)
 ·intro w' hSw;go_simp
 (try simp only[Act.put,pZ])
 refine zT 7 (ptrV g) rfl (hy:=?_) (h:=?_)
 ·intro w' hSw;obtain⟨z0,z1,z2⟩:=hSw;go_simp
 (try simp only[Act.put,pZ])
 refine zT 8 (.pointer (some ⟨g,0,none⟩)) rfl (hy:=?_) (h:=?_)
 ·intro w' hSw;go_simp
 (try simp only[Act.put,pZ])
 refine zT 9 (.pointer (some ⟨g,0,none⟩)) rfl (hy:=?_) (h:=?_)
 ·intro w' hSw;go_simp
 (try simp only[Act.put,pZ])
 refine zT 10 (.slice a q.code.length c) rfl (hy:=?_) (h:=?_)
 ·intro w' hSw;obtain⟨z0,z1,z2⟩:=hSw;go_simp
 (try simp only[Act.put,pZ])
 refine zT 11 (.agg #[.int .u8 i.op,.int .i64 i.dst,.int .i64 i.x,.int .i64 i.y,.int .i64 i.imm,.string i.sym]) rfl (hy:=?_) (h:=?_)
 ·intro w' hSw;obtain⟨_,_,z2⟩:=hSw;obtain⟨q0,q1,q2,q3,q4,q5⟩:=ins_six z2;go_simp
 (try simp only[Act.put,pZ])
 refine zR 12 rfl (fun K hK=>?_)
 go_simp
 obtain⟨v2,hv2⟩:∃ V:World,v1.alloc (insObj i)=V:=⟨_,rfl⟩
 rw[hv2]
 have hB2:Below v1.heap.size v1 v2:=by rw[←hv2];exact mem_alloc _ _
 have HLIT:Hid (∀ (j:Nat) (x:Value),i.cells[j]? = some x→v2.cell? ((⟨v1.heap.size,0,none⟩:Addr).add j)=some x):=by
  show ∀ _ _,_
  rw[←hv2]
  exact ins_new v1 i _
 have HB2:=ξ (mem_then HD0.out hB2)
 clear hv2 hB2
 refine hK.out _ _ (⟨mem_cell (HC.out _ HB2.out).1 6,mem_cell (HC.out _ HB2.out).2.1 0,(HC.out _ HB2.out).2.2⟩) (fun hHeld=>?_)
 clear hK K
 rename_i hOld
 clear hOld
 (try simp only[Act.put,pZ])
 refine zR 13 rfl (fun K hK=>?_)
 refine step_append_row rfl (.tmp 14) (.tmp 16) 96 rfl B 100 i0 _ 6 56 Tryz.underlying96 hi0 hz0 hz1 hz2 rfl (by decide) (.slice a q.code.length c) q.code.length (codeCells q.code) (by simp[Act.eval]) (own_below HROW.out HB2.out) ⟨v1.heap.size,0,none⟩ 1 1 i.cells (by simp[Act.eval]) rfl HLIT.out i.one (by decide) (by unfold maxLen;omega) (by omega) (Nat.le_trans HA.out.lt.2.2.2.2 HB2.out.size) ?_
 intro gb cap w2 hown2 hgrow2 hplace
 have keep9:∀ (k:Nat) o,W.heap[k]? = some o→(Value.slice a q.code.length c).ownBlock≠some k→w2.heap[k]? = some o:=fun k o hk ht=>(hgrow2.block k (Nat.lt_of_lt_of_le (mem_lt hk) HB2.out.size) (fun e=>ht e.symm)).trans (mem_keep hk HB2.out)
 have hnx:(Value.slice a q.code.length c).ownBlock≠some w.heap.size:=fun e=>by
  obtain⟨a',c',h1,h2,_⟩:=H.out.at_ HG.out HQ.out
  have h3:=mem_keep h1 HBW.out
  rw[(HC.out W (Below.refl _ _)).2.1] at h3
  have e9:a=a':=by
   unfold BP.obj at h3
   injection h3 with h3
   injection h3 with h3
   injection h3 with h3
   injection h3 with h3 _
   injection h3
  subst e9
  have h4:(Value.slice a q.code.length c').ownBlock=some w.heap.size:=by
   cases a with
   | none=>cases e
   | some d=>exact e
  have:=(own_lt h2 h4).2
  omega
 have HK:=ξ (And.intro (keep9 _ _ (HC.out W (Below.refl _ _)).1 (own_other HROW.out (HC.out W (Below.refl _ _)).1 (by decide))) (And.intro (keep9 _ _ (HC.out W (Below.refl _ _)).2.1 (own_other HROW.out (HC.out W (Below.refl _ _)).2.1 (by decide))) (keep9 _ _ (HC.out W (Below.refl _ _)).2.2 hnx)))
 have HGR:=ξ hgrow2
 have HOWN:=ξ hown2
 have HPL:=ξ hplace
 clear hown2 hgrow2 hplace keep9 hnx
 refine hK.out _ _ (⟨mem_cell HK.out.1 6,mem_cell HK.out.2.1 0,HK.out.2.2⟩) (fun hHeld=>?_)
 clear hK K
 rename_i hOld
 clear hOld
 (try simp only[Act.put,pZ])
 refine zR 14 rfl (fun K hK=>?_)
 go_simp
 refine hK.out _ _ (⟨mem_cell HK.out.1 6,mem_cell HK.out.2.1 0,HK.out.2.2⟩) (fun hHeld=>?_)
 clear hK K
 rename_i hOld
 clear hOld
 (try simp only[Act.put,pZ])
 refine zR 15 rfl (fun K hK=>?_)
 go_simp
 refine hK.out _ _ (⟨mem_cell HK.out.1 6,mem_cell HK.out.2.1 0,HK.out.2.2⟩) (fun hHeld=>?_)
 clear hK K
 rename_i hOld
 clear hOld
 (try simp only[Act.put,pZ])
 have c0:w2.cell? ⟨g,0,none⟩=some (.slice a q.code.length c):=mem_cell HK.out.2.1 0
 have f0:=mem_free HK.out.2.1 0
 refine wpAnyZ_ready (rs:=[16]) (by kernel_rfl) (by simp) (AllReadyZ.last rfl (by decide) (fun K hK=>?_) AllReadyZ.nil)
 go_simp
 refine hK.out _ _ ?_
 clear hK K
 (try simp only[Act.put,pZ])
 clear c0 f0 hHeld
 refine wpAnyZ_done (by kernel_rfl) ?_ _
 have HPUT:Hid (BdAt B (N+1) m E (w2.setCell ⟨g,0,none⟩ (.slice (some ⟨gb,0,none⟩) (q.code.length+1) cap)) G (bs.set j { q with code:=q.code++[i] }) R d V∧FrL B m W (w2.setCell ⟨g,0,none⟩ (.slice (some ⟨gb,0,none⟩) (q.code.length+1) cap))):=by
  have hlen2:(q.code++[i]).length=q.code.length+1:=by simp
  have hgb:gb≠g:=by
   rintro rfl
   have h1:w2.heap[gb]? = _:=HK.out.2.1
   exact own_other HOWN.out h1 (by decide) rfl
  have hfar:∀ k,k≠g→(w2.setCell ⟨g,0,none⟩ (.slice (some ⟨gb,0,none⟩) (q.code.length+1) cap)).heap[k]? = w2.heap[k]?:=fun k hk=>Below.heap_setCell _ _ _ _ hk
  refine HA.out.put (a':=some ⟨gb,0,none⟩) (c':=cap) HG.out HQ.out H0.out ?_ ?_ ?_ ?_ ?_ ⟨⟨HWF.out.1.k0,HWF.out.1.k1,HWF.out.1.x,HWF.out.1.to,HWF.out.1.els⟩,fun z hz=>?_⟩ (by omega) hN (by rw[hlen2];omega)
  ·rw[mem_set HK.out.2.1]
   unfold BP.obj
   simp
  ·show World.ownsRow _ _ _ _ (.slice _ (q.code++[i]).length _) (q.code++[i]).length _
   rw[hlen2]
   have e9:codeCells (q.code++[i])=codeCells q.code++i.cells:=flat_snoc _ _
   rw[e9]
   exact own_keep HOWN.out (fun k hk _=>hfar k (by rintro rfl;cases hk;exact hgb rfl))
  ·rcases HPL.out with e|e
   ·exact .inl e.symm
   ·exact .inr ⟨gb,rfl,Nat.le_trans HB2.out.size e⟩
  ·intro k hk hkg hko
   rw[hfar k hkg,HGR.out.block k (Nat.lt_of_lt_of_le hk HB2.out.size) (fun e=>hko e.symm)]
   exact HB2.out.block k hk
  ·have h1:Below B W v2:=HB2.out.mono HA.out.lt.2.2.2.2
   exact (h1.grown HGR.out (Nat.le_trans HA.out.lt.2.2.2.2 HB2.out.size) (fun k hk=>(own_lt HROW.out hk).1)).setCell (p:=⟨g,0,none⟩) hgB _
  ·rcases List.mem_append.1 hz with hz|hz
   ·exact HWF.out.2 z hz
   ·obtain rfl:z=i:=by simpa using hz
    exact HI.out
 go_wp2_with fail
 go_end0
 exact⟨rfl,HPUT.out.1,(FrL.of HBW.out hBw).trans HPUT.out.2⟩
theorem start_any(h:BdAt B N m E w G bs R d V)(hN:N+1≤1000000) :
 Calls Tryz.prog 41 #[ptrV m.bb] w fun e w'=>e = .returned (.int .i64 (bs.length:Int))∧∃ g,BdAt B (N+1) m E w' (G++[g]) (bs++[opnB []]) R d V∧FrL B m w w':=by
 have H:=ξ h
 have hBw:=h.lt.2.2.2.2
 have hlenG:=h.len
 have hsm:=h.small.2.2.1
 obtain⟨rv,hb0,hrow⟩:=h.box
 obtain⟨ra,rc,rfl⟩:=own_val hrow
 obtain⟨n,hn⟩:∃ n,G.length=n:=⟨_,rfl⟩
 rw[hn] at hb0 hrow hlenG
 rw[←hlenG] at hsm⊢
 have HN:=ξ hn
 have hbbl:=mem_lt hb0
 obtain⟨W1,hW1⟩:∃ W:World,w.alloc (.cells #[.slice none 0 0,.int .u8 0,.int .i64 0,.int .i64 0,.int .i64 0] 98)=W:=⟨_,rfl⟩
 have hB1:Below w.heap.size w W1:=by rw[←hW1];exact mem_alloc _ _
 have e1:W1.heap[m.bb]? = some (bdObj m R d (.slice ra n rc) (curV G)):=mem_keep hb0 hB1
 have n1:W1.heap[w.heap.size]? = some (BP.obj ⟨w.heap.size,⟨opnB [],none,0⟩⟩):=by rw[←hW1];exact mem_new _ _
 have hW1s:W1.heap.size=w.heap.size+1:=by rw[←hW1];simp
 obtain⟨W2,hW2⟩:∃ W:World,W1.setCell ⟨m.bb,6,none⟩ (ptrV w.heap.size)=W:=⟨_,rfl⟩
 have far2:∀ k,k≠m.bb→W2.heap[k]? = W1.heap[k]?:=fun k hk=>by rw[←hW2];exact Below.heap_setCell _ _ _ _ hk
 have e2:W2.heap[m.bb]? = some (bdObj m R d (.slice ra n rc) (ptrV w.heap.size)):=by rw[←hW2,mem_set e1];rfl
 have n2:W2.heap[w.heap.size]? = some (BP.obj ⟨w.heap.size,⟨opnB [],none,0⟩⟩):=(far2 _ (by omega)).trans n1
 have hW2s:w.heap.size≤W2.heap.size:=Nat.le_of_lt (mem_lt n2)
 have hrow2:W2.ownsRow B 109 1 (.slice ra n rc) n (G.map ptrV):=own_keep hrow (fun k hk hl=>(far2 k (by rintro rfl;exact own_other hrow hb0 (by decide) hk)).trans (hB1.block k hl))
 have HB2:Hid (Below B w W2):=by show Below _ _ _;rw[←hW2];exact (hB1.mono hBw).setCell (p:=⟨m.bb,6,none⟩) H.out.up.1 _
 have HOLD:Hid (∀ k,k<w.heap.size→k≠m.bb→W2.heap[k]? = w.heap[k]?):=fun k hk hne=>(far2 k hne).trans (hB1.block k hk)
 have c6:W1.cell? ⟨m.bb,6,none⟩=some (curV G):=mem_cell e1 6
 have f6:=mem_free e1 6
 have HC:Hid (∀ w',Below W2.heap.size W2 w'→w'.heap[m.bb]? = some (bdObj m R d (.slice ra n rc) (ptrV w.heap.size))∧w'.heap[w.heap.size]? = some (BP.obj ⟨w.heap.size,⟨opnB [],none,0⟩⟩)):=fun w' hb=>⟨mem_keep e2 hb,mem_keep n2 hb⟩
 have HROW:=ξ hrow2
 have HR0:=ξ hrow
 have HB0:=ξ hb0
 have HSZ:Hid (w.heap.size≤W2.heap.size∧m.bb<W2.heap.size):=⟨hW2s,mem_lt e2⟩
 obtain⟨i0,hi0,hz0,hz1,hz2⟩:=info_parts Tryz.infoPtrL
 obtain⟨W1',hW1'⟩:∃ W:World,W=W1:=⟨_,rfl⟩
 clear h hb0 hrow e1 n1 hW1s far2 e2 n2 hW2s hrow2 hB1 hW1' hn hlenG
 go_enter Tryz.func41,Tryz.ntmps41
 go_upto_region 2 with fail
 clear c6 f6 hW1 hW2
 have hD0:Below W2.heap.size W2 (World.drew W2):=(Below.refl _ _).drew
 refine wp_region_z 13 (S:=fun w'=>w'.heap[m.bb]? = some (bdObj m R d (.slice ra n rc) (ptrV w.heap.size))) (by kernel_rfl) (HC.out _ hD0).1 (fun hHeld=>?_)
 generalize hwd:World.drew W2=v1 at hHeld hD0⊢
 clear hwd
 have HD0:=ξ hD0
 clear hD0
 refine zT 0 (ptrV m.bb) rfl (hy:=?_) (h:=?_)
 ·intro w' hSw;go_simp
 (try simp only[Act.put,pZ])
 refine zT 1 (ptrV m.bb) rfl (hy:=?_) (h:=?_)
 ·intro w' hSw;go_simp
 (try simp only[Act.put,pZ])
 refine zT 2 (.pointer (some ⟨m.bb,0,none⟩)) rfl (hy:=?_) (h:=?_)
 ·intro w' hSw;go_simp
 (try simp only[Act.put,pZ])
 refine zT 3 (.pointer (some ⟨m.bb,5,none⟩)) rfl (hy:=?_) (h:=?_)
 ·intro w' hSw;go_simp
 (try simp only[Act.put,pZ])
 refine zT 4 (.slice ra n rc) rfl (hy:=?_) (h:=?_)
 ·intro w' hSw;have z0:=mem_cell hSw 5;go_simp
 (try simp only[Act.put,pZ])
 refine zT 5 (ptrV m.bb) rfl (hy:=?_) (h:=?_)
 ·intro w' hSw;go_simp
 (try simp only[Act.put,pZ])
 refine zT 6 (.pointer (some ⟨m.bb,0,none⟩)) rfl (hy:=?_) (h:=?_)
 ·intro w' hSw;go_simp
 (try simp only[Act.put,pZ])
 refine zT 7 (.pointer (some ⟨m.bb,6,none⟩)) rfl (hy:=?_) (h:=?_)
 ·intro w' hSw;go_simp
 (try simp only[Act.put,pZ])
 refine zT 8 (ptrV w.heap.size) rfl (hy:=?_) (h:=?_)
 ·intro w' hSw;have z0:=mem_cell hSw 6;go_simp
 (try simp only[Act.put,pZ])
 refine zR 9 rfl (fun K hK=>?_)
 go_simp
 obtain⟨v2,hv2⟩:∃ V:World,v1.alloc (.cells #[ptrV w.heap.size] 109)=V:=⟨_,rfl⟩
 rw[hv2]
 have hB2:Below v1.heap.size v1 v2:=by rw[←hv2];exact mem_alloc _ _
 have HLIT:Hid (∀ (j:Nat) (x:Value),[ptrV w.heap.size][j]? = some x→v2.cell? ((⟨v1.heap.size,0,none⟩:Addr).add j)=some x):=by
  show ∀ _ _,_
  rw[←hv2]
  intro k u hku
  match k,hku with
  | 0,hku=>cases hku;exact World.cell?_alloc_new _ _ _ 0
 have HBV:=ξ (mem_then HD0.out hB2)
 clear hv2 hB2
 refine hK.out _ _ ((HC.out _ HBV.out).1) (fun hHeld=>?_)
 clear hK K
 rename_i hOld
 clear hOld
 (try simp only[Act.put,pZ])
 refine zR 10 rfl (fun K hK=>?_)
 refine step_append_row rfl (.tmp 12) (.tmp 17) 108 rfl B 109 i0 _ 1 8 Tryz.underlying108 hi0 hz0 hz1 hz2 rfl (by decide) (.slice ra n rc) n (G.map ptrV) (by simp[Act.eval]) (own_below HROW.out HBV.out) ⟨v1.heap.size,0,none⟩ 1 1 [ptrV w.heap.size] (by simp[Act.eval]) rfl HLIT.out (by simp[Value.oneCell']) (by decide) (by unfold maxLen;omega) (by omega) (by have:=HSZ.out.1;have:=HBV.out.size;omega) ?_
 intro gb cap w2 hown2 hgrow2 hplace
 have keep9:∀ (k:Nat) o,W2.heap[k]? = some o→(Value.slice ra n rc).ownBlock≠some k→w2.heap[k]? = some o:=fun k o hk ht=>(hgrow2.block k (Nat.lt_of_lt_of_le (mem_lt hk) HBV.out.size) (fun e=>ht e.symm)).trans (mem_keep hk HBV.out)
 have HK:=ξ (And.intro (keep9 _ _ (HC.out W2 (Below.refl _ _)).1 (own_other HROW.out (HC.out W2 (Below.refl _ _)).1 (by decide))) (keep9 _ _ (HC.out W2 (Below.refl _ _)).2 (own_other HROW.out (HC.out W2 (Below.refl _ _)).2 (by decide))))
 have HGR:=ξ hgrow2
 have HOWN:=ξ hown2
 clear hown2 hgrow2 hplace keep9
 refine hK.out _ _ (HK.out.1) (fun hHeld=>?_)
 clear hK K
 rename_i hOld
 clear hOld
 (try simp only[Act.put,pZ])
 refine zR 11 rfl (fun K hK=>?_)
 go_simp
 refine hK.out _ _ (HK.out.1) (fun hHeld=>?_)
 clear hK K
 rename_i hOld
 clear hOld
 (try simp only[Act.put,pZ])
 refine zR 12 rfl (fun K hK=>?_)
 go_simp
 refine hK.out _ _ (HK.out.1) (fun hHeld=>?_)
 clear hK K
 rename_i hOld
 clear hOld
 (try simp only[Act.put,pZ])
 have c0:w2.cell? ⟨m.bb,5,none⟩=some (.slice ra n rc):=mem_cell HK.out.1 5
 have f0:=mem_free HK.out.1 5
 refine wpAnyZ_ready (rs:=[13]) (by kernel_rfl) (by simp) (AllReadyZ.last rfl (by decide) (fun K hK=>?_) AllReadyZ.nil)
 go_simp
 refine hK.out _ _ ?_
 clear hK K
 (try simp only[Act.put,pZ])
 clear c0 f0 hHeld
 refine wpAnyZ_done (by kernel_rfl) ?_ _
 obtain⟨WE,hWE⟩:∃ W:World,w2.setCell ⟨m.bb,5,none⟩ (.slice (some ⟨gb,0,none⟩) (n+1) cap)=W:=⟨_,rfl⟩
 rw[hWE]
 have hfar:∀ k,k≠m.bb→WE.heap[k]? = w2.heap[k]?:=fun k hk=>by rw[←hWE];exact Below.heap_setCell _ _ _ _ hk
 have hbE:WE.heap[m.bb]? = some (bdObj m R d (.slice (some ⟨gb,0,none⟩) (n+1) cap) (ptrV w.heap.size)):=by rw[←hWE,mem_set HK.out.1];rfl
 have hbl:m.bb<w.heap.size:=H.out.lt.1
 have hgb:gb≠m.bb:=by
  rintro rfl
  exact own_other HOWN.out HK.out.1 (by decide) rfl
 have HPUSH:Hid (BdAt B (N+1) m E WE (G++[w.heap.size]) (bs++[opnB []]) R d V∧FrL B m w WE):=by
  refine H.out.push (rv:=.slice ra n rc) (rv':=.slice (some ⟨gb,0,none⟩) (n+1) cap) HB0.out (by rw[HN.out];exact HR0.out) (Nat.le_refl _) ?_ hbE ?_ ?_ ?_ (Nat.le_refl _) hN
  ·rw[hfar _ (by omega)];exact HK.out.2
  ·rw[HN.out]
   exact own_keep HOWN.out (fun k hk _=>hfar k (by rintro rfl;cases hk;exact hgb rfl))
  ·intro k hk hkb hko
   rw[hfar k hkb,HGR.out.block k (by have:=HSZ.out.1;have:=HBV.out.size;omega) (fun e=>hko e.symm),HBV.out.block k (by have:=HSZ.out.1;omega)]
   exact HOLD.out k hk hkb
  ·have h1:Below B w v2:=HB2.out.trans (HBV.out.mono (by have:=HSZ.out.1;omega))
   rw[←hWE]
   exact (h1.grown HGR.out (by have:=HSZ.out.1;have:=HBV.out.size;omega) (fun k hk=>(own_lt HROW.out hk).1)).setCell (p:=⟨m.bb,5,none⟩) H.out.up.1 _
 have c5:WE.cell? ⟨m.bb,5,none⟩=some (.slice (some ⟨gb,0,none⟩) (n+1) cap):=mem_cell hbE 5
 have hn1:n≤1000000:=by have:=H.out.cap;omega
 clear hWE hfar hbE hgb hbl
 go_wp2_with fail
 go_ret
 exact⟨by simp,_,HPUSH.out⟩
end
abbrev BdC(B N:Nat)(m:BM)(E:LEnv)(w:World)(G:List Nat)(pre:List Blk)(c:List Ins)(R d:Nat)(V:VM):Prop:=BdAt B N m E w G (pre++[opnB c]) R d V
theorem zero_bool(w:World):(zeroValue 4).run Tryz.prog w = .ok (.bool false) w:=by kernel_rfl
theorem zero_int(w:World):(zeroValue 3).run Tryz.prog w = .ok (.int .i64 0) w:=by kernel_rfl
theorem ins_wf{op d x y imm:Int}{s:ByteArray}(h0:0≤op∧op≤255)(h1:irI64 d)(h2:irI64 x)(h3:irI64 y)(h4:irI64 imm)(h5:s.size≤9223372036854775807):(insB op d x y imm s).Wf:=⟨h0.1,h0.2,h1,h2,h3,h4,h5⟩
theorem i64_nat{n:Nat}(h:n≤1000000):irI64 (n:Int):=by unfold irI64;omega
theorem i64_0:irI64 0:=by unfold irI64;decide
theorem noB_size:noB.size≤9223372036854775807:=by decide
section
variable {B N:Nat} {m:BM} {E:LEnv} {w:World} {G:List Nat} {pre:List Blk} {c:List Ins} {R d:Nat} {V:VM}
theorem BdAt.look_sh{bs:List Blk}(h:BdAt B N m E w G bs R d V){s:ByteArray}(hs:s.size≤9223372036854775807):(Instr.lookup 93 (.map (some m.sb)) (.string s) false).run Tryz.prog w = .ok (.bool (E.sh s)) w:=by
 have h1:=h.shs.1.run lKey Tryz.underlying93 (zero_bool w) (s:=s) hs
 rw[h.shs.2] at h1
 exact h1
theorem BdAt.look_len{bs:List Blk}(h:BdAt B N m E w G bs R d V){s:ByteArray}(hs:s.size≤9223372036854775807):(Instr.lookup 107 (.map (some m.lb)) (.string s) false).run Tryz.prog w = .ok (.int .i64 (E.len s)) w:=by
 have h1:=h.lens.1.run lKey Tryz.underlying107 (zero_int w) (s:=s) hs
 rw[h.lens.2] at h1
 exact h1
theorem BdAt.look_var{bs:List Blk}(h:BdAt B N m E w G bs R d V){s:ByteArray}(hs:s.size≤9223372036854775807):(Instr.lookup 107 (.map (some m.vb)) (.string s) false).run Tryz.prog w = .ok (.int .i64 (V.reg s)) w:=by
 have h1:=h.vars.run lKey Tryz.underlying107 (zero_int w) (s:=s) hs
 have h2:(varV V s).getD (.int .i64 0) = .int .i64 (V.reg s):=by
  unfold varV VM.reg
  cases V s <;> rfl
 rw[h2] at h1
 exact h1
theorem BdAt.var_le{bs:List Blk}(h:BdAt B N m E w G bs R d V)(s:ByteArray):irI64 (V.reg s):=by
 unfold VM.reg
 cases hv:V s with
 | none=>exact i64_0
 | some r =>
  have h1:=h.varN s r hv
  have h2:=h.small.1
  have h3:=h.cap
  exact i64_nat (n:=r) (by omega)
theorem emit_cur(i:Ins)(h:BdC B N m E w G pre c R d V)(hi:i.Wf)(hN:N+1≤1000000) :
 Calls Tryz.prog 82 #[ptrV m.bb,i.val] w fun e w'=>e = .returned (.tuple #[])∧BdC B (N+1) m E w' G pre (c++[i]) R d V∧FrL B m w w':=by
 have hl:G.length=pre.length+1:=by rw[BdAt.len h];simp
 have hg:G[pre.length]? = some (G[pre.length]'(by omega)):=List.getElem?_eq_getElem _
 have hq:(pre++[opnB c])[pre.length]? = some (opnB c):=by rw[List.getElem?_append_right (Nat.le_refl _),Nat.sub_self];rfl
 refine (emit_any i h hg hl hq hi hN).mono ?_
 rintro e w' ⟨h1,h2,h3⟩
 refine⟨h1,?_,h3⟩
 have e9:(pre++[opnB c]).set pre.length { opnB c with code:=(opnB c).code++[i] }=pre++[opnB (c++[i])]:=by
  rw[List.set_append_right _ _ (Nat.le_refl _),Nat.sub_self];rfl
 rw[e9] at h2
 exact h2
theorem constant_any(v:Int)(h:BdC B N m E w G pre c R d V)(hv:irI64 v)(hN:N+2≤1000000) :
 Calls Tryz.prog 102 #[ptrV m.bb,.int .i64 v] w fun e w'=>e = .returned (.int .i64 (R:Int))∧BdC B (N+2) m E w' G pre (c++[insB 1 R 0 0 v noB]) (R+1) d V∧FrL B m w w':=by
 have H:=ξ h
 have hR:=h.small.1
 have HR:Hid (R≤N):=hR
 have HV:=ξ hv
 clear h hv hR
 go_enter Tryz.func102,Tryz.ntmps102
 go_wp2_with fail
 refine (register_any H.out (by omega)).mono ?_
 rintro e w1 ⟨rfl,h1,hf1⟩
 have H1:=ξ h1
 have HF1:=ξ hf1
 clear h1 hf1
 go_wp2_with fail
 refine (emit_cur (insB 1 R 0 0 v noB) H1.out (ins_wf (by decide) (i64_nat (by have:=HR.out;omega)) i64_0 i64_0 HV.out noB_size) (by omega)).mono ?_
 rintro e w2 ⟨rfl,h2,hf2⟩
 have H2:=ξ h2
 have HF2:=ξ (HF1.out.trans hf2)
 clear h2 hf2
 go_wp2_with fail
 go_ret
 exact⟨rfl,H2.out,HF2.out⟩
theorem binary_any(k x y:Int)(h:BdC B N m E w G pre c R d V)(hk:0≤k∧k≤255)(hx:irI64 x)(hy:irI64 y)(hN:N+2≤1000000) :
 Calls Tryz.prog 103 #[ptrV m.bb,.int .u8 k,.int .i64 x,.int .i64 y] w fun e w'=>e = .returned (.int .i64 (R:Int))∧BdC B (N+2) m E w' G pre (c++[insB 3 R x y k noB]) (R+1) d V∧FrL B m w w':=by
 have H:=ξ h
 have hR:=h.small.1
 have HR:Hid (R≤N):=hR
 have HV:=ξ (And.intro hx hy)
 have hwk:IntKind.i64.wrap k=k:=by rw[IntKind.wrap_i64];omega
 clear h hx hy hR
 go_enter Tryz.func103,Tryz.ntmps103
 go_wp2_with fail
 refine (register_any H.out (by omega)).mono ?_
 rintro e w1 ⟨rfl,h1,hf1⟩
 have H1:=ξ h1
 have HF1:=ξ hf1
 clear h1 hf1
 go_wp2_with fail
 refine (emit_cur (insB 3 R x y k noB) H1.out (ins_wf (by decide) (i64_nat (by have:=HR.out;omega)) HV.out.1 HV.out.2 (by unfold irI64;omega) noB_size) (by omega)).mono ?_
 rintro e w2 ⟨rfl,h2,hf2⟩
 have H2:=ξ h2
 have HF2:=ξ (HF1.out.trans hf2)
 clear h2 hf2
 go_wp2_with fail
 go_ret
 exact⟨rfl,H2.out,HF2.out⟩
theorem store_any(s:ByteArray)(i v:Int)(h:BdC B N m E w G pre c R d V)(hs:s.size≤9223372036854775807)(hi:irI64 i)(hv:irI64 v)(hN:N+1≤1000000) :
 Calls Tryz.prog 97 #[ptrV m.bb,.string s,.int .i64 i,.int .i64 v] w fun e w'=>e = .returned (.tuple #[])∧BdC B (N+1) m E w' G pre (c++[stoB E s i v]) R d V∧FrL B m w w':=by
 have H:=ξ h
 have HV:=ξ (And.intro hi hv)
 obtain⟨_,x1,_⟩:=h.cells
 have hlk:=BdAt.look_sh h hs
 obtain⟨b,hb⟩:∃ b,E.sh s=b:=⟨_,rfl⟩
 have HB:Hid (stoB E s i v=insB (if b then 7 else 5) 0 i v 0 s):=by show _=_;unfold stoB;rw[hb]
 rw[hb] at hlk
 clear h hi hv hb
 cases b with
 | true =>
  go_enter Tryz.func97,Tryz.ntmps97
  go_wp2_with fail
  clear x1 hlk
  refine (emit_cur (insB 7 0 i v 0 s) H.out (ins_wf (by decide) i64_0 HV.out.1 HV.out.2 i64_0 hs) hN).mono ?_
  rintro e w2 ⟨rfl,h2,hf2⟩
  have H2:=ξ h2
  have HF2:=ξ hf2
  clear h2 hf2
  go_wp2_with fail
  go_end0
  exact⟨rfl,by rw[HB.out];exact H2.out,HF2.out⟩
 | false =>
  go_enter Tryz.func97,Tryz.ntmps97
  go_wp2_with fail
  clear x1 hlk
  refine (emit_cur (insB 5 0 i v 0 s) H.out (ins_wf (by decide) i64_0 HV.out.1 HV.out.2 i64_0 hs) hN).mono ?_
  rintro e w2 ⟨rfl,h2,hf2⟩
  have H2:=ξ h2
  have HF2:=ξ hf2
  clear h2 hf2
  go_wp2_with fail
  go_end0
  exact⟨rfl,by rw[HB.out];exact H2.out,HF2.out⟩
end
