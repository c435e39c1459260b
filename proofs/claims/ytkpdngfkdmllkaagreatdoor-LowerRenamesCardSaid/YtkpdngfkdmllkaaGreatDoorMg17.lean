/- Part. -/
import Derived.Test.YtkpdngfkdmllkaaGreatDoorInStm
import Derived.Defers
import Derived.Recover
import Derived.Test.YtkpdngfkdmllkaaGreatDoorMg11
import Derived.Lib.SliceRun
import Derived.OwnWalk
namespace Go.Proofs.YtkpdngfkdmllkaaGreatDoor
set_option linter.unusedVariables false
set_option linter.unusedSimpArgs false
open Go.RowKit Go.Maps
set_option maxRecDepth 100000
set_option maxHeartbeats 80000000
theorem catch_fail(pb:Nat)(x k:Int)(w:World)(hc:w.cell? ⟨pb,0,none⟩=some (.int .i64 x))(hz:w.frozen? ⟨pb,0,none⟩=false) :
 CallsD Tryz.prog 33 #[.pointer (some ⟨pb,0,none⟩)] (.panicking (failC k)) w fun e u' w' =>
  e = .returned (.tuple #[])∧u' = .panicking [{ v:=.iface 91 (.agg #[.int .i64 k]),recovered:=true }]∧w'=(w.setCell ⟨pb,0,none⟩ (.int .i64 k)).alloc (.cells #[.int .i64 k] 91):=by
 refine callsD_of_wpS Tryz.func33 rfl fun c₀ cs hu=>?_
 apply wpS_seq
 apply wpS_region
 simp[wpOpsS,go_sem,recoverD,hu,Tryz.ntmps33,Exit.thenS]
 refine wpS_of_wp ?_
 have hp:=World.block_lt_of_cell? w _ hc
 have hta:∀ w,(Instr.typeAssert (.iface 91 (.agg #[.int .i64 k])) 20 91 true).run Tryz.prog w = .ok (.tuple #[.agg #[.int .i64 k],.bool true]) w:=fun _=>by kernel_rfl
 rw[show (#[Value.pointer (some ⟨pb,0,none⟩)]++((Array.replicate 16 undef).setIfInBounds 3 (Value.iface 91 (.agg #[.int .i64 k]))).setIfInBounds 0 (Value.iface 91 (.agg #[.int .i64 k])):Array Value) = #[.pointer (some ⟨pb,0,none⟩),.iface 91 (.agg #[.int .i64 k]),undef,undef,.iface 91 (.agg #[.int .i64 k]),undef,undef,undef,undef,undef,undef,undef,undef,undef,undef,undef,undef] from rfl]
 go_wp2_with fail
 simp[bodyPostS,results,Tryz.results33]
theorem catch_idle(pb:Nat)(w:World) :
 CallsD Tryz.prog 33 #[.pointer (some ⟨pb,0,none⟩)] .returning w fun e u' w'=>e = .returned (.tuple #[])∧u' = .returning∧w'=w:=by
 refine callsD_of_wpS Tryz.func33 rfl fun c₀ cs hu=>?_
 apply wpS_seq
 apply wpS_region
 simp[wpOpsS,go_sem,recoverD,hu,Tryz.ntmps33,Exit.thenS]
 refine wpS_of_wp ?_
 rw[show (#[Value.pointer (some ⟨pb,0,none⟩)]++((Array.replicate 16 undef).setIfInBounds 3 Value.nilIface).setIfInBounds 0 Value.nilIface:Array Value) = #[.pointer (some ⟨pb,0,none⟩),.nilIface,undef,undef,.nilIface,undef,undef,undef,undef,undef,undef,undef,undef,undef,undef,undef,undef] from rfl]
 go_wp2_with fail
 cases c₀
 simp_all [bodyPostS,results,Tryz.results33]
theorem guard_any(gf:Nat)(caps:Array Value)(eg:∀ args w,(callFunc gf args).run Tryz.prog w = .ok (.enter gf args) w)(r:SR)(w:World)(P:World→Prop)
 (hcall:Calls Tryz.prog gf caps (w.alloc (.cells #[.int .i64 0] 39)) fun e w'=>SrE r e∧w'.heap[w.heap.size]? = some (.cells #[.int .i64 0] 39)∧P w') :
 Calls Tryz.prog 21 #[.func (.func gf) #[] caps] w fun e w''=>e = .returned (.int .i64 r.2)∧∃ w',P w'∧w'.heap[w.heap.size]? = some (.cells #[.int .i64 0] 39)∧(∀ k,k<w'.heap.size→k≠w.heap.size→w''.heap[k]? = w'.heap[k]?)∧Below w.heap.size w' w'':=by
 have hmf:∀ (fn:Go.Fn) (first cap:Array Value) (w:World),(Instr.makeFunc fn first cap).run Tryz.prog w = .ok (.func fn first cap) w:=fun _ _ _ _=>rfl
 have hc0:(w.alloc (.cells #[.int .i64 0] 39)).heap[w.heap.size]? = some (.cells #[.int .i64 0] 39):=mem_new _ _
 have HC:=ξ hcall
 clear hcall
 go_enter_defers Tryz.func21,Tryz.ntmps21
 go_wp2_with fail
 refine HC.out.mono ?_
 rintro e w1 ⟨he,hbox,hP⟩
 have hb:=mem_lt hbox
 have c0:=mem_cell hbox 0
 have f0:=mem_free hbox 0
 simp only[List.getElem?_toArray,List.getElem?_cons_zero] at c0
 have HP:=ξ hP
 have HBX:=ξ hbox
 clear HC hP hbox
 by_cases h0:r.2=0
 ·have he2:e = .returned (.tuple #[]):=by unfold SrE at he;rw[if_pos h0] at he;exact he
  subst he2
  have HR0:=ξ h0
  clear he h0
  go_wp2_with fail
  refine leaves_cons (f:=33) (args:=#[.pointer (some ⟨w.heap.size,0,none⟩)]) (by simp) (by simp[go_sem]) ?_
  refine (catch_idle _ _).mono ?_
  rintro e u' w'' ⟨rfl,rfl,rfl⟩
  have hx:(w1.setCell ⟨w.heap.size,0,none⟩ (.int .i64 0)).cell? ⟨w.heap.size,0,none⟩=some (.int .i64 0):=by rw[mem_cell (mem_set HBX.out)];rfl
  simp[Leaves,settle,results,Tryz.results21,go_sem,hx,HR0.out]
  exact⟨w1,HP.out,HBX.out,fun k hk hne=>Below.heap_setCell _ _ _ _ hne,(Below.refl _ _).setCell (p:=⟨w.heap.size,0,none⟩) (Nat.le_refl _) _⟩
 ·have he2:e = .panicked (failC r.2):=by unfold SrE at he;rw[if_neg h0] at he;exact he
  subst he2
  clear he
  refine leaves_cons (f:=33) (args:=#[.pointer (some ⟨w.heap.size,0,none⟩)]) (by simp) (by simp[go_sem]) ?_
  refine (catch_fail w.heap.size 0 r.2 w1 c0 f0).mono ?_
  rintro e u' w'' ⟨rfl,rfl,rfl⟩
  have hx:((w1.setCell ⟨w.heap.size,0,none⟩ (.int .i64 r.2)).alloc (.cells #[.int .i64 r.2] 91)).cell? ⟨w.heap.size,0,none⟩=some (.int .i64 r.2):=by
   rw[mem_cell (mem_keep (mem_set HBX.out) (mem_alloc _ _))];rfl
  simp[Leaves,settle,results,Tryz.results21,go_sem,hx]
  exact⟨w1,HP.out,HBX.out,fun k hk hne=>(Below.heap_alloc _ _ _ (by simpa using hk)).trans (Below.heap_setCell _ _ _ _ hne),((Below.refl _ _).setCell (p:=⟨w.heap.size,0,none⟩) (Nat.le_refl _) _).alloc (by simp;omega) _⟩
open Go.RowKit
set_option maxHeartbeats 8000000
def i32s(l:List Int):List Value:=l.map (Value.int .i32)
theorem i32s_len(l:List Int):(i32s l).length=l.length:=by simp[i32s]
theorem i32s_one(l:List Int):∀ u∈i32s l,u.oneCell'=true:=by
 intro u hu
 simp[i32s] at hu
 obtain⟨x,_,rfl⟩:=hu
 rfl
theorem i32_info:(Tryz.prog.info? 21).map (fun i=>(i.zero,i.size,i.bytes))=some (some (.int .i32 0),1,4):=by kernel_rfl
theorem row_info:(Tryz.prog.info? 30).map (fun i=>(i.zero,i.size,i.bytes))=some (some (.slice none 0 0),1,24):=by kernel_rfl
theorem WordsAt.src{w:World}{a:Option Addr}{l:List Int}(h:WordsAt w a l):Src w a l.length 1 (i32s l):=by
 refine⟨by rw[i32s_len];omega,?_⟩
 rcases h.at_ with h0|⟨b,off,ha,hk⟩
 ·exact .inl h0
 ·refine .inr ⟨_,ha,fun j u hu=>?_⟩
  unfold i32s at hu
  rw[List.getElem?_map] at hu
  obtain⟨x,hx,rfl⟩:=Option.map_eq_some_iff.1 hu
  have e:(⟨b,off,none⟩:Addr).add j=⟨b,off+j,none⟩:=by
   unfold Addr.add
   by_cases h0:j=0 <;> simp[h0]
  rw[e]
  exact hk j x hx
theorem own_words{N:Nat}{w:World}{a:Option Addr}{n c:Nat}{l:List Int}(h:w.ownsRow N 21 1 (.slice a n c) l.length (i32s l))(hW:∀ x∈l,Wd.W x):n=l.length∧(a=none→c=0)∧WordsAt w a l:=by
 have hs:=own_size h
 obtain⟨a',c',e⟩:=own_val h
 injection e with _ e2 _
 subst e2
 refine⟨rfl,fun ha=>?_,hs,hW,?_⟩
 ·rcases h.2 with⟨e,_⟩|⟨g,cap,cur,e,_⟩
  ·injection e with _ _ e3
  ·rw[ha] at e
   injection e with e1
   cases e1
 ·by_cases h0:l.length=0
  ·exact .inl h0
  ·obtain⟨b,rfl,_,_⟩:=own_at h (by omega)
   refine .inr ⟨b,0,rfl,fun k x hx=>?_⟩
   rw[Nat.zero_add]
   exact own_get h (by unfold i32s;rw[List.getElem?_map,hx];rfl)
theorem clone32_any(l:List Int)(a:Option Addr)(c:Nat)(w:World)(h:WordsAt w a l)(h0:a=none→c=0)(hl:l.length≤1000000) :
 Calls Tryz.prog 26 #[.slice a l.length c] w fun e w'=>∃ v,e = .returned v∧w'.ownsRow w.heap.size 21 1 v l.length (i32s l)∧Below w.heap.size w w':=by
 have hnil':=fun (w:World) (a:Option Addr) (n c:Nat)=>Lib.run_eql_slice_nil (P:=Tryz.prog) w 30 21 a n c 0 0 Tryz.underlying30
 cases a with
 | none =>
  obtain rfl:c=0:=h0 rfl
  have hl0:l.length=0:=by
   rcases h.at_ with h1|⟨b,off,hb,_⟩
   ·exact h1
   ·cases hb
  have hnil:l = []:=List.length_eq_zero_iff.1 hl0
  subst hnil
  clear h h0 hl0 hl
  simp only[List.length_nil]
  go_enter Tryz.func26,Tryz.ntmps26
  go_wp2_with fail
  go_ret
  exact⟨_,rfl,World.ownsRow_nil _ _ _ _,Below.refl _ _⟩
 | some ad =>
  obtain⟨i0,hi,hz0,hz1,hz2⟩:=info_parts i32_info
  have HSRC:=ξ (h.below (mem_alloc w (.cells #[] 21))).src
  have HMADE:Hid ((w.alloc (.cells #[] 21)).ownsRow w.heap.size 21 1 (.slice (some ⟨w.heap.size,0,none⟩) 0 0) 0 []):=World.ownsRow_made _ #[] 0 (Nat.le_refl _) (by unfold maxLen;omega) rfl
  clear h h0
  go_enter Tryz.func26,Tryz.ntmps26
  go_wp2_with (at_builtin;refine wpList_append_src _ rfl (.tmp 5) (.tmp 6) 30 rfl w.heap.size 21 i0 _ 1 4 Tryz.underlying30 hi hz0 hz1 hz2 rfl (by decide) (.slice (some ⟨w.heap.size,0,none⟩) 0 0) 0 [] rfl HMADE.out (some ad) l.length c (i32s l) rfl HSRC.out (i32s_one l) (by unfold maxLen;omega) (by omega) (by simp) ?_)
  intro v2 w2 hown2 hgrow2 _
  have HO:Hid (w2.ownsRow w.heap.size 21 1 v2 l.length (i32s l)):=by show World.ownsRow _ _ _ _ _ _ _;simpa using hown2
  have HB:Hid (Below w.heap.size w w2):=(mem_alloc w _).grown hgrow2 (by simp) (fun k hk=>by cases hk;exact Nat.le_refl _)
  clear hown2 hgrow2
  go_wp2_with fail
  go_ret
  exact⟨_,rfl,HO.out,HB.out⟩
structure LOwn(N:Nat)(w:World)(v:Value)(vs:List Value)(L:List (List Int)):Prop where
 len:vs.length=L.length
 ro:w.ownsRow N 30 1 v L.length vs
 ri:∀ (i:Nat) (r:List Int),L[i]? = some r→∃ u,vs[i]? = some u∧w.ownsRow N 21 1 u r.length (i32s r)
 apart:∀ (i j:Nat) (u u':Value) (b:Nat),vs[i]? = some u→vs[j]? = some u'→u.ownBlock=some b→u'.ownBlock=some b→i=j
theorem LOwn.nil{N:Nat}{w:World}:LOwn N w (.slice none 0 0) [] []:=⟨rfl,World.ownsRow_nil _ _ _ _,fun i r h=>by simp at h,fun i j u u' b h=>by simp at h⟩
theorem LOwn.keep{N:Nat}{w w':World}{v:Value}{vs:List Value}{L:List (List Int)}(h:LOwn N w v vs L)(hB:Below w.heap.size w w'):LOwn N w' v vs L:=
 ⟨h.len,own_below h.ro hB,fun i r hr=>by obtain⟨u,h1,h2⟩:=h.ri i r hr;exact⟨u,h1,own_below h2 hB⟩,h.apart⟩
theorem LOwn.down{N N':Nat}{w:World}{v:Value}{vs:List Value}{L:List (List Int)}(h:LOwn N w v vs L)(hN:N'≤N):LOwn N' w v vs L:=
 ⟨h.len,own_down h.ro hN,fun i r hr=>by obtain⟨u,h1,h2⟩:=h.ri i r hr;exact⟨u,h1,own_down h2 hN⟩,h.apart⟩
theorem LOwn.ones{N:Nat}{w:World}{v:Value}{vs:List Value}{L:List (List Int)}(h:LOwn N w v vs L):∀ u∈vs,u.oneCell'=true:=fun u hu=>by
 obtain⟨i,hi,rfl⟩:=List.mem_iff_getElem.1 hu
 have hl:=h.len
 obtain⟨u,h1,h2⟩:=h.ri i _ (List.getElem?_eq_getElem (show i<L.length by omega))
 rw[List.getElem?_eq_getElem hi] at h1
 cases h1
 obtain⟨a,c,e⟩:=own_val h2
 rw[e]
 rfl
theorem LOwn.push{N:Nat}{w V w2:World}{v v2 u:Value}{vs:List Value}{L:List (List Int)}{r:List Int}(h:LOwn N w v vs L)(hB:Below w.heap.size w V)(hu:V.ownsRow w.heap.size 21 1 u r.length (i32s r))(hN:N≤w.heap.size)
 (hg:V.grownBy w2 v.ownBlock) (ho:w2.ownsRow N 30 1 v2 (L.length+1) (vs++[u])):LOwn N w2 v2 (vs++[u]) (L++[r]):=by
 have hV:=h.keep hB
 have keep:∀ {M:Nat} {z:Value} {q:List Int},V.ownsRow M 21 1 z q.length (i32s q)→w2.ownsRow M 21 1 z q.length (i32s q):=fun {M z q} hz=>by
  refine own_keep hz (fun k hk hl=>hg.block k hl (fun e=>?_))
  obtain⟨a,c,rfl⟩:=own_val hz
  rcases hz.2 with⟨e1,_⟩|⟨g',cap',cur,e1,_,hc,_⟩
  ·rw[e1] at hk;cases hk
  ·rw[e1] at hk
   have hk:g'=k:=by injection hk
   subst hk
   exact own_other hV.ro hc (by decide) e.symm
 have old:∀ {i:Nat} {z:Value} {b:Nat},vs[i]? = some z→z.ownBlock=some b→b<w.heap.size:=fun {i z b} hz hb=>by
  have hi:=(List.getElem?_eq_some_iff.1 hz).1
  obtain⟨u',h1,h2⟩:=h.ri i _ (List.getElem?_eq_getElem (show i<L.length by have:=h.len;omega))
  rw[hz] at h1
  cases h1
  exact (own_lt h2 hb).2
 refine⟨by simp[h.len],by rw[List.length_append];exact ho,fun i q hq=>?_,fun i j z z' b hi hj hz hz'=>?_⟩
 ·by_cases hlt:i<L.length
  ·rw[List.getElem?_append_left hlt] at hq
   obtain⟨u',h1,h2⟩:=hV.ri i q hq
   exact⟨u',by rw[List.getElem?_append_left (by have:=h.len;omega)];exact h1,keep h2⟩
  ·have hi:i=L.length:=by have:=(List.getElem?_eq_some_iff.1 hq).1;simp at this;omega
   subst hi
   rw[List.getElem?_append_right (Nat.le_refl _),Nat.sub_self] at hq
   have hq:r=q:=by simpa using hq
   subst hq
   refine⟨u,?_,own_down (keep hu) hN⟩
   rw[←h.len,List.getElem?_append_right (Nat.le_refl _),Nat.sub_self]
   rfl
 ·have hnew:∀ {k:Nat} {z:Value},(vs++[u])[k]? = some z→(k<vs.length∧vs[k]? = some z)∨(k=vs.length∧z=u):=fun {k z} hk=>by
   by_cases hlt:k<vs.length
   ·rw[List.getElem?_append_left hlt] at hk;exact .inl ⟨hlt,hk⟩
   ·have e:k=vs.length:=by have:=(List.getElem?_eq_some_iff.1 hk).1;simp at this;omega
    subst e
    rw[List.getElem?_append_right (Nat.le_refl _),Nat.sub_self] at hk
    exact .inr ⟨rfl,by simpa using hk.symm⟩
  rcases hnew hi with⟨_,hi'⟩|⟨ei,ez⟩
  ·rcases hnew hj with⟨_,hj'⟩|⟨ej,ez'⟩
   ·exact h.apart i j z z' b hi' hj' hz hz'
   ·have h1:=old hi' hz
    rw[ez'] at hz'
    have h2:=(own_lt hu hz').1
    omega
  ·rcases hnew hj with⟨_,hj'⟩|⟨ej,ez'⟩
   ·have h1:=old hj' hz'
    rw[ez] at hz
    have h2:=(own_lt hu hz).1
    omega
   ·omega
theorem src_new{w:World}{b n size:Nat}{cs:List Value}{e:TypeId}(h:w.heap[b]? = some (.cells cs.toArray e))(hl:cs.length=n*size):Src w (some ⟨b,0,none⟩) n size cs:=
 ⟨hl,.inr ⟨_,rfl,fun j u hu=>by
  have e1:(⟨b,0,none⟩:Addr).add j=⟨b,j,none⟩:=by
   unfold Addr.add
   by_cases h0:j=0 <;> simp[h0]
  rw[e1,mem_cell h]
  simpa using hu⟩⟩
theorem copyLists_any(L:List (List Int))(a:Option Addr)(c:Nat)(w:World)(h:ContAt w a L)(hl:L.length≤1000000)(hr:∀ r∈L,r.length≤1000000) :
 Calls Tryz.prog 20 #[.slice a L.length c] w fun e w'=>∃ v vs,e = .returned v∧LOwn w.heap.size w' v vs L∧Below w.heap.size w w':=by
 obtain⟨i0,hi,hz0,hz1,hz2⟩:=info_parts row_info
 have H:=ξ h
 have HR:=ξ hr
 clear h hr
 go_enter Tryz.func20,Tryz.ntmps20
 go_wp2_with fail
 go_loopw [3,8] (fun v iv wr=>∃ (j:Nat) (vs:List Value),j≤L.length∧iv = .int .i64 (j:Int)∧LOwn w.heap.size wr v vs (L.take j)∧Below w.heap.size w wr) (fun _ iv _=>L.length-(intOf iv).toNat)
 case atStart=>exact⟨0,[],Nat.zero_le _,rfl,by rw[List.take_zero];exact LOwn.nil,Below.refl _ _⟩
 case round =>
  obtain⟨j,vs,hj,rfl,hown,hB⟩:=hrel
  have HOWN:=ξ hown
  have HB:=ξ hB
  have hj0:(0:Int)≤(j:Int):=by omega
  obtain⟨va,vc,rfl⟩:=own_val hown.ro
  clear hown hB
  by_cases hlt:j<L.length
  ·have hlt2:(j:Int)<(L.length:Int):=by omega
   obtain⟨r,hr⟩:∃ r,L[j]? = some r:=⟨_,List.getElem?_eq_getElem hlt⟩
   obtain⟨b,off,rfl,ra,rc,hcell,hra,hw⟩:=(H.out.below HB.out).row hr
   have hrl:r.length≤1000000:=HR.out r (List.mem_of_getElem? hr)
   have hbl:=World.block_lt_of_cell? _ _ hcell
   have H9:=ξ (clone32_any r ra rc wr hw hra hrl)
   have HRJ:=ξ hr
   have htl:(L.take j).length=j:=by rw[List.length_take];omega
   have HTL:=ξ htl
   rw[htl]
   have HTAKE:Hid (L.take (j+1)=L.take j++[r]):=by show _=_;rw[List.take_add_one,hr];rfl
   clear hr hra hw htl
   go_wp2_with fail
   clear hcell
   refine H9.out.mono ?_
   rintro e w2 ⟨u,rfl,hu,hB2⟩
   obtain⟨ua,uc,rfl⟩:=own_val hu
   have HU:=ξ hu
   have HB2:=ξ hB2
   clear hu hB2 H9
   have HNEW:Hid ((w2.alloc (.cells #[.slice ua r.length uc] 30)).heap[w2.heap.size]? = some (.cells #[.slice ua r.length uc] 30)):=mem_new _ _
   have HB3:Hid (Below wr.heap.size wr (w2.alloc (.cells #[.slice ua r.length uc] 30))):=mem_then HB2.out (mem_alloc _ _)
   have HRO:Hid ((w2.alloc (.cells #[.slice ua r.length uc] 30)).ownsRow w.heap.size 30 1 (.slice va j vc) j vs):=by
    have h1:=own_below HOWN.out.ro HB3.out
    rw[HTL.out] at h1
    exact h1
   go_wp2_with (at_builtin;refine wpList_append_src _ rfl (.tmp 12) (.tmp 15) 27 rfl w.heap.size 30 i0 _ 1 24 Tryz.underlying27 hi hz0 hz1 hz2 rfl (by decide) (.slice va j vc) j vs rfl HRO.out (some ⟨w2.heap.size,0,none⟩) 1 1 [.slice ua r.length uc] rfl (src_new HNEW.out rfl) (by simp[Value.oneCell']) (by unfold maxLen;omega) (by omega) (Nat.le_trans HB.out.size HB3.out.size) ?_)
   intro v9 w9 hown9 hgrow9 _
   have HL9:Hid (LOwn w.heap.size w9 v9 (vs++[.slice ua r.length uc]) (L.take (j+1))):=by
    show LOwn _ _ _ _ _
    rw[HTAKE.out]
    refine HOWN.out.push HB3.out (own_below HU.out (mem_alloc _ _)) HB.out.size ?_ ?_
    ·rw[HTL.out];exact hgrow9
    ·rw[HTL.out];exact hown9
   have HB9:Hid (Below w.heap.size w w9):=(mem_then HB.out HB3.out).grown hgrow9 (mem_then HB.out HB3.out).size (fun b hb=>(own_lt HRO.out hb).1)
   clear hown9 hgrow9
   go_wp2_with fail
   go_roundw
   case rel=>exact⟨j+1,_,by omega,by go_num,HL9.out,HB9.out⟩
   case measure=>simp[intOf];omega
  ·obtain rfl:j=L.length:=by omega
   have HO:Hid (LOwn w.heap.size wr (.slice va (L.take L.length).length vc) vs L):=by
    have h1:=HOWN.out
    show LOwn _ _ _ _ _
    rw[List.take_length] at h1⊢
    exact h1
   go_wp2_with fail
   go_ret
   exact⟨_,vs,rfl,HO.out,HB.out⟩
def fP{α:Type}:List (ByteArray×α)→ByteArray→Option α
 | [],_=>none
 | x::l,nm=>match fP l nm with
  | some v=>some v
  | none=>if nm=x.1 then some x.2 else none
theorem fP_snoc{α:Type}(l:List (ByteArray×α))(x:ByteArray×α):fP (l++[x])=upd (fP l) x.1 (some x.2):=by
 induction l with
 | nil=>funext nm;show (match none with | some v=>some v | none=>if nm=x.1 then some x.2 else none)=upd (fun _=>none) x.1 (some x.2) nm;unfold upd;rfl
 | cons y l ih =>
  funext nm
  show (match fP (l++[x]) nm with | some v=>some v | none=>if nm=y.1 then some y.2 else none)=upd (fP (y::l)) x.1 (some x.2) nm
  rw[ih]
  by_cases h:nm=x.1
  ·subst h;rw[upd_same,upd_same]
  ·rw[upd_other _ _ h,upd_other _ _ h];rfl
theorem fP_mem{α:Type}{l:List (ByteArray×α)}{nm:ByteArray}{v:α}(h:fP l nm=some v):∃ k:Nat,l[k]? = some (nm,v):=by
 induction l with
 | nil=>cases h
 | cons x l ih =>
  unfold fP at h
  cases hl:fP l nm with
  | some u =>
   rw[hl] at h
   cases h
   obtain⟨k,hk⟩:=ih hl
   exact⟨k+1,by simpa using hk⟩
  | none =>
   rw[hl] at h
   have h:(if nm=x.1 then some x.2 else none)=some v:=h
   split at h
   ·rename_i e;cases h;exact⟨0,by rw[e];rfl⟩
   ·cases h
theorem fP_two{α β:Type}:∀ {l:List (ByteArray×α)} {l':List (ByteArray×β)},l.map (·.1)=l'.map (·.1)→∀ nm,(fP l nm=none∧fP l' nm=none)∨∃ (k:Nat) (a:α) (b:β),l[k]? = some (nm,a)∧l'[k]? = some (nm,b)∧fP l nm=some a∧fP l' nm=some b
 | [],[],_,nm=>.inl ⟨rfl,rfl⟩
 | [],_::_,h,nm=>by simp at h
 | _::_,[],h,nm=>by simp at h
 | x::l,y::l',h,nm=>by
  simp only[List.map_cons,List.cons.injEq] at h
  rcases fP_two h.2 nm with⟨h1,h2⟩|⟨k,a,b,h1,h2,h3,h4⟩
  ·by_cases e:nm=x.1
   ·refine .inr ⟨0,x.2,y.2,by rw[e];rfl,by rw[e,h.1];rfl,?_,?_⟩
    ·unfold fP;rw[h1];show (if nm=x.1 then _ else _)=_;rw[if_pos e]
    ·unfold fP;rw[h2];show (if nm=y.1 then _ else _)=_;rw[if_pos (by rw[←h.1];exact e)]
   ·refine .inl ⟨?_,?_⟩
    ·unfold fP;rw[h1];show (if nm=x.1 then _ else _)=_;rw[if_neg e]
    ·unfold fP;rw[h2];show (if nm=y.1 then _ else _)=_;rw[if_neg (by rw[←h.1];exact e)]
  ·refine .inr ⟨k+1,a,b,by simpa using h1,by simpa using h2,?_,?_⟩
   ·unfold fP;rw[h3]
   ·unfold fP;rw[h4]
theorem fP_nodup{α:Type}{l:List (ByteArray×α)}(hn:(l.map (·.1)).Nodup){k:Nat}{nm:ByteArray}{v:α}(h:l[k]? = some (nm,v)):fP l nm=some v:=by
 induction l generalizing k with
 | nil=>simp at h
 | cons x l ih =>
  obtain⟨h1,h2⟩:=List.nodup_cons.1 hn
  cases k with
  | zero =>
   have h:x=(nm,v):=by simpa using h
   subst h
   have hnone:fP l nm=none:=by
    cases hl:fP l nm with
    | none=>rfl
    | some u =>
     obtain⟨j,hj⟩:=fP_mem hl
     exact absurd (List.mem_map.2 ⟨_,List.mem_of_getElem? hj,rfl⟩) h1
   unfold fP
   rw[hnone]
   show (if nm=nm then _ else _)=_
   rw[if_pos rfl]
  | succ k =>
   have h:l[k]? = some (nm,v):=by simpa using h
   unfold fP
   rw[ih h2 h]
theorem own_move{N:Nat}{V w2:World}{e T:TypeId}{size n:Nat}{v:Value}{xs:List Value}(h:V.ownsRow N e size v n xs)(he:e≠T)(hm:∀ (k:Nat) arr t,V.heap[k]? = some (.cells arr t)→t≠T→w2.heap[k]? = some (.cells arr t)):w2.ownsRow N e size v n xs:=by
 obtain⟨h1,h2⟩:=h
 refine⟨h1,?_⟩
 rcases h2 with h2|⟨g,cap,cur,rfl,hg,hc,r⟩
 ·exact .inl h2
 ·exact .inr ⟨g,cap,cur,rfl,hg,hm g _ _ hc he,r⟩
theorem LOwn.move{N:Nat}{V w2:World}{T:TypeId}{u:Value}{q:List Value}{r:List (List Int)}(h:LOwn N V u q r)(h1:30≠T)(h2:21≠T)(hm:∀ (k:Nat) arr t,V.heap[k]? = some (.cells arr t)→t≠T→w2.heap[k]? = some (.cells arr t)):LOwn N w2 u q r:=
 ⟨h.len,own_move h.ro h1 hm,fun i r hr=>by obtain⟨u,e1,e2⟩:=h.ri i r hr;exact⟨u,e1,own_move e2 h2 hm⟩,h.apart⟩
theorem own_new{N g:Nat}{w:World}{e:TypeId}{size n:Nat}{v:Value}{xs:List Value}(h:w.ownsRow N e size v n xs)(hg:v.ownBlock=some g):∃ arr,w.heap[g]? = some (.cells arr e):=by
 rcases h.2 with⟨rfl,_⟩|⟨g',cap,cur,rfl,_,hc,_⟩
 ·cases hg
 ·have hg:g'=g:=Option.some.inj hg
  subst hg
  exact⟨_,hc⟩
structure L3Own(N:Nat)(w:World)(v:Value)(vs:List Value)(us:List (List Value))(L:List (List (List Int))):Prop where
 len:vs.length=L.length
 lenu:us.length=L.length
 ro:w.ownsRow N 27 1 v L.length vs
 ri:∀ (i:Nat) (r:List (List Int)),L[i]? = some r→∃ u q,vs[i]? = some u∧us[i]? = some q∧LOwn N w u q r
 apart:∀ (i j:Nat) (q q':List Value) (k k':Nat) (z z':Value) (b:Nat),us[i]? = some q→us[j]? = some q'→q[k]? = some z→q'[k']? = some z'→z.ownBlock=some b→z'.ownBlock=some b→i=j
theorem L3Own.nil{N:Nat}{w:World}:L3Own N w (.slice none 0 0) [] [] []:=⟨rfl,rfl,World.ownsRow_nil _ _ _ _,fun i r h=>by simp at h,fun i j q q' k k' z z' b h=>by simp at h⟩
theorem L3Own.keep{N:Nat}{w w':World}{v:Value}{vs:List Value}{us:List (List Value)}{L:List (List (List Int))}(h:L3Own N w v vs us L)(hB:Below w.heap.size w w'):L3Own N w' v vs us L:=
 ⟨h.len,h.lenu,own_below h.ro hB,fun i r hr=>by obtain⟨u,q,h1,h2,h3⟩:=h.ri i r hr;exact⟨u,q,h1,h2,h3.keep hB⟩,h.apart⟩
theorem L3Own.inner{N:Nat}{w:World}{v:Value}{vs:List Value}{us:List (List Value)}{L:List (List (List Int))}(h:L3Own N w v vs us L){i k b:Nat}{q:List Value}{z:Value}(hi:us[i]? = some q)(hk:q[k]? = some z)(hb:z.ownBlock=some b):N≤b∧b<w.heap.size:=by
 have hl:=(List.getElem?_eq_some_iff.1 hi).1
 obtain⟨u,q',h1,h2,h3⟩:=h.ri i _ (List.getElem?_eq_getElem (show i<L.length by have:=h.lenu;omega))
 rw[hi] at h2
 cases h2
 have hkl:=(List.getElem?_eq_some_iff.1 hk).1
 obtain⟨u2,e1,e2⟩:=h3.ri k _ (List.getElem?_eq_getElem (show k<(L[i]'(by have:=h.lenu;omega)).length by have:=h3.len;omega))
 rw[hk] at e1
 cases e1
 exact own_lt e2 hb
theorem snoc_at{α:Type}{l:List α}{x:α}{k:Nat}{z:α}(hk:(l++[x])[k]? = some z):(k<l.length∧l[k]? = some z)∨(k=l.length∧z=x):=by
 by_cases hlt:k<l.length
 ·rw[List.getElem?_append_left hlt] at hk;exact .inl ⟨hlt,hk⟩
 ·have e:k=l.length:=by have:=(List.getElem?_eq_some_iff.1 hk).1;simp at this;omega
  subst e
  rw[List.getElem?_append_right (Nat.le_refl _),Nat.sub_self] at hk
  exact .inr ⟨rfl,by simpa using hk.symm⟩
theorem snoc_new{α:Type}{l:List α}{x:α}:(l++[x])[l.length]? = some x:=by simp
theorem L3Own.push{N:Nat}{w V w2:World}{v v2 u:Value}{vs q:List Value}{us:List (List Value)}{L:List (List (List Int))}{r:List (List Int)}(h:L3Own N w v vs us L)(hB:Below w.heap.size w V)(hu:LOwn w.heap.size V u q r)(hN:N≤w.heap.size)
 (hg:V.grownBy w2 v.ownBlock) (ho:w2.ownsRow N 27 1 v2 (L.length+1) (vs++[u])):L3Own N w2 v2 (vs++[u]) (us++[q]) (L++[r]):=by
 have hV:=h.keep hB
 have hm:∀ (k:Nat) arr t,V.heap[k]? = some (.cells arr t)→t≠27→w2.heap[k]? = some (.cells arr t):=fun k arr t hk ht =>
  (hg.block k (mem_lt hk) (fun e=>own_other hV.ro hk ht e.symm)).trans hk
 have hu2:LOwn w.heap.size w2 u q r:=hu.move (by decide) (by decide) hm
 refine⟨by simp[h.len],by simp[h.lenu],by rw[List.length_append];exact ho,fun i s hs=>?_,fun i j a a' k k' z z' b hi hj hk hk' hz hz'=>?_⟩
 ·rcases snoc_at hs with⟨hlt,hs⟩|⟨rfl,rfl⟩
  ·obtain⟨u',q',h1,h2,h3⟩:=hV.ri i s hs
   exact⟨u',q',by rw[List.getElem?_append_left (by have:=h.len;omega)];exact h1,by rw[List.getElem?_append_left (by have:=h.lenu;omega)];exact h2,h3.move (by decide) (by decide) hm⟩
  ·exact⟨u,q,by rw[←h.len];exact snoc_new,by rw[←h.lenu];exact snoc_new,hu2.down hN⟩
 ·have new:∀ {k:Nat} {z:Value} {b:Nat},q[k]? = some z→z.ownBlock=some b→w.heap.size≤b:=fun {k z b} hk hb=>by
   have hkl:=(List.getElem?_eq_some_iff.1 hk).1
   obtain⟨u2,e1,e2⟩:=hu.ri k _ (List.getElem?_eq_getElem (show k<r.length by have:=hu.len;omega))
   rw[hk] at e1
   cases e1
   exact (own_lt e2 hb).1
  rcases snoc_at hi with⟨_,hi'⟩|⟨ei,ea⟩
  ·rcases snoc_at hj with⟨_,hj'⟩|⟨ej,ea'⟩
   ·exact h.apart i j a a' k k' z z' b hi' hj' hk hk' hz hz'
   ·rw[ea'] at hk'
    have h1:=(h.inner hi' hk hz).2
    have h2:=new hk' hz'
    omega
  ·rcases snoc_at hj with⟨_,hj'⟩|⟨ej,ea'⟩
   ·rw[ea] at hk
    have h1:=(h.inner hj' hk' hz').2
    have h2:=new hk hz
    omega
   ·omega
theorem L3Own.move{N:Nat}{V w2:World}{T:TypeId}{v:Value}{vs:List Value}{us:List (List Value)}{L:List (List (List Int))}(h:L3Own N V v vs us L)(h0:27≠T)(h1:30≠T)(h2:21≠T)(hm:∀ (k:Nat) arr t,V.heap[k]? = some (.cells arr t)→t≠T→w2.heap[k]? = some (.cells arr t)):L3Own N w2 v vs us L:=
 ⟨h.len,h.lenu,own_move h.ro h0 hm,fun i r hr=>by obtain⟨u,q,e1,e2,e3⟩:=h.ri i r hr;exact⟨u,q,e1,e2,e3.move h1 h2 hm⟩,h.apart⟩
theorem set_other{w:World}{b i:Nat}{x:Value}{arr0:Array Value}{T:TypeId}(hb:w.heap[b]? = some (.cells arr0 T)):∀ (k:Nat) arr t,w.heap[k]? = some (.cells arr t)→t≠T→(w.setCell ⟨b,i,none⟩ x).heap[k]? = some (.cells arr t):=fun k arr t hk ht=>by
 refine (Below.heap_setCell _ _ _ _ ?_).trans hk
 rintro rfl
 rw[hb] at hk
 cases hk
 exact ht rfl
theorem grown_other{V w2:World}{N:Nat}{e:TypeId}{size n:Nat}{v:Value}{xs:List Value}(ho:V.ownsRow N e size v n xs)(hg:V.grownBy w2 v.ownBlock):∀ (k:Nat) arr t,V.heap[k]? = some (.cells arr t)→t≠e→w2.heap[k]? = some (.cells arr t):=fun k arr t hk ht =>
 (hg.block k (mem_lt hk) (fun x=>own_other ho hk ht x.symm)).trans hk
def varsV(l:List ByteArray):VF:=fP (l.map fun v=>(v,(0:Int)))
theorem varsV_snoc(l:List ByteArray)(x:ByteArray):varsV (l++[x])=upd (varsV l) x (some 0):=by
 unfold varsV
 rw[List.map_append]
 exact fP_snoc _ _
theorem varsV_zero{l:List ByteArray}{nm:ByteArray}{v:Int}(h:varsV l nm=some v):v=0:=by
 obtain⟨k,hk⟩:=fP_mem h
 rw[List.getElem?_map] at hk
 obtain⟨x,_,e⟩:=Option.map_eq_some_iff.1 hk
 cases e
 rfl
def named{α:Type}(D:List Arr)(L:List α):List (ByteArray×α):=(D.map (·.name)).zip L
theorem named_names{α:Type}{D:List Arr}{L:List α}(h:D.length=L.length):(named D L).map (·.1)=D.map (·.name):=by
 unfold named
 rw[List.map_fst_zip]
 simp[h]
structure Res where
 mem:Mem
 out:List (Int×Int)
 rd:Nat
 st:Nat
 err:Int
def Res.fail(e:Int):Res:=⟨⟨[],[]⟩,[],0,0,e⟩
def getA(A:AF)(D:List Arr):List (List Int):=D.map fun a=>(A a.name).getD []
def jobS(p:Prg)(i:Nat)(M:Mem):St:=⟨varsV (p.tasks.getD i Tsk.none).vars,fP (named p.shared M.shared++named (p.tasks.getD i Tsk.none).arrays (M.arrays.getD i [])),[],0,0⟩
def runR(p:Prg)(i:Nat)(M:Mem)(r:SR):Res:=⟨⟨M.arrays.set i (getA r.1.A (p.tasks.getD i Tsk.none).arrays),getA r.1.A p.shared⟩,r.1.out,r.1.rd,r.1.st,r.2⟩
def jobP(p:Prg)(task:Int)(M:Mem)(inp:List Int)(F:Int):Res:=
 if okP p=false then .fail 3
 else if task<0∨(p.tasks.length:Int)≤task then .fail 2
 else if fitsP p M=false then .fail 14
 else runR p task.toNat M ((p.tasks.getD task.toNat Tsk.none).body.ex F inp (jobS p task.toNat M))
set_option maxHeartbeats 80000000
theorem job1_any(B K:Nat)(m:IM)(F:Int)(inp:List Int)(t:Tsk)(q:TskPlace)(w:World)(s:St)(ov:Value)(pb kb:Nat)(hF:F≤1000000)(hK:K≤80000000)(hv:t.body.vld 98=true)(hin:InB B w t.body q.ka)(h:StAt B K m F inp w s ov)
 (hp:w.heap[pb]? = some (.cells #[.pointer (some ⟨m.sb,0,none⟩)] 67)) (ht:w.heap[kb]? = some (tskObj t q)) :
 Calls Tryz.prog 22 #[.pointer (some ⟨pb,0,none⟩),.pointer (some ⟨kb,0,none⟩)] w (SrQ B K m F inp w (t.body.ex F inp s)):=by
 have p0:=mem_cell hp 0
 obtain⟨g0,g1,g2,g3,g4,g5,g6,g7⟩:w.cell? ⟨kb,0,none⟩=some (.string t.name)∧w.cell? ⟨kb,1,none⟩=some (.int .i64 t.period)∧w.cell? ⟨kb,2,none⟩=some (.slice q.va t.vars.length q.vc)∧w.cell? ⟨kb,3,none⟩=some (.slice q.aa t.arrays.length q.ac)∧w.cell? ⟨kb,4,none⟩=some (.int .u8 t.body.kind)∧w.cell? ⟨kb,5,none⟩=some (.int .i64 t.body.num)∧w.cell? ⟨kb,6,none⟩=some (.string t.body.name)∧w.cell? ⟨kb,7,none⟩=some (.slice q.ka t.body.len q.kc):=
  ⟨mem_cell ht 0,mem_cell ht 1,mem_cell ht 2,mem_cell ht 3,mem_cell ht 4,mem_cell ht 5,mem_cell ht 6,mem_cell ht 7⟩
 simp only[List.getElem?_toArray,List.getElem?_cons_zero] at p0
 have h9:=(exec_all B m F inp (by omega) t.body).1 K w s ov q.ka q.kc hK hv hin h
 obtain⟨Q,hQ⟩:∃ Q,SrQ B K m F inp w (t.body.ex F inp s)=Q:=⟨_,rfl⟩
 have HQ:=ξ hQ
 have H9:=ξ h9
 rw[hQ]
 clear h9 hQ hin h hp ht hv
 go_enter Tryz.func22,Tryz.ntmps22
 go_wp2_with fail
 refine H9.out.mono ?_
 rintro e w3 ⟨he,hr⟩
 by_cases h0:(t.body.ex F inp s).2=0
 ·have he2:e = .returned (.tuple #[]):=by unfold SrE at he;rw[if_pos h0] at he;exact he
  have HR:Hid (Q (.returned (.tuple #[])) w3):=by show Q _ _;rw[←HQ.out];exact⟨by rw[←he2];exact he,hr⟩
  subst he2
  clear he hr H9
  go_wp2_with fail
  go_end0
  exact HR.out
 ·have he2:e = .panicked (failC (t.body.ex F inp s).2):=by unfold SrE at he;rw[if_neg h0] at he;exact he
  subst he2
  exact panic_end (P:=Tryz.prog) (fn:=Tryz.f22) rfl (by rw[←HQ.out];exact⟨he,hr⟩)
