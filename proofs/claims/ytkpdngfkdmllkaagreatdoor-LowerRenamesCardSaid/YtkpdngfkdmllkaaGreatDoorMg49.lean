/- Part. -/
import Derived.Test.YtkpdngfkdmllkaaGreatDoorRows
import Derived.ProofKit
import Derived.OpenShut
import Derived.Lib.SmallJoins
import Derived.WideKeyArgs
import Derived.Test.YtkpdngfkdmllkaaGreatDoorMg11
import Derived.Lib.LaidTab
import Derived.FnData
namespace Go.Proofs.YtkpdngfkdmllkaaGreatDoor
set_option linter.unusedVariables false
set_option linter.unusedSimpArgs false
open Go.ChangeShapes Go.WideShapes Go.ChangeAt Go.RowKit
theorem cellsNode:Tryz.prog.cellsOf 47=4:=by kernel_rfl
theorem cellsNode0:Tryz.prog.cellsOf 5=1:=by kernel_rfl
theorem cellsNode1:Tryz.prog.cellsOf 3=1:=by kernel_rfl
theorem cellsNode2:Tryz.prog.cellsOf 9=1:=by kernel_rfl
theorem cellsNode3:Tryz.prog.cellsOf 45=1:=by kernel_rfl
theorem list4{l:List Value}(h:l.length=4):∃ a b c d,l = [a,b,c,d]:=by
 match l,h with
 | [a,b,c,d],_=>exact⟨a,b,c,d,rfl⟩
theorem le_max{n:Nat}(h:n≤maxLen):n≤9223372036854775807:=by unfold maxLen at h;omega
section
variable {H:Type} {enc:TypeId×Value→H} {w:World} {base:Nat} {sp:Nat→Bool} {held:Bool}
theorem tree_open(fuel:Nat):∀ (cs:List Value) (x:DataW H×List MemPlace),DataW.trod enc Tryz.prog w base sp held fuel 47 cs=some x →
 ∃ (t:Tree) (a:Option Addr) (c:Nat),cs = [.int .u8 t.kind,.int .i64 t.num,.string t.name,.slice a t.len c]∧Rep w t a:=by
 induction fuel with
 | zero=>intro cs x h;simp[DataW.trod] at h
 | succ fuel ih =>
  intro cs x h
  obtain⟨xs,n,hn,rfl,hl,hxl,hf⟩:=DataW.trod_struct Tryz.underlying47 h
  obtain rfl:fuel=n:=by omega
  rw[cellsNode] at hl
  obtain⟨c0,c1,c2,c3,rfl⟩:=list4 hl
  match xs,hxl with
  | [y0,y1,y2,y3],_ =>
   have h0:DataW.trod enc Tryz.prog w base sp held fuel 5 (([c0,c1,c2,c3].drop 0).take (Tryz.prog.cellsOf 5)) = [y0,y1,y2,y3][0]?:=hf 0 _ rfl
   have h1:DataW.trod enc Tryz.prog w base sp held fuel 3 (([c0,c1,c2,c3].drop 1).take (Tryz.prog.cellsOf 3)) = [y0,y1,y2,y3][1]?:=hf 1 _ rfl
   have h2:DataW.trod enc Tryz.prog w base sp held fuel 9 (([c0,c1,c2,c3].drop 2).take (Tryz.prog.cellsOf 9)) = [y0,y1,y2,y3][2]?:=hf 2 _ rfl
   have h3:DataW.trod enc Tryz.prog w base sp held fuel 45 (([c0,c1,c2,c3].drop 3).take (Tryz.prog.cellsOf 45)) = [y0,y1,y2,y3][3]?:=hf 3 _ rfl
   rw[cellsNode0] at h0
   rw[cellsNode1] at h1
   rw[cellsNode2] at h2
   rw[cellsNode3] at h3
   simp only[List.drop_zero,List.drop_succ_cons,List.take_succ_cons,List.take_zero,List.getElem?_cons_zero,List.getElem?_cons_succ] at h0 h1 h2 h3
   obtain⟨k,hk,_,wk⟩:=DataW.trod_int Tryz.underlying5 h0
   obtain⟨m,hm,_,wm⟩:=DataW.trod_int Tryz.underlying3 h1
   obtain⟨s,hs,_,ws⟩:=DataW.trod_string Tryz.underlying9 h2
   cases hk;cases hm;cases hs
   have bk:0≤k∧k≤255:=by simpa[Lit.wf,IntKind.min,IntKind.max,IntKind.signed,IntKind.bits] using wk
   have bm : -9223372036854775808≤m∧m≤9223372036854775807:=by simpa[Lit.wf,IntKind.min,IntKind.max,IntKind.signed,IntKind.bits] using wm
   have ws':s.size≤9223372036854775807:=le_max ws
   clear ws
   rcases DataW.trod_slice Tryz.underlying45 h3 with⟨h4,_⟩|⟨a,len,cap,elems,rest,n',hn',h4,_,hb,hlc,hcm,hel,hel2,_,_⟩
   ·cases h4
    exact⟨Tree.leaf k m s,none,0,rfl,Rep.mk ⟨bk,bm,ws',Nat.zero_le _⟩ (.inl rfl)⟩
   ·cases h4
    have hcm':cap≤9223372036854775807:=le_max hcm
    clear hcm
    obtain rfl:fuel=n'+1:=hn'
    have hspot:0<len→a.spot=none:=by
     intro h0
     have hi2:=hel2 0 h0
     rw[Nat.zero_mul,cellsNode] at hi2
     obtain⟨y,hy⟩:∃ y,elems[0]? = some y:=⟨_,List.getElem?_eq_getElem (by omega)⟩
     rw[hy] at hi2
     obtain⟨cs',hc1,hc2⟩:=Option.bind_eq_some_iff.1 hi2
     obtain⟨t,ai,ci,rfl,hr⟩:=ih _ _ (DataW.trod_succ _ _ _ _ hc2)
     obtain⟨_,_,hcs⟩:=World.cells?_some hc1
     have e0:=hcs 0 (by omega)
     have h9:(a.add 0).add 0=a:=by simp[Addr.add]
     rw[h9] at e0
     cases hq:a.spot with
     | none=>rfl
     | some q =>
      unfold World.cell? at e0
      rw[hq] at e0
      split at e0 <;> simp at e0
    have each:∀ i,∃ (t:Tree),i<len→∃ (ai:Option Addr) (ci:Nat),NodeAt w a.block (a.off+i*4) t ai ci∧Rep w t ai:=by
     intro i
     by_cases hi:i<len
     ·have hi2:=hel2 i hi
      rw[cellsNode] at hi2
      obtain⟨y,hy⟩:∃ y,elems[i]? = some y:=⟨_,List.getElem?_eq_getElem (by omega)⟩
      rw[hy] at hi2
      obtain⟨cs',hc1,hc2⟩:=Option.bind_eq_some_iff.1 hi2
      obtain⟨t,ai,ci,rfl,hr⟩:=ih _ _ (DataW.trod_succ _ _ _ _ hc2)
      obtain⟨_,_,hcs⟩:=World.cells?_some hc1
      obtain⟨ab,ao,asp⟩:=a
      obtain rfl:asp=none:=hspot (by omega)
      have hadd:∀ d,((⟨ab,ao,none⟩:Addr).add (i*4)).add d=⟨ab,ao+i*4+d,none⟩:=by
       intro d
       unfold Addr.add
       by_cases h1:i*4=0 <;> by_cases h2:d=0 <;> simp[h1,h2]
       all_goals omega
      have e0:=hcs 0 (by omega)
      have e1:=hcs 1 (by omega)
      have e2:=hcs 2 (by omega)
      have e3:=hcs 3 (by omega)
      rw[hadd] at e0 e1 e2 e3
      exact⟨t,fun _=>⟨ai,ci,⟨e0,e1,e2,e3⟩,hr⟩⟩
     ·exact⟨Tree.leaf 0 0 s,fun h=>absurd h hi⟩
    obtain⟨f,hf⟩:=Classical.axiomOfChoice each
    refine⟨Tree.make k m s len f,some a,cap,rfl,Rep.mk ⟨bk,bm,ws',by show len≤_;omega⟩ ?_⟩
    by_cases h0:0<len
    ·obtain⟨ab,ao,asp⟩:=a
     obtain rfl:asp=none:=hspot h0
     refine .inr ⟨ab,ao,rfl,fun i hi=>?_⟩
     obtain⟨ai,ci,h1,h2⟩:=hf i hi
     exact⟨ai,ci,by rw[Tree.make_kid (show i<len from hi)];exact h1,by rw[Tree.make_kid (show i<len from hi)];exact h2⟩
    ·exact .inl (show len=0 by omega)
end
set_option maxRecDepth 100000
theorem cellsArr:Tryz.prog.cellsOf 73=2:=by kernel_rfl
theorem cellsTsk:Tryz.prog.cellsOf 49=8:=by kernel_rfl
theorem cellsPrg:Tryz.prog.cellsOf 25=2:=by kernel_rfl
theorem cellsArrs:Tryz.prog.cellsOf 22=1:=by kernel_rfl
theorem cellsTsks:Tryz.prog.cellsOf 23=1:=by kernel_rfl
theorem cellsStrs:Tryz.prog.cellsOf 44=1:=by kernel_rfl
section
variable {H:Type} {enc:TypeId×Value→H} {w:World} {base:Nat} {sp:Nat→Bool} {held:Bool}
theorem rows_open{t e:TypeId}{size fuel:Nat}{cs:List Value}{x:DataW H×List MemPlace}(ht:Tryz.prog.underlying t=some (.slice e))(hc:Tryz.prog.cellsOf e=size)(h0:0<size)
 (h:DataW.trod enc Tryz.prog w base sp held fuel t cs=some x) :
 ∃ (a:Option Addr) (len cap n:Nat),cs = [.slice a len cap]∧len≤9223372036854775807∧∀ i,i<len→∃ ab ao,a=some ⟨ab,ao,none⟩∧∃ (cs':List Value) (y:DataW H×List MemPlace),
  (∀ o,o<size→w.cell? ⟨ab,ao+i*size+o,none⟩=cs'[o]?)∧DataW.trod enc Tryz.prog w base sp held n e cs'=some y:=by
 rcases DataW.trod_slice ht h with⟨h4,_⟩|⟨a,len,cap,elems,rest,n',_,h4,_,_,hlc,hcm,hel,hel2,_,_⟩
 ·exact⟨none,0,0,0,h4,by omega,fun i hi=>by omega⟩
 ·have hcm':=le_max hcm
  refine⟨some a,len,cap,n',h4,by omega,fun i hi=>?_⟩
  have hspot:a.spot=none:=by
   have hi2:=hel2 0 (by omega)
   rw[Nat.zero_mul,hc] at hi2
   obtain⟨y,hy⟩:∃ y,elems[0]? = some y:=⟨_,List.getElem?_eq_getElem (by omega)⟩
   rw[hy] at hi2
   obtain⟨cs',hc1,hc2⟩:=Option.bind_eq_some_iff.1 hi2
   obtain⟨_,hl,hcs⟩:=World.cells?_some hc1
   have e0:=hcs 0 h0
   rw[show (a.add 0).add 0=a by simp[Addr.add],List.getElem?_eq_getElem (by omega)] at e0
   cases hq:a.spot with
   | none=>rfl
   | some q =>
    unfold World.cell? at e0
    rw[hq] at e0
    split at e0 <;> simp at e0
  obtain⟨ab,ao,asp⟩:=a
  obtain rfl:asp=none:=hspot
  have hi2:=hel2 i hi
  rw[hc] at hi2
  obtain⟨y,hy⟩:∃ y,elems[i]? = some y:=⟨_,List.getElem?_eq_getElem (by omega)⟩
  rw[hy] at hi2
  obtain⟨cs',hc1,hc2⟩:=Option.bind_eq_some_iff.1 hi2
  obtain⟨_,_,hcs⟩:=World.cells?_some hc1
  refine⟨ab,ao,rfl,cs',y,fun o ho=>?_,hc2⟩
  have:=hcs o ho
  have hadd:((⟨ab,ao,none⟩:Addr).add (i*size)).add o=⟨ab,ao+i*size+o,none⟩:=by
   unfold Addr.add
   by_cases h1:i*size=0 <;> by_cases h2:o=0 <;> simp[h1,h2]
   all_goals omega
  rw[hadd] at this
  exact this
theorem wf64{n:Int}(h:(Lit.int .i64 n).wf=true):isI64 n:=by
 have : -9223372036854775808≤n∧n≤9223372036854775807:=by simpa[Lit.wf,IntKind.min,IntKind.max,IntKind.signed,IntKind.bits] using h
 exact this
theorem list_of{α:Type}{d:α}{n:Nat}{P:Nat→α→Prop}(h:∀ i,i<n→∃ x,P i x):∃ l:List α,l.length=n∧∀ i,i<n→P i (l.getD i d):=by
 have h':∀ i,∃ x,i<n→P i x:=fun i=>by
  by_cases hi:i<n
  ·obtain⟨x,hx⟩:=h i hi;exact⟨x,fun _=>hx⟩
  ·exact⟨d,fun h=>absurd h hi⟩
 obtain⟨f,hf⟩:=Classical.axiomOfChoice h'
 refine⟨(List.range n).map f,by simp,fun i hi=>?_⟩
 have:((List.range n).map f).getD i d=f i:=by simp[hi]
 rw[this];exact hf i hi
theorem arr_open{fuel:Nat}{cs:List Value}{x:DataW H×List MemPlace}(h:DataW.trod enc Tryz.prog w base sp held fuel 73 cs=some x) :
 ∃ y:Arr,cs = [.string y.name,.int .i64 y.len]∧y.name.size≤9223372036854775807∧isI64 y.len:=by
 obtain⟨xs,n,_,rfl,hl,hxl,hf⟩:=DataW.trod_struct Tryz.underlying73 h
 rw[cellsArr] at hl
 match cs,hl with
 | [c0,c1],_ =>
  match xs,hxl with
  | [y0,y1],_ =>
   have h0:DataW.trod enc Tryz.prog w base sp held n 9 (([c0,c1].drop 0).take (Tryz.prog.cellsOf 9)) = [y0,y1][0]?:=hf 0 _ rfl
   have h1:DataW.trod enc Tryz.prog w base sp held n 3 (([c0,c1].drop 1).take (Tryz.prog.cellsOf 3)) = [y0,y1][1]?:=hf 1 _ rfl
   rw[cellsNode2] at h0
   rw[cellsNode1] at h1
   simp only[List.drop_zero,List.drop_succ_cons,List.take_succ_cons,List.take_zero,List.getElem?_cons_zero,List.getElem?_cons_succ] at h0 h1
   obtain⟨s,hs,_,ws⟩:=DataW.trod_string Tryz.underlying9 h0
   obtain⟨m,hm,_,wm⟩:=DataW.trod_int Tryz.underlying3 h1
   cases hs;cases hm
   exact⟨⟨s,m⟩,rfl,le_max ws,wf64 wm⟩
theorem arrs_open{fuel:Nat}{cs:List Value}{x:DataW H×List MemPlace}(h:DataW.trod enc Tryz.prog w base sp held fuel 22 cs=some x) :
 ∃ (a:Option Addr) (l:List Arr) (c:Nat),cs = [.slice a l.length c]∧ArrsAt w a l:=by
 obtain⟨a,len,cap,n,rfl,hlen,hk⟩:=rows_open Tryz.underlying22 cellsArr (by omega) h
 obtain⟨l,rfl,hl⟩:=list_of (d:=Arr.none) (n:=len) (P:=fun i y=>∃ b off,a=some ⟨b,off,none⟩∧ArrAt w b (off+i*2) y) (fun i hi=>by
  obtain⟨ab,ao,ha,cs',y,hcell,ht⟩:=hk i hi
  obtain⟨z,rfl,z1,z2⟩:=arr_open ht
  exact⟨z,ab,ao,ha,hcell 0 (by omega),hcell 1 (by omega),z1,z2⟩)
 exact⟨a,l,cap,rfl,hlen,hl⟩
theorem strs_open{fuel:Nat}{cs:List Value}{x:DataW H×List MemPlace}(h:DataW.trod enc Tryz.prog w base sp held fuel 44 cs=some x) :
 ∃ (a:Option Addr) (l:List ByteArray) (c:Nat),cs = [.slice a l.length c]∧StrsAt w a l:=by
 obtain⟨a,len,cap,n,rfl,hlen,hk⟩:=rows_open Tryz.underlying44 cellsNode2 (by omega) h
 obtain⟨l,rfl,hl⟩:=list_of (d:=(⟨#[]⟩:ByteArray)) (n:=len) (P:=fun i y=>∃ b off,a=some ⟨b,off,none⟩∧w.cell? ⟨b,off+i,none⟩=some (.string y)∧y.size≤9223372036854775807) (fun i hi=>by
  obtain⟨ab,ao,ha,cs',y,hcell,ht⟩:=hk i hi
  obtain⟨s,rfl,_,ws⟩:=DataW.trod_string Tryz.underlying9 ht
  have h0:=hcell 0 (by omega)
  rw[Nat.mul_one,Nat.add_zero] at h0
  exact⟨s,ab,ao,ha,h0,le_max ws⟩)
 exact⟨a,l,cap,rfl,hlen,hl⟩
theorem arr2{cs:Array Value}(h:cs.size=2):∃ c0 c1,cs = #[c0,c1]:=by
 obtain⟨l⟩:=cs
 match l,h with
 | [a,b],_=>exact⟨a,b,rfl⟩
theorem list8{l:List Value}(h:l.length=8):∃ a b c d e f g i,l = [a,b,c,d,e,f,g,i]:=by
 match l,h with
 | [a,b,c,d,e,f,g,i],_=>exact⟨a,b,c,d,e,f,g,i,rfl⟩
theorem tsk_open{fuel:Nat}{cs:List Value}{x:DataW H×List MemPlace}(h:DataW.trod enc Tryz.prog w base sp held fuel 49 cs=some x) :
 ∃ (t:Tsk) (p:TskPlace),cs=(t.cells p).toList∧TskIn w t p:=by
 obtain⟨xs,n,_,rfl,hl,hxl,hf⟩:=DataW.trod_struct Tryz.underlying49 h
 rw[cellsTsk] at hl
 obtain⟨c0,c1,c2,c3,c4,c5,c6,c7,rfl⟩:=list8 hl
 match xs,hxl with
 | [y0,y1,y2,y3,y4],_ =>
  have h0:DataW.trod enc Tryz.prog w base sp held n 9 (([c0,c1,c2,c3,c4,c5,c6,c7].drop 0).take (Tryz.prog.cellsOf 9)) = [y0,y1,y2,y3,y4][0]?:=hf 0 _ rfl
  have h1:DataW.trod enc Tryz.prog w base sp held n 3 (([c0,c1,c2,c3,c4,c5,c6,c7].drop 1).take (Tryz.prog.cellsOf 3)) = [y0,y1,y2,y3,y4][1]?:=hf 1 _ rfl
  have h2:DataW.trod enc Tryz.prog w base sp held n 44 (([c0,c1,c2,c3,c4,c5,c6,c7].drop 2).take (Tryz.prog.cellsOf 44)) = [y0,y1,y2,y3,y4][2]?:=hf 2 _ rfl
  have h3:DataW.trod enc Tryz.prog w base sp held n 22 (([c0,c1,c2,c3,c4,c5,c6,c7].drop 3).take (Tryz.prog.cellsOf 22)) = [y0,y1,y2,y3,y4][3]?:=hf 3 _ rfl
  have h4:DataW.trod enc Tryz.prog w base sp held n 47 (([c0,c1,c2,c3,c4,c5,c6,c7].drop 4).take (Tryz.prog.cellsOf 47)) = [y0,y1,y2,y3,y4][4]?:=hf 4 _ rfl
  rw[cellsNode2] at h0
  rw[cellsNode1] at h1
  rw[cellsStrs] at h2
  rw[cellsArrs] at h3
  rw[cellsNode] at h4
  simp only[List.drop_zero,List.drop_succ_cons,List.take_succ_cons,List.take_zero,List.take_nil,List.getElem?_cons_zero,List.getElem?_cons_succ] at h0 h1 h2 h3 h4
  obtain⟨s,hs,_,ws⟩:=DataW.trod_string Tryz.underlying9 h0
  obtain⟨m,hm,_,wm⟩:=DataW.trod_int Tryz.underlying3 h1
  obtain⟨va,vl,vc,hv,hvs⟩:=strs_open h2
  obtain⟨aa,al,ac,hav,has⟩:=arrs_open h3
  obtain⟨b,ka,kc,hb,hbr⟩:=tree_open _ _ _ h4
  cases hs;cases hm;cases hv;cases hav;cases hb
  exact⟨⟨s,m,vl,al,b⟩,⟨va,vc,aa,ac,ka,kc⟩,rfl,⟨le_max ws,wf64 wm,hvs,has,hbr⟩⟩
theorem tsks_open{fuel:Nat}{cs:List Value}{x:DataW H×List MemPlace}(h:DataW.trod enc Tryz.prog w base sp held fuel 23 cs=some x) :
 ∃ (a:Option Addr) (l:List Tsk) (c:Nat),cs = [.slice a l.length c]∧TsksAt w a l:=by
 obtain⟨a,len,cap,n,rfl,hlen,hk⟩:=rows_open Tryz.underlying23 cellsTsk (by omega) h
 obtain⟨l,rfl,hl⟩:=list_of (d:=Tsk.none) (n:=len) (P:=fun i t=>∃ b off p,a=some ⟨b,off,none⟩∧(∀ o,o<8→w.cell? ⟨b,off+i*8+o,none⟩=(t.cells p)[o]?)∧TskIn w t p) (fun i hi=>by
  obtain⟨ab,ao,ha,cs',y,hcell,ht⟩:=hk i hi
  obtain⟨t,p,rfl,hin⟩:=tsk_open ht
  exact⟨t,ab,ao,p,ha,fun o ho=>by rw[hcell o ho,Array.getElem?_toList],hin⟩)
 exact⟨a,l,cap,rfl,hlen,hl⟩
theorem open_prog{r:Reach}{b0:Nat}{v:Value}{d:DataW H}{p:List MemPlace}(hv:Value.okWide Tryz.prog w r b0 25 v)(h:DataW.Trod enc Tryz.prog w base sp held 25 v d p) :
 ∃ (q:Prg) (sa:Option Addr) (sc:Nat) (ta:Option Addr) (tc:Nat),v=q.val sa sc ta tc∧PrgAt w q sa ta:=by
 obtain⟨cs,rfl,hsz⟩:=okWide_struct Tryz.underlying25 hv
 obtain⟨fuel,hf⟩:=h
 obtain⟨xs,n,_,_,hl,hxl,hff⟩:=DataW.trod_struct Tryz.underlying25 hf
 rw[cellsPrg] at hl hsz
 obtain⟨c0,c1,rfl⟩:=arr2 hsz
 match xs,hxl with
 | [y0,y1],_ =>
  have h0:DataW.trod enc Tryz.prog w base sp held n 22 (((Value.agg #[c0,c1]).cells.toList.drop 0).take (Tryz.prog.cellsOf 22)) = [y0,y1][0]?:=hff 0 _ rfl
  have h1:DataW.trod enc Tryz.prog w base sp held n 23 (((Value.agg #[c0,c1]).cells.toList.drop 1).take (Tryz.prog.cellsOf 23)) = [y0,y1][1]?:=hff 1 _ rfl
  rw[cellsArrs] at h0
  rw[cellsTsks] at h1
  simp only[Value.cells,List.drop_zero,List.drop_succ_cons,List.take_succ_cons,List.take_zero,List.getElem?_cons_zero,List.getElem?_cons_succ] at h0 h1
  obtain⟨sa,sl,sc,hs,hsa⟩:=arrs_open h0
  obtain⟨ta,tl,tc,ht,hta⟩:=tsks_open h1
  cases hs;cases ht
  exact⟨⟨sl,tl⟩,sa,sc,ta,tc,rfl,hsa,hta⟩
end
theorem cells4:Tryz.prog.cellsOf 21=1:=by kernel_rfl
theorem cells5:Tryz.prog.cellsOf 30=1:=by kernel_rfl
theorem cells55:Tryz.prog.cellsOf 27=1:=by kernel_rfl
section
variable {H:Type} {enc:TypeId×Value→H} {w:World} {base:Nat} {sp:Nat→Bool} {held:Bool}
theorem rows_nil{t e:TypeId}{size fuel:Nat}{cs:List Value}{x:DataW H×List MemPlace}(ht:Tryz.prog.underlying t=some (.slice e))(hc:Tryz.prog.cellsOf e=size)(h0:0<size)
 (h:DataW.trod enc Tryz.prog w base sp held fuel t cs=some x) :
 ∃ (a:Option Addr) (len cap n:Nat),cs = [.slice a len cap]∧len≤9223372036854775807∧(a=none→cap=0)∧∀ i,i<len→∃ ab ao,a=some ⟨ab,ao,none⟩∧∃ (cs':List Value) (y:DataW H×List MemPlace),
  (∀ o,o<size→w.cell? ⟨ab,ao+i*size+o,none⟩=cs'[o]?)∧DataW.trod enc Tryz.prog w base sp held n e cs'=some y:=by
 rcases DataW.trod_slice ht h with⟨h4,_⟩|⟨a,len,cap,elems,rest,n',_,h4,_,_,hlc,hcm,hel,hel2,_,_⟩
 ·exact⟨none,0,0,0,h4,by omega,fun _=>rfl,fun i hi=>by omega⟩
 ·have hcm':=le_max hcm
  refine⟨some a,len,cap,n',h4,by omega,fun h=>(by cases h),fun i hi=>?_⟩
  have hspot:a.spot=none:=by
   have hi2:=hel2 0 (by omega)
   rw[Nat.zero_mul,hc] at hi2
   obtain⟨y,hy⟩:∃ y,elems[0]? = some y:=⟨_,List.getElem?_eq_getElem (by omega)⟩
   rw[hy] at hi2
   obtain⟨cs',hc1,hc2⟩:=Option.bind_eq_some_iff.1 hi2
   obtain⟨_,hl,hcs⟩:=World.cells?_some hc1
   have e0:=hcs 0 h0
   rw[show (a.add 0).add 0=a by simp[Addr.add],List.getElem?_eq_getElem (by omega)] at e0
   cases hq:a.spot with
   | none=>rfl
   | some q =>
    unfold World.cell? at e0
    rw[hq] at e0
    split at e0 <;> simp at e0
  obtain⟨ab,ao,asp⟩:=a
  obtain rfl:asp=none:=hspot
  have hi2:=hel2 i hi
  rw[hc] at hi2
  obtain⟨y,hy⟩:∃ y,elems[i]? = some y:=⟨_,List.getElem?_eq_getElem (by omega)⟩
  rw[hy] at hi2
  obtain⟨cs',hc1,hc2⟩:=Option.bind_eq_some_iff.1 hi2
  obtain⟨_,_,hcs⟩:=World.cells?_some hc1
  refine⟨ab,ao,rfl,cs',y,fun o ho=>?_,hc2⟩
  have:=hcs o ho
  have hadd:((⟨ab,ao,none⟩:Addr).add (i*size)).add o=⟨ab,ao+i*size+o,none⟩:=by
   unfold Addr.add
   by_cases h1:i*size=0 <;> by_cases h2:o=0 <;> simp[h1,h2]
   all_goals omega
  rw[hadd] at this
  exact this
theorem row_build{α:Type}{size len:Nat}{a:Option Addr}{P:Nat→Nat→α→Prop}(h:∀ i,i<len→∃ ab ao,a=some ⟨ab,ao,none⟩∧∃ x,P ab (ao+i*size) x) :
 ∃ l:List α,l.length=len∧(l.length=0∨∃ b off,a=some ⟨b,off,none⟩∧∀ (k:Nat) (x:α),l[k]? = some x→P b (off+k*size) x)∧∀ x∈l,∃ b o,P b o x:=by
 by_cases h0:len=0
 ·exact⟨[],by simp[h0],.inl rfl,fun x hx=>by cases hx⟩
 ·obtain⟨b,off,ha,_⟩:=h 0 (by omega)
  have h':∀ i:Fin len,∃ x,P b (off+i.1*size) x:=fun i=>by
   obtain⟨b',off',ha',x,hx⟩:=h i.1 i.2
   rw[ha] at ha'
   injection ha' with e
   injection e with e1 e2
   subst e1 e2
   exact⟨x,hx⟩
  obtain⟨g,hg⟩:=Classical.axiomOfChoice h'
  have key:∀ (k:Nat) (x:α),(List.ofFn g)[k]? = some x→P b (off+k*size) x:=by
   intro k x hx
   rw[List.getElem?_ofFn] at hx
   split at hx
   ·rename_i hk
    injection hx with hx
    rw[←hx]
    exact hg ⟨k,hk⟩
   ·cases hx
  refine⟨List.ofFn g,by simp,.inr ⟨b,off,ha,key⟩,fun x hx=>?_⟩
  obtain⟨k,hk⟩:=List.getElem?_of_mem hx
  exact⟨b,_,key k x hk⟩
theorem words_open{fuel:Nat}{cs:List Value}{x:DataW H×List MemPlace}(h:DataW.trod enc Tryz.prog w base sp held fuel 30 cs=some x) :
 ∃ (a:Option Addr) (l:List Int) (c:Nat),cs = [.slice a l.length c]∧(a=none→c=0)∧WordsAt w a l:=by
 obtain⟨a,len,cap,n,rfl,hlen,hnil,hk⟩:=rows_nil Tryz.underlying30 cells4 (by omega) h
 obtain⟨l,rfl,h1,h2⟩:=row_build (a:=a) (len:=len) (size:=1) (P:=fun b o (y:Int)=>w.cell? ⟨b,o,none⟩=some (.int .i32 y)∧Wd.W y) (fun i hi=>by
  obtain⟨ab,ao,ha,cs',y,hcell,ht⟩:=hk i hi
  obtain⟨m,rfl,_,wm⟩:=DataW.trod_int Tryz.underlying21 ht
  exact⟨ab,ao,ha,m,hcell 0 (by omega),Wd.W_wf wm⟩)
 refine⟨a,l,cap,rfl,hnil,hlen,fun x hx=>by obtain⟨_,_,_,hw⟩:=h2 x hx;exact hw,?_⟩
 rcases h1 with h1|⟨b,off,ha,hc⟩
 ·exact .inl h1
 ·exact .inr ⟨b,off,ha,fun k x hx=>by have:=(hc k x hx).1;rwa [Nat.mul_one] at this⟩
theorem cont_open{fuel:Nat}{cs:List Value}{x:DataW H×List MemPlace}(h:DataW.trod enc Tryz.prog w base sp held fuel 27 cs=some x) :
 ∃ (a:Option Addr) (l:List (List Int)) (c:Nat),cs = [.slice a l.length c]∧(a=none→c=0)∧ContAt w a l:=by
 obtain⟨a,len,cap,n,rfl,hlen,hnil,hk⟩:=rows_nil Tryz.underlying27 cells5 (by omega) h
 obtain⟨l,rfl,h1,h2⟩:=row_build (a:=a) (len:=len) (size:=1) (P:=fun b o (y:List Int)=>∃ ra rc,w.cell? ⟨b,o,none⟩=some (.slice ra y.length rc)∧(ra=none→rc=0)∧WordsAt w ra y) (fun i hi=>by
  obtain⟨ab,ao,ha,cs',y,hcell,ht⟩:=hk i hi
  obtain⟨ra,r,rc,rfl,hn,hw⟩:=words_open ht
  exact⟨ab,ao,ha,r,ra,rc,hcell 0 (by omega),hn,hw⟩)
 refine⟨a,l,cap,rfl,hnil,hlen,?_⟩
 rcases h1 with h1|⟨b,off,ha,hc⟩
 ·exact .inl h1
 ·exact .inr ⟨b,off,ha,fun k x hx=>by have:=hc k x hx;rwa [Nat.mul_one] at this⟩
theorem cont3_open{fuel:Nat}{cs:List Value}{x:DataW H×List MemPlace}(h:DataW.trod enc Tryz.prog w base sp held fuel 26 cs=some x) :
 ∃ (a:Option Addr) (l:List (List (List Int))) (c:Nat),cs = [.slice a l.length c]∧(a=none→c=0)∧Cont3At w a l:=by
 obtain⟨a,len,cap,n,rfl,hlen,hnil,hk⟩:=rows_nil Tryz.underlying26 cells55 (by omega) h
 obtain⟨l,rfl,h1,h2⟩:=row_build (a:=a) (len:=len) (size:=1) (P:=fun b o (y:List (List Int))=>∃ ra rc,w.cell? ⟨b,o,none⟩=some (.slice ra y.length rc)∧(ra=none→rc=0)∧ContAt w ra y) (fun i hi=>by
  obtain⟨ab,ao,ha,cs',y,hcell,ht⟩:=hk i hi
  obtain⟨ra,r,rc,rfl,hn,hw⟩:=cont_open ht
  exact⟨ab,ao,ha,r,ra,rc,hcell 0 (by omega),hn,hw⟩)
 refine⟨a,l,cap,rfl,hnil,hlen,?_⟩
 rcases h1 with h1|⟨b,off,ha,hc⟩
 ·exact .inl h1
 ·exact .inr ⟨b,off,ha,fun k x hx=>by have:=hc k x hx;rwa [Nat.mul_one] at this⟩
theorem open_words{r:Reach}{b0:Nat}{v:Value}{d:DataW H}{p:List MemPlace}(hv:Value.okWide Tryz.prog w r b0 30 v)(h:DataW.Trod enc Tryz.prog w base sp held 30 v d p):∃ (a:Option Addr) (l:List Int) (c:Nat),v = .slice a l.length c∧(a=none→c=0)∧WordsAt w a l:=by
 obtain⟨a,len,cap,rfl⟩:=okWide_slice Tryz.underlying30 hv
 obtain⟨fuel,hf⟩:=h
 obtain⟨a',l,c,e,h1,h2⟩:=words_open hf
 have e:[Value.slice a len cap] = [.slice a' l.length c]:=e
 injection e with e
 exact⟨a',l,c,e,h1,h2⟩
theorem open_mem{r:Reach}{b0:Nat}{v:Value}{d:DataW H}{p:List MemPlace}(hv:Value.okWide Tryz.prog w r b0 29 v)(h:DataW.Trod enc Tryz.prog w base sp held 29 v d p) :
 ∃ (M:Mem) (ma:Option Addr) (mac:Nat) (ms:Option Addr) (msc:Nat),v=M.val ma mac ms msc∧MemAt w M ma ms:=by
 obtain⟨cs,rfl,hsz⟩:=okWide_struct Tryz.underlying29 hv
 obtain⟨fuel,hf⟩:=h
 obtain⟨xs,n,_,_,hl,hxl,hff⟩:=DataW.trod_struct Tryz.underlying29 hf
 rw[show Tryz.prog.cellsOf 29=2 by kernel_rfl] at hl hsz
 obtain⟨c0,c1,rfl⟩:=arr2 hsz
 match xs,hxl with
 | [y0,y1],_ =>
  have h0:DataW.trod enc Tryz.prog w base sp held n 26 (((Value.agg #[c0,c1]).cells.toList.drop 0).take (Tryz.prog.cellsOf 26)) = [y0,y1][0]?:=hff 0 _ rfl
  have h1:DataW.trod enc Tryz.prog w base sp held n 27 (((Value.agg #[c0,c1]).cells.toList.drop 1).take (Tryz.prog.cellsOf 27)) = [y0,y1][1]?:=hff 1 _ rfl
  rw[show Tryz.prog.cellsOf 26=1 by kernel_rfl] at h0
  rw[cells55] at h1
  simp only[Value.cells,List.drop_zero,List.drop_succ_cons,List.take_succ_cons,List.take_zero,List.getElem?_cons_zero,List.getElem?_cons_succ] at h0 h1
  obtain⟨ma,ml,mc,e0,_,hm⟩:=cont3_open h0
  obtain⟨sa,sl,sc,e1,_,hs⟩:=cont_open h1
  cases e0;cases e1
  exact⟨⟨ml,sl⟩,ma,mc,sa,sc,rfl,hm,hs⟩
end
theorem strs_of_tab{H:Type}{enc:TypeId×Value→H}{P:Program}{w:World}{base:Nat}{sp:Nat→Bool}{held:Bool}{fuel:Nat}{t e:TypeId}{n:Nat}{cs:List Value}{zs:List (List UInt8)}{p:List MemPlace}
 (ht:P.underlying t=some (.array n e)) (he:P.underlying e=some .string) (hce:P.cellsOf e=1) (hct:P.cellsOf t=n)
 (h:DataW.trod enc P w base sp held fuel t cs=some (.agg (zs.map fun z=>.lit (.string z)),p)) :
 cs=zs.map fun z=>.string ⟨z.toArray⟩:=by
 cases fuel with
 | zero=>simp[DataW.trod] at h
 | succ fuel =>
  simp only[DataW.trod,ht,hce,hct] at h
  split at h
  ·rename_i hl
   obtain⟨xs,hm,hx⟩:=Option.map_eq_some_iff.1 h
   have hxs:xs.map (·.1)=zs.map fun z=>(DataW.lit (.string z):DataW H):=by
    have:=congrArg Prod.fst hx
    simpa using this
   have hxl:xs.length=n:=by simpa using Lib.mapM_length hm
   have hzl:zs.length=n:=by
    have:=congrArg List.length hxs
    simp at this
    omega
   have hcl:cs.length=n:=by simpa using hl
   refine List.ext_getElem? fun i=>?_
   by_cases hi:i<n
   ·obtain⟨b,hb,hf⟩:=Lib.mapM_at hm i i (by simp[hi])
    obtain⟨s,hs,rfl,_⟩:=DataW.trod_string he hf
    have h2:(xs.map (·.1))[i]? = some (DataW.lit (.string s.data.toList):DataW H):=by simp[hb]
    rw[hxs] at h2
    obtain⟨z,hz,hz2⟩:∃ z,zs[i]? = some z∧z=s.data.toList:=by
     simp at h2
     exact⟨_,h2,rfl⟩
    subst hz2
    have:=congrArg (·[0]?) hs
    simp[List.getElem?_drop] at this
    simp[this,hz]
   ·rw[List.getElem?_eq_none (by omega),List.getElem?_eq_none (by simp;omega)]
  ·cases h
theorem gSigns : Tryz.prog.globalNamed "ontime/lexer.signs" = some 0 := by kernel_rfl
theorem gSignsType:(Tryz.prog.globals[0]?).map (·.type)=some 156:=by kernel_rfl
theorem cellsSigns:Tryz.prog.cellsOf 156=28:=by kernel_rfl
theorem SG_eq:(signTab.map fun z=>z.data.toList).map (fun z=>Value.string ⟨z.toArray⟩)=SG.toList:=by kernel_rfl
theorem signs_of_laid {W : World} (h : laidMetH Tryz.prog [("ontime/lexer.signs", Rows.laid_ontime_lexer_signs)] W) : SignsIn W := by
 obtain ⟨ps, ⟨g', t', cs, fuel, p, q, hg', ht', hvar, hd, _, _⟩, _⟩ := (show laidMet Tryz.prog [("ontime/lexer.signs", Rows.laid_ontime_lexer_signs)] W from h)
 obtain rfl:=Option.some.inj (gSigns.symm.trans hg')
 obtain rfl:=Option.some.inj (gSignsType.symm.trans ht')
 have hd':DataW.trod _ Tryz.prog W _ _ _ fuel 156 cs.toList=some (.agg ((signTab.map fun z=>z.data.toList).map fun z=>.lit (.string z)),p):=hd
 have hcs:=strs_of_tab Tryz.underlying156 Tryz.underlying9 cellsNode2 cellsSigns hd'
 rw[SG_eq] at hcs
 have hcs':cs=SG:=Array.toList_inj.1 hcs
 subst hcs'
 simp only[World.var?,gSigns,Option.bind_some] at hvar
 split at hvar
 ·rename_i c t f hh
  cases hvar
  exact⟨_,_,hh⟩
 ·cases hvar
section
variable {H:Type} {enc:TypeId×Value→H} {w:World} {base:Nat} {sp:Nat→Bool} {held:Bool}
end
