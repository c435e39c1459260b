/- Part. -/
import Derived.Deep.RegionHeld
import Derived.OrdersHeld
import Derived.Deep.Cut
import Derived.Deep.CutRange
import Derived.Deep.DeepCutAuto
import Derived.Deep.CutBlock
import Derived.Test.YtkpdngfkdmllkaaGreatDoorMg40
import Derived.Test.YtkpdngfkdmllkaaGreatDoorMg42
namespace Go.Proofs.YtkpdngfkdmllkaaGreatDoor
set_option linter.unusedVariables false
set_option linter.unusedSimpArgs false
open Go.RowKit
theorem Src.below{w w':World}{A:Option Addr}{m size:Nat}{news:List Value}(h:Src w A m size news)(hB:Below w.heap.size w w'):Src w' A m size news:=
 ⟨h.1,h.2.imp id fun ⟨ad,h1,h2⟩=>⟨ad,h1,fun j u hu=>(hB.cell (World.block_lt_of_cell? w _ (h2 j u hu))).trans (h2 j u hu)⟩⟩
theorem one_src{w:World}{b n size:Nat}{cs:List Value}{e:TypeId}(h:w.heap[b]? = some (.cells cs.toArray e))(hl:cs.length=n*size):Src w (some ⟨b,0,none⟩) n size cs:=
 ⟨hl,.inr ⟨_,rfl,fun j u hu=>by
  have e1:(⟨b,0,none⟩:Addr).add j=⟨b,j,none⟩:=by
   unfold Addr.add
   by_cases h0:j=0 <;> simp[h0]
  rw[e1,mem_cell h]
  simpa using hu⟩⟩
structure AppSt(W:World)(Ks:List (Nat×Obj))(e:TypeId)(size:Nat)(v:Value)(n:Nat)(xs:List Value)(w:World):Prop where
 bel:Below W.heap.size W w
 own:w.ownsRow W.heap.size e size v n xs
 blk:∀ x∈Ks,w.heap[x.1]? = some x.2∧v.ownBlock≠some x.1
section
variable {W w w':World} {Ks:List (Nat×Obj)} {e:TypeId} {size n m:Nat} {v v':Value} {xs news:List Value}
theorem AppSt.alloc(h:AppSt W Ks e size v n xs w)(o:Obj):AppSt W ((w.heap.size,o)::Ks) e size v n xs (w.alloc o):=
 ⟨mem_then h.bel (mem_alloc _ _),own_below h.own (mem_alloc _ _),fun x hx=>by
  rcases List.mem_cons.1 hx with rfl|hx
  ·exact⟨mem_new _ _,fun he=>by
    have h1:=(own_lt h.own he).2
    omega⟩
  ·exact⟨mem_keep (h.blk x hx).1 (mem_alloc _ _),(h.blk x hx).2⟩⟩
theorem AppSt.grow(h:AppSt W Ks e size v n xs w)(ho:w'.ownsRow W.heap.size e size v' m news)(hg:w.grownBy w' v.ownBlock)(hp:v'.ownBlock=v.ownBlock∨v'.ownBlock=some w.heap.size):AppSt W Ks e size v' m news w':=
 ⟨h.bel.grown hg h.bel.size (fun k hk=>(own_lt h.own hk).1),ho,fun x hx=>⟨(hg.block x.1 (mem_lt (h.blk x hx).1) (fun he=>(h.blk x hx).2 he.symm)).trans (h.blk x hx).1,fun he=>by
  rcases hp with hp|hp
  ·exact (h.blk x hx).2 (hp ▸ he)
  ·have h1:=mem_lt (h.blk x hx).1
   rw[hp] at he
   have:w.heap.size=x.1:=Option.some.inj he
   omega⟩⟩
def AppEnd(W:World)(ub:Nat)(arr:Array Value)(T e:TypeId)(size k n:Nat)(xs:List Value)(w':World):Prop:=
 ∃ A c,w'.heap[ub]? = some (.cells (arr.setIfInBounds k (.slice A n c)) T)∧w'.ownsRow W.heap.size e size (.slice A n c) n xs∧Below W.heap.size W w'
theorem AppSt.put{ub k c:Nat}{A:Option Addr}{arr:Array Value}{T:TypeId}(h:AppSt W Ks e size (.slice A n c) n xs w)(hu:(ub,Obj.cells arr T)∈Ks)(hW:W.heap.size≤ub) :
 AppEnd W ub arr T e size k n xs (w.setCell ⟨ub,k,none⟩ (.slice A n c)):=by
 obtain⟨h1,h2⟩:=h.blk _ hu
 refine⟨A,c,mem_set h1,own_keep h.own (fun b hb _=>Below.heap_setCell _ _ _ _ (fun e1=>?_)),h.bel.setCell hW _⟩
 have e1:b=ub:=e1
 subst e1
 exact h2 hb
end
theorem add_none(b off j:Nat):(⟨b,off,none⟩:Addr).add j=⟨b,off+j,none⟩:=by
 unfold Addr.add
 by_cases h0:j=0 <;> simp[h0]
theorem StrsAt.src{w:World}{a:Option Addr}{l:List ByteArray}(h:StrsAt w a l):Src w a l.length 1 (l.map Value.string):=by
 refine⟨by simp,?_⟩
 by_cases h0:l.length=0
 ·exact .inl h0
 ·obtain⟨b,off,ha,_⟩:=h.2 0 (by omega)
  refine .inr ⟨_,ha,fun j u hu=>?_⟩
  rw[List.getElem?_map] at hu
  obtain⟨s,hs,rfl⟩:=Option.map_eq_some_iff.1 hu
  obtain⟨hj,rfl⟩:=List.getElem?_eq_some_iff.1 hs
  obtain⟨b',off',ha',hc,_⟩:=h.2 j hj
  rw[ha] at ha'
  cases ha'
  rw[add_none,hc]
  simp[hj]
theorem strs_own{w:World}{base:Nat}{e:TypeId}{A:Option Addr}{c:Nat}{l:List ByteArray}(h:w.ownsRow base e 1 (.slice A l.length c) l.length (l.map Value.string))(hs:∀ s∈l,s.size≤9223372036854775807):StrsAt w A l:=by
 refine⟨own_size h,fun i hi=>?_⟩
 obtain⟨b,rfl,_,_⟩:=own_at h (by omega)
 refine⟨b,0,rfl,?_,hs _ (by simp[hi])⟩
 rw[Nat.zero_add]
 exact own_get h (by simp[hi])
def Arr.cells(x:Arr):List Value:=[.string x.name,.int .i64 x.len]
theorem arrs_get:∀ (l:List Arr) (i o:Nat),o<2→i<l.length→(l.flatMap Arr.cells)[i*2+o]? = (l.getD i Arr.none).cells[o]?
 | [],i,o,_,h=>by simp at h
 | x::l,0,o,ho,_=>by
  rw[List.flatMap_cons,Nat.zero_mul,Nat.zero_add,List.getElem?_append_left (by show o<2;exact ho)]
  rfl
 | x::l,i+1,o,ho,h=>by
  rw[List.flatMap_cons,List.getElem?_append_right (by show 2≤_;omega)]
  have:=arrs_get l i o ho (by simpa using h)
  rw[show (i+1)*2+o-x.cells.length=i*2+o by show (i+1)*2+o-2=_;omega,this]
  rfl
theorem arrs_len:∀ (l:List Arr),(l.flatMap Arr.cells).length=l.length*2
 | []=>rfl
 | x::l=>by
  rw[List.flatMap_cons,List.length_append,arrs_len l,List.length_cons]
  show 2+_=_
  omega
theorem ArrsAt.src{w:World}{a:Option Addr}{l:List Arr}(h:ArrsAt w a l):Src w a l.length 2 (l.flatMap Arr.cells):=by
 refine⟨arrs_len l,?_⟩
 by_cases h0:l.length=0
 ·exact .inl h0
 ·obtain⟨b,off,ha,_⟩:=h.2 0 (by omega)
  refine .inr ⟨_,ha,fun j u hu=>?_⟩
  have hj:j<l.length*2:=by rw[←arrs_len];exact (List.getElem?_eq_some_iff.1 hu).1
  obtain⟨b',off',ha',c0,c1,_⟩:=h.2 (j / 2) (by omega)
  rw[ha] at ha'
  cases ha'
  have hg:=arrs_get l (j / 2) (j % 2) (by omega) (by omega)
  rw[show j / 2*2+j % 2=j by omega,hu] at hg
  rw[add_none]
  obtain h1|h1:j % 2=0∨j % 2=1:=by omega
  ·rw[h1] at hg
   rw[show off+j=off+j / 2*2 by omega,c0,hg]
   rfl
  ·rw[h1] at hg
   rw[show off+j=off+j / 2*2+1 by omega,c1,hg]
   rfl
theorem strs_ones{l:List ByteArray}:∀ u∈l.map Value.string,u.oneCell'=true:=by
 intro u hu
 obtain⟨s,_,rfl⟩:=List.mem_map.1 hu
 rfl
theorem ArrsAt.sizes{w:World}{a:Option Addr}{l:List Arr}(h:ArrsAt w a l):∀ x∈l,x.name.size≤9223372036854775807∧isI64 x.len:=fun x hx=>by
 obtain⟨i,hi,rfl⟩:=List.getElem_of_mem hx
 obtain⟨_,_,_,_,_,h3⟩:=h.2 i hi
 simpa[hi] using h3
theorem StrsAt.sizes{w:World}{a:Option Addr}{l:List ByteArray}(h:StrsAt w a l):∀ s∈l,s.size≤9223372036854775807:=fun s hs=>by
 obtain⟨i,hi,rfl⟩:=List.getElem_of_mem hs
 obtain⟨_,_,_,_,h3⟩:=h.2 i hi
 simpa[hi] using h3
set_option maxRecDepth 100000
set_option maxHeartbeats 80000000
def kidsL(t:Tree):List Tree:=(List.range t.len).map t.kid
theorem kidsL_len(t:Tree):(kidsL t).length=t.len:=by simp[kidsL]
abbrev noT:Tree:=.leaf 0 0 ByteArray.empty
theorem rowsTo_kids{f g:Nat→Tree}{x:Nat→Option Addr×Nat}{n:Nat}(h:∀ i,i<n→f i=g i):rowsTo f x n=rowsTo g x n:=by
 induction n with
 | zero=>rfl
 | succ n ih=>simp only[rowsTo];rw[ih (fun i hi=>h i (by omega)),h n (by omega)]
theorem rowsTo_add(f:Nat→Tree)(x:Nat→Option Addr×Nat)(n:Nat):∀ m,rowsTo f x (n+m)=rowsTo f x n++rowsTo (fun i=>f (n+i)) (fun i=>x (n+i)) m
 | 0=>by simp[rowsTo]
 | m+1=>by
  show rowsTo f x (n+m)++(f (n+m)).row (x (n+m))=rowsTo f x n++(rowsTo (fun i=>f (n+i)) (fun i=>x (n+i)) m++(f (n+m)).row (x (n+m)))
  rw[rowsTo_add f x n m,List.append_assoc]
structure NRow(N:Nat)(S:Nat→Prop)(w:World)(v:Value)(l:List Tree)(x:Nat→Option Addr×Nat):Prop where
 ro:w.ownsRow N 47 4 v l.length (rowsTo (fun i=>l.getD i noT) x l.length)
 reps:∀ i,i<l.length→RepIn (fun k=>S k∧v.ownBlock≠some k) w (l.getD i noT) (x i).1
theorem NRow.nil{N:Nat}{S:Nat→Prop}{w:World}:NRow N S w (.slice none 0 0) [] (fun _=>(none,0)):=⟨World.ownsRow_nil _ _ _ _,fun i h=>(nomatch h)⟩
theorem NRow.keep{N:Nat}{S:Nat→Prop}{w w':World}{v:Value}{l:List Tree}{x:Nat→Option Addr×Nat}(h:NRow N S w v l x)(hB:Below w.heap.size w w'):NRow N S w' v l x:=
 ⟨own_below h.ro hB,fun i hi=>(h.reps i hi).move (fun k _ hk=>hB.block k hk) (fun k hk _=>hk)⟩
theorem NRow.push{N:Nat}{S:Nat→Prop}{w V w2:World}{v v2:Value}{l m:List Tree}{x y:Nat→Option Addr×Nat}(h:NRow N S w v l x)(hB:Below w.heap.size w V)(hm:∀ i,i<m.length→RepIn (fun k=>S k∧v.ownBlock≠some k) V (m.getD i noT) (y i).1)
 (hg:V.grownBy w2 v.ownBlock) (hp:v2.ownBlock=v.ownBlock∨v2.ownBlock=some V.heap.size) (ho:w2.ownsRow N 47 4 v2 (l.length+m.length) (rowsTo (fun i=>l.getD i noT) x l.length++rowsTo (fun i=>m.getD i noT) y m.length)) :
 NRow N S w2 v2 (l++m) (fun i=>if i<l.length then x i else y (i-l.length)):=by
 have ne:∀ k,k<V.heap.size→v.ownBlock≠some k→v2.ownBlock≠some k:=fun k hk hn e=>by
  rcases hp with hp|hp
  ·rw[hp] at e;exact hn e
  ·rw[hp] at e;cases e;omega
 refine⟨?_,fun i hi=>?_⟩
 ·have e:rowsTo (fun i=>(l++m).getD i noT) (fun i=>if i<l.length then x i else y (i-l.length)) (l.length+m.length)=rowsTo (fun i=>l.getD i noT) x l.length++rowsTo (fun i=>m.getD i noT) y m.length:=by
   rw[rowsTo_add]
   congr 1
   ·rw[rowsTo_congr (x:=fun i=>if i<l.length then x i else y (i-l.length)) (y:=x) (fun i hi=>if_pos hi)]
    exact rowsTo_kids (fun i hi=>by rw[List.getD_eq_getElem?_getD,List.getElem?_append_left hi,←List.getD_eq_getElem?_getD])
   ·rw[rowsTo_congr (x:=fun i=>if l.length+i<l.length then x (l.length+i) else y (l.length+i-l.length)) (y:=y) (fun i hi=>by rw[if_neg (by omega)];congr 1;omega)]
    exact rowsTo_kids (fun i hi=>by rw[List.getD_eq_getElem?_getD,List.getElem?_append_right (by omega),←List.getD_eq_getElem?_getD];congr 1;omega)
  rw[List.length_append,e]
  exact ho
 ·rw[List.length_append] at hi
  by_cases hlt:i<l.length
  ·rw[if_pos hlt,List.getD_eq_getElem?_getD,List.getElem?_append_left hlt,←List.getD_eq_getElem?_getD]
   exact (h.reps i hlt).move (fun k hk hkl=>(hg.block k (by have:=hB.size;omega) (fun e=>hk.2 e.symm)).trans (hB.block k hkl)) (fun k hk hkl=>⟨hk.1,ne k (by have:=hB.size;omega) hk.2⟩)
  ·rw[if_neg hlt,List.getD_eq_getElem?_getD,List.getElem?_append_right (by omega),←List.getD_eq_getElem?_getD]
   exact (hm (i-l.length) (by omega)).move (fun k hk hkl=>hg.block k hkl (fun e=>hk.2 e.symm)) (fun k hk hkl=>⟨hk.1,ne k hkl hk.2⟩)
theorem NRow.at_{N:Nat}{S:Nat→Prop}{w:World}{a:Option Addr}{n c:Nat}{l:List Tree}{x:Nat→Option Addr×Nat}(h:NRow N S w (.slice a n c) l x){i:Nat}(hi:i<l.length):∃ b,a=some ⟨b,0,none⟩∧N≤b∧NodeAt w b (0+i*4) (l.getD i noT) (x i).1 (x i).2:=by
 have e:n=l.length:=by obtain⟨_,_,e⟩:=own_val h.ro;injection e
 subst e
 obtain⟨g,rfl,hg,_⟩:=own_at h.ro (by omega)
 have ca:=fun d (hd:d<4)=>(h.ro.cellAt (i*4+d) (by omega)).trans (rowsTo_at (fun i=>l.getD i noT) x hi d hd)
 have k0:=ca 0 (by omega)
 have k1:=ca 1 (by omega)
 have k2:=ca 2 (by omega)
 have k3:=ca 3 (by omega)
 rw[Nat.zero_add]
 exact⟨g,rfl,hg,k0,k1,k2,k3⟩
def set4(w:World)(b:Nat)(x0 x1 x2 x3:Value):World:=(((w.setCell ⟨b,0,none⟩ x0).setCell ⟨b,1,none⟩ x1).setCell ⟨b,2,none⟩ x2).setCell ⟨b,3,none⟩ x3
abbrev zNode:Obj:=.cells #[.int .u8 0,.int .i64 0,.string ⟨#[]⟩,.slice none 0 0] 47
theorem set4_at{w:World}{b:Nat}{x0 x1 x2 x3:Value}(h:w.heap[b]? = some zNode):(set4 w b x0 x1 x2 x3).heap[b]? = some (.cells #[x0,x1,x2,x3] 47):=by
 unfold set4
 rw[mem_set (mem_set (mem_set (mem_set h)))]
 rfl
theorem set4_far{w:World}{b k:Nat}{x0 x1 x2 x3:Value}(h:k≠b):(set4 w b x0 x1 x2 x3).heap[k]? = w.heap[k]?:=by
 unfold set4
 rw[Below.heap_setCell _ _ _ _ h,Below.heap_setCell _ _ _ _ h,Below.heap_setCell _ _ _ _ h,Below.heap_setCell _ _ _ _ h]
theorem set4_below{B:Nat}{a w:World}{b:Nat}{x0 x1 x2 x3:Value}(h:Below B a w)(hb:B≤b):Below B a (set4 w b x0 x1 x2 x3):=
 (((h.setCell (p:=⟨b,0,none⟩) hb _).setCell (p:=⟨b,1,none⟩) hb _).setCell (p:=⟨b,2,none⟩) hb _).setCell (p:=⟨b,3,none⟩) hb _
theorem node_cells{w:World}{b:Nat}{x0 x1 x2 x3:Value}{T:TypeId}(h:w.heap[b]? = some (.cells #[x0,x1,x2,x3] T)):w.cell? ⟨b,0,none⟩=some x0∧w.cell? ⟨b,1,none⟩=some x1∧w.cell? ⟨b,2,none⟩=some x2∧w.cell? ⟨b,3,none⟩=some x3:=⟨mem_cell h 0,mem_cell h 1,mem_cell h 2,mem_cell h 3⟩
abbrev nodeObj(x0 x1 x2 x3:Value):Obj:=.cells #[x0,x1,x2,x3] 47
def rnm:ByteArray:=⟨#[114,101,110,97,109,101,100]⟩
def Tree.renR(old:ByteArray):Tree→Tree
 | .node k n s l kid=>.node k n (if k=2∧s=old then rnm else s) l (fun i=>renR old (kid i))
theorem renR_parts(old:ByteArray)(t:Tree):(t.renR old).kind=t.kind∧(t.renR old).num=t.num∧(t.renR old).len=t.len∧(t.renR old).name=(if t.kind=2∧t.name=old then rnm else t.name)∧∀ i,i<t.len→(t.renR old).kid i=(t.kid i).renR old:=by
 cases t with
 | node k n s l kid =>
  refine⟨rfl,rfl,rfl,rfl,fun i hi=>?_⟩
  have hi':i<l:=hi
  rw[Tree.kid_node hi']
  show (Tree.node k n _ l (fun i=>(kid i).renR old)).kid i=_
  rw[Tree.kid_node hi']
theorem renR_size(old:ByteArray):∀ t:Tree,(t.renR old).size=t.size:=by
 intro t
 induction t using Tree.ind with
 | h t ih =>
  obtain⟨_,_,h3,_,h5⟩:=renR_parts old t
  rw[Tree.size_eq,Tree.size_eq,h3]
  congr 1
  exact Tree.sumTo_congr fun i hi=>by rw[h5 i hi,ih i hi]
theorem renR_self:∀ t:Tree,t.renR rnm=t:=by
 intro t
 induction t using Tree.ind with
 | h t ih =>
  cases t with
  | node k n s l kid =>
   show Tree.node k n (if k=2∧s=rnm then rnm else s) l (fun i=>(kid i).renR rnm)=_
   have e1:(if k=2∧s=rnm then rnm else s)=s:=by
    split
    ·rename_i h;exact h.2.symm
    ·rfl
   rw[e1]
   congr 1
   funext i
   have:=ih i.1 i.2
   rwa [Tree.kid_node i.2] at this
def OkN(old:ByteArray):Tree→Prop
 | .node k _ s l kid=>(k=2→s≠rnm)∧(k=42→s≠rnm∧s≠old)∧∀ i:Fin l,OkN old (kid i)
theorem OkN_eq{old:ByteArray}(t:Tree):OkN old t↔(t.kind=2→t.name≠rnm)∧(t.kind=42→t.name≠rnm∧t.name≠old)∧∀ i,i<t.len→OkN old (t.kid i):=by
 cases t with
 | node k n s l kid =>
  rw[OkN]
  refine and_congr Iff.rfl (and_congr Iff.rfl ⟨fun h i hi=>?_,fun h i=>?_⟩)
  ·have hi':i<l:=hi
   rw[Tree.kid_node hi'];exact h ⟨i,hi'⟩
  ·have h1:=h i.1 i.2
   rwa [Tree.kid_node i.2] at h1
theorem okN_of{old:ByteArray}{D D':Nms}(h1:memB D.scalars rnm=false)(h2:memB D.scalars old=true)(h3:memB D'.scalars rnm=true):∀ (t:Tree) (path path':List Int) (place place':Bool) (loops loops' locks locks':List ByteArray),faultsT D t path place loops locks = []→faultsT D' (t.renR old) path' place' loops' locks' = []→memB loops rnm=false→OkN old t:=by
 intro t
 induction t using Tree.ind with
 | h t ih =>
  intro path path' place place' loops loops' locks locks' hf hf' hl
  obtain⟨f0,f1⟩:=faultsV hf
  obtain⟨g0,g1⟩:=faultsV hf'
  obtain⟨r1,_,r3,r4,r5⟩:=renR_parts old t
  rw[OkN_eq]
  have h42:t.kind=42→t.name≠rnm∧t.name≠old:=by
   intro hk
   rw[hk] at f0
   rw[r1,hk,r4,if_neg (fun e=>absurd (hk.symm.trans e.1) (by decide))] at g0
   refine⟨fun e=>?_,fun e=>?_⟩
   ·rw[e] at g0
    unfold faultN at g0
    rw[if_neg (by decide),if_neg (by decide),if_pos rfl,h3,Bool.true_or,Bool.true_or,if_pos rfl] at g0
    exact absurd g0 (by decide)
   ·rw[e] at f0
    unfold faultN at f0
    rw[if_neg (by decide),if_neg (by decide),if_pos rfl,h2,Bool.true_or,Bool.true_or,if_pos rfl] at f0
    exact absurd f0 (by decide)
  refine⟨fun hk e=>?_,h42,fun i hi=>?_⟩
  ·rw[hk,e] at f0
   have h4:=var_ok f0
   rw[h1,hl] at h4
   cases h4
  ·have h5:=g1 i (by rw[r3];exact hi)
   rw[r5 i hi] at h5
   refine ih i hi _ _ _ _ _ _ _ _ (f1 i hi) h5 ?_
   unfold loopsIn
   by_cases hk:t.kind=42
   ·rw[if_pos hk,memB_append,hl,Bool.false_or]
    have:=(h42 hk).1
    unfold memB
    simpa using this
   ·rw[if_neg hk];exact hl
def RelM(old:ByteArray)(V V':VM):Prop:=∀ s,s≠rnm→V' (if s=old then rnm else s)=V s
theorem RelM.reg{old:ByteArray}{V V':VM}(h:RelM old V V'){s:ByteArray}(hs:s≠rnm):V'.reg (if s=old then rnm else s)=V.reg s:=by unfold VM.reg;rw[h s hs]
theorem RelM.upd{old:ByteArray}{V V':VM}(h:RelM old V V'){nm:ByteArray}(h1:nm≠rnm)(h2:nm≠old)(o:Option Nat):RelM old (Go.Proofs.YtkpdngfkdmllkaaGreatDoor.upd V nm o) (Go.Proofs.YtkpdngfkdmllkaaGreatDoor.upd V' nm o):=by
 intro s hs
 by_cases e:s=nm
 ·subst e
  rw[if_neg h2,upd_same,upd_same]
 ·rw[upd_other _ _ e,upd_other _ _ ?_,h s hs]
  by_cases e2:s=old
  ·rw[if_pos e2];exact fun x=>h1 x.symm
  ·rw[if_neg e2];exact e
theorem lowE_ren(E:LEnv){old:ByteArray}{V V':VM}(h:RelM old V V'):∀ (t:Tree),OkN old t→∀ R,(t.renR old).lowE E V' R=t.lowE E V R:=by
 intro t
 induction t using Tree.ind with
 | h t ih =>
  intro ho R
  obtain⟨r1,r2,r3,r4,r5⟩:=renR_parts old t
  obtain⟨o1,_,o3⟩:=(OkN_eq t).1 ho
  rw[Tree.lowE_eq,Tree.lowE_eq,r1,r2,r3]
  have e0:(fun R=>if 0<t.len then ((t.renR old).kid 0).lowE E V' R else (⟨[],R,0⟩:LE))=fun R=>if 0<t.len then (t.kid 0).lowE E V R else ⟨[],R,0⟩:=by
   funext R
   by_cases h0:0<t.len
   ·rw[if_pos h0,if_pos h0,r5 0 h0,ih 0 h0 (o3 0 h0)]
   ·rw[if_neg h0,if_neg h0]
  have e1:(fun R=>if 1<t.len then ((t.renR old).kid 1).lowE E V' R else (⟨[],R,0⟩:LE))=fun R=>if 1<t.len then (t.kid 1).lowE E V R else ⟨[],R,0⟩:=by
   funext R
   by_cases h0:1<t.len
   ·rw[if_pos h0,if_pos h0,r5 1 h0,ih 1 h0 (o3 1 h0)]
   ·rw[if_neg h0,if_neg h0]
  rw[e0,e1,r4]
  by_cases k2:t.kind=2
  ·unfold lowB
   rw[if_neg (show ¬ t.kind=1 by omega),if_pos k2,if_neg (show ¬ t.kind=1 by omega),if_pos k2]
   have e2:(if t.kind=2∧t.name=old then rnm else t.name)=if t.name=old then rnm else t.name:=by simp[k2]
   rw[e2,h.reg (o1 k2)]
  ·rw[if_neg (fun e=>k2 e.1)]
   unfold lowB
   by_cases k1:t.kind=1
   ·rw[if_pos k1,if_pos k1]
   ·rw[if_neg k1,if_neg k1,if_neg k2,if_neg k2]
def SameL(old:ByteArray)(s s':LS):Prop:=s'.done=s.done∧s'.code=s.code∧s'.regs=s.regs∧RelM old s.vars s'.vars
theorem loop_ren{old:ByteArray}{lim:Int}{d:Nat}{h:LE}{en en':VM→VM}{b b':LF}{k:Nat}{c:List Ins}{V V':VM}(hb:∀ k c R,SameL old (b k c R (en V)) (b' k c R (en' V'))):SameL old (loopL lim d h en b k c V) (loopL lim d h en' b' k c V'):=by
 obtain⟨h1,h2,h3,h4⟩:=hb (k+2) [insB 16 0 d 0 lim noB] h.regs
 unfold loopL
 dsimp only
 rw[h1,h2,h3]
 exact⟨rfl,rfl,rfl,h4⟩
theorem low_ren(E:LEnv){old:ByteArray}:∀ (t:Tree),(t.vld 98=true∨t.vld 115=true)→OkN old t→∀ (d k:Nat) (c:List Ins) (R:Nat) (V V':VM),RelM old V V'→SameL old (t.low E d k c R V) ((t.renR old).low E d k c R V'):=by
 intro t
 induction t using Tree.ind with
 | h t ih =>
  intro hv ho d k c R V V' hV
  obtain⟨r1,r2,r3,r4,r5⟩:=renR_parts old t
  obtain⟨o1,o2,o3⟩:=(OkN_eq t).1 ho
  rw[Tree.low_eq,Tree.low_eq,r1,r2,r3]
  have hk0:∀ i d,i<t.len→kidL E t i d=(t.kid i).low E d:=fun i d hi=>by unfold kidL;rw[if_pos hi]
  have hk1:∀ i d,i<t.len→kidL E (t.renR old) i d=((t.kid i).renR old).low E d:=fun i d hi=>by unfold kidL;rw[if_pos (by rw[r3];exact hi),r5 i hi]
  have he:∀ i V V' R,RelM old V V'→kidLE E (t.renR old) i V' R=kidLE E t i V R:=fun i V V' R hV=>by
   unfold kidLE
   rw[r3]
   by_cases hi:i<t.len
   ·rw[if_pos hi,if_pos hi,r5 i hi];exact lowE_ren E hV _ (o3 i hi) R
   ·rw[if_neg hi,if_neg hi]
  rcases hv with hv|hv
  ·obtain⟨hk,hkid⟩:=vldB hv
   rw[if_pos hk,if_pos hk]
   have key:∀ n,n≤t.len→SameL old (seqL (fun i=>kidL E t i d) k c R V n) (seqL (fun i=>kidL E (t.renR old) i d) k c R V' n):=by
    intro n
    induction n with
    | zero=>intro _;exact⟨rfl,rfl,rfl,hV⟩
    | succ n ihn =>
     intro hn
     have h1:=ihn (by omega)
     show SameL old ((seqL (fun i=>kidL E t i d) k c R V n).next k (kidL E t n d)) ((seqL (fun i=>kidL E (t.renR old) i d) k c R V' n).next k (kidL E (t.renR old) n d))
     obtain⟨q,hq⟩:∃ q,seqL (fun i=>kidL E t i d) k c R V n=q:=⟨_,rfl⟩
     obtain⟨q',hq'⟩:∃ q,seqL (fun i=>kidL E (t.renR old) i d) k c R V' n=q:=⟨_,rfl⟩
     rw[hq,hq'] at h1⊢
     obtain⟨a1,a2,a3,a4⟩:=h1
     rw[hk0 n d (by omega),hk1 n d (by omega)]
     have h2:=ih n (by omega) (.inr (hkid n (by omega))) (o3 n (by omega)) d (k+q.done.length) q.code q.regs q.vars q'.vars a4
     unfold LS.next
     rw[a1,a2,a3]
     obtain⟨b1,b2,b3,b4⟩:=h2
     refine⟨?_,b2,b3,b4⟩
     show q.done++_=q.done++_
     rw[b1]
   exact key t.len (Nat.le_refl _)
  ·obtain⟨⟨kk1,kk2⟩,_,hlen,hkid⟩:=vldS hv
   rw[if_neg (by omega),if_neg (by omega)]
   have hb:∀ i,i<t.len→(t.kid i).vld 98=true→∀ d k c R V V',RelM old V V'→SameL old (kidL E t i d k c R V) (kidL E (t.renR old) i d k c R V'):=fun i hi hvi d k c R V V' hV=>by
    rw[hk0 i d hi,hk1 i d hi]
    exact ih i hi (.inl hvi) (o3 i hi) d k c R V V' hV
   have hnm:¬ t.kind=2:=by omega
   rw[r4,if_neg (fun e=>hnm e.1)]
   obtain hk|hk|hk|hk|hk|hk|hk:t.kind=40∨t.kind=41∨t.kind=42∨t.kind=43∨t.kind=44∨t.kind=45∨t.kind=46:=by omega
   all_goals rw[hk] at hlen hkid
   ·have hlen:t.len=2:=hlen
    obtain⟨p1,p2,p3,p4,p5⟩:=renR_parts old (t.kid 0)
    obtain⟨q1,_,q3⟩:=(OkN_eq (t.kid 0)).1 (o3 0 (by omega))
    unfold lowS
    rw[if_pos hk,if_pos hk,r5 0 (by omega),p1]
    by_cases h2:(t.kid 0).kind=2
    ·rw[if_pos h2,if_pos h2,he 1 V V' R hV,p4]
     have e2:(if (t.kid 0).kind=2∧(t.kid 0).name=old then rnm else (t.kid 0).name)=if (t.kid 0).name=old then rnm else (t.kid 0).name:=by simp[h2]
     rw[e2,hV.reg (q1 h2)]
     exact⟨rfl,rfl,rfl,hV⟩
    ·rw[if_neg h2,if_neg h2]
     rcases vldP (hkid 0 (by omega)) with h3|⟨h3,h4,h5⟩
     ·exact absurd h3 h2
     have e3:((t.kid 0).renR old).name=(t.kid 0).name:=by rw[p4,if_neg (fun e=>h2 e.1)]
     have e4:(((t.kid 0).renR old).kid 0).lowE E V' R=((t.kid 0).kid 0).lowE E V R:=by rw[p5 0 (by omega)];exact lowE_ren E hV _ (q3 0 (by omega)) R
     rw[e3,e4]
     dsimp only
     rw[he 1 V V' _ hV]
     exact⟨rfl,rfl,rfl,hV⟩
   ·have hlen:t.len=3:=hlen
    unfold lowS
    rw[if_neg (by omega),if_pos hk,if_neg (by omega),if_pos hk,he 0 V V' R hV]
    unfold ifL
    dsimp only
    obtain⟨e,hee⟩:∃ e,kidLE E t 0 V R=e:=⟨_,rfl⟩
    rw[hee]
    have b1:=hb 1 (by omega) (hkid 1 (by omega)) d (k+1) [] e.regs V V' hV
    obtain⟨s1,hs1⟩:∃ s1,kidL E t 1 d (k+1) [] e.regs V=s1:=⟨_,rfl⟩
    obtain⟨z1,hz1⟩:∃ s1,kidL E (t.renR old) 1 d (k+1) [] e.regs V'=s1:=⟨_,rfl⟩
    rw[hs1,hz1] at b1
    rw[hs1,hz1]
    obtain⟨a1,a2,a3,a4⟩:=b1
    rw[a1,a2,a3]
    have b2:=hb 2 (by omega) (hkid 2 (by omega)) d (k+1+s1.done.length+1) [] s1.regs s1.vars z1.vars a4
    obtain⟨s2,hs2⟩:∃ s1',kidL E t 2 d (k+1+s1.done.length+1) [] s1.regs s1.vars=s1':=⟨_,rfl⟩
    obtain⟨z2,hz2⟩:∃ s1',kidL E (t.renR old) 2 d (k+1+s1.done.length+1) [] s1.regs z1.vars=s1':=⟨_,rfl⟩
    rw[hs2,hz2] at b2
    rw[hs2,hz2]
    obtain⟨c1,c2,c3,c4⟩:=b2
    rw[c1,c2,c3]
    exact⟨rfl,rfl,rfl,c4⟩
   ·have hlen:t.len=1:=hlen
    obtain⟨n1,n2⟩:=o2 hk
    unfold lowS
    rw[if_neg (by omega),if_neg (by omega),if_pos hk,if_neg (by omega),if_neg (by omega),if_pos hk]
    dsimp only
    obtain⟨a1,a2,a3,a4⟩:=loop_ren (lim:=t.num) (d:=d) (h:=forH t.num d R) (en:=fun V=>Go.Proofs.YtkpdngfkdmllkaaGreatDoor.upd V t.name (some R)) (en':=fun V=>Go.Proofs.YtkpdngfkdmllkaaGreatDoor.upd V t.name (some R)) (k:=k) (c:=c) (V:=V) (V':=V') (fun k c R'=>hb 0 (by omega) (hkid 0 (by omega)) (d+1) k c R' _ _ (hV.upd n1 n2 (some R)))
    exact⟨a1,a2,a3,a4.upd n1 n2 none⟩
   ·have hlen:t.len=2:=hlen
    unfold lowS
    rw[if_neg (by omega),if_neg (by omega),if_neg (by omega),if_pos hk,if_neg (by omega),if_neg (by omega),if_neg (by omega),if_pos hk,he 0 V V' R hV]
    exact loop_ren (fun k c R'=>hb 1 (by omega) (hkid 1 (by omega)) (d+1) k c R' _ _ hV)
   ·have hlen:t.len=1:=hlen
    obtain⟨p1,p2,p3,p4,p5⟩:=renR_parts old (t.kid 0)
    obtain⟨q1,_,q3⟩:=(OkN_eq (t.kid 0)).1 (o3 0 (by omega))
    unfold lowS
    rw[if_neg (show ¬ t.kind=40 by omega),if_neg (show ¬ t.kind=41 by omega),if_neg (show ¬ t.kind=42 by omega),if_neg (show ¬ t.kind=43 by omega),if_pos hk,if_neg (show ¬ t.kind=40 by omega),if_neg (show ¬ t.kind=41 by omega),if_neg (show ¬ t.kind=42 by omega),if_neg (show ¬ t.kind=43 by omega),if_pos hk,r5 0 (by omega),p1]
    by_cases h2:(t.kid 0).kind=2
    ·rw[if_pos h2,if_pos h2,p4]
     have e2:(if (t.kid 0).kind=2∧(t.kid 0).name=old then rnm else (t.kid 0).name)=if (t.kid 0).name=old then rnm else (t.kid 0).name:=by simp[h2]
     rw[e2,hV.reg (q1 h2)]
     exact⟨rfl,rfl,rfl,hV⟩
    ·rw[if_neg h2,if_neg h2]
     rcases vldP (hkid 0 (by omega)) with h3|⟨h3,h4,h5⟩
     ·exact absurd h3 h2
     have e3:((t.kid 0).renR old).name=(t.kid 0).name:=by rw[p4,if_neg (fun e=>h2 e.1)]
     have e4:(((t.kid 0).renR old).kid 0).lowE E V' R=((t.kid 0).kid 0).lowE E V R:=by rw[p5 0 (by omega)];exact lowE_ren E hV _ (q3 0 (by omega)) R
     rw[e3,e4]
     exact⟨rfl,rfl,rfl,hV⟩
   ·have hlen:t.len=1:=hlen
    unfold lowS
    rw[if_neg (by omega),if_neg (by omega),if_neg (by omega),if_neg (by omega),if_neg (by omega),if_pos hk,if_neg (by omega),if_neg (by omega),if_neg (by omega),if_neg (by omega),if_neg (by omega),if_pos hk,he 0 V V' R hV]
    exact⟨rfl,rfl,rfl,hV⟩
   ·have hlen:t.len=1:=hlen
    unfold lowS
    rw[if_neg (by omega),if_neg (by omega),if_neg (by omega),if_neg (by omega),if_neg (by omega),if_neg (by omega),if_pos hk,if_neg (by omega),if_neg (by omega),if_neg (by omega),if_neg (by omega),if_neg (by omega),if_neg (by omega),if_pos hk]
    dsimp only
    obtain⟨a1,a2,a3,a4⟩:=hb 0 (by omega) (hkid 0 (by omega)) d k (c++[insB 11 0 0 0 0 t.name]) R V V' hV
    rw[a2]
    exact⟨a1,rfl,a3,a4⟩
def renTsk(t:Tsk)(k:Nat):Tsk:=⟨t.name,t.period,t.vars.set k rnm,t.arrays,t.body.renR (t.vars.getD k ⟨#[]⟩)⟩
theorem varsM_ren{l:List ByteArray}{k:Nat}(hk:k<l.length)(hn:l.Nodup)(hr:rnm∉l):∀ j,j≤l.length→RelM (l.getD k ⟨#[]⟩) (varsM l j) (varsM (l.set k rnm) j):=by
 intro j
 have hold:l.getD k ⟨#[]⟩=l[k]:=by simp[hk]
 have hne:l[k]≠rnm:=fun e=>hr (e ▸ List.getElem_mem hk)
 induction j with
 | zero=>intro _ s hs;rfl
 | succ j ih =>
  intro hj s hs
  have h1:=ih (by omega) s hs
  have ej:l.getD j ⟨#[]⟩=l[j]'(by omega):=by simp[show j<l.length by omega]
  have ej':(l.set k rnm).getD j ⟨#[]⟩=if k=j then rnm else l[j]'(by omega):=by
   rw[List.getD_eq_getElem?_getD,List.getElem?_eq_getElem (by rw[List.length_set];omega),List.getElem_set]
   rfl
  unfold varsM
  rw[ej,ej']
  by_cases hkj:k=j
  ·subst hkj
   rw[if_pos rfl,hold]
   by_cases e:s=l[k]
   ·rw[if_pos e,upd_same,e,upd_same]
   ·rw[if_neg e,upd_other _ _ hs,upd_other _ _ e]
    rw[hold,if_neg e] at h1
    exact h1
  ·rw[if_neg hkj]
   have hj':l[j]'(by omega)≠rnm:=fun e=>hr (e ▸ List.getElem_mem _)
   have hjk:l[j]'(by omega)≠l[k]:=fun e=>hkj ((List.getElem_inj hn).1 e.symm)
   by_cases e:s=l[j]'(by omega)
   ·rw[hold,if_neg (by rw[e];exact hjk),e,upd_same,upd_same]
   ·rw[upd_other _ _ e,upd_other _ _ ?_]
    ·exact h1
    ·by_cases e2:s=l.getD k ⟨#[]⟩
     ·rw[if_pos e2];exact fun x=>hj' x.symm
     ·rw[if_neg e2];exact e
theorem lowFn_ren{p:Prg}{t:Tsk}{k:Nat}(ht:tskOk t=true)(hk:k<t.vars.length)(hf:taskF (p.shared.map (·.name)) t = [])(hf':taskF (p.shared.map (·.name)) (renTsk t k) = []):lowFn p.shared (renTsk t k)=lowFn p.shared t:=by
 obtain⟨old,hold⟩:∃ s,t.vars.getD k ⟨#[]⟩=s:=⟨_,rfl⟩
 have hold':t.vars[k]=old:=by rw[←hold];simp[hk]
 by_cases he:old=rnm
 ·have e1:renTsk t k=t:=by
   unfold renTsk
   rw[hold,he,renR_self]
   have e2:t.vars.set k rnm=t.vars:=by rw[←he,←hold'];exact List.set_getElem_self hk
   rw[e2]
  rw[e1]
 ·unfold taskF at hf hf'
  rw[List.append_eq_nil_iff] at hf hf'
  obtain⟨_,hnV⟩:=declV _ _ hf.1
  obtain⟨_,hnV'⟩:=declV _ _ hf'.1
  have hn:=(List.nodup_append.1 hnV).1
  have hn':(t.vars.set k rnm).Nodup:=(List.nodup_append.1 hnV').1
  have hr:rnm∉t.vars:=by
   intro hm
   obtain⟨i,hi,e⟩:=List.mem_iff_getElem.1 hm
   have hik:i≠k:=by rintro rfl;exact he (hold'.symm.trans e)
   have e1:(t.vars.set k rnm)[i]'(by rw[List.length_set];exact hi)=rnm:=by rw[List.getElem_set,if_neg (Ne.symm hik)];exact e
   have e2:(t.vars.set k rnm)[k]'(by rw[List.length_set];exact hk)=rnm:=by rw[List.getElem_set,if_pos rfl]
   exact hik ((List.getElem_inj hn').1 (e1.trans e2.symm))
  have hb:=tskOk_body ht
  have hmem:∀ s,s∈t.vars→memB t.vars s=true:=fun s h=>memB_iff.2 h
  have hno:OkN old t.body:=by
   have h5:=hf'.2
   unfold renTsk at h5
   rw[hold] at h5
   refine okN_of (D:=⟨p.shared.map (·.name),t.vars,t.arrays.map (·.name)⟩) (D':=⟨p.shared.map (·.name),t.vars.set k rnm,t.arrays.map (·.name)⟩) ?_ ?_ ?_ t.body _ _ _ _ _ _ _ _ hf.2 h5 rfl
   ·by_cases h:memB t.vars rnm=true
    ·exact absurd (memB_iff.1 h) hr
    ·simpa using h
   ·exact memB_iff.2 (hold' ▸ List.getElem_mem hk)
   ·refine memB_iff.2 (List.mem_iff_getElem.2 ⟨k,by rw[List.length_set];exact hk,?_⟩)
    rw[List.getElem_set,if_pos rfl]
  have hrel:=varsM_ren hk hn hr t.vars.length (Nat.le_refl _)
  rw[hold] at hrel
  have h9:=low_ren (envOf p.shared t.arrays) t.body (.inl hb) hno 0 0 [] t.vars.length _ _ hrel
  obtain⟨a1,a2,a3,_⟩:=h9
  unfold lowFn renTsk lowS0
  simp only[hold,List.length_set]
  rw[a1,a2,a3]
theorem node_infoR:(Tryz.prog.info? 47).map (fun i=>(i.zero,i.size,i.bytes))=some (some (.agg #[.int .u8 0,.int .i64 0,.string ⟨#[]⟩,.slice none 0 0]),4,56):=by kernel_rfl
theorem str_neR{a b:ByteArray}(h:a≠b):(a.toList == b.toList)=false:=by
 rw[beq_eq_false_iff_ne]
 intro e
 rw[ByteArray.toList_eq,ByteArray.toList_eq] at e
 exact h (ByteArray.ext (Array.toList_inj.1 e))
theorem renR_fits{old:ByteArray}{t:Tree}(h:t.Fits):(t.renR old).Fits:=by
 obtain⟨h1,h2,h3,h4,_⟩:=renR_parts old t
 refine⟨by rw[h1];exact h.kind,by rw[h2];exact h.num,?_,by rw[h3];exact h.len⟩
 rw[h4]
 split
 ·show (7:Nat)≤_;omega
 ·exact h.name
def RenOf(t:Tree)(w:World)(e:Ending)(w':World):Prop:=∃ a c,e = .returned (t.val a c)∧RepIn (fun k=>w.heap.size≤k) w' t a∧Below w.heap.size w w'
theorem renamed_any(old:ByteArray):∀ (t:Tree) (w:World) (a:Option Addr) (c:Nat),Rep w t a→t.size≤1000000 →
 Calls Tryz.prog 13 #[t.val a c,.string old] w (RenOf (t.renR old) w):=by
 intro t
 induction t using Tree.ind with
 | h t ih =>
  intro w a c hr hs
  obtain⟨i0,hi,hz0,hz1,hz2⟩:=info_parts node_infoR
  have IH:=ξ ih
  have HFIT:=ξ hr.fits
  have HR:=ξ hr
  have hl:=hr.fits.len
  have hls:t.len≤1000000:=by
   have:=Tree.size_eq t
   have h2:∀ (f:Nat→Nat) (n:Nat),(∀ i,1≤f i)→n≤Tree.sumTo f n:=by
    intro f n hf
    induction n with
    | zero=>exact Nat.zero_le _
    | succ n ihn=>rw[Tree.sumTo_succ];have:=hf n;omega
   have:=h2 (fun i=>(t.kid i).size) t.len (fun i=>Tree.size_pos _)
   omega
  have HSZ:Hid (∀ j,j<t.len→(t.kid j).size≤1000000):=fun j hj=>by have:=Tree.size_kid hj;omega
  have HE:=ξ (renR_parts old t)
  clear ih hr hs
  obtain⟨W1,hW1⟩:∃ W:World,w.alloc (nodeObj (.int .u8 t.kind) (.int .i64 t.num) (.string t.name) (.slice a t.len c))=W:=⟨_,rfl⟩
  obtain⟨W2,hW2⟩:∃ W:World,W1.alloc zNode=W:=⟨_,rfl⟩
  have b1:Below w.heap.size w W1:=by rw[←hW1];exact mem_alloc _ _
  have b2:Below W1.heap.size W1 W2:=by rw[←hW2];exact mem_alloc _ _
  have HLT:Hid (w.heap.size<W1.heap.size∧W1.heap.size<W2.heap.size):=by
   refine⟨?_,?_⟩
   ·rw[←hW1];simp
   ·rw[←hW2];simp
  have HX1:Hid (W2.heap[w.heap.size]? = some (nodeObj (.int .u8 t.kind) (.int .i64 t.num) (.string t.name) (.slice a t.len c))):=mem_keep (by rw[←hW1];exact mem_new _ _) b2
  have HX2:Hid (W2.heap[W1.heap.size]? = some zNode):=by show _=_;rw[←hW2];exact mem_new _ _
  have HB2:Hid (Below w.heap.size w W2):=mem_then b1 b2
  obtain⟨x0,x1,x2,x3⟩:=node_cells HX1.out
  have HL:Hid (∀ j:Nat,j<t.len→((kidsL t).map (Tree.renR old)).take (j+1)=((kidsL t).map (Tree.renR old)).take j++[(t.kid j).renR old]):=fun j hj=>by
   rw[List.take_add_one]
   congr 1
   unfold kidsL
   simp[hj]
  have HLL:Hid (∀ j:Nat,j≤t.len→(((kidsL t).map (Tree.renR old)).take j).length=j):=fun j hj=>by
   rw[List.length_take,List.length_map,kidsL_len];omega
  clear b1 b2
  go_enter Tryz.func13,Tryz.ntmps13
  by_cases hh:t.kind=2∧t.name=old
  ·have hk:(t.kind == 2)=true:=by simp[hh.1]
   have hnd:(t.name.toList == old.toList)=true:=by rw[hh.2];simp
   have HNM:Hid ((t.renR old).name=rnm):=by show _=_;rw[HE.out.2.2.2.1,if_pos hh]
   have hrn:rnm=⟨#[114,101,110,97,109,101,100]⟩:=rfl
   obtain⟨W3,hW3⟩:∃ W:World,W2.setCell ⟨w.heap.size,2,none⟩ (.string ⟨#[114,101,110,97,109,101,100]⟩)=W:=⟨_,rfl⟩
   have HX3:Hid (W3.heap[w.heap.size]? = some (nodeObj (.int .u8 t.kind) (.int .i64 t.num) (.string rnm) (.slice a t.len c))):=by show _=_;rw[←hW3,mem_set HX1.out];rfl
   have HZ3:Hid (W3.heap[W1.heap.size]? = some zNode):=by show _=_;rw[←hW3,Below.heap_setCell _ _ _ _ (by show W1.heap.size≠w.heap.size;have:=HLT.out;omega)];exact HX2.out
   have HB3:Hid (Below w.heap.size w W3):=by show Below _ _ _;rw[←hW3];exact HB2.out.setCell (p:=⟨w.heap.size,2,none⟩) (Nat.le_refl _) _
   have HLT3:Hid (W1.heap.size<W3.heap.size):=mem_lt HZ3.out
   have f2:=mem_free HX1.out 2
   obtain⟨y0,y1,y2,y3⟩:=node_cells HX3.out
   obtain⟨nm,hnm⟩:∃ s,rnm=s:=⟨_,rfl⟩
   rw[hnm] at HX3 HNM y2
   clear hh hrn hnm
   go_wp2_with fail
   clear x0 x1 x2 x3 y0 y1 y2 y3 f2 hW1 hW2 hW3
   go_loopw [5,21] (fun v iv wr=>∃ (j:Nat) (va:Option Addr) (vc:Nat) (x:Nat→Option Addr×Nat),j≤t.len∧v = .slice va j vc∧iv = .int .i64 (j:Int)∧(wr.heap[w.heap.size]? = some (nodeObj (.int .u8 t.kind) (.int .i64 t.num) (.string nm) (.slice a t.len c))∧wr.heap[W1.heap.size]? = some zNode)∧NRow W3.heap.size (fun k=>W3.heap.size≤k) wr (.slice va j vc) (((kidsL t).map (Tree.renR old)).take j) x∧Below w.heap.size w wr∧W3.heap.size≤wr.heap.size) (fun _ iv _=>t.len-(intOf iv).toNat)
   case atStart=>exact⟨0,none,0,_,Nat.zero_le _,rfl,rfl,⟨HX3.out,HZ3.out⟩,by rw[List.take_zero];exact NRow.nil,HB3.out,Nat.le_refl _⟩
   case round =>
    obtain⟨j,va,vc,x,hj,rfl,rfl,hbx,hrow,hB,hsz⟩:=hrel
    have HBX:=ξ hbx
    have HROW:=ξ hrow
    have HB:=ξ hB
    have HWS:=ξ hsz
    have hj0:(0:Int)≤(j:Int):=by omega
    have hro:=hrow.ro
    rw[HLL.out j hj] at hro
    have HRO:=ξ hro
    clear hbx hrow hB hsz hro
    by_cases hlt:j<t.len
    ·have hlt2:(j:Int)<(t.len:Int):=by omega
     obtain⟨b,off,rfl,hkk⟩:=HR.out.kids.resolve_left (by omega)
     obtain⟨ai,ci,hnode,hkr⟩:=hkk j hlt
     have hnb:=hnode.lt
     obtain⟨n0,n1,n2,n3⟩:=hnode.below HB.out hnb
     have HKR:=ξ (hkr.below HB.out)
     obtain⟨V,hV⟩:∃ V:World,wr.alloc (nodeObj (.int .u8 (t.kid j).kind) (.int .i64 (t.kid j).num) (.string (t.kid j).name) (.slice ai (t.kid j).len ci))=V:=⟨_,rfl⟩
     have hBV:Below wr.heap.size wr V:=by rw[←hV];exact mem_alloc _ _
     have hXV:V.heap[wr.heap.size]? = some (nodeObj (.int .u8 (t.kid j).kind) (.int .i64 (t.kid j).num) (.string (t.kid j).name) (.slice ai (t.kid j).len ci)):=by rw[←hV];exact mem_new _ _
     obtain⟨q0,q1,q2,q3⟩:=node_cells hXV
     have HBV:=ξ hBV
     have HIH:=ξ (IH.out j hlt V ai ci (HKR.out.below hBV) (HSZ.out j hlt))
     clear hkk hnode hkr hBV hXV
     go_wp2_with fail
     clear n0 n1 n2 n3 q0 q1 q2 q3 hV
     refine HIH.out.mono ?_
     rintro e w5 ⟨a5,c5,rfl,hr5,hB5⟩
     have HB5:=ξ (mem_then HBV.out hB5)
     have HR5:=ξ hr5
     have HV1:Hid (wr.heap.size≤V.heap.size):=HBV.out.size
     obtain⟨E,hE⟩:∃ E,(t.kid j).renR old=E:=⟨_,rfl⟩
     have HEE:=ξ hE
     rw[hE] at HR5⊢
     clear hr5 hB5 HIH hE
     go_wp2_with (at_builtin;refine wpList_append_src _ rfl (.tmp 25) (.tmp 29) 45 rfl W3.heap.size 47 i0 _ 4 56 Tryz.underlying45 hi hz0 hz1 hz2 rfl (by decide) (.slice va j vc) j _ rfl (own_below HRO.out (mem_then HB5.out (mem_alloc _ _))) (some ⟨w5.heap.size,0,none⟩) 1 1 (E.row (a5,c5)) rfl (one_src (cs:=[.int .u8 E.kind,.int .i64 E.num,.string E.name,.slice a5 E.len c5]) (n:=1) (mem_new _ _) rfl) (by intro u hu;simp[Tree.row] at hu;rcases hu with rfl | rfl | rfl | rfl <;> rfl) (by unfold maxLen;omega) (by omega) (Nat.le_trans HWS.out (mem_then HB5.out (mem_alloc _ _)).size) ?_)
     intro r9 w9 hown hgrow hplace
     obtain⟨ra9,rc9,rfl⟩:=own_val hown
     have hB6:Below wr.heap.size wr (w5.alloc (.cells #[.int .u8 E.kind,.int .i64 E.num,.string E.name,.slice a5 E.len c5] 47)):=mem_then HB5.out (mem_alloc _ _)
     have HNF:Hid (NRow W3.heap.size (fun k=>W3.heap.size≤k) w9 (.slice ra9 (j+1) rc9) (((kidsL t).map (Tree.renR old)).take (j+1)) (fun i=>if i<(((kidsL t).map (Tree.renR old)).take j).length then x i else (a5,c5))):=by
      show NRow _ _ _ _ _ _
      rw[HL.out j hlt,HEE.out]
      refine HROW.out.push hB6 (m:=[E]) (y:=fun _=>(a5,c5)) (fun i hi=>?_) hgrow (hplace.imp id (fun h=>h.trans (by simp))) ?_
      ·have hi1:i<1:=hi
       obtain rfl:i=0:=by omega
       refine (RepIn.move (S':=fun k=>V.heap.size≤k) (fun k _ hk=>(mem_alloc w5 _).block k hk) (fun k hk _=>hk) HR5.out).mono (fun k hk=>⟨by have:=HWS.out;have:=HV1.out;omega,fun e=>?_⟩)
       have h1:=(own_lt HRO.out e).2
       have h2:=HV1.out
       omega
      ·rw[HLL.out j hj]
       exact hown
     have HXF:Hid (w9.heap[w.heap.size]? = some (nodeObj (.int .u8 t.kind) (.int .i64 t.num) (.string nm) (.slice (some ⟨b,off,none⟩) t.len c))∧w9.heap[W1.heap.size]? = some zNode):=by
      have keep9:∀ (k:Nat) o,wr.heap[k]? = some o→k<W3.heap.size→w9.heap[k]? = some o:=fun k o hk hlt=>by
       have h1:=mem_keep hk hB6
       exact (hgrow.block k (mem_lt h1) (fun e=>by have:=(own_lt (own_below HRO.out hB6) e.symm).1;omega)).trans h1
      have h1:=HLT.out
      have h3:=HLT3.out
      exact⟨keep9 _ _ HBX.out.1 (by omega),keep9 _ _ HBX.out.2 (by omega)⟩
     have HBF:Hid (Below w.heap.size w w9):=(mem_then HB.out hB6).grown hgrow (mem_then HB.out hB6).size (fun b hb=>by have:=(own_lt (own_below HRO.out hB6) hb).1;have:=HB3.out.size;omega)
     have HSF:Hid (W3.heap.size≤w9.heap.size):=by have h1:=HWS.out;have h2:=hB6.size;have h3:=hgrow.size;show _≤_;omega
     clear hown hgrow hplace hB6
     go_wp2_with fail
     go_roundw
     case rel=>exact⟨j+1,ra9,rc9,_,by omega,rfl,by go_num,HXF.out,HNF.out,HBF.out,HSF.out⟩
     case measure=>simp[intOf];omega
    ·obtain rfl:j=t.len:=by omega
     obtain⟨X,hX⟩:∃ X:World,wr.setCell ⟨w.heap.size,3,none⟩ (.slice va t.len vc)=X:=⟨_,rfl⟩
     have hXB:X.heap[w.heap.size]? = some (nodeObj (.int .u8 t.kind) (.int .i64 t.num) (.string nm) (.slice va t.len vc)):=by rw[←hX,mem_set HBX.out.1];rfl
     have hXZ:X.heap[W1.heap.size]? = some zNode:=by rw[←hX,Below.heap_setCell _ _ _ _ (by show W1.heap.size≠w.heap.size;have:=HLT.out;omega)];exact HBX.out.2
     have e3:=mem_free HBX.out.1 3
     have e3c:=(node_cells HBX.out.1).2.2.2
     obtain⟨y0,y1,y2,y3⟩:=node_cells hXB
     obtain⟨z0,z1,z2,z3⟩:=node_cells hXZ
     have f0:=mem_free hXZ 0
     have f1:=mem_free hXZ 1
     have f2:=mem_free hXZ 2
     have f3:=mem_free hXZ 3
     obtain⟨F,hF⟩:∃ F:World,set4 X W1.heap.size (.int .u8 t.kind) (.int .i64 t.num) (.string nm) (.slice va t.len vc)=F:=⟨_,rfl⟩
     have HF:Hid (F.heap[W1.heap.size]? = some (nodeObj (.int .u8 t.kind) (.int .i64 t.num) (.string nm) (.slice va t.len vc))):=by show _=_;rw[←hF];exact set4_at hXZ
     have HBF:Hid (Below w.heap.size w F):=by show Below _ _ _;rw[←hF,←hX];exact set4_below (HB.out.setCell (p:=⟨w.heap.size,3,none⟩) (Nat.le_refl _) _) (by have:=HLT.out;omega)
     have HFAR:Hid (∀ k,k≠W1.heap.size→k≠w.heap.size→F.heap[k]? = wr.heap[k]?):=fun k hk hk2=>by rw[←hF,set4_far hk,←hX,Below.heap_setCell _ _ _ _ hk2]
     obtain⟨p0,p1,p2,p3⟩:=node_cells HF.out
     unfold set4 at hF
     clear hXB hXZ
     go_wp2_with fail
     refine bodyPost_ret (v:=.agg #[.int .u8 t.kind,.int .i64 t.num,.string nm,.slice va t.len vc]) (by simp[results,Tryz.results13,go_sem,p0,p1,p2,p3]) rfl ?_
     obtain⟨e1,e2,e4,_,e5⟩:=HE.out
     have hl3:=HLT3.out
     have hl12:=HLT.out
     refine⟨va,vc,by show _=Ending.returned (.agg #[.int .u8 (t.renR old).kind,.int .i64 (t.renR old).num,.string (t.renR old).name,.slice va (t.renR old).len vc]);rw[e1,e2,HNM.out,e4],?_,HBF.out⟩
     have htk:((kidsL t).map (Tree.renR old)).take t.len=(kidsL t).map (Tree.renR old):=List.take_of_length_le (by rw[List.length_map,kidsL_len];exact Nat.le_refl _)
     have hrow:=HROW.out
     rw[htk] at hrow
     have hrF:NRow W3.heap.size (fun k=>W3.heap.size≤k) F (.slice va t.len vc) ((kidsL t).map (Tree.renR old)) x:=⟨own_keep hrow.ro (fun k hk _=>HFAR.out k (by have:=(own_lt HRO.out hk).1;omega) (by have:=(own_lt HRO.out hk).1;omega)),fun i hi=>(hrow.reps i hi).move (fun k hk _=>HFAR.out k (by have:=hk.1;omega) (by have:=hk.1;omega)) (fun k hk _=>hk)⟩
     refine RepIn.mk (renR_fits HFIT.out) ?_
     by_cases h0:t.len=0
     ·exact .inl (by rw[e4];exact h0)
     ·have hlen:((kidsL t).map (Tree.renR old)).length=t.len:=by rw[List.length_map,kidsL_len]
      obtain⟨g,hva,hg,_⟩:=hrF.at_ (i:=0) (by omega)
      refine .inr ⟨g,0,hva,by have:=HB3.out.size;omega,fun i hi=>?_⟩
      rw[e4] at hi
      obtain⟨g',hva',_,hnd⟩:=hrF.at_ (i:=i) (by omega)
      rw[hva] at hva'
      cases hva'
      have hget:((kidsL t).map (Tree.renR old)).getD i noT=(t.renR old).kid i:=by
       rw[e5 i hi]
       unfold kidsL
       simp[List.getD_eq_getElem?_getD,hi]
      have hrep:=hrF.reps i (by omega)
      rw[hget] at hnd hrep
      exact⟨_,_,hnd,hrep.mono (fun k hk=>by have:=HB3.out.size;have:=hk.1;omega)⟩
  ·have HNM:Hid ((t.renR old).name=t.name):=by show _=_;rw[HE.out.2.2.2.1,if_neg hh]
   have hcond:((t.kind == 2)=true∧(t.name.toList == old.toList)=false)∨(t.kind == 2)=false:=by
    by_cases h2:t.kind=2
    ·exact .inl ⟨by simp[h2],str_neR (fun e=>hh ⟨h2,e⟩)⟩
    ·exact .inr (by rw[beq_eq_false_iff_ne];exact h2)
   rcases hcond with⟨hk,hnd⟩|hk
   ·clear hh
    go_wp2_with fail
    clear x0 x1 x2 x3 hW1 hW2
    obtain⟨nm,hnm⟩:∃ s,t.name=s:=⟨_,rfl⟩
    rw[hnm] at HX1 HNM
    clear hnm
    obtain⟨W3,hW3⟩:∃ W:World,W=W2:=⟨_,rfl⟩
    have HX3:Hid (W3.heap[w.heap.size]? = some (nodeObj (.int .u8 t.kind) (.int .i64 t.num) (.string nm) (.slice a t.len c))):=by show _=_;rw[hW3];exact HX1.out
    have HZ3:Hid (W3.heap[W1.heap.size]? = some zNode):=by show _=_;rw[hW3];exact HX2.out
    have HB3:Hid (Below w.heap.size w W3):=by show Below _ _ _;rw[hW3];exact HB2.out
    have HLT3:Hid (W1.heap.size<W3.heap.size):=mem_lt HZ3.out
    subst hW3
    go_loopw [5,21] (fun v iv wr=>∃ (j:Nat) (va:Option Addr) (vc:Nat) (x:Nat→Option Addr×Nat),j≤t.len∧v = .slice va j vc∧iv = .int .i64 (j:Int)∧(wr.heap[w.heap.size]? = some (nodeObj (.int .u8 t.kind) (.int .i64 t.num) (.string nm) (.slice a t.len c))∧wr.heap[W1.heap.size]? = some zNode)∧NRow W3.heap.size (fun k=>W3.heap.size≤k) wr (.slice va j vc) (((kidsL t).map (Tree.renR old)).take j) x∧Below w.heap.size w wr∧W3.heap.size≤wr.heap.size) (fun _ iv _=>t.len-(intOf iv).toNat)
    case atStart=>exact⟨0,none,0,_,Nat.zero_le _,rfl,rfl,⟨HX3.out,HZ3.out⟩,by rw[List.take_zero];exact NRow.nil,HB3.out,Nat.le_refl _⟩
    case round =>
     obtain⟨j,va,vc,x,hj,rfl,rfl,hbx,hrow,hB,hsz⟩:=hrel
     have HBX:=ξ hbx
     have HROW:=ξ hrow
     have HB:=ξ hB
     have HWS:=ξ hsz
     have hj0:(0:Int)≤(j:Int):=by omega
     have hro:=hrow.ro
     rw[HLL.out j hj] at hro
     have HRO:=ξ hro
     clear hbx hrow hB hsz hro
     by_cases hlt:j<t.len
     ·have hlt2:(j:Int)<(t.len:Int):=by omega
      obtain⟨b,off,rfl,hkk⟩:=HR.out.kids.resolve_left (by omega)
      obtain⟨ai,ci,hnode,hkr⟩:=hkk j hlt
      have hnb:=hnode.lt
      obtain⟨n0,n1,n2,n3⟩:=hnode.below HB.out hnb
      have HKR:=ξ (hkr.below HB.out)
      obtain⟨V,hV⟩:∃ V:World,wr.alloc (nodeObj (.int .u8 (t.kid j).kind) (.int .i64 (t.kid j).num) (.string (t.kid j).name) (.slice ai (t.kid j).len ci))=V:=⟨_,rfl⟩
      have hBV:Below wr.heap.size wr V:=by rw[←hV];exact mem_alloc _ _
      have hXV:V.heap[wr.heap.size]? = some (nodeObj (.int .u8 (t.kid j).kind) (.int .i64 (t.kid j).num) (.string (t.kid j).name) (.slice ai (t.kid j).len ci)):=by rw[←hV];exact mem_new _ _
      obtain⟨q0,q1,q2,q3⟩:=node_cells hXV
      have HBV:=ξ hBV
      have HIH:=ξ (IH.out j hlt V ai ci (HKR.out.below hBV) (HSZ.out j hlt))
      clear hkk hnode hkr hBV hXV
      go_wp2_with fail
      clear n0 n1 n2 n3 q0 q1 q2 q3 hV
      refine HIH.out.mono ?_
      rintro e w5 ⟨a5,c5,rfl,hr5,hB5⟩
      have HB5:=ξ (mem_then HBV.out hB5)
      have HR5:=ξ hr5
      have HV1:Hid (wr.heap.size≤V.heap.size):=HBV.out.size
      obtain⟨E,hE⟩:∃ E,(t.kid j).renR old=E:=⟨_,rfl⟩
      have HEE:=ξ hE
      rw[hE] at HR5⊢
      clear hr5 hB5 HIH hE
      go_wp2_with (at_builtin;refine wpList_append_src _ rfl (.tmp 25) (.tmp 29) 45 rfl W3.heap.size 47 i0 _ 4 56 Tryz.underlying45 hi hz0 hz1 hz2 rfl (by decide) (.slice va j vc) j _ rfl (own_below HRO.out (mem_then HB5.out (mem_alloc _ _))) (some ⟨w5.heap.size,0,none⟩) 1 1 (E.row (a5,c5)) rfl (one_src (cs:=[.int .u8 E.kind,.int .i64 E.num,.string E.name,.slice a5 E.len c5]) (n:=1) (mem_new _ _) rfl) (by intro u hu;simp[Tree.row] at hu;rcases hu with rfl | rfl | rfl | rfl <;> rfl) (by unfold maxLen;omega) (by omega) (Nat.le_trans HWS.out (mem_then HB5.out (mem_alloc _ _)).size) ?_)
      intro r9 w9 hown hgrow hplace
      obtain⟨ra9,rc9,rfl⟩:=own_val hown
      have hB6:Below wr.heap.size wr (w5.alloc (.cells #[.int .u8 E.kind,.int .i64 E.num,.string E.name,.slice a5 E.len c5] 47)):=mem_then HB5.out (mem_alloc _ _)
      have HNF:Hid (NRow W3.heap.size (fun k=>W3.heap.size≤k) w9 (.slice ra9 (j+1) rc9) (((kidsL t).map (Tree.renR old)).take (j+1)) (fun i=>if i<(((kidsL t).map (Tree.renR old)).take j).length then x i else (a5,c5))):=by
       show NRow _ _ _ _ _ _
       rw[HL.out j hlt,HEE.out]
       refine HROW.out.push hB6 (m:=[E]) (y:=fun _=>(a5,c5)) (fun i hi=>?_) hgrow (hplace.imp id (fun h=>h.trans (by simp))) ?_
       ·have hi1:i<1:=hi
        obtain rfl:i=0:=by omega
        refine (RepIn.move (S':=fun k=>V.heap.size≤k) (fun k _ hk=>(mem_alloc w5 _).block k hk) (fun k hk _=>hk) HR5.out).mono (fun k hk=>⟨by have:=HWS.out;have:=HV1.out;omega,fun e=>?_⟩)
        have h1:=(own_lt HRO.out e).2
        have h2:=HV1.out
        omega
       ·rw[HLL.out j hj]
        exact hown
      have HXF:Hid (w9.heap[w.heap.size]? = some (nodeObj (.int .u8 t.kind) (.int .i64 t.num) (.string nm) (.slice (some ⟨b,off,none⟩) t.len c))∧w9.heap[W1.heap.size]? = some zNode):=by
       have keep9:∀ (k:Nat) o,wr.heap[k]? = some o→k<W3.heap.size→w9.heap[k]? = some o:=fun k o hk hlt=>by
        have h1:=mem_keep hk hB6
        exact (hgrow.block k (mem_lt h1) (fun e=>by have:=(own_lt (own_below HRO.out hB6) e.symm).1;omega)).trans h1
       have h1:=HLT.out
       have h3:=HLT3.out
       exact⟨keep9 _ _ HBX.out.1 (by omega),keep9 _ _ HBX.out.2 (by omega)⟩
      have HBF:Hid (Below w.heap.size w w9):=(mem_then HB.out hB6).grown hgrow (mem_then HB.out hB6).size (fun b hb=>by have:=(own_lt (own_below HRO.out hB6) hb).1;have:=HB3.out.size;omega)
      have HSF:Hid (W3.heap.size≤w9.heap.size):=by have h1:=HWS.out;have h2:=hB6.size;have h3:=hgrow.size;show _≤_;omega
      clear hown hgrow hplace hB6
      go_wp2_with fail
      go_roundw
      case rel=>exact⟨j+1,ra9,rc9,_,by omega,rfl,by go_num,HXF.out,HNF.out,HBF.out,HSF.out⟩
      case measure=>simp[intOf];omega
     ·obtain rfl:j=t.len:=by omega
      obtain⟨X,hX⟩:∃ X:World,wr.setCell ⟨w.heap.size,3,none⟩ (.slice va t.len vc)=X:=⟨_,rfl⟩
      have hXB:X.heap[w.heap.size]? = some (nodeObj (.int .u8 t.kind) (.int .i64 t.num) (.string nm) (.slice va t.len vc)):=by rw[←hX,mem_set HBX.out.1];rfl
      have hXZ:X.heap[W1.heap.size]? = some zNode:=by rw[←hX,Below.heap_setCell _ _ _ _ (by show W1.heap.size≠w.heap.size;have:=HLT.out;omega)];exact HBX.out.2
      have e3:=mem_free HBX.out.1 3
      have e3c:=(node_cells HBX.out.1).2.2.2
      obtain⟨y0,y1,y2,y3⟩:=node_cells hXB
      obtain⟨z0,z1,z2,z3⟩:=node_cells hXZ
      have f0:=mem_free hXZ 0
      have f1:=mem_free hXZ 1
      have f2:=mem_free hXZ 2
      have f3:=mem_free hXZ 3
      obtain⟨F,hF⟩:∃ F:World,set4 X W1.heap.size (.int .u8 t.kind) (.int .i64 t.num) (.string nm) (.slice va t.len vc)=F:=⟨_,rfl⟩
      have HF:Hid (F.heap[W1.heap.size]? = some (nodeObj (.int .u8 t.kind) (.int .i64 t.num) (.string nm) (.slice va t.len vc))):=by show _=_;rw[←hF];exact set4_at hXZ
      have HBF:Hid (Below w.heap.size w F):=by show Below _ _ _;rw[←hF,←hX];exact set4_below (HB.out.setCell (p:=⟨w.heap.size,3,none⟩) (Nat.le_refl _) _) (by have:=HLT.out;omega)
      have HFAR:Hid (∀ k,k≠W1.heap.size→k≠w.heap.size→F.heap[k]? = wr.heap[k]?):=fun k hk hk2=>by rw[←hF,set4_far hk,←hX,Below.heap_setCell _ _ _ _ hk2]
      obtain⟨p0,p1,p2,p3⟩:=node_cells HF.out
      unfold set4 at hF
      clear hXB hXZ
      go_wp2_with fail
      refine bodyPost_ret (v:=.agg #[.int .u8 t.kind,.int .i64 t.num,.string nm,.slice va t.len vc]) (by simp[results,Tryz.results13,go_sem,p0,p1,p2,p3]) rfl ?_
      obtain⟨e1,e2,e4,_,e5⟩:=HE.out
      have hl3:=HLT3.out
      have hl12:=HLT.out
      refine⟨va,vc,by show _=Ending.returned (.agg #[.int .u8 (t.renR old).kind,.int .i64 (t.renR old).num,.string (t.renR old).name,.slice va (t.renR old).len vc]);rw[e1,e2,HNM.out,e4],?_,HBF.out⟩
      have htk:((kidsL t).map (Tree.renR old)).take t.len=(kidsL t).map (Tree.renR old):=List.take_of_length_le (by rw[List.length_map,kidsL_len];exact Nat.le_refl _)
      have hrow:=HROW.out
      rw[htk] at hrow
      have hrF:NRow W3.heap.size (fun k=>W3.heap.size≤k) F (.slice va t.len vc) ((kidsL t).map (Tree.renR old)) x:=⟨own_keep hrow.ro (fun k hk _=>HFAR.out k (by have:=(own_lt HRO.out hk).1;omega) (by have:=(own_lt HRO.out hk).1;omega)),fun i hi=>(hrow.reps i hi).move (fun k hk _=>HFAR.out k (by have:=hk.1;omega) (by have:=hk.1;omega)) (fun k hk _=>hk)⟩
      refine RepIn.mk (renR_fits HFIT.out) ?_
      by_cases h0:t.len=0
      ·exact .inl (by rw[e4];exact h0)
      ·have hlen:((kidsL t).map (Tree.renR old)).length=t.len:=by rw[List.length_map,kidsL_len]
       obtain⟨g,hva,hg,_⟩:=hrF.at_ (i:=0) (by omega)
       refine .inr ⟨g,0,hva,by have:=HB3.out.size;omega,fun i hi=>?_⟩
       rw[e4] at hi
       obtain⟨g',hva',_,hnd⟩:=hrF.at_ (i:=i) (by omega)
       rw[hva] at hva'
       cases hva'
       have hget:((kidsL t).map (Tree.renR old)).getD i noT=(t.renR old).kid i:=by
        rw[e5 i hi]
        unfold kidsL
        simp[List.getD_eq_getElem?_getD,hi]
       have hrep:=hrF.reps i (by omega)
       rw[hget] at hnd hrep
       exact⟨_,_,hnd,hrep.mono (fun k hk=>by have:=HB3.out.size;have:=hk.1;omega)⟩
   ·clear hh
    go_wp2_with fail
    clear x0 x1 x2 x3 hW1 hW2
    obtain⟨nm,hnm⟩:∃ s,t.name=s:=⟨_,rfl⟩
    rw[hnm] at HX1 HNM
    clear hnm
    obtain⟨W3,hW3⟩:∃ W:World,W=W2:=⟨_,rfl⟩
    have HX3:Hid (W3.heap[w.heap.size]? = some (nodeObj (.int .u8 t.kind) (.int .i64 t.num) (.string nm) (.slice a t.len c))):=by show _=_;rw[hW3];exact HX1.out
    have HZ3:Hid (W3.heap[W1.heap.size]? = some zNode):=by show _=_;rw[hW3];exact HX2.out
    have HB3:Hid (Below w.heap.size w W3):=by show Below _ _ _;rw[hW3];exact HB2.out
    have HLT3:Hid (W1.heap.size<W3.heap.size):=mem_lt HZ3.out
    subst hW3
    go_loopw [5,21] (fun v iv wr=>∃ (j:Nat) (va:Option Addr) (vc:Nat) (x:Nat→Option Addr×Nat),j≤t.len∧v = .slice va j vc∧iv = .int .i64 (j:Int)∧(wr.heap[w.heap.size]? = some (nodeObj (.int .u8 t.kind) (.int .i64 t.num) (.string nm) (.slice a t.len c))∧wr.heap[W1.heap.size]? = some zNode)∧NRow W3.heap.size (fun k=>W3.heap.size≤k) wr (.slice va j vc) (((kidsL t).map (Tree.renR old)).take j) x∧Below w.heap.size w wr∧W3.heap.size≤wr.heap.size) (fun _ iv _=>t.len-(intOf iv).toNat)
    case atStart=>exact⟨0,none,0,_,Nat.zero_le _,rfl,rfl,⟨HX3.out,HZ3.out⟩,by rw[List.take_zero];exact NRow.nil,HB3.out,Nat.le_refl _⟩
    case round =>
     obtain⟨j,va,vc,x,hj,rfl,rfl,hbx,hrow,hB,hsz⟩:=hrel
     have HBX:=ξ hbx
     have HROW:=ξ hrow
     have HB:=ξ hB
     have HWS:=ξ hsz
     have hj0:(0:Int)≤(j:Int):=by omega
     have hro:=hrow.ro
     rw[HLL.out j hj] at hro
     have HRO:=ξ hro
     clear hbx hrow hB hsz hro
     by_cases hlt:j<t.len
     ·have hlt2:(j:Int)<(t.len:Int):=by omega
      obtain⟨b,off,rfl,hkk⟩:=HR.out.kids.resolve_left (by omega)
      obtain⟨ai,ci,hnode,hkr⟩:=hkk j hlt
      have hnb:=hnode.lt
      obtain⟨n0,n1,n2,n3⟩:=hnode.below HB.out hnb
      have HKR:=ξ (hkr.below HB.out)
      obtain⟨V,hV⟩:∃ V:World,wr.alloc (nodeObj (.int .u8 (t.kid j).kind) (.int .i64 (t.kid j).num) (.string (t.kid j).name) (.slice ai (t.kid j).len ci))=V:=⟨_,rfl⟩
      have hBV:Below wr.heap.size wr V:=by rw[←hV];exact mem_alloc _ _
      have hXV:V.heap[wr.heap.size]? = some (nodeObj (.int .u8 (t.kid j).kind) (.int .i64 (t.kid j).num) (.string (t.kid j).name) (.slice ai (t.kid j).len ci)):=by rw[←hV];exact mem_new _ _
      obtain⟨q0,q1,q2,q3⟩:=node_cells hXV
      have HBV:=ξ hBV
      have HIH:=ξ (IH.out j hlt V ai ci (HKR.out.below hBV) (HSZ.out j hlt))
      clear hkk hnode hkr hBV hXV
      go_wp2_with fail
      clear n0 n1 n2 n3 q0 q1 q2 q3 hV
      refine HIH.out.mono ?_
      rintro e w5 ⟨a5,c5,rfl,hr5,hB5⟩
      have HB5:=ξ (mem_then HBV.out hB5)
      have HR5:=ξ hr5
      have HV1:Hid (wr.heap.size≤V.heap.size):=HBV.out.size
      obtain⟨E,hE⟩:∃ E,(t.kid j).renR old=E:=⟨_,rfl⟩
      have HEE:=ξ hE
      rw[hE] at HR5⊢
      clear hr5 hB5 HIH hE
      go_wp2_with (at_builtin;refine wpList_append_src _ rfl (.tmp 25) (.tmp 29) 45 rfl W3.heap.size 47 i0 _ 4 56 Tryz.underlying45 hi hz0 hz1 hz2 rfl (by decide) (.slice va j vc) j _ rfl (own_below HRO.out (mem_then HB5.out (mem_alloc _ _))) (some ⟨w5.heap.size,0,none⟩) 1 1 (E.row (a5,c5)) rfl (one_src (cs:=[.int .u8 E.kind,.int .i64 E.num,.string E.name,.slice a5 E.len c5]) (n:=1) (mem_new _ _) rfl) (by intro u hu;simp[Tree.row] at hu;rcases hu with rfl | rfl | rfl | rfl <;> rfl) (by unfold maxLen;omega) (by omega) (Nat.le_trans HWS.out (mem_then HB5.out (mem_alloc _ _)).size) ?_)
      intro r9 w9 hown hgrow hplace
      obtain⟨ra9,rc9,rfl⟩:=own_val hown
      have hB6:Below wr.heap.size wr (w5.alloc (.cells #[.int .u8 E.kind,.int .i64 E.num,.string E.name,.slice a5 E.len c5] 47)):=mem_then HB5.out (mem_alloc _ _)
      have HNF:Hid (NRow W3.heap.size (fun k=>W3.heap.size≤k) w9 (.slice ra9 (j+1) rc9) (((kidsL t).map (Tree.renR old)).take (j+1)) (fun i=>if i<(((kidsL t).map (Tree.renR old)).take j).length then x i else (a5,c5))):=by
       show NRow _ _ _ _ _ _
       rw[HL.out j hlt,HEE.out]
       refine HROW.out.push hB6 (m:=[E]) (y:=fun _=>(a5,c5)) (fun i hi=>?_) hgrow (hplace.imp id (fun h=>h.trans (by simp))) ?_
       ·have hi1:i<1:=hi
        obtain rfl:i=0:=by omega
        refine (RepIn.move (S':=fun k=>V.heap.size≤k) (fun k _ hk=>(mem_alloc w5 _).block k hk) (fun k hk _=>hk) HR5.out).mono (fun k hk=>⟨by have:=HWS.out;have:=HV1.out;omega,fun e=>?_⟩)
        have h1:=(own_lt HRO.out e).2
        have h2:=HV1.out
        omega
       ·rw[HLL.out j hj]
        exact hown
      have HXF:Hid (w9.heap[w.heap.size]? = some (nodeObj (.int .u8 t.kind) (.int .i64 t.num) (.string nm) (.slice (some ⟨b,off,none⟩) t.len c))∧w9.heap[W1.heap.size]? = some zNode):=by
       have keep9:∀ (k:Nat) o,wr.heap[k]? = some o→k<W3.heap.size→w9.heap[k]? = some o:=fun k o hk hlt=>by
        have h1:=mem_keep hk hB6
        exact (hgrow.block k (mem_lt h1) (fun e=>by have:=(own_lt (own_below HRO.out hB6) e.symm).1;omega)).trans h1
       have h1:=HLT.out
       have h3:=HLT3.out
       exact⟨keep9 _ _ HBX.out.1 (by omega),keep9 _ _ HBX.out.2 (by omega)⟩
      have HBF:Hid (Below w.heap.size w w9):=(mem_then HB.out hB6).grown hgrow (mem_then HB.out hB6).size (fun b hb=>by have:=(own_lt (own_below HRO.out hB6) hb).1;have:=HB3.out.size;omega)
      have HSF:Hid (W3.heap.size≤w9.heap.size):=by have h1:=HWS.out;have h2:=hB6.size;have h3:=hgrow.size;show _≤_;omega
      clear hown hgrow hplace hB6
      go_wp2_with fail
      go_roundw
      case rel=>exact⟨j+1,ra9,rc9,_,by omega,rfl,by go_num,HXF.out,HNF.out,HBF.out,HSF.out⟩
      case measure=>simp[intOf];omega
     ·obtain rfl:j=t.len:=by omega
      obtain⟨X,hX⟩:∃ X:World,wr.setCell ⟨w.heap.size,3,none⟩ (.slice va t.len vc)=X:=⟨_,rfl⟩
      have hXB:X.heap[w.heap.size]? = some (nodeObj (.int .u8 t.kind) (.int .i64 t.num) (.string nm) (.slice va t.len vc)):=by rw[←hX,mem_set HBX.out.1];rfl
      have hXZ:X.heap[W1.heap.size]? = some zNode:=by rw[←hX,Below.heap_setCell _ _ _ _ (by show W1.heap.size≠w.heap.size;have:=HLT.out;omega)];exact HBX.out.2
      have e3:=mem_free HBX.out.1 3
      have e3c:=(node_cells HBX.out.1).2.2.2
      obtain⟨y0,y1,y2,y3⟩:=node_cells hXB
      obtain⟨z0,z1,z2,z3⟩:=node_cells hXZ
      have f0:=mem_free hXZ 0
      have f1:=mem_free hXZ 1
      have f2:=mem_free hXZ 2
      have f3:=mem_free hXZ 3
      obtain⟨F,hF⟩:∃ F:World,set4 X W1.heap.size (.int .u8 t.kind) (.int .i64 t.num) (.string nm) (.slice va t.len vc)=F:=⟨_,rfl⟩
      have HF:Hid (F.heap[W1.heap.size]? = some (nodeObj (.int .u8 t.kind) (.int .i64 t.num) (.string nm) (.slice va t.len vc))):=by show _=_;rw[←hF];exact set4_at hXZ
      have HBF:Hid (Below w.heap.size w F):=by show Below _ _ _;rw[←hF,←hX];exact set4_below (HB.out.setCell (p:=⟨w.heap.size,3,none⟩) (Nat.le_refl _) _) (by have:=HLT.out;omega)
      have HFAR:Hid (∀ k,k≠W1.heap.size→k≠w.heap.size→F.heap[k]? = wr.heap[k]?):=fun k hk hk2=>by rw[←hF,set4_far hk,←hX,Below.heap_setCell _ _ _ _ hk2]
      obtain⟨p0,p1,p2,p3⟩:=node_cells HF.out
      unfold set4 at hF
      clear hXB hXZ
      go_wp2_with fail
      refine bodyPost_ret (v:=.agg #[.int .u8 t.kind,.int .i64 t.num,.string nm,.slice va t.len vc]) (by simp[results,Tryz.results13,go_sem,p0,p1,p2,p3]) rfl ?_
      obtain⟨e1,e2,e4,_,e5⟩:=HE.out
      have hl3:=HLT3.out
      have hl12:=HLT.out
      refine⟨va,vc,by show _=Ending.returned (.agg #[.int .u8 (t.renR old).kind,.int .i64 (t.renR old).num,.string (t.renR old).name,.slice va (t.renR old).len vc]);rw[e1,e2,HNM.out,e4],?_,HBF.out⟩
      have htk:((kidsL t).map (Tree.renR old)).take t.len=(kidsL t).map (Tree.renR old):=List.take_of_length_le (by rw[List.length_map,kidsL_len];exact Nat.le_refl _)
      have hrow:=HROW.out
      rw[htk] at hrow
      have hrF:NRow W3.heap.size (fun k=>W3.heap.size≤k) F (.slice va t.len vc) ((kidsL t).map (Tree.renR old)) x:=⟨own_keep hrow.ro (fun k hk _=>HFAR.out k (by have:=(own_lt HRO.out hk).1;omega) (by have:=(own_lt HRO.out hk).1;omega)),fun i hi=>(hrow.reps i hi).move (fun k hk _=>HFAR.out k (by have:=hk.1;omega) (by have:=hk.1;omega)) (fun k hk _=>hk)⟩
      refine RepIn.mk (renR_fits HFIT.out) ?_
      by_cases h0:t.len=0
      ·exact .inl (by rw[e4];exact h0)
      ·have hlen:((kidsL t).map (Tree.renR old)).length=t.len:=by rw[List.length_map,kidsL_len]
       obtain⟨g,hva,hg,_⟩:=hrF.at_ (i:=0) (by omega)
       refine .inr ⟨g,0,hva,by have:=HB3.out.size;omega,fun i hi=>?_⟩
       rw[e4] at hi
       obtain⟨g',hva',_,hnd⟩:=hrF.at_ (i:=i) (by omega)
       rw[hva] at hva'
       cases hva'
       have hget:((kidsL t).map (Tree.renR old)).getD i noT=(t.renR old).kid i:=by
        rw[e5 i hi]
        unfold kidsL
        simp[List.getD_eq_getElem?_getD,hi]
       have hrep:=hrF.reps i (by omega)
       rw[hget] at hnd hrep
       exact⟨_,_,hnd,hrep.mono (fun k hk=>by have:=HB3.out.size;have:=hk.1;omega)⟩
theorem str_infoR:(Tryz.prog.info? 9).map (fun i=>(i.zero,i.size,i.bytes))=some (some (.string ⟨#[]⟩),1,16):=by kernel_rfl
theorem tsks_put{w w':World}{b off g:Nat}{l:List Tsk}{j:Nat}{t':Tsk}{q':TskPlace}{ys:List Value}(h:TsksAt w (some ⟨b,off,none⟩) l)(hj:j<l.length)(hB:Below w.heap.size w w')(hc:∀ o,o<l.length*8→w'.cell? ⟨g,o,none⟩=ys[o]?)
 (hne:∀ i o,i<l.length→i≠j→o<8→ys[i*8+o]? = w.cell? ⟨b,off+(i*8+o),none⟩) (hat:∀ o,o<8→ys[j*8+o]? = (t'.cells q')[o]?) (hin:TskIn w' t' q'):TsksAt w' (some ⟨g,0,none⟩) (l.set j t'):=by
 refine⟨by rw[List.length_set];exact h.1,fun i hi=>?_⟩
 rw[List.length_set] at hi
 by_cases hij:i=j
 ·subst hij
  have e:(l.set i t').getD i Tsk.none=t':=by simp[hi]
  rw[e]
  exact⟨g,0,q',rfl,fun o ho=>by rw[Nat.zero_add,hc _ (by omega),hat o ho],hin⟩
 ·have e:(l.set j t').getD i Tsk.none=l.getD i Tsk.none:=by
   simp only[List.getD_eq_getElem?_getD,List.getElem?_set,if_neg (Ne.symm hij)]
  rw[e]
  obtain⟨b',off',p,ha,hcs,hti⟩:=h.2 i hi
  cases ha
  refine⟨g,0,p,rfl,fun o ho=>?_,⟨hti.name,hti.period,hti.vars.below hB,hti.arrays.below hB,hti.body.below hB⟩⟩
  rw[Nat.zero_add,hc _ (by omega),hne i o hi hij ho,←Nat.add_assoc]
  exact hcs o ho
def renP(p:Prg)(j y:Nat):Prg:=⟨p.shared,p.tasks.set j (renTsk (p.tasks.getD j Tsk.none) y)⟩
theorem renP_task{p:Prg}{j y:Nat}(hj:j<p.tasks.length):(renP p j y).tasks.getD j Tsk.none=renTsk (p.tasks.getD j Tsk.none) y:=by
 show (p.tasks.set j _).getD j Tsk.none=_
 simp[hj]
theorem okP_taskR{p:Prg}(h:okP p=true){j:Nat}(hj:j<p.tasks.length):taskF (p.shared.map (·.name)) (p.tasks.getD j Tsk.none) = []:=by
 have hp:=okP_ok h
 unfold okP at h
 rw[Bool.and_eq_true] at h
 have h2:=h.2
 unfold checkE at h2
 rw[if_pos hp] at h2
 have h2:=List.isEmpty_iff.1 h2
 unfold checkF at h2
 rw[List.append_eq_nil_iff,List.map_eq_nil_iff] at h2
 exact tasksF_none _ _ _ h2.2 _ (by simp[hj])
theorem lowFn_renP{p:Prg}{j y:Nat}(hok:okP p=true)(hok':okP (renP p j y)=true)(hj:j<p.tasks.length)(hy:y<(p.tasks.getD j Tsk.none).vars.length):taskR (renP p j y) (j:Int)=(lowFn p.shared (p.tasks.getD j Tsk.none),0):=by
 have hj':j<(renP p j y).tasks.length:=by show j<(p.tasks.set j _).length;rw[List.length_set];exact hj
 have h1:=okP_taskR hok hj
 have h2:=okP_taskR hok' hj'
 rw[renP_task hj] at h2
 have ht:=(prgOk_le (okP_ok hok)).2.2 j hj
 unfold taskR
 rw[if_neg (by rw[hok'];decide),if_neg (by omega),Int.toNat_natCast,renP_task hj]
 show (lowFn p.shared _,(0:Int))=_
 rw[lowFn_ren ht hy h1 h2]
theorem ren_sets{xs:List Value}{n j:Nat}{v2 v4 v5 v6 v7:Value}(hx:xs.length=n*8)(hj:j<n) :
 (∀ i o,i≠j→o<8→(((((xs.set (j*8+2) v2).set (j*8+4) v4).set (j*8+5) v5).set (j*8+6) v6).set (j*8+7) v7)[i*8+o]? = xs[i*8+o]?) ∧
 ∀ o,o<8→(((((xs.set (j*8+2) v2).set (j*8+4) v4).set (j*8+5) v5).set (j*8+6) v6).set (j*8+7) v7)[j*8+o]? = if o=2 then some v2 else if o=4 then some v4 else if o=5 then some v5 else if o=6 then some v6 else if o=7 then some v7 else xs[j*8+o]?:=by
 refine⟨fun i o hi ho=>?_,fun o ho=>?_⟩
 ·simp only[List.getElem?_set]
  repeat rw[if_neg (by omega)]
 ·match o,ho with
  | 0,_=>simp[List.getElem?_set]
  | 1,_=>simp[List.getElem?_set]
  | 2,_=>simp[List.getElem?_set,hx];omega
  | 3,_=>simp[List.getElem?_set]
  | 4,_=>simp[List.getElem?_set,hx];omega
  | 5,_=>simp[List.getElem?_set,hx];omega
  | 6,_=>simp[List.getElem?_set,hx];omega
  | 7,_=>simp[List.getElem?_set,hx];omega
