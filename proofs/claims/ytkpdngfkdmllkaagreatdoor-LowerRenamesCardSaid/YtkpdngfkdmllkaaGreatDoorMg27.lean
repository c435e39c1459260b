/- Part. -/
import Derived.Test.YtkpdngfkdmllkaaGreatDoorMg26
import Derived.Laws.MakeOwn
import Derived.Laws.OwnMore
import Derived.Deep.QuietTactic
import Derived.BigQuiet
import Derived.WalkLawsBesides
import Derived.Laws.StructEq
import Derived.Test.YtkpdngfkdmllkaaGreatDoorMg10
namespace Go.Proofs.YtkpdngfkdmllkaaGreatDoor
set_option linter.unusedVariables false
set_option linter.unusedSimpArgs false
open Go.RowKit
set_option maxRecDepth 100000
def IrSt.init(n:Nat)(mem:List (List Int)):IrSt:=⟨List.replicate n 0,[0,0,0,0],mem,false,⟨#[]⟩,[],0⟩
def ocCells(va vo:Value):Array Value:=#[va,vo,.slice none 0 0,.int .i64 0,.int .i64 0,.int .i64 0]
structure SetAt(N:Nat)(W1:World)(n:Nat)(inv:Value)(w:World)(ml:List (ByteArray×Value))(va vo:Value)(la lo:List Value)(mem:List (List Int)):Prop where
 bel:Below N W1 w
 rg:w.heap[N]? = some (.cells (w32 (List.replicate n 0)).toArray 21)
 map:MapAt Tryz.prog 9 w (N+1) ml
 rb:w.heap[N+2]? = some (.cells (runCells ⟨N+2,N,N+1,[],inv⟩ (.slice none 0 0) (IrSt.init n [])) 80)
 ob:w.heap[N+3]? = some (.cells (ocCells va vo) 51)
 oa:w.ownsRow (N+4) 30 1 va la.length la
 oo:w.ownsRow (N+4) 30 1 vo lo.length lo
 len:mem.length=(la++lo).length
 rows:∀ i,i<mem.length→w.ownsRow (N+4) 21 1 ((la++lo).getD i undef) (mem.getD i []).length (w32 (mem.getD i []))
 ab:va.ownBlock=none∨va.ownBlock≠vo.ownBlock
 ra:∀ i,i<mem.length→((la++lo).getD i undef).ownBlock=none∨(((la++lo).getD i undef).ownBlock≠va.ownBlock∧((la++lo).getD i undef).ownBlock≠vo.ownBlock)
 rr:∀ i j,i<mem.length→j<mem.length→i≠j→((la++lo).getD i undef).ownBlock=none∨((la++lo).getD i undef).ownBlock≠((la++lo).getD j undef).ownBlock
theorem getD_snoc{α:Type}{l:List α}{x d:α}{i:Nat}(h:i<l.length):(l++[x]).getD i d=l.getD i d:=by simp[List.getElem?_append_left h]
theorem getD_last{α:Type}{l:List α}{x d:α}{i:Nat}(h:i=l.length):(l++[x]).getD i d=x:=by subst h;simp
section
variable {N n:Nat} {W1 w w' V w2:World} {inv va vo v:Value} {ml:List (ByteArray×Value)} {la lo:List Value} {mem:List (List Int)} {row:List Int} {gb cap:Nat}
theorem SetAt.keep(h:SetAt N W1 n inv w ml va vo la lo mem)(hN:N≤w.heap.size)(hb:Below w.heap.size w w'):SetAt N W1 n inv w' ml va vo la lo mem:=
 { h with
  bel:=h.bel.trans (hb.mono hN)
  rg:=(hb.block _ (lt_heap h.rg)).trans h.rg
  map:=h.map.below hb
  rb:=(hb.block _ (lt_heap h.rb)).trans h.rb
  ob:=(hb.block _ (lt_heap h.ob)).trans h.ob
  oa:=ownsRow_below h.oa hb
  oo:=ownsRow_below h.oo hb
  rows:=fun i hi=>ownsRow_below (h.rows i hi) hb }
theorem SetAt.size(h:SetAt N W1 n inv w ml va vo la lo mem):N+4≤w.heap.size:=lt_heap h.ob
theorem SetAt.name(h:SetAt N W1 n inv w ml va vo la lo mem){ml':List (ByteArray×Value)}(hm:MapAt Tryz.prog 9 w2 (N+1) ml')(hg:w.grownBy w2 (some (N+1))):SetAt N W1 n inv w2 ml' va vo la lo mem:=by
 have hsz:=h.size
 have old:∀ k,k<w.heap.size→k≠N+1→w2.heap[k]? = w.heap[k]?:=fun k hk hn=>hg.block k hk (fun e=>hn (by injection e))
 have hrow:∀ {v:Value} {e:TypeId} {m:Nat} {xs:List Value},w.ownsRow (N+4) e 1 v m xs→w2.ownsRow (N+4) e 1 v m xs:=fun ho=>ownsRow_move ho (fun k hk hl=>old k hl (by have:=(ownsRow_lt ho hk).1;omega))
 exact { h with
  bel:=h.bel.grown hg (by omega) (fun k hk=>by cases hk;omega)
  rg:=(old _ (by omega) (by omega)).trans h.rg
  map:=hm
  rb:=(old _ (by omega) (by omega)).trans h.rb
  ob:=(old _ (by omega) (by omega)).trans h.ob
  oa:=hrow h.oa
  oo:=hrow h.oo
  rows:=fun i hi=>hrow (h.rows i hi) }
theorem SetAt.pushA(h:SetAt N W1 n inv w ml va vo la [] mem)(hB:Below w.heap.size w V)(hv:V.ownsRow w.heap.size 21 1 v row.length (w32 row))(hg:V.grownBy w2 va.ownBlock)(ho:w2.ownsRow (N+4) 30 1 (.slice (some ⟨gb,0,none⟩) (la.length+1) cap) (la.length+1) (la++[v]))(hp:va.ownBlock=some gb∨V.heap.size≤gb) :
 SetAt N W1 n inv (w2.setCell ⟨N+3,0,none⟩ (.slice (some ⟨gb,0,none⟩) (la.length+1) cap)) ml (.slice (some ⟨gb,0,none⟩) (la.length+1) cap) vo (la++[v]) [] (mem++[row]):=by
 have hsz:=h.size
 have hVs:=hB.size
 have hab:∀ k,va.ownBlock=some k→N+4≤k∧k<w.heap.size:=fun k hk=>ownsRow_lt h.oa hk
 have hlen:mem.length=la.length:=by have:=h.len;simpa using this
 have old:∀ k,k<w.heap.size→va.ownBlock≠some k→k≠N+3→(w2.setCell ⟨N+3,0,none⟩ (.slice (some ⟨gb,0,none⟩) (la.length+1) cap)).heap[k]? = w.heap[k]?:=fun k hk hn h3 =>
  (Below.heap_setCell _ _ _ _ h3).trans ((hg.block k (by omega) (fun e=>hn e.symm)).trans (hB.block k hk))
 have oldV:∀ k,k<V.heap.size→va.ownBlock≠some k→k≠N+3→(w2.setCell ⟨N+3,0,none⟩ (.slice (some ⟨gb,0,none⟩) (la.length+1) cap)).heap[k]? = V.heap[k]?:=fun k hk hn h3 =>
  (Below.heap_setCell _ _ _ _ h3).trans (hg.block k hk (fun e=>hn e.symm))
 have hgne:∀ k,k<V.heap.size→va.ownBlock≠some k→gb≠k:=fun k hk hn e=>by
  rcases hp with e1|e1
  ·exact hn (by rw[e1,e])
  ·omega
 have hgb:N+4≤gb:=by rcases hp with e | e;exact (hab gb e).1;omega
 have low:∀ k,k<N+4→va.ownBlock≠some k:=fun k hk e=>by have:=(hab k e).1;omega
 have hvb:∀ k,v.ownBlock=some k→w.heap.size≤k∧k<V.heap.size:=fun k hk=>ownsRow_lt hv hk
 have vne:∀ k,v.ownBlock=some k→va.ownBlock≠some k:=fun k hk e=>by have:=(hab k e).2;have:=(hvb k hk).1;omega
 have hl:∀ i,i<(mem++[row]).length→i<mem.length∨i=mem.length:=fun i hi=>by simp at hi;omega
 have g1:∀ i,i<mem.length→(la++[v]++[]).getD i undef=(la++[]).getD i undef:=fun i hi=>by rw[List.append_nil,List.append_nil];exact getD_snoc (by omega)
 have g2:(la++[v]++[]).getD mem.length undef=v:=by rw[List.append_nil];exact getD_last hlen
 have m1:∀ i,i<mem.length→(mem++[row]).getD i []=mem.getD i []:=fun i hi=>getD_snoc hi
 have m2:(mem++[row]).getD mem.length []=row:=getD_last rfl
 have rown:∀ i,i<mem.length→∀ k,((la++[]).getD i undef).ownBlock=some k→va.ownBlock≠some k∧k<w.heap.size∧N+4≤k:=fun i hi k hk=>by
  have:=ownsRow_lt (h.rows i hi) hk
  refine⟨fun e=>?_,this.2,this.1⟩
  rcases h.ra i hi with e1|e1
  ·rw[hk] at e1;cases e1
  ·exact e1.1 (by rw[hk,e])
 refine⟨(((h.bel.trans (hB.mono (by omega))).grown hg (by omega) (fun k hk=>by have:=(hab k hk).1;omega)).setCell (by show N≤N+3;omega) _),(old _ (by omega) (low _ (by omega)) (by omega)).trans h.rg,h.map.move (old _ (by omega) (low _ (by omega)) (by omega)),(old _ (by omega) (low _ (by omega)) (by omega)).trans h.rb,?_,?_,?_,by simp[hlen],fun i hi=>?_,?_,fun i hi=>?_,fun i j hi hj hij=>?_⟩
 ·rw[setCell_heap (((hg.block (N+3) (by omega) (fun e=>low _ (by omega) e.symm)).trans (hB.block _ (by omega))).trans h.ob)]
  simp[ocCells]
 ·simp only[List.length_append,List.length_singleton]
  exact ownsRow_move ho (fun k hk _=>Below.heap_setCell _ _ _ _ (by cases hk;show gb≠N+3;omega))
 ·refine ownsRow_move h.oo (fun k hk hl=>old k hl (fun e=>?_) (by have:=(ownsRow_lt h.oo hk).1;omega))
  rcases h.ab with e1|e1
  ·rw[e] at e1;cases e1
  ·exact e1 (by rw[e,hk])
 ·rcases hl i hi with hi|rfl
  ·rw[g1 i hi,m1 i hi]
   exact ownsRow_move (h.rows i hi) (fun k hk hl=>old k hl (rown i hi k hk).1 (by have:=(rown i hi k hk).2.2;omega))
  ·rw[g2,m2]
   have:=ownsRow_move (w':=w2.setCell ⟨N+3,0,none⟩ (.slice (some ⟨gb,0,none⟩) (la.length+1) cap)) hv (fun k hk hl=>oldV k hl (vne k hk) (by have:=(hvb k hk).1;omega))
   exact ownsRow_base this (by omega)
 ·refine .inr (fun e=>?_)
  have e:some gb=vo.ownBlock:=e
  have:=ownsRow_lt h.oo e.symm
  refine hgne gb (by omega) (fun e1=>?_) rfl
  rcases h.ab with e2|e2
  ·rw[e1] at e2;cases e2
  ·exact e2 (by rw[e1,e])
 ·rcases hl i hi with hi|rfl
  ·rw[g1 i hi]
   cases hb:((la++[]).getD i undef).ownBlock with
   | none=>exact .inl rfl
   | some k =>
    obtain⟨r1,r2,r3⟩:=rown i hi k hb
    refine .inr ⟨fun e=>hgne k (by omega) r1 (by injection e with e;exact e.symm),?_⟩
    rcases h.ra i hi with e1|e1
    ·rw[hb] at e1;cases e1
    ·rw[←hb];exact e1.2
  ·rw[g2]
   cases hb:v.ownBlock with
   | none=>exact .inl rfl
   | some k =>
    refine .inr ⟨fun e=>hgne k (hvb k hb).2 (vne k hb) (by injection e with e;exact e.symm),fun e=>?_⟩
    have:=(ownsRow_lt h.oo e.symm).2
    have:=(hvb k hb).1
    omega
 ·have hne:∀ i,i<mem.length→((la++[]).getD i undef).ownBlock=none∨((la++[]).getD i undef).ownBlock≠v.ownBlock:=fun i hi=>by
   cases hb:((la++[]).getD i undef).ownBlock with
   | none=>exact .inl rfl
   | some k =>
    refine .inr (fun e=>?_)
    have:=(rown i hi k hb).2.1
    have:=(hvb k e.symm).1
    omega
  rcases hl i hi with hi|rfl
  ·rcases hl j hj with hj|rfl
   ·rw[g1 i hi,g1 j hj];exact h.rr i j hi hj hij
   ·rw[g1 i hi,g2];exact hne i hi
  ·rcases hl j hj with hj|rfl
   ·rw[g1 j hj,g2]
    cases hb:v.ownBlock with
    | none=>exact .inl rfl
    | some k =>
     refine .inr (fun e=>?_)
     have:=(rown j hj k e.symm).2.1
     have:=(hvb k hb).1
     omega
   ·exact absurd rfl hij
theorem SetAt.pushB(h:SetAt N W1 n inv w ml va vo la lo mem)(hB:Below w.heap.size w V)(hv:V.ownsRow w.heap.size 21 1 v row.length (w32 row))(hg:V.grownBy w2 vo.ownBlock)(ho:w2.ownsRow (N+4) 30 1 (.slice (some ⟨gb,0,none⟩) (lo.length+1) cap) (lo.length+1) (lo++[v]))(hp:vo.ownBlock=some gb∨V.heap.size≤gb) :
 SetAt N W1 n inv (w2.setCell ⟨N+3,1,none⟩ (.slice (some ⟨gb,0,none⟩) (lo.length+1) cap)) ml va (.slice (some ⟨gb,0,none⟩) (lo.length+1) cap) la (lo++[v]) (mem++[row]):=by
 have hsz:=h.size
 have hVs:=hB.size
 have hab:∀ k,vo.ownBlock=some k→N+4≤k∧k<w.heap.size:=fun k hk=>ownsRow_lt h.oo hk
 have hlen:mem.length=(la++lo).length:=h.len
 have old:∀ k,k<w.heap.size→vo.ownBlock≠some k→k≠N+3→(w2.setCell ⟨N+3,1,none⟩ (.slice (some ⟨gb,0,none⟩) (lo.length+1) cap)).heap[k]? = w.heap[k]?:=fun k hk hn h3 =>
  (Below.heap_setCell _ _ _ _ h3).trans ((hg.block k (by omega) (fun e=>hn e.symm)).trans (hB.block k hk))
 have oldV:∀ k,k<V.heap.size→vo.ownBlock≠some k→k≠N+3→(w2.setCell ⟨N+3,1,none⟩ (.slice (some ⟨gb,0,none⟩) (lo.length+1) cap)).heap[k]? = V.heap[k]?:=fun k hk hn h3 =>
  (Below.heap_setCell _ _ _ _ h3).trans (hg.block k hk (fun e=>hn e.symm))
 have hgne:∀ k,k<V.heap.size→vo.ownBlock≠some k→gb≠k:=fun k hk hn e=>by
  rcases hp with e1|e1
  ·exact hn (by rw[e1,e])
  ·omega
 have hgb:N+4≤gb:=by rcases hp with e | e;exact (hab gb e).1;omega
 have low:∀ k,k<N+4→vo.ownBlock≠some k:=fun k hk e=>by have:=(hab k e).1;omega
 have hvb:∀ k,v.ownBlock=some k→w.heap.size≤k∧k<V.heap.size:=fun k hk=>ownsRow_lt hv hk
 have vne:∀ k,v.ownBlock=some k→vo.ownBlock≠some k:=fun k hk e=>by have:=(hab k e).2;have:=(hvb k hk).1;omega
 have hl:∀ i,i<(mem++[row]).length→i<mem.length∨i=mem.length:=fun i hi=>by simp at hi;omega
 have g1:∀ i,i<mem.length→(la++(lo++[v])).getD i undef=(la++lo).getD i undef:=fun i hi=>by rw[←List.append_assoc];exact getD_snoc (by omega)
 have g2:(la++(lo++[v])).getD mem.length undef=v:=by rw[←List.append_assoc];exact getD_last hlen
 have m1:∀ i,i<mem.length→(mem++[row]).getD i []=mem.getD i []:=fun i hi=>getD_snoc hi
 have m2:(mem++[row]).getD mem.length []=row:=getD_last rfl
 have rown:∀ i,i<mem.length→∀ k,((la++lo).getD i undef).ownBlock=some k→vo.ownBlock≠some k∧k<w.heap.size∧N+4≤k:=fun i hi k hk=>by
  have:=ownsRow_lt (h.rows i hi) hk
  refine⟨fun e=>?_,this.2,this.1⟩
  rcases h.ra i hi with e1|e1
  ·rw[hk] at e1;cases e1
  ·exact e1.2 (by rw[hk,e])
 refine⟨(((h.bel.trans (hB.mono (by omega))).grown hg (by omega) (fun k hk=>by have:=(hab k hk).1;omega)).setCell (by show N≤N+3;omega) _),(old _ (by omega) (low _ (by omega)) (by omega)).trans h.rg,h.map.move (old _ (by omega) (low _ (by omega)) (by omega)),(old _ (by omega) (low _ (by omega)) (by omega)).trans h.rb,?_,?_,?_,by simp[hlen];omega,fun i hi=>?_,?_,fun i hi=>?_,fun i j hi hj hij=>?_⟩
 ·rw[setCell_heap (((hg.block (N+3) (by omega) (fun e=>low _ (by omega) e.symm)).trans (hB.block _ (by omega))).trans h.ob)]
  simp[ocCells]
 ·refine ownsRow_move h.oa (fun k hk hl=>old k hl (fun e=>?_) (by have:=(ownsRow_lt h.oa hk).1;omega))
  rcases h.ab with e1|e1
  ·rw[hk] at e1;cases e1
  ·exact e1 (by rw[e,hk])
 ·simp only[List.length_append,List.length_singleton]
  exact ownsRow_move ho (fun k hk _=>Below.heap_setCell _ _ _ _ (by cases hk;show gb≠N+3;omega))
 ·rcases hl i hi with hi|rfl
  ·rw[g1 i hi,m1 i hi]
   exact ownsRow_move (h.rows i hi) (fun k hk hl=>old k hl (rown i hi k hk).1 (by have:=(rown i hi k hk).2.2;omega))
  ·rw[g2,m2]
   have:=ownsRow_move (w':=w2.setCell ⟨N+3,1,none⟩ (.slice (some ⟨gb,0,none⟩) (lo.length+1) cap)) hv (fun k hk hl=>oldV k hl (vne k hk) (by have:=(hvb k hk).1;omega))
   exact ownsRow_base this (by omega)
 ·cases hb:va.ownBlock with
  | none=>exact .inl rfl
  | some k =>
   refine .inr (fun e=>?_)
   have e:k=gb:=by injection e
   have:=ownsRow_lt h.oa hb
   refine hgne k (by omega) (fun e1=>?_) e.symm
   rcases h.ab with e2|e2
   ·rw[hb] at e2;cases e2
   ·exact e2 (by rw[hb,e1])
 ·rcases hl i hi with hi|rfl
  ·rw[g1 i hi]
   cases hb:((la++lo).getD i undef).ownBlock with
   | none=>exact .inl rfl
   | some k =>
    obtain⟨r1,r2,r3⟩:=rown i hi k hb
    refine .inr ⟨?_,fun e=>hgne k (by omega) r1 (by injection e with e;exact e.symm)⟩
    rcases h.ra i hi with e1|e1
    ·rw[hb] at e1;cases e1
    ·rw[←hb];exact e1.1
  ·rw[g2]
   cases hb:v.ownBlock with
   | none=>exact .inl rfl
   | some k =>
    refine .inr ⟨fun e=>?_,fun e=>hgne k (hvb k hb).2 (vne k hb) (by injection e with e;exact e.symm)⟩
    have:=(ownsRow_lt h.oa e.symm).2
    have:=(hvb k hb).1
    omega
 ·have hne:∀ i,i<mem.length→((la++lo).getD i undef).ownBlock=none∨((la++lo).getD i undef).ownBlock≠v.ownBlock:=fun i hi=>by
   cases hb:((la++lo).getD i undef).ownBlock with
   | none=>exact .inl rfl
   | some k =>
    refine .inr (fun e=>?_)
    have:=(rown i hi k hb).2.1
    have:=(hvb k e.symm).1
    omega
  rcases hl i hi with hi|rfl
  ·rcases hl j hj with hj|rfl
   ·rw[g1 i hi,g1 j hj];exact h.rr i j hi hj hij
   ·rw[g1 i hi,g2];exact hne i hi
  ·rcases hl j hj with hj|rfl
   ·rw[g1 j hj,g2]
    cases hb:v.ownBlock with
    | none=>exact .inl rfl
    | some k =>
     refine .inr (fun e=>?_)
     have:=(rown j hj k e.symm).2.1
     have:=(hvb k hb).1
     omega
   ·exact absurd rfl hij
theorem push_old{c:Nat}{u x:Value}(hB:Below w.heap.size w V)(hg:V.grownBy w2 x.ownBlock){k:Nat}(hk:k<w.heap.size)(hn:x.ownBlock≠some k)(h3:k≠N+3):(w2.setCell ⟨N+3,c,none⟩ u).heap[k]? = w.heap[k]?:=
 (Below.heap_setCell _ _ _ _ h3).trans ((hg.block k (Nat.lt_of_lt_of_le hk hB.size) (fun e=>hn e.symm)).trans (hB.block k hk))
theorem SetAt.ready{names:List ByteArray}(h:SetAt N W1 n inv w (names.zip (la++lo)) va vo la lo mem)(hn:names.length=mem.length)(hw:∀ r∈mem,∀ x∈r,Wd.W x):RunAt N ⟨N+2,N,N+1,la++lo,inv⟩ names w (.slice none 0 0) (IrSt.init n mem):=by
 have low:∀ i,i<mem.length→∀ k,((la++lo).getD i undef).ownBlock=some k→N+4≤k:=fun i hi k hk=>(ownsRow_lt (h.rows i hi) hk).1
 refine⟨⟨rfl,fun x hx=>?_,fun x hx=>?_,hw,by show (⟨#[]⟩:ByteArray).size≤9223372036854775807;decide⟩,h.rb,h.rg,h.map,h.len.symm,hn,fun j hj=>ownsRow_base (h.rows j hj) (by omega),⟨rfl,.inl ⟨rfl,rfl⟩⟩,by show N≤N+2;omega,Nat.le_refl _,by show N≤N+1;omega,by show N+2≠N;omega,by show N+2≠N+1;omega,by show N≠N+1;omega,fun j hj=>⟨fun e=>?_,fun e=>?_,fun e=>?_,?_⟩,h.rr,by simp[Value.ownBlock],by simp[Value.ownBlock],by simp[Value.ownBlock]⟩
 ·have:x=0:=(List.mem_replicate.1 hx).2
  subst this
  exact⟨by omega,by omega⟩
 ·have:x=0:=by simp[IrSt.init] at hx;exact hx
  subst this
  exact⟨by omega,by omega⟩
 ·have:=low j hj _ e;simp at this
 ·have:=low j hj _ e;simp at this;omega
 ·have:=low j hj _ e;simp at this
 ·cases hb:((la++lo).getD j undef).ownBlock with
  | none=>exact .inl rfl
  | some k=>exact .inr (by simp[Value.ownBlock])
theorem SetAt.notOurs(h:SetAt N W1 n inv w ml va vo la lo mem){k:Nat}(hk:k=N+3∨va.ownBlock=some k∨vo.ownBlock=some k):¬ Ours ⟨N+2,N,N+1,la++lo,inv⟩ (.slice none 0 0) k:=by
 have h4:∀ k,va.ownBlock=some k∨vo.ownBlock=some k→N+4≤k:=fun k hk=>by
  rcases hk with hk|hk
  ·exact (ownsRow_lt h.oa hk).1
  ·exact (ownsRow_lt h.oo hk).1
 rintro (e|e|e|⟨j,hj,e⟩)
 ·simp at e;rcases hk with rfl | hk
  ·omega
  ·have:=h4 k hk;omega
 ·simp at e;rcases hk with rfl | hk
  ·omega
  ·have:=h4 k hk;omega
 ·simp[Value.ownBlock] at e
 ·have hjm:j<mem.length:=by rw[h.len];exact hj
  have hr:=ownsRow_lt (h.rows j hjm) e
  rcases hk with rfl|hk
  ·omega
  ·rcases h.ra j hjm with e1|e1
   ·rw[e] at e1;cases e1
   ·rcases hk with hk|hk
    ·exact e1.1 (by rw[e,hk])
    ·exact e1.2 (by rw[e,hk])
theorem six_set{b:Nat}{t:TypeId}{a0 a1 a2 a3 a4 a5 v0 v1 v2 v3 v4 v5:Value}(h:w.heap[b]? = some (.cells #[a0,a1,a2,a3,a4,a5] t)) :
 ((((((w.setCell ⟨b,0,none⟩ v0).setCell ⟨b,1,none⟩ v1).setCell ⟨b,2,none⟩ v2).setCell ⟨b,3,none⟩ v3).setCell ⟨b,4,none⟩ v4).setCell ⟨b,5,none⟩ v5).heap[b]? = some (.cells #[v0,v1,v2,v3,v4,v5] t):=by
 have h0:=setCell_heap (i:=0) (v:=v0) h
 have h1:=setCell_heap (i:=1) (v:=v1) h0
 have h2:=setCell_heap (i:=2) (v:=v2) h1
 have h3:=setCell_heap (i:=3) (v:=v3) h2
 have h4:=setCell_heap (i:=4) (v:=v4) h3
 have h5:=setCell_heap (i:=5) (v:=v5) h4
 simpa using h5
theorem six_below{B b:Nat}{a:World}{v0 v1 v2 v3 v4 v5:Value}(h:Below B a w)(hb:B≤b) :
 Below B a ((((((w.setCell ⟨b,0,none⟩ v0).setCell ⟨b,1,none⟩ v1).setCell ⟨b,2,none⟩ v2).setCell ⟨b,3,none⟩ v3).setCell ⟨b,4,none⟩ v4).setCell ⟨b,5,none⟩ v5):=
 (((((h.setCell hb _).setCell hb _).setCell hb _).setCell hb _).setCell hb _).setCell hb _
theorem six_other{b k:Nat}{v0 v1 v2 v3 v4 v5:Value}(hk:k≠b) :
 ((((((w.setCell ⟨b,0,none⟩ v0).setCell ⟨b,1,none⟩ v1).setCell ⟨b,2,none⟩ v2).setCell ⟨b,3,none⟩ v3).setCell ⟨b,4,none⟩ v4).setCell ⟨b,5,none⟩ v5).heap[k]? = w.heap[k]?:=by
 rw[Below.heap_setCell _ _ _ _ hk,Below.heap_setCell _ _ _ _ hk,Below.heap_setCell _ _ _ _ hk,Below.heap_setCell _ _ _ _ hk,Below.heap_setCell _ _ _ _ hk,Below.heap_setCell _ _ _ _ hk]
end
theorem Tryz.infoRow:(Tryz.prog.info? 30).map (fun i=>(i.zero,i.size,i.bytes))=some (some (.slice none 0 0),1,24):=by kernel_rfl
theorem one_new(w:World)(u:Value):∀ (j:Nat) (x:Value),[u][j]? = some x→(w.alloc (.cells #[u] 30)).cell? ((⟨w.heap.size,0,none⟩:Addr).add j)=some x:=by
 intro j x hx
 match j,hx with
 | 0,hx=>cases hx;exact World.cell?_alloc_new _ _ _ 0
theorem make_run(n:Nat)(hn:n≤10000)(w:World):(Instr.makeSlice 30 (.int .i64 (n:Int)) (.int .i64 (n:Int))).run Tryz.prog w = .ok (.slice (some ⟨w.heap.size,0,none⟩) n n) (w.alloc (.cells (w32 (List.replicate n 0)).toArray 21)):=by
 obtain⟨i0,hi,hz0,hz1,hz2⟩:=info_parts Tryz.infoI32
 rw[run_make w 30 21 i0 _ Tryz.underlying30 hi hz0 .i64 .i64 n n (by omega) (by omega) (by rw[hz2];omega) (by omega)]
 have e:madeCells (Value.int .i32 0).cells (((n:Int)).toNat*i0.size)=(w32 (List.replicate n 0)).toArray:=by
  rw[hz1,Int.toNat_natCast,Nat.mul_one]
  apply Array.toList_inj.1
  rw[show (Value.int .i32 0).cells = #[Value.int .i32 0] from rfl,toList_madeCells_one]
  simp[w32]
 rw[e,Int.toNat_natCast]
theorem IrContAt.word{w:World}{a:Option Addr}{l:List (List Int)}(h:IrContAt w a l){r:List Int}(hr:r∈l):∀ x∈r,Wd.W x:=by
 obtain⟨k,hk⟩:=List.getElem?_of_mem hr
 have hkl:=(List.getElem?_eq_some_iff.1 hk).1
 rcases h.at_ with h0|⟨b,off,_,hc⟩
 ·omega
 ·obtain⟨ra,rc,_,_,hw⟩:=hc k r hk
  exact hw.words
structure Oc where
 arrays:List (List Int)
 objects:List (List Int)
 out:List (Int×Int)
 read:Nat
 steps:Nat
 err:Int
structure OutsAt(w:World)(a:Option Addr)(l:List (Int×Int)):Prop where
 fits:l.length≤9223372036854775807
 at_:l.length=0∨∃ b off,a=some ⟨b,off,none⟩∧∀ (k:Nat) (p:Int×Int),l[k]? = some p→w.cell? ⟨b,off+k*2,none⟩=some (.int .i64 p.1)∧w.cell? ⟨b,off+k*2+1,none⟩=some (.int .i32 p.2)
theorem OutsAt.below{w w':World}{a:Option Addr}{l:List (Int×Int)}(h:OutsAt w a l)(hb:Below w.heap.size w w'):OutsAt w' a l:=by
 refine⟨h.fits,?_⟩
 rcases h.at_ with h0|⟨b,off,ha,hk⟩
 ·exact .inl h0
 ·exact .inr ⟨b,off,ha,fun k p hp=>⟨ir_cell_below hb (hk k p hp).1,ir_cell_below hb (hk k p hp).2⟩⟩
def OcAt(w:World)(v:Value)(o:Oc):Prop:=∃ (aa oa ua:Option Addr) (ac ocp uc:Nat),v = .agg #[.slice aa o.arrays.length ac,.slice oa o.objects.length ocp,.slice ua o.out.length uc,.int .i64 (o.read:Nat),.int .i64 (o.steps:Nat),.int .i64 o.err]∧IrContAt w aa o.arrays∧IrContAt w oa o.objects∧OutsAt w ua o.out∧o.out.length≤uc∧uc≤9223372036854775807∧(ua=none→uc=0)
def OcRowTy(w:World)(a:Option Addr)(n:Nat):Prop:=n=0∨∃ b off arr,a=some ⟨b,off,none⟩∧w.heap[b]? = some (.cells arr 30)
theorem own_rowty{N:Nat}{w:World}{a:Option Addr}{n c:Nat}{vs:List Value}(h:w.ownsRow N 30 1 (.slice a n c) n vs):OcRowTy w a n:=by
 rcases h.2 with⟨e1,_⟩|⟨g,cap,cur,e1,_,hc,_⟩
 ·injection e1 with _ e2 _;exact .inl e2
 ·injection e1 with e1 _ _;exact .inr ⟨g,0,cur,e1,hc⟩
def OcBoth(w:World)(v:Value)(o:Oc):Prop:=∃ (aa oa ua:Option Addr) (ac ocp uc:Nat),v = .agg #[.slice aa o.arrays.length ac,.slice oa o.objects.length ocp,.slice ua o.out.length uc,.int .i64 (o.read:Nat),.int .i64 (o.steps:Nat),.int .i64 o.err]∧(IrContAt w aa o.arrays∧IrContAt w oa o.objects∧OutsAt w ua o.out∧o.out.length≤uc∧uc≤9223372036854775807∧(ua=none→uc=0))∧OcRowTy w aa o.arrays.length∧OcRowTy w oa o.objects.length
theorem OcBoth.oc{w:World}{v:Value}{o:Oc}(h:OcBoth w v o):OcAt w v o:=by
 obtain⟨aa,oa,ua,ac,ocp,uc,h1,h2,_⟩:=h
 exact⟨aa,oa,ua,ac,ocp,uc,h1,h2⟩
theorem OcAt.below{w w':World}{v:Value}{o:Oc}(h:OcAt w v o)(hb:Below w.heap.size w w'):OcAt w' v o:=by
 obtain⟨aa,oa,ua,ac,ocp,uc,h1,h2,h3,h4⟩:=h
 exact⟨aa,oa,ua,ac,ocp,uc,h1,h2.below hb,h3.below hb,h4.1.below hb,h4.2⟩
theorem ownsRow_cap{w:World}{base:Nat}{e:TypeId}{size:Nat}{a:Option Addr}{n c:Nat}{xs:List Value}(h:w.ownsRow base e size (.slice a n c) n xs):n≤c∧c≤9223372036854775807∧(a=none→c=0):=by
 rcases h.2 with⟨h1,h2⟩|⟨g,cap,cur,h1,_,_,h2,h3,_⟩
 ·injection h1 with h1 h4 h5
  exact⟨by omega,by omega,fun _=>h5⟩
 ·injection h1 with h1 h4 h5
  have:cap≤9223372036854775807:=h3
  exact⟨by omega,by omega,fun h=>by rw[h] at h1;cases h1⟩
theorem addr_add(b off k:Nat):(⟨b,off,none⟩:Addr).add k=⟨b,off+k,none⟩:=by
 unfold Addr.add
 by_cases h0:k=0 <;> simp[h0]
theorem words_of_row{w:World}{base:Nat}{a:Option Addr}{c:Nat}{l:List Int}(h:w.ownsRow base 21 1 (.slice a l.length c) l.length (w32 l))(hw:∀ x∈l,Wd.W x):(a=none→c=0)∧IrWordsAt w a l:=by
 refine⟨?_,⟨ownsRow_len h,hw,?_⟩⟩
 ·rcases h.2 with⟨h1,_⟩|⟨g,cap,cur,h1,_⟩
  ·injection h1 with h1 h2 h3;intro _;exact h3
  ·injection h1 with h1;intro h2;rw[h2] at h1;cases h1
 ·by_cases h0:l.length=0
  ·exact .inl h0
  ·obtain⟨b,rfl⟩:=ownsRow_some h (by omega)
   refine .inr ⟨b,0,rfl,fun k x hx=>?_⟩
   have:=h.cells rfl k (.int .i32 x) (by simp[w32,hx])
   rwa [addr_add] at this
theorem outs_at{l:List (Int×Int)}:∀ {k:Nat} {p:Int×Int},l[k]? = some p→(outs l)[k*2]? = some (.int .i64 p.1)∧(outs l)[k*2+1]? = some (.int .i32 p.2):=by
 induction l with
 | nil=>intro k p h;simp at h
 | cons q l ih =>
  intro k p h
  cases k with
  | zero=>cases h;exact⟨rfl,rfl⟩
  | succ k =>
   have h':l[k]? = some p:=by simpa using h
   obtain⟨h1,h2⟩:=ih h'
   have e1:(k+1)*2=k*2+2:=by omega
   have e2:(k+1)*2+1=k*2+1+2:=by omega
   rw[e2,e1]
   exact⟨h1,h2⟩
theorem outs_of_row{w:World}{base:Nat}{a:Option Addr}{c:Nat}{l:List (Int×Int)}(h:w.ownsRow base 64 2 (.slice a l.length c) l.length (outs l)):OutsAt w a l:=by
 refine⟨ownsRow_len h,?_⟩
 by_cases h0:l.length=0
 ·exact .inl h0
 ·obtain⟨b,rfl⟩:=ownsRow_some h (by omega)
  refine .inr ⟨b,0,rfl,fun k p hp=>?_⟩
  obtain⟨h1,h2⟩:=outs_at hp
  have e1:=h.cells rfl _ _ h1
  have e2:=h.cells rfl _ _ h2
  rw[addr_add] at e1 e2
  exact⟨e1,by rw[Nat.add_assoc];exact e2⟩
theorem cont_of_row{w:World}{base base':Nat}{a:Option Addr}{c:Nat}{vs:List Value}{m:List (List Int)}(h:w.ownsRow base 30 1 (.slice a vs.length c) vs.length vs)(hl:m.length=vs.length)
 (hr:∀ k,k<m.length→w.ownsRow base' 21 1 (vs.getD k undef) (m.getD k []).length (w32 (m.getD k []))) (hw:∀ r∈m,∀ x∈r,Wd.W x):IrContAt w a m:=by
 refine⟨by rw[hl];exact ownsRow_len h,?_⟩
 by_cases h0:m.length=0
 ·exact .inl h0
 ·obtain⟨b,rfl⟩:=ownsRow_some h (by omega)
  refine .inr ⟨b,0,rfl,fun k r hk=>?_⟩
  obtain⟨hkl,hke⟩:=List.getElem?_eq_some_iff.1 hk
  have h1:=hr k hkl
  have hm:m.getD k []=r:=by simp[hk]
  rw[hm] at h1
  obtain⟨ra,rc,hv⟩:=ownsRow_val h1
  rw[hv] at h1
  obtain⟨p1,p2⟩:=words_of_row h1 (hw r (List.mem_of_getElem? hk))
  refine⟨ra,rc,?_,p1,p2⟩
  have hvk:vs[k]? = some (.slice ra r.length rc):=by
   rw[←hv]
   have:k<vs.length:=by omega
   simp[this]
  have:=h.cells rfl k _ hvk
  rwa [addr_add] at this
section
variable {N n:Nat} {W1 w w8 X:World} {inv va vo ov:Value} {ml:List (ByteArray×Value)} {la lo:List Value} {mem:List (List Int)} {names:List ByteArray} {s:IrSt} {t steps:Nat} {err:Int}
theorem finish(h:SetAt N W1 n inv w ml va vo la lo mem)(hF:Frame ⟨N+2,N,N+1,la++lo,inv⟩ (.slice none 0 0) ov w w8)(hR:RunAt N ⟨N+2,N,N+1,la++lo,inv⟩ names w8 ov s)(ht:t<N)(hX:∀ k,k≠N+3→k≠t→X.heap[k]? = w8.heap[k]?) :
 OcBoth X (.agg #[va,vo,ov,.int .i64 (s.read:Nat),.int .i64 (steps:Nat),.int .i64 err]) ⟨s.mem.take la.length,s.mem.drop la.length,s.out,s.read,steps,err⟩:=by
 have hml:s.mem.length=la.length+lo.length:=by have:=hR.nrows;simp at this;omega
 have old:∀ {v:Value} {e:TypeId} {m:Nat} {xs:List Value},(v.ownBlock=va.ownBlock∨v.ownBlock=vo.ownBlock)→w.ownsRow (N+4) e 1 v m xs→X.ownsRow (N+4) e 1 v m xs:=fun hv ho=>ownsRow_move ho (fun k hk hl=>by
  have hk4:=(ownsRow_lt ho hk).1
  refine (hX k (by omega) (by omega)).trans (hF.block k hl (h.notOurs (.inr ?_)))
  rcases hv with hv|hv
  ·exact .inl (by rw[←hv,hk])
  ·exact .inr (by rw[←hv,hk]))
 have oa:=old (.inl rfl) h.oa
 have oo:=old (.inr rfl) h.oo
 have row:∀ j,j<s.mem.length→X.ownsRow N 21 1 ((la++lo).getD j undef) (s.row j).length (w32 (s.row j)):=fun j hj=>ownsRow_move (hR.rows j hj) (fun k hk _=>by
  have hjm:j<mem.length:=by have:=h.len;simp at this;omega
  have:=(ownsRow_lt (h.rows j hjm) hk).1
  exact hX k (by omega) (by omega))
 have out:X.ownsRow N 64 2 ov s.out.length (outs s.out):=ownsRow_move hR.out (fun k hk _=>by
  have h1:=(ownsRow_lt hR.out hk).1
  refine hX k (fun e=>?_) (by omega)
  rcases hF.ovs k hk with h2|h2
  ·simp[Value.ownBlock] at h2
  ·have:=h.size;omega)
 obtain⟨aa,ac,rfl⟩:=ownsRow_val oa
 obtain⟨oa',oc,rfl⟩:=ownsRow_val oo
 obtain⟨ua,uc,rfl⟩:=ownsRow_val out
 have t1:(s.mem.take la.length).length=la.length:=by simp;omega
 have t2:(s.mem.drop la.length).length=lo.length:=by simp;omega
 refine⟨aa,oa',ua,ac,oc,uc,by rw[t1,t2],⟨?_,?_,outs_of_row out,ownsRow_cap out⟩,by show OcRowTy X aa (s.mem.take la.length).length;rw[t1];exact own_rowty oa,by show OcRowTy X oa' (s.mem.drop la.length).length;rw[t2];exact own_rowty oo⟩
 ·refine cont_of_row (base':=N) oa t1 (fun k hk=>?_) (fun r hr=>hR.wf.mem r (List.mem_of_mem_take hr))
  rw[t1] at hk
  have:=row k (by omega)
  have e1:(la++lo).getD k undef=la.getD k undef:=by simp[List.getElem?_append_left hk]
  have e2:(s.mem.take la.length).getD k []=s.row k:=by simp[IrSt.row,hk]
  rw[e2,←e1]
  exact this
 ·refine cont_of_row (base':=N) oo t2 (fun k hk=>?_) (fun r hr=>hR.wf.mem r (List.mem_of_mem_drop hr))
  rw[t2] at hk
  have:=row (la.length+k) (by omega)
  have e1:(la++lo).getD (la.length+k) undef=lo.getD k undef:=by simp[List.getElem?_append_right (Nat.le_add_right la.length k)]
  have e2:(s.mem.drop la.length).getD k []=s.row (la.length+k):=by simp[IrSt.row]
  rw[e2,←e1]
  exact this
end
set_option maxHeartbeats 8000000
theorem out_cmp(W:World)(x y:Int):(binOp .neq 64 (.agg #[.int .i64 x,.int .i32 y]) (.agg #[.int .i64 x,.int .i32 y])).run Tryz.prog W = .ok (.bool false) W:=by
 have u3:=Tryz.underlying3
 have a3:=Tryz.isAgg3
 have z3:=Tryz.sizeOf3
 have u9:=Tryz.underlying21
 have a9:=Tryz.isAgg21
 have z9:=Tryz.sizeOf21
 have hS:Tryz.prog.underlying 64=some (.struct (Tryz.prog.fieldsOf 64)):=by kernel_rfl
 have hp:Tryz.prog.stoodInHeld 64=false:=by kernel_rfl
 rw[run_neq_struct,show (10000:Nat)=9999+1 from rfl,run_equalIn_agg W 9999 64 _ _ hS hp]
 simp only[Program.fieldsOf,Tryz.underlying64]
 go_simp
theorem outputs_eq(l:List (Int×Int))(a b:Option Addr)(c d:Nat)(w:World)(hl:OutsAt w a l)(hm:OutsAt w b l) :
 Calls Tryz.prog 11 #[.slice a l.length c,.slice b l.length d] w fun e w'=>e = .returned (.bool true)∧∃ m,w'=World.drewN w m:=by
 have HL:=ξ hl
 have HM:=ξ hm
 have hlf:=hl.fits
 clear hl hm
 go_enter Tryz.func11,Tryz.ntmps11
 go_wp2_with fail
 go_loopw [5] (fun i wr=>∃ j:Nat,j≤l.length∧i = .int .i64 j∧∃ m,wr=World.drewN w m) (fun i _=>l.length-(intOf i).toNat)
 case atStart=>exact⟨0,Nat.zero_le _,rfl,0,rfl⟩
 case round =>
  obtain⟨j,hj,rfl,hB⟩:=hrel
  have HD:=ξ hB
  have HB:=ξ (below_drew hB)
  clear hB
  have hk0:(0:Int)≤(j:Int):=by omega
  by_cases hlt:j<l.length
  ·obtain⟨r,hr⟩:∃ r,l[j]? = some r:=⟨_,List.getElem?_eq_getElem hlt⟩
   rcases HL.out.at_ with h0|⟨lb,lo,rfl,hc⟩
   ·omega
   rcases HM.out.at_ with h0|⟨mb,mo,rfl,hd⟩
   ·omega
   obtain⟨c1,c2⟩:=hc j r hr
   obtain⟨c3,c4⟩:=hd j r hr
   have f1:=ir_cell_below HB.out c1
   have f2:=ir_cell_below HB.out c2
   have f3:=ir_cell_below HB.out c3
   have f4:=ir_cell_below HB.out c4
   have hk1:(j:Int)<(l.length:Int):=by omega
   have hcmp:=fun W=>out_cmp W r.1 r.2
   clear hc hd hr c1 c2 c3 c4
   go_wp2_with fail
   go_quiet (fail)
   generalize hV:World.drewN _ _=V
   have HBV:Hid (∃ m,V=World.drewN w m):=drew_more HD.out hV
   clear hV
   go_wp2_with fail
   go_roundw
   case rel=>exact⟨j+1,by omega,by go_num,HBV.out⟩
   case measure=>simp[intOf];omega
  ·obtain rfl:j=l.length:=by omega
   go_wp2_with fail
   go_ret
   exact⟨rfl,HD.out⟩
theorem conts_eq(l:List (List Int))(a b:Option Addr)(c d:Nat)(w:World)(hl:IrContAt w a l)(hm:IrContAt w b l) :
 Calls Tryz.prog 12 #[.slice a l.length c,.slice b l.length d] w fun e w'=>e = .returned (.bool true)∧∃ m,w'=World.drewN w m:=by
 have HL:=ξ hl
 have HM:=ξ hm
 have hlf:=hl.fits
 clear hl hm
 go_enter Tryz.func12,Tryz.ntmps12
 go_wp2_with fail
 go_loopw [5] (fun i wr=>∃ j:Nat,j≤l.length∧i = .int .i64 j∧∃ m,wr=World.drewN w m) (fun i _=>l.length-(intOf i).toNat)
 case atStart=>exact⟨0,Nat.zero_le _,rfl,0,rfl⟩
 case round =>
  obtain⟨j,hj,rfl,hB⟩:=hrel
  have HD:=ξ hB
  have HB:=ξ (below_drew hB)
  clear hB
  have hk0:(0:Int)≤(j:Int):=by omega
  by_cases hlt:j<l.length
  ·obtain⟨r,hr⟩:∃ r,l[j]? = some r:=⟨_,List.getElem?_eq_getElem hlt⟩
   rcases HL.out.at_ with h0|⟨lb,lo,rfl,hc⟩
   ·omega
   rcases HM.out.at_ with h0|⟨mb,mo,rfl,hd⟩
   ·omega
   obtain⟨ra,rc,c1,_,hwa⟩:=hc j r hr
   obtain⟨rb,rd,c2,_,hwb⟩:=hd j r hr
   have HC1:=ξ c1
   have HC2:=ξ c2
   have f1:=ir_cell_below HB.out c1
   have f2:=ir_cell_below HB.out c2
   have hk1:(j:Int)<(l.length:Int):=by omega
   have hrf:=hwa.fits
   have HWA:=ξ hwa
   have HWB:=ξ hwb
   clear hc hd hr c1 c2 hwa hwb
   go_wp2_with fail
   go_quiet (fail)
   generalize hV:World.drewN _ _=V
   have HBV:Hid (∃ m,V=World.drewN w m):=drew_more HD.out hV
   clear hV f1 f2
   go_wp2_with fail
   go_loopw [6] (fun i wr=>∃ k:Nat,k≤r.length∧i = .int .i64 k∧∃ m,wr=World.drewN w m) (fun i _=>r.length-(intOf i).toNat)
   case atStart=>exact⟨0,Nat.zero_le _,rfl,HBV.out⟩
   case round =>
    obtain⟨k,hk,rfl,hB2⟩:=hrel
    have HD2:=ξ hB2
    have HB2:=ξ (below_drew hB2)
    clear hB2
    have hk2:(0:Int)≤(k:Int):=by omega
    have f1:=ir_cell_below HB2.out HC1.out
    have f2:=ir_cell_below HB2.out HC2.out
    by_cases hkl:k<r.length
    ·obtain⟨x,hx⟩:∃ x,r[k]? = some x:=⟨_,List.getElem?_eq_getElem hkl⟩
     rcases HWA.out.at_ with h0|⟨rab,rao,rfl,hca⟩
     ·omega
     rcases HWB.out.at_ with h0|⟨rbb,rbo,rfl,hcb⟩
     ·omega
     have g1:=ir_cell_below HB2.out (hca k x hx)
     have g2:=ir_cell_below HB2.out (hcb k x hx)
     have hk3:(k:Int)<(r.length:Int):=by omega
     clear hca hcb hx
     go_wp2_with fail
     go_quiet (fail)
     generalize hV:World.drewN _ _=V2
     have HBV2:Hid (∃ m,V2=World.drewN w m):=drew_more HD2.out hV
     clear hV
     go_wp2_with fail
     go_roundw
     case rel=>exact⟨k+1,by omega,by go_num,HBV2.out⟩
     case measure=>simp[intOf];omega
    ·obtain rfl:k=r.length:=by omega
     go_wp2_with fail
     go_roundw
     case rel=>exact⟨j+1,by omega,by go_num,HD2.out⟩
     case measure=>simp[intOf];omega
  ·obtain rfl:j=l.length:=by omega
   go_wp2_with fail
   go_ret
   exact⟨rfl,HD.out⟩
theorem tasksF_none{shared:List ByteArray}:∀ (l:List Tsk) (so:List ByteArray) (i:Nat),tasksF shared so i l = []→∀ t∈l,taskF shared t = []:=by
 intro l
 induction l with
 | nil=>intro so i _ t ht;cases ht
 | cons x l ih =>
  intro so i h t ht
  unfold tasksF at h
  rw[List.append_eq_nil_iff,List.map_eq_nil_iff,List.append_eq_nil_iff] at h
  rcases List.mem_cons.1 ht with rfl|ht
  ·exact h.1.2
  ·exact ih _ _ h.2 t ht
