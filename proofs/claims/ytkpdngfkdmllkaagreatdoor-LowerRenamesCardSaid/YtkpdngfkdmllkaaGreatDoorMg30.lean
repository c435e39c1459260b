/- Part. -/
import Derived.Test.YtkpdngfkdmllkaaGreatDoorMg29
import Derived.Deep.RegionHeld
import Derived.Deep.RegionHeld3
import Derived.Deep.DeepCutAuto
import Derived.Laws.OwnMore
namespace Go.Proofs.YtkpdngfkdmllkaaGreatDoor
set_option linter.unusedVariables false
set_option linter.unusedSimpArgs false
open Go.RowKit
set_option maxRecDepth 100000
theorem set_get{α:Type}{l:List α}{k j:Nat}{q r:α}(h:(l.set k q)[j]? = some r):(j=k∧r=q)∨(j≠k∧l[j]? = some r):=by
 by_cases e:j=k
 ·subst e
  rw[List.getElem?_set_self'] at h
  cases hl:l[j]? with
  | none=>rw[hl] at h;cases h
  | some x=>rw[hl] at h;exact .inl ⟨rfl,by simpa using h.symm⟩
 ·rw[List.getElem?_set_ne (fun h=>e h.symm)] at h
  exact .inr ⟨e,h⟩
section
variable {N:Nat} {T E:TypeId} {w w':World} {v:Value} {l:List BlkP}
end
open Go.RowKit Go.Maps
abbrev LKey:TypeId:=9
theorem lKey:Tryz.prog.underlying LKey=some .string:=Tryz.underlying9
structure BM where
 bb:Nat
 lb:Nat
 sb:Nat
 vb:Nat
 nl:Nat
 ns:Nat
 FL:ByteArray→Option Value
 FS:ByteArray→Option Value
structure BP where
 g:Nat
 p:BlkP
abbrev ptrV(g:Nat):Value:=.pointer (some ⟨g,0,none⟩)
def BP.obj(x:BP):Obj:=.cells #[.slice x.p.a x.p.blk.code.length x.p.c,.int .u8 x.p.blk.kind,.int .i64 x.p.blk.x,.int .i64 x.p.blk.to,.int .i64 x.p.blk.els] 98
def curV(G:List Nat):Value:=match G.getLast? with | none=>.pointer none | some g=>ptrV g
abbrev bdObj(m:BM)(R d:Int)(rv cv:Value):Obj:=.cells #[.map (some m.lb),.map (some m.sb),.map (some m.vb),.int .i64 R,.int .i64 d,rv,cv] 111
def varV(V:VM):ByteArray→Option Value:=fun s=>(V s).map fun r=>.int .i64 ((r:Nat):Int)
structure BlksL(B:Nat)(w:World)(L:List BP):Prop where
 obj:∀ x∈L,w.heap[x.g]? = some x.obj∧B≤x.g
 code:∀ x∈L,w.ownsRow B 100 6 x.p.code x.p.blk.code.length (codeCells x.p.blk.code)
 dist:∀ (i j:Nat) (x y:BP),L[i]? = some x→L[j]? = some y→i≠j→x.g≠y.g
 each:∀ (i j:Nat) (x y:BP),L[i]? = some x→L[j]? = some y→i≠j→x.p.code.ownBlock=none∨x.p.code.ownBlock≠y.p.code.ownBlock
 wf:∀ x∈L,x.p.blk.Wf∧∀ i∈x.p.blk.code,i.Wf
structure BdAt(B N:Nat)(m:BM)(E:LEnv)(w:World)(G:List Nat)(bs:List Blk)(R d:Nat)(V:VM):Prop where
 box:∃ rv,w.heap[m.bb]? = some (bdObj m R d rv (curV G))∧w.ownsRow B 109 1 rv G.length (G.map ptrV)
 blks:∃ L,BlksL B w L∧L.map (·.g)=G∧L.map (·.p.blk)=bs
 lens:FMap Tryz.prog LKey w m.lb m.nl m.FL∧∀ s,(m.FL s).getD (.int .i64 0) = .int .i64 (E.len s)
 shs:FMap Tryz.prog LKey w m.sb m.ns m.FS∧∀ s,(m.FS s).getD (.bool false) = .bool (E.sh s)
 vars:FMap Tryz.prog LKey w m.vb N (varV V)
 small:R≤N∧d≤N∧bs.length≤N∧∀ q∈bs,q.code.length≤N
 varN:∀ s r,V s=some r→r<R
 lenI:∀ s,irI64 (E.len s)
 cap:N≤1000000
 up:B≤m.bb∧B≤m.lb∧B≤m.sb∧B≤m.vb∧m.lb≠m.vb∧m.sb≠m.vb∧B≤w.heap.size
def NotL(vb k:Nat):Obj→Prop
 | .cells _ t _=>t≠111∧t≠109∧t≠98∧t≠100
 | .map _ _=>k≠vb
 | _=>True
structure FrL(B:Nat)(m:BM)(w w':World):Prop where
 low:Below B w w'
 still:∀ k o,w.heap[k]? = some o→NotL m.vb k o→w'.heap[k]? = some o
section
variable {B N:Nat} {m:BM} {E:LEnv} {w w' w'':World} {G:List Nat} {bs:List Blk} {R d:Nat} {V:VM} {L:List BP}
theorem FrL.refl:FrL B m w w:=⟨Below.refl _ _,fun _ _ h _=>h⟩
theorem FrL.trans(h:FrL B m w w')(h':FrL B m w' w''):FrL B m w w'':=⟨h.low.trans h'.low,fun k o h1 h2=>h'.still k o (h.still k o h1 h2) h2⟩
theorem FrL.of(h:Below w.heap.size w w')(hB:B≤w.heap.size):FrL B m w w':=⟨h.mono hB,fun _ _ hk _=>mem_keep hk h⟩
theorem BlksL.keep(h:BlksL B w L)(hb:Below w.heap.size w w'):BlksL B w' L:=
 { h with obj:=fun x hx=>⟨mem_keep (h.obj x hx).1 hb,(h.obj x hx).2⟩,code:=fun x hx=>own_below (h.code x hx) hb }
theorem BlksL.move(h:BlksL B w L)(hm:∀ (k:Nat) (o:Obj),w.heap[k]? = some o→(∃ arr f,o=Obj.cells arr 98 f∨o=Obj.cells arr 100 f)→w'.heap[k]? = some o):BlksL B w' L:=
 { h with
  obj:=fun x hx=>⟨hm _ _ (h.obj x hx).1 ⟨_,_,.inl rfl⟩,(h.obj x hx).2⟩
  code:=fun x hx=>own_keep (h.code x hx) (fun k hk hl=>by
   rcases (h.code x hx).2 with⟨e,_⟩|⟨g,cap,cur,e,_,hc,_⟩
   ·rw[e] at hk;cases hk
   ·rw[e] at hk
    cases hk
    rw[hc]
    exact hm _ _ hc ⟨_,_,.inr rfl⟩) }
theorem BdAt.keep(h:BdAt B N m E w G bs R d V)(hb:Below w.heap.size w w'):BdAt B N m E w' G bs R d V:=
 { h with
  box:=by obtain⟨rv,h1,h2⟩:=h.box;exact⟨rv,mem_keep h1 hb,own_below h2 hb⟩
  blks:=by obtain⟨L,h1,h2⟩:=h.blks;exact⟨L,h1.keep hb,h2⟩
  lens:=⟨h.lens.1.below hb,h.lens.2⟩
  shs:=⟨h.shs.1.below hb,h.shs.2⟩
  vars:=h.vars.below hb
  up:=⟨h.up.1,h.up.2.1,h.up.2.2.1,h.up.2.2.2.1,h.up.2.2.2.2.1,h.up.2.2.2.2.2.1,Nat.le_trans h.up.2.2.2.2.2.2 hb.size⟩ }
theorem BdAt.mono{N':Nat}(h:BdAt B N m E w G bs R d V)(hN:N≤N')(hc:N'≤1000000):BdAt B N' m E w G bs R d V:=
 { h with
  vars:=h.vars.mono hN
  cap:=hc
  small:=⟨Nat.le_trans h.small.1 hN,Nat.le_trans h.small.2.1 hN,Nat.le_trans h.small.2.2.1 hN,fun q hq=>Nat.le_trans (h.small.2.2.2 q hq) hN⟩ }
theorem BdAt.lt(h:BdAt B N m E w G bs R d V):m.bb<w.heap.size∧m.vb<w.heap.size∧m.lb<w.heap.size∧m.sb<w.heap.size∧B≤w.heap.size:=by
 obtain⟨rv,h1,_⟩:=h.box
 exact⟨mem_lt h1,h.vars.lt,h.lens.1.lt,h.shs.1.lt,h.up.2.2.2.2.2.2⟩
theorem BdAt.len(h:BdAt B N m E w G bs R d V):G.length=bs.length:=by
 obtain⟨L,_,rfl,rfl⟩:=h.blks
 simp
theorem BdAt.cells(h:BdAt B N m E w G bs R d V):w.cell? ⟨m.bb,0,none⟩=some (.map (some m.lb))∧w.cell? ⟨m.bb,1,none⟩=some (.map (some m.sb))∧w.cell? ⟨m.bb,2,none⟩=some (.map (some m.vb))∧w.cell? ⟨m.bb,3,none⟩=some (.int .i64 (R:Int)) ∧
 w.cell? ⟨m.bb,4,none⟩=some (.int .i64 (d:Int))∧w.cell? ⟨m.bb,6,none⟩=some (curV G)∧∀ j,w.frozen? ⟨m.bb,j,none⟩=false:=by
 obtain⟨rv,h1,_⟩:=h.box
 exact⟨mem_cell h1 0,mem_cell h1 1,mem_cell h1 2,mem_cell h1 3,mem_cell h1 4,mem_cell h1 6,fun j=>mem_free h1 j⟩
theorem BdAt.turn{N' R' d':Nat}(h:BdAt B N m E w G bs R d V)(hw:∀ rv,w.heap[m.bb]? = some (bdObj m R d rv (curV G))→w'.heap[m.bb]? = some (bdObj m R' d' rv (curV G)))(ho:∀ k,k≠m.bb→w'.heap[k]? = w.heap[k]?)(hB:Below m.bb w w')(hN:N≤N')(hc:N'≤1000000)(hR:R≤R'∧R'≤N')(hd:d'≤N') :
 BdAt B N' m E w' G bs R' d' V∧FrL B m w w':=by
 obtain⟨rv,h1,h2⟩:=h.box
 have hbb:∀ {k:Nat} {o:Obj},w.heap[k]? = some o→(∀ arr f,o≠.cells arr 111 f)→w'.heap[k]? = some o:=fun {k o} hk hne=>(ho k (by rintro rfl;rw[h1] at hk;cases hk;exact hne _ _ rfl)).trans hk
 have hlow:Below B w w':=hB.mono h.up.1
 have mv:∀ {b:Nat} {n:Nat} {f:ByteArray→Option Value},FMap Tryz.prog LKey w b n f→FMap Tryz.prog LKey w' b n f:=fun hf=>by
  obtain⟨es,ck,hm⟩:=hf.obj
  exact hf.move ((hbb hm (fun _ _ e=>by cases e)).trans hm.symm)
 refine⟨⟨⟨rv,hw rv h1,own_keep h2 (fun k hk _=>ho k (by rintro rfl;exact own_other h2 h1 (by decide) hk))⟩,?_,⟨mv h.lens.1,h.lens.2⟩,⟨mv h.shs.1,h.shs.2⟩,(mv h.vars).mono hN,
  ⟨hR.2,hd,Nat.le_trans h.small.2.2.1 hN,fun q hq=>Nat.le_trans (h.small.2.2.2 q hq) hN⟩,fun s r hs=>Nat.lt_of_lt_of_le (h.varN s r hs) hR.1,h.lenI,hc,⟨h.up.1,h.up.2.1,h.up.2.2.1,h.up.2.2.2.1,h.up.2.2.2.2.1,h.up.2.2.2.2.2.1,Nat.le_trans h.up.2.2.2.2.2.2 hB.size⟩⟩,⟨hlow,fun k o hk hn=>hbb hk (fun arr f e=>by subst e;exact hn.1 rfl)⟩⟩
 obtain⟨L,h3,h4⟩:=h.blks
 exact⟨L,h3.move (fun k o hk ht=>hbb hk (fun arr f e=>by
  subst e
  obtain⟨arr',f',e|e⟩:=ht
  ·injection e with _ e;exact absurd e (by decide)
  ·injection e with _ e;exact absurd e (by decide))),h4⟩
theorem set_at{α:Type}{l:List α}{k j:Nat}{q r:α}(h:(l.set k q)[j]? = some r):(j=k∧r=q)∨(j≠k∧l[j]? = some r):=set_get h
theorem BlksL.put{i:Nat}{x y:BP}(h:BlksL B w L)(hi:L[i]? = some x)(hg:y.g=x.g)(h1:w'.heap[x.g]? = some y.obj)(hr:w'.ownsRow B 100 6 y.p.code y.p.blk.code.length (codeCells y.p.blk.code))
 (hb:y.p.code.ownBlock=x.p.code.ownBlock∨∃ k,y.p.code.ownBlock=some k∧w.heap.size≤k) (ho:∀ k,k<w.heap.size→k≠x.g→x.p.code.ownBlock≠some k→w'.heap[k]? = w.heap[k]?) (hwf:y.p.blk.Wf∧∀ i∈y.p.blk.code,i.Wf):BlksL B w' (L.set i y):=by
 have hxm:=List.mem_of_getElem? hi
 have hsafe:∀ (j:Nat) (z:BP),L[j]? = some z→j≠i→(w'.heap[z.g]? = some z.obj)∧w'.ownsRow B 100 6 z.p.code z.p.blk.code.length (codeCells z.p.blk.code):=fun j z hz hne=>by
  have hzm:=List.mem_of_getElem? hz
  have hzo:=(h.obj z hzm).1
  refine⟨(ho _ (mem_lt hzo) (h.dist j i z x hz hi hne) (own_other (h.code x hxm) hzo (by decide))).trans hzo,own_keep (h.code z hzm) (fun k hk hl=>ho k hl ?_ ?_)⟩
  ·rintro rfl
   exact own_other (h.code z hzm) (h.obj x hxm).1 (by decide) hk
  ·intro e
   rcases h.each j i z x hz hi hne with e1|e1
   ·rw[hk] at e1;cases e1
   ·exact e1 (by rw[hk,e])
 refine⟨fun z hz=>?_,fun z hz=>?_,fun j k z u hz hu hne=>?_,fun j k z u hz hu hne=>?_,fun z hz=>?_⟩
 ·obtain⟨j,hj⟩:=List.getElem?_of_mem hz
  rcases set_at hj with⟨rfl,rfl⟩|⟨hne,hj⟩
  ·exact⟨by rw[hg];exact h1,by rw[hg];exact (h.obj x hxm).2⟩
  ·exact⟨(hsafe j z hj hne).1,(h.obj z (List.mem_of_getElem? hj)).2⟩
 ·obtain⟨j,hj⟩:=List.getElem?_of_mem hz
  rcases set_at hj with⟨rfl,rfl⟩|⟨hne,hj⟩
  ·exact hr
  ·exact (hsafe j z hj hne).2
 ·rcases set_at hz with⟨rfl,rfl⟩|⟨h2,hz2⟩
  ·rcases set_at hu with⟨rfl,rfl⟩|⟨h3,hu⟩
   ·exact absurd rfl hne
   ·rw[hg];exact h.dist _ _ x u hi hu hne
  ·rcases set_at hu with⟨rfl,rfl⟩|⟨h3,hu⟩
   ·rw[hg];exact h.dist _ _ z x hz2 hi hne
   ·exact h.dist _ _ z u hz2 hu hne
 ·have hlt:∀ {v:BP} {k:Nat},v∈L→v.p.code.ownBlock=some k→k<w.heap.size:=fun hv hk=>(own_lt (h.code _ hv) hk).2
  rcases set_at hz with⟨rfl,rfl⟩|⟨h2,hz2⟩
  ·rcases set_at hu with⟨rfl,rfl⟩|⟨h3,hu⟩
   ·exact absurd rfl hne
   ·rcases hb with hb|⟨k,hb,hk⟩
    ·rw[hb];exact h.each _ _ x u hi hu hne
    ·exact .inr (fun e=>by have:=hlt (List.mem_of_getElem? hu) (e.symm.trans hb);omega)
  ·rcases set_at hu with⟨rfl,rfl⟩|⟨h3,hu⟩
   ·rcases hb with hb|⟨k,hb,hk⟩
    ·rw[hb];exact h.each _ _ z x hz2 hi hne
    ·exact .inr (fun e=>by have:=hlt (List.mem_of_getElem? hz2) (e.trans hb);omega)
   ·exact h.each _ _ z u hz2 hu hne
 ·obtain⟨j,hj⟩:=List.getElem?_of_mem hz
  rcases set_at hj with⟨rfl,rfl⟩|⟨hne,hj⟩
  ·exact hwf
  ·exact h.wf z (List.mem_of_getElem? hj)
theorem BdAt.at_{i g:Nat}{q:Blk}(h:BdAt B N m E w G bs R d V)(hg:G[i]? = some g)(hq:bs[i]? = some q):∃ a c,w.heap[g]? = some (BP.obj ⟨g,⟨q,a,c⟩⟩)∧w.ownsRow B 100 6 (.slice a q.code.length c) q.code.length (codeCells q.code)∧B≤g∧g<w.heap.size∧q.Wf∧(∀ i∈q.code,i.Wf)∧q.code.length≤N:=by
 have hl:=h.small.2.2.2 q (List.mem_of_getElem? hq)
 obtain⟨L,h1,rfl,rfl⟩:=h.blks
 rw[List.getElem?_map] at hg hq
 obtain⟨x,hx,rfl⟩:=Option.map_eq_some_iff.1 hg
 rw[hx] at hq
 obtain rfl:x.p.blk=q:=by simpa using hq
 have hxm:=List.mem_of_getElem? hx
 have h2:=h1.obj x hxm
 exact⟨x.p.a,x.p.c,h2.1,h1.code x hxm,h2.2,mem_lt h2.1,(h1.wf x hxm).1,(h1.wf x hxm).2,hl⟩
theorem BdAt.put{i g c c' N':Nat}{a a':Option Addr}{q q':Blk}(h:BdAt B N m E w G bs R d V)(hg:G[i]? = some g)(hq:bs[i]? = some q)(h0:w.heap[g]? = some (BP.obj ⟨g,⟨q,a,c⟩⟩))(h1:w'.heap[g]? = some (BP.obj ⟨g,⟨q',a',c'⟩⟩))
 (hr:w'.ownsRow B 100 6 (.slice a' q'.code.length c') q'.code.length (codeCells q'.code)) (hb:(Value.slice a' q'.code.length c').ownBlock=(Value.slice a q.code.length c).ownBlock∨∃ k,(Value.slice a' q'.code.length c').ownBlock=some k∧w.heap.size≤k)
 (ho:∀ k,k<w.heap.size→k≠g→(Value.slice a q.code.length c).ownBlock≠some k→w'.heap[k]? = w.heap[k]?) (hB:Below B w w') (hwf:q'.Wf∧∀ i∈q'.code,i.Wf) (hN:N≤N') (hc:N'≤1000000) (hl:q'.code.length≤N') :
 BdAt B N' m E w' G (bs.set i q') R d V∧FrL B m w w':=by
 obtain⟨L,h2,rfl,rfl⟩:=h.blks
 obtain⟨rv,h3,h4⟩:=h.box
 rw[List.getElem?_map] at hg hq
 obtain⟨x,hx,rfl⟩:=Option.map_eq_some_iff.1 hg
 rw[hx] at hq
 obtain rfl:x.p.blk=q:=by simpa using hq
 have hxm:=List.mem_of_getElem? hx
 have hxo:=(h2.obj x hxm).1
 rw[h0] at hxo
 have e1:a=x.p.a∧c=x.p.c:=by
  unfold BP.obj at hxo
  injection hxo with hxo
  injection hxo with hxo
  injection hxo with hxo
  injection hxo with hxo _
  injection hxo with e1 _ e2
  exact⟨e1,e2⟩
 obtain⟨rfl,rfl⟩:=e1
 have hcode:=h2.code x hxm
 have keep:∀ {k:Nat} {o:Obj},w.heap[k]? = some o→(∀ arr f,o≠.cells arr 98 f)→(∀ arr f,o≠.cells arr 100 f)→w'.heap[k]? = some o:=fun {k o} hk n1 n2=>by
  refine (ho k (mem_lt hk) (by rintro rfl;rw[h0] at hk;cases hk;exact n1 _ _ rfl) (fun e=>?_)).trans hk
  rcases hcode.2 with⟨e1,_⟩|⟨g',cap,cur,e1,_,hc1,_⟩
  ·have e:x.p.code.ownBlock=some k:=e
   rw[e1] at e;cases e
  ·have e:x.p.code.ownBlock=some k:=e
   rw[e1] at e
   cases e
   rw[hc1] at hk
   cases hk
   exact n2 _ _ rfl
 have mv:∀ {b:Nat} {n:Nat} {f:ByteArray→Option Value},FMap Tryz.prog LKey w b n f→FMap Tryz.prog LKey w' b n f:=fun hf=>by
  obtain⟨es,ck,hm⟩:=hf.obj
  exact hf.move ((keep hm (fun _ _ e=>by cases e) (fun _ _ e=>by cases e)).trans hm.symm)
 have hi:=(List.getElem?_eq_some_iff.1 hx).1
 refine⟨⟨⟨rv,keep h3 (fun _ _ e=>by injection e with _ e;exact absurd e (by decide)) (fun _ _ e=>by injection e with _ e;exact absurd e (by decide)),own_keep h4 (fun k hk hl=>?_)⟩,⟨L.set i ⟨x.g,⟨q',a',c'⟩⟩,h2.put hx rfl h1 hr hb ho hwf,?_,?_⟩,⟨mv h.lens.1,h.lens.2⟩,⟨mv h.shs.1,h.shs.2⟩,(mv h.vars).mono hN,
  ⟨Nat.le_trans h.small.1 hN,Nat.le_trans h.small.2.1 hN,by rw[List.length_set];exact Nat.le_trans h.small.2.2.1 hN,fun q hq=>?_⟩,h.varN,h.lenI,hc,⟨h.up.1,h.up.2.1,h.up.2.2.1,h.up.2.2.2.1,h.up.2.2.2.2.1,h.up.2.2.2.2.2.1,Nat.le_trans h.up.2.2.2.2.2.2 hB.size⟩⟩,⟨hB,fun k o hk hn=>keep hk (fun arr f e=>by subst e;exact hn.2.2.1 rfl) (fun arr f e=>by subst e;exact hn.2.2.2 rfl)⟩⟩
 ·rcases h4.2 with⟨e1,_⟩|⟨g',cap,cur,e1,_,hc1,_⟩
  ·rw[e1] at hk;cases hk
  ·rw[e1] at hk
   cases hk
   exact (keep hc1 (fun _ _ e=>by injection e with _ e;exact absurd e (by decide)) (fun _ _ e=>by injection e with _ e;exact absurd e (by decide))).trans hc1.symm
 ·rw[List.map_set]
  apply List.ext_getElem?
  intro j
  rw[List.getElem?_set]
  split
  ·rename_i e
   subst e
   rw[if_pos (by simpa using hi),List.getElem?_map,hx];rfl
  ·rfl
 ·rw[List.map_set]
 ·rcases List.mem_or_eq_of_mem_set hq with hq|rfl
  ·exact Nat.le_trans (h.small.2.2.2 q hq) hN
  ·exact hl
theorem opn_wf:(opnB []).Wf:=⟨by decide,by decide,by unfold irI64;decide,by unfold irI64;decide,by unfold irI64;decide⟩
theorem BdAt.push{g N':Nat}{rv rv':Value}(h:BdAt B N m E w G bs R d V)(h0:w.heap[m.bb]? = some (bdObj m R d rv (curV G)))(hro:w.ownsRow B 109 1 rv G.length (G.map ptrV))(hg:w.heap.size≤g)(h1:w'.heap[g]? = some (BP.obj ⟨g,⟨opnB [],none,0⟩⟩))(hbx:w'.heap[m.bb]? = some (bdObj m R d rv' (ptrV g)))
 (hr:w'.ownsRow B 109 1 rv' (G.length+1) (G.map ptrV++[ptrV g])) (ho:∀ k,k<w.heap.size→k≠m.bb→rv.ownBlock≠some k→w'.heap[k]? = w.heap[k]?) (hB:Below B w w') (hN:N+1≤N') (hc:N'≤1000000) :
 BdAt B N' m E w' (G++[g]) (bs++[opnB []]) R d V∧FrL B m w w':=by
 obtain⟨L,h2,hLG,hLb⟩:=h.blks
 have keep:∀ {k:Nat} {o:Obj},w.heap[k]? = some o→(∀ arr f,o≠.cells arr 111 f)→(∀ arr f,o≠.cells arr 109 f)→w'.heap[k]? = some o:=fun {k o} hk n1 n2=>by
  refine (ho k (mem_lt hk) (by rintro rfl;rw[h0] at hk;cases hk;exact n1 _ _ rfl) (fun e=>?_)).trans hk
  rcases hro.2 with⟨e1,_⟩|⟨g',cap,cur,e1,_,hc1,_⟩
  ·rw[e1] at e;cases e
  ·rw[e1] at e
   cases e
   rw[hc1] at hk
   cases hk
   exact n2 _ _ rfl
 have mv:∀ {b:Nat} {n:Nat} {f:ByteArray→Option Value},FMap Tryz.prog LKey w b n f→FMap Tryz.prog LKey w' b n f:=fun hf=>by
  obtain⟨es,ck,hm⟩:=hf.obj
  exact hf.move ((keep hm (fun _ _ e=>by cases e) (fun _ _ e=>by cases e)).trans hm.symm)
 have h3:BlksL B w' L:=h2.move (fun k o hk ht=>keep hk (fun arr f e=>by
  subst e
  obtain⟨arr',f',e|e⟩:=ht
  ·injection e with _ e;exact absurd e (by decide)
  ·injection e with _ e;exact absurd e (by decide)) (fun arr f e=>by
  subst e
  obtain⟨arr',f',e|e⟩:=ht
  ·injection e with _ e;exact absurd e (by decide)
  ·injection e with _ e;exact absurd e (by decide)))
 have hlast:curV (G++[g])=ptrV g:=by unfold curV;simp
 have hnew:∀ (i:Nat) (x:BP),(L++[⟨g,⟨opnB [],none,0⟩⟩])[i]? = some x→L[i]? = some x∨(i=L.length∧x=⟨g,⟨opnB [],none,0⟩⟩):=fun i x hx=>by
  by_cases hl:i<L.length
  ·rw[List.getElem?_append_left hl] at hx;exact .inl hx
  ·rw[List.getElem?_append_right (by omega)] at hx
   have h9:=(List.getElem?_eq_some_iff.1 hx).1
   have h8:i-L.length=0:=by simpa using h9
   rw[h8] at hx
   refine .inr ⟨by omega,by simpa using hx.symm⟩
 have hgl:∀ x∈L,x.g<w.heap.size:=fun x hx=>mem_lt (h2.obj x hx).1
 have hgB:B≤g:=Nat.le_trans h.up.2.2.2.2.2.2 hg
 refine⟨⟨⟨rv',by rw[hlast];exact hbx,by rw[List.length_append,List.map_append];exact hr⟩,⟨L++[⟨g,⟨opnB [],none,0⟩⟩],⟨fun x hx=>?_,fun x hx=>?_,fun i j x y hx hy hne=>?_,fun i j x y hx hy hne=>?_,fun x hx=>?_⟩,by rw[List.map_append,hLG];rfl,by rw[List.map_append,hLb];rfl⟩,⟨mv h.lens.1,h.lens.2⟩,⟨mv h.shs.1,h.shs.2⟩,(mv h.vars).mono (by omega),
  ⟨by have:=h.small.1;omega,by have:=h.small.2.1;omega,by rw[List.length_append];have:=h.small.2.2.1;simp;omega,fun q hq=>?_⟩,h.varN,h.lenI,hc,⟨h.up.1,h.up.2.1,h.up.2.2.1,h.up.2.2.2.1,h.up.2.2.2.2.1,h.up.2.2.2.2.2.1,Nat.le_trans h.up.2.2.2.2.2.2 hB.size⟩⟩,⟨hB,fun k o hk hn=>keep hk (fun arr f e=>by subst e;exact hn.1 rfl) (fun arr f e=>by subst e;exact hn.2.1 rfl)⟩⟩
 ·rcases List.mem_append.1 hx with hx|hx
  ·exact h3.obj x hx
  ·obtain rfl:x=_:=by simpa using hx
   exact⟨h1,hgB⟩
 ·rcases List.mem_append.1 hx with hx|hx
  ·exact h3.code x hx
  ·obtain rfl:x=_:=by simpa using hx
   exact⟨rfl,.inl ⟨rfl,rfl⟩⟩
 ·rcases hnew _ _ hx with hx|⟨rfl,rfl⟩
  ·rcases hnew _ _ hy with hy|⟨rfl,rfl⟩
   ·exact h2.dist i j x y hx hy hne
   ·have:=hgl x (List.mem_of_getElem? hx)
    show x.g≠g
    omega
  ·rcases hnew _ _ hy with hy|⟨rfl,rfl⟩
   ·have:=hgl y (List.mem_of_getElem? hy)
    show g≠y.g
    omega
   ·exact absurd rfl hne
 ·rcases hnew _ _ hx with hx|⟨rfl,rfl⟩
  ·rcases hnew _ _ hy with hy|⟨rfl,rfl⟩
   ·exact h2.each i j x y hx hy hne
   ·cases e:x.p.code.ownBlock with
    | none=>exact .inl rfl
    | some k=>exact .inr (fun e=>by cases e)
  ·exact .inl rfl
 ·rcases List.mem_append.1 hx with hx|hx
  ·exact h3.wf x hx
  ·obtain rfl:x=_:=by simpa using hx
   exact⟨opn_wf,fun i hi=>by cases hi⟩
 ·rcases List.mem_append.1 hq with hq|hq
  ·have:=h.small.2.2.2 q hq;omega
  ·obtain rfl:q=_:=by simpa using hq
   exact Nat.zero_le _
theorem BdAt.var{N':Nat}{V':VM}(h:BdAt B N m E w G bs R d V)(hg:w.grownBy w' (some m.vb))(hm:FMap Tryz.prog LKey w' m.vb N' (varV V'))(hV:∀ s r,V' s=some r→r<R)(hN:N≤N')(hc:N'≤1000000):BdAt B N' m E w' G bs R d V'∧FrL B m w w':=by
 have keep:∀ {k:Nat} {o:Obj},w.heap[k]? = some o→k≠m.vb→w'.heap[k]? = some o:=fun {k o} hk hne=>(hg.block k (mem_lt hk) (fun e=>hne (Option.some.inj e))).trans hk
 obtain⟨es,ck,hmap⟩:=h.vars.obj
 have ncell:∀ {k:Nat} {arr:Array Value} {t:TypeId} {f},w.heap[k]? = some (.cells arr t f)→k≠m.vb:=fun hk e=>by rw[e,hmap] at hk;cases hk
 have hlow:Below B w w':=(Below.refl B w).grown hg h.up.2.2.2.2.2.2 (fun k hk=>by cases hk;exact h.up.2.2.2.1)
 obtain⟨rv,h1,h2⟩:=h.box
 obtain⟨L,h3,h4⟩:=h.blks
 refine⟨⟨⟨rv,keep h1 (ncell h1),own_keep h2 (fun k hk hl=>?_)⟩,⟨L,h3.move (fun k o hk ht=>keep hk (by obtain⟨arr,f,rfl | rfl⟩:=ht <;> exact ncell hk)),h4⟩,⟨h.lens.1.move (hg.block _ h.lens.1.lt (fun e=>h.up.2.2.2.2.1 (Option.some.inj e))),h.lens.2⟩,⟨h.shs.1.move (hg.block _ h.shs.1.lt (fun e=>h.up.2.2.2.2.2.1 (Option.some.inj e))),h.shs.2⟩,hm,
  ⟨Nat.le_trans h.small.1 hN,Nat.le_trans h.small.2.1 hN,Nat.le_trans h.small.2.2.1 hN,fun q hq=>Nat.le_trans (h.small.2.2.2 q hq) hN⟩,hV,h.lenI,hc,⟨h.up.1,h.up.2.1,h.up.2.2.1,h.up.2.2.2.1,h.up.2.2.2.2.1,h.up.2.2.2.2.2.1,Nat.le_trans h.up.2.2.2.2.2.2 hlow.size⟩⟩,⟨hlow,fun k o hk hn=>keep hk (fun e=>?_)⟩⟩
 ·rcases h2.2 with⟨e1,_⟩|⟨g',cap,cur,e1,_,hc1,_⟩
  ·rw[e1] at hk;cases hk
  ·rw[e1] at hk
   cases hk
   exact (keep hc1 (ncell hc1)).trans hc1.symm
 ·subst e
  rw[hmap] at hk
  cases hk
  exact hn rfl
end
set_option maxHeartbeats 4000000
section
variable {B N:Nat} {m:BM} {E:LEnv} {w:World} {G:List Nat} {bs:List Blk} {R d:Nat} {V:VM}
theorem register_any(h:BdAt B N m E w G bs R d V)(hN:N+1≤1000000) :
 Calls Tryz.prog 40 #[ptrV m.bb] w fun e w'=>e = .returned (.int .i64 (R:Int))∧BdAt B (N+1) m E w' G bs (R+1) d V∧FrL B m w w':=by
 have H:=ξ h
 have hR:=h.small.1
 obtain⟨_,_,_,x3,_,_,hz⟩:=h.cells
 obtain⟨W,hW⟩:∃ W:World,w.setCell ⟨m.bb,3,none⟩ (.int .i64 ((R:Int)+1))=W:=⟨_,rfl⟩
 have HT:Hid (BdAt B (N+1) m E W G bs (R+1) d V∧FrL B m w W):=by
  refine H.out.turn (fun rv hrv=>?_) (fun k hk=>?_) ?_ (by omega) hN ⟨by omega,by omega⟩ (by have:=H.out.small.2.1;omega)
  ·rw[←hW,mem_set hrv];rfl
  ·rw[←hW];exact Below.heap_setCell _ _ _ _ hk
  ·rw[←hW];exact (Below.refl _ _).setCell (p:=⟨m.bb,3,none⟩) (Nat.le_refl _) _
 have y3:W.cell? ⟨m.bb,3,none⟩=some (.int .i64 ((R:Int)+1)):=HT.out.1.cells.2.2.2.1
 clear h
 go_enter Tryz.func40,Tryz.ntmps40
 go_wp2_with fail
 go_ret
 exact⟨by simp,HT.out⟩
theorem jump_any{i g:Nat}{q:Blk}{t:Nat}(h:BdAt B N m E w G bs R d V)(hg:G[i]? = some g)(hq:bs[i]? = some q)(ht:t≤1000000) :
 Calls Tryz.prog 99 #[ptrV g,.int .i64 (t:Int)] w fun e w'=>e = .returned (.tuple #[])∧BdAt B N m E w' G (bs.set i { q with kind:=1,«to»:=t }) R d V∧FrL B m w w':=by
 have H:=ξ h
 obtain⟨a,c,h0,hrow,hgB,hgl,hwf,hiw,hlen⟩:=h.at_ hg hq
 have H0:=ξ h0
 have HR:=ξ hrow
 have hz:=mem_free h0
 obtain⟨W1,hW1⟩:∃ W:World,w.setCell ⟨g,1,none⟩ (.int .u8 1)=W:=⟨_,rfl⟩
 obtain⟨W2,hW2⟩:∃ W:World,W1.setCell ⟨g,3,none⟩ (.int .i64 (t:Int))=W:=⟨_,rfl⟩
 have e1:W1.heap[g]? = some (.cells #[.slice a q.code.length c,.int .u8 1,.int .i64 q.x,.int .i64 q.to,.int .i64 q.els] 98):=by rw[←hW1,mem_set h0];rfl
 have e2:W2.heap[g]? = some (BP.obj ⟨g,⟨{ q with kind:=1,«to»:=t },a,c⟩⟩):=by rw[←hW2,mem_set e1];rfl
 have far:∀ k,k≠g→W2.heap[k]? = w.heap[k]?:=fun k hk=>by rw[←hW2,←hW1,Below.heap_setCell _ _ _ _ hk,Below.heap_setCell _ _ _ _ hk]
 have HT:Hid (BdAt B N m E W2 G (bs.set i { q with kind:=1,«to»:=t }) R d V∧FrL B m w W2):=by
  refine H.out.put hg hq h0 e2 ?_ (.inl rfl) (fun k _ hk _=>far k hk) ?_ ⟨⟨by show (0:Int)≤1;decide,by show (1:Int)≤255;decide,hwf.x,by show irI64 (t:Int);unfold irI64;omega,hwf.els⟩,hiw⟩ (Nat.le_refl _) H.out.cap hlen
  ·exact own_keep hrow (fun k hk hl=>far k (by rintro rfl;exact own_other hrow h0 (by decide) hk))
  ·rw[←hW2,←hW1];exact ((Below.refl _ _).setCell (p:=⟨g,1,none⟩) hgB _).setCell (p:=⟨g,3,none⟩) hgB _
 have hz1:=mem_free e1
 have c1:w.cell? ⟨g,1,none⟩=some (.int .u8 q.kind):=mem_cell h0 1
 have c3:W1.cell? ⟨g,3,none⟩=some (.int .i64 q.to):=mem_cell e1 3
 clear h h0 hrow hg hq e1 e2 far hwf hiw
 go_enter Tryz.func99,Tryz.ntmps99
 go_wp2_with fail
 go_end0
 exact⟨rfl,HT.out⟩
theorem branch_any{i g:Nat}{q:Blk}{x:Int}(h:BdAt B N m E w G bs R d V)(hg:G[i]? = some g)(hl:G.length=i+1)(hq:bs[i]? = some q)(hx:irI64 x) :
 Calls Tryz.prog 98 #[ptrV m.bb,.int .i64 x] w fun e w'=>e = .returned (ptrV g)∧BdAt B N m E w' G (bs.set i { q with kind:=2,x:=x }) R d V∧FrL B m w w':=by
 have H:=ξ h
 obtain⟨a,c,h0,hrow,hgB,hgl,hwf,hiw,hlen⟩:=h.at_ hg hq
 have hcur:curV G=ptrV g:=by
  unfold curV
  rw[List.getLast?_eq_getElem?,hl]
  show (match G[i+1-1]? with | none=>_ | some g=>_)=_
  rw[Nat.add_sub_cancel,hg]
 have hz:=mem_free h0
 obtain⟨_,_,_,_,_,x6,hzb⟩:=h.cells
 rw[hcur] at x6
 have hne:m.bb≠g:=fun e=>by
  obtain⟨rv,hb,_⟩:=h.box
  rw[e,h0] at hb
  injection hb with hb
  injection hb with _ hb
  exact absurd hb (by decide)
 obtain⟨W1,hW1⟩:∃ W:World,w.setCell ⟨g,1,none⟩ (.int .u8 2)=W:=⟨_,rfl⟩
 obtain⟨W2,hW2⟩:∃ W:World,W1.setCell ⟨g,2,none⟩ (.int .i64 x)=W:=⟨_,rfl⟩
 have e1:W1.heap[g]? = some (.cells #[.slice a q.code.length c,.int .u8 2,.int .i64 q.x,.int .i64 q.to,.int .i64 q.els] 98):=by rw[←hW1,mem_set h0];rfl
 have e2:W2.heap[g]? = some (BP.obj ⟨g,⟨{ q with kind:=2,x:=x },a,c⟩⟩):=by rw[←hW2,mem_set e1];rfl
 have far1:∀ k,k≠g→W1.heap[k]? = w.heap[k]?:=fun k hk=>by rw[←hW1,Below.heap_setCell _ _ _ _ hk]
 have far:∀ k,k≠g→W2.heap[k]? = w.heap[k]?:=fun k hk=>by rw[←hW2,Below.heap_setCell _ _ _ _ hk];exact far1 k hk
 have y6:W1.cell? ⟨m.bb,6,none⟩=some (ptrV g):=(World.cell?_of_block (a:=⟨m.bb,6,none⟩) (far1 _ hne)).trans x6
 have z6:W2.cell? ⟨m.bb,6,none⟩=some (ptrV g):=(World.cell?_of_block (a:=⟨m.bb,6,none⟩) (far _ hne)).trans x6
 have HT:Hid (BdAt B N m E W2 G (bs.set i { q with kind:=2,x:=x }) R d V∧FrL B m w W2):=by
  refine H.out.put hg hq h0 e2 ?_ (.inl rfl) (fun k _ hk _=>far k hk) ?_ ⟨⟨by show (0:Int)≤2;decide,by show (2:Int)≤255;decide,hx,hwf.to,hwf.els⟩,hiw⟩ (Nat.le_refl _) H.out.cap hlen
  ·exact own_keep hrow (fun k hk hl=>far k (by rintro rfl;exact own_other hrow h0 (by decide) hk))
  ·rw[←hW2,←hW1];exact ((Below.refl _ _).setCell (p:=⟨g,1,none⟩) hgB _).setCell (p:=⟨g,2,none⟩) hgB _
 have hz1:=mem_free e1
 have c1:w.cell? ⟨g,1,none⟩=some (.int .u8 q.kind):=mem_cell h0 1
 have c3:W1.cell? ⟨g,2,none⟩=some (.int .i64 q.x):=mem_cell e1 2
 clear h h0 hrow hg hl hq e1 e2 far far1 hwf hiw hcur hzb hne
 go_enter Tryz.func98,Tryz.ntmps98
 go_wp2_with fail
 go_ret
 exact⟨rfl,HT.out⟩
end
