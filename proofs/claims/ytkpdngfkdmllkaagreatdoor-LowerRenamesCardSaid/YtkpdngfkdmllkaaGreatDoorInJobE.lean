/- Part. -/
import Derived.Test.YtkpdngfkdmllkaaGreatDoorMg17
namespace Go.Proofs.YtkpdngfkdmllkaaGreatDoor
set_option linter.unusedVariables false
set_option linter.unusedSimpArgs false
open Go.RowKit Go.Maps
set_option maxRecDepth 100000
set_option maxHeartbeats 8000000
def Still(v:Nat)(a b:World):Prop:=∀ (k:Nat) (o:Obj),a.heap[k]? = some o→k≠v→b.heap[k]? = some o
theorem Still.refl{v:Nat}{a:World}:Still v a a:=fun _ _ h _=>h
theorem Still.below{v:Nat}{a b c:World}(h:Still v a b)(hB:Below b.heap.size b c):Still v a c:=fun k o hk hne=>mem_keep (h k o hk hne) hB
theorem Still.grown{v:Nat}{a b c:World}(h:Still v a b)(hg:b.grownBy c (some v)):Still v a c:=fun k o hk hne =>
 (hg.block k (mem_lt (h k o hk hne)) (fun e=>hne (Option.some.inj e))).trans (h k o hk hne)
theorem Still.cells{v:Nat}{a b:World}(h:Still v a b){es:Array MapEntry}{ck:Nat}(hm:a.heap[v]? = some (.map es ck)):∀ (k:Nat) arr t,a.heap[k]? = some (.cells arr t)→b.heap[k]? = some (.cells arr t):=fun k arr t hk =>
 h k _ hk (fun e=>by rw[e,hm] at hk;cases hk)
structure C6(w:World)(a b c d e f:Addr)(u v x y z q:Value):Prop where
 c1:w.cell? a=some u
 c2:w.cell? b=some v
 c3:w.cell? c=some x
 c4:w.cell? d=some y
 c5:w.cell? e=some z
 c6:w.cell? f=some q
theorem C6.move{w w':World}{a b c d e f:Addr}{u v x y z q:Value}(h:C6 w a b c d e f u v x y z q)(hm:∀ (p:Addr) (v:Value),w.cell? p=some v→w'.cell? p=some v):C6 w' a b c d e f u v x y z q:=
 ⟨hm _ _ h.c1,hm _ _ h.c2,hm _ _ h.c3,hm _ _ h.c4,hm _ _ h.c5,hm _ _ h.c6⟩
theorem grown_cells{w w':World}{b:Nat}(hg:w.grownBy w' (some b)){es:Array MapEntry}{ck:Nat}(hb:w.heap[b]? = some (.map es ck))(p:Addr)(v:Value)(h:w.cell? p=some v):w'.cell? p=some v:=by
 refine (World.cell?_of_block (w:=w) (hg.block p.block (World.block_lt_of_cell? w _ h) (fun e=>?_))).trans h
 have e:p.block=b:=Option.some.inj e
 unfold World.cell? at h
 rw[e,hb] at h
 cases h
theorem named_at{α:Type}{D:List Arr}{L:List α}{k:Nat}{x:Arr}{u:α}(h1:D[k]? = some x)(h2:L[k]? = some u):(named D L)[k]? = some (x.name,u):=by
 unfold named
 rw[List.getElem?_zip_eq_some]
 exact⟨by rw[List.getElem?_map,h1];rfl,h2⟩
theorem named_get{α:Type}{D:List Arr}{L:List α}{k:Nat}{nm:ByteArray}{u:α}(h:(named D L)[k]? = some (nm,u)):∃ x,D[k]? = some x∧x.name=nm∧L[k]? = some u:=by
 unfold named at h
 rw[List.getElem?_zip_eq_some] at h
 obtain⟨h1,h2⟩:=h
 rw[List.getElem?_map] at h1
 obtain⟨x,hx,e⟩:=Option.map_eq_some_iff.1 h1
 exact⟨x,hx,e,h2⟩
theorem named_len{α:Type}{D:List Arr}{L:List α}(h:D.length=L.length):(named D L).length=D.length:=by
 unfold named
 rw[List.length_zip,List.length_map]
 omega
theorem named_two{α:Type}{D E:List Arr}{L K:List α}(h:D.length=L.length):named (D++E) (L++K)=named D L++named E K:=by
 unfold named
 rw[List.map_append,List.zip_append (by rw[List.length_map];exact h)]
theorem take_at{α:Type}{l:List α}{k:Nat}{x:α}(h:l[k]? = some x):l.take (k+1)=l.take k++[x]:=by rw[List.take_add_one,h];rfl
theorem rows_of{B:Nat}{w:World}{D:List Arr}{vs:List Value}{L:List (List Int)}(hl:D.length=L.length)(hv:vs.length=L.length)
 (hr:∀ (k:Nat) (r:List Int),L[k]? = some r→∃ u,vs[k]? = some u∧1≤r.length∧r.length≤1000000∧w.ownsRow B 21 1 u r.length (i32s r)):RowsI B w (fP (named D vs)) (fP (named D L)):=by
 intro nm
 rcases fP_two (l:=named D L) (l':=named D vs) (by rw[named_names hl,named_names (by omega)]) nm with⟨h1,h2⟩|⟨k,a,b,h1,h2,h3,h4⟩
 ·rw[h1];exact h2
 ·rw[h3]
  obtain⟨_,_,_,hL⟩:=named_get h1
  obtain⟨_,_,_,hV⟩:=named_get h2
  obtain⟨u,e1,e2,e3,e4⟩:=hr k a hL
  rw[hV] at e1
  cases e1
  obtain⟨ua,uc,rfl⟩:=own_val e4
  obtain⟨g,rfl,_⟩:=own_at e4 (by omega)
  exact⟨g,uc,h4,e3,e4⟩
theorem apart_of{D:List Arr}{vs:List Value}(h:∀ (k k':Nat) (u u':Value) (b:Nat),vs[k]? = some u→vs[k']? = some u'→u.ownBlock=some b→u'.ownBlock=some b→k=k'):Apart (fP (named D vs)):=fun nm nm' g n c n' c' h1 h2=>by
 obtain⟨k,hk⟩:=fP_mem h1
 obtain⟨k',hk'⟩:=fP_mem h2
 obtain⟨x,e1,e2,e3⟩:=named_get hk
 obtain⟨x',e1',e2',e3'⟩:=named_get hk'
 have:=h k k' _ _ g e3 e3' rfl rfl
 subst this
 rw[e1] at e1'
 cases e1'
 rw[←e2,←e2']
theorem rows_end{B:Nat}{w:World}{D:List Arr}{vs:List Value}{A:AF}(hn:(D.map (·.name)).Nodup)(hl:D.length=vs.length)(hR:RowsI B w (fP (named D vs)) A){k:Nat}{x:Arr}(hx:D[k]? = some x) :
 ∃ l g c,A x.name=some l∧vs[k]? = some (.slice (some ⟨g,0,none⟩) l.length c)∧l.length≤1000000∧w.ownsRow B 21 1 (.slice (some ⟨g,0,none⟩) l.length c) l.length (i32s l):=by
 have hk:=(List.getElem?_eq_some_iff.1 hx).1
 obtain⟨u,hu⟩:∃ u,vs[k]? = some u:=⟨_,List.getElem?_eq_getElem (by omega)⟩
 have hg:=fP_nodup (l:=named D vs) (by rw[named_names hl];exact hn) (named_at hx hu)
 have h1:=hR x.name
 cases hA:A x.name with
 | none=>rw[hA] at h1;have h1:fP (named D vs) x.name=none:=h1;rw[hg] at h1;cases h1
 | some l =>
  rw[hA] at h1
  obtain⟨g,c,h2,h3,h4⟩:=h1
  rw[hg] at h2
  cases h2
  exact⟨l,g,c,rfl,hu,h3,h4⟩
theorem getA_at{A:AF}{D:List Arr}{k:Nat}{r:List Int}(h:(getA A D)[k]? = some r):∃ x,D[k]? = some x∧r=(A x.name).getD []:=by
 unfold getA at h
 rw[List.getElem?_map] at h
 obtain⟨x,hx,e⟩:=Option.map_eq_some_iff.1 h
 exact⟨x,hx,e.symm⟩
theorem getA_len{A:AF}{D:List Arr}:(getA A D).length=D.length:=by unfold getA;rw[List.length_map]
theorem cont_end{N:Nat}{w:World}{a:Option Addr}{c n:Nat}{vs:List Value}{L:List (List Int)}(ho:w.ownsRow N 30 1 (.slice a n c) n vs)(hv:vs.length=n)(hl:L.length=n)(hn:n≤1000000)
 (hr:∀ (k:Nat) (r:List Int),L[k]? = some r→∃ u,vs[k]? = some u∧(∀ x∈r,Wd.W x)∧∃ B,w.ownsRow B 21 1 u r.length (i32s r)):ContAt w a L:=by
 refine⟨by omega,?_⟩
 by_cases h0:n=0
 ·exact .inl (by omega)
 ·obtain⟨g,rfl,_⟩:=own_at ho (by omega)
  refine .inr ⟨g,0,rfl,fun k r hk=>?_⟩
  obtain⟨u,hu,hW,B,hB⟩:=hr k r hk
  obtain⟨ua,uc,e⟩:=own_val hB
  subst e
  rw[Nat.zero_add]
  exact⟨ua,uc,own_get ho hu,(own_words hB hW).2⟩
theorem cont_own{N:Nat}{w:World}{a:Option Addr}{c n:Nat}{vs:List Value}{L:List (List Int)}(h:LOwn N w (.slice a n c) vs L)(hn:n=L.length)(hl:n≤1000000)(hW:∀ r∈L,∀ x∈r,Wd.W x):ContAt w a L:=by
 subst hn
 exact cont_end h.ro h.len rfl hl (fun k r hk=>by
  obtain⟨u,h1,h2⟩:=h.ri k r hk
  exact⟨u,h1,hW r (List.mem_of_getElem? hk),N,h2⟩)
theorem cont3_end{N:Nat}{w:World}{a:Option Addr}{c n:Nat}{vs:List Value}{L:List (List (List Int))}(ho:w.ownsRow N 27 1 (.slice a n c) n vs)(hl:L.length=n)(hn:n≤1000000)
 (hr:∀ (k:Nat) (r:List (List Int)),L[k]? = some r→∃ ua uc,vs[k]? = some (.slice ua r.length uc)∧(ua=none→uc=0)∧ContAt w ua r):Cont3At w a L:=by
 refine⟨by omega,?_⟩
 by_cases h0:n=0
 ·exact .inl (by omega)
 ·obtain⟨g,rfl,_⟩:=own_at ho (by omega)
  refine .inr ⟨g,0,rfl,fun k r hk=>?_⟩
  obtain⟨ua,uc,hu,h1,h2⟩:=hr k r hk
  rw[Nat.zero_add]
  exact⟨ua,uc,own_get ho hu,h1,h2⟩
theorem own_none{N:Nat}{w:World}{e:TypeId}{size n c m:Nat}{xs:List Value}(h:w.ownsRow N e size (.slice none m c) n xs):c=0:=by
 rcases h.2 with⟨h1,_⟩|⟨g,cap,cur,h1,_⟩
 ·cases h1;rfl
 ·cases h1
theorem words_low{w:World}{a:Option Addr}{l:List Int}(h:WordsAt w a l):I32R w.heap.size w a l:=fun i hi=>by
 rcases h.at_ with h0|⟨b,off,ha,hk⟩
 ·omega
 ·have h1:=hk i (l.getD i 0) (by rw[List.getD_eq_getElem?_getD,List.getElem?_eq_getElem hi];rfl)
  exact⟨b,off,ha,World.block_lt_of_cell? _ _ h1,h1⟩
theorem cont_words{w:World}{a:Option Addr}{l:List (List Int)}(h:ContAt w a l):∀ r∈l,∀ x∈r,Wd.W x:=fun r hr=>by
 obtain⟨k,hk⟩:=List.getElem?_of_mem hr
 obtain⟨_,_,_,_,_,_,_,hw⟩:=h.row hk
 exact hw.words
theorem cont3_words{w:World}{a:Option Addr}{l:List (List (List Int))}(h:Cont3At w a l):∀ q∈l,∀ r∈q,∀ x∈r,Wd.W x:=fun q hq=>by
 obtain⟨k,hk⟩:=List.getElem?_of_mem hq
 obtain⟨_,_,_,_,_,_,_,hw⟩:=h.row hk
 exact cont_words hw
theorem start_rows{w:World}{B N1 N2:Nat}{D1 D2:List Arr}{u1 u2:Value}{v1 v2:List Value}{L1 L2:List (List Int)}(h1:LOwn N1 w u1 v1 L1)(h2:LOwn N2 w u2 v2 L2)(hB1:B≤N1)(hB2:B≤N2)(d1:D1.length=L1.length)(d2:D2.length=L2.length)
 (s1:∀ r∈L1,1≤r.length∧r.length≤32) (s2:∀ r∈L2,1≤r.length∧r.length≤32) (hap:∀ (k k':Nat) (z z':Value) (b:Nat),v1[k]? = some z→v2[k']? = some z'→z.ownBlock=some b→z'.ownBlock=some b→False) :
 RowsI B w (fP (named D1 v1++named D2 v2)) (fP (named D1 L1++named D2 L2))∧Apart (fP (named D1 v1++named D2 v2)):=by
 rw[←named_two (by rw[h1.len];exact d1),←named_two d1]
 have at_:∀ {k:Nat} {z:Value},(v1++v2)[k]? = some z→(k<v1.length∧v1[k]? = some z)∨(v1.length≤k∧v2[k-v1.length]? = some z):=fun {k z} hk=>by
  by_cases hlt:k<v1.length
  ·rw[List.getElem?_append_left hlt] at hk;exact .inl ⟨hlt,hk⟩
  ·rw[List.getElem?_append_right (by omega)] at hk;exact .inr ⟨by omega,hk⟩
 refine⟨rows_of (by simp[d1,d2]) (by simp[h1.len,h2.len]) (fun k r hk=>?_),apart_of (fun k k' u u' b hk hk' hb hb'=>?_)⟩
 ·have hl:=h1.len
  by_cases hlt:k<L1.length
  ·rw[List.getElem?_append_left hlt] at hk
   obtain⟨u,e1,e2⟩:=h1.ri k r hk
   have:=s1 r (List.mem_of_getElem? hk)
   exact⟨u,by rw[List.getElem?_append_left (by omega)];exact e1,by omega,by omega,own_down e2 hB1⟩
  ·rw[List.getElem?_append_right (by omega)] at hk
   obtain⟨u,e1,e2⟩:=h2.ri _ r hk
   have:=s2 r (List.mem_of_getElem? hk)
   exact⟨u,by rw[List.getElem?_append_right (by omega),hl];exact e1,by omega,by omega,own_down e2 hB2⟩
 ·rcases at_ hk with⟨q1,q2⟩|⟨q1,q2⟩
  ·rcases at_ hk' with⟨p1,p2⟩|⟨p1,p2⟩
   ·exact h1.apart k k' u u' b q2 p2 hb hb'
   ·exact (hap _ _ _ _ b q2 p2 hb hb').elim
  ·rcases at_ hk' with⟨p1,p2⟩|⟨p1,p2⟩
   ·exact (hap _ _ _ _ b p2 q2 hb' hb).elim
   ·have:=h2.apart _ _ u u' b q2 p2 hb hb'
    omega
theorem start_fit{D1 D2:List Arr}{L1 L2:List (List Int)}(h1:∀ r∈L1,∀ x∈r,Wd.W x)(h2:∀ r∈L2,∀ x∈r,Wd.W x):∀ nm l,fP (named D1 L1++named D2 L2) nm=some l→∀ x∈l,Wd.W x:=fun nm l h=>by
 obtain⟨k,hk⟩:=fP_mem h
 rcases List.mem_append.1 (List.mem_of_getElem? hk) with hm|hm
 ·obtain⟨j,hj⟩:=List.getElem?_of_mem hm
  obtain⟨_,_,_,e⟩:=named_get hj
  exact h1 l (List.mem_of_getElem? e)
 ·obtain⟨j,hj⟩:=List.getElem?_of_mem hm
  obtain⟨_,_,_,e⟩:=named_get hj
  exact h2 l (List.mem_of_getElem? e)
theorem end_mem{w:World}{B N1 N2 N3 N4:Nat}{D1 D2:List Arr}{M:Mem}{i:Nat}{ri:List (List Int)}{sva ua va:Option Addr}{svc uc vc:Nat}{v1 uq vs:List Value}{A:AF}
 (hi:M.arrays[i]? = some ri) (d1:D1.length=M.shared.length) (d2:D2.length=ri.length) (hv1:v1.length=M.shared.length) (hv2:uq.length=ri.length) (m1:M.shared.length≤1000000) (m2:ri.length≤1000000) (m3:M.arrays.length≤1000000)
 (hn:((D1++D2).map (·.name)).Nodup) (hR:RowsI B w (fP (named D1 v1++named D2 uq)) A) (fit:∀ nm l,A nm=some l→∀ x∈l,Wd.W x)
 (o1:w.ownsRow N1 30 1 (.slice sva M.shared.length svc) M.shared.length v1) (o2:w.ownsRow N2 30 1 (.slice ua ri.length uc) ri.length uq) (o3:w.ownsRow N3 27 1 (.slice va M.arrays.length vc) M.arrays.length vs)
 (hvi:vs[i]? = some (.slice ua ri.length uc)) (hoth:∀ (k:Nat) (r:List (List Int)),k≠i→M.arrays[k]? = some r→∃ a c q,vs[k]? = some (.slice a r.length c)∧LOwn N4 w (.slice a r.length c) q r∧r.length≤1000000∧∀ l∈r,∀ x∈l,Wd.W x) :
 MemAt w ⟨M.arrays.set i (getA A D2),getA A D1⟩ va sva:=by
 rw[←named_two (by omega)] at hR
 have hend:=fun {k:Nat} {x:Arr} (hx:(D1++D2)[k]? = some x)=>rows_end (B:=B) (w:=w) (vs:=v1++uq) (A:=A) hn (by simp;omega) hR hx
 have hil:=(List.getElem?_eq_some_iff.1 hi).1
 constructor
 ·refine cont3_end o3 (by simp) m3 (fun k r hk=>?_)
  have hk:(M.arrays.set i (getA A D2))[k]? = some r:=hk
  by_cases e:k=i
  ·subst e
   rw[List.getElem?_set_self hil] at hk
   cases hk
   refine⟨ua,uc,by rw[hvi,getA_len,d2],fun h=>by subst h;exact own_none o2,cont_end o2 hv2 (by rw[getA_len];exact d2) m2 (fun j r hj=>?_)⟩
   obtain⟨x,hx,rfl⟩:=getA_at hj
   have hjl:=(List.getElem?_eq_some_iff.1 hx).1
   obtain⟨l,g,c,e1,e2,e3,e4⟩:=hend (k:=D1.length+j) (x:=x) (by rw[List.getElem?_append_right (by omega),Nat.add_sub_cancel_left];exact hx)
   rw[List.getElem?_append_right (by omega),hv1,←d1,Nat.add_sub_cancel_left] at e2
   rw[e1]
   exact⟨_,e2,fit _ _ e1,B,e4⟩
  ·rw[List.getElem?_set_ne (fun h=>e h.symm)] at hk
   obtain⟨a,c,q,e1,e2,e3,e4⟩:=hoth k r e hk
   exact⟨a,c,e1,fun h=>by subst h;exact own_none e2.ro,cont_own e2 rfl e3 e4⟩
 ·refine cont_end o1 hv1 (by rw[getA_len];exact d1) m1 (fun j r hj=>?_)
  obtain⟨x,hx,rfl⟩:=getA_at hj
  have hjl:=(List.getElem?_eq_some_iff.1 hx).1
  obtain⟨l,g,c,e1,e2,e3,e4⟩:=hend (k:=j) (x:=x) (by rw[List.getElem?_append_left hjl];exact hx)
  rw[List.getElem?_append_left (by omega)] at e2
  rw[e1]
  exact⟨_,e2,fit _ _ e1,B,e4⟩
def ContTy(w:World)(a:Option Addr)(n:Nat):Prop:=n=0∨∃ b off arr,a=some ⟨b,off,none⟩∧w.heap[b]? = some (.cells arr 30)
def MemTy(w:World)(M:Mem)(aa sa:Option Addr):Prop:=(M.arrays.length=0∨∃ b off arr,aa=some ⟨b,off,none⟩∧w.heap[b]? = some (.cells arr 27)) ∧
 (∀ (k:Nat) (r:List (List Int)),M.arrays[k]? = some r→∀ b off,aa=some ⟨b,off,none⟩→∀ ra n rc,w.cell? ⟨b,off+k,none⟩=some (.slice ra n rc)→ContTy w ra r.length)∧ContTy w sa M.shared.length
theorem own_ty{N:Nat}{w:World}{a:Option Addr}{n c:Nat}{vs:List Value}(h:w.ownsRow N 30 1 (.slice a n c) n vs):ContTy w a n:=by
 by_cases h0:n=0
 ·exact .inl h0
 ·obtain⟨b,rfl,_⟩:=own_at h (by omega)
  obtain⟨arr,ha⟩:=own_new h rfl
  exact .inr ⟨b,0,arr,rfl,ha⟩
theorem end_ty{w:World}{N1 N2 N3 N4:Nat}{M:Mem}{i:Nat}{ri X Y:List (List Int)}{sva ua va:Option Addr}{svc uc vc:Nat}{v1 uq vs:List Value}(hi:M.arrays[i]? = some ri)(hX:X.length=ri.length)(hY:Y.length=M.shared.length)
 (o1:w.ownsRow N1 30 1 (.slice sva M.shared.length svc) M.shared.length v1) (o2:w.ownsRow N2 30 1 (.slice ua ri.length uc) ri.length uq) (o3:w.ownsRow N3 27 1 (.slice va M.arrays.length vc) M.arrays.length vs)
 (hvi:vs[i]? = some (.slice ua ri.length uc)) (hoth:∀ (k:Nat) (r:List (List Int)),k≠i→M.arrays[k]? = some r→∃ a c q,vs[k]? = some (.slice a r.length c)∧LOwn N4 w (.slice a r.length c) q r∧r.length≤1000000∧∀ l∈r,∀ x∈l,Wd.W x) :
 MemTy w ⟨M.arrays.set i X,Y⟩ va sva:=by
 have hil:=(List.getElem?_eq_some_iff.1 hi).1
 refine⟨?_,fun k r hk b off hva ra n rc hc=>?_,by show ContTy w sva Y.length;rw[hY];exact own_ty o1⟩
 ·right
  obtain⟨b,rfl,_⟩:=own_at o3 (by omega)
  obtain⟨arr,ha⟩:=own_new o3 rfl
  exact⟨b,0,arr,rfl,ha⟩
 ·have hk:(M.arrays.set i X)[k]? = some r:=hk
  have hkl:=(List.getElem?_eq_some_iff.1 hk).1
  rw[List.length_set] at hkl
  obtain⟨b',hva',_⟩:=own_at o3 (by omega)
  rw[hva] at hva'
  cases hva'
  rw[hva] at o3
  rw[Nat.zero_add] at hc
  by_cases e:k=i
  ·subst e
   rw[List.getElem?_set_self hil] at hk
   cases hk
   rw[own_get o3 hvi] at hc
   cases hc
   rw[hX]
   exact own_ty o2
  ·rw[List.getElem?_set_ne (fun h=>e h.symm)] at hk
   obtain⟨a,c,q,e1,e2,_⟩:=hoth k r e hk
   rw[own_get o3 e1] at hc
   cases hc
   exact own_ty e2.ro
theorem C6.set{w:World}{a b c d e f:Addr}{u v x y z q n:Value}{k i:Nat}(h:C6 w a b c d e f u v x y z q)(ha:a.block≠k)(hb:b.block≠k)(hc:c.block≠k)(hd:d.block≠k)(he:e.block≠k)(hf:f.block≠k):C6 (w.setCell ⟨k,i,none⟩ n) a b c d e f u v x y z q:=
 ⟨(World.cell?_of_block (w:=w) (Below.heap_setCell _ _ _ _ ha)).trans h.c1,(World.cell?_of_block (w:=w) (Below.heap_setCell _ _ _ _ hb)).trans h.c2,(World.cell?_of_block (w:=w) (Below.heap_setCell _ _ _ _ hc)).trans h.c3,(World.cell?_of_block (w:=w) (Below.heap_setCell _ _ _ _ hd)).trans h.c4,(World.cell?_of_block (w:=w) (Below.heap_setCell _ _ _ _ he)).trans h.c5,(World.cell?_of_block (w:=w) (Below.heap_setCell _ _ _ _ hf)).trans h.c6⟩
theorem StAt.far{B K:Nat}{m:IM}{F:Int}{inp:List Int}{w w':World}{s:St}{ov:Value}(h:StAt B K m F inp w s ov)(hf:FrI B m w w'){k:Nat}{arr:Array Value}{t:TypeId}(hk:w.heap[k]? = some (.cells arr t))(h1:t≠71)(h2:t≠21)(h3:t≠64):w'.heap[k]? = some (.cells arr t):=by
 obtain⟨k',_,h4,_⟩:=h.cnt
 obtain⟨es,ck,hm⟩:=h4.obj
 refine hf.still k _ hk (fun e=>?_) (fun e=>?_) (fun nm g n c hG e=>?_) h3
 ·rw[e,h.box] at hk;cases hk;exact h1 rfl
 ·rw[e,hm] at hk;cases hk
 ·obtain⟨l,_,_,_,_,hr⟩:=h.rows.row hG
  obtain⟨cur,hc⟩:=row_obj hr
  rw[e,hc] at hk
  cases hk
  exact h2 rfl
theorem StAt.far_row{B K:Nat}{m:IM}{F:Int}{inp:List Int}{w w':World}{s:St}{ov:Value}(h:StAt B K m F inp w s ov)(hf:FrI B m w w'){k:Nat}{arr:Array Value}(hk:w.heap[k]? = some (.cells arr 21))(hn:NoRow m.G k):w'.heap[k]? = some (.cells arr 21):=by
 obtain⟨k',_,h4,_⟩:=h.cnt
 obtain⟨es,ck,hm⟩:=h4.obj
 refine hf.still k _ hk (fun e=>?_) (fun e=>?_) hn (by show 21≠64;decide)
 ·rw[e,h.box] at hk;cases hk
 ·rw[e,hm] at hk;cases hk
theorem own_cells{N:Nat}{w w':World}{e:TypeId}{size n:Nat}{v:Value}{xs:List Value}(h:w.ownsRow N e size v n xs)(hm:∀ (k:Nat) arr,v.ownBlock=some k→w.heap[k]? = some (.cells arr e)→w'.heap[k]? = some (.cells arr e)):w'.ownsRow N e size v n xs:=
 own_keep h (fun k hk _=>by obtain⟨arr,ha⟩:=own_new h hk;exact (hm k arr hk ha).trans ha.symm)
