/- Part. -/
import Derived.Test.YtkpdngfkdmllkaaGreatDoorMg41
namespace Go.Proofs.YtkpdngfkdmllkaaGreatDoor
set_option linter.unusedVariables false
set_option linter.unusedSimpArgs false
open Go.RowKit
set_option maxRecDepth 100000
def deepL(k:Int)(d:Nat):Nat:=if k=42∨k=43 then d+1 else d
def Tree.loops:Tree→Nat→List (Nat×Int)
 | .node k n s l kid=>fun d=>(if k=42∨k=43 then [(d,n)] else [])++catTo (fun i=>if h:i<l then loops (kid ⟨i,h⟩) (deepL k d) else []) l
def CalmL(i:Ins):Prop:=i.op≠13∧i.op≠14∧i.op≠16
theorem calmL_ins{op d x y imm:Int}{s:ByteArray}(h:op≠13∧op≠14∧op≠16):CalmL (insB op d x y imm s):=h
theorem lowB_calmL{E:LEnv}{V:VM}{k n:Int}{s:ByteArray}{f0 f1:Nat→LE}(h0:∀ R,∀ i∈(f0 R).code,CalmL i)(h1:∀ R,∀ i∈(f1 R).code,CalmL i)(R:Nat):∀ i∈(lowB E V k n s f0 f1 R).code,CalmL i:=by
 intro i hi
 unfold lowB at hi
 split at hi
 ·simp only[List.mem_cons,List.not_mem_nil,or_false] at hi;subst hi;exact calmL_ins (by decide)
 split at hi
 ·cases hi
 split at hi
 ·simp only[List.mem_append,List.mem_cons,List.not_mem_nil,or_false] at hi
  rcases hi with hi|rfl|rfl
  ·exact h0 _ _ hi
  ·exact calmL_ins (by decide)
  ·by_cases h:E.sh s=true
   ·simp only[h,if_true];exact calmL_ins (by decide)
   ·rw[if_neg h];exact calmL_ins (by decide)
 split at hi
 ·simp only[List.mem_append,List.mem_cons,List.not_mem_nil,or_false] at hi
  rcases hi with hi|rfl|rfl
  ·exact h0 _ _ hi
  ·exact calmL_ins (by decide)
  ·exact calmL_ins (by decide)
 split at hi
 ·simp only[List.mem_append,List.mem_cons,List.not_mem_nil,or_false] at hi
  rcases hi with hi|rfl|rfl
  ·exact h0 _ _ hi
  ·exact calmL_ins (by decide)
  ·exact calmL_ins (by decide)
 ·simp only[List.mem_append,List.mem_cons,List.not_mem_nil,or_false] at hi
  rcases hi with (hi|hi)|rfl
  ·exact h0 _ _ hi
  ·exact h1 _ _ hi
  ·exact calmL_ins (by decide)
theorem lowE_calmL(E:LEnv)(V:VM):∀ (t:Tree) (R:Nat),∀ i∈(t.lowE E V R).code,CalmL i:=by
 intro t
 induction t using Tree.ind with
 | h t ih =>
  intro R
  rw[Tree.lowE_eq]
  refine lowB_calmL (fun R i hi=>?_) (fun R i hi=>?_) R
  ·by_cases h:0<t.len
   ·rw[if_pos h] at hi;exact ih 0 h R i hi
   ·rw[if_neg h] at hi;cases hi
  ·by_cases h:1<t.len
   ·rw[if_pos h] at hi;exact ih 1 h R i hi
   ·rw[if_neg h] at hi;cases hi
theorem kidLE_calmL(E:LEnv)(t:Tree)(j:Nat)(V:VM)(R:Nat):∀ i∈(kidLE E t j V R).code,CalmL i:=by
 intro i hi
 unfold kidLE at hi
 by_cases h:j<t.len
 ·rw[if_pos h] at hi;exact lowE_calmL E V _ _ i hi
 ·rw[if_neg h] at hi;cases hi
section
variable {f:Ins→Bool} {P:Nat×Int→Bool}
structure CntL(f:Ins→Bool)(P:Nat×Int→Bool):Prop where
 calm:∀ i,CalmL i→f i=false
 three:∀ (d:Nat) (n:Int),[insB 13 0 0 0 d noB,insB 16 0 d 0 n noB,insB 14 0 0 0 d noB].countP f = [(d,n)].countP P
theorem CntL.zero(h:CntL f P){l:List Ins}(hl:∀ i∈l,CalmL i):l.countP f=0:=by
 rw[List.countP_eq_zero]
 intro i hi
 rw[h.calm i (hl i hi)]
 decide
theorem CntL.one(h:CntL f P){i:Ins}(hl:CalmL i):[i].countP f=0:=h.zero (fun x hx=>by obtain rfl:=List.mem_singleton.1 hx;exact hl)
end
def CalmM(i:Ins):Prop:=i.op≠14∧i.op≠16
def ClosedAt(B:List Blk)(b:Nat)(n:Int):Prop:=∃ y∈B,y.kind=1∧(∃ z,y.code.getLast? = some z∧z.op=14∧z.imm=n)∧∃ h,B[y.to.toNat]? = some h∧h.kind=2∧(h.to=(b:Nat)∨h.els=(b:Nat))
def InsFine(B:List Blk)(b:Nat)(x:Blk)(i:Nat)(z:Ins):Prop:=(z.op=16→i=0∧ClosedAt B b z.x)∧(z.op=14→i+1=x.code.length∧x.kind=1∧∃ h,B[x.to.toNat]? = some h∧h.kind=2)
theorem InsFine.calm{B:List Blk}{b:Nat}{x:Blk}{i:Nat}{z:Ins}(h:CalmM z):InsFine B b x i z:=⟨fun e=>absurd e h.2,fun e=>absurd e h.1⟩
structure PosL(B:List Blk)(k:Nat)(c:List Ins)(s:LS):Prop where
 none:s.done = []→∃ c',s.code=c++c'∧∀ i∈c',CalmM i
 some:s.done≠[]→(∀ i∈s.code,CalmM i)∧∃ x0 c1,s.done[0]? = .some x0∧x0.code=c++c1
 fine:∀ j x,s.done[j]? = .some x→∀ i z,x.code[i]? = .some z→(j=0→c.length≤i)→InsFine B (k+j) x i z
def InB18(B:List Blk)(k:Nat)(s:LS):Prop:=∀ i x,s.done[i]? = .some x→B[k+i]? = .some x
theorem PosL.next{B:List Blk}{k:Nat}{c:List Ins}{q:LS}{f:LF}(h1:PosL B k c q)(h2:PosL B (k+q.done.length) q.code (f (k+q.done.length) q.code q.regs q.vars)):PosL B k c (q.next k f):=by
 obtain⟨s,hs⟩:∃ s,f (k+q.done.length) q.code q.regs q.vars=s:=⟨_,rfl⟩
 unfold LS.next
 rw[hs] at h2⊢
 dsimp only
 refine⟨fun h=>?_,fun h=>?_,fun j x hj i z hz hi=>?_⟩
 ·obtain⟨e1,e2⟩:=List.append_eq_nil_iff.1 h
  obtain⟨c1,a1,a2⟩:=h1.none e1
  obtain⟨c2,b1,b2⟩:=h2.none e2
  refine⟨c1++c2,by show s.code=_;rw[b1,a1,List.append_assoc],fun i hi=>?_⟩
  rcases List.mem_append.1 hi with hi|hi
  ·exact a2 i hi
  ·exact b2 i hi
 ·show (∀ i∈s.code,CalmM i)∧∃ x0 c1,(q.done++s.done)[0]? = .some x0∧x0.code=c++c1
  by_cases hq:q.done = []
  ·have hsn:s.done≠[]:=fun e=>h (by show q.done++s.done = [];rw[hq,e];rfl)
   obtain⟨c1,a1,a2⟩:=h1.none hq
   obtain⟨b1,x0,c2,b2,b3⟩:=h2.some hsn
   refine⟨b1,x0,c1++c2,by rw[hq,List.nil_append];exact b2,by rw[b3,a1,List.append_assoc]⟩
  ·obtain⟨a1,x0,c1,a2,a3⟩:=h1.some hq
   refine⟨?_,x0,c1,?_,a3⟩
   ·by_cases hsn:s.done = []
    ·obtain⟨c2,b1,b2⟩:=h2.none hsn
     intro i hi
     rw[b1] at hi
     rcases List.mem_append.1 hi with hi|hi
     ·exact a1 i hi
     ·exact b2 i hi
    ·exact (h2.some hsn).1
   ·rw[List.getElem?_append_left (List.length_pos_iff.2 hq)]
    exact a2
 ·have hj:(q.done++s.done)[j]? = .some x:=hj
  by_cases hjl:j<q.done.length
  ·rw[List.getElem?_append_left hjl] at hj
   exact h1.fine j x hj i z hz hi
  ·rw[List.getElem?_append_right (by omega)] at hj
   have e:k+j=k+q.done.length+(j-q.done.length):=by omega
   rw[e]
   by_cases hc:j-q.done.length=0→q.code.length≤i
   ·exact h2.fine _ x hj i z hz hc
   ·-- an instruction of the code that was there
    have hj0:j-q.done.length=0:=by
     by_cases h0:j-q.done.length=0
     ·exact h0
     ·exact absurd (fun h=>absurd h h0) hc
    have hil:i<q.code.length:=by
     by_cases h0:i<q.code.length
     ·exact h0
     ·exact absurd (fun _=>by omega) hc
    rw[hj0] at hj
    have hsn:s.done≠[]:=by rintro e;rw[e] at hj;cases hj
    obtain⟨_,x0,c2,b2,b3⟩:=h2.some hsn
    rw[hj] at b2
    cases b2
    rw[b3,List.getElem?_append_left hil] at hz
    refine InsFine.calm ?_
    by_cases hq:q.done = []
    ·obtain⟨c1,a1,a2⟩:=h1.none hq
     have h0:j=0:=by rw[hq] at hj0;exact hj0
     have:=hi h0
     rw[a1,List.getElem?_append_right this] at hz
     exact a2 z (List.mem_of_getElem? hz)
    ·exact (h1.some hq).1 z (List.mem_of_getElem? hz)
theorem PosL.leaf{B:List Blk}{k:Nat}{c c':List Ins}{s:LS}(hd:s.done = [])(hc:s.code=c++c')(h:∀ i∈c',CalmM i):PosL B k c s:=
 ⟨fun _=>⟨c',hc,h⟩,fun hn=>absurd hd hn,fun j x hj=>by rw[hd] at hj;cases hj⟩
theorem CalmL.m{i:Ins}(h:CalmL i):CalmM i:=⟨h.2.1,h.2.2⟩
theorem PosL.code{B:List Blk}{k:Nat}{s:LS}(h:PosL B k [] s):∀ i∈s.code,CalmM i:=by
 by_cases hd:s.done = []
 ·obtain⟨c',h1,h2⟩:=h.none hd
  intro i hi
  rw[h1] at hi
  exact h2 i hi
 ·exact (h.some hd).1
theorem PosL.lock{B:List Blk}{k:Nat}{c:List Ins}{a b:Ins}{s:LS}(h:PosL B k (c++[a]) s)(ha:CalmM a)(hb:CalmM b):PosL B k c { s with code:=s.code++[b] }:=by
 refine⟨fun hd=>?_,fun hd=>?_,fun j x hj i z hz hi=>?_⟩
 ·obtain⟨c',h1,h2⟩:=h.none hd
  refine⟨[a]++c'++[b],by show s.code++[b]=_;rw[h1];simp,fun i hi=>?_⟩
  simp only[List.mem_append,List.mem_singleton] at hi
  rcases hi with (rfl|hi)|rfl
  ·exact ha
  ·exact h2 i hi
  ·exact hb
 ·obtain⟨h1,x0,c1,h2,h3⟩:=h.some hd
  refine⟨fun i hi=>?_,x0,[a]++c1,h2,by rw[h3,List.append_assoc]⟩
  rcases List.mem_append.1 hi with hi|hi
  ·exact h1 i hi
  ·rw[List.mem_singleton.1 hi];exact hb
 ·have hj:s.done[j]? = .some x:=hj
  by_cases hc:j=0→(c++[a]).length≤i
  ·exact h.fine j x hj i z hz hc
  ·have hj0:j=0:=by
    by_cases h0:j=0
    ·exact h0
    ·exact absurd (fun h=>absurd h h0) hc
   have hil:i<(c++[a]).length:=by
    by_cases h0:i<(c++[a]).length
    ·exact h0
    ·exact absurd (fun _=>by omega) hc
   subst hj0
   have hd:s.done≠[]:=by rintro e;rw[e] at hj;cases hj
   obtain⟨_,x0,c1,h2,h3⟩:=h.some hd
   rw[hj] at h2
   cases h2
   rw[h3,List.getElem?_append_left hil] at hz
   rw[List.getElem?_append_right (hi rfl)] at hz
   exact InsFine.calm (by rw[List.mem_singleton.1 (List.mem_of_getElem? hz)];exact ha)
theorem calm_at{l:List Ins}{B:List Blk}{b:Nat}{x:Blk}{c:List Ins}(hx:x.code=c++l)(hl:∀ i∈l,CalmM i){i:Nat}{z:Ins}(hz:x.code[i]? = some z)(hi:c.length≤i):InsFine B b x i z:=by
 rw[hx,List.getElem?_append_right hi] at hz
 exact InsFine.calm (hl z (List.mem_of_getElem? hz))
theorem if_pos_(B:List Blk){e:LE}{b1 b2:LF}{k:Nat}{c:List Ins}{V:VM}(he:∀ i∈e.code,CalmM i)(h1:PosL B (k+1) [] (b1 (k+1) [] e.regs V))(h2:PosL B (k+1+(b1 (k+1) [] e.regs V).done.length+1) [] (b2 (k+1+(b1 (k+1) [] e.regs V).done.length+1) [] (b1 (k+1) [] e.regs V).regs (b1 (k+1) [] e.regs V).vars)):PosL B k c (ifL e b1 b2 k c V):=by
 unfold ifL
 dsimp only
 obtain⟨s1,hs1⟩:∃ s1,b1 (k+1) [] e.regs V=s1:=⟨_,rfl⟩
 rw[hs1] at h1 h2⊢
 obtain⟨s2,hs2⟩:∃ s2,b2 (k+1+s1.done.length+1) [] s1.regs s1.vars=s2:=⟨_,rfl⟩
 rw[hs2] at h2⊢
 refine⟨fun hd=>absurd hd (by simp),fun _=>⟨(fun i hi=>by cases hi),_,e.code,rfl,rfl⟩,fun j x hj i z hz hi=>?_⟩
 have hj:((⟨c++e.code,2,e.r,((k+1:Nat):Int),((k+1+s1.done.length+1:Nat):Int)⟩::s1.done)++(jmpB s1.code (k+1+s1.done.length+1+s2.done.length+1)::s2.done)++[jmpB s2.code (k+1+s1.done.length+1+s2.done.length+1)])[j]? = .some x:=hj
 rcases Nat.eq_zero_or_pos j with h0|h0
 ·subst h0
  have hj:=Option.some.inj hj
  exact calm_at (c:=c) (l:=e.code) (by rw[←hj]) he hz (hi rfl)
 ·obtain⟨j1,rfl⟩:∃ j1,j=j1+1:=⟨j-1,by omega⟩
  have hj:(s1.done++(jmpB s1.code (k+1+s1.done.length+1+s2.done.length+1)::s2.done)++[jmpB s2.code (k+1+s1.done.length+1+s2.done.length+1)])[j1]? = .some x:=hj
  rw[List.append_assoc] at hj
  by_cases hl:j1<s1.done.length
  ·rw[List.getElem?_append_left hl] at hj
   have h9:=h1.fine j1 x hj i z hz (fun _=>Nat.zero_le _)
   rw[show k+(j1+1)=k+1+j1 by omega]
   exact h9
  ·rw[List.getElem?_append_right (by omega)] at hj
   rcases Nat.eq_zero_or_pos (j1-s1.done.length) with h0|h0
   ·rw[h0] at hj
    have hj:=Option.some.inj hj
    exact calm_at (c:=[]) (l:=s1.code) (by rw[←hj];rfl) h1.code hz (Nat.zero_le _)
   ·obtain⟨j2,hj2⟩:∃ j2,j1-s1.done.length=j2+1:=⟨j1-s1.done.length-1,by omega⟩
    rw[hj2] at hj
    have hj:(s2.done++[jmpB s2.code (k+1+s1.done.length+1+s2.done.length+1)])[j2]? = .some x:=hj
    by_cases hl2:j2<s2.done.length
    ·rw[List.getElem?_append_left hl2] at hj
     have h9:=h2.fine j2 x hj i z hz (fun _=>Nat.zero_le _)
     rw[show k+(j1+1)=k+1+s1.done.length+1+j2 by omega]
     exact h9
    ·rw[List.getElem?_append_right (by omega)] at hj
     have hm:=List.mem_singleton.1 (List.mem_of_getElem? hj)
     exact calm_at (c:=[]) (l:=s2.code) (by rw[hm];rfl) h2.code hz (Nat.zero_le _)
theorem loop_pos(B:List Blk){lim:Int}{d:Nat}{h:LE}{enter:VM→VM}{b:LF}{k:Nat}{c:List Ins}{V:VM}(hin:InB18 B k (loopL lim d h enter b k c V))(hh:∀ i∈h.code,CalmM i)(hb:PosL B (k+2) [insB 16 0 d 0 lim noB] (b (k+2) [insB 16 0 d 0 lim noB] h.regs (enter V))):PosL B k c (loopL lim d h enter b k c V):=by
 unfold loopL at hin⊢
 dsimp only at hin⊢
 obtain⟨s,hs⟩:∃ s,b (k+2) [insB 16 0 d 0 lim noB] h.regs (enter V)=s:=⟨_,rfl⟩
 rw[hs] at hin hb⊢
 have hhd:B[k+1]? = some ⟨h.code,2,h.r,((k+2:Nat):Int),((k+2+s.done.length+1:Nat):Int)⟩:=hin 1 _ rfl
 have hlast:B[k+(2+s.done.length)]? = some (jmpB (s.code++[insB 14 0 0 0 d noB]) (k+1)):=hin (2+s.done.length) _ (by
  show ([jmpB (c++[insB 13 0 0 0 d noB]) (k+1),⟨h.code,2,h.r,((k+2:Nat):Int),((k+2+s.done.length+1:Nat):Int)⟩]++s.done++[jmpB (s.code++[insB 14 0 0 0 d noB]) (k+1)])[2+s.done.length]? = _
  rw[List.getElem?_append_right (by simp;omega),show 2+s.done.length-([jmpB (c++[insB 13 0 0 0 d noB]) (k+1),⟨h.code,2,h.r,((k+2:Nat):Int),((k+2+s.done.length+1:Nat):Int)⟩]++s.done).length=0 by simp;omega]
  rfl)
 have hcl:ClosedAt B (k+2) ((d:Nat):Int):=⟨_,List.mem_of_getElem? hlast,rfl,⟨insB 14 0 0 0 d noB,by show (s.code++[_]).getLast? = _;simp,rfl,rfl⟩,_,(by rw[show (jmpB (s.code++[insB 14 0 0 0 d noB]) (k+1)).to.toNat=k+1 from rfl];exact hhd),rfl,.inl rfl⟩
 refine⟨fun hd=>absurd hd (by simp),fun _=>⟨(fun i hi=>by cases hi),_,[insB 13 0 0 0 d noB],rfl,rfl⟩,fun j x hj i z hz hi=>?_⟩
 have hj:([jmpB (c++[insB 13 0 0 0 d noB]) (k+1),⟨h.code,2,h.r,((k+2:Nat):Int),((k+2+s.done.length+1:Nat):Int)⟩]++s.done++[jmpB (s.code++[insB 14 0 0 0 d noB]) (k+1)])[j]? = .some x:=hj
 rw[List.append_assoc] at hj
 match j,hj,hi with
 | 0,hj,hi =>
  have hj:=Option.some.inj hj
  exact calm_at (c:=c) (l:=[insB 13 0 0 0 d noB]) (by rw[←hj]) (fun i hi=>by rw[List.mem_singleton.1 hi];exact⟨by show (13:Int)≠14;decide,by show (13:Int)≠16;decide⟩) hz (hi rfl)
 | 1,hj,hi =>
  have hj:=Option.some.inj hj
  exact calm_at (c:=[]) (l:=h.code) (by rw[←hj];rfl) hh hz (Nat.zero_le _)
 | j2+2,hj,hi =>
  have hj:(s.done++[jmpB (s.code++[insB 14 0 0 0 d noB]) (k+1)])[j2]? = .some x:=hj
  have hlim:∀ (x:Blk) (z:Ins),x.code[0]? = .some z→(∃ l,x.code = [insB 16 0 d 0 lim noB]++l)→InsFine B (k+2) x 0 z:=fun x z hz ⟨l,hl⟩=>by
   rw[hl] at hz
   have hz:=Option.some.inj hz
   refine⟨fun _=>⟨rfl,?_⟩,fun e=>?_⟩
   ·rw[←hz];exact hcl
   ·rw[←hz] at e
    exact absurd e (by show ¬ (16:Int)=14;decide)
  by_cases hl:j2<s.done.length
  ·rw[List.getElem?_append_left hl] at hj
   rw[show k+(j2+2)=k+2+j2 by omega]
   by_cases hc:j2=0→1≤i
   ·exact hb.fine j2 x hj i z hz hc
   ·have h0:j2=0:=by
     by_cases h0:j2=0
     ·exact h0
     ·exact absurd (fun h=>absurd h h0) hc
    have hi0:i=0:=by
     by_cases h1:1≤i
     ·exact absurd (fun _=>h1) hc
     ·omega
    subst h0 hi0
    obtain⟨_,x0,c1,h2,h3⟩:=hb.some (by rintro e;rw[e] at hj;cases hj)
    rw[hj] at h2
    cases h2
    exact hlim x z hz ⟨c1,h3⟩
  ·rw[List.getElem?_append_right (by omega)] at hj
   have hj2:j2=s.done.length:=by
    have:=(List.getElem?_eq_some_iff.1 hj).1
    simp at this
    omega
   have hm:=List.mem_singleton.1 (List.mem_of_getElem? hj)
   subst hj2
   have hinc:∀ i z,(s.code++[insB 14 0 0 0 d noB])[i]? = .some z→s.code.length≤i→InsFine B (k+(s.done.length+2)) x i z:=fun i z hz hi=>by
    rw[List.getElem?_append_right hi] at hz
    have h0:i=s.code.length:=by
     have:=(List.getElem?_eq_some_iff.1 hz).1
     simp at this
     omega
    have hz2:=List.mem_singleton.1 (List.mem_of_getElem? hz)
    refine⟨fun e=>?_,fun _=>⟨?_,by rw[hm],_,(by rw[hm];exact hhd),rfl⟩⟩
    ·rw[hz2] at e
     exact absurd e (by show ¬ (14:Int)=16;decide)
    ·rw[hm,h0];show _=(s.code++[_]).length;simp
   have hz:(s.code++[insB 14 0 0 0 d noB])[i]? = .some z:=by rw[hm] at hz;exact hz
   by_cases hil:i<s.code.length
   ·by_cases hd:s.done = []
    ·obtain⟨c',h1,h2⟩:=hb.none hd
     rcases Nat.eq_zero_or_pos i with h0|h0
     ·subst h0
      have h9:=hlim x z (by rw[hm];exact hz) ⟨c'++[insB 14 0 0 0 d noB],by rw[hm];show s.code++_=_;rw[h1,List.append_assoc]⟩
      rw[show k+(s.done.length+2)=k+2 by rw[hd];simp]
      exact h9
     ·rw[List.getElem?_append_left hil,h1,List.getElem?_append_right (show 1≤i from h0)] at hz
      exact InsFine.calm (h2 z (List.mem_of_getElem? hz))
    ·rw[List.getElem?_append_left hil] at hz
     exact InsFine.calm ((hb.some hd).1 z (List.mem_of_getElem? hz))
   ·exact hinc i z hz (by omega)
theorem calm_app{a b:List Ins}(ha:∀ i∈a,CalmM i)(hb:∀ i∈b,CalmM i):∀ i∈a++b,CalmM i:=fun i hi=>by
 rcases List.mem_append.1 hi with hi|hi
 ·exact ha i hi
 ·exact hb i hi
theorem calm_cons{a:Ins}{b:List Ins}(ha:CalmM a)(hb:∀ i∈b,CalmM i):∀ i∈a::b,CalmM i:=fun i hi=>by
 rcases List.mem_cons.1 hi with rfl|hi
 ·exact ha
 ·exact hb i hi
theorem calm_nil:∀ i∈([]:List Ins),CalmM i:=fun i hi=>by cases hi
theorem low_pos(B:List Blk)(E:LEnv):∀ (t:Tree),(t.vld 98=true∨t.vld 115=true)→∀ (d k:Nat) (c:List Ins) (R:Nat) (V:VM),InB18 B k (t.low E d k c R V)→PosL B k c (t.low E d k c R V):=by
 intro t
 induction t using Tree.ind with
 | h t ih =>
  intro hv d k c R V
  rw[Tree.low_eq]
  rcases hv with hv|hv
  ·obtain⟨hk,hkid⟩:=vldB hv
   rw[if_pos hk]
   have key:∀ n,n≤t.len→InB18 B k (seqL (fun i=>kidL E t i d) k c R V n)→PosL B k c (seqL (fun i=>kidL E t i d) k c R V n):=by
    intro n
    induction n with
    | zero=>intro _ _;exact PosL.leaf (c':=[]) rfl (List.append_nil c).symm (fun i hi=>by cases hi)
    | succ n ihn =>
     intro hn hin
     have hin:InB18 B k ((seqL (fun i=>kidL E t i d) k c R V n).next k (kidL E t n d)):=hin
     show PosL B k c ((seqL (fun i=>kidL E t i d) k c R V n).next k (kidL E t n d))
     have h3:kidL E t n d=(t.kid n).low E d:=by unfold kidL;rw[if_pos (show n<t.len by omega)]
     have h1:=ihn (by omega)
     obtain⟨q,hq⟩:∃ q,seqL (fun i=>kidL E t i d) k c R V n=q:=⟨_,rfl⟩
     rw[hq] at h1 hin⊢
     rw[h3] at hin⊢
     have h2:=ih n (by omega) (.inr (hkid n (by omega))) d (k+q.done.length) q.code q.regs q.vars
     refine PosL.next (h1 (fun i x hx=>hin i x ?_)) (h2 (fun i x hx=>?_))
     ·show (q.done++_)[i]? = _
      rw[List.getElem?_append_left (List.getElem?_eq_some_iff.1 hx).1]
      exact hx
     ·rw[Nat.add_assoc]
      refine hin (q.done.length+i) x ?_
      show (q.done++_)[q.done.length+i]? = _
      rw[List.getElem?_append_right (by omega),Nat.add_sub_cancel_left]
      exact hx
   exact key t.len (Nat.le_refl _)
  ·obtain⟨⟨hk1,hk2⟩,_,hlen,hkid⟩:=vldS hv
   rw[if_neg (by omega)]
   have hb:∀ i,i<t.len→(t.kid i).vld 98=true→∀ d k c R V,InB18 B k (kidL E t i d k c R V)→PosL B k c (kidL E t i d k c R V):=fun i hi hvi d k c R V=>by
    have h3:kidL E t i d=(t.kid i).low E d:=by unfold kidL;rw[if_pos hi]
    rw[h3]
    exact ih i hi (.inl hvi) d k c R V
   have he:∀ j V R,∀ i∈(kidLE E t j V R).code,CalmM i:=fun j V R i hi=>(kidLE_calmL E t j V R i hi).m
   have heE:∀ (x:Tree) V R,∀ i∈(x.lowE E V R).code,CalmM i:=fun x V R i hi=>(lowE_calmL E V x R i hi).m
   have cm:∀ {op d x y imm:Int} {s:ByteArray},(op≠14∧op≠16)→CalmM (insB op d x y imm s):=fun h=>h
   have sto:∀ s (i v:Int),CalmM (stoB E s i v):=fun s i v=>by
    unfold stoB
    by_cases h:E.sh s=true
    ·rw[if_pos h];exact cm (by decide)
    ·rw[if_neg h];exact cm (by decide)
   have hloop:∀ (lim:Int) (h:LE) (enter:VM→VM) (b:LF),(∀ i∈h.code,CalmM i)→(∀ k c R V,InB18 B k (b k c R V)→PosL B k c (b k c R V))→InB18 B k (loopL lim d h enter b k c V)→PosL B k c (loopL lim d h enter b k c V):=fun lim h enter b hh hbb hin=>by
    refine loop_pos B hin hh (hbb _ _ _ _ (fun i x hx=>?_))
    rw[Nat.add_assoc]
    refine hin (2+i) x ?_
    unfold loopL
    dsimp only
    rw[List.append_assoc,List.getElem?_append_right (by simp),show 2+i-([jmpB (c++[insB 13 0 0 0 d noB]) (k+1),(⟨h.code,2,h.r,((k+2:Nat):Int),((k+2+(b (k+2) [insB 16 0 d 0 lim noB] h.regs (enter V)).done.length+1:Nat):Int)⟩:Blk)]).length=i by simp,List.getElem?_append_left (List.getElem?_eq_some_iff.1 hx).1]
    exact hx
   obtain hk|hk|hk|hk|hk|hk|hk:t.kind=40∨t.kind=41∨t.kind=42∨t.kind=43∨t.kind=44∨t.kind=45∨t.kind=46:=by omega
   all_goals rw[hk] at hlen hkid
   ·unfold lowS
    rw[if_pos hk]
    intro _
    by_cases h2:(t.kid 0).kind=2
    ·rw[if_pos h2]
     exact PosL.leaf (c':=_++_) rfl (List.append_assoc _ _ _) (calm_app (he 1 V R) (calm_cons (cm (by decide)) calm_nil))
    ·rw[if_neg h2]
     exact PosL.leaf (c':=_++(_++_)) rfl (by rw[←List.append_assoc,←List.append_assoc]) (calm_app (heE _ V R) (calm_app (he 1 V _) (calm_cons (cm (by decide)) (calm_cons (sto _ _ _) calm_nil))))
   ·have hlen:t.len=3:=hlen
    unfold lowS
    rw[if_neg (by omega),if_pos hk]
    intro hin
    refine if_pos_ B (he 0 V R) (hb 1 (by omega) (hkid 1 (by omega)) _ _ _ _ _ (fun i x hx=>?_)) (hb 2 (by omega) (hkid 2 (by omega)) _ _ _ _ _ (fun i x hx=>?_))
    ·rw[show k+1+i=k+(i+1) by omega]
     refine hin (i+1) x ?_
     unfold ifL
     dsimp only
     rw[List.append_assoc,List.getElem?_append_left (by have:=(List.getElem?_eq_some_iff.1 hx).1;simp;omega),List.getElem?_cons_succ]
     exact hx
    ·obtain⟨s1,hs1⟩:∃ s1,kidL E t 1 d (k+1) [] (kidLE E t 0 V R).regs V=s1:=⟨_,rfl⟩
     unfold ifL at hin
     dsimp only at hin
     rw[hs1] at hx hin⊢
     rw[show k+1+s1.done.length+1+i=k+(s1.done.length+1+(i+1)) by omega]
     refine hin (s1.done.length+1+(i+1)) x ?_
     dsimp only
     rw[List.append_assoc,List.getElem?_append_right (by simp),show s1.done.length+1+(i+1)-(_::s1.done).length=i+1 by simp]
     rw[List.cons_append,List.getElem?_cons_succ,List.getElem?_append_left (List.getElem?_eq_some_iff.1 hx).1]
     exact hx
   ·have hlen:t.len=1:=hlen
    unfold lowS
    rw[if_neg (by omega),if_neg (by omega),if_pos hk]
    intro hin
    have h9:=hloop t.num (forH t.num d R) (fun V=>upd V t.name (some R)) (kidL E t 0 (d+1)) (calm_cons (cm (by decide)) (calm_cons (cm (by decide)) (calm_cons (cm (by decide)) calm_nil))) (hb 0 (by omega) (hkid 0 (by omega)) (d+1)) hin
    exact⟨h9.none,h9.some,h9.fine⟩
   ·have hlen:t.len=2:=hlen
    unfold lowS
    rw[if_neg (by omega),if_neg (by omega),if_neg (by omega),if_pos hk]
    exact hloop _ _ _ _ (he 0 V R) (hb 1 (by omega) (hkid 1 (by omega)) (d+1))
   ·unfold lowS
    rw[if_neg (by omega),if_neg (by omega),if_neg (by omega),if_neg (by omega),if_pos hk]
    intro _
    by_cases h2:(t.kid 0).kind=2
    ·rw[if_pos h2]
     exact PosL.leaf (c':=[_]) rfl rfl (calm_cons (cm (by decide)) calm_nil)
    ·rw[if_neg h2]
     exact PosL.leaf (c':=_++_) rfl (List.append_assoc _ _ _) (calm_app (heE _ V R) (calm_cons (cm (by decide)) (calm_cons (cm (by decide)) (calm_cons (sto _ _ _) calm_nil))))
   ·unfold lowS
    rw[if_neg (by omega),if_neg (by omega),if_neg (by omega),if_neg (by omega),if_neg (by omega),if_pos hk]
    intro _
    exact PosL.leaf (c':=_++_) rfl (List.append_assoc _ _ _) (calm_app (he 0 V R) (calm_cons (cm (by decide)) calm_nil))
   ·have hlen:t.len=1:=hlen
    unfold lowS
    rw[if_neg (by omega),if_neg (by omega),if_neg (by omega),if_neg (by omega),if_neg (by omega),if_neg (by omega),if_pos hk]
    exact fun hin=>PosL.lock (hb 0 (by omega) (hkid 0 (by omega)) d k (c++[insB 11 0 0 0 0 t.name]) R V hin) (cm (by decide)) (cm (by decide))
