/- Part. -/
import Derived.Test.YtkpdngfkdmllkaaGreatDoorMg45
namespace Go.Proofs.YtkpdngfkdmllkaaGreatDoor
set_option linter.unusedVariables false
set_option linter.unusedSimpArgs false
open Go.RowKit
set_option maxRecDepth 100000
set_option maxHeartbeats 2000000
section
variable {B:List Blk} {N:List ByteArray} {inp:List Int} {C:Nat} {E:LEnv} {D:Nms} {ns:List (ByteArray×Bool)}
theorem Sim.at_{Rel:St→IrSt→Prop}{c:Nat}{x:St}{r:SR}{a i a' i' a2 i2:Nat}{y:IrSt}(h:Sim B N inp C E D Rel c x r a i y a' i')(h1:a'=a2)(h2:i'=i2):Sim B N inp C E D Rel c x r a i y a2 i2:=h1 ▸ h2 ▸ h
theorem next_lay{k:Nat}{q s:LS}(h:InL B k { s with done:=q.done++s.done }):InL B (k+q.done.length) s∧InB18 B k q:=by
 obtain⟨h1,b,h2,h3⟩:=h
 have h1:∀ i x,(q.done++s.done)[i]? = some x→B[k+i]? = some x:=h1
 have h2:B[k+(q.done++s.done).length]? = some b:=h2
 refine⟨⟨fun i x hx=>?_,b,?_,h3⟩,fun i x hx=>h1 i x ?_⟩
 ·rw[Nat.add_assoc]
  refine h1 (q.done.length+i) x ?_
  rw[List.getElem?_append_right (by omega),Nat.add_sub_cancel_left]
  exact hx
 ·rw[List.length_append,←Nat.add_assoc] at h2
  exact h2
 ·rw[List.getElem?_append_left (List.getElem?_eq_some_iff.1 hx).1]
  exact hx
theorem if_lay{e:LE}{b1 b2:LF}{k:Nat}{c:List Ins}{V:VM}{s1 s2:LS}(h1:b1 (k+1) [] e.regs V=s1)(h2:b2 (k+1+s1.done.length+1) [] s1.regs s1.vars=s2)(hin:InL B k (ifL e b1 b2 k c V)) :
 B[k]? = some ⟨c++e.code,2,e.r,(k+1:Nat),(k+1+s1.done.length+1:Nat)⟩∧InL B (k+1) s1∧B[k+1+s1.done.length]? = some (jmpB s1.code (k+1+s1.done.length+1+s2.done.length+1)) ∧
 InL B (k+1+s1.done.length+1) s2∧B[k+1+s1.done.length+1+s2.done.length]? = some (jmpB s2.code (k+1+s1.done.length+1+s2.done.length+1)) ∧
 k+(ifL e b1 b2 k c V).done.length=k+1+s1.done.length+1+s2.done.length+1∧(ifL e b1 b2 k c V).code = []:=by
 unfold ifL at hin⊢
 dsimp only at hin⊢
 rw[h1] at hin⊢
 rw[h2] at hin⊢
 obtain⟨h3,_⟩:=hin
 obtain⟨k3,hk3⟩:∃ n,k+1+s1.done.length+1+s2.done.length+1=n:=⟨_,rfl⟩
 rw[hk3] at h3⊢
 have h3:∀ i x,(((⟨c++e.code,2,e.r,(k+1:Nat),(k+1+s1.done.length+1:Nat)⟩:Blk)::s1.done)++(jmpB s1.code k3::s2.done)++[jmpB s2.code k3])[i]? = some x→B[k+i]? = some x:=h3
 have g1:∀ i x,s1.done[i]? = some x→B[k+1+i]? = some x:=fun i x hx=>by
  have hl:=(List.getElem?_eq_some_iff.1 hx).1
  rw[show k+1+i=k+(i+1) by omega]
  refine h3 (i+1) x ?_
  rw[List.getElem?_append_left (by simp only[List.length_append,List.length_cons];omega),List.getElem?_append_left (by simp only[List.length_cons];omega),List.getElem?_cons_succ]
  exact hx
 have g2:B[k+1+s1.done.length]? = some (jmpB s1.code k3):=by
  rw[show k+1+s1.done.length=k+(s1.done.length+1) by omega]
  refine h3 (s1.done.length+1) _ ?_
  rw[List.getElem?_append_left (by simp only[List.length_append,List.length_cons];omega),List.getElem?_append_right (by simp only[List.length_cons];omega)]
  simp only[List.length_cons,Nat.sub_self,List.getElem?_cons_zero]
 have g3:∀ i x,s2.done[i]? = some x→B[k+1+s1.done.length+1+i]? = some x:=fun i x hx=>by
  have hl:=(List.getElem?_eq_some_iff.1 hx).1
  rw[show k+1+s1.done.length+1+i=k+(s1.done.length+1+(i+1)) by omega]
  refine h3 (s1.done.length+1+(i+1)) x ?_
  rw[List.getElem?_append_left (by simp only[List.length_append,List.length_cons];omega),List.getElem?_append_right (by simp only[List.length_cons];omega)]
  rw[show s1.done.length+1+(i+1)-((⟨c++e.code,2,e.r,(k+1:Nat),(k+1+s1.done.length+1:Nat)⟩:Blk)::s1.done).length=i+1 by simp only[List.length_cons];omega,List.getElem?_cons_succ]
  exact hx
 have g4:B[k+1+s1.done.length+1+s2.done.length]? = some (jmpB s2.code k3):=by
  rw[show k+1+s1.done.length+1+s2.done.length=k+(s1.done.length+1+(s2.done.length+1)) by omega]
  refine h3 (s1.done.length+1+(s2.done.length+1)) _ ?_
  rw[List.getElem?_append_right (by simp only[List.length_append,List.length_cons];omega)]
  rw[show s1.done.length+1+(s2.done.length+1)-(((⟨c++e.code,2,e.r,(k+1:Nat),(k+1+s1.done.length+1:Nat)⟩:Blk)::s1.done)++(jmpB s1.code k3::s2.done)).length=0 by simp only[List.length_append,List.length_cons];omega]
  rfl
 refine⟨h3 0 _ rfl,⟨g1,_,g2,List.prefix_refl _⟩,g2,⟨g3,_,g4,List.prefix_refl _⟩,g4,?_,rfl⟩
 simp only[List.length_append,List.length_cons,List.length_nil]
 omega
theorem jmp_at{a tg:Nat}{c:List Ins}{y:IrSt}(he:B[a]? = some (jmpB c tg)):Reach B N inp 1 a c.length y tg 0 y:=by
 have h3:=Reach.jump (B:=B) (N:=N) (inp:=inp) (i:=c.length) (y:=y) he (List.getElem?_eq_none (Nat.le_refl _)) (show (1:Int)≠3 by decide)
 exact h3
theorem simT(hE:EnvOk E ns D)(hN:∀ nm,(memB D.arrays nm || memB D.shared nm)=true→nm∈N)(F:Int):∀ (t:Tree),(t.vld 98=true∨t.vld 115=true)→∀ (path:List Int) (place:Bool) (loops locks:List ByteArray),faultsT D t path place loops locks = []→∀ (d:Nat),d+t.nest≤4→2*t.size+12≤C →
 ∀ (k:Nat) (c:List Ins) (R:Nat) (V:VM),InL B k (t.low E d k c R V)→∀ (x:St) (y:IrSt),RelS E D N loops locks V R x y→(t.low E d k c R V).regs≤y.regs.length →
 Sim B N inp C E D (PostR E D N loops locks V R d y) 0 x (t.ex F inp x) k c.length y (k+(t.low E d k c R V).done.length) (t.low E d k c R V).code.length:=by
 intro t
 induction t using Tree.ind with
 | h t ih =>
  intro hv path place loops locks hf d hd hC k c R V hin x y hr hT
  obtain⟨f0,f1⟩:=faultsV hf
  have hsz:=t.size_eq
  have hne:=t.nest_eq
  have hnk:∀ i,i<t.len→(t.kid i).nest≤Tree.maxTo (fun i=>(t.kid i).nest) t.len:=fun i hi=>Tree.le_maxTo (f:=fun i=>(t.kid i).nest) hi
  have hvo:=hr.var.ok
  rw[Tree.low_eq] at hin hT⊢
  rw[Tree.ex_eq]
  rcases hv with hv|hv
  ·obtain⟨hk,hkid⟩:=vldB hv
   have hlo:loopsIn t loops=loops:=by unfold loopsIn;rw[if_neg (by omega)]
   have hlk:locksIn t locks=locks:=by unfold locksIn;rw[if_neg (by omega)]
   rw[hlo,hlk] at f1
   rw[if_pos hk] at hin hT⊢
   rw[if_pos hk]
   rw[if_neg (by omega),Nat.add_zero] at hne
   have key:∀ n,n≤t.len→(R≤(seqL (fun i=>kidL E t i d) k c R V n).regs∧∀ nm,Vis D loops nm→(seqL (fun i=>kidL E t i d) k c R V n).vars nm=V nm) ∧
    (InL B k (seqL (fun i=>kidL E t i d) k c R V n)→(seqL (fun i=>kidL E t i d) k c R V n).regs≤y.regs.length→Sim B N inp C E D (PostR E D N loops locks V R d y) 0 x (seqTo (kidX F inp t) n x) k c.length y (k+(seqL (fun i=>kidL E t i d) k c R V n).done.length) (seqL (fun i=>kidL E t i d) k c R V n).code.length):=by
    intro n
    induction n with
    | zero=>intro _;exact⟨⟨Nat.le_refl _,fun _ _=>rfl⟩,fun _ _=>Sim.ret rfl ⟨hr,rfl,fun _ _=>rfl⟩⟩
    | succ n ihn =>
     intro hn
     have h1:=ihn (by omega)
     show (R≤((seqL (fun i=>kidL E t i d) k c R V n).next k (kidL E t n d)).regs∧∀ nm,Vis D loops nm→((seqL (fun i=>kidL E t i d) k c R V n).next k (kidL E t n d)).vars nm=V nm) ∧
      (InL B k ((seqL (fun i=>kidL E t i d) k c R V n).next k (kidL E t n d))→((seqL (fun i=>kidL E t i d) k c R V n).next k (kidL E t n d)).regs≤y.regs.length→Sim B N inp C E D (PostR E D N loops locks V R d y) 0 x ((seqTo (kidX F inp t) n x).then (kidX F inp t n)) k c.length y (k+((seqL (fun i=>kidL E t i d) k c R V n).next k (kidL E t n d)).done.length) ((seqL (fun i=>kidL E t i d) k c R V n).next k (kidL E t n d)).code.length)
     obtain⟨q,hq⟩:∃ q,seqL (fun i=>kidL E t i d) k c R V n=q:=⟨_,rfl⟩
     rw[hq] at h1⊢
     have hnl:n<t.len:=by omega
     have h3:kidL E t n d=(t.kid n).low E d:=by unfold kidL;rw[if_pos hnl]
     have hkp:=low_keep E D (t.kid n) (.inr (hkid n hnl)) _ _ _ _ (f1 n hnl) d (k+q.done.length) q.code q.regs q.vars
     have hih:=ih n hnl (.inr (hkid n hnl)) _ _ _ _ (f1 n hnl) d (by have:=hnk n hnl;omega) (by have:=Tree.size_kid hnl;omega) (k+q.done.length) q.code q.regs q.vars
     have hpos:=low_pos B E (t.kid n) (.inr (hkid n hnl)) d (k+q.done.length) q.code q.regs q.vars
     unfold LS.next
     rw[h3]
     obtain⟨s,hs⟩:∃ s,(t.kid n).low E d (k+q.done.length) q.code q.regs q.vars=s:=⟨_,rfl⟩
     rw[hs] at hkp hih hpos⊢
     obtain⟨⟨a1,a2⟩,a3⟩:=h1
     refine⟨⟨Nat.le_trans a1 hkp.1,fun nm hnm=>(hkp.2 nm hnm).trans (a2 nm hnm)⟩,fun hin hT=>?_⟩
     have hT:s.regs≤y.regs.length:=hT
     obtain⟨g1,g2⟩:=next_lay hin
     have hq2:InL B k q:=⟨g2,ext_at (hpos g1.1) g1⟩
     have hex:∀ x1,kidX F inp t n x1=(t.kid n).ex F inp x1:=fun x1=>by unfold kidX;rw[if_pos hnl]
     refine (Sim.mono (c:=0+0) (Sim.then (a3 hq2 (by omega)) (fun x1 y1 h1=>?_)) (Nat.le_refl _):Sim B N inp C E D (PostR E D N loops locks V R d y) 0 x _ k c.length y (k+q.done.length+s.done.length) s.code.length).at_ (by show _=k+(q.done++s.done).length;rw[List.length_append];omega) rfl
     obtain⟨p1,p2,p3⟩:=h1
     rw[hex]
     exact (hih g1 x1 y1 (p1.agree a2 a1) (by rw[p2];exact hT)).weak (fun x9 y9 h9=>h9.lift a2 hvo p2 p3 (Nat.le_refl _))
   exact (key t.len (Nat.le_refl _)).2 hin hT
  ·obtain⟨⟨hk1,hk2⟩,⟨hn1,hn2⟩,hlen,hkid⟩:=vldS hv
   rw[if_neg (by omega)] at hin hT⊢
   rw[if_neg (by omega)]
   have hkl:∀ i d,i<t.len→kidL E t i d=(t.kid i).low E d:=fun i d hi=>by unfold kidL;rw[if_pos hi]
   have hke:∀ i V R,i<t.len→kidLE E t i V R=(t.kid i).lowE E V R:=fun i V R hi=>by unfold kidLE;rw[if_pos hi]
   have hkx:∀ i x1,i<t.len→kidX F inp t i x1=(t.kid i).ex F inp x1:=fun i x1 hi=>by unfold kidX;rw[if_pos hi]
   have hkv:∀ i (x1:St),i<t.len→kidE t i x1=(t.kid i).ev x1.V x1.A:=fun i x1 hi=>by unfold kidE;rw[if_pos hi]
   obtain hk|hk|hk|hk|hk|hk|hk:t.kind=40∨t.kind=41∨t.kind=42∨t.kind=43∨t.kind=44∨t.kind=45∨t.kind=46:=by omega
   all_goals rw[hk] at hlen hkid hn1 hn2
   ·-- Assign
    have hlen:t.len=2:=hlen
    have hlo:loopsIn t loops=loops:=by unfold loopsIn;rw[if_neg (by omega)]
    have hlk:locksIn t locks=locks:=by unfold locksIn;rw[if_neg (by omega)]
    rw[hlo,hlk] at f1
    obtain⟨p0,p1⟩:=faultsV (f1 0 (by omega))
    have hs2:Tree.sumTo (fun i=>(t.kid i).size) t.len=0+(t.kid 0).size+(t.kid 1).size:=by rw[hlen];rfl
    unfold lowS at hin hT⊢
    rw[if_pos hk] at hin hT⊢
    by_cases h2:(t.kid 0).kind=2
    ·rw[if_pos h2] at hin hT⊢
     rw[hke 1 V R (by omega)] at hin hT⊢
     rw[h2] at p0
     have hl1:=lowE_len E V (t.kid 1) (hkid 1 (by omega)) R
     obtain⟨e1,he1⟩:∃ e,(t.kid 1).lowE E V R=e:=⟨_,rfl⟩
     have hsim:∀ x1,RelS E D N loops locks V R x1 y→AtC B k c.length e1.code→e1.regs≤y.regs.length→ExpSim B N inp k c.length R y e1 ((t.kid 1).ev x1.V x1.A):=fun x1 h1 h2 h3=>by
      rw[←he1] at h2 h3⊢
      exact simK hE (hkid 1 (by omega)) (f1 1 (by omega)) h1.var h1.fin.mem h3 h2
     rw[he1] at hin hT hl1⊢
     have hT:e1.regs≤y.regs.length:=hT
     rw[List.append_assoc] at hin
     obtain⟨a1,a2⟩:=hin.leaf.app
     obtain⟨r,v1,v2,_⟩:=hr.var _ (var_ok p0)
     have hRle:R≤e1.regs:=by rw[←he1];exact lowE_mono E V _ R
     refine Sim.stp (c:=1+e1.code.length) (by omega) ?_
     unfold exB
     rw[if_pos hk,if_pos h2,hkv 1 _ (by omega)]
     refine Sim.run hr.fin.step (hsim _ hr.step a1 hT) (fun n y1 hkp hn _=>?_)
     have hr1:=(hr.step (k:=x.st+1)).keep hkp (Nat.le_refl _)
     have hs1:step N inp (insB 2 (V.reg (t.kid 0).name) e1.r 0 0 noB) y1 = .ok (y1.setReg (r:Nat) n):=by
      rw[st_move,hn]
      unfold VM.reg
      rw[v1]
      rfl
     refine ((Sim.mono (c:=0+1) (Sim.pre (a2.step hs1) (Sim.ret rfl ⟨hr1.putV (var_ok p0) v1 (by rw[hkp.len];omega),?_,fun j _=>hkp.cnt j⟩)) (Nat.le_refl _):Sim B N inp C E D (PostR E D N loops locks V R d y) 1 _ _ k (c.length+e1.code.length) y1 k (c.length+e1.code.length+1))).at_ rfl ?_
     ·show (y1.regs.set _ _).length=_
      rw[List.length_set]
      exact hkp.len
     ·simp only[List.length_append,List.length_cons,List.length_nil]
    ·rw[if_neg h2] at hin hT⊢
     dsimp only at hin hT⊢
     rcases vldP (hkid 0 (by omega)) with h3|⟨h3,h4,h5⟩
     ·exact absurd h3 h2
     have hpl:loopsIn (t.kid 0) loops=loops:=by unfold loopsIn;rw[if_neg (by omega)]
     have hpk:locksIn (t.kid 0) locks=locks:=by unfold locksIn;rw[if_neg (by omega)]
     have p2:=p1 0 (by omega)
     rw[hpl,hpk] at p2
     rw[h3] at p0
     have hitem:=item_in p0
     have hsp:=(t.kid 0).size_eq
     have hsq:Tree.sumTo (fun i=>((t.kid 0).kid i).size) (t.kid 0).len=0+((t.kid 0).kid 0).size:=by rw[h4];rfl
     have hok0:=lowE_ok hE ((t.kid 0).kid 0) h5 _ _ _ _ p2 R V hvo
     have hl0:=lowE_len E V ((t.kid 0).kid 0) h5 R
     obtain⟨e0,he0⟩:∃ e,((t.kid 0).kid 0).lowE E V R=e:=⟨_,rfl⟩
     have hsim0:∀ x1,RelS E D N loops locks V R x1 y→AtC B k c.length e0.code→e0.regs≤y.regs.length→ExpSim B N inp k c.length R y e0 (((t.kid 0).kid 0).ev x1.V x1.A):=fun x1 h1 h2 h3=>by
      rw[←he0] at h2 h3⊢
      exact simK hE h5 p2 h1.var h1.fin.mem h3 h2
     rw[he0] at hok0 hl0
     simp only[he0] at hin hT⊢
     have hRle:R≤e0.regs:=hok0.lo
     rw[hke 1 V e0.regs (by omega)] at hin hT⊢
     have hok1:=lowE_ok hE (t.kid 1) (hkid 1 (by omega)) _ _ _ _ (f1 1 (by omega)) e0.regs V (hvo.mono hRle)
     have hl1:=lowE_len E V (t.kid 1) (hkid 1 (by omega)) e0.regs
     obtain⟨e1,he1⟩:∃ e,(t.kid 1).lowE E V e0.regs=e:=⟨_,rfl⟩
     have hsim1:∀ (x1:St) (y1:IrSt) (i:Nat),VarR D loops V e0.regs x1.V y1.regs→MemR E D N x1.A y1.mem→AtC B k i e1.code→e1.regs≤y1.regs.length→ExpSim B N inp k i e0.regs y1 e1 ((t.kid 1).ev x1.V x1.A):=fun x1 y1 i h1 h2 h3 h4=>by
      rw[←he1] at h3 h4⊢
      exact simK hE (hkid 1 (by omega)) (f1 1 (by omega)) h1 h2 h4 h3
     rw[he1] at hin hT hl1 hok1⊢
     have hT:e1.regs≤y.regs.length:=hT
     have hle1:=hok1.lo
     rw[List.append_assoc,List.append_assoc] at hin
     obtain⟨a1,a23⟩:=hin.leaf.app
     obtain⟨a2,a3⟩:=a23.app
     refine Sim.stp (c:=(2+e1.code.length)+e0.code.length) (by omega) ?_
     unfold exB
     rw[if_pos hk,if_neg h2]
     refine Sim.run hr.fin.step (hsim0 _ hr.step a1 (by omega)) (fun i y1 hkp hn _=>?_)
     have hr1:=(hr.step (k:=x.st+1)).keep hkp (Nat.le_refl _)
     rw[hkv 1 _ (by omega)]
     refine Sim.run hr1.fin (hsim1 _ y1 _ (hr1.var.mono hRle) hr1.fin.mem a2 (by rw[hkp.len];omega)) (fun v y2 hkp2 hn2 _=>?_)
     have hr2:=hr1.keep hkp2 hRle
     have q0:y2.reg e0.r=i:=by rw[hkp2.reg hok0.reg,hn]
     obtain⟨m1,m2⟩:=hr2.item hitem
     unfold St.putA
     rw[m1]
     show Sim B N inp C E D _ 2 _ (if 0≤i∧i<((y2.row (pos N (t.kid 0).name)).length:Int) then _ else _) _ _ _ _ _
     by_cases hx:0≤i∧i<((y2.row (pos N (t.kid 0).name)).length:Int)
     ·rw[if_pos hx]
      have b1:step N inp (insB 8 0 e0.r 0 (E.len (t.kid 0).name) noB) y2 = .ok y2:=st_bound (by rw[q0];omega)
      have b2:step N inp (stoB E (t.kid 0).name e0.r e1.r) y2 = .ok { y2 with mem:=y2.mem.set (pos N (t.kid 0).name) ((y2.row (pos N (t.kid 0).name)).set i.toNat v) }:=by
       rw[st_store (by rw[q0];exact hx),q0,hn2]
      refine ((Sim.mono (c:=0+1+1) (Sim.pre (a3.step b1) (Sim.pre (a3.tail.step b2) (Sim.ret rfl ⟨hr2.putA hN hitem,hkp2.len.trans hkp.len,fun j _=>(hkp2.cnt j).trans (hkp.cnt j)⟩))) (by omega):Sim B N inp C E D (PostR E D N loops locks V R d y) 2 _ _ k (c.length+e0.code.length+e1.code.length) y2 k (c.length+e0.code.length+e1.code.length+1+1))).at_ rfl ?_
      simp only[List.length_append,List.length_cons,List.length_nil]
     ·rw[if_neg hx]
      have b1:step N inp (insB 8 0 e0.r 0 (E.len (t.kid 0).name) noB) y2 = .error 11:=st_bound_er (by rw[q0];omega)
      exact Sim.err (by decide) (a3.trap b1) hr2.fin
   ·-- If
    have hlen:t.len=3:=hlen
    have hlo:loopsIn t loops=loops:=by unfold loopsIn;rw[if_neg (by omega)]
    have hlk:locksIn t locks=locks:=by unfold locksIn;rw[if_neg (by omega)]
    rw[hlo,hlk] at f1
    rw[if_neg (by omega),Nat.add_zero] at hne
    have hs3:Tree.sumTo (fun i=>(t.kid i).size) t.len=0+(t.kid 0).size+(t.kid 1).size+(t.kid 2).size:=by rw[hlen];rfl
    unfold lowS at hin hT⊢
    rw[if_neg (by omega),if_pos hk] at hin hT⊢
    rw[hke 0 V R (by omega),hkl 1 d (by omega),hkl 2 d (by omega)] at hin hT⊢
    have hl0:=lowE_len E V (t.kid 0) (hkid 0 (by omega)) R
    have hRle:=lowE_mono E V (t.kid 0) R
    obtain⟨e0,he0⟩:∃ e,(t.kid 0).lowE E V R=e:=⟨_,rfl⟩
    have hsim:∀ x1,RelS E D N loops locks V R x1 y→AtC B k c.length e0.code→e0.regs≤y.regs.length→ExpSim B N inp k c.length R y e0 ((t.kid 0).ev x1.V x1.A):=fun x1 h1 h2 h3=>by
     rw[←he0] at h2 h3⊢
     exact simK hE (hkid 0 (by omega)) (f1 0 (by omega)) h1.var h1.fin.mem h3 h2
    rw[he0] at hin hT hl0 hRle⊢
    have kp1:=low_keep E D (t.kid 1) (.inl (hkid 1 (by omega))) _ _ _ _ (f1 1 (by omega)) d (k+1) [] e0.regs V
    have ih1:=ih 1 (by omega) (.inl (hkid 1 (by omega))) _ _ _ _ (f1 1 (by omega)) d (by have:=hnk 1 (by omega);omega) (by omega) (k+1) [] e0.regs V
    obtain⟨s1,hs1⟩:∃ s1,(t.kid 1).low E d (k+1) [] e0.regs V=s1:=⟨_,rfl⟩
    rw[hs1] at kp1 ih1
    have kp2:=low_keep E D (t.kid 2) (.inl (hkid 2 (by omega))) _ _ _ _ (f1 2 (by omega)) d (k+1+s1.done.length+1) [] s1.regs s1.vars
    have ih2:=ih 2 (by omega) (.inl (hkid 2 (by omega))) _ _ _ _ (f1 2 (by omega)) d (by have:=hnk 2 (by omega);omega) (by omega) (k+1+s1.done.length+1) [] s1.regs s1.vars
    obtain⟨s2,hs2⟩:∃ s2,(t.kid 2).low E d (k+1+s1.done.length+1) [] s1.regs s1.vars=s2:=⟨_,rfl⟩
    rw[hs2] at kp2 ih2
    obtain⟨g1,g2,g3,g4,g5,g6,g7⟩:=if_lay hs1 hs2 hin
    have hT:s2.regs≤y.regs.length:=by
     unfold ifL at hT
     dsimp only at hT
     rw[hs1] at hT
     rw[hs2] at hT
     exact hT
    rw[g6,g7]
    have hA:=atc_all (c:=c) (l:=e0.code) g1 rfl
    refine Sim.stp (c:=2+e0.code.length) (by omega) ?_
    unfold exB
    rw[if_neg (by omega),if_pos hk,hkv 0 _ (by omega)]
    refine Sim.run hr.fin.step (hsim _ hr.step hA (by have:=kp1.1;have:=kp2.1;omega)) (fun n y1 hkp hn _=>?_)
    have hr1:=(hr.step (k:=x.st+1)).keep hkp (Nat.le_refl _)
    have hj:Reach B N inp 1 k (c.length+e0.code.length) y1 (if n=0 then k+1+s1.done.length+1 else k+1) 0 y1:=by
     have h3:=Reach.jump (B:=B) (N:=N) (inp:=inp) (i:=c.length+e0.code.length) (y:=y1) g1 (end_none (c:=c) (l:=e0.code) rfl) (show (2:Int)≠3 by decide)
     have e:Blk.next (⟨c++e0.code,2,e0.r,(k+1:Nat),(k+1+s1.done.length+1:Nat)⟩:Blk) y1=if n=0 then k+1+s1.done.length+1 else k+1:=by
      unfold Blk.next
      rw[hn]
      by_cases hc:n=0
      ·rw[if_pos (show (2:Int)=2∧n=0 from ⟨rfl,hc⟩),if_pos hc];exact Int.toNat_natCast _
      ·rw[if_neg (show ¬ ((2:Int)=2∧n=0) from fun x=>hc x.2),if_neg hc];exact Int.toNat_natCast _
     rw[e] at h3
     exact h3
    by_cases h0:n=0
    ·rw[if_pos h0] at hj⊢
     rw[hkx 2 _ (by omega)]
     have h9:=ih2 g4 _ y1 (hr1.agree kp1.2 (by have:=kp1.1;omega)) (by rw[hkp.len];exact hT)
     have h8:=Sim.post h9 (c2:=1) (a2:=k+1+s1.done.length+1+s2.done.length+1) (i2:=0) (Rel2:=PostR E D N loops locks V R d y) (fun x3 y3 h3=>⟨1,y3,jmp_at g5,Nat.le_refl _,h3.lift kp1.2 hvo hkp.len (fun j _=>hkp.cnt j) (Nat.le_refl _)⟩)
     exact Sim.mono (Sim.pre hj h8) (by omega)
    ·rw[if_neg h0] at hj⊢
     rw[hkx 1 _ (by omega)]
     have h9:=ih1 g2 _ y1 (hr1.agree (fun _ _=>rfl) hRle) (by rw[hkp.len];have:=kp2.1;omega)
     have h8:=Sim.post h9 (c2:=1) (a2:=k+1+s1.done.length+1+s2.done.length+1) (i2:=0) (Rel2:=PostR E D N loops locks V R d y) (fun x3 y3 h3=>⟨1,y3,jmp_at g3,Nat.le_refl _,h3.lift (fun _ _=>rfl) hvo hkp.len (fun j _=>hkp.cnt j) (Nat.le_refl _)⟩)
     exact Sim.mono (Sim.pre hj h8) (by omega)
   ·-- For
    have hlen:t.len=1:=hlen
    have hlo:loopsIn t loops=loops++[t.name]:=by unfold loopsIn;rw[if_pos hk]
    have hlk:locksIn t locks=locks:=by unfold locksIn;rw[if_neg (by omega)]
    rw[hlo,hlk] at f1
    rw[hk] at f0
    have hnew:=for_new f0
    rw[if_pos (.inl hk)] at hne
    have hs1:Tree.sumTo (fun i=>(t.kid i).size) t.len=0+(t.kid 0).size:=by rw[hlen];rfl
    have hn1:1≤t.num:=hn1
    have hn2:t.num≤1000:=hn2
    have hdn:d<4:=by have:=hnk 0 (by omega);omega
    unfold lowS at hin hT⊢
    rw[if_neg (by omega),if_neg (by omega),if_pos hk] at hin hT⊢
    rw[hkl 0 (d+1) (by omega)] at hin hT⊢
    dsimp only at hin hT⊢
    have kp:=low_keep E D (t.kid 0) (.inl (hkid 0 (by omega))) _ _ _ _ (f1 0 (by omega)) (d+1) (k+2) [insB 16 0 d 0 t.num noB] (R+3) (upd V t.name (some R))
    have ih0:=ih 0 (by omega) (.inl (hkid 0 (by omega))) _ _ _ _ (f1 0 (by omega)) (d+1) (by have:=hnk 0 (by omega);omega) (by omega) (k+2) [insB 16 0 d 0 t.num noB] (R+3) (upd V t.name (some R))
    have hpos:=low_pos B E (t.kid 0) (.inl (hkid 0 (by omega))) (d+1) (k+2) [insB 16 0 d 0 t.num noB] (R+3) (upd V t.name (some R))
    obtain⟨s,hs⟩:∃ s,(t.kid 0).low E (d+1) (k+2) [insB 16 0 d 0 t.num noB] (R+3) (upd V t.name (some R))=s:=⟨_,rfl⟩
    rw[hs] at kp ih0 hpos
    have hin':InL B k (loopL t.num d (forH t.num d R) (fun V=>upd V t.name (some R)) ((t.kid 0).low E (d+1)) k c V):=hin
    obtain⟨g1,g2,g3,g4,g5,g6⟩:=loop_lay (h:=forH t.num d R) (enter:=fun V=>upd V t.name (some R)) (b:=(t.kid 0).low E (d+1)) hs hin'
    have hT:s.regs≤y.regs.length:=by
     unfold loopL at hT
     dsimp only at hT
     have hT:((t.kid 0).low E (d+1) (k+2) [insB 16 0 d 0 t.num noB] (R+3) (upd V t.name (some R))).regs≤y.regs.length:=hT
     rw[hs] at hT
     exact hT
    rw[g5,g6]
    have hlim:=loop_limit (hpos g3.1) g3
    refine Sim.stp (c:=4+2) (by omega) ?_
    unfold exB
    rw[if_neg (by omega),if_neg (by omega),if_pos hk]
    refine Sim.pre (loop_start g1) ?_
    have hr1:=(hr.step (k:=x.st+1)).setCount (d:=d) (v:=0)
    have hbody:∀ x1 y1,RelS E D N (loops++[t.name]) locks (upd V t.name (some R)) (R+3) x1 y1→y1.regs.length=y.regs.length→Sim B N inp C E D (PostR E D N (loops++[t.name]) locks (upd V t.name (some R)) (R+3) (d+1) y1) 0 x1 (kidX F inp t 0 x1) (k+2) 1 y1 (k+2+s.done.length) s.code.length:=fun x1 y1 h1 h2=>by
     rw[hkx 0 _ (by omega)]
     exact ih0 g3 x1 y1 h1 (by rw[h2];exact hT)
    have h9:=for_sim (C:=C) F (kidX F inp t 0) (nm:=t.name) ⟨by omega,hn2⟩ hdn hnew g2 g4 hlim hvo (by omega) (show R+3≤y.regs.length by have:=kp.1;omega) hbody hr1 rfl (cnt_same (by rw[hr.cnt];exact hdn)) t.num.toNat (Nat.le_refl _)
    refine Sim.mono (c:=0+4) (Sim.then h9 (fun x1 y1 h1=>?_)) (by omega)
    obtain⟨⟨p1,p2,p3⟩,p4⟩:=h1
    obtain⟨y2,u1,u2,u3⟩:=for_head (N:=N) (inp:=inp) (m:=(t.num.toNat:Int)) ⟨by omega,hn2⟩ g2 (show R+3≤y1.regs.length by rw[p2];have:=kp.1;show R+3≤y.regs.length;omega) p4
    rw[if_neg (show ¬ ((t.num.toNat:Int))<t.num by omega)] at u1
    have h7:=(p1.keep u2 (Nat.le_refl _)).forget (o:=none) hnew
    refine Sim.mono (c:=0+4) (Sim.pre u1 (Sim.ret rfl ⟨h7,u2.len.trans p2,fun j hj=>?_⟩)) (by omega)
    rw[u2.cnt j,p3 j hj,cnt_other (by omega)]
   ·-- While
    have hlen:t.len=2:=hlen
    have hlo:loopsIn t loops=loops:=by unfold loopsIn;rw[if_neg (by omega)]
    have hlk:locksIn t locks=locks:=by unfold locksIn;rw[if_neg (by omega)]
    rw[hlo,hlk] at f1
    rw[if_pos (.inr hk)] at hne
    have hs2:Tree.sumTo (fun i=>(t.kid i).size) t.len=0+(t.kid 0).size+(t.kid 1).size:=by rw[hlen];rfl
    have hn1:1≤t.num:=hn1
    have hn2:t.num≤1000:=hn2
    have hdn:d<4:=by have:=hnk 1 (by omega);omega
    unfold lowS at hin hT⊢
    rw[if_neg (by omega),if_neg (by omega),if_neg (by omega),if_pos hk] at hin hT⊢
    rw[hke 0 V R (by omega),hkl 1 (d+1) (by omega)] at hin hT⊢
    have hl0:=lowE_len E V (t.kid 0) (hkid 0 (by omega)) R
    have hRle:=lowE_mono E V (t.kid 0) R
    obtain⟨e0,he0⟩:∃ e,(t.kid 0).lowE E V R=e:=⟨_,rfl⟩
    have hsim:∀ x1 y1 i,RelS E D N loops locks V R x1 y1→AtC B (k+1) i e0.code→e0.regs≤y1.regs.length→ExpSim B N inp (k+1) i R y1 e0 ((t.kid 0).ev x1.V x1.A):=fun x1 y1 i h1 h2 h3=>by
     rw[←he0] at h2 h3⊢
     exact simK hE (hkid 0 (by omega)) (f1 0 (by omega)) h1.var h1.fin.mem h3 h2
    rw[he0] at hin hT hl0 hRle⊢
    have kp:=low_keep E D (t.kid 1) (.inl (hkid 1 (by omega))) _ _ _ _ (f1 1 (by omega)) (d+1) (k+2) [insB 16 0 d 0 t.num noB] e0.regs V
    have ih1:=ih 1 (by omega) (.inl (hkid 1 (by omega))) _ _ _ _ (f1 1 (by omega)) (d+1) (by have:=hnk 1 (by omega);omega) (by omega) (k+2) [insB 16 0 d 0 t.num noB] e0.regs V
    have hpos:=low_pos B E (t.kid 1) (.inl (hkid 1 (by omega))) (d+1) (k+2) [insB 16 0 d 0 t.num noB] e0.regs V
    obtain⟨s,hs⟩:∃ s,(t.kid 1).low E (d+1) (k+2) [insB 16 0 d 0 t.num noB] e0.regs V=s:=⟨_,rfl⟩
    rw[hs] at kp ih1 hpos
    obtain⟨g1,g2,g3,g4,g5,g6⟩:=loop_lay (h:=e0) (enter:=fun V=>V) (b:=(t.kid 1).low E (d+1)) hs hin
    have hT:s.regs≤y.regs.length:=by
     unfold loopL at hT
     dsimp only at hT
     rw[hs] at hT
     exact hT
    rw[g5,g6]
    have hlim:=loop_limit (hpos g3.1) g3
    have hA:AtC B (k+1) 0 e0.code:=atc_all (c:=[]) g2 rfl
    refine Sim.stp (c:=0+2) (by omega) ?_
    unfold exB
    rw[if_neg (by omega),if_neg (by omega),if_neg (by omega),if_pos hk]
    refine Sim.pre (loop_start g1) ?_
    have hr1:=(hr.step (k:=x.st+1)).setCount (d:=d) (v:=0)
    have h9:=while_sim (C:=C) (t:=t) F (kidE t 0) (kidX F inp t 1) (s:=s) (T:=y.regs.length) ⟨by omega,hn2⟩ hdn g2 g4 hlim hvo (by omega)
     (fun x1 y1 h1 h2=>by rw[hkv 0 _ (by omega)];exact hsim x1 y1 0 h1 hA (by rw[h2];have:=kp.1;omega))
     (fun x1 y1 h1 h2=>by
      rw[hkx 1 _ (by omega)]
      exact (ih1 g3 x1 y1 (h1.agree (fun _ _=>rfl) hRle) (by rw[h2];exact hT)).weak (fun x3 y3 h3=>h3.lift (fun _ _=>rfl) hvo rfl (fun _ _=>rfl) (Nat.le_refl _)))
     t.num.toNat (Nat.le_refl _) _ _ hr1 rfl (by rw[Nat.sub_self];exact cnt_same (by rw[hr.cnt];exact hdn))
    refine h9.weak (fun x3 y3 h3=>⟨h3.1,h3.2.1,fun j hj=>?_⟩)
    rw[h3.2.2 j hj,cnt_other (by omega)]
   ·-- Receive
    have hlen:t.len=1:=hlen
    have hlo:loopsIn t loops=loops:=by unfold loopsIn;rw[if_neg (by omega)]
    have hlk:locksIn t locks=locks:=by unfold locksIn;rw[if_neg (by omega)]
    rw[hlo,hlk] at f1
    obtain⟨p0,p1⟩:=faultsV (f1 0 (by omega))
    have hs1:Tree.sumTo (fun i=>(t.kid i).size) t.len=0+(t.kid 0).size:=by rw[hlen];rfl
    unfold lowS at hin hT⊢
    rw[if_neg (by omega),if_neg (by omega),if_neg (by omega),if_neg (by omega),if_pos hk] at hin hT⊢
    by_cases h2:(t.kid 0).kind=2
    ·rw[if_pos h2] at hin hT⊢
     rw[h2] at p0
     have a1:=hin.leaf
     have hT:R≤y.regs.length:=hT
     obtain⟨r,v1,v2,_⟩:=hr.var _ (var_ok p0)
     refine Sim.stp (c:=1) (by omega) ?_
     unfold exB
     rw[if_neg (by omega),if_neg (by omega),if_neg (by omega),if_neg (by omega),if_pos hk,if_pos h2]
     have hr1:=hr.step (k:=x.st+1)
     have hs1:step N inp (insB 9 (V.reg (t.kid 0).name) 0 0 t.num noB) y = .ok { y.setReg (r:Nat) (nxt inp { x with st:=x.st+1 }) with read:=y.read+1 }:=by
      rw[st_in]
      unfold VM.reg nxt
      rw[v1,hr.fin.rd]
      rfl
     have h7:=hr1.putV (v:=nxt inp { x with st:=x.st+1 }) (var_ok p0) v1 (by omega)
     have h8:RelS E D N loops locks V R ((St.next { x with st:=x.st+1 }).putV (t.kid 0).name (some (nxt inp { x with st:=x.st+1 }))) { y.setReg (r:Nat) (nxt inp { x with st:=x.st+1 }) with read:=y.read+1 }:=⟨h7.var,h7.inj,⟨h7.fin.mem,h7.fin.out,by show y.read+1=x.rd+1;rw[hr.fin.rd]⟩,h7.lock,h7.cnt⟩
     refine ((Sim.mono (c:=0+1) (Sim.pre (a1.step hs1) (Sim.ret rfl ⟨h8,?_,fun j _=>rfl⟩)) (Nat.le_refl _):Sim B N inp C E D (PostR E D N loops locks V R d y) 1 _ _ k c.length y k (c.length+1))).at_ rfl ?_
     ·show (y.regs.set _ _).length=_
      rw[List.length_set]
     ·simp only[List.length_append,List.length_cons,List.length_nil]
    ·rw[if_neg h2] at hin hT⊢
     dsimp only at hin hT⊢
     rcases vldP (hkid 0 (by omega)) with h3|⟨h3,h4,h5⟩
     ·exact absurd h3 h2
     have hpl:loopsIn (t.kid 0) loops=loops:=by unfold loopsIn;rw[if_neg (by omega)]
     have hpk:locksIn (t.kid 0) locks=locks:=by unfold locksIn;rw[if_neg (by omega)]
     have p2:=p1 0 (by omega)
     rw[hpl,hpk] at p2
     rw[h3] at p0
     have hitem:=item_in p0
     have hsp:=(t.kid 0).size_eq
     have hsq:Tree.sumTo (fun i=>((t.kid 0).kid i).size) (t.kid 0).len=0+((t.kid 0).kid 0).size:=by rw[h4];rfl
     have hok0:=lowE_ok hE ((t.kid 0).kid 0) h5 _ _ _ _ p2 R V hvo
     have hl0:=lowE_len E V ((t.kid 0).kid 0) h5 R
     obtain⟨e0,he0⟩:∃ e,((t.kid 0).kid 0).lowE E V R=e:=⟨_,rfl⟩
     have hsim0:∀ x1,RelS E D N loops locks V R x1 y→AtC B k c.length e0.code→e0.regs≤y.regs.length→ExpSim B N inp k c.length R y e0 (((t.kid 0).kid 0).ev x1.V x1.A):=fun x1 h1 h2 h3=>by
      rw[←he0] at h2 h3⊢
      exact simK hE h5 p2 h1.var h1.fin.mem h3 h2
     rw[he0] at hok0 hl0
     simp only[he0] at hin hT⊢
     have hRle:R≤e0.regs:=hok0.lo
     have hT:e0.regs+1≤y.regs.length:=hT
     rw[List.append_assoc] at hin
     obtain⟨a1,a2⟩:=hin.leaf.app
     refine Sim.stp (c:=3+e0.code.length) (by omega) ?_
     unfold exB
     rw[if_neg (by omega),if_neg (by omega),if_neg (by omega),if_neg (by omega),if_pos hk,if_neg h2]
     refine Sim.run hr.fin.step (hsim0 _ hr.step a1 (by omega)) (fun i y1 hkp hn _=>?_)
     have hr1:=(hr.step (k:=x.st+1)).keep hkp (Nat.le_refl _)
     obtain⟨m1,m2⟩:=hr1.item hitem
     unfold St.getA
     rw[m1]
     show Sim B N inp C E D _ 3 _ (if 0≤i∧i<((y1.row (pos N (t.kid 0).name)).length:Int) then _ else _) _ _ _ _ _
     by_cases hx:0≤i∧i<((y1.row (pos N (t.kid 0).name)).length:Int)
     ·rw[if_pos hx]
      have b1:step N inp (insB 8 0 e0.r 0 (E.len (t.kid 0).name) noB) y1 = .ok y1:=st_bound (by rw[hn];omega)
      obtain⟨v,hv⟩:∃ v,nxt inp { x with st:=x.st+1 }=v:=⟨_,rfl⟩
      have b2:step N inp (insB 9 e0.regs 0 0 t.num noB) y1 = .ok { y1.setReg (e0.regs:Nat) v with read:=y1.read+1 }:=by
       rw[st_in,hr1.fin.rd,←hv]
       rfl
      obtain⟨y2,hy2⟩:∃ y2:IrSt,{ y1.setReg (e0.regs:Nat) v with read:=y1.read+1 }=y2:=⟨_,rfl⟩
      rw[hy2] at b2
      have w0:y2.reg e0.r=i:=by rw[←hy2];exact (sreg_other (by have:=hok0.reg;omega)).trans hn
      have w1:y2.reg (e0.regs:Nat)=v:=by rw[←hy2];exact sreg_same (by rw[hkp.len];omega)
      have w2:∀ k,y2.row k=y1.row k:=by rw[←hy2];exact fun _=>rfl
      have b3:step N inp (stoB E (t.kid 0).name e0.r e0.regs) y2 = .ok { y2 with mem:=y2.mem.set (pos N (t.kid 0).name) ((y2.row (pos N (t.kid 0).name)).set i.toNat v) }:=by
       rw[st_store (by rw[w0,w2];exact hx),w0,w1]
      have hr2:RelS E D N loops locks V R (St.next { x with st:=x.st+1 }) y2:=by
       have q1:=hr1.keep (KeepS.set (y:=y1) (R:=R) (r:=e0.regs) (v:=v) hRle) (Nat.le_refl _)
       rw[←hy2]
       exact⟨q1.var,q1.inj,⟨q1.fin.mem,q1.fin.out,by show y1.read+1=x.rd+1;rw[hr1.fin.rd]⟩,q1.lock,q1.cnt⟩
      have hr3:=hr2.putA hN hitem (i:=i) (v:=v)
      unfold St.putA
      have m3:(St.next { x with st:=x.st+1 }).A (t.kid 0).name=some (y1.row (pos N (t.kid 0).name)):=m1
      rw[m3]
      show Sim B N inp C E D _ 3 _ (if 0≤i∧i<((y1.row (pos N (t.kid 0).name)).length:Int) then _ else _) _ _ _ _ _
      rw[if_pos hx,hv]
      rw[w2] at hr3
      have l2:y2.regs.length=y1.regs.length:=by rw[←hy2];exact List.length_set
      have l3:∀ j,y2.cnt.getD j 0=y1.cnt.getD j 0:=by rw[←hy2];exact fun _=>rfl
      rw[w2] at b3
      refine ((Sim.mono (c:=0+1+1+1) (Sim.pre (a2.step b1) (Sim.pre (a2.tail.step b2) (Sim.pre (a2.tail.tail.step b3) (Sim.ret rfl ⟨hr3,l2.trans hkp.len,fun j _=>(l3 j).trans (hkp.cnt j)⟩)))) (by omega):Sim B N inp C E D (PostR E D N loops locks V R d y) 3 _ _ k (c.length+e0.code.length) y1 k (c.length+e0.code.length+1+1+1))).at_ rfl ?_
      simp only[List.length_append,List.length_cons,List.length_nil]
     ·rw[if_neg hx]
      have b1:step N inp (insB 8 0 e0.r 0 (E.len (t.kid 0).name) noB) y1 = .error 11:=st_bound_er (by rw[hn];omega)
      exact Sim.err (by decide) (a2.trap b1) hr1.fin
   ·-- Output
    have hlen:t.len=1:=hlen
    have hlo:loopsIn t loops=loops:=by unfold loopsIn;rw[if_neg (by omega)]
    have hlk:locksIn t locks=locks:=by unfold locksIn;rw[if_neg (by omega)]
    rw[hlo,hlk] at f1
    have hs1:Tree.sumTo (fun i=>(t.kid i).size) t.len=0+(t.kid 0).size:=by rw[hlen];rfl
    unfold lowS at hin hT⊢
    rw[if_neg (by omega),if_neg (by omega),if_neg (by omega),if_neg (by omega),if_neg (by omega),if_pos hk] at hin hT⊢
    rw[hke 0 V R (by omega)] at hin hT⊢
    have hl0:=lowE_len E V (t.kid 0) (hkid 0 (by omega)) R
    obtain⟨e0,he0⟩:∃ e,(t.kid 0).lowE E V R=e:=⟨_,rfl⟩
    have hsim:∀ x1,RelS E D N loops locks V R x1 y→AtC B k c.length e0.code→e0.regs≤y.regs.length→ExpSim B N inp k c.length R y e0 ((t.kid 0).ev x1.V x1.A):=fun x1 h1 h2 h3=>by
     rw[←he0] at h2 h3⊢
     exact simK hE (hkid 0 (by omega)) (f1 0 (by omega)) h1.var h1.fin.mem h3 h2
    rw[he0] at hin hT hl0⊢
    have hT:e0.regs≤y.regs.length:=hT
    rw[List.append_assoc] at hin
    obtain⟨a1,a2⟩:=hin.leaf.app
    refine Sim.stp (c:=1+e0.code.length) (by omega) ?_
    unfold exB
    rw[if_neg (by omega),if_neg (by omega),if_neg (by omega),if_neg (by omega),if_neg (by omega),if_pos hk,hkv 0 _ (by omega)]
    refine Sim.run hr.fin.step (hsim _ hr.step a1 hT) (fun n y1 hkp hn _=>?_)
    have hr1:=(hr.step (k:=x.st+1)).keep hkp (Nat.le_refl _)
    have hs1:step N inp (insB 10 0 e0.r 0 t.num noB) y1 = .ok { y1 with out:=y1.out++[(t.num,n)] }:=by rw[st_out,hn]
    refine ((Sim.mono (c:=0+1) (Sim.pre (a2.step hs1) (Sim.ret (x':={ x with st:=x.st+1,out:=x.out++[(t.num,n)] }) rfl ⟨⟨hr1.var,hr1.inj,⟨hr1.fin.mem,?_,hr1.fin.rd⟩,hr1.lock,hr1.cnt⟩,hkp.len,fun j _=>hkp.cnt j⟩)) (Nat.le_refl _):Sim B N inp C E D (PostR E D N loops locks V R d y) 1 _ _ k (c.length+e0.code.length) y1 k (c.length+e0.code.length+1))).at_ rfl ?_
    ·show y1.out++_=x.out++_
     rw[hr1.fin.out]
    ·simp only[List.length_append,List.length_cons,List.length_nil]
   ·-- Lock
    have hlen:t.len=1:=hlen
    have hlo:loopsIn t loops=loops:=by unfold loopsIn;rw[if_neg (by omega)]
    have hlk:locksIn t locks=locks++[t.name]:=by unfold locksIn;rw[if_pos hk]
    rw[hlo,hlk] at f1
    rw[if_neg (by omega),Nat.add_zero] at hne
    have hs1:Tree.sumTo (fun i=>(t.kid i).size) t.len=0+(t.kid 0).size:=by rw[hlen];rfl
    have hlocks:locks = []:=by
     rw[hk] at f0
     unfold faultN at f0
     rw[if_neg (by decide),if_neg (by decide),if_neg (by decide),if_pos rfl] at f0
     by_cases h:memB D.shared t.name=true
     ·rw[if_pos h] at f0
      by_cases h2:locks = []
      ·exact h2
      ·rw[if_neg h2] at f0;exact absurd f0 (by decide)
     ·rw[if_neg h] at f0;exact absurd f0 (by decide)
    subst hlocks
    rw[List.nil_append] at f1
    unfold lowS at hin hT⊢
    rw[if_neg (by omega),if_neg (by omega),if_neg (by omega),if_neg (by omega),if_neg (by omega),if_neg (by omega),if_pos hk] at hin hT⊢
    rw[hkl 0 d (by omega)] at hin hT⊢
    dsimp only at hin hT⊢
    have ih0:=ih 0 (by omega) (.inl (hkid 0 (by omega))) _ _ _ _ (f1 0 (by omega)) d (by have:=hnk 0 (by omega);omega) (by omega) k (c++[insB 11 0 0 0 0 t.name]) R V
    have hpos:=low_pos B E (t.kid 0) (.inl (hkid 0 (by omega))) d k (c++[insB 11 0 0 0 0 t.name]) R V
    obtain⟨s,hs⟩:∃ s,(t.kid 0).low E d k (c++[insB 11 0 0 0 0 t.name]) R V=s:=⟨_,rfl⟩
    rw[hs] at ih0 hpos hin hT⊢
    obtain⟨b,hb1,hb2⟩:=hin.2
    have hb1:B[k+s.done.length]? = some b:=hb1
    have hb2:s.code++[insB 12 0 0 0 0 t.name] <+: b.code:=hb2
    have hin2:InL B k s:=⟨hin.1,b,hb1,(List.prefix_append _ _).trans hb2⟩
    obtain⟨b0,hb3,hb4⟩:=ext_at (hpos hin.1) hin2
    have a1:=atc_of hb3 hb4
    have a2:=atc_of hb1 hb2
    have hT:s.regs≤y.regs.length:=hT
    refine Sim.stp (c:=2) (by omega) ?_
    unfold exB
    rw[if_neg (by omega),if_neg (by omega),if_neg (by omega),if_neg (by omega),if_neg (by omega),if_neg (by omega),hkx 0 _ (by omega)]
    have s1:=a1.step (N:=N) (inp:=inp) (y:=y) (st_lock (hr.lock.1 rfl))
    have hr1:RelS E D N loops [t.name] V R { x with st:=x.st+1 } { y with locked:=true,held:=t.name }:=⟨hr.var,hr.inj,⟨hr.fin.mem,hr.fin.out,hr.fin.rd⟩,⟨fun h=>(by cases h),fun nm h=>(by cases h;exact⟨rfl,rfl⟩)⟩,hr.cnt⟩
    have h9:=ih0 hin2 _ _ hr1 hT
    have h8:=Sim.post h9 (c2:=1) (a2:=k+s.done.length) (i2:=s.code.length+1) (Rel2:=PostR E D N loops [] V R d y) (fun x3 y3 h3=>by
     obtain⟨q1,q2,q3⟩:=h3
     obtain⟨l1,l2⟩:=q1.lock.2 t.name rfl
     refine⟨1,_,a2.step (st_unlock l1 l2),Nat.le_refl _,⟨q1.var,q1.inj,⟨q1.fin.mem,q1.fin.out,q1.fin.rd⟩,⟨fun _=>rfl,fun nm h=>(by cases h)⟩,q1.cnt⟩,q2,q3⟩)
    have e1:(c++[insB 11 0 0 0 0 t.name]).length=c.length+1:=by simp
    rw[e1] at h8
    exact (Sim.mono (Sim.pre s1 h8) (by omega):Sim B N inp C E D (PostR E D N loops [] V R d y) 2 _ _ k c.length y (k+s.done.length) (s.code.length+1)).at_ rfl (by simp)
end
