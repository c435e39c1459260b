/- Part. -/
import Derived.Test.YtkpdngfkdmllkaaGreatDoorMg44
namespace Go.Proofs.YtkpdngfkdmllkaaGreatDoor
set_option linter.unusedVariables false
set_option linter.unusedSimpArgs false
open Go.RowKit
set_option maxRecDepth 100000
theorem lowB_mono{E:LEnv}{V:VM}{k n:Int}{s:ByteArray}{f0 f1:Nat→LE}(h0:∀ R,R≤(f0 R).regs)(h1:∀ R,R≤(f1 R).regs)(R:Nat):R≤(lowB E V k n s f0 f1 R).regs:=by
 have g0:=h0 R
 have g1:=h1 (f0 R).regs
 unfold lowB
 split
 ·exact Nat.le_succ _
 split
 ·exact Nat.le_refl _
 split
 ·exact Nat.le_trans g0 (Nat.le_succ _)
 split
 ·show R≤(f0 R).regs+2;omega
 split
 ·show R≤(f0 R).regs+2;omega
 ·show R≤(f1 (f0 R).regs).regs+1;omega
theorem lowE_mono(E:LEnv)(V:VM):∀ (t:Tree) (R:Nat),R≤(t.lowE E V R).regs:=by
 intro t
 induction t using Tree.ind with
 | h t ih =>
  intro R
  rw[Tree.lowE_eq]
  refine lowB_mono (fun R=>?_) (fun R=>?_) R
  ·by_cases h:0<t.len
   ·rw[if_pos h];exact ih 0 h R
   ·rw[if_neg h];exact Nat.le_refl _
  ·by_cases h:1<t.len
   ·rw[if_pos h];exact ih 1 h R
   ·rw[if_neg h];exact Nat.le_refl _
theorem kidLE_mono(E:LEnv)(t:Tree)(j:Nat)(V:VM)(R:Nat):R≤(kidLE E t j V R).regs:=by
 unfold kidLE
 by_cases h:j<t.len
 ·rw[if_pos h];exact lowE_mono E V _ R
 ·rw[if_neg h];exact Nat.le_refl _
theorem for_new{D:Nms}{s:ByteArray}{place:Bool}{loops locks:List ByteArray}(h:faultN D 42 s place loops locks=0):¬ Vis D loops s:=by
 intro hx
 unfold faultN at h
 have hx:(memB D.scalars s || memB loops s)=true:=hx
 rw[if_neg (by decide),if_neg (by decide),if_pos rfl,hx,Bool.true_or,if_pos rfl] at h
 exact absurd h (by decide)
theorem vis_loop{D:Nms}{loops:List ByteArray}{nm s:ByteArray}(h:Vis D loops s):Vis D (loops++[nm]) s:=by
 have h:(memB D.scalars s || memB loops s)=true:=h
 show (memB D.scalars s || memB (loops++[nm]) s)=true
 rw[memB_append,←Bool.or_assoc,h,Bool.true_or]
theorem vis_out{D:Nms}{loops:List ByteArray}{nm s:ByteArray}(h:Vis D (loops++[nm]) s)(hs:s≠nm):Vis D loops s:=by
 have h:(memB D.scalars s || memB (loops++[nm]) s)=true:=h
 rw[memB_append] at h
 have e2:memB [nm] s=false:=by unfold memB;simp[Ne.symm hs]
 rwa [e2,Bool.or_false] at h
theorem low_keep(E:LEnv)(D:Nms):∀ (t:Tree),(t.vld 98=true∨t.vld 115=true)→∀ (path:List Int) (place:Bool) (loops locks:List ByteArray),faultsT D t path place loops locks = []→∀ (d k:Nat) (c:List Ins) (R:Nat) (V:VM),R≤(t.low E d k c R V).regs∧∀ nm,Vis D loops nm→(t.low E d k c R V).vars nm=V nm:=by
 intro t
 induction t using Tree.ind with
 | h t ih =>
  intro hv path place loops locks hf d k c R V
  obtain⟨f0,f1⟩:=faultsV hf
  rw[Tree.low_eq]
  rcases hv with hv|hv
  ·obtain⟨hk,hkid⟩:=vldB hv
   have hlo:loopsIn t loops=loops:=by unfold loopsIn;rw[if_neg (by omega)]
   rw[hlo] at f1
   rw[if_pos hk]
   have key:∀ n,n≤t.len→R≤(seqL (fun i=>kidL E t i d) k c R V n).regs∧∀ nm,Vis D loops nm→(seqL (fun i=>kidL E t i d) k c R V n).vars nm=V nm:=by
    intro n
    induction n with
    | zero=>intro _;exact⟨Nat.le_refl _,fun _ _=>rfl⟩
    | succ n ihn =>
     intro hn
     have h1:=ihn (by omega)
     show R≤((seqL (fun i=>kidL E t i d) k c R V n).next k (kidL E t n d)).regs∧∀ nm,Vis D loops nm→((seqL (fun i=>kidL E t i d) k c R V n).next k (kidL E t n d)).vars nm=V nm
     obtain⟨q,hq⟩:∃ q,seqL (fun i=>kidL E t i d) k c R V n=q:=⟨_,rfl⟩
     rw[hq] at h1⊢
     have h2:=ih n (by omega) (.inr (hkid n (by omega))) _ _ _ _ (f1 n (by omega)) d (k+q.done.length) q.code q.regs q.vars
     have h3:kidL E t n d=(t.kid n).low E d:=by unfold kidL;rw[if_pos (show n<t.len by omega)]
     rw[h3]
     exact⟨Nat.le_trans h1.1 h2.1,fun nm hn=>(h2.2 nm hn).trans (h1.2 nm hn)⟩
   exact key t.len (Nat.le_refl _)
  ·obtain⟨⟨hk1,hk2⟩,_,hlen,hkid⟩:=vldS hv
   rw[if_neg (by omega)]
   have hb:∀ i,i<t.len→(t.kid i).vld 98=true→∀ d k c R V,R≤(kidL E t i d k c R V).regs∧∀ nm,Vis D (loopsIn t loops) nm→(kidL E t i d k c R V).vars nm=V nm:=fun i hi hvi d k c R V=>by
    have h3:kidL E t i d=(t.kid i).low E d:=by unfold kidL;rw[if_pos hi]
    rw[h3]
    exact ih i hi (.inl hvi) _ _ _ _ (f1 i hi) d k c R V
   have he:=kidLE_mono E t
   obtain hk|hk|hk|hk|hk|hk|hk:t.kind=40∨t.kind=41∨t.kind=42∨t.kind=43∨t.kind=44∨t.kind=45∨t.kind=46:=by omega
   all_goals rw[hk] at hlen hkid
   ·unfold lowS
    rw[if_pos hk]
    by_cases h2:(t.kid 0).kind=2
    ·rw[if_pos h2];exact⟨he _ _ _,fun _ _=>rfl⟩
    ·rw[if_neg h2];exact⟨Nat.le_trans (lowE_mono E V _ _) (he _ _ _),fun _ _=>rfl⟩
   ·have hlen:t.len=3:=hlen
    have hlo:loopsIn t loops=loops:=by unfold loopsIn;rw[if_neg (by omega)]
    rw[hlo] at hb
    unfold lowS
    rw[if_neg (by omega),if_pos hk]
    unfold ifL
    dsimp only
    have b1:=hb 1 (by omega) (hkid 1 (by omega)) d (k+1) [] (kidLE E t 0 V R).regs V
    obtain⟨s1,hs1⟩:∃ s1,kidL E t 1 d (k+1) [] (kidLE E t 0 V R).regs V=s1:=⟨_,rfl⟩
    rw[hs1] at b1⊢
    have b2:=hb 2 (by omega) (hkid 2 (by omega)) d (k+1+s1.done.length+1) [] s1.regs s1.vars
    exact⟨Nat.le_trans (he 0 V R) (Nat.le_trans b1.1 b2.1),fun nm hn=>(b2.2 nm hn).trans (b1.2 nm hn)⟩
   ·have hlen:t.len=1:=hlen
    have hlo:loopsIn t loops=loops++[t.name]:=by unfold loopsIn;rw[if_pos hk]
    rw[hlo] at hb
    rw[hk] at f0
    unfold lowS
    rw[if_neg (by omega),if_neg (by omega),if_pos hk]
    unfold loopL
    dsimp only
    have b1:=hb 0 (by omega) (hkid 0 (by omega)) (d+1) (k+2) [insB 16 0 d 0 t.num noB] (forH t.num d R).regs (upd V t.name (some R))
    refine⟨Nat.le_trans (show R≤R+3 by omega) b1.1,fun nm hn=>?_⟩
    have hne:nm≠t.name:=by rintro rfl;exact for_new f0 hn
    rw[upd_other _ _ hne,b1.2 nm (vis_loop hn),upd_other _ _ hne]
   ·have hlen:t.len=2:=hlen
    have hlo:loopsIn t loops=loops:=by unfold loopsIn;rw[if_neg (by omega)]
    rw[hlo] at hb
    unfold lowS
    rw[if_neg (by omega),if_neg (by omega),if_neg (by omega),if_pos hk]
    unfold loopL
    dsimp only
    have b1:=hb 1 (by omega) (hkid 1 (by omega)) (d+1) (k+2) [insB 16 0 d 0 t.num noB] (kidLE E t 0 V R).regs V
    exact⟨Nat.le_trans (he 0 V R) b1.1,b1.2⟩
   ·unfold lowS
    rw[if_neg (by omega),if_neg (by omega),if_neg (by omega),if_neg (by omega),if_pos hk]
    by_cases h2:(t.kid 0).kind=2
    ·rw[if_pos h2];exact⟨Nat.le_refl _,fun _ _=>rfl⟩
    ·rw[if_neg h2];exact⟨Nat.le_trans (lowE_mono E V _ _) (Nat.le_succ _),fun _ _=>rfl⟩
   ·unfold lowS
    rw[if_neg (by omega),if_neg (by omega),if_neg (by omega),if_neg (by omega),if_neg (by omega),if_pos hk]
    exact⟨he _ _ _,fun _ _=>rfl⟩
   ·have hlen:t.len=1:=hlen
    have hlo:loopsIn t loops=loops:=by unfold loopsIn;rw[if_neg (by omega)]
    rw[hlo] at hb
    unfold lowS
    rw[if_neg (by omega),if_neg (by omega),if_neg (by omega),if_neg (by omega),if_neg (by omega),if_neg (by omega),if_pos hk]
    exact hb 0 (by omega) (hkid 0 (by omega)) d k (c++[insB 11 0 0 0 0 t.name]) R V
def PostR(E:LEnv)(D:Nms)(N loops locks:List ByteArray)(V:VM)(R d:Nat)(y:IrSt)(x':St)(y':IrSt):Prop:=
 RelS E D N loops locks V R x' y'∧y'.regs.length=y.regs.length∧∀ j,j<d→y'.cnt.getD j 0=y.cnt.getD j 0
section
variable {E:LEnv} {D:Nms} {N loops locks:List ByteArray} {V V2:VM} {R R2 d d2:Nat} {x x':St} {y y1 y2 y':IrSt}
theorem RelS.back(h:RelS E D N loops locks V2 R2 x y)(hv:∀ nm,Vis D loops nm→V2 nm=V nm)(hV:VOk D loops V R):RelS E D N loops locks V R x y:=by
 refine⟨fun nm hn=>?_,fun a b r ha hb h1 h2=>?_,h.fin,h.lock,h.cnt⟩
 ·obtain⟨r,h1,h2,h3⟩:=h.var nm hn
  obtain⟨r',k1,k2⟩:=hV nm hn
  rw[hv nm hn,k1] at h1
  cases h1
  exact⟨_,k1,k2,h3⟩
 ·rw[←hv a ha] at h1
  rw[←hv b hb] at h2
  exact h.inj a b r ha hb h1 h2
theorem PostR.lift(h:PostR E D N loops locks V2 R2 d2 y1 x' y')(hv:∀ nm,Vis D loops nm→V2 nm=V nm)(hV:VOk D loops V R)(hl:y1.regs.length=y.regs.length)(hc:∀ j,j<d→y1.cnt.getD j 0=y.cnt.getD j 0)(hd:d≤d2):PostR E D N loops locks V R d y x' y':=
 ⟨h.1.back hv hV,h.2.1.trans hl,fun j hj=>(h.2.2 j (by omega)).trans (hc j hj)⟩
theorem KeepS.cnt(h:KeepS R y y1):∀ j,y1.cnt.getD j 0=y.cnt.getD j 0:=by obtain⟨rs,rfl,_,_⟩:=h;exact fun _=>rfl
theorem KeepS.mem(h:KeepS R y y1):y1.mem=y.mem:=by obtain⟨rs,rfl,_,_⟩:=h;rfl
theorem KeepS.read(h:KeepS R y y1):y1.read=y.read:=by obtain⟨rs,rfl,_,_⟩:=h;rfl
end
section
variable {B:List Blk} {N:List ByteArray} {inp:List Int} {C:Nat} {E:LEnv} {D:Nms} {ns:List (ByteArray×Bool)} {loops locks:List ByteArray}
theorem simK(hE:EnvOk E ns D){t:Tree}(hv:t.vld 101=true){path:List Int}{place:Bool}(hf:faultsT D t path place loops locks = []){V:VM}{R:Nat}{x:St}{y:IrSt}{a i:Nat}(hV:VarR D loops V R x.V y.regs)(hM:MemR E D N x.A y.mem)(hT:(t.lowE E V R).regs≤y.regs.length)(hA:AtC B a i (t.lowE E V R).code) :
 ExpSim B N inp a i R y (t.lowE E V R) (t.ev x.V x.A):=simE hE x.A x.V V t hv _ _ _ _ hf R y a i hV hM hT hA
structure ItemAt(E:LEnv)(D:Nms)(N:List ByteArray)(x:St)(y:IrSt)(nm:ByteArray):Prop where
 a:x.A nm=some (y.row (pos N nm))
 len:((y.row (pos N nm)).length:Int)=E.len nm
theorem RelS.item{V:VM}{R:Nat}{x:St}{y:IrSt}(h:RelS E D N loops locks V R x y){nm:ByteArray}(hn:(memB D.arrays nm || memB D.shared nm)=true):ItemAt E D N x y nm:=by
 obtain⟨m1,m2,_⟩:=h.fin.mem nm hn
 exact⟨m1,m2⟩
theorem RelS.putA{V:VM}{R:Nat}{x:St}{y:IrSt}(hN:∀ nm,(memB D.arrays nm || memB D.shared nm)=true→nm∈N)(h:RelS E D N loops locks V R x y){nm:ByteArray}{i v:Int}(hn:(memB D.arrays nm || memB D.shared nm)=true) :
 RelS E D N loops locks V R { x with A:=upd x.A nm (some ((y.row (pos N nm)).set i.toNat v)) } { y with mem:=y.mem.set (pos N nm) ((y.row (pos N nm)).set i.toNat v) }:=
 ⟨h.var,h.inj,h.fin.putA hN hn,h.lock,h.cnt⟩
end
theorem cnt_same{y:IrSt}{d:Nat}{v:Int}(h:d<y.cnt.length):(y.setCount (d:Nat) v).count (d:Nat)=v:=by
 show (y.cnt.set d v).getD d 0=v
 rw[sim_getD,if_pos ⟨rfl,h⟩]
theorem cnt_other{y:IrSt}{d j:Nat}{v:Int}(h:j≠d):(y.setCount (d:Nat) v).cnt.getD j 0=y.cnt.getD j 0:=by
 show (y.cnt.set d v).getD j 0=_
 rw[sim_getD,if_neg (fun e=>h e.1.symm)]
theorem loop_lay{B:List Blk}{lim:Int}{d:Nat}{h:LE}{enter:VM→VM}{b:LF}{k:Nat}{c:List Ins}{V:VM}{s:LS}(hs:b (k+2) [insB 16 0 d 0 lim noB] h.regs (enter V)=s)(hin:InL B k (loopL lim d h enter b k c V)) :
 B[k]? = some (jmpB (c++[insB 13 0 0 0 d noB]) (k+1))∧B[k+1]? = some ⟨h.code,2,h.r,(k+2:Nat),(k+2+s.done.length+1:Nat)⟩∧InL B (k+2) s∧B[k+2+s.done.length]? = some (jmpB (s.code++[insB 14 0 0 0 d noB]) (k+1)) ∧
 k+(loopL lim d h enter b k c V).done.length=k+2+s.done.length+1∧(loopL lim d h enter b k c V).code = []:=by
 unfold loopL at hin⊢
 dsimp only at hin⊢
 rw[hs] at hin⊢
 obtain⟨h1,_⟩:=hin
 have h1:∀ i x,([jmpB (c++[insB 13 0 0 0 d noB]) (k+1),(⟨h.code,2,h.r,(k+2:Nat),(k+2+s.done.length+1:Nat)⟩:Blk)]++s.done++[jmpB (s.code++[insB 14 0 0 0 d noB]) (k+1)])[i]? = some x→B[k+i]? = some x:=h1
 have hb:∀ i x,s.done[i]? = some x→B[k+2+i]? = some x:=fun i x hx=>by
  rw[show k+2+i=k+(i+2) by omega]
  refine h1 (i+2) x ?_
  have hl:=(List.getElem?_eq_some_iff.1 hx).1
  rw[List.getElem?_append_left (by rw[List.length_append];show i+2<2+_;omega),List.getElem?_append_right (by show 2≤i+2;omega)]
  exact hx
 have he:B[k+2+s.done.length]? = some (jmpB (s.code++[insB 14 0 0 0 d noB]) (k+1)):=by
  rw[show k+2+s.done.length=k+(2+s.done.length) by omega]
  refine h1 (2+s.done.length) _ ?_
  rw[List.getElem?_append_right (by rw[List.length_append];exact Nat.le_refl _),List.length_append]
  show [jmpB (s.code++[insB 14 0 0 0 d noB]) (k+1)][2+s.done.length-(2+s.done.length)]? = _
  rw[Nat.sub_self]
  rfl
 refine⟨h1 0 _ rfl,h1 1 _ rfl,⟨hb,_,he,List.prefix_append _ _⟩,he,?_,rfl⟩
 simp only[List.length_append,List.length_cons,List.length_nil]
 omega
theorem atc_all{B:List Blk}{k:Nat}{b:Blk}{c l:List Ins}(hb:B[k]? = some b)(h:b.code=c++l):AtC B k c.length l:=atc_of hb (by rw[h];exact List.prefix_refl _)
theorem end_none{c l:List Ins}{b:Blk}(h:b.code=c++l):b.code[c.length+l.length]? = none:=by rw[h,List.getElem?_eq_none];rw[List.length_append];exact Nat.le_refl _
section
variable {B:List Blk} {N:List ByteArray} {inp:List Int} {C:Nat} {E:LEnv} {D:Nms} {ns:List (ByteArray×Bool)}
theorem loop_back{s:LS}{k d:Nat}{y:IrSt}(he:B[k+2+s.done.length]? = some (jmpB (s.code++[insB 14 0 0 0 d noB]) (k+1))):Reach B N inp 2 (k+2+s.done.length) s.code.length y (k+1) 0 (y.setCount d (wrap32 (y.count d+1))):=by
 have h1:=(atc_all (c:=s.code) (l:=[insB 14 0 0 0 d noB]) he rfl).step (N:=N) (inp:=inp) (y:=y) st_inc
 have h2:Reach B N inp 1 (k+2+s.done.length) (s.code.length+1) (y.setCount d (wrap32 (y.count d+1))) (k+1) 0 (y.setCount d (wrap32 (y.count d+1))):=by
  have h3:=Reach.jump (B:=B) (N:=N) (inp:=inp) (i:=s.code.length+1) (y:=y.setCount d (wrap32 (y.count d+1))) he (end_none (c:=s.code) (l:=[insB 14 0 0 0 d noB]) rfl) (show (1:Int)≠3 by decide)
  exact h3
 exact h1.trans h2
theorem loop_start{k d:Nat}{c:List Ins}{y:IrSt}(he:B[k]? = some (jmpB (c++[insB 13 0 0 0 d noB]) (k+1))):Reach B N inp 2 k c.length y (k+1) 0 (y.setCount d 0):=by
 have h1:=(atc_all (c:=c) (l:=[insB 13 0 0 0 d noB]) he rfl).step (N:=N) (inp:=inp) (y:=y) st_zero
 have h2:Reach B N inp 1 k (c.length+1) (y.setCount d 0) (k+1) 0 (y.setCount d 0):=by
  have h3:=Reach.jump (B:=B) (N:=N) (inp:=inp) (i:=c.length+1) (y:=y.setCount d 0) he (end_none (c:=c) (l:=[insB 13 0 0 0 d noB]) rfl) (show (1:Int)≠3 by decide)
  exact h3
 exact h1.trans h2
theorem loop_branch{h:LE}{k k3:Nat}{y:IrSt}(he:B[k+1]? = some ⟨h.code,2,h.r,(k+2:Nat),(k3:Nat)⟩):Reach B N inp 1 (k+1) h.code.length y (if y.reg h.r=0 then k3 else k+2) 0 y:=by
 have h3:=Reach.jump (B:=B) (N:=N) (inp:=inp) (i:=h.code.length) (y:=y) he (List.getElem?_eq_none (Nat.le_refl _)) (show (2:Int)≠3 by decide)
 have e:Blk.next (⟨h.code,2,h.r,(k+2:Nat),(k3:Nat)⟩:Blk) y=if y.reg h.r=0 then k3 else k+2:=by
  unfold Blk.next
  by_cases hc:y.reg h.r=0
  ·rw[if_pos (show (2:Int)=2∧y.reg h.r=0 from ⟨rfl,hc⟩),if_pos hc];exact Int.toNat_natCast _
  ·rw[if_neg (show ¬ ((2:Int)=2∧y.reg h.r=0) from fun x=>hc x.2),if_neg hc];exact Int.toNat_natCast _
 rw[e] at h3
 exact h3
theorem RelS.setCount{loops locks:List ByteArray}{V:VM}{R d:Nat}{x:St}{y:IrSt}{v:Int}(h:RelS E D N loops locks V R x y):RelS E D N loops locks V R x (y.setCount (d:Nat) v):=
 ⟨h.var,h.inj,⟨h.fin.mem,h.fin.out,h.fin.rd⟩,h.lock,by show (y.cnt.set _ v).length=4;rw[List.length_set];exact h.cnt⟩
theorem loop_limit{s:LS}{k d:Nat}{lim:Int}(hp:PosL B (k+2) [insB 16 0 d 0 lim noB] s)(hs:InL B (k+2) s):AtC B (k+2) 0 [insB 16 0 d 0 lim noB]:=by
 obtain⟨b,h1,h2⟩:=ext_at hp hs
 exact atc_of (c:=[]) h1 h2
set_option maxHeartbeats 1000000
theorem while_sim(F:Int){t:Tree}(ce:St→EV)(bb:St→SR){lim:Int}{d k k3:Nat}{h:LE}{s:LS}{loops locks:List ByteArray}{V:VM}{R T:Nat}(hlim:0≤lim∧lim≤1000)(hd:d<4)
 (hH:B[k+1]? = some ⟨h.code,2,h.r,(k+2:Nat),(k3:Nat)⟩) (hE:B[k+2+s.done.length]? = some (jmpB (s.code++[insB 14 0 0 0 d noB]) (k+1))) (hL:AtC B (k+2) 0 [insB 16 0 d 0 lim noB]) (hV:VOk D loops V R) (hC:h.code.length+4≤C)
 (hc:∀ x y,RelS E D N loops locks V R x y→y.regs.length=T→ExpSim B N inp (k+1) 0 R y h (ce x))
 (hb:∀ x y,RelS E D N loops locks V R x y→y.regs.length=T→Sim B N inp C E D (PostR E D N loops locks V R (d+1) y) 0 x (bb x) (k+2) 1 y (k+2+s.done.length) s.code.length) :
 ∀ (kk:Nat),kk≤lim.toNat→∀ x y,RelS E D N loops locks V R x y→y.regs.length=T→y.count (d:Nat)=((lim.toNat-kk:Nat):Int)→Sim B N inp C E D (PostR E D N loops locks V R d y) 0 x (whl F ce bb kk x) (k+1) 0 y k3 0:=by
 intro kk
 induction kk with
 | zero =>
  intro _ x y hr hT hcnt
  unfold whl
  refine Sim.stp (c:=1+h.code.length) (by omega) ?_
  have hr1:RelS E D N loops locks V R { x with st:=x.st+1 } y:=hr.step
  refine Sim.run hr1.fin (hc _ y hr1 hT) (fun n y1 hk hn _=>?_)
  rw[Nat.zero_add]
  have hr2:=hr1.keep hk (Nat.le_refl _)
  have hj:=loop_branch (N:=N) (inp:=inp) (y:=y1) hH
  rw[hn] at hj
  by_cases h0:n=0
  ·rw[if_pos h0] at hj⊢
   exact Sim.mono (Sim.pre hj (Sim.ret rfl ⟨hr2,hk.len,fun j _=>hk.cnt j⟩)) (by omega)
  ·rw[if_neg h0] at hj⊢
   refine Sim.mono (Sim.pre hj (Sim.err (c:=0) (by decide) (hL.trap (st_limit_er (fun hx=>?_))) hr2.fin)) (by omega)
   have hc1:y1.count (d:Nat)=y.count (d:Nat):=hk.cnt d
   rw[hc1,hcnt] at hx
   omega
 | succ kk ih =>
  intro hle x y hr hT hcnt
  unfold whl
  refine Sim.stp (c:=4+h.code.length) (by omega) ?_
  have hr1:RelS E D N loops locks V R { x with st:=x.st+1 } y:=hr.step
  refine Sim.run hr1.fin (hc _ y hr1 hT) (fun n y1 hk hn _=>?_)
  rw[Nat.zero_add]
  have hr2:=hr1.keep hk (Nat.le_refl _)
  have hj:=loop_branch (N:=N) (inp:=inp) (y:=y1) hH
  have hc1:y1.count (d:Nat)=y.count (d:Nat):=hk.cnt d
  rw[hn] at hj
  by_cases h0:n=0
  ·rw[if_pos h0] at hj⊢
   exact Sim.mono (Sim.pre hj (Sim.ret rfl ⟨hr2,hk.len,fun j _=>hk.cnt j⟩)) (by omega)
  ·rw[if_neg h0] at hj⊢
   have hl1:=hL.step (N:=N) (inp:=inp) (y:=y1) (st_limit (by rw[hc1,hcnt];omega))
   have hT1:y1.regs.length=T:=hk.len.trans hT
   have h9:=Sim.then (hb _ y1 hr2 hT1) (f:=whl F ce bb kk) (c2:=2) (Rel2:=PostR E D N loops locks V R d y) (a2:=k3) (i2:=0) (fun x2 y2 h2=>?_)
   ·exact Sim.mono (Sim.pre hj (Sim.pre hl1 h9)) (by omega)
   ·obtain⟨p1,p2,p3⟩:=h2
    have e2:y2.count (d:Nat)=y.count (d:Nat):=(p3 d (by omega)).trans hc1
    have hbk:=loop_back (N:=N) (inp:=inp) (y:=y2) hE
    have ew:wrap32 (y2.count (d:Nat)+1)=((lim.toNat-kk:Nat):Int):=by rw[e2,hcnt];unfold wrap32;omega
    rw[ew] at hbk
    have h8:=ih (by omega) x2 (y2.setCount (d:Nat) ((lim.toNat-kk:Nat):Int)) p1.setCount (p2.trans hT1) (cnt_same (by rw[p1.cnt];exact hd))
    have h7:=Sim.pre hbk h8
    rw[Nat.zero_add] at h7
    refine h7.weak (fun x9 y9 q=>⟨q.1,?_,fun j hj=>?_⟩)
    ·exact q.2.1.trans (p2.trans hk.len)
    ·rw[q.2.2 j hj,cnt_other (by omega),p3 j (by omega)]
     exact hk.cnt j
theorem for_head{d k k3:Nat}{lim:Int}{R:Nat}{y:IrSt}{m:Int}(hlim:0≤lim∧lim≤1000)(hH:B[k+1]? = some ⟨(forH lim d R).code,2,(forH lim d R).r,(k+2:Nat),(k3:Nat)⟩)(hT:R+3≤y.regs.length)(hm:y.count (d:Nat)=m) :
 ∃ y',Reach B N inp 4 (k+1) 0 y (if m<lim then k+2 else k3) 0 y'∧KeepS R y y'∧y'.reg (R:Nat)=m:=by
 have hA:AtC B (k+1) 0 (forH lim d R).code:=atc_all (c:=[]) hH rfl
 obtain⟨y1,hy1⟩:∃ y1,y.setReg (R:Nat) m=y1:=⟨_,rfl⟩
 obtain⟨y2,hy2⟩:∃ y2,y1.setReg ((R+1:Nat):Int) lim=y2:=⟨_,rfl⟩
 obtain⟨y3,hy3⟩:∃ y3,y2.setReg ((R+2:Nat):Int) (Wd.apply 18 m lim)=y3:=⟨_,rfl⟩
 have l1:y1.regs.length=y.regs.length:=by rw[←hy1];exact List.length_set
 have l2:y2.regs.length=y.regs.length:=by rw[←l1,←hy2];exact List.length_set
 have s1:step N inp (insB 15 R 0 0 d noB) y = .ok y1:=by rw[st_read,hm,hy1]
 have s2:step N inp (insB 1 ((R+1:Nat):Int) 0 0 lim noB) y1 = .ok y2:=by
  rw[st_const,show wrap32 lim=lim by unfold wrap32;omega,hy2]
 have q1:y2.reg (R:Nat)=m:=by rw[←hy2,sreg_other (by omega),←hy1,sreg_same (by omega)]
 have q2:y2.reg ((R+1:Nat):Int)=lim:=by rw[←hy2,sreg_same (by omega)]
 have s3:step N inp (insB 3 ((R+2:Nat):Int) R ((R+1:Nat):Int) 18 noB) y2 = .ok y3:=by
  rw[st_bin (Wd.e0 18 _ (by omega) (by omega)),q1,q2,hy3]
 have r3:=((AtC.step hA s1).trans (hA.tail.step s2)).trans (hA.tail.tail.step s3)
 have q3:y3.reg ((R+2:Nat):Int)=Wd.apply 18 m lim:=by rw[←hy3,sreg_same (by omega)]
 have hj:=loop_branch (N:=N) (inp:=inp) (y:=y3) hH
 have e:(y3.reg (forH lim d R).r=0)↔¬ m<lim:=by
  show (y3.reg ((R+2:Nat):Int)=0)↔_
  rw[q3,Wd.a18]
  unfold Wd.tr
  by_cases h:m<lim <;> simp[h]
 refine⟨y3,?_,?_,?_⟩
 ·have h4:=r3.trans hj
  by_cases h:m<lim
  ·rw[if_neg (fun hx=>(e.1 hx) h)] at h4
   rw[if_pos h]
   exact h4
  ·rw[if_pos (e.2 h)] at h4
   rw[if_neg h]
   exact h4
 ·have k1:KeepS R y y1:=by rw[←hy1];exact KeepS.set (Nat.le_refl _)
  have k2:KeepS (R+1) y1 y2:=by rw[←hy2];exact KeepS.set (Nat.le_refl _)
  have k3:KeepS (R+2) y2 y3:=by rw[←hy3];exact KeepS.set (Nat.le_refl _)
  exact (k1.trans k2 (by omega)).trans k3 (by omega)
 ·rw[←hy3,sreg_other (by omega)]
  exact q1
theorem RelS.enter{loops locks:List ByteArray}{V:VM}{R:Nat}{x:St}{y y':IrSt}{nm:ByteArray}{m:Int}(h:RelS E D N loops locks V R x y)(hk:KeepS R y y')(hm:y'.reg (R:Nat)=m):RelS E D N (loops++[nm]) locks (upd V nm (some R)) (R+3) (x.putV nm (some m)) y':=by
 have h1:=h.keep hk (Nat.le_refl _)
 refine⟨fun s hs=>?_,fun a b r ha hb e1 e2=>?_,⟨h1.fin.mem,h1.fin.out,h1.fin.rd⟩,h1.lock,h1.cnt⟩
 ·by_cases e:s=nm
  ·subst e
   exact⟨R,upd_same _ _ _,by omega,by show upd x.V s (some m) s=some _;rw[upd_same,←hm];rfl⟩
  ·obtain⟨r,a1,a2,a3⟩:=h1.var s (vis_out hs e)
   exact⟨r,by rw[upd_other _ _ e];exact a1,by omega,by show upd x.V nm (some m) s=_;rw[upd_other _ _ e];exact a3⟩
 ·by_cases ea:a=nm
  ·by_cases eb:b=nm
   ·rw[ea,eb]
   ·rw[ea,upd_same] at e1
    cases e1
    rw[upd_other _ _ eb] at e2
    obtain⟨r,a1,a2,_⟩:=h1.var b (vis_out hb eb)
    rw[e2] at a1
    cases a1
    omega
  ·rw[upd_other _ _ ea] at e1
   by_cases eb:b=nm
   ·rw[eb,upd_same] at e2
    cases e2
    obtain⟨r,a1,a2,_⟩:=h1.var a (vis_out ha ea)
    rw[e1] at a1
    cases a1
    omega
   ·rw[upd_other _ _ eb] at e2
    exact h1.inj a b r (vis_out ha ea) (vis_out hb eb) e1 e2
theorem RelS.leave{loops locks:List ByteArray}{V:VM}{R R2:Nat}{x:St}{y:IrSt}{nm:ByteArray}{o:Option Nat}(h:RelS E D N (loops++[nm]) locks (upd V nm o) R2 x y)(hV:VOk D loops V R)(hn:¬ Vis D loops nm):RelS E D N loops locks V R x y:=by
 have hne:∀ s,Vis D loops s→s≠nm:=fun s hs e=>hn (e ▸ hs)
 refine⟨fun s hs=>?_,fun a b r ha hb e1 e2=>?_,h.fin,h.lock,h.cnt⟩
 ·obtain⟨r,a1,a2,a3⟩:=h.var s (vis_loop hs)
  obtain⟨r',b1,b2⟩:=hV s hs
  rw[upd_other _ _ (hne s hs),b1] at a1
  cases a1
  exact⟨_,b1,b2,a3⟩
 ·exact h.inj a b r (vis_loop ha) (vis_loop hb) (by rw[upd_other _ _ (hne a ha)];exact e1) (by rw[upd_other _ _ (hne b hb)];exact e2)
theorem RelS.forget{loops locks:List ByteArray}{V:VM}{R:Nat}{x:St}{y:IrSt}{nm:ByteArray}{o:Option Int}(h:RelS E D N loops locks V R x y)(hn:¬ Vis D loops nm):RelS E D N loops locks V R (x.putV nm o) y:=by
 refine⟨fun s hs=>?_,h.inj,⟨h.fin.mem,h.fin.out,h.fin.rd⟩,h.lock,h.cnt⟩
 obtain⟨r,a1,a2,a3⟩:=h.var s hs
 have hne:s≠nm:=fun e=>hn (e ▸ hs)
 exact⟨r,a1,a2,by show upd x.V nm o s=_;rw[upd_other _ _ hne];exact a3⟩
theorem for_sim(F:Int)(bb:St→SR){lim:Int}{d k k3:Nat}{nm:ByteArray}{s:LS}{loops locks:List ByteArray}{V:VM}{R T:Nat}(hlim:0≤lim∧lim≤1000)(hd:d<4)(hn:¬ Vis D loops nm)
 (hH:B[k+1]? = some ⟨(forH lim d R).code,2,(forH lim d R).r,(k+2:Nat),(k3:Nat)⟩) (hE:B[k+2+s.done.length]? = some (jmpB (s.code++[insB 14 0 0 0 d noB]) (k+1))) (hL:AtC B (k+2) 0 [insB 16 0 d 0 lim noB]) (hV:VOk D loops V R) (hC:7≤C) (hT:R+3≤T)
 (hb:∀ x y,RelS E D N (loops++[nm]) locks (upd V nm (some R)) (R+3) x y→y.regs.length=T→Sim B N inp C E D (PostR E D N (loops++[nm]) locks (upd V nm (some R)) (R+3) (d+1) y) 0 x (bb x) (k+2) 1 y (k+2+s.done.length) s.code.length)
 {x:St} {y:IrSt} (hr:RelS E D N loops locks V R x y) (hyT:y.regs.length=T) (hy0:y.count (d:Nat)=0) :
 ∀ (m:Nat),m≤lim.toNat→Sim B N inp C E D (fun x' y'=>PostR E D N loops locks V R d y x' y'∧y'.count (d:Nat)=(m:Int)) 0 x (seqTo (forR F nm bb) m x) (k+1) 0 y (k+1) 0:=by
 intro m
 induction m with
 | zero=>intro _;exact Sim.ret rfl ⟨⟨hr,rfl,fun _ _=>rfl⟩,hy0⟩
 | succ m ih =>
  intro hm
  show Sim B N inp C E D _ 0 x ((seqTo (forR F nm bb) m x).then (forR F nm bb m)) _ _ _ _ _
  refine Sim.mono (c:=0+0) (Sim.then (ih (by omega)) (fun x1 y1 h1=>?_)) (Nat.le_refl _)
  obtain⟨⟨p1,p2,p3⟩,p4⟩:=h1
  have hT1:y1.regs.length=T:=p2.trans hyT
  obtain⟨y2,g1,g2,g3⟩:=for_head (N:=N) (inp:=inp) (m:=(m:Int)) hlim hH (by omega) p4
  rw[if_pos (show (m:Int)<lim by omega)] at g1
  have hr2:=(p1.enter (nm:=nm) g2 g3).step (k:=(x1.putV nm (some (m:Int))).st+1)
  have hc2:y2.count (d:Nat)=(m:Int):=(g2.cnt d).trans p4
  have hl1:=hL.step (N:=N) (inp:=inp) (y:=y2) (st_limit (by rw[hc2];omega))
  have hT2:y2.regs.length=T:=g2.len.trans hT1
  have h9:=hb _ y2 hr2 hT2
  have h8:Sim B N inp C E D (fun x' y'=>PostR E D N loops locks V R d y x' y'∧y'.count (d:Nat)=((m+1:Nat):Int)) (0+2) { x1.putV nm (some (m:Int)) with st:=(x1.putV nm (some (m:Int))).st+1 } (bb { x1.putV nm (some (m:Int)) with st:=(x1.putV nm (some (m:Int))).st+1 }) (k+2) 1 y2 (k+1) 0:=Sim.post h9 (fun x3 y3 h3=>by
   obtain⟨q1,q2,q3⟩:=h3
   have e3:y3.count (d:Nat)=(m:Int):=(q3 d (by omega)).trans hc2
   have hbk:=loop_back (N:=N) (inp:=inp) (y:=y3) hE
   have ew:wrap32 (y3.count (d:Nat)+1)=((m+1:Nat):Int):=by rw[e3];unfold wrap32;omega
   rw[ew] at hbk
   refine⟨2,_,hbk,Nat.le_refl _,⟨(q1.leave hV hn).setCount,q2.trans (hT2.trans hyT.symm),fun j hj=>?_⟩,cnt_same (by rw[q1.cnt];exact hd)⟩
   rw[cnt_other (by omega),q3 j (by omega),g2.cnt j,p3 j hj])
  exact Sim.stp (x:=x1.putV nm (some (m:Int))) (c:=0+2+1+4) (by omega) (Sim.pre g1 (Sim.pre hl1 h8))
end
