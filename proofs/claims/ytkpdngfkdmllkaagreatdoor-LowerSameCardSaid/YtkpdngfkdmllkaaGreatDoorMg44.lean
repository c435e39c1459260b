/- Part. -/
import Derived.Test.YtkpdngfkdmllkaaGreatDoorMg42
import Derived.Test.YtkpdngfkdmllkaaGreatDoorMg43
namespace Go.Proofs.YtkpdngfkdmllkaaGreatDoor
set_option linter.unusedVariables false
set_option linter.unusedSimpArgs false
open Go.RowKit
set_option maxRecDepth 100000
section
variable (B:List Blk) (N:List ByteArray) (inp:List Int)
def Reach(n a i:Nat)(y:IrSt)(a' i':Nat)(y':IrSt):Prop:=∀ m,go B N inp (n+m) a i y=((go B N inp m a' i' y').1+n,(go B N inp m a' i' y').2)
def Traps(n a i:Nat)(y:IrSt)(e:Int)(y':IrSt):Prop:=∀ m,(go B N inp (n+1+m) a i y).2=(e,y')
def AtC(a i:Nat)(l:List Ins):Prop:=∃ b,B[a]? = some b∧l <+: b.code.drop i
end
section
variable {B:List Blk} {N:List ByteArray} {inp:List Int} {n m a i a1 i1 a2 i2:Nat} {y y1 y2:IrSt}
theorem Reach.refl:Reach B N inp 0 a i y a i y:=fun m=>by rw[Nat.zero_add];rfl
theorem Reach.trans(h1:Reach B N inp n a i y a1 i1 y1)(h2:Reach B N inp m a1 i1 y1 a2 i2 y2):Reach B N inp (n+m) a i y a2 i2 y2:=fun k=>by
 rw[Nat.add_assoc,h1 (m+k),h2 k]
 show (_+m+n,_)=(_+(n+m),_)
 rw[Nat.add_assoc,Nat.add_comm m n]
theorem Reach.ins{b:Blk}{x:Ins}(hb:B[a]? = some b)(hi:b.code[i]? = some x)(hs:step N inp x y = .ok y1):Reach B N inp 1 a i y a (i+1) y1:=fun m=>by
 rw[Nat.add_comm 1 m]
 conv=>lhs;unfold go
 simp only[hb,hi,hs]
theorem Reach.jump{b:Blk}(hb:B[a]? = some b)(hi:b.code[i]? = none)(hk:b.kind≠3):Reach B N inp 1 a i y (b.next y) 0 y:=fun m=>by
 rw[Nat.add_comm 1 m]
 conv=>lhs;unfold go
 simp only[hb,hi]
 rw[if_neg hk]
theorem Traps.ins{b:Blk}{x:Ins}{e:Int}(hb:B[a]? = some b)(hi:b.code[i]? = some x)(hs:step N inp x y = .error e):Traps B N inp 0 a i y e y:=fun m=>by
 rw[Nat.zero_add,Nat.add_comm 1 m]
 unfold go
 simp only[hb,hi,hs]
theorem Reach.traps{e:Int}(h1:Reach B N inp n a i y a1 i1 y1)(h2:Traps B N inp m a1 i1 y1 e y2):Traps B N inp (n+m) a i y e y2:=fun k=>by
 rw[show n+m+1+k=n+(m+1+k) by omega,h1 (m+1+k)]
 exact h2 k
theorem AtC.app{l1 l2:List Ins}(h:AtC B a i (l1++l2)):AtC B a i l1∧AtC B a (i+l1.length) l2:=by
 obtain⟨b,hb,t,ht⟩:=h
 rw[List.append_assoc] at ht
 refine⟨⟨b,hb,l2++t,ht⟩,⟨b,hb,t,?_⟩⟩
 rw[←List.drop_drop,←ht,List.drop_left]
theorem AtC.get{x:Ins}{l:List Ins}(h:AtC B a i (x::l)):∃ b,B[a]? = some b∧b.code[i]? = some x:=by
 obtain⟨b,hb,t,ht⟩:=h
 refine⟨b,hb,?_⟩
 have h1:(b.code.drop i)[0]? = some x:=by rw[←ht];rfl
 rw[List.getElem?_drop,Nat.add_zero] at h1
 exact h1
theorem AtC.tail{x:Ins}{l:List Ins}(h:AtC B a i (x::l)):AtC B a (i+1) l:=(AtC.app (l1:=[x]) (l2:=l) h).2
theorem AtC.step{x:Ins}{l:List Ins}(h:AtC B a i (x::l))(hs:step N inp x y = .ok y1):Reach B N inp 1 a i y a (i+1) y1:=by
 obtain⟨b,hb,hi⟩:=h.get
 exact Reach.ins hb hi hs
theorem AtC.trap{x:Ins}{l:List Ins}{e:Int}(h:AtC B a i (x::l))(hs:Go.Proofs.YtkpdngfkdmllkaaGreatDoor.step N inp x y = .error e):Traps B N inp 0 a i y e y:=by
 obtain⟨b,hb,hi⟩:=h.get
 exact Traps.ins hb hi hs
end
def KeepS(R:Nat)(y y':IrSt):Prop:=∃ rs,y' = { y with regs:=rs }∧rs.length=y.regs.length∧∀ r,r<R→rs.getD r 0=y.regs.getD r 0
section
variable {R R':Nat} {y y1 y2:IrSt}
theorem KeepS.refl:KeepS R y y:=⟨y.regs,rfl,rfl,fun _ _=>rfl⟩
theorem KeepS.trans(h1:KeepS R y y1)(h2:KeepS R' y1 y2)(hR:R≤R'):KeepS R y y2:=by
 obtain⟨r1,rfl,a1,a2⟩:=h1
 obtain⟨r2,rfl,b1,b2⟩:=h2
 exact⟨r2,rfl,b1.trans a1,fun r hr=>(b2 r (by omega)).trans (a2 r hr)⟩
theorem sim_getD{l:List Int}{k j:Nat}{v:Int}:(l.set k v).getD j 0=if k=j∧k<l.length then v else l.getD j 0:=by
 simp only[List.getD_eq_getElem?_getD,List.getElem?_set]
 by_cases h:k=j
 ·subst h
  by_cases h2:k<l.length
  ·simp[h2]
  ·simp[h2]
 ·simp[h]
theorem KeepS.set{r:Nat}{v:Int}(hr:R≤r):KeepS R y (y.setReg (r:Nat) v):=by
 refine⟨y.regs.set r v,rfl,List.length_set,fun k hk=>?_⟩
 rw[sim_getD,if_neg (by omega)]
theorem KeepS.len(h:KeepS R y y1):y1.regs.length=y.regs.length:=by obtain⟨r1,rfl,a1,_⟩:=h;exact a1
theorem KeepS.reg{n:Int}(h:KeepS R y y1)(h0:0≤n∧n<(R:Nat)):y1.reg n=y.reg n:=by obtain⟨r1,rfl,_,a2⟩:=h;exact a2 n.toNat (by omega)
theorem sreg_same{r:Nat}{v:Int}(hr:r<y.regs.length):(y.setReg (r:Nat) v).reg (r:Nat)=v:=by
 show (y.regs.set r v).getD r 0=v
 rw[sim_getD,if_pos ⟨rfl,hr⟩]
theorem sreg_other{r:Nat}{n v:Int}(h:0≤n∧n≠(r:Nat)):(y.setReg (r:Nat) v).reg n=y.reg n:=by
 show (y.regs.set r v).getD n.toNat 0=y.regs.getD n.toNat 0
 rw[sim_getD,if_neg (by omega)]
end
section
variable {N:List ByteArray} {inp:List Int} {y:IrSt}
theorem st_const{d n:Int}:step N inp (insB 1 d 0 0 n noB) y = .ok (y.setReg d (wrap32 n)):=by unfold step;rw[if_pos rfl]
theorem st_move{d x:Int}:step N inp (insB 2 d x 0 0 noB) y = .ok (y.setReg d (y.reg x)):=by unfold step;rw[if_neg (show ¬ (2:Int)=1 by decide),if_pos rfl]
theorem st_bin{d x z k:Int}(h:Wd.err k (y.reg z)=0):step N inp (insB 3 d x z k noB) y = .ok (y.setReg d (Wd.apply k (y.reg x) (y.reg z))):=by
 unfold step
 rw[if_neg (show ¬ (3:Int)=1 by decide),if_neg (show ¬ (3:Int)=2 by decide),if_pos rfl,if_pos h]
theorem st_bin_er{d x z k:Int}(h:¬ Wd.err k (y.reg z)=0):step N inp (insB 3 d x z k noB) y = .error (Wd.err k (y.reg z)):=by
 unfold step
 rw[if_neg (show ¬ (3:Int)=1 by decide),if_neg (show ¬ (3:Int)=2 by decide),if_pos rfl,if_neg h]
theorem st_bound{x n:Int}(h:0≤y.reg x∧y.reg x<n):step N inp (insB 8 0 x 0 n noB) y = .ok y:=by
 unfold step
 rw[if_neg (show ¬ (8:Int)=1 by decide),if_neg (show ¬ (8:Int)=2 by decide),if_neg (show ¬ (8:Int)=3 by decide),if_neg (show ¬ ((8:Int)=4∨(8:Int)=6) by decide),if_neg (show ¬ ((8:Int)=5∨(8:Int)=7) by decide),if_pos rfl]
 rw[if_neg (by show ¬ (y.reg x<0∨n≤y.reg x);omega)]
theorem st_bound_er{x n:Int}(h:¬ (0≤y.reg x∧y.reg x<n)):step N inp (insB 8 0 x 0 n noB) y = .error 11:=by
 unfold step
 rw[if_neg (show ¬ (8:Int)=1 by decide),if_neg (show ¬ (8:Int)=2 by decide),if_neg (show ¬ (8:Int)=3 by decide),if_neg (show ¬ ((8:Int)=4∨(8:Int)=6) by decide),if_neg (show ¬ ((8:Int)=5∨(8:Int)=7) by decide),if_pos rfl]
 rw[if_pos (by show y.reg x<0∨n≤y.reg x;omega)]
theorem st_load{sh:Bool}{d x:Int}{s:ByteArray}(h:0≤y.reg x∧y.reg x<((y.row (pos N s)).length:Int)):step N inp (insB (if sh then 6 else 4) d x 0 0 s) y = .ok (y.setReg d ((y.row (pos N s)).getD (y.reg x).toNat 0)):=by
 have h2:¬ (y.reg x<0∨((y.row (pos N s)).length:Int)≤y.reg x):=by omega
 cases sh
 ·show step N inp (insB 4 d x 0 0 s) y=_
  unfold step
  rw[if_neg (show ¬ (4:Int)=1 by decide),if_neg (show ¬ (4:Int)=2 by decide),if_neg (show ¬ (4:Int)=3 by decide),if_pos (show (4:Int)=4∨(4:Int)=6 from .inl rfl)]
  exact if_neg h2
 ·show step N inp (insB 6 d x 0 0 s) y=_
  unfold step
  rw[if_neg (show ¬ (6:Int)=1 by decide),if_neg (show ¬ (6:Int)=2 by decide),if_neg (show ¬ (6:Int)=3 by decide),if_pos (show (6:Int)=4∨(6:Int)=6 from .inr rfl)]
  exact if_neg h2
theorem st_store{E:LEnv}{x v:Int}{s:ByteArray}(h:0≤y.reg x∧y.reg x<((y.row (pos N s)).length:Int)):step N inp (stoB E s x v) y = .ok { y with mem:=y.mem.set (pos N s) ((y.row (pos N s)).set (y.reg x).toNat (y.reg v)) }:=by
 have h2:¬ (y.reg x<0∨((y.row (pos N s)).length:Int)≤y.reg x):=by omega
 unfold step stoB
 by_cases h:E.sh s=true
 ·rw[if_pos h]
  rw[if_neg (show ¬ (7:Int)=1 by decide),if_neg (show ¬ (7:Int)=2 by decide),if_neg (show ¬ (7:Int)=3 by decide),if_neg (show ¬ ((7:Int)=4∨(7:Int)=6) by decide),if_pos (show (7:Int)=5∨(7:Int)=7 from .inr rfl)]
  exact if_neg h2
 ·rw[if_neg h]
  rw[if_neg (show ¬ (5:Int)=1 by decide),if_neg (show ¬ (5:Int)=2 by decide),if_neg (show ¬ (5:Int)=3 by decide),if_neg (show ¬ ((5:Int)=4∨(5:Int)=6) by decide),if_pos (show (5:Int)=5∨(5:Int)=7 from .inl rfl)]
  exact if_neg h2
theorem st_in{d n:Int}:step N inp (insB 9 d 0 0 n noB) y = .ok { y.setReg d (inp.getD y.read 0) with read:=y.read+1 }:=by
 unfold step
 rw[if_neg (show ¬ (9:Int)=1 by decide),if_neg (show ¬ (9:Int)=2 by decide),if_neg (show ¬ (9:Int)=3 by decide),if_neg (show ¬ ((9:Int)=4∨(9:Int)=6) by decide),if_neg (show ¬ ((9:Int)=5∨(9:Int)=7) by decide),if_neg (show ¬ (9:Int)=8 by decide),if_pos rfl]
theorem st_out{x n:Int}:step N inp (insB 10 0 x 0 n noB) y = .ok { y with out:=y.out++[(n,y.reg x)] }:=by
 unfold step
 rw[if_neg (show ¬ (10:Int)=1 by decide),if_neg (show ¬ (10:Int)=2 by decide),if_neg (show ¬ (10:Int)=3 by decide),if_neg (show ¬ ((10:Int)=4∨(10:Int)=6) by decide),if_neg (show ¬ ((10:Int)=5∨(10:Int)=7) by decide),if_neg (show ¬ (10:Int)=8 by decide),if_neg (show ¬ (10:Int)=9 by decide),if_pos rfl]
theorem st_lock{s:ByteArray}(h:y.locked=false):step N inp (insB 11 0 0 0 0 s) y = .ok { y with locked:=true,held:=s }:=by
 unfold step
 rw[if_neg (show ¬ (11:Int)=1 by decide),if_neg (show ¬ (11:Int)=2 by decide),if_neg (show ¬ (11:Int)=3 by decide),if_neg (show ¬ ((11:Int)=4∨(11:Int)=6) by decide),if_neg (show ¬ ((11:Int)=5∨(11:Int)=7) by decide),if_neg (show ¬ (11:Int)=8 by decide),if_neg (show ¬ (11:Int)=9 by decide),if_neg (show ¬ (11:Int)=10 by decide),if_pos rfl,if_neg (by rw[h];decide)]
theorem st_unlock{s:ByteArray}(h:y.locked=true)(h2:y.held=s):step N inp (insB 12 0 0 0 0 s) y = .ok { y with locked:=false,held:=⟨#[]⟩ }:=by
 unfold step
 rw[if_neg (show ¬ (12:Int)=1 by decide),if_neg (show ¬ (12:Int)=2 by decide),if_neg (show ¬ (12:Int)=3 by decide),if_neg (show ¬ ((12:Int)=4∨(12:Int)=6) by decide),if_neg (show ¬ ((12:Int)=5∨(12:Int)=7) by decide),if_neg (show ¬ (12:Int)=8 by decide),if_neg (show ¬ (12:Int)=9 by decide),if_neg (show ¬ (12:Int)=10 by decide),if_neg (show ¬ (12:Int)=11 by decide),if_pos rfl,if_neg (by rw[h,h2];simp)]
theorem st_zero{d:Nat}:step N inp (insB 13 0 0 0 d noB) y = .ok (y.setCount d 0):=by
 unfold step
 rw[if_neg (show ¬ (13:Int)=1 by decide),if_neg (show ¬ (13:Int)=2 by decide),if_neg (show ¬ (13:Int)=3 by decide),if_neg (show ¬ ((13:Int)=4∨(13:Int)=6) by decide),if_neg (show ¬ ((13:Int)=5∨(13:Int)=7) by decide),if_neg (show ¬ (13:Int)=8 by decide),if_neg (show ¬ (13:Int)=9 by decide),if_neg (show ¬ (13:Int)=10 by decide),if_neg (show ¬ (13:Int)=11 by decide),if_neg (show ¬ (13:Int)=12 by decide),if_pos rfl]
theorem st_inc{d:Nat}:step N inp (insB 14 0 0 0 d noB) y = .ok (y.setCount d (wrap32 (y.count d+1))):=by
 unfold step
 rw[if_neg (show ¬ (14:Int)=1 by decide),if_neg (show ¬ (14:Int)=2 by decide),if_neg (show ¬ (14:Int)=3 by decide),if_neg (show ¬ ((14:Int)=4∨(14:Int)=6) by decide),if_neg (show ¬ ((14:Int)=5∨(14:Int)=7) by decide),if_neg (show ¬ (14:Int)=8 by decide),if_neg (show ¬ (14:Int)=9 by decide),if_neg (show ¬ (14:Int)=10 by decide),if_neg (show ¬ (14:Int)=11 by decide),if_neg (show ¬ (14:Int)=12 by decide),if_neg (show ¬ (14:Int)=13 by decide),if_pos rfl]
theorem st_read{v:Int}{d:Nat}:step N inp (insB 15 v 0 0 d noB) y = .ok (y.setReg v (y.count d)):=by
 unfold step
 rw[if_neg (show ¬ (15:Int)=1 by decide),if_neg (show ¬ (15:Int)=2 by decide),if_neg (show ¬ (15:Int)=3 by decide),if_neg (show ¬ ((15:Int)=4∨(15:Int)=6) by decide),if_neg (show ¬ ((15:Int)=5∨(15:Int)=7) by decide),if_neg (show ¬ (15:Int)=8 by decide),if_neg (show ¬ (15:Int)=9 by decide),if_neg (show ¬ (15:Int)=10 by decide),if_neg (show ¬ (15:Int)=11 by decide),if_neg (show ¬ (15:Int)=12 by decide),if_neg (show ¬ (15:Int)=13 by decide),if_neg (show ¬ (15:Int)=14 by decide),if_pos rfl]
theorem st_limit{n:Int}{d:Nat}(h:0≤y.count d∧y.count d<n):step N inp (insB 16 0 d 0 n noB) y = .ok y:=by
 unfold step
 rw[if_neg (show ¬ (16:Int)=1 by decide),if_neg (show ¬ (16:Int)=2 by decide),if_neg (show ¬ (16:Int)=3 by decide),if_neg (show ¬ ((16:Int)=4∨(16:Int)=6) by decide),if_neg (show ¬ ((16:Int)=5∨(16:Int)=7) by decide),if_neg (show ¬ (16:Int)=8 by decide),if_neg (show ¬ (16:Int)=9 by decide),if_neg (show ¬ (16:Int)=10 by decide),if_neg (show ¬ (16:Int)=11 by decide),if_neg (show ¬ (16:Int)=12 by decide),if_neg (show ¬ (16:Int)=13 by decide),if_neg (show ¬ (16:Int)=14 by decide),if_neg (show ¬ (16:Int)=15 by decide),if_pos rfl]
 exact if_neg (by show ¬ (y.count d<0∨n≤y.count d);omega)
theorem st_limit_er{n:Int}{d:Nat}(h:¬ (0≤y.count d∧y.count d<n)):step N inp (insB 16 0 d 0 n noB) y = .error 11:=by
 unfold step
 rw[if_neg (show ¬ (16:Int)=1 by decide),if_neg (show ¬ (16:Int)=2 by decide),if_neg (show ¬ (16:Int)=3 by decide),if_neg (show ¬ ((16:Int)=4∨(16:Int)=6) by decide),if_neg (show ¬ ((16:Int)=5∨(16:Int)=7) by decide),if_neg (show ¬ (16:Int)=8 by decide),if_neg (show ¬ (16:Int)=9 by decide),if_neg (show ¬ (16:Int)=10 by decide),if_neg (show ¬ (16:Int)=11 by decide),if_neg (show ¬ (16:Int)=12 by decide),if_neg (show ¬ (16:Int)=13 by decide),if_neg (show ¬ (16:Int)=14 by decide),if_neg (show ¬ (16:Int)=15 by decide),if_pos rfl]
 exact if_pos (by show y.count d<0∨n≤y.count d;omega)
end
def MemR(E:LEnv)(D:Nms)(N:List ByteArray)(A:AF)(mem:List (List Int)):Prop:=∀ nm,(memB D.arrays nm || memB D.shared nm)=true→A nm=some (mem.getD (pos N nm) [])∧((mem.getD (pos N nm) []).length:Int)=E.len nm∧pos N nm<mem.length
def VarR(D:Nms)(loops:List ByteArray)(V:VM)(R:Nat)(xV:VF)(regs:List Int):Prop:=∀ nm,(memB D.scalars nm || memB loops nm)=true→∃ r,V nm=some r∧r<R∧xV nm=some (regs.getD r 0)
theorem VarR.ok{D:Nms}{loops:List ByteArray}{V:VM}{R:Nat}{xV:VF}{regs:List Int}(h:VarR D loops V R xV regs):VOk D loops V R:=fun s hs=>by obtain⟨r,h1,h2,_⟩:=h s hs;exact⟨r,h1,h2⟩
theorem VarR.mono{D:Nms}{loops:List ByteArray}{V:VM}{R R':Nat}{xV:VF}{regs:List Int}(h:VarR D loops V R xV regs)(hR:R≤R'):VarR D loops V R' xV regs:=fun s hs=>by obtain⟨r,h1,h2,h3⟩:=h s hs;exact⟨r,h1,by omega,h3⟩
theorem VarR.keep{D:Nms}{loops:List ByteArray}{V:VM}{R R':Nat}{xV:VF}{y y':IrSt}(h:VarR D loops V R xV y.regs)(hk:KeepS R' y y')(hR:R≤R'):VarR D loops V R xV y'.regs:=fun s hs=>by
 obtain⟨r,h1,h2,h3⟩:=h s hs
 obtain⟨rs,rfl,_,hr⟩:=hk
 exact⟨r,h1,h2,by rw[h3];show some (y.regs.getD r 0)=some (rs.getD r 0);rw[hr r (by omega)]⟩
theorem item_in{D:Nms}{s:ByteArray}{place:Bool}{loops locks:List ByteArray}(h:faultN D 3 s place loops locks=0):(memB D.arrays s || memB D.shared s)=true:=by
 unfold faultN at h
 rw[if_neg (by decide),if_pos rfl] at h
 by_cases e1:memB D.arrays s=true
 ·rw[e1];rfl
 ·rw[if_neg e1] at h
  by_cases e2:memB D.shared s=true
  ·rw[e2,Bool.or_true]
  ·rw[if_neg e2] at h
   split at h <;> exact absurd h (by decide)
section
variable (B:List Blk) (N:List ByteArray) (inp:List Int)
def ExpSim(a i R:Nat)(y:IrSt)(e:LE):EV→Prop
 | .ok v=>∃ y',Reach B N inp e.code.length a i y a (i+e.code.length) y'∧KeepS R y y'∧y'.reg e.r=v
 | .er er=>er≠0∧∃ n y',Traps B N inp n a i y er y'∧n≤e.code.length∧KeepS R y y'
end
theorem wrap_zero:wrap32 0=0:=by unfold wrap32;omega
theorem lowE_len(E:LEnv)(V:VM):∀ (t:Tree),t.vld 101=true→∀ R,(t.lowE E V R).code.length≤2*t.size:=by
 intro t
 induction t using Tree.ind with
 | h t ih =>
  intro hv R
  obtain⟨⟨hk1,hk2⟩,hlen,hkid,_⟩:=vldE hv
  have hsz:=t.size_eq
  rw[Tree.lowE_eq]
  by_cases k1:t.kind=1
  ·unfold lowB;rw[if_pos k1];show 1≤_;omega
  by_cases k2:t.kind=2
  ·unfold lowB;rw[if_neg k1,if_pos k2];show 0≤_;omega
  by_cases hc:t.kind=3∨t.kind=4∨t.kind=5
  ·have hl1:t.len=1:=by rw[hlen];rcases hc with e | e | e <;> rw[e] <;> rfl
   have h0:=ih 0 (by omega) (hkid 0 (by omega)) R
   have hs0:Tree.sumTo (fun i=>(t.kid i).size) t.len=0+(t.kid 0).size:=by rw[hl1];rfl
   unfold lowB
   rw[if_neg k1,if_neg k2]
   dsimp only
   rw[if_pos (show 0<t.len by omega)]
   rcases hc with e|e|e
   ·rw[if_pos e];simp only[List.length_append,List.length_cons,List.length_nil];omega
   ·rw[if_neg (by omega),if_pos e];simp only[List.length_append,List.length_cons,List.length_nil];omega
   ·rw[if_neg (by omega),if_neg (by omega),if_pos e];simp only[List.length_append,List.length_cons,List.length_nil];omega
  ·have hl2:t.len=2:=by rw[hlen];unfold Fm.kids;rw[Fm.row_else t.kind (by omega)];rfl
   have hs0:Tree.sumTo (fun i=>(t.kid i).size) t.len=0+(t.kid 0).size+(t.kid 1).size:=by rw[hl2];rfl
   have h0:=ih 0 (by omega) (hkid 0 (by omega)) R
   have h1:=ih 1 (by omega) (hkid 1 (by omega)) ((t.kid 0).lowE E V R).regs
   unfold lowB
   rw[if_neg k1,if_neg k2,if_neg (by omega),if_neg (by omega),if_neg (by omega)]
   dsimp only
   rw[if_pos (show 0<t.len by omega),if_pos (show 1<t.len by omega)]
   simp only[List.length_append,List.length_cons,List.length_nil]
   omega
section
variable {B:List Blk} {N:List ByteArray} {inp:List Int} {E:LEnv} {ns:List (ByteArray×Bool)} {D:Nms}
theorem simE(hE:EnvOk E ns D)(A:AF)(xV:VF)(V:VM):∀ (t:Tree),t.vld 101=true→∀ (path:List Int) (place:Bool) (loops locks:List ByteArray),faultsT D t path place loops locks = [] →
 ∀ (R:Nat) (y:IrSt) (a i:Nat),VarR D loops V R xV y.regs→MemR E D N A y.mem→(t.lowE E V R).regs≤y.regs.length→AtC B a i (t.lowE E V R).code→ExpSim B N inp a i R y (t.lowE E V R) (t.ev xV A):=by
 intro t
 induction t using Tree.ind with
 | h t ih =>
  intro hv path place loops locks hf R y a i hV hM hT hA
  obtain⟨⟨hk1,hk2⟩,hlen,hkid,hnum⟩:=vldE hv
  obtain⟨f0,f1⟩:=faultsV hf
  have hlo:loopsIn t loops=loops:=by unfold loopsIn;rw[if_neg (by omega)]
  have hok:∀ i,i<t.len→∀ R,VOk D loops V R→EOk ns R (t.kid i).size ((t.kid i).lowE E V R):=fun i hi R hR=>by
   have h1:=f1 i hi
   rw[hlo] at h1
   exact lowE_ok hE (t.kid i) (hkid i hi) _ _ _ _ h1 R V hR
  have hsim:∀ j,j<t.len→∀ (R:Nat) (y:IrSt) (i:Nat),VarR D loops V R xV y.regs→MemR E D N A y.mem→((t.kid j).lowE E V R).regs≤y.regs.length→AtC B a i ((t.kid j).lowE E V R).code→ExpSim B N inp a i R y ((t.kid j).lowE E V R) ((t.kid j).ev xV A):=fun j hj R y i h1 h2 h3 h4=>by
   have h5:=f1 j hj
   rw[hlo] at h5
   exact ih j hj (hkid j hj) _ _ _ _ h5 R y a i h1 h2 h3 h4
  rw[Tree.lowE_eq] at hT hA⊢
  rw[Tree.ev_eq]
  by_cases k1:t.kind=1
  ·unfold lowB at hT hA⊢
   unfold evB
   rw[if_pos k1] at hT hA⊢
   rw[if_pos k1]
   have hT:R+1≤y.regs.length:=hT
   exact⟨y.setReg (R:Nat) (wrap32 t.num),hA.step st_const,KeepS.set (Nat.le_refl _),sreg_same (by omega)⟩
  by_cases k2:t.kind=2
  ·unfold lowB at hT hA⊢
   unfold evB
   rw[if_neg k1,if_pos k2] at hT hA⊢
   rw[if_neg k1,if_pos k2]
   rw[k2] at f0
   obtain⟨r,h1,h2,h3⟩:=hV t.name (var_ok f0)
   rw[h3]
   exact⟨y,Reach.refl,KeepS.refl,by show y.reg (V.reg t.name)=_;unfold VM.reg IrSt.reg;rw[h1];rfl⟩
  have hl1:0<t.len:=by
   rw[hlen]
   by_cases hc:t.kind=3∨t.kind=4∨t.kind=5
   ·rcases hc with e|e|e <;> rw[e] <;> decide
   ·unfold Fm.kids
    rw[Fm.row_else t.kind (by omega)]
    decide
  have h0:=hok 0 hl1 R hV.ok
  have s0:=hsim 0 hl1 R y i hV hM
  obtain⟨e0,he0⟩:∃ e,(t.kid 0).lowE E V R=e:=⟨_,rfl⟩
  rw[he0] at h0 s0
  have g0:=h0.reg
  have glo:=h0.lo
  unfold lowB at hT hA⊢
  unfold evB
  rw[if_neg k1,if_neg k2] at hT hA⊢
  rw[if_neg k1,if_neg k2]
  dsimp only at hT hA⊢
  rw[if_pos hl1,he0] at hT hA⊢
  by_cases k3:t.kind=3
  ·rw[if_pos k3] at hT hA⊢
   rw[if_pos k3]
   rw[k3] at f0
   obtain⟨m1,m2,m3⟩:=hM t.name (item_in f0)
   rw[m1]
   have hT:e0.regs+1≤y.regs.length:=hT
   have hA:AtC B a i (e0.code++[insB 8 0 e0.r 0 (E.len t.name) noB,insB (if E.sh t.name then 6 else 4) e0.regs e0.r 0 0 t.name]):=hA
   obtain⟨a1,a2⟩:=hA.app
   have s1:=s0 (by omega) a1
   cases hv0:(t.kid 0).ev xV A with
   | er er =>
    rw[hv0] at s1
    obtain⟨h00,n,y1,t1,t2,t3⟩:=s1
    rw[if_pos hl1]
    exact⟨h00,n,y1,t1,by simp only[List.length_append];omega,t3⟩
   | ok x =>
    rw[hv0] at s1
    obtain⟨y1,t1,t2,t3⟩:=s1
    rw[if_pos hl1]
    show ExpSim B N inp a i R y _ (elemV (y.mem.getD (pos N t.name) []) x)
    unfold elemV
    have hrow:y1.row (pos N t.name)=y.mem.getD (pos N t.name) []:=by obtain⟨rs,rfl,_,_⟩:=t2;rfl
    by_cases hx:0≤x∧x<((y.mem.getD (pos N t.name) []).length:Int)
    ·rw[if_pos hx]
     have b1:step N inp (insB 8 0 e0.r 0 (E.len t.name) noB) y1 = .ok y1:=st_bound (by rw[t3];omega)
     have b2:step N inp (insB (if E.sh t.name then 6 else 4) e0.regs e0.r 0 0 t.name) y1 = .ok (y1.setReg e0.regs ((y1.row (pos N t.name)).getD (y1.reg e0.r).toNat 0)):=st_load (by rw[t3,hrow];exact hx)
     have r1:=(t1.trans (a2.step b1)).trans (a2.tail.step b2)
     refine⟨y1.setReg e0.regs ((y1.row (pos N t.name)).getD (y1.reg e0.r).toNat 0),?_,t2.trans (KeepS.set (Nat.le_refl _)) glo,?_⟩
     ·simp only[List.length_append,List.length_cons,List.length_nil]
      exact r1
     ·show (y1.setReg (e0.regs:Nat) _).reg (e0.regs:Nat)=_
      rw[sreg_same (by rw[t2.len];omega),t3,hrow]
    ·rw[if_neg hx]
     have b1:step N inp (insB 8 0 e0.r 0 (E.len t.name) noB) y1 = .error 11:=st_bound_er (by rw[t3];omega)
     exact⟨by decide,e0.code.length+0,y1,t1.traps (a2.trap b1),by simp only[List.length_append];omega,t2⟩
  rw[if_neg k3] at hT hA⊢
  rw[if_neg k3]
  by_cases k4:t.kind=4
  ·rw[if_pos k4] at hT hA⊢
   rw[if_pos (show t.kind=4∨t.kind=5 from .inl k4)]
   have hT:e0.regs+2≤y.regs.length:=hT
   have hA:AtC B a i (e0.code++[insB 1 e0.regs 0 0 0 noB,insB 3 ((e0.regs+1:Nat):Int) e0.regs e0.r 7 noB]):=hA
   obtain⟨a1,a2⟩:=hA.app
   have s1:=s0 (by omega) a1
   cases hv0:(t.kid 0).ev xV A with
   | er er =>
    rw[hv0] at s1
    obtain⟨h00,n,y1,t1,t2,t3⟩:=s1
    rw[if_pos hl1]
    exact⟨h00,n,y1,t1,by simp only[List.length_append];omega,t3⟩
   | ok x =>
    rw[hv0] at s1
    obtain⟨y1,t1,t2,t3⟩:=s1
    rw[if_pos hl1]
    obtain⟨y2,hy2⟩:∃ y2,y1.setReg (e0.regs:Nat) (wrap32 0)=y2:=⟨_,rfl⟩
    have b1:step N inp (insB 1 e0.regs 0 0 0 noB) y1 = .ok y2:=by rw[←hy2];exact st_const
    have q1:y2.reg e0.r=x:=by rw[←hy2,sreg_other (by omega),t3]
    have q2:y2.reg (e0.regs:Nat)=0:=by rw[←hy2,sreg_same (by rw[t2.len];omega)];exact wrap_zero
    have q3:y2.regs.length=y.regs.length:=by rw[←hy2,←t2.len];exact List.length_set
    have b2:step N inp (insB 3 ((e0.regs+1:Nat):Int) e0.regs e0.r 7 noB) y2 = .ok (y2.setReg ((e0.regs+1:Nat):Int) (Wd.apply 7 (y2.reg e0.regs) (y2.reg e0.r))):=st_bin (Wd.e0 7 _ (by omega) (by omega))
    have r1:=(t1.trans (a2.step b1)).trans (a2.tail.step b2)
    refine⟨y2.setReg ((e0.regs+1:Nat):Int) (Wd.apply 7 (y2.reg e0.regs) (y2.reg e0.r)),?_,(t2.trans (by rw[←hy2];exact KeepS.set (Nat.le_refl _)) glo:KeepS R y y2).trans (KeepS.set (Nat.le_refl _)) (show R≤e0.regs+1 by omega),?_⟩
    ·simp only[List.length_append,List.length_cons,List.length_nil]
     exact r1
    ·show (y2.setReg ((e0.regs+1:Nat):Int) _).reg ((e0.regs+1:Nat):Int)=_
     rw[sreg_same (by omega),q1,q2,k4]
     show Wd.apply 7 0 x=wrap32 (-x)
     rw[Wd.a7,Int.zero_sub]
  rw[if_neg k4] at hT hA⊢
  by_cases k5:t.kind=5
  ·rw[if_pos k5] at hT hA⊢
   rw[if_pos (show t.kind=4∨t.kind=5 from .inr k5)]
   have hT:e0.regs+2≤y.regs.length:=hT
   have hA:AtC B a i (e0.code++[insB 1 e0.regs 0 0 0 noB,insB 3 ((e0.regs+1:Nat):Int) e0.r e0.regs 16 noB]):=hA
   obtain⟨a1,a2⟩:=hA.app
   have s1:=s0 (by omega) a1
   cases hv0:(t.kid 0).ev xV A with
   | er er =>
    rw[hv0] at s1
    obtain⟨h00,n,y1,t1,t2,t3⟩:=s1
    rw[if_pos hl1]
    exact⟨h00,n,y1,t1,by simp only[List.length_append];omega,t3⟩
   | ok x =>
    rw[hv0] at s1
    obtain⟨y1,t1,t2,t3⟩:=s1
    rw[if_pos hl1]
    obtain⟨y2,hy2⟩:∃ y2,y1.setReg (e0.regs:Nat) (wrap32 0)=y2:=⟨_,rfl⟩
    have b1:step N inp (insB 1 e0.regs 0 0 0 noB) y1 = .ok y2:=by rw[←hy2];exact st_const
    have q1:y2.reg e0.r=x:=by rw[←hy2,sreg_other (by omega),t3]
    have q2:y2.reg (e0.regs:Nat)=0:=by rw[←hy2,sreg_same (by rw[t2.len];omega)];exact wrap_zero
    have q3:y2.regs.length=y.regs.length:=by rw[←hy2,←t2.len];exact List.length_set
    have b2:step N inp (insB 3 ((e0.regs+1:Nat):Int) e0.r e0.regs 16 noB) y2 = .ok (y2.setReg ((e0.regs+1:Nat):Int) (Wd.apply 16 (y2.reg e0.r) (y2.reg e0.regs))):=st_bin (Wd.e0 16 _ (by omega) (by omega))
    have r1:=(t1.trans (a2.step b1)).trans (a2.tail.step b2)
    refine⟨y2.setReg ((e0.regs+1:Nat):Int) (Wd.apply 16 (y2.reg e0.r) (y2.reg e0.regs)),?_,(t2.trans (by rw[←hy2];exact KeepS.set (Nat.le_refl _)) glo:KeepS R y y2).trans (KeepS.set (Nat.le_refl _)) (show R≤e0.regs+1 by omega),?_⟩
    ·simp only[List.length_append,List.length_cons,List.length_nil]
     exact r1
    ·show (y2.setReg ((e0.regs+1:Nat):Int) _).reg ((e0.regs+1:Nat):Int)=_
     rw[sreg_same (by omega),q1,q2,k5]
     rfl
  rw[if_neg k5] at hT hA⊢
  rw[if_neg (show ¬ (t.kind=4∨t.kind=5) by omega)]
  have hl2:t.len=2:=by
   rw[hlen]
   unfold Fm.kids
   rw[Fm.row_else t.kind (by omega)]
   rfl
  have hl1':1<t.len:=by omega
  have h1:=hok 1 hl1' e0.regs (hV.ok.mono glo)
  have s1:=hsim 1 hl1' e0.regs
  obtain⟨e1,he1⟩:∃ e,(t.kid 1).lowE E V e0.regs=e:=⟨_,rfl⟩
  rw[he1] at h1 s1
  rw[if_pos hl1',he1] at hT hA⊢
  have p0:=h1.reg
  have plo:=h1.lo
  have hT:e1.regs+1≤y.regs.length:=hT
  have hA:AtC B a i ((e0.code++e1.code)++[insB 3 e1.regs e0.r e1.r t.kind noB]):=hA
  obtain⟨a12,a3⟩:=hA.app
  obtain⟨a1,a2⟩:=a12.app
  have s2:=s0 (by omega) a1
  cases hv0:(t.kid 0).ev xV A with
  | er er =>
   rw[hv0] at s2
   obtain⟨h00,n,y1,t1,t2,t3⟩:=s2
   rw[if_pos hl1]
   exact⟨h00,n,y1,t1,by simp only[List.length_append];omega,t3⟩
  | ok x =>
   rw[hv0] at s2
   obtain⟨y1,t1,t2,t3⟩:=s2
   rw[if_pos hl1,if_pos hl1']
   have hmem:y1.mem=y.mem:=by obtain⟨rs,rfl,_,_⟩:=t2;rfl
   have s3:=s1 y1 (i+e0.code.length) ((hV.keep t2 (Nat.le_refl _)).mono glo) (by rw[hmem];exact hM) (by rw[t2.len];omega) a2
   cases hv1:(t.kid 1).ev xV A with
   | er er =>
    rw[hv1] at s3
    obtain⟨h00,n,y2,u1,u2,u3⟩:=s3
    exact⟨h00,e0.code.length+n,y2,t1.traps u1,by simp only[List.length_append];omega,t2.trans u3 glo⟩
   | ok z =>
    rw[hv1] at s3
    obtain⟨y2,u1,u2,u3⟩:=s3
    have q1:y2.reg e0.r=x:=by rw[u2.reg g0,t3]
    show ExpSim B N inp a i R y _ (if Wd.err t.kind z=0 then .ok (Wd.apply t.kind x z) else .er (Wd.err t.kind z))
    have hk2':y2.regs.length=y.regs.length:=u2.len.trans t2.len
    by_cases hz:Wd.err t.kind z=0
    ·rw[if_pos hz]
     have b1:step N inp (insB 3 e1.regs e0.r e1.r t.kind noB) y2 = .ok (y2.setReg e1.regs (Wd.apply t.kind (y2.reg e0.r) (y2.reg e1.r))):=st_bin (by rw[u3];exact hz)
     have r1:=(t1.trans u1).trans ((by rw[List.length_append,←Nat.add_assoc] at a3;exact a3:AtC B a (i+e0.code.length+e1.code.length) _).step b1)
     refine⟨y2.setReg e1.regs (Wd.apply t.kind (y2.reg e0.r) (y2.reg e1.r)),?_,(t2.trans u2 glo).trans (KeepS.set (Nat.le_refl _)) (show R≤e1.regs by omega),?_⟩
     ·simp only[List.length_append,List.length_cons,List.length_nil]
      rw[show i+(e0.code.length+e1.code.length+(0+1))=i+e0.code.length+e1.code.length+1 by omega]
      exact r1
     ·show (y2.setReg (e1.regs:Nat) _).reg (e1.regs:Nat)=_
      rw[sreg_same (by omega),q1,u3]
    ·rw[if_neg hz]
     have b1:step N inp (insB 3 e1.regs e0.r e1.r t.kind noB) y2 = .error (Wd.err t.kind z):=by rw[st_bin_er (by rw[u3];exact hz),u3]
     exact⟨hz,(e0.code.length+e1.code.length)+0,y2,(t1.trans u1).traps ((by rw[List.length_append,←Nat.add_assoc] at a3;exact a3:AtC B a (i+e0.code.length+e1.code.length) _).trap b1),by simp only[List.length_append];omega,t2.trans u2 glo⟩
end
abbrev Vis(D:Nms)(loops:List ByteArray)(nm:ByteArray):Prop:=(memB D.scalars nm || memB loops nm)=true
def VInj(D:Nms)(loops:List ByteArray)(V:VM):Prop:=∀ a b r,Vis D loops a→Vis D loops b→V a=some r→V b=some r→a=b
def LockR(locks:List ByteArray)(y:IrSt):Prop:=(locks = []→y.locked=false)∧∀ nm,locks = [nm]→y.locked=true∧y.held=nm
structure EndR(E:LEnv)(D:Nms)(N:List ByteArray)(x:St)(y:IrSt):Prop where
 mem:MemR E D N x.A y.mem
 out:y.out=x.out
 rd:y.read=x.rd
structure RelS(E:LEnv)(D:Nms)(N:List ByteArray)(loops locks:List ByteArray)(V:VM)(R:Nat)(x:St)(y:IrSt):Prop where
 var:VarR D loops V R x.V y.regs
 inj:VInj D loops V
 fin:EndR E D N x y
 lock:LockR locks y
 cnt:y.cnt.length=4
theorem names_at{N:List ByteArray}{nm:ByteArray}(h:nm∈N):N[pos N nm]? = some nm:=by
 have hl:pos N nm<N.length:=List.findIdx_lt_length_of_exists ⟨nm,h,by simp⟩
 rw[List.getElem?_eq_getElem hl]
 have h1:=List.findIdx_getElem (xs:=N) (p:=fun m=>decide (m=nm)) (w:=hl)
 exact congrArg some (of_decide_eq_true h1)
theorem names_inj{N:List ByteArray}{a b:ByteArray}(ha:a∈N)(hb:b∈N)(h:pos N a=pos N b):a=b:=by
 have h1:=names_at ha
 rw[h,names_at hb] at h1
 exact (Option.some.inj h1).symm
theorem row_set{l:List (List Int)}{k j:Nat}{v:List Int}:(l.set k v).getD j []=if k=j∧k<l.length then v else l.getD j []:=by
 simp only[List.getD_eq_getElem?_getD,List.getElem?_set]
 by_cases h:k=j
 ·subst h
  by_cases h2:k<l.length
  ·simp[h2]
  ·simp[h2]
 ·simp[h]
section
variable {E:LEnv} {D:Nms} {N:List ByteArray} {loops locks:List ByteArray} {V:VM} {R:Nat} {x:St} {y y':IrSt}
theorem EndR.keep{R:Nat}(h:EndR E D N x y)(hk:KeepS R y y'):EndR E D N x y':=by obtain⟨rs,rfl,_,_⟩:=hk;exact⟨h.mem,h.out,h.rd⟩
theorem EndR.step(h:EndR E D N x y){k:Nat}:EndR E D N { x with st:=k } y:=⟨h.mem,h.out,h.rd⟩
theorem RelS.step(h:RelS E D N loops locks V R x y){k:Nat}:RelS E D N loops locks V R { x with st:=k } y:=⟨h.var,h.inj,h.fin.step,h.lock,h.cnt⟩
theorem RelS.keep{R':Nat}(h:RelS E D N loops locks V R x y)(hk:KeepS R' y y')(hR:R≤R'):RelS E D N loops locks V R x y':=by
 have h1:=h.var.keep hk hR
 obtain⟨rs,rfl,_,_⟩:=hk
 exact⟨h1,h.inj,h.fin.keep (R:=0) ⟨rs,rfl,by assumption,fun r hr=>by omega⟩,h.lock,h.cnt⟩
theorem RelS.agree{V2:VM}{R2:Nat}(h:RelS E D N loops locks V R x y)(hv:∀ nm,Vis D loops nm→V2 nm=V nm)(hR:R≤R2):RelS E D N loops locks V2 R2 x y:=by
 refine⟨fun nm hn=>?_,fun a b r ha hb h1 h2=>?_,h.fin,h.lock,h.cnt⟩
 ·obtain⟨r,h1,h2,h3⟩:=h.var nm hn
  exact⟨r,by rw[hv nm hn];exact h1,by omega,h3⟩
 ·rw[hv a ha] at h1
  rw[hv b hb] at h2
  exact h.inj a b r ha hb h1 h2
theorem RelS.putV{nm:ByteArray}{r:Nat}{v:Int}(h:RelS E D N loops locks V R x y)(hn:Vis D loops nm)(hr:V nm=some r)(hl:r<y.regs.length):RelS E D N loops locks V R (x.putV nm (some v)) (y.setReg (r:Nat) v):=by
 refine⟨fun s hs=>?_,h.inj,⟨h.fin.mem,h.fin.out,h.fin.rd⟩,h.lock,h.cnt⟩
 obtain⟨r',h1,h2,h3⟩:=h.var s hs
 refine⟨r',h1,h2,?_⟩
 show upd x.V nm (some v) s=some ((y.regs.set r v).getD r' 0)
 by_cases e:s=nm
 ·subst e
  rw[hr] at h1
  cases h1
  rw[upd_same,sim_getD,if_pos ⟨rfl,hl⟩]
 ·rw[upd_other _ _ e,sim_getD,if_neg (fun hc=>e (h.inj s nm r' hs hn h1 (by rw[hr,hc.1]))),h3]
theorem EndR.putA{nm:ByteArray}{i v:Int}(hN:∀ nm,(memB D.arrays nm || memB D.shared nm)=true→nm∈N)(h:EndR E D N x y)(hn:(memB D.arrays nm || memB D.shared nm)=true) :
 EndR E D N { x with A:=upd x.A nm (some ((y.row (pos N nm)).set i.toNat v)) } { y with mem:=y.mem.set (pos N nm) ((y.row (pos N nm)).set i.toNat v) }:=by
 refine⟨fun s hs=>?_,h.out,h.rd⟩
 obtain⟨m1,m2,m3⟩:=h.mem s hs
 obtain⟨n1,n2,n3⟩:=h.mem nm hn
 by_cases e:s=nm
 ·subst e
  rw[row_set,if_pos ⟨rfl,m3⟩]
  refine⟨upd_same _ _ _,?_,by rw[List.length_set];exact m3⟩
  rw[List.length_set]
  exact m2
 ·rw[row_set,if_neg (fun hc=>e (names_inj (hN s hs) (hN nm hn) hc.1.symm))]
  refine⟨?_,m2,by rw[List.length_set];exact m3⟩
  show upd x.A nm _ s=_
  rw[upd_other _ _ e]
  exact m1
end
section
variable (B:List Blk) (N:List ByteArray) (inp:List Int) (C:Nat) (E:LEnv) (D:Nms)
def Sim (Rel : St → IrSt → Prop) (c : Nat) (x : St) (r : SR) (a i : Nat) (y : IrSt) (a' i' : Nat) : Prop :=
  r.2 ≠ 13 → x.st ≤ r.1.st ∧
    ((r.2 = 0 ∧ ∃ n y', Reach B N inp n a i y a' i' y' ∧ n ≤ C * (r.1.st - x.st) + c ∧ Rel r.1 y') ∨
     (r.2 ≠ 0 ∧ ∃ n y', Traps B N inp n a i y r.2 y' ∧ n ≤ C * (r.1.st - x.st) + c ∧ EndR E D N r.1 y'))
end
section
variable {B:List Blk} {N:List ByteArray} {inp:List Int} {C:Nat} {E:LEnv} {D:Nms} {Rel Rel1 Rel2:St→IrSt→Prop} {c c1 c2:Nat} {x:St} {r:SR} {a i a1 i1 a2 i2 a' i':Nat} {y y1 y2:IrSt}
theorem Sim.mono(h:Sim B N inp C E D Rel c x r a i y a' i')(hc:c≤c1):Sim B N inp C E D Rel c1 x r a i y a' i':=fun h13=>by
 obtain⟨h1,h2⟩:=h h13
 refine⟨h1,?_⟩
 rcases h2 with⟨e,n,y',p1,p2,p3⟩|⟨e,n,y',p1,p2,p3⟩
 ·exact .inl ⟨e,n,y',p1,by omega,p3⟩
 ·exact .inr ⟨e,n,y',p1,by omega,p3⟩
theorem Sim.weak(h:Sim B N inp C E D Rel c x r a i y a' i')(hr:∀ x y,Rel x y→Rel1 x y):Sim B N inp C E D Rel1 c x r a i y a' i':=fun h13=>by
 obtain⟨h1,h2⟩:=h h13
 refine⟨h1,?_⟩
 rcases h2 with⟨e,n,y',p1,p2,p3⟩|⟨e,n,y',p1,p2,p3⟩
 ·exact .inl ⟨e,n,y',p1,p2,hr _ _ p3⟩
 ·exact .inr ⟨e,n,y',p1,p2,p3⟩
theorem Sim.ret{x':St}(hs:x'.st=x.st)(hr:Rel x' y):Sim B N inp C E D Rel 0 x (x',0) a i y a i:=fun _ =>
 ⟨by show x.st≤x'.st;omega,.inl ⟨rfl,0,y,Reach.refl,Nat.zero_le _,hr⟩⟩
theorem Sim.pre{m:Nat}(h:Reach B N inp m a i y a1 i1 y1)(h2:Sim B N inp C E D Rel c x r a1 i1 y1 a' i'):Sim B N inp C E D Rel (c+m) x r a i y a' i':=fun h13=>by
 obtain⟨q1,q2⟩:=h2 h13
 refine⟨q1,?_⟩
 rcases q2 with⟨e,n,y',p1,p2,p3⟩|⟨e,n,y',p1,p2,p3⟩
 ·exact .inl ⟨e,m+n,y',h.trans p1,by omega,p3⟩
 ·exact .inr ⟨e,m+n,y',h.traps p1,by omega,p3⟩
theorem Sim.post(h:Sim B N inp C E D Rel1 c x r a i y a1 i1)(h2:∀ x1 y1,Rel1 x1 y1→∃ m y2,Reach B N inp m a1 i1 y1 a2 i2 y2∧m≤c2∧Rel2 x1 y2):Sim B N inp C E D Rel2 (c+c2) x r a i y a2 i2:=fun h13=>by
 obtain⟨q1,q2⟩:=h h13
 refine⟨q1,?_⟩
 rcases q2 with⟨e,n,y',p1,p2,p3⟩|⟨e,n,y',p1,p2,p3⟩
 ·obtain⟨m,y2,r1,r2,r3⟩:=h2 _ _ p3
  exact .inl ⟨e,n+m,y2,p1.trans r1,by omega,r3⟩
 ·exact .inr ⟨e,n,y',p1,by omega,p3⟩
theorem Sim.then{f:St→SR}(h:Sim B N inp C E D Rel1 c1 x r a i y a1 i1)(h2:∀ x1 y1,Rel1 x1 y1→Sim B N inp C E D Rel2 c2 x1 (f x1) a1 i1 y1 a2 i2):Sim B N inp C E D Rel2 (c1+c2) x (r.then f) a i y a2 i2:=fun h13=>by
 by_cases h0:r.2=0
 ·rw[SR.then_ok h0] at h13⊢
  obtain⟨q1,q2⟩:=h (by rw[h0];decide)
  rcases q2 with⟨e,n,y',p1,p2,p3⟩|⟨e,_⟩
  ·obtain⟨r1,r2⟩:=h2 _ _ p3 h13
   have hm:C*((f r.1).1.st-x.st)=C*(r.1.st-x.st)+C*((f r.1).1.st-r.1.st):=by rw[←Nat.mul_add];congr 1;omega
   refine⟨by omega,?_⟩
   rcases r2 with⟨e',n',y'',t1,t2,t3⟩|⟨e',n',y'',t1,t2,t3⟩
   ·exact .inl ⟨e',n+n',y'',p1.trans t1,by omega,t3⟩
   ·exact .inr ⟨e',n+n',y'',p1.traps t1,by omega,t3⟩
  ·exact absurd h0 e
 ·rw[SR.then_er h0] at h13⊢
  exact Sim.mono (c1:=c1+c2) (fun h13=>by
   obtain⟨q1,q2⟩:=h h13
   rcases q2 with⟨e,_⟩|q2
   ·exact absurd e h0
   ·exact⟨q1,.inr q2⟩) (Nat.le_add_right _ _) h13
theorem Sim.stp{F:Int}{f:St→SR}(hc:c≤C)(h:Sim B N inp C E D Rel c { x with st:=x.st+1 } (f { x with st:=x.st+1 }) a i y a' i'):Sim B N inp C E D Rel 0 x ((Go.Proofs.YtkpdngfkdmllkaaGreatDoor.stp F x).then f) a i y a' i':=fun h13=>by
 unfold Go.Proofs.YtkpdngfkdmllkaaGreatDoor.stp at h13⊢
 by_cases hF:F≤(x.st:Int)
 ·rw[if_pos hF] at h13
  rw[SR.then_er (show (13:Int)≠0 by decide)] at h13
  exact absurd rfl h13
 ·rw[if_neg hF] at h13⊢
  rw[SR.then_ok rfl] at h13⊢
  obtain⟨q1,q2⟩:=h h13
  have q1:x.st+1≤(f { x with st:=x.st+1 }).1.st:=q1
  obtain⟨z,hz⟩:∃ z,f { x with st:=x.st+1 }=z:=⟨_,rfl⟩
  have q2:=q2
  simp only[hz] at q1 q2⊢
  have hm:C*(z.1.st-x.st)=C*(z.1.st-(x.st+1))+C:=by rw[show z.1.st-x.st=z.1.st-(x.st+1)+1 by omega,Nat.mul_add,Nat.mul_one]
  refine⟨by omega,?_⟩
  rcases q2 with⟨e',n',y'',t1,t2,t3⟩|⟨e',n',y'',t1,t2,t3⟩
  ·exact .inl ⟨e',n',y'',t1,by omega,t3⟩
  ·exact .inr ⟨e',n',y'',t1,by omega,t3⟩
theorem Sim.run{R:Nat}{e:LE}{v:EV}{f:Int→SR}(hf:EndR E D N x y)(he:ExpSim B N inp a i R y e v)(h:∀ n y1,KeepS R y y1→y1.reg e.r=n→v = .ok n→Sim B N inp C E D Rel c x (f n) a (i+e.code.length) y1 a' i'):Sim B N inp C E D Rel (c+e.code.length) x (runE v x f) a i y a' i':=by
 cases v with
 | ok n =>
  obtain⟨y1,h1,h2,h3⟩:=he
  exact Sim.pre h1 (h n y1 h2 h3 rfl)
 | er er =>
  obtain⟨h0,n,y1,h1,h2,h3⟩:=he
  exact fun _=>⟨Nat.le_refl _,.inr ⟨h0,n,y1,h1,by omega,hf.keep h3⟩⟩
theorem Sim.err{er:Int}(h0:er≠0){y1:IrSt}(h:Traps B N inp 0 a i y er y1)(hf:EndR E D N x y1):Sim B N inp C E D Rel c x (x,er) a i y a' i':=fun _=>⟨Nat.le_refl _,.inr ⟨h0,0,y1,h,by omega,hf⟩⟩
end
def InL(B:List Blk)(k:Nat)(s:LS):Prop:=InB18 B k s∧∃ b,B[k+s.done.length]? = some b∧s.code <+: b.code
theorem ext_at{B:List Blk}{k:Nat}{c:List Ins}{s:LS}(hp:PosL B k c s)(h:InL B k s):∃ b,B[k]? = some b∧c <+: b.code:=by
 by_cases hd:s.done = []
 ·obtain⟨c',h1,_⟩:=hp.none hd
  obtain⟨b,h2,h3⟩:=h.2
  rw[hd] at h2
  exact⟨b,h2,(by rw[h1] at h3;exact (List.prefix_append _ _).trans h3)⟩
 ·obtain⟨_,x0,c1,h2,h3⟩:=hp.some hd
  exact⟨x0,h.1 0 x0 h2,by rw[h3];exact List.prefix_append _ _⟩
theorem atc_of{B:List Blk}{k:Nat}{b:Blk}{c l:List Ins}(hb:B[k]? = some b)(h:c++l <+: b.code):AtC B k c.length l:=by
 obtain⟨t,ht⟩:=h
 refine⟨b,hb,t,?_⟩
 rw[←ht,List.append_assoc,List.drop_left]
theorem InL.leaf{B:List Blk}{k R:Nat}{c l:List Ins}{V:VM}(h:InL B k ⟨[],c++l,R,V⟩):AtC B k c.length l:=by
 obtain⟨b,h2,h3⟩:=h.2
 exact atc_of h2 h3
