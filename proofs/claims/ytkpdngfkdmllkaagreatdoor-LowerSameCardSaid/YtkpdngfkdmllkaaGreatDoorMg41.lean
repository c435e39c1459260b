/- Part. -/
import Derived.Test.YtkpdngfkdmllkaaGreatDoorMg29
namespace Go.Proofs.YtkpdngfkdmllkaaGreatDoor
set_option linter.unusedVariables false
set_option linter.unusedSimpArgs false
open Go.RowKit
set_option maxRecDepth 100000
def catTo{α:Type}(f:Nat→List α):Nat→List α
 | 0=>[]
 | n+1=>catTo f n++f n
def Tree.locks:Tree→List ByteArray
 | .node k n s l kid=>(if k=46 then [s] else [])++catTo (fun i=>if h:i<l then locks (kid ⟨i,h⟩) else []) l
section
variable (f:Ins→Bool)
def LS.cnt(s:LS):Nat:=(s.done.map (fun b=>b.code.countP f)).sum+s.code.countP f
def Calm46(i:Ins):Prop:=i.op≠11∧i.op≠12
end
section
variable {f:Ins→Bool} {P:ByteArray→Bool}
structure CntF(f:Ins→Bool)(P:ByteArray→Bool):Prop where
 calm:∀ i,Calm46 i→f i=false
 pair:∀ nm,[insB 11 0 0 0 0 nm,insB 12 0 0 0 0 nm].countP f = [nm].countP P
theorem CntF.zero(h:CntF f P){l:List Ins}(hl:∀ i∈l,Calm46 i):l.countP f=0:=by
 rw[List.countP_eq_zero]
 intro i hi
 rw[h.calm i (hl i hi)]
 decide
theorem CntF.one(h:CntF f P){i:Ins}(hl:Calm46 i):[i].countP f=0:=h.zero (fun x hx=>by obtain rfl:=List.mem_singleton.1 hx;exact hl)
end
def Fn.cnt(F:Fn)(f:Ins→Bool):Nat:=(F.blocks.map (fun b=>b.code.countP f)).sum
def TgtB(n:Nat)(x:Blk):Prop:=(x.kind=1∨x.kind=2)∧(0≤x.to∧x.to≤(n:Nat))∧(0≤x.els∧x.els≤(n:Nat))
def TgtL(k:Nat)(s:LS):Prop:=∀ x∈s.done,TgtB (k+s.done.length) x
theorem TgtB.mono{n m:Nat}{x:Blk}(h:TgtB n x)(hn:n≤m):TgtB m x:=⟨h.1,⟨h.2.1.1,by have:=h.2.1.2;omega⟩,⟨h.2.2.1,by have:=h.2.2.2;omega⟩⟩
theorem TgtB.jmp{n a:Nat}{c:List Ins}(h:a≤n):TgtB n (jmpB c a):=⟨.inl rfl,⟨by show (0:Int)≤(a:Nat);omega,by show ((a:Nat):Int)≤(n:Nat);omega⟩,⟨by show (0:Int)≤0;omega,by show (0:Int)≤(n:Nat);omega⟩⟩
theorem low_tgt(E:LEnv):∀ (t:Tree),(t.vld 98=true∨t.vld 115=true)→∀ (d k:Nat) (c:List Ins) (R:Nat) (V:VM),TgtL k (t.low E d k c R V):=by
 intro t
 induction t using Tree.ind with
 | h t ih =>
  intro hv d k c R V
  rw[Tree.low_eq]
  rcases hv with hv|hv
  ·obtain⟨hk,hkid⟩:=vldB hv
   rw[if_pos hk]
   have key:∀ n,n≤t.len→TgtL k (seqL (fun i=>kidL E t i d) k c R V n):=by
    intro n
    induction n with
    | zero=>intro _ x hx;cases hx
    | succ n ihn =>
     intro hn
     have h1:=ihn (by omega)
     show TgtL k ((seqL (fun i=>kidL E t i d) k c R V n).next k (kidL E t n d))
     obtain⟨q,hq⟩:∃ q,seqL (fun i=>kidL E t i d) k c R V n=q:=⟨_,rfl⟩
     rw[hq] at h1⊢
     have h2:=ih n (by omega) (.inr (hkid n (by omega))) d (k+q.done.length) q.code q.regs q.vars
     have h3:kidL E t n d=(t.kid n).low E d:=by unfold kidL;rw[if_pos (show n<t.len by omega)]
     rw[h3]
     intro x hx
     have hx:x∈q.done++((t.kid n).low E d (k+q.done.length) q.code q.regs q.vars).done:=hx
     show TgtB (k+(q.done++((t.kid n).low E d (k+q.done.length) q.code q.regs q.vars).done).length) x
     rw[List.length_append]
     rcases List.mem_append.1 hx with hx|hx
     ·exact (h1 x hx).mono (by omega)
     ·exact (h2 x hx).mono (by omega)
   exact key t.len (Nat.le_refl _)
  ·obtain⟨⟨hk1,hk2⟩,_,hlen,hkid⟩:=vldS hv
   rw[if_neg (by omega)]
   have hb:∀ i,i<t.len→(t.kid i).vld 98=true→∀ d k c R V,TgtL k (kidL E t i d k c R V):=fun i hi hvi d k c R V=>by
    have h3:kidL E t i d=(t.kid i).low E d:=by unfold kidL;rw[if_pos hi]
    rw[h3]
    exact ih i hi (.inl hvi) d k c R V
   have hloop:∀ (lim:Int) (h:LE) (enter:VM→VM) (b:LF),(∀ k c R V,TgtL k (b k c R V))→TgtL k (loopL lim d h enter b k c V):=by
    intro lim h enter b hbb x hx
    unfold loopL at hx⊢
    dsimp only at hx⊢
    have h2:=hbb (k+2) [insB 16 0 d 0 lim noB] h.regs (enter V)
    obtain⟨q,hq⟩:∃ q,b (k+2) [insB 16 0 d 0 lim noB] h.regs (enter V)=q:=⟨_,rfl⟩
    rw[hq] at hx h2⊢
    simp only[List.mem_append,List.mem_cons,List.not_mem_nil,or_false] at hx
    simp only[List.length_append,List.length_cons,List.length_nil]
    rcases hx with ((rfl|rfl)|hx)|rfl
    ·exact TgtB.jmp (a:=k+1) (by omega)
    ·exact⟨.inr rfl,⟨by show (0:Int)≤((k+2:Nat):Int);omega,by show ((k+2:Nat):Int)≤_;omega⟩,⟨by show (0:Int)≤((k+2+q.done.length+1:Nat):Int);omega,by show ((k+2+q.done.length+1:Nat):Int)≤_;omega⟩⟩
    ·exact (h2 x hx).mono (by omega)
    ·exact TgtB.jmp (a:=k+1) (by omega)
   obtain hk|hk|hk|hk|hk|hk|hk:t.kind=40∨t.kind=41∨t.kind=42∨t.kind=43∨t.kind=44∨t.kind=45∨t.kind=46:=by omega
   all_goals rw[hk] at hlen hkid
   ·unfold lowS
    rw[if_pos hk]
    intro x hx
    split at hx <;> cases hx
   ·have hlen:t.len=3:=hlen
    unfold lowS
    rw[if_neg (by omega),if_pos hk]
    intro x hx
    unfold ifL at hx⊢
    dsimp only at hx⊢
    obtain⟨e,hee⟩:∃ e,kidLE E t 0 V R=e:=⟨_,rfl⟩
    rw[hee] at hx⊢
    have h1:=hb 1 (by omega) (hkid 1 (by omega)) d (k+1) [] e.regs V
    obtain⟨s1,hs1⟩:∃ s1,kidL E t 1 d (k+1) [] e.regs V=s1:=⟨_,rfl⟩
    rw[hs1] at hx h1⊢
    have h2:=hb 2 (by omega) (hkid 2 (by omega)) d (k+1+s1.done.length+1) [] s1.regs s1.vars
    obtain⟨s2,hs2⟩:∃ s2,kidL E t 2 d (k+1+s1.done.length+1) [] s1.regs s1.vars=s2:=⟨_,rfl⟩
    rw[hs2] at hx h2⊢
    simp only[List.mem_append,List.mem_cons,List.not_mem_nil,or_false] at hx
    simp only[List.length_append,List.length_cons,List.length_nil]
    rcases hx with ((rfl|hx)|(rfl|hx))|rfl
    ·exact⟨.inr rfl,⟨by show (0:Int)≤((k+1:Nat):Int);omega,by show ((k+1:Nat):Int)≤_;omega⟩,⟨by show (0:Int)≤((k+1+s1.done.length+1:Nat):Int);omega,by show ((k+1+s1.done.length+1:Nat):Int)≤_;omega⟩⟩
    ·exact (h1 x hx).mono (by omega)
    ·exact TgtB.jmp (by omega)
    ·exact (h2 x hx).mono (by omega)
    ·exact TgtB.jmp (by omega)
   ·have hlen:t.len=1:=hlen
    unfold lowS
    rw[if_neg (by omega),if_neg (by omega),if_pos hk]
    exact hloop t.num (forH t.num d R) (fun V=>upd V t.name (some R)) (kidL E t 0 (d+1)) (hb 0 (by omega) (hkid 0 (by omega)) (d+1))
   ·have hlen:t.len=2:=hlen
    unfold lowS
    rw[if_neg (by omega),if_neg (by omega),if_neg (by omega),if_pos hk]
    exact hloop _ _ _ _ (hb 1 (by omega) (hkid 1 (by omega)) (d+1))
   ·unfold lowS
    rw[if_neg (by omega),if_neg (by omega),if_neg (by omega),if_neg (by omega),if_pos hk]
    intro x hx
    split at hx <;> cases hx
   ·unfold lowS
    rw[if_neg (by omega),if_neg (by omega),if_neg (by omega),if_neg (by omega),if_neg (by omega),if_pos hk]
    intro x hx
    cases hx
   ·have hlen:t.len=1:=hlen
    unfold lowS
    rw[if_neg (by omega),if_neg (by omega),if_neg (by omega),if_neg (by omega),if_neg (by omega),if_neg (by omega),if_pos hk]
    exact hb 0 (by omega) (hkid 0 (by omega)) d k (c++[insB 11 0 0 0 0 t.name]) R V
theorem lowFn_tgt(shared:List Arr)(t:Tsk)(hv:t.body.vld 98=true):∀ x∈(lowFn shared t).blocks,(x.kind=3∧x.to=0∧x.els=0)∨((x.kind=1∨x.kind=2)∧(0≤x.to∧x.to<((lowFn shared t).blocks.length:Nat))∧(0≤x.els∧x.els<((lowFn shared t).blocks.length:Nat))):=by
 intro x hx
 have h1:=low_tgt (envOf shared t.arrays) t.body (.inl hv) 0 0 [] t.vars.length (varsM t.vars t.vars.length)
 have hl:(lowFn shared t).blocks.length=(lowS0 shared t).done.length+1:=by
  show ((lowS0 shared t).done++_).length=_
  rw[List.length_append]
  rfl
 rw[hl]
 have hx:x∈(lowS0 shared t).done++[⟨(lowS0 shared t).code,3,0,0,0⟩]:=hx
 rcases List.mem_append.1 hx with hx|hx
 ·obtain⟨a,⟨b,c⟩,d,e⟩:=h1 x hx
  have c:x.to≤((0+(lowS0 shared t).done.length:Nat):Int):=c
  have e:x.els≤((0+(lowS0 shared t).done.length:Nat):Int):=e
  exact .inr ⟨a,⟨b,by omega⟩,⟨d,by omega⟩⟩
 ·obtain rfl:=List.mem_singleton.1 hx
  exact .inl ⟨rfl,rfl,rfl⟩
theorem concatV_nil{β:Type}{f:Nat→List β}{n:Nat}(h:concatTo f n = []):∀ i,i<n→f i = []:=by
 induction n with
 | zero=>intro i hi;omega
 | succ n ih =>
  rw[concatTo_succ,List.append_eq_nil_iff] at h
  intro i hi
  by_cases e:i=n
  ·rw[e];exact h.2
  ·exact ih h.1 i (by omega)
theorem faultsV{d:Nms}{t:Tree}{path:List Int}{place:Bool}{loops locks:List ByteArray}(h:faultsT d t path place loops locks = []):faultN d t.kind t.name place loops locks=0∧∀ i,i<t.len→faultsT d (t.kid i) (path++[(i:Int)]) (placeIn t i) (loopsIn t loops) (locksIn t locks) = []:=by
 rw[faultsT_eq,List.append_eq_nil_iff] at h
 refine⟨?_,fun i hi=>concatV_nil h.2 i hi⟩
 have h1:=h.1
 unfold ownF at h1
 split at h1
 ·assumption
 ·cases h1
structure EnvOk(E:LEnv)(ns:List (ByteArray×Bool))(D:Nms):Prop where
 arr:∀ s,memB D.arrays s=true→lookB ns s=some true∧E.sh s=false∧1≤E.len s∧E.len s≤131071
 obj:∀ s,memB D.shared s=true→lookB ns s=some false∧E.sh s=true∧1≤E.len s∧E.len s≤131071
def VOk(D:Nms)(loops:List ByteArray)(V:VM)(R:Nat):Prop:=∀ s,(memB D.scalars s || memB loops s)=true→∃ r,V s=some r∧r<R
theorem VOk.mono{D:Nms}{loops:List ByteArray}{V:VM}{R R':Nat}(h:VOk D loops V R)(hR:R≤R'):VOk D loops V R':=fun s hs=>by obtain⟨r,h1,h2⟩:=h s hs;exact⟨r,h1,by omega⟩
theorem VOk.reg{D:Nms}{loops:List ByteArray}{V:VM}{R:Nat}(h:VOk D loops V R){s:ByteArray}(hs:(memB D.scalars s || memB loops s)=true):0≤V.reg s∧V.reg s<(R:Nat):=by
 obtain⟨r,h1,h2⟩:=h s hs
 unfold VM.reg
 rw[h1]
 show 0≤((r:Nat):Int)∧((r:Nat):Int)<_
 omega
theorem inReg_ok{n:Int}{R:Nat}:inReg n (R:Nat)=true↔0≤n∧n<(R:Nat):=by unfold inReg;simp
theorem betw_ok{n a b:Int}:betw n a b=true↔a≤n∧n≤b:=by unfold betw;simp
theorem inReg_mono{n:Int}{R R':Nat}(hR:R≤R')(h:inReg n (R:Nat)=true):inReg n (R':Nat)=true:=by
 rw[inReg_ok] at h⊢
 omega
theorem insOk_mono{R R':Nat}{ns:List (ByteArray×Bool)}{i:Ins}(hR:R≤R')(h:insOk (R:Nat) ns i=true):insOk (R':Nat) ns i=true:=by
 have m:∀ n,inReg n (R:Nat)=true→inReg n (R':Nat)=true:=fun n=>inReg_mono hR
 unfold insOk at h⊢
 cases h1:(i.op == 1)
 case true=>simp only[h1,cond_true,Bool.and_eq_true] at h ⊢;simp only[h,m _ h.1.1.1.1,and_self]
 cases h2:(i.op == 2)
 case true=>simp only[h1,h2,cond_true,cond_false,Bool.and_eq_true] at h ⊢;simp only[h,m _ h.1.1.1.1,m _ h.1.1.1.2,and_self]
 cases h3:(i.op == 3)
 case true=>simp only[h1,h2,h3,cond_true,cond_false,Bool.and_eq_true] at h ⊢;simp only[h,m _ h.1.1.1.1,m _ h.1.1.1.2,m _ h.1.1.2,and_self]
 cases h4:(i.op == 4 || i.op == 6)
 case true=>simp only[h1,h2,h3,h4,cond_true,cond_false,Bool.and_eq_true] at h ⊢;exact⟨⟨⟨⟨m _ h.1.1.1.1,m _ h.1.1.1.2⟩,h.1.1.2⟩,h.1.2⟩,h.2⟩
 cases h5:(i.op == 5 || i.op == 7)
 case true=>simp only[h1,h2,h3,h4,h5,cond_true,cond_false,Bool.and_eq_true] at h ⊢;exact⟨⟨⟨⟨m _ h.1.1.1.1,m _ h.1.1.1.2⟩,h.1.1.2⟩,h.1.2⟩,h.2⟩
 cases h6:(i.op == 8)
 case true=>simp only[h1,h2,h3,h4,h5,h6,cond_true,cond_false,Bool.and_eq_true] at h ⊢;exact⟨⟨⟨⟨m _ h.1.1.1.1,h.1.1.1.2⟩,h.1.1.2⟩,h.1.2⟩,h.2⟩
 cases h7:(i.op == 9)
 case true=>simp only[h1,h2,h3,h4,h5,h6,h7,cond_true,cond_false,Bool.and_eq_true] at h ⊢;exact⟨⟨⟨⟨m _ h.1.1.1.1,h.1.1.1.2⟩,h.1.1.2⟩,h.1.2⟩,h.2⟩
 cases h8:(i.op == 10)
 case true=>simp only[h1,h2,h3,h4,h5,h6,h7,h8,cond_true,cond_false,Bool.and_eq_true] at h ⊢;exact⟨⟨⟨⟨m _ h.1.1.1.1,h.1.1.1.2⟩,h.1.1.2⟩,h.1.2⟩,h.2⟩
 cases h9:(i.op == 11 || i.op == 12)
 case true=>simp only[h1,h2,h3,h4,h5,h6,h7,h8,h9,cond_true,cond_false] at h ⊢;exact h
 cases h10:(i.op == 13 || i.op == 14)
 case true=>simp only[h1,h2,h3,h4,h5,h6,h7,h8,h9,h10,cond_true,cond_false] at h ⊢;exact h
 cases h11:(i.op == 15)
 case true=>simp only[h1,h2,h3,h4,h5,h6,h7,h8,h9,h10,h11,cond_true,cond_false,Bool.and_eq_true] at h ⊢;exact⟨⟨⟨⟨m _ h.1.1.1.1,h.1.1.1.2⟩,h.1.1.2⟩,h.1.2⟩,h.2⟩
 simp only[h1,h2,h3,h4,h5,h6,h7,h8,h9,h10,h11,cond_false] at h⊢
 exact h
section
variable (ns:List (ByteArray×Bool))
def IOk(R:Nat)(i:Ins):Prop:=insOk (R:Nat) ns i=true
def COk(R:Nat)(l:List Ins):Prop:=∀ i∈l,IOk ns R i
end
section
variable {ns:List (ByteArray×Bool)} {R R':Nat}
theorem COk.mono{l:List Ins}(h:COk ns R l)(hR:R≤R'):COk ns R' l:=fun i hi=>insOk_mono hR (h i hi)
theorem COk.nil:COk ns R []:=fun i hi=>by cases hi
theorem COk.app{a b:List Ins}(h:COk ns R a)(h':COk ns R b):COk ns R (a++b):=fun i hi=>by
 rcases List.mem_append.1 hi with hi|hi
 ·exact h i hi
 ·exact h' i hi
theorem COk.cons{a:Ins}{b:List Ins}(h:IOk ns R a)(h':COk ns R b):COk ns R (a::b):=fun i hi=>by
 rcases List.mem_cons.1 hi with rfl|hi
 ·exact h
 ·exact h' i hi
theorem COk.one{a:Ins}(h:IOk ns R a):COk ns R [a]:=COk.cons h COk.nil
theorem ok_const{d n:Int}(h0:0≤d∧d<(R:Nat))(h1:0≤n∧n≤2147483647):IOk ns R (insB 1 d 0 0 n noB):=by
 have e1:inReg d (R:Nat)=true:=inReg_ok.2 h0
 have e2:betw n (-2147483648) 2147483647=true:=betw_ok.2 (by omega)
 unfold IOk insOk
 simp[e1,e2,noB]
theorem ok_move{d x:Int}(h0:0≤d∧d<(R:Nat))(h1:0≤x∧x<(R:Nat)):IOk ns R (insB 2 d x 0 0 noB):=by
 have e1:inReg d (R:Nat)=true:=inReg_ok.2 h0
 have e2:inReg x (R:Nat)=true:=inReg_ok.2 h1
 unfold IOk insOk
 simp[e1,e2,noB]
theorem ok_bin{d x y k:Int}(h0:0≤d∧d<(R:Nat))(h1:0≤x∧x<(R:Nat))(h2:0≤y∧y<(R:Nat))(h3:6≤k∧k≤23):IOk ns R (insB 3 d x y k noB):=by
 have e1:inReg d (R:Nat)=true:=inReg_ok.2 h0
 have e2:inReg x (R:Nat)=true:=inReg_ok.2 h1
 have e3:inReg y (R:Nat)=true:=inReg_ok.2 h2
 have e4:betw k 6 23=true:=betw_ok.2 h3
 unfold IOk insOk
 simp[e1,e2,e3,e4,noB]
theorem ok_bound{x n:Int}(h0:0≤x∧x<(R:Nat))(h1:1≤n∧n≤131071):IOk ns R (insB 8 0 x 0 n noB):=by
 have e1:inReg x (R:Nat)=true:=inReg_ok.2 h0
 have e2:betw n 1 131071=true:=betw_ok.2 h1
 unfold IOk insOk
 simp[e1,e2,noB]
theorem ok_in{d n:Int}(h0:0≤d∧d<(R:Nat))(h1:0≤n∧n≤7):IOk ns R (insB 9 d 0 0 n noB):=by
 have e1:inReg d (R:Nat)=true:=inReg_ok.2 h0
 have e2:betw n 0 7=true:=betw_ok.2 h1
 unfold IOk insOk
 simp[e1,e2,noB]
theorem ok_out{x n:Int}(h0:0≤x∧x<(R:Nat))(h1:0≤n∧n≤7):IOk ns R (insB 10 0 x 0 n noB):=by
 have e1:inReg x (R:Nat)=true:=inReg_ok.2 h0
 have e2:betw n 0 7=true:=betw_ok.2 h1
 unfold IOk insOk
 simp[e1,e2,noB]
theorem ok_lock{op:Int}{s:ByteArray}(ho:op=11∨op=12)(h:lookB ns s=some false):IOk ns R (insB op 0 0 0 0 s):=by
 unfold IOk insOk
 rcases ho with rfl|rfl <;> simp[h]
theorem ok_count{op:Int}{d:Nat}(ho:op=13∨op=14)(h:d≤3):IOk ns R (insB op 0 0 0 d noB):=by
 have e2:betw (d:Nat) 0 3=true:=betw_ok.2 (by omega)
 unfold IOk insOk
 rcases ho with rfl|rfl <;> simp[e2,noB]
theorem ok_read{v:Int}{d:Nat}(h0:0≤v∧v<(R:Nat))(h:d≤3):IOk ns R (insB 15 v 0 0 d noB):=by
 have e1:inReg v (R:Nat)=true:=inReg_ok.2 h0
 have e2:betw (d:Nat) 0 3=true:=betw_ok.2 (by omega)
 unfold IOk insOk
 simp[e1,e2,noB]
theorem ok_limit{n:Int}{d:Nat}(h:d≤3)(h1:1≤n∧n≤131071):IOk ns R (insB 16 0 d 0 n noB):=by
 have e1:betw (d:Nat) 0 3=true:=betw_ok.2 (by omega)
 have e2:betw n 1 131071=true:=betw_ok.2 h1
 unfold IOk insOk
 simp[e1,e2,noB]
end
section
variable {E:LEnv} {ns:List (ByteArray×Bool)} {D:Nms} {R:Nat}
theorem item_ok(hE:EnvOk E ns D){s:ByteArray}{place:Bool}{loops locks:List ByteArray}(h:faultN D 3 s place loops locks=0):lookB ns s=some (!E.sh s)∧1≤E.len s∧E.len s≤131071:=by
 unfold faultN at h
 rw[if_neg (by decide),if_pos rfl] at h
 by_cases e1:memB D.arrays s=true
 ·obtain⟨h1,h2,h3⟩:=hE.arr s e1
  rw[h2]
  exact⟨h1,h3⟩
 ·rw[if_neg e1] at h
  by_cases e2:memB D.shared s=true
  ·obtain⟨h1,h2,h3⟩:=hE.obj s e2
   rw[h2]
   exact⟨h1,h3⟩
  ·rw[if_neg e2] at h
   split at h <;> exact absurd h (by decide)
theorem var_ok{s:ByteArray}{place:Bool}{loops locks:List ByteArray}(h:faultN D 2 s place loops locks=0):(memB D.scalars s || memB loops s)=true:=by
 unfold faultN at h
 rw[if_pos rfl] at h
 split at h
 ·exact absurd h (by decide)
 ·split at h
  ·assumption
  ·split at h <;> exact absurd h (by decide)
theorem ok_load(hE:EnvOk E ns D){d x:Int}{s:ByteArray}(hl:lookB ns s=some (!E.sh s))(h0:0≤d∧d<(R:Nat))(h1:0≤x∧x<(R:Nat)):IOk ns R (insB (if E.sh s then 6 else 4) d x 0 0 s):=by
 have e1:inReg d (R:Nat)=true:=inReg_ok.2 h0
 have e2:inReg x (R:Nat)=true:=inReg_ok.2 h1
 unfold IOk insOk
 by_cases h:E.sh s=true
 ·rw[h] at hl
  simp[h,hl,e1,e2]
 ·rw[Bool.not_eq_true] at h
  rw[h] at hl
  simp[h,hl,e1,e2]
theorem ok_sto{x y:Int}{s:ByteArray}(hl:lookB ns s=some (!E.sh s))(h0:0≤x∧x<(R:Nat))(h1:0≤y∧y<(R:Nat)):IOk ns R (stoB E s x y):=by
 have e1:inReg x (R:Nat)=true:=inReg_ok.2 h0
 have e2:inReg y (R:Nat)=true:=inReg_ok.2 h1
 unfold IOk insOk stoB
 by_cases h:E.sh s=true
 ·rw[h] at hl
  simp[h,hl,e1,e2]
 ·rw[Bool.not_eq_true] at h
  rw[h] at hl
  simp[h,hl,e1,e2]
structure EOk(ns:List (ByteArray×Bool))(R sz:Nat)(e:LE):Prop where
 code:COk ns e.regs e.code
 lo:R≤e.regs
 hi:e.regs≤R+2*sz
 reg:0≤e.r∧e.r<(e.regs:Nat)
theorem lowE_ok(hE:EnvOk E ns D):∀ (t:Tree),t.vld 101=true→∀ (path:List Int) (place:Bool) (loops locks:List ByteArray),faultsT D t path place loops locks = []→∀ (R:Nat) (V:VM),VOk D loops V R→EOk ns R t.size (t.lowE E V R):=by
 intro t
 induction t using Tree.ind with
 | h t ih =>
  intro hv path place loops locks hf R V hV
  obtain⟨⟨hk1,hk2⟩,hlen,hkid,hnum⟩:=vldE hv
  obtain⟨f0,f1⟩:=faultsV hf
  have hlo:loopsIn t loops=loops:=by unfold loopsIn;rw[if_neg (by omega)]
  have hkids:∀ i,i<t.len→∀ R,VOk D loops V R→EOk ns R (t.kid i).size ((t.kid i).lowE E V R):=fun i hi R hR=>by
   have h1:=f1 i hi
   rw[hlo] at h1
   exact ih i hi (hkid i hi) _ _ _ _ h1 R V hR
  have hsz:=t.size_eq
  rw[Tree.lowE_eq]
  by_cases k1:t.kind=1
  ·unfold lowB
   rw[if_pos k1]
   exact⟨COk.one (ok_const (by show 0≤((R:Nat):Int)∧((R:Nat):Int)<((R+1:Nat):Int);omega) (hnum k1)),by show R≤R+1;omega,by show R+1≤_;omega,by show 0≤((R:Nat):Int)∧((R:Nat):Int)<((R+1:Nat):Int);omega⟩
  by_cases k2:t.kind=2
  ·unfold lowB
   rw[if_neg k1,if_pos k2]
   rw[k2] at f0
   exact⟨COk.nil,Nat.le_refl _,by show R≤_;omega,hV.reg (var_ok f0)⟩
  have hl1:0<t.len:=by
   rw[hlen]
   by_cases hc:t.kind=3∨t.kind=4∨t.kind=5
   ·rcases hc with e|e|e <;> rw[e] <;> decide
   ·unfold Fm.kids
    rw[Fm.row_else t.kind (by omega)]
    decide
  have h0:=hkids 0 hl1 R hV
  have hs0:=Tree.sumTo_le (f:=fun i=>(t.kid i).size) (show 1≤t.len from hl1)
  have hs0':(t.kid 0).size≤Tree.sumTo (fun i=>(t.kid i).size) t.len:=by
   have e:Tree.sumTo (fun i=>(t.kid i).size) 1=0+(t.kid 0).size:=rfl
   omega
  obtain⟨e0,he0⟩:∃ e,(t.kid 0).lowE E V R=e:=⟨_,rfl⟩
  rw[he0] at h0
  have g0:=h0.reg
  have glo:=h0.lo
  have ghi:=h0.hi
  unfold lowB
  rw[if_neg k1,if_neg k2]
  dsimp only
  rw[if_pos hl1,he0]
  by_cases k3:t.kind=3
  ·rw[if_pos k3]
   rw[k3] at f0
   obtain⟨i1,i2⟩:=item_ok hE f0
   refine⟨(h0.code.mono (by show e0.regs≤e0.regs+1;omega)).app (COk.cons (ok_bound (by show 0≤e0.r∧e0.r<((e0.regs+1:Nat):Int);omega) i2) (COk.one (ok_load hE i1 ?_ ?_))),by show R≤e0.regs+1;omega,by show e0.regs+1≤_;omega,?_⟩
   ·show 0≤((e0.regs:Nat):Int)∧((e0.regs:Nat):Int)<((e0.regs+1:Nat):Int);omega
   ·show 0≤e0.r∧e0.r<((e0.regs+1:Nat):Int);omega
   ·show 0≤((e0.regs:Nat):Int)∧((e0.regs:Nat):Int)<((e0.regs+1:Nat):Int);omega
  rw[if_neg k3]
  by_cases k4:t.kind=4
  ·rw[if_pos k4]
   refine⟨(h0.code.mono (by show e0.regs≤e0.regs+2;omega)).app (COk.cons (ok_const ?_ (by omega)) (COk.one (ok_bin ?_ ?_ ?_ (by omega)))),by show R≤e0.regs+2;omega,by show e0.regs+2≤_;omega,?_⟩
   ·show 0≤((e0.regs:Nat):Int)∧((e0.regs:Nat):Int)<((e0.regs+2:Nat):Int);omega
   ·show 0≤((e0.regs+1:Nat):Int)∧((e0.regs+1:Nat):Int)<((e0.regs+2:Nat):Int);omega
   ·show 0≤((e0.regs:Nat):Int)∧((e0.regs:Nat):Int)<((e0.regs+2:Nat):Int);omega
   ·show 0≤e0.r∧e0.r<((e0.regs+2:Nat):Int);omega
   ·show 0≤((e0.regs+1:Nat):Int)∧((e0.regs+1:Nat):Int)<((e0.regs+2:Nat):Int);omega
  rw[if_neg k4]
  by_cases k5:t.kind=5
  ·rw[if_pos k5]
   refine⟨(h0.code.mono (by show e0.regs≤e0.regs+2;omega)).app (COk.cons (ok_const ?_ (by omega)) (COk.one (ok_bin ?_ ?_ ?_ (by omega)))),by show R≤e0.regs+2;omega,by show e0.regs+2≤_;omega,?_⟩
   ·show 0≤((e0.regs:Nat):Int)∧((e0.regs:Nat):Int)<((e0.regs+2:Nat):Int);omega
   ·show 0≤((e0.regs+1:Nat):Int)∧((e0.regs+1:Nat):Int)<((e0.regs+2:Nat):Int);omega
   ·show 0≤e0.r∧e0.r<((e0.regs+2:Nat):Int);omega
   ·show 0≤((e0.regs:Nat):Int)∧((e0.regs:Nat):Int)<((e0.regs+2:Nat):Int);omega
   ·show 0≤((e0.regs+1:Nat):Int)∧((e0.regs+1:Nat):Int)<((e0.regs+2:Nat):Int);omega
  rw[if_neg k5]
  have hl2:t.len=2:=by
   rw[hlen]
   unfold Fm.kids
   rw[Fm.row_else t.kind (by omega)]
   rfl
  have hl1':1<t.len:=by omega
  have h1:=hkids 1 hl1' e0.regs (hV.mono glo)
  have hs1:(t.kid 0).size+(t.kid 1).size≤Tree.sumTo (fun i=>(t.kid i).size) t.len:=by
   have e:Tree.sumTo (fun i=>(t.kid i).size) 2=0+(t.kid 0).size+(t.kid 1).size:=rfl
   rw[hl2,e]
   omega
  obtain⟨e1,he1⟩:∃ e,(t.kid 1).lowE E V e0.regs=e:=⟨_,rfl⟩
  rw[he1] at h1
  rw[if_pos hl1',he1]
  have p0:=h1.reg
  have plo:=h1.lo
  have phi:=h1.hi
  refine⟨((h0.code.mono (by show e0.regs≤e1.regs+1;omega)).app (h1.code.mono (by show e1.regs≤e1.regs+1;omega))).app (COk.one (ok_bin ?_ ?_ ?_ (by omega))),by show R≤e1.regs+1;omega,by show e1.regs+1≤_;omega,?_⟩
  ·show 0≤((e1.regs:Nat):Int)∧((e1.regs:Nat):Int)<((e1.regs+1:Nat):Int);omega
  ·show 0≤e0.r∧e0.r<((e1.regs+1:Nat):Int);omega
  ·show 0≤e1.r∧e1.r<((e1.regs+1:Nat):Int);omega
  ·show 0≤((e1.regs:Nat):Int)∧((e1.regs:Nat):Int)<((e1.regs+1:Nat):Int);omega
end
