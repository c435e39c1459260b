/- Part. -/
import Derived.Test.YtkpdngfkdmllkaaGreatDoorMg29
namespace Go.Proofs.YtkpdngfkdmllkaaGreatDoor
set_option linter.unusedVariables false
set_option linter.unusedSimpArgs false
open Go.RowKit
set_option maxRecDepth 100000
def catTo{α:Type}(f:Nat→List α):Nat→List α
 | 0=>[]
 | n+1=>catTo f n++f n
def Tree.locks:Tree→List ByteArray
 | .node k n s l kid=>(if k=46 then [s] else [])++catTo (fun i=>if h:i<l then locks (kid ⟨i,h⟩) else []) l
section
variable (f:Ins→Bool)
def LS.cnt(s:LS):Nat:=(s.done.map (fun b=>b.code.countP f)).sum+s.code.countP f
def Calm46(i:Ins):Prop:=i.op≠11∧i.op≠12
end
section
variable {f:Ins→Bool} {P:ByteArray→Bool}
structure CntF(f:Ins→Bool)(P:ByteArray→Bool):Prop where
 calm:∀ i,Calm46 i→f i=false
 pair:∀ nm,[insB 11 0 0 0 0 nm,insB 12 0 0 0 0 nm].countP f = [nm].countP P
theorem CntF.zero(h:CntF f P){l:List Ins}(hl:∀ i∈l,Calm46 i):l.countP f=0:=by
 rw[List.countP_eq_zero]
 intro i hi
 rw[h.calm i (hl i hi)]
 decide
theorem CntF.one(h:CntF f P){i:Ins}(hl:Calm46 i):[i].countP f=0:=h.zero (fun x hx=>by obtain rfl:=List.mem_singleton.1 hx;exact hl)
end
def Fn.cnt(F:Fn)(f:Ins→Bool):Nat:=(F.blocks.map (fun b=>b.code.countP f)).sum
def TgtB(n:Nat)(x:Blk):Prop:=(x.kind=1∨x.kind=2)∧(0≤x.to∧x.to≤(n:Nat))∧(0≤x.els∧x.els≤(n:Nat))
theorem TgtB.mono{n m:Nat}{x:Blk}(h:TgtB n x)(hn:n≤m):TgtB m x:=⟨h.1,⟨h.2.1.1,by have:=h.2.1.2;omega⟩,⟨h.2.2.1,by have:=h.2.2.2;omega⟩⟩
theorem concatV_nil{β:Type}{f:Nat→List β}{n:Nat}(h:concatTo f n = []):∀ i,i<n→f i = []:=by
 induction n with
 | zero=>intro i hi;omega
 | succ n ih =>
  rw[concatTo_succ,List.append_eq_nil_iff] at h
  intro i hi
  by_cases e:i=n
  ·rw[e];exact h.2
  ·exact ih h.1 i (by omega)
theorem faultsV{d:Nms}{t:Tree}{path:List Int}{place:Bool}{loops locks:List ByteArray}(h:faultsT d t path place loops locks = []):faultN d t.kind t.name place loops locks=0∧∀ i,i<t.len→faultsT d (t.kid i) (path++[(i:Int)]) (placeIn t i) (loopsIn t loops) (locksIn t locks) = []:=by
 rw[faultsT_eq,List.append_eq_nil_iff] at h
 refine⟨?_,fun i hi=>concatV_nil h.2 i hi⟩
 have h1:=h.1
 unfold ownF at h1
 split at h1
 ·assumption
 ·cases h1
def VOk(D:Nms)(loops:List ByteArray)(V:VM)(R:Nat):Prop:=∀ s,(memB D.scalars s || memB loops s)=true→∃ r,V s=some r∧r<R
theorem VOk.mono{D:Nms}{loops:List ByteArray}{V:VM}{R R':Nat}(h:VOk D loops V R)(hR:R≤R'):VOk D loops V R':=fun s hs=>by obtain⟨r,h1,h2⟩:=h s hs;exact⟨r,h1,by omega⟩
theorem VOk.reg{D:Nms}{loops:List ByteArray}{V:VM}{R:Nat}(h:VOk D loops V R){s:ByteArray}(hs:(memB D.scalars s || memB loops s)=true):0≤V.reg s∧V.reg s<(R:Nat):=by
 obtain⟨r,h1,h2⟩:=h s hs
 unfold VM.reg
 rw[h1]
 show 0≤((r:Nat):Int)∧((r:Nat):Int)<_
 omega
theorem inReg_ok{n:Int}{R:Nat}:inReg n (R:Nat)=true↔0≤n∧n<(R:Nat):=by unfold inReg;simp
theorem inReg_mono{n:Int}{R R':Nat}(hR:R≤R')(h:inReg n (R:Nat)=true):inReg n (R':Nat)=true:=by
 rw[inReg_ok] at h⊢
 omega
theorem insOk_mono{R R':Nat}{ns:List (ByteArray×Bool)}{i:Ins}(hR:R≤R')(h:insOk (R:Nat) ns i=true):insOk (R':Nat) ns i=true:=by
 have m:∀ n,inReg n (R:Nat)=true→inReg n (R':Nat)=true:=fun n=>inReg_mono hR
 unfold insOk at h⊢
 cases h1:(i.op == 1)
 case true=>simp only[h1,cond_true,Bool.and_eq_true] at h ⊢;simp only[h,m _ h.1.1.1.1,and_self]
 cases h2:(i.op == 2)
 case true=>simp only[h1,h2,cond_true,cond_false,Bool.and_eq_true] at h ⊢;simp only[h,m _ h.1.1.1.1,m _ h.1.1.1.2,and_self]
 cases h3:(i.op == 3)
 case true=>simp only[h1,h2,h3,cond_true,cond_false,Bool.and_eq_true] at h ⊢;simp only[h,m _ h.1.1.1.1,m _ h.1.1.1.2,m _ h.1.1.2,and_self]
 cases h4:(i.op == 4 || i.op == 6)
 case true=>simp only[h1,h2,h3,h4,cond_true,cond_false,Bool.and_eq_true] at h ⊢;exact⟨⟨⟨⟨m _ h.1.1.1.1,m _ h.1.1.1.2⟩,h.1.1.2⟩,h.1.2⟩,h.2⟩
 cases h5:(i.op == 5 || i.op == 7)
 case true=>simp only[h1,h2,h3,h4,h5,cond_true,cond_false,Bool.and_eq_true] at h ⊢;exact⟨⟨⟨⟨m _ h.1.1.1.1,m _ h.1.1.1.2⟩,h.1.1.2⟩,h.1.2⟩,h.2⟩
 cases h6:(i.op == 8)
 case true=>simp only[h1,h2,h3,h4,h5,h6,cond_true,cond_false,Bool.and_eq_true] at h ⊢;exact⟨⟨⟨⟨m _ h.1.1.1.1,h.1.1.1.2⟩,h.1.1.2⟩,h.1.2⟩,h.2⟩
 cases h7:(i.op == 9)
 case true=>simp only[h1,h2,h3,h4,h5,h6,h7,cond_true,cond_false,Bool.and_eq_true] at h ⊢;exact⟨⟨⟨⟨m _ h.1.1.1.1,h.1.1.1.2⟩,h.1.1.2⟩,h.1.2⟩,h.2⟩
 cases h8:(i.op == 10)
 case true=>simp only[h1,h2,h3,h4,h5,h6,h7,h8,cond_true,cond_false,Bool.and_eq_true] at h ⊢;exact⟨⟨⟨⟨m _ h.1.1.1.1,h.1.1.1.2⟩,h.1.1.2⟩,h.1.2⟩,h.2⟩
 cases h9:(i.op == 11 || i.op == 12)
 case true=>simp only[h1,h2,h3,h4,h5,h6,h7,h8,h9,cond_true,cond_false] at h ⊢;exact h
 cases h10:(i.op == 13 || i.op == 14)
 case true=>simp only[h1,h2,h3,h4,h5,h6,h7,h8,h9,h10,cond_true,cond_false] at h ⊢;exact h
 cases h11:(i.op == 15)
 case true=>simp only[h1,h2,h3,h4,h5,h6,h7,h8,h9,h10,h11,cond_true,cond_false,Bool.and_eq_true] at h ⊢;exact⟨⟨⟨⟨m _ h.1.1.1.1,h.1.1.1.2⟩,h.1.1.2⟩,h.1.2⟩,h.2⟩
 simp only[h1,h2,h3,h4,h5,h6,h7,h8,h9,h10,h11,cond_false] at h⊢
 exact h
section
variable (ns:List (ByteArray×Bool))
def IOk(R:Nat)(i:Ins):Prop:=insOk (R:Nat) ns i=true
def COk(R:Nat)(l:List Ins):Prop:=∀ i∈l,IOk ns R i
end
section
variable {ns:List (ByteArray×Bool)} {R R':Nat}
theorem COk.mono{l:List Ins}(h:COk ns R l)(hR:R≤R'):COk ns R' l:=fun i hi=>insOk_mono hR (h i hi)
theorem COk.nil:COk ns R []:=fun i hi=>by cases hi
theorem COk.cons{a:Ins}{b:List Ins}(h:IOk ns R a)(h':COk ns R b):COk ns R (a::b):=fun i hi=>by
 rcases List.mem_cons.1 hi with rfl|hi
 ·exact h
 ·exact h' i hi
theorem COk.one{a:Ins}(h:IOk ns R a):COk ns R [a]:=COk.cons h COk.nil
end
section
variable {E:LEnv} {ns:List (ByteArray×Bool)} {D:Nms} {R:Nat}
theorem var_ok{s:ByteArray}{place:Bool}{loops locks:List ByteArray}(h:faultN D 2 s place loops locks=0):(memB D.scalars s || memB loops s)=true:=by
 unfold faultN at h
 rw[if_pos rfl] at h
 split at h
 ·exact absurd h (by decide)
 ·split at h
  ·assumption
  ·split at h <;> exact absurd h (by decide)
end
