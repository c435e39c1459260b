/- Part. -/
import Derived.Test.YtkpdngfkdmllkaaGreatDoorMg41
import Derived.Test.YtkpdngfkdmllkaaGreatDoorMg39
namespace Go.Proofs.YtkpdngfkdmllkaaGreatDoor
set_option linter.unusedVariables false
set_option linter.unusedSimpArgs false
open Go.RowKit
set_option maxRecDepth 100000
def BrOk(R:Nat)(b:Blk):Prop:=(b.kind=1→b.x=0∧b.els=0)∧(b.kind=2→0≤b.x∧b.x<(R:Nat))
theorem BrOk.mono{R R':Nat}{b:Blk}(h:BrOk R b)(hR:R≤R'):BrOk R' b:=⟨h.1,fun h2=>by have:=h.2 h2;omega⟩
theorem BrOk.jmp{R a:Nat}{c:List Ins}:BrOk R (jmpB c a):=⟨fun _=>⟨rfl,rfl⟩,fun h=>absurd (show (1:Int)=2 from h) (by decide)⟩
structure SOkL(ns:List (ByteArray×Bool))(D:Nms)(loops:List ByteArray)(R sz:Nat)(s:LS):Prop where
 blocks:∀ b∈s.done,COk ns s.regs b.code∧BrOk s.regs b
 code:COk ns s.regs s.code
 lo:R≤s.regs
 hi:s.regs≤R+3*sz
 vars:VOk D loops s.vars s.regs
section
variable {E:LEnv} {ns:List (ByteArray×Bool)} {D:Nms}
theorem loopL_ok{loops:List ByteArray}{lim:Int}{dd:Nat}{h:LE}{enter:VM→VM}{b:LF}{k:Nat}{c:List Ins}{V:VM}{R szb:Nat}(hl:1≤lim∧lim≤131071)(hd:dd≤3)(hc:COk ns R c)(hR:R≤h.regs)(hh:COk ns h.regs h.code)(hr:0≤h.r∧h.r<(h.regs:Nat))
 (hb:∀ c,COk ns h.regs c→SOkL ns D loops h.regs szb (b (k+2) c h.regs (enter V))):SOkL ns D loops h.regs szb (loopL lim dd h enter b k c V):=by
 have h1:=hb [insB 16 0 dd 0 lim noB] (COk.one (ok_limit hd hl))
 unfold loopL
 dsimp only
 obtain⟨s,hs⟩:∃ s,b (k+2) [insB 16 0 dd 0 lim noB] h.regs (enter V)=s:=⟨_,rfl⟩
 rw[hs] at h1⊢
 refine⟨?_,COk.nil,h1.lo,h1.hi,h1.vars⟩
 intro x hx
 have hx:x∈[jmpB (c++[insB 13 0 0 0 dd noB]) (k+1),(⟨h.code,2,h.r,(k+2:Nat),(k+2+s.done.length+1:Nat)⟩:Blk)]++s.done++[jmpB (s.code++[insB 14 0 0 0 dd noB]) (k+1)]:=hx
 show COk ns s.regs x.code∧BrOk s.regs x
 have hlo:=h1.lo
 simp only[List.mem_append,List.mem_cons,List.not_mem_nil,or_false] at hx
 rcases hx with ((rfl|rfl)|hx)|rfl
 ·exact⟨(hc.mono (by omega)).app (COk.one (ok_count (.inl rfl) hd)),BrOk.jmp⟩
 ·exact⟨hh.mono hlo,fun h0=>absurd (show (2:Int)=1 from h0) (by decide),fun _=>by show 0≤h.r∧h.r<_;omega⟩
 ·exact h1.blocks x hx
 ·exact⟨h1.code.app (COk.one (ok_count (.inr rfl) hd)),BrOk.jmp⟩
theorem forH_ok{n:Int}{d R:Nat}(hd:d≤3)(hn:1≤n∧n≤1000):COk ns (R+3) (forH n d R).code:=by
 unfold forH
 refine COk.cons (ok_read ?_ hd) (COk.cons (ok_const ?_ (by omega)) (COk.one (ok_bin ?_ ?_ ?_ (by omega))))
 ·show 0≤((R:Nat):Int)∧((R:Nat):Int)<((R+3:Nat):Int);omega
 ·show 0≤((R+1:Nat):Int)∧((R+1:Nat):Int)<((R+3:Nat):Int);omega
 ·show 0≤((R+2:Nat):Int)∧((R+2:Nat):Int)<((R+3:Nat):Int);omega
 ·show 0≤((R:Nat):Int)∧((R:Nat):Int)<((R+3:Nat):Int);omega
 ·show 0≤((R+1:Nat):Int)∧((R+1:Nat):Int)<((R+3:Nat):Int);omega
theorem low_ok(hE:EnvOk E ns D):∀ (t:Tree),(t.vld 98=true∨t.vld 115=true)→∀ (path:List Int) (place:Bool) (loops locks:List ByteArray),faultsT D t path place loops locks = []→∀ (d:Nat),d+t.nest≤4→∀ (k:Nat) (c:List Ins) (R:Nat) (V:VM),COk ns R c→VOk D loops V R→SOkL ns D loops R t.size (t.low E d k c R V):=by
 intro t
 induction t using Tree.ind with
 | h t ih =>
  intro hv path place loops locks hf d hd k c R V hc hV
  rw[Tree.low_eq]
  obtain⟨f0,f1⟩:=faultsV hf
  have hsz:=t.size_eq
  have hne:=t.nest_eq
  have hnk:∀ i,i<t.len→(t.kid i).nest≤Tree.maxTo (fun i=>(t.kid i).nest) t.len:=fun i hi=>Tree.le_maxTo (f:=fun i=>(t.kid i).nest) hi
  rcases hv with hv|hv
  ·obtain⟨hk,hkid⟩:=vldB hv
   rw[if_pos hk]
   have hlo:loopsIn t loops=loops:=by unfold loopsIn;rw[if_neg (by omega)]
   rw[if_neg (by omega),Nat.add_zero] at hne
   have key:∀ n,n≤t.len→SOkL ns D loops R (Tree.sumTo (fun i=>(t.kid i).size) n) (seqL (fun i=>kidL E t i d) k c R V n):=by
    intro n
    induction n with
    | zero=>intro _;exact⟨fun b hb=>(by cases hb),hc,Nat.le_refl _,by show R≤_;omega,hV⟩
    | succ n ihn =>
     intro hn
     have h1:=ihn (by omega)
     show SOkL ns D loops R _ ((seqL (fun i=>kidL E t i d) k c R V n).next k (kidL E t n d))
     obtain⟨q,hq⟩:∃ q,seqL (fun i=>kidL E t i d) k c R V n=q:=⟨_,rfl⟩
     rw[hq] at h1⊢
     have g1:=f1 n (by omega)
     rw[hlo] at g1
     have h2:=ih n (by omega) (.inr (hkid n (by omega))) _ _ _ _ g1 d (by have:=hnk n (by omega);omega) (k+q.done.length) q.code q.regs q.vars h1.code h1.vars
     have h3:kidL E t n d=(t.kid n).low E d:=by unfold kidL;rw[if_pos (show n<t.len by omega)]
     rw[h3]
     obtain⟨s,hs⟩:∃ s,(t.kid n).low E d (k+q.done.length) q.code q.regs q.vars=s:=⟨_,rfl⟩
     unfold LS.next
     rw[hs] at h2⊢
     have l1:=h1.lo
     have l2:=h2.lo
     have l3:=h1.hi
     have l4:=h2.hi
     refine⟨fun b hb=>?_,h2.code,by show R≤s.regs;omega,by show s.regs≤_;rw[Tree.sumTo_succ];omega,h2.vars⟩
     have hb:b∈q.done++s.done:=hb
     show COk ns s.regs b.code∧BrOk s.regs b
     rcases List.mem_append.1 hb with hb|hb
     ·obtain⟨a1,a2⟩:=h1.blocks b hb
      exact⟨a1.mono l2,a2.mono l2⟩
     ·exact h2.blocks b hb
   have h9:=key t.len (Nat.le_refl _)
   exact⟨h9.blocks,h9.code,h9.lo,by have:=h9.hi;omega,h9.vars⟩
  ·obtain⟨⟨hk1,hk2⟩,⟨hn1,hn2⟩,hlen,hkid⟩:=vldS hv
   rw[if_neg (by omega)]
   have hb:∀ i,i<t.len→(t.kid i).vld 98=true→∀ d,d+(t.kid i).nest≤4→∀ k c R V,COk ns R c→VOk D (loopsIn t loops) V R→SOkL ns D (loopsIn t loops) R (t.kid i).size (kidL E t i d k c R V):=fun i hi hvi d hd k c R V hc hV=>by
    have h3:kidL E t i d=(t.kid i).low E d:=by unfold kidL;rw[if_pos hi]
    rw[h3]
    exact ih i hi (.inl hvi) _ _ _ _ (f1 i hi) d hd k c R V hc hV
   have he:∀ j,j<t.len→(t.kid j).vld 101=true→∀ R V,VOk D (loopsIn t loops) V R→EOk ns R (t.kid j).size (kidLE E t j V R):=fun j hj hvj R V hV=>by
    unfold kidLE
    rw[if_pos hj]
    exact lowE_ok hE (t.kid j) hvj _ _ _ _ (f1 j hj) R V hV
   obtain hk|hk|hk|hk|hk|hk|hk:t.kind=40∨t.kind=41∨t.kind=42∨t.kind=43∨t.kind=44∨t.kind=45∨t.kind=46:=by omega
   all_goals rw[hk] at hlen hkid hn1 hn2
   ·have hlen:t.len=2:=hlen
    have hlo:loopsIn t loops=loops:=by unfold loopsIn;rw[if_neg (by omega)]
    rw[hlo] at he f1
    have g0:=f1 0 (by omega)
    obtain⟨p0,p1⟩:=faultsV g0
    have hs2:Tree.sumTo (fun i=>(t.kid i).size) t.len=0+(t.kid 0).size+(t.kid 1).size:=by rw[hlen];rfl
    unfold lowS
    rw[if_pos hk]
    by_cases h2:(t.kid 0).kind=2
    ·rw[if_pos h2]
     rw[h2] at p0
     have e1:=he 1 (by omega) (hkid 1 (by omega)) R V hV
     have l1:=e1.lo
     have l2:=e1.hi
     have v1:=(hV.mono l1).reg (var_ok p0)
     exact⟨fun b hb=>(by cases hb),((hc.mono l1).app e1.code).app (COk.one (ok_move v1 e1.reg)),l1,by show (kidLE E t 1 V R).regs≤_;omega,hV.mono l1⟩
    ·rw[if_neg h2]
     dsimp only
     rcases vldP (hkid 0 (by omega)) with h3|⟨h3,h4,h5⟩
     ·exact absurd h3 h2
     have hpl:loopsIn (t.kid 0) loops=loops:=by unfold loopsIn;rw[if_neg (by omega)]
     have p2:=p1 0 (by omega)
     rw[hpl] at p2
     rw[h3] at p0
     obtain⟨i1,i2⟩:=item_ok hE p0
     have e0:=lowE_ok hE ((t.kid 0).kid 0) h5 _ _ _ _ p2 R V hV
     have hsp:=(t.kid 0).size_eq
     have hsq:Tree.sumTo (fun i=>((t.kid 0).kid i).size) (t.kid 0).len=0+((t.kid 0).kid 0).size:=by rw[h4];rfl
     obtain⟨q0,hq0⟩:∃ q,((t.kid 0).kid 0).lowE E V R=q:=⟨_,rfl⟩
     rw[hq0] at e0⊢
     have l1:=e0.lo
     have l2:=e0.hi
     have e1:=he 1 (by omega) (hkid 1 (by omega)) q0.regs V (hV.mono l1)
     obtain⟨q1,hq1⟩:∃ q,kidLE E t 1 V q0.regs=q:=⟨_,rfl⟩
     rw[hq1] at e1⊢
     have l3:=e1.lo
     have l4:=e1.hi
     have r0:=e0.reg
     have r1:=e1.reg
     refine⟨fun b hb=>(by cases hb),(((hc.mono (by show R≤q1.regs;omega)).app (e0.code.mono l3)).app e1.code).app (COk.cons (ok_bound (by show 0≤q0.r∧q0.r<(q1.regs:Int);omega) i2) (COk.one (ok_sto i1 (by show 0≤q0.r∧q0.r<(q1.regs:Int);omega) r1))),by show R≤q1.regs;omega,by show q1.regs≤_;omega,hV.mono (by show R≤q1.regs;omega)⟩
   ·have hlen:t.len=3:=hlen
    have hlo:loopsIn t loops=loops:=by unfold loopsIn;rw[if_neg (by omega)]
    rw[hlo] at he hb
    rw[if_neg (by omega),Nat.add_zero] at hne
    have hs3:Tree.sumTo (fun i=>(t.kid i).size) t.len=0+(t.kid 0).size+(t.kid 1).size+(t.kid 2).size:=by rw[hlen];rfl
    unfold lowS
    rw[if_neg (by omega),if_pos hk]
    unfold ifL
    dsimp only
    have e0:=he 0 (by omega) (hkid 0 (by omega)) R V hV
    obtain⟨e,hee⟩:∃ e,kidLE E t 0 V R=e:=⟨_,rfl⟩
    rw[hee] at e0⊢
    have l1:=e0.lo
    have l2:=e0.hi
    have b1:=hb 1 (by omega) (hkid 1 (by omega)) d (by have:=hnk 1 (by omega);omega) (k+1) [] e.regs V COk.nil (hV.mono l1)
    obtain⟨s1,hs1⟩:∃ s1,kidL E t 1 d (k+1) [] e.regs V=s1:=⟨_,rfl⟩
    rw[hs1] at b1⊢
    have b2:=hb 2 (by omega) (hkid 2 (by omega)) d (by have:=hnk 2 (by omega);omega) (k+1+s1.done.length+1) [] s1.regs s1.vars COk.nil b1.vars
    obtain⟨s2,hs2⟩:∃ s2,kidL E t 2 d (k+1+s1.done.length+1) [] s1.regs s1.vars=s2:=⟨_,rfl⟩
    rw[hs2] at b2⊢
    have l3:=b1.lo
    have l4:=b1.hi
    have l5:=b2.lo
    have l6:=b2.hi
    have r0:=e0.reg
    refine⟨fun x hx=>?_,COk.nil,by show R≤s2.regs;omega,by show s2.regs≤_;omega,b2.vars⟩
    show COk ns s2.regs x.code∧BrOk s2.regs x
    simp only[List.mem_append,List.mem_cons,List.not_mem_nil,or_false] at hx
    rcases hx with ((rfl|hx)|(rfl|hx))|rfl
    ·exact⟨(hc.mono (by omega)).app (e0.code.mono (by omega)),fun h0=>absurd (show (2:Int)=1 from h0) (by decide),fun _=>by show 0≤e.r∧e.r<_;omega⟩
    ·obtain⟨a1,a2⟩:=b1.blocks x hx
     exact⟨a1.mono l5,a2.mono l5⟩
    ·exact⟨b1.code.mono l5,BrOk.jmp⟩
    ·exact b2.blocks x hx
    ·exact⟨b2.code,BrOk.jmp⟩
   ·have hlen:t.len=1:=hlen
    have hlo:loopsIn t loops=loops++[t.name]:=by unfold loopsIn;rw[if_pos hk]
    rw[hlo] at hb
    rw[if_pos (.inl hk)] at hne
    have hs1:Tree.sumTo (fun i=>(t.kid i).size) t.len=0+(t.kid 0).size:=by rw[hlen];rfl
    have hn1:1≤t.num:=hn1
    have hn2:t.num≤1000:=hn2
    have hnew:¬ (memB D.scalars t.name || memB loops t.name)=true:=by
     intro hx
     rw[hk] at f0
     unfold faultN at f0
     rw[if_neg (by decide),if_neg (by decide),if_pos rfl,hx,Bool.true_or,if_pos rfl] at f0
     exact absurd f0 (by decide)
    unfold lowS
    rw[if_neg (by omega),if_neg (by omega),if_pos hk]
    dsimp only
    have hV':VOk D (loops++[t.name]) (upd V t.name (some R)) (R+3):=by
     intro s hs
     by_cases e:s=t.name
     ·subst e;exact⟨R,upd_same _ _ _,by omega⟩
     ·rw[upd_other _ _ e]
      obtain⟨r,h1,h2⟩:=hV s (by
       rw[memB_append] at hs
       have e2:memB [t.name] s=false:=by unfold memB;simp[Ne.symm e]
       rwa [e2,Bool.or_false] at hs)
      exact⟨r,h1,by omega⟩
    have hq:=loopL_ok (ns:=ns) (D:=D) (loops:=loops++[t.name]) (lim:=t.num) (dd:=d) (h:=forH t.num d R) (enter:=fun V=>upd V t.name (some R)) (b:=kidL E t 0 (d+1)) (k:=k) (c:=c) (V:=V) (R:=R) (szb:=(t.kid 0).size) (by omega) (by have:=hnk 0 (by omega);omega) hc (by show R≤R+3;omega) (forH_ok (by have:=hnk 0 (by omega);omega) ⟨hn1,hn2⟩) (by show 0≤((R+2:Nat):Int)∧((R+2:Nat):Int)<((R+3:Nat):Int);omega)
     (fun c hc=>hb 0 (by omega) (hkid 0 (by omega)) (d+1) (by have:=hnk 0 (by omega);omega) (k+2) c (R+3) _ hc hV')
    obtain⟨s,hs⟩:∃ s,loopL t.num d (forH t.num d R) (fun V=>upd V t.name (some R)) (kidL E t 0 (d+1)) k c V=s:=⟨_,rfl⟩
    rw[hs] at hq⊢
    have l1:R+3≤s.regs:=hq.lo
    have l2:s.regs≤R+3+3*(t.kid 0).size:=hq.hi
    refine⟨hq.blocks,hq.code,by show R≤s.regs;omega,by show s.regs≤_;omega,fun x hx=>?_⟩
    have hne':x≠t.name:=by rintro rfl;exact hnew hx
    show ∃ r,upd s.vars t.name none x=some r∧r<s.regs
    rw[upd_other _ _ hne']
    exact hq.vars x (by
     rw[memB_append,←Bool.or_assoc,hx,Bool.true_or])
   ·have hlen:t.len=2:=hlen
    have hlo:loopsIn t loops=loops:=by unfold loopsIn;rw[if_neg (by omega)]
    rw[hlo] at he hb
    rw[if_pos (.inr hk)] at hne
    have hs2:Tree.sumTo (fun i=>(t.kid i).size) t.len=0+(t.kid 0).size+(t.kid 1).size:=by rw[hlen];rfl
    have hn1:1≤t.num:=hn1
    have hn2:t.num≤1000:=hn2
    unfold lowS
    rw[if_neg (by omega),if_neg (by omega),if_neg (by omega),if_pos hk]
    have e0:=he 0 (by omega) (hkid 0 (by omega)) R V hV
    obtain⟨e,hee⟩:∃ e,kidLE E t 0 V R=e:=⟨_,rfl⟩
    rw[hee] at e0⊢
    have l1:=e0.lo
    have l2:=e0.hi
    have hq:=loopL_ok (ns:=ns) (D:=D) (loops:=loops) (lim:=t.num) (dd:=d) (h:=e) (enter:=fun V=>V) (b:=kidL E t 1 (d+1)) (k:=k) (c:=c) (V:=V) (R:=R) (szb:=(t.kid 1).size) (by omega) (by have:=hnk 1 (by omega);omega) hc l1 e0.code e0.reg
     (fun c hc=>hb 1 (by omega) (hkid 1 (by omega)) (d+1) (by have:=hnk 1 (by omega);omega) (k+2) c e.regs V hc (hV.mono l1))
    have l3:=hq.lo
    have l4:=hq.hi
    exact⟨hq.blocks,hq.code,by omega,by omega,hq.vars⟩
   ·have hlen:t.len=1:=hlen
    have hlo:loopsIn t loops=loops:=by unfold loopsIn;rw[if_neg (by omega)]
    rw[hlo] at f1
    have g0:=f1 0 (by omega)
    obtain⟨p0,p1⟩:=faultsV g0
    have hs1:Tree.sumTo (fun i=>(t.kid i).size) t.len=0+(t.kid 0).size:=by rw[hlen];rfl
    have hn1:0≤t.num:=hn1
    have hn2:t.num≤7:=hn2
    unfold lowS
    rw[if_neg (by omega),if_neg (by omega),if_neg (by omega),if_neg (by omega),if_pos hk]
    by_cases h2:(t.kid 0).kind=2
    ·rw[if_pos h2]
     rw[h2] at p0
     have v1:=hV.reg (var_ok p0)
     exact⟨fun b hb=>(by cases hb),hc.app (COk.one (ok_in v1 ⟨hn1,hn2⟩)),Nat.le_refl _,by show R≤_;omega,hV⟩
    ·rw[if_neg h2]
     dsimp only
     rcases vldP (hkid 0 (by omega)) with h3|⟨h3,h4,h5⟩
     ·exact absurd h3 h2
     have hpl:loopsIn (t.kid 0) loops=loops:=by unfold loopsIn;rw[if_neg (by omega)]
     have p2:=p1 0 (by omega)
     rw[hpl] at p2
     rw[h3] at p0
     obtain⟨i1,i2⟩:=item_ok hE p0
     have e0:=lowE_ok hE ((t.kid 0).kid 0) h5 _ _ _ _ p2 R V hV
     have hsp:=(t.kid 0).size_eq
     have hsq:Tree.sumTo (fun i=>((t.kid 0).kid i).size) (t.kid 0).len=0+((t.kid 0).kid 0).size:=by rw[h4];rfl
     obtain⟨q0,hq0⟩:∃ q,((t.kid 0).kid 0).lowE E V R=q:=⟨_,rfl⟩
     rw[hq0] at e0⊢
     have l1:=e0.lo
     have l2:=e0.hi
     have r0:=e0.reg
     refine⟨fun b hb=>(by cases hb),((hc.mono (by show R≤q0.regs+1;omega)).app (e0.code.mono (by show q0.regs≤q0.regs+1;omega))).app (COk.cons (ok_bound ?_ i2) (COk.cons (ok_in ?_ ⟨hn1,hn2⟩) (COk.one (ok_sto i1 ?_ ?_)))),by show R≤q0.regs+1;omega,by show q0.regs+1≤_;omega,hV.mono (by show R≤q0.regs+1;omega)⟩
     ·show 0≤q0.r∧q0.r<((q0.regs+1:Nat):Int);omega
     ·show 0≤((q0.regs:Nat):Int)∧((q0.regs:Nat):Int)<((q0.regs+1:Nat):Int);omega
     ·show 0≤q0.r∧q0.r<((q0.regs+1:Nat):Int);omega
     ·show 0≤((q0.regs:Nat):Int)∧((q0.regs:Nat):Int)<((q0.regs+1:Nat):Int);omega
   ·have hlen:t.len=1:=hlen
    have hlo:loopsIn t loops=loops:=by unfold loopsIn;rw[if_neg (by omega)]
    rw[hlo] at he
    have hs1:Tree.sumTo (fun i=>(t.kid i).size) t.len=0+(t.kid 0).size:=by rw[hlen];rfl
    have hn1:0≤t.num:=hn1
    have hn2:t.num≤7:=hn2
    unfold lowS
    rw[if_neg (by omega),if_neg (by omega),if_neg (by omega),if_neg (by omega),if_neg (by omega),if_pos hk]
    have e0:=he 0 (by omega) (hkid 0 (by omega)) R V hV
    obtain⟨e,hee⟩:∃ e,kidLE E t 0 V R=e:=⟨_,rfl⟩
    rw[hee] at e0⊢
    have l1:=e0.lo
    have l2:=e0.hi
    exact⟨fun b hb=>(by cases hb),((hc.mono l1).app e0.code).app (COk.one (ok_out e0.reg ⟨hn1,hn2⟩)),l1,by show e.regs≤_;omega,hV.mono l1⟩
   ·have hlen:t.len=1:=hlen
    have hlo:loopsIn t loops=loops:=by unfold loopsIn;rw[if_neg (by omega)]
    rw[hlo] at hb
    rw[if_neg (by omega),Nat.add_zero] at hne
    have hs1:Tree.sumTo (fun i=>(t.kid i).size) t.len=0+(t.kid 0).size:=by rw[hlen];rfl
    have hsym:lookB ns t.name=some false:=by
     rw[hk] at f0
     unfold faultN at f0
     rw[if_neg (by decide),if_neg (by decide),if_neg (by decide),if_pos rfl] at f0
     by_cases h:memB D.shared t.name=true
     ·exact (hE.obj _ h).1
     ·rw[if_neg h] at f0;exact absurd f0 (by decide)
    unfold lowS
    rw[if_neg (by omega),if_neg (by omega),if_neg (by omega),if_neg (by omega),if_neg (by omega),if_neg (by omega),if_pos hk]
    dsimp only
    have hq:=hb 0 (by omega) (hkid 0 (by omega)) d (by have:=hnk 0 (by omega);omega) k (c++[insB 11 0 0 0 0 t.name]) R V (hc.app (COk.one (ok_lock (.inl rfl) hsym))) hV
    obtain⟨s,hs⟩:∃ s,kidL E t 0 d k (c++[insB 11 0 0 0 0 t.name]) R V=s:=⟨_,rfl⟩
    rw[hs] at hq⊢
    have l1:=hq.lo
    have l2:=hq.hi
    exact⟨hq.blocks,hq.code.app (COk.one (ok_lock (.inr rfl) hsym)),l1,by show s.regs≤_;omega,hq.vars⟩
end
theorem declV{known:ByteArray→Bool}:∀ (l so:List ByteArray),declF known so l = []→(∀ x∈l,known x=false∧x∉so)∧l.Nodup:=by
 intro l
 induction l with
 | nil=>intro so _;exact⟨fun x hx=>(by cases hx),List.nodup_nil⟩
 | cons x l ih =>
  intro so h
  rw[declF,List.append_eq_nil_iff] at h
  obtain⟨h1,h2⟩:=h
  obtain⟨a1,a2⟩:=ih _ h2
  have hx:known x=false∧x∉so:=by
   by_cases hc:(known x || memB so x)=true
   ·rw[if_pos hc] at h1;cases h1
   ·rw[Bool.not_eq_true,Bool.or_eq_false_iff] at hc
    refine⟨hc.1,fun hm=>?_⟩
    have:=memB_iff.2 hm
    rw[hc.2] at this
    cases this
  refine⟨fun y hy=>?_,List.nodup_cons.2 ⟨fun hm=>(a1 x hm).2 (List.mem_append_right _ (List.mem_singleton.2 rfl)),a2⟩⟩
  rcases List.mem_cons.1 hy with rfl|hy
  ·exact hx
  ·exact⟨(a1 y hy).1,fun hm=>(a1 y hy).2 (List.mem_append_left _ hm)⟩
theorem lookV_none{ns:List (ByteArray×Bool)}{s:ByteArray}(h:∀ q∈ns,q.1≠s):lookB ns s=none:=by
 unfold lookB
 rw[Option.map_eq_none_iff,List.find?_eq_none]
 intro q hq
 simpa using h q hq
theorem addArrs_ok:∀ (l:List (ByteArray×Int)) (ns:List (ByteArray×Bool)),(∀ p∈l,1≤p.2∧p.2≤32)→(∀ p∈l,∀ q∈ns,q.1≠p.1)→(l.map (·.1)).Nodup→addArrs ns l=some (ns++l.map fun p=>(p.1,true)):=by
 intro l
 induction l with
 | nil=>intro ns _ _ _;unfold addArrs;simp
 | cons p l ih =>
  intro ns h1 h2 h3
  have hp:=h1 p (List.mem_cons_self ..)
  rw[List.map_cons,List.nodup_cons] at h3
  have e:lookB ns p.1=none:=lookV_none (h2 p (List.mem_cons_self ..))
  unfold addArrs
  rw[e,decide_eq_false (show ¬ p.2<1 by omega),decide_eq_false (show ¬ 32<p.2 by omega)]
  show addArrs (ns++[(p.1,true)]) l=_
  rw[ih (ns++[(p.1,true)]) (fun q hq=>h1 q (List.mem_cons_of_mem _ hq)) (fun q hq x hx=>?_) h3.2]
  ·simp
  ·rcases List.mem_append.1 hx with hx|hx
   ·exact h2 q (List.mem_cons_of_mem _ hq) x hx
   ·obtain rfl:=List.mem_singleton.1 hx
    exact fun e=>h3.1 (by rw[show p.1=q.1 from e];exact List.mem_map_of_mem hq)
theorem addObjs_ok:∀ (l:List (ByteArray×Int)) (ns:List (ByteArray×Bool)),(∀ p∈l,∀ q∈ns,q.1≠p.1)→(l.map (·.1)).Nodup→addObjs ns l=some (ns++l.map fun p=>(p.1,false)):=by
 intro l
 induction l with
 | nil=>intro ns _ _;unfold addObjs;simp
 | cons p l ih =>
  intro ns h2 h3
  rw[List.map_cons,List.nodup_cons] at h3
  have e:lookB ns p.1=none:=lookV_none (h2 p (List.mem_cons_self ..))
  unfold addObjs
  rw[e]
  show addObjs (ns++[(p.1,false)]) l=_
  rw[ih (ns++[(p.1,false)]) (fun q hq x hx=>?_) h3.2]
  ·simp
  ·rcases List.mem_append.1 hx with hx|hx
   ·exact h2 q (List.mem_cons_of_mem _ hq) x hx
   ·obtain rfl:=List.mem_singleton.1 hx
    exact fun e=>h3.1 (by rw[show p.1=q.1 from e];exact List.mem_map_of_mem hq)
theorem lookV_app{a b:List (ByteArray×Bool)}{s:ByteArray}:lookB (a++b) s=(lookB a s).or (lookB b s):=by
 unfold lookB
 rw[List.find?_append]
 cases List.find? (fun p=>decide (p.1=s)) a <;> rfl
theorem lookV_all{l:List (ByteArray×Int)}{b:Bool}{s:ByteArray}(h:s∈l.map (·.1)):lookB (l.map fun p=>(p.1,b)) s=some b:=by
 induction l with
 | nil=>cases h
 | cons p l ih =>
  unfold lookB
  rw[List.map_cons,List.find?_cons]
  by_cases e:p.1=s
  ·simp[e]
  ·rw[List.map_cons] at h
   rcases List.mem_cons.1 h with h|h
   ·exact absurd h.symm e
   ·have:=ih h
    unfold lookB at this
    simp only[decide_eq_false e]
    exact this
theorem lenA_mem{s:ByteArray}:∀ (l:List Arr),s∈l.map (·.name)→∃ a∈l,lenA l s=a.len:=by
 have key:∀ n,∀ (l:List Arr),l.length=n→s∈l.map (·.name)→∃ a∈l,lenA l s=a.len:=by
  intro n
  induction n with
  | zero=>intro l hl h;rw[List.length_eq_zero_iff.1 hl] at h;cases h
  | succ n ih =>
   intro l hl h
   obtain⟨l',a,rfl⟩:∃ l' a,l=l'++[a]:=⟨l.dropLast,l.getLast (by intro e;rw[e] at hl;cases hl),(List.dropLast_concat_getLast _).symm⟩
   rw[lenA_snoc]
   by_cases e:s=a.name
   ·exact⟨a,by simp,if_pos e⟩
   ·rw[List.map_append,List.mem_append] at h
    rcases h with h|h
    ·obtain⟨x,h1,h2⟩:=ih l' (by simpa using hl) h
     exact⟨x,List.mem_append_left _ h1,by show (if s=a.name then a.len else lenA l' s)=_;rw[if_neg e];exact h2⟩
    ·exact absurd (List.mem_singleton.1 h) e
 exact fun l h=>key l.length l rfl h
theorem varsM_mem{l:List ByteArray}{s:ByteArray}:∀ j,j≤l.length→s∈l.take j→∃ r,varsM l j s=some r∧r<j:=by
 intro j
 induction j with
 | zero=>intro _ h;simp at h
 | succ j ih =>
  intro hj h
  unfold varsM
  by_cases e:s=l.getD j ⟨#[]⟩
  ·rw[e];exact⟨j,upd_same _ _ _,by omega⟩
  ·rw[upd_other _ _ e]
   have hx:l[j]? = some (l.getD j ⟨#[]⟩):=by rw[List.getD_eq_getElem?_getD,List.getElem?_eq_getElem (by omega)];rfl
   rw[List.take_add_one,hx,List.mem_append] at h
   rcases h with h|h
   ·obtain⟨r,h1,h2⟩:=ih (by omega) h
    exact⟨r,h1,by omega⟩
   ·exact absurd (List.mem_singleton.1 h) e
theorem tskOk_more{t:Tsk}(h:tskOk t=true):(∀ x∈t.arrays,arrOk x=true)∧t.body.nest≤4:=by
 unfold tskOk at h
 simp only[Bool.and_eq_true,decide_eq_true_eq,List.all_eq_true] at h
 exact⟨h.2.2.2.2.2.1,h.2.2.2.2.2.2.2.2.1⟩
theorem prgOk_objs{p:Prg}(h:prgOk p=true):∀ x∈p.shared,arrOk x=true:=by
 unfold prgOk at h
 simp only[Bool.and_eq_true,decide_eq_true_eq,List.all_eq_true] at h
 exact h.2.2.1
theorem arrOk_len{a:Arr}(h:arrOk a=true):1≤a.len∧a.len≤32:=by
 unfold arrOk at h
 simp only[Bool.and_eq_true,decide_eq_true_eq] at h
 exact⟨h.1.2,h.2⟩
def nsOf(shared:List Arr)(t:Tsk):List (ByteArray×Bool):=(t.arrays.map arrP).map (fun p=>(p.1,true))++(shared.map arrP).map (fun p=>(p.1,false))
theorem map_arrP(l:List Arr):(l.map arrP).map (·.1)=l.map (·.name):=by rw[List.map_map];rfl
theorem env_ok{p:Prg}{t:Tsk}(hok:okP p=true)(ht:tskOk t=true)(hft:taskF (p.shared.map (·.name)) t = []):EnvOk (envOf p.shared t.arrays) (nsOf p.shared t) ⟨p.shared.map (·.name),t.vars,t.arrays.map (·.name)⟩:=by
 have hpr:=okP_ok hok
 have hobj:=prgOk_objs hpr
 obtain⟨harr,hnest⟩:=tskOk_more ht
 obtain⟨hv12,ha4,hs400⟩:=tskOk_le ht
 have hsh:declF (fun _=>false) [] (p.shared.map (·.name)) = []:=by
  unfold okP at hok
  rw[Bool.and_eq_true] at hok
  have h2:=hok.2
  unfold checkE at h2
  rw[if_pos hpr] at h2
  have h2:=List.isEmpty_iff.1 h2
  unfold checkF at h2
  rw[List.append_eq_nil_iff,List.map_eq_nil_iff] at h2
  exact h2.1
 unfold taskF at hft
 rw[List.append_eq_nil_iff] at hft
 obtain⟨hd,hf⟩:=hft
 obtain⟨_,hnS⟩:=declV _ _ hsh
 obtain⟨hkn,hnV⟩:=declV _ _ hd
 have hnA:(t.arrays.map (·.name)).Nodup:=(List.nodup_append.1 hnV).2.1
 have hAS:∀ x∈t.arrays.map (·.name),x∉p.shared.map (·.name):=fun x hx hs=>by
  have h1:=(hkn x (List.mem_append_right _ hx)).1
  rw[memB_iff.2 hs] at h1
  cases h1
 have hlen:∀ s,s∈(p.shared++t.arrays).map (·.name)→1≤(envOf p.shared t.arrays).len s∧(envOf p.shared t.arrays).len s≤131071:=fun s hs=>by
  obtain⟨a,ha,e⟩:=lenA_mem _ hs
  show 1≤lenA (p.shared++t.arrays) s∧_
  have h9:1≤a.len∧a.len≤32:=by
   rcases List.mem_append.1 ha with h|h
   ·exact arrOk_len (hobj a h)
   ·exact arrOk_len (harr a h)
  have e2:(envOf p.shared t.arrays).len s=a.len:=e
  rw[e2,e]
  omega
 show EnvOk _ _ _
 ·refine⟨fun s hs=>?_,fun s hs=>?_⟩
  ·have hs:=memB_iff.1 hs
   refine⟨?_,?_,hlen s (by rw[List.map_append];exact List.mem_append_right _ hs)⟩
   ·unfold nsOf
    rw[lookV_app,lookV_all (by rw[map_arrP];exact hs)]
    rfl
   ·show shA p.shared s=false
    unfold shA
    rw[List.any_eq_false]
    intro a ha
    simp only[decide_eq_true_eq]
    exact fun e=>hAS s hs (by rw[e];exact List.mem_map_of_mem ha)
  ·have hs:=memB_iff.1 hs
   refine⟨?_,?_,hlen s (by rw[List.map_append];exact List.mem_append_left _ hs)⟩
   ·unfold nsOf
    rw[lookV_app,lookV_none,lookV_all (by rw[map_arrP];exact hs)]
    ·rfl
    ·intro q hq e
     obtain⟨y,hy,rfl⟩:=List.mem_map.1 hq
     obtain⟨a,ha,rfl⟩:=List.mem_map.1 hy
     exact hAS a.name (List.mem_map_of_mem ha) (by rw[show a.name=s from e];exact hs)
   ·show shA p.shared s=true
    unfold shA
    rw[List.any_eq_true]
    obtain⟨a,ha,rfl⟩:=List.mem_map.1 hs
    exact⟨a,ha,by simp⟩
theorem lowFn_ok{p:Prg}{t:Tsk}(hok:okP p=true)(ht:tskOk t=true)(hft:taskF (p.shared.map (·.name)) t = []):fnOk (lowFn p.shared t) (p.shared.map arrP)=true:=by
 have hpr:=okP_ok hok
 have hobj:=prgOk_objs hpr
 obtain⟨harr,hnest⟩:=tskOk_more ht
 obtain⟨hv12,ha4,hs400⟩:=tskOk_le ht
 have hsh:declF (fun _=>false) [] (p.shared.map (·.name)) = []:=by
  unfold okP at hok
  rw[Bool.and_eq_true] at hok
  have h2:=hok.2
  unfold checkE at h2
  rw[if_pos hpr] at h2
  have h2:=List.isEmpty_iff.1 h2
  unfold checkF at h2
  rw[List.append_eq_nil_iff,List.map_eq_nil_iff] at h2
  exact h2.1
 have hft0:=hft
 unfold taskF at hft
 rw[List.append_eq_nil_iff] at hft
 obtain⟨hd,hf⟩:=hft
 obtain⟨_,hnS⟩:=declV _ _ hsh
 obtain⟨hkn,hnV⟩:=declV _ _ hd
 have hnA:(t.arrays.map (·.name)).Nodup:=(List.nodup_append.1 hnV).2.1
 have hAS:∀ x∈t.arrays.map (·.name),x∉p.shared.map (·.name):=fun x hx hs=>by
  have h1:=(hkn x (List.mem_append_right _ hx)).1
  rw[memB_iff.2 hs] at h1
  cases h1
 have hns:namesOf (lowFn p.shared t) (p.shared.map arrP)=some (nsOf p.shared t):=by
  unfold namesOf
  have e1:addArrs [] (lowFn p.shared t).arrays=some ([]++(t.arrays.map arrP).map fun p=>(p.1,true)):=addArrs_ok _ _ (fun q hq=>by
   obtain⟨a,ha,rfl⟩:=List.mem_map.1 hq
   exact arrOk_len (harr a ha)) (fun _ _ q hq=>(by cases hq)) (by rw[show (lowFn p.shared t).arrays=t.arrays.map arrP from rfl,map_arrP];exact hnA)
  rw[e1,List.nil_append]
  show addObjs _ _=_
  rw[addObjs_ok _ _ (fun q hq x hx=>?_) (by rw[map_arrP];exact hnS)]
  ·rfl
  ·obtain⟨y,hy,rfl⟩:=List.mem_map.1 hx
   obtain⟨a,ha,rfl⟩:=List.mem_map.1 hy
   obtain⟨b,hb,rfl⟩:=List.mem_map.1 hq
   exact fun e=>hAS a.name (List.mem_map_of_mem ha) (by rw[show a.name=b.name from e];exact List.mem_map_of_mem hb)
 have hE:=env_ok hok ht hft0
 have hV:VOk ⟨p.shared.map (·.name),t.vars,t.arrays.map (·.name)⟩ [] (varsM t.vars t.vars.length) t.vars.length:=fun s hs=>by
  have hs:s∈t.vars:=by
   have e:memB [] s=false:=rfl
   rw[e,Bool.or_false] at hs
   exact memB_iff.1 hs
  exact varsM_mem _ (Nat.le_refl _) (by rw[List.take_length];exact hs)
 have hb:=tskOk_body ht
 have hS:SOkL (nsOf p.shared t) ⟨p.shared.map (·.name),t.vars,t.arrays.map (·.name)⟩ [] t.vars.length t.body.size (lowS0 p.shared t):=low_ok hE t.body (.inl hb) _ _ _ _ hf 0 (by omega) 0 [] _ _ COk.nil hV
 have hT:=lowFn_tgt p.shared t hb
 have hlo:=hS.lo
 have hhi:=hS.hi
 unfold fnOk
 rw[hns]
 have e0:(lowFn p.shared t).blocks.length=(lowS0 p.shared t).done.length+1:=by
  show ((lowS0 p.shared t).done++_).length=_
  rw[List.length_append]
  rfl
 have e1:((lowFn p.shared t).blocks.length == 0)=false:=by rw[e0];simp
 have e2:(lowFn p.shared t).regs=(((lowS0 p.shared t).regs:Nat):Int):=rfl
 have e3:(lowFn p.shared t).arrays.length≤4:=by show (t.arrays.map arrP).length≤4;rw[List.length_map];exact ha4
 rw[e1,decide_eq_true (show 0≤(lowFn p.shared t).regs by rw[e2];omega),decide_eq_true (show (lowFn p.shared t).regs≤10000 by rw[e2];omega),decide_eq_true e3]
 show (lowFn p.shared t).blocks.all (blkOk (lowFn p.shared t) (nsOf p.shared t))=true
 rw[List.all_eq_true]
 intro x hx
 have hx2:x∈(lowS0 p.shared t).done++[⟨(lowS0 p.shared t).code,3,0,0,0⟩]:=hx
 have hbl:COk (nsOf p.shared t) (lowS0 p.shared t).regs x.code∧BrOk (lowS0 p.shared t).regs x∧(x.kind=3→x.x=0):=by
  rcases List.mem_append.1 hx2 with h|h
  ·obtain⟨a1,a2⟩:=hS.blocks x h
   refine⟨a1,a2,fun e=>?_⟩
   have h9:=low_tgt (envOf p.shared t.arrays) t.body (.inl hb) 0 0 [] t.vars.length (varsM t.vars t.vars.length) x h
   have:=h9.1
   omega
  ·obtain rfl:=List.mem_singleton.1 h
   exact⟨hS.code,⟨fun e=>absurd (show (3:Int)=1 from e) (by decide),fun e=>absurd (show (3:Int)=2 from e) (by decide)⟩,fun _=>rfl⟩
 obtain⟨hc,hbr,hx3⟩:=hbl
 unfold blkOk
 rw[Bool.and_eq_true]
 refine⟨List.all_eq_true.2 (fun i hi=>hc i hi),?_⟩
 unfold endOk
 rcases hT x hx with⟨k,k1,k2⟩|⟨k,⟨k1,k2⟩,k3,k4⟩
 ·rw[k,k1,k2,hx3 k];rfl
 ·rcases k with k|k
  ·obtain⟨a1,a2⟩:=hbr.1 k
   rw[k,a1,a2,decide_eq_true k1,decide_eq_true k2];rfl
  ·obtain⟨a1,a2⟩:=hbr.2 k
   rw[k,e2,decide_eq_true a1,decide_eq_true a2,decide_eq_true k1,decide_eq_true k2,decide_eq_true k3,decide_eq_true k4];rfl
