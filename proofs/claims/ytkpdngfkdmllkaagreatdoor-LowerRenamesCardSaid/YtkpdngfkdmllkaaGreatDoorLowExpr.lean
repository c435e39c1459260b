/- Part. -/
import Derived.Test.YtkpdngfkdmllkaaGreatDoorMg31
import Derived.OrdersHeld
import Derived.Deep.Cut
import Derived.Deep.CutRange
import Derived.Deep.CutBlock
namespace Go.Proofs.YtkpdngfkdmllkaaGreatDoor
set_option linter.unusedVariables false
set_option linter.unusedSimpArgs false
open Go.RowKit Go.Maps
set_option maxRecDepth 100000
set_option maxHeartbeats 8000000
theorem lowE_r(E:LEnv)(V:VM):∀ (t:Tree) (R:Nat),(∀ s r,V s=some r→r<R)→0≤(t.lowE E V R).r∧(t.lowE E V R).r≤(t.lowE E V R).regs∧R≤(t.lowE E V R).regs:=by
 intro t
 induction t using Tree.ind with
 | h t ih =>
  intro R hV
  have hk:∀ (i R:Nat),(∀ s r,V s=some r→r<R)→0≤(if i<t.len then (t.kid i).lowE E V R else ⟨[],R,0⟩).r∧(if i<t.len then (t.kid i).lowE E V R else ⟨[],R,0⟩).r≤(if i<t.len then (t.kid i).lowE E V R else ⟨[],R,0⟩).regs∧R≤(if i<t.len then (t.kid i).lowE E V R else ⟨[],R,0⟩).regs:=fun i R hV=>by
   by_cases h:i<t.len
   ·rw[if_pos h];exact ih i h R hV
   ·rw[if_neg h];exact⟨Int.le_refl _,Int.natCast_nonneg _,Nat.le_refl _⟩
  have h0:=hk 0 R hV
  have h1:=hk 1 _ (fun s r hs=>Nat.lt_of_lt_of_le (hV s r hs) h0.2.2)
  rw[Tree.lowE_eq]
  unfold lowB
  split
  ·exact⟨Int.natCast_nonneg _,by show (R:Int)≤((R+1:Nat):Int);omega,Nat.le_succ _⟩
  split
  ·refine⟨by unfold VM.reg;exact Int.natCast_nonneg _,?_,Nat.le_refl _⟩
   show V.reg t.name≤(R:Int)
   unfold VM.reg
   cases hv:V t.name with
   | none=>exact Int.natCast_nonneg _
   | some r=>have:=hV _ _ hv;show (r:Int)≤R;omega
  split
  ·exact⟨Int.natCast_nonneg _,by simp only;omega,by simp only;omega⟩
  split
  ·exact⟨Int.natCast_nonneg _,by simp only;omega,by simp only;omega⟩
  split
  ·exact⟨Int.natCast_nonneg _,by simp only;omega,by simp only;omega⟩
  ·exact⟨Int.natCast_nonneg _,by simp only;omega,by simp only;omega⟩
theorem lowE_regs(E:LEnv)(V:VM):∀ (t:Tree) (R:Nat),(t.lowE E V R).regs≤R+2*t.size:=by
 intro t
 induction t using Tree.ind with
 | h t ih =>
  intro R
  have hs0:(if 0<t.len then (t.kid 0).size else 0)+(if 1<t.len then (t.kid 1).size else 0)+1≤t.size:=by
   rw[Tree.size_eq t]
   match hl:t.len with
   | 0=>simp
   | 1=>show _≤1+(0+(t.kid 0).size);simp;omega
   | n+2 =>
    have h9:=Tree.sumTo_le (f:=fun i=>(t.kid i).size) (show 2≤n+2 by omega)
    have h8:Tree.sumTo (fun i=>(t.kid i).size) 2=0+(t.kid 0).size+(t.kid 1).size:=rfl
    simp
    omega
  have hk:∀ (i R:Nat),(if i<t.len then (t.kid i).lowE E V R else ⟨[],R,0⟩).regs≤R+2*(if i<t.len then (t.kid i).size else 0):=fun i R=>by
   by_cases h:i<t.len
   ·rw[if_pos h,if_pos h];exact ih i h R
   ·rw[if_neg h,if_neg h];exact Nat.le_add_right _ _
  have h0:=hk 0 R
  have h1:=hk 1 (if 0<t.len then (t.kid 0).lowE E V R else ⟨[],R,0⟩).regs
  rw[Tree.lowE_eq]
  unfold lowB
  split
  ·dsimp only;omega
  split
  ·dsimp only;omega
  split
  ·dsimp only;omega
  split
  ·dsimp only;omega
  split
  ·dsimp only;omega
  ·dsimp only;omega
section
variable {B N:Nat} {m:BM} {E:LEnv} {w w':World} {G:List Nat} {pre:List Blk} {c:List Ins} {R d:Nat} {V:VM}
theorem BdAt.res{bs bs':List Blk}{N':Nat}(h:BdAt B N m E w G bs R d V)(t:Tree)(h':BdAt B N' m E w' G bs' (t.lowE E V R).regs d V):irI64 (t.lowE E V R).r:=by
 have h1:=lowE_r E V t R h.varN
 have h2:=h'.small.1
 have h3:=h'.cap
 unfold irI64
 omega
end
def LkS(m:BM)(E:LEnv)(nb:Nat)(o:Obj)(w:World):Prop:=
 w.cell? ⟨m.bb,0,none⟩=some (.map (some m.lb))∧w.heap[nb]? = some o∧∀ s:ByteArray,s.size≤9223372036854775807→(Instr.lookup 107 (.map (some m.lb)) (.string s) false).run Tryz.prog w = .ok (.int .i64 (E.len s)) w
theorem LkS.of{B N:Nat}{m:BM}{E:LEnv}{w:World}{G:List Nat}{bs:List Blk}{R d:Nat}{V:VM}{nb:Nat}{o:Obj}(h:BdAt B N m E w G bs R d V)(ho:w.heap[nb]? = some o):LkS m E nb o w:=
 ⟨h.cells.1,ho,fun _ hs=>h.look_len hs⟩
def ExprQ(B N:Nat)(m:BM)(E:LEnv)(w:World)(G:List Nat)(pre:List Blk)(c:List Ins)(d:Nat)(V:VM)(L:LE)(e:Ending)(w':World):Prop:=
 e = .returned (.int .i64 L.r)∧BdC B N m E w' G pre (c++L.code) L.regs d V∧FrL B m w w'
theorem lexpr_any(B:Nat)(m:BM)(E:LEnv)(G:List Nat)(pre:List Blk)(d:Nat)(V:VM):∀ t:Tree,t.vld 101=true→∀ (N:Nat) (w:World) (c:List Ins) (R:Nat) (a:Option Addr) (cap:Nat),BdC B N m E w G pre c R d V→InB B w t a→N+16*t.size≤1000000 →
 Calls Tryz.prog 83 #[ptrV m.bb,t.val a cap] w (ExprQ B (N+16*t.size) m E w G pre c d V (t.lowE E V R)):=by
 intro t
 induction t using Tree.ind with
 | h t ih =>
  intro hv N w c R a cap h hr hN
  obtain⟨hkind,hlen,hkids,hnum⟩:=vldE hv
  have hfit:=hr.fits
  have hns:=hfit.name
  have hks:=hfit.kind
  obtain⟨W,hW⟩:∃ W:World,w.alloc (ndObj t a cap)=W:=⟨_,rfl⟩
  have HBW:Hid (Below w.heap.size w W):=by show Below _ _ _;rw[←hW];exact mem_alloc _ _
  have HX:Hid (W.heap[w.heap.size]? = some (ndObj t a cap)):=by show _=_;rw[←hW];exact mem_new _ _
  have HS:=ξ (show BdC B N m E W G pre c R d V from h.keep HBW.out)
  have HF0:Hid (FrL B m w W):=FrL.of HBW.out h.lt.2.2.2.2
  have HK:Hid (∀ w',FrL B m W w'→w'.heap[w.heap.size]? = some (ndObj t a cap)∧InB B w' t a∧FrL B m w w'):=fun w' hf =>
   ⟨hf.still _ _ HX.out (by show _≠_∧_;decide),hr.low (HF0.out.trans hf).low,HF0.out.trans hf⟩
  have HEV:=ξ (Tree.lowE_eq E V t R)
  have HIH:Hid (∀ i,i<t.len→∀ (N:Nat) (w:World) (c:List Ins) (R:Nat) (a:Option Addr) (cap:Nat),BdC B N m E w G pre c R d V→InB B w (t.kid i) a→N+16*(t.kid i).size≤1000000→Calls Tryz.prog 83 #[ptrV m.bb,(t.kid i).val a cap] w (ExprQ B (N+16*(t.kid i).size) m E w G pre c d V ((t.kid i).lowE E V R))):=fun i hi=>ih i hi (hkids i hi)
  have HLEN:=ξ hlen
  have HNUM:=ξ hfit.num
  have HSZ:Hid (N+16*t.size≤1000000∧1≤t.size):=⟨hN,t.size_pos⟩
  obtain⟨x0,x1,x2,x3⟩:=nd_cells HX.out
  clear ih hv hkids h hr hlen hfit hnum hN
  by_cases k1:t.kind=1
  ·have b1:(t.kind == 1)=true:=by simp[k1]
   have HE:Hid (t.lowE E V R=⟨[insB 1 R 0 0 t.num noB],R+1,R⟩):=by show _=_;rw[HEV.out];unfold lowB;rw[if_pos k1]
   clear k1 HEV
   go_enter Tryz.func83,Tryz.ntmps83
   go_wp2_with fail
   clear hW x0 x1 x2 x3
   refine (constant_any t.num HS.out HNUM.out (by have:=HSZ.out;omega)).mono ?_
   rintro e w1 ⟨rfl,h1,hf1⟩
   have H1:=ξ (BdAt.mono h1 (show N+2≤N+16*t.size by have:=HSZ.out;omega) HSZ.out.1)
   have HF1:=ξ (HF0.out.trans hf1)
   clear h1 hf1
   go_wp2_with fail
   go_ret
   rw[HE.out]
   exact⟨rfl,H1.out,HF1.out⟩
  by_cases k2:t.kind=2
  ·have b1:(t.kind == 1)=false:=by simp[k2]
   have b2:(t.kind == 2)=true:=by simp[k2]
   have HE:Hid (t.lowE E V R=⟨[],R,V.reg t.name⟩):=by show _=_;rw[HEV.out];unfold lowB;rw[if_neg (by omega),if_pos k2]
   have HC:Hid (∀ w',Below W.heap.size W w'→BdC B N m E w' G pre c R d V∧w'.heap[w.heap.size]? = some (ndObj t a cap)):=fun w' hb=>⟨BdAt.keep HS.out hb,mem_keep HX.out hb⟩
   clear k1 k2 HEV
   go_enter Tryz.func83,Tryz.ntmps83
   go_upto_region 5 with fail
   clear hW x0 x1 x2 x3
   refine wp_region_held_drew (S:=fun w'=>Below W.heap.size W w') (by kernel_rfl) ((Below.refl _ _).drew) (fun hHeld=>?_)
   generalize hwd:World.drew W=v1 at hHeld⊢
   clear hwd
   have HB1:=ξ hHeld
   refine hT 0 (ptrV m.bb) rfl (hy:=?_) (h:=?_)
   ·intro w' hSw;go_simp
   (try simp only[Act.put,pZ])
   refine hT 1 (.pointer (some ⟨m.bb,0,none⟩)) rfl (hy:=?_) (h:=?_)
   ·intro w' hSw;go_simp
   (try simp only[Act.put,pZ])
   refine hT 2 (.pointer (some ⟨m.bb,2,none⟩)) rfl (hy:=?_) (h:=?_)
   ·intro w' hSw;go_simp
   (try simp only[Act.put,pZ])
   refine hT 3 (.map (some m.vb)) rfl (hy:=?_) (h:=?_)
   ·intro w' hSw;obtain⟨_,_,z2,_⟩:=BdAt.cells (HC.out _ hSw).1;go_simp
   (try simp only[Act.put,pZ])
   refine hT 4 (.pointer (some ⟨w.heap.size,2,none⟩)) rfl (hy:=?_) (h:=?_)
   ·intro w' hSw;go_simp
   (try simp only[Act.put,pZ])
   refine hT 5 (.string t.name) rfl (hy:=?_) (h:=?_)
   ·intro w' hSw;obtain⟨_,_,z2,_⟩:=nd_cells (HC.out _ hSw).2;go_simp
   (try simp only[Act.put,pZ])
   refine hT 6 (.int .i64 (V.reg t.name)) rfl (hy:=?_) (h:=?_)
   ·intro w' hSw;have zl:=BdAt.look_var (HC.out _ hSw).1 hns;go_simp
   (try simp only[Act.put,pZ])
   refine hT 7 (.int .i64 (V.reg t.name)) rfl (hy:=?_) (h:=?_)
   ·intro w' hSw;go_simp
   (try simp only[Act.put,pZ])
   refine wpAnyH_done (by kernel_rfl) ?_ _
   have H1:=ξ (BdAt.mono (HC.out _ HB1.out).1 (show N≤N+16*t.size by have:=HSZ.out;omega) HSZ.out.1)
   have HF1:Hid (FrL B m w v1):=HF0.out.trans (FrL.of HB1.out HS.out.lt.2.2.2.2)
   clear hHeld
   go_wp2_with fail
   go_ret
   rw[HE.out]
   exact⟨rfl,by rw[List.append_nil];exact H1.out,HF1.out⟩
  by_cases k3:t.kind=3
  ·have b1:(t.kind == 1)=false:=by simp[k3]
   have b2:(t.kind == 2)=false:=by simp[k3]
   have b3:(t.kind == 3)=true:=by simp[k3]
   have hl1:t.len=1:=by rw[HLEN.out,k3];rfl
   have hl0:0<t.len:=by omega
   have hl0i:(0:Int)<(t.len:Int):=by omega
   have HSK:Hid (1+(t.kid 0).size≤t.size):=by show _≤_;have:=Tree.size_kid hl0;omega
   obtain⟨L0,hL0⟩:∃ L,(t.kid 0).lowE E V R=L:=⟨_,rfl⟩
   have HL0:=ξ hL0
   obtain⟨n0,hn0⟩:∃ n,(t.kid 0).size=n:=⟨_,rfl⟩
   have HN0:=ξ hn0
   obtain⟨sh,hsh⟩:∃ b,E.sh t.name=b:=⟨_,rfl⟩
   have HSH:=ξ hsh
   have HE:Hid (t.lowE E V R=⟨L0.code++[insB 8 0 L0.r 0 (E.len t.name) noB,insB (if sh then 6 else 4) L0.regs L0.r 0 0 t.name],L0.regs+1,L0.regs⟩):=by
    show _=_;rw[HEV.out];unfold lowB;simp only[if_pos hl0,hL0,hsh];rw[if_neg (by omega),if_neg (by omega),if_pos k3]
   clear k1 k2 k3 HEV hl1 hL0 hn0 hsh
   obtain⟨kb,ko,rfl,hkb,_⟩:=kid_in (HK.out W FrL.refl).2.1 hl0
   go_enter Tryz.func83,Tryz.ntmps83
   obtain⟨kb',ko',hsame,_,ai,ci,hnd,hrk⟩:=kid_in (HK.out W FrL.refl).2.1 hl0
   cases hsame
   rw[Nat.zero_mul,Nat.add_zero] at hnd
   have z0:=hnd.kind
   have z1:=hnd.num
   have z2:=hnd.name
   have z3:=hnd.kids
   have h9:=HIH.out 0 hl0 (N) W (c) (R) ai ci HS.out hrk (by have:=HSZ.out;have:=HSK.out;have:=HN0.out;omega)
   have H9:=ξ h9
   clear hnd hrk h9
   go_wp2_with fail
   clear z0 z1 z2 z3 x0 x1 x2 x3 hW
   refine H9.out.mono ?_
   rintro e w1 ⟨rfl,hs,hf⟩
   clear H9
   have Hw1:=ξ hs
   have HFw1:=ξ (FrL.trans FrL.refl hf)
   clear hs hf
   rw[HL0.out,HN0.out] at Hw1
   have HRES:=ξ (show irI64 L0.r from by have h9:=BdAt.res HS.out (t.kid 0) (by rw[HL0.out];exact Hw1.out);rw[HL0.out] at h9;exact h9)
   rw[HL0.out]
   have HC1:Hid (∀ w',Below w1.heap.size w1 w'→BdC B (N+16*n0) m E w' G pre (c++L0.code) L0.regs d V∧w'.heap[w.heap.size]? = some (ndObj t (some ⟨kb,ko,none⟩) cap)):=fun w' hb=>⟨BdAt.keep Hw1.out hb,mem_keep (HK.out _ HFw1.out).1 hb⟩
   go_upto_region 8 with fail
   refine wp_region_held_drew (S:=LkS m E w.heap.size (ndObj t (some ⟨kb,ko,none⟩) cap)) (by kernel_rfl) (LkS.of (HC1.out _ (Below.refl _ _).drew).1 (HC1.out _ (Below.refl _ _).drew).2) (fun hHeld=>?_)
   have HB1:Hid (Below w1.heap.size w1 w1.drew):=(Below.refl _ _).drew
   generalize hwd:World.drew w1=v1 at hHeld HB1⊢
   clear hwd
   refine hT 0 (ptrV m.bb) rfl (hy:=?_) (h:=?_)
   ·intro w' hSw;go_simp
   (try simp only[Act.put,pZ])
   refine hT 1 (.int .i64 L0.r) rfl (hy:=?_) (h:=?_)
   ·intro w' hSw;go_simp
   (try simp only[Act.put,pZ])
   refine hT 2 (ptrV m.bb) rfl (hy:=?_) (h:=?_)
   ·intro w' hSw;go_simp
   (try simp only[Act.put,pZ])
   refine hT 3 (.pointer (some ⟨m.bb,0,none⟩)) rfl (hy:=?_) (h:=?_)
   ·intro w' hSw;go_simp
   (try simp only[Act.put,pZ])
   refine hT 4 (.pointer (some ⟨m.bb,0,none⟩)) rfl (hy:=?_) (h:=?_)
   ·intro w' hSw;go_simp
   (try simp only[Act.put,pZ])
   refine hT 5 (.map (some m.lb)) rfl (hy:=?_) (h:=?_)
   ·intro w' hSw;have z2:=hSw.1;go_simp
   (try simp only[Act.put,pZ])
   refine hT 6 (.pointer (some ⟨w.heap.size,2,none⟩)) rfl (hy:=?_) (h:=?_)
   ·intro w' hSw;go_simp
   (try simp only[Act.put,pZ])
   refine hT 7 (.string t.name) rfl (hy:=?_) (h:=?_)
   ·intro w' hSw;obtain⟨_,_,z2,_⟩:=nd_cells hSw.2.1;go_simp
   (try simp only[Act.put,pZ])
   refine hT 8 (.int .i64 (E.len t.name)) rfl (hy:=?_) (h:=?_)
   ·intro w' hSw;have zl:=hSw.2.2 t.name hns;go_simp
   (try simp only[Act.put,pZ])
   refine hT 9 (.agg #[.int .u8 8,.int .i64 0,.int .i64 L0.r,.int .i64 0,.int .i64 (E.len t.name),.string ⟨#[]⟩]) rfl (hy:=?_) (h:=?_)
   ·intro w' hSw;go_simp
   (try simp only[Act.put,pZ])
   refine hR 10 rfl (fun K hK=>?_)
   go_simp
   refine (emit_cur (insB 8 0 L0.r 0 (E.len t.name) noB) (HC1.out _ HB1.out).1 (ins_wf (by decide) i64_0 HRES.out i64_0 (BdAt.lenI HS.out _) noB_size) (by have:=HSZ.out;have:=HSK.out;have:=HN0.out;omega)).mono ?_
   rintro e w2 ⟨rfl,hs,hf⟩
   have H2:=ξ hs
   have HF2:Hid (FrL B m W w2):=FrL.trans (FrL.trans HFw1.out (FrL.of HB1.out Hw1.out.lt.2.2.2.2)) hf
   clear hs hf
   refine hK.out _ _ (LkS.of H2.out (HK.out _ HF2.out).1) (fun hHeld=>?_)
   clear hK K
   rename_i hOld
   clear hOld
   (try simp only[Act.put,pZ])
   clear hHeld
   refine wpAnyH_done (by kernel_rfl) ?_ _
   have HC2:Hid (∀ w',Below w2.heap.size w2 w'→BdC B (N+16*n0+1) m E w' G pre (c++L0.code++[insB 8 0 L0.r 0 (E.len t.name) noB]) L0.regs d V∧w'.heap[w.heap.size]? = some (ndObj t (some ⟨kb,ko,none⟩) cap)):=fun w' hb=>⟨BdAt.keep H2.out hb,mem_keep (HK.out _ HF2.out).1 hb⟩
   go_upto_region 10 with fail
   refine wp_region_held_drew (S:=fun w'=>Below w2.heap.size w2 w') (by kernel_rfl) ((Below.refl _ _).drew) (fun hHeld=>?_)
   generalize hwd:World.drew w2=v3 at hHeld⊢
   clear hwd
   have HB3:=ξ hHeld
   refine hT 0 (ptrV m.bb) rfl (hy:=?_) (h:=?_)
   ·intro w' hSw;go_simp
   (try simp only[Act.put,pZ])
   refine hT 1 (.pointer (some ⟨m.bb,0,none⟩)) rfl (hy:=?_) (h:=?_)
   ·intro w' hSw;go_simp
   (try simp only[Act.put,pZ])
   refine hT 2 (.pointer (some ⟨m.bb,1,none⟩)) rfl (hy:=?_) (h:=?_)
   ·intro w' hSw;go_simp
   (try simp only[Act.put,pZ])
   refine hT 3 (.map (some m.sb)) rfl (hy:=?_) (h:=?_)
   ·intro w' hSw;obtain⟨_,z2,_⟩:=BdAt.cells (HC2.out _ hSw).1;go_simp
   (try simp only[Act.put,pZ])
   refine hT 4 (.pointer (some ⟨w.heap.size,2,none⟩)) rfl (hy:=?_) (h:=?_)
   ·intro w' hSw;go_simp
   (try simp only[Act.put,pZ])
   refine hT 5 (.string t.name) rfl (hy:=?_) (h:=?_)
   ·intro w' hSw;obtain⟨_,_,z2,_⟩:=nd_cells (HC2.out _ hSw).2;go_simp
   (try simp only[Act.put,pZ])
   refine hT 6 (.bool sh) rfl (hy:=?_) (h:=?_)
   ·intro w' hSw;have zl:=BdAt.look_sh (HC2.out _ hSw).1 hns;rw[HSH.out] at zl;go_simp
   (try simp only[Act.put,pZ])
   refine wpAnyH_done (by kernel_rfl) ?_ _
   have H3:=ξ (HC2.out _ HB3.out).1
   have HF3:Hid (FrL B m W v3):=FrL.trans HF2.out (FrL.of HB3.out H2.out.lt.2.2.2.2)
   clear hHeld
   cases sh with
   | true =>
    go_wp2_with fail
    refine (register_any H3.out (by have:=HSZ.out;have:=HSK.out;have:=HN0.out;omega)).mono ?_
    rintro e w4 ⟨rfl,hs,hf⟩
    have H4:Hid (BdC B (N+16*n0+1+1) m E w4 G pre (c++L0.code++[insB 8 0 L0.r 0 (E.len t.name) noB]) (L0.regs+1) d V):=hs
    have HF4:=ξ (FrL.trans HF3.out hf)
    have hR4:L0.regs+1≤1000000:=Nat.le_trans hs.small.1 hs.cap
    clear hs hf
    obtain⟨x0,x1,x2,x3⟩:=nd_cells (HK.out _ HF4.out).1
    go_wp2_with fail
    clear x0 x1 x2 x3
    refine (emit_cur (insB 6 L0.regs L0.r 0 0 t.name) H4.out (ins_wf (by decide) (i64_nat (by omega)) HRES.out i64_0 i64_0 hns) (by have:=HSZ.out;have:=HSK.out;have:=HN0.out;omega)).mono ?_
    rintro e w5 ⟨rfl,hs,hf⟩
    have H5:=ξ hs
    have HFw5:=ξ (FrL.trans HF4.out hf)
    clear hs hf
    have HE5:=ξ (BdAt.mono H5.out (show N+16*n0+1+1+1≤N+16*t.size by have:=HSZ.out;have:=HSK.out;have:=HN0.out;omega) HSZ.out.1)
    have HF5:=ξ (HF0.out.trans HFw5.out)
    go_wp2_with fail
    go_ret
    rw[HE.out]
    refine⟨rfl,?_,HF5.out⟩
    have h9:=HE5.out
    simp only[List.append_assoc] at h9⊢
    exact h9
   | false =>
    go_wp2_with fail
    refine (register_any H3.out (by have:=HSZ.out;have:=HSK.out;have:=HN0.out;omega)).mono ?_
    rintro e w4 ⟨rfl,hs,hf⟩
    have H4:Hid (BdC B (N+16*n0+1+1) m E w4 G pre (c++L0.code++[insB 8 0 L0.r 0 (E.len t.name) noB]) (L0.regs+1) d V):=hs
    have HF4:=ξ (FrL.trans HF3.out hf)
    have hR4:L0.regs+1≤1000000:=Nat.le_trans hs.small.1 hs.cap
    clear hs hf
    obtain⟨x0,x1,x2,x3⟩:=nd_cells (HK.out _ HF4.out).1
    go_wp2_with fail
    clear x0 x1 x2 x3
    refine (emit_cur (insB 4 L0.regs L0.r 0 0 t.name) H4.out (ins_wf (by decide) (i64_nat (by omega)) HRES.out i64_0 i64_0 hns) (by have:=HSZ.out;have:=HSK.out;have:=HN0.out;omega)).mono ?_
    rintro e w5 ⟨rfl,hs,hf⟩
    have H5:=ξ hs
    have HFw5:=ξ (FrL.trans HF4.out hf)
    clear hs hf
    have HE5:=ξ (BdAt.mono H5.out (show N+16*n0+1+1+1≤N+16*t.size by have:=HSZ.out;have:=HSK.out;have:=HN0.out;omega) HSZ.out.1)
    have HF5:=ξ (HF0.out.trans HFw5.out)
    go_wp2_with fail
    go_ret
    rw[HE.out]
    refine⟨rfl,?_,HF5.out⟩
    have h9:=HE5.out
    simp only[List.append_assoc] at h9⊢
    exact h9
  by_cases k4:t.kind=4
  ·skip
   have b1:(t.kind == 1)=false:=by simp[k4]
   have b2:(t.kind == 2)=false:=by simp[k4]
   have b3:(t.kind == 3)=false:=by simp[k4]
   have b4:(t.kind == 4)=true:=by simp[k4]
   have hl1:t.len=1:=by rw[HLEN.out,k4];rfl
   have hl0:0<t.len:=by omega
   have hl0i:(0:Int)<(t.len:Int):=by omega
   have HSK:Hid (1+(t.kid 0).size≤t.size):=by show _≤_;have:=Tree.size_kid hl0;omega
   obtain⟨L0,hL0⟩:∃ L,(t.kid 0).lowE E V R=L:=⟨_,rfl⟩
   have HL0:=ξ hL0
   obtain⟨n0,hn0⟩:∃ n,(t.kid 0).size=n:=⟨_,rfl⟩
   have HN0:=ξ hn0
   have HE:Hid (t.lowE E V R=⟨L0.code++[insB 1 L0.regs 0 0 0 noB,insB 3 (L0.regs+1:Nat) L0.regs L0.r 7 noB],L0.regs+2,(L0.regs+1:Nat)⟩):=by
    show _=_;rw[HEV.out];unfold lowB;simp only[if_pos hl0,hL0];rw[if_neg (by omega),if_neg (by omega),if_neg (by omega),if_pos k4]
   clear k1 k2 k3  k4 HEV hl1 hL0 hn0
   obtain⟨kb,ko,rfl,hkb,_⟩:=kid_in (HK.out W FrL.refl).2.1 hl0
   go_enter Tryz.func83,Tryz.ntmps83
   obtain⟨kb',ko',hsame,_,ai,ci,hnd,hrk⟩:=kid_in (HK.out W FrL.refl).2.1 hl0
   cases hsame
   rw[Nat.zero_mul,Nat.add_zero] at hnd
   have z0:=hnd.kind
   have z1:=hnd.num
   have z2:=hnd.name
   have z3:=hnd.kids
   have h9:=HIH.out 0 hl0 (N) W (c) (R) ai ci HS.out hrk (by have:=HSZ.out;have:=HSK.out;have:=HN0.out;omega)
   have H9:=ξ h9
   clear hnd hrk h9
   go_wp2_with fail
   clear z0 z1 z2 z3 x0 x1 x2 x3 hW
   refine H9.out.mono ?_
   rintro e w1 ⟨rfl,hs,hf⟩
   clear H9
   have Hw1:=ξ hs
   have HFw1:=ξ (FrL.trans FrL.refl hf)
   clear hs hf
   rw[HL0.out,HN0.out] at Hw1
   have HRES:=ξ (show irI64 L0.r from by have h9:=BdAt.res HS.out (t.kid 0) (by rw[HL0.out];exact Hw1.out);rw[HL0.out] at h9;exact h9)
   rw[HL0.out]
   go_wp2_with fail
   refine (constant_any 0 Hw1.out i64_0 (by have:=HSZ.out;have:=HSK.out;have:=HN0.out;omega)).mono ?_
   rintro e w2 ⟨rfl,hs,hf⟩
   have H2:=ξ hs
   have HF2:=ξ (FrL.trans HFw1.out hf)
   have hR2:L0.regs+1≤1000000:=Nat.le_trans hs.small.1 hs.cap
   clear hs hf
   go_wp2_with fail
   refine (binary_any 7 (L0.regs:Int) (L0.r:Int) H2.out (by decide) (i64_nat (by omega)) HRES.out (by have:=HSZ.out;have:=HSK.out;have:=HN0.out;omega)).mono ?_
   rintro e w3 ⟨rfl,hs,hf⟩
   have H3:=ξ hs
   have HFw3:=ξ (FrL.trans HF2.out hf)
   clear hs hf
   have HE5:=ξ (BdAt.mono H3.out (show N+16*n0+2+2≤N+16*t.size by have:=HSZ.out;have:=HSK.out;have:=HN0.out;omega) HSZ.out.1)
   have HF5:=ξ (HF0.out.trans HFw3.out)
   go_wp2_with fail
   go_ret
   rw[HE.out]
   refine⟨rfl,?_,HF5.out⟩
   have h9:=HE5.out
   simp only[List.append_assoc] at h9⊢
   exact h9
  by_cases k5:t.kind=5
  ·skip
   have b1:(t.kind == 1)=false:=by simp[k5]
   have b2:(t.kind == 2)=false:=by simp[k5]
   have b3:(t.kind == 3)=false:=by simp[k5]
   have b4:(t.kind == 4)=false:=by simp[k5]
   have b5:(t.kind == 5)=true:=by simp[k5]
   have hl1:t.len=1:=by rw[HLEN.out,k5];rfl
   have hl0:0<t.len:=by omega
   have hl0i:(0:Int)<(t.len:Int):=by omega
   have HSK:Hid (1+(t.kid 0).size≤t.size):=by show _≤_;have:=Tree.size_kid hl0;omega
   obtain⟨L0,hL0⟩:∃ L,(t.kid 0).lowE E V R=L:=⟨_,rfl⟩
   have HL0:=ξ hL0
   obtain⟨n0,hn0⟩:∃ n,(t.kid 0).size=n:=⟨_,rfl⟩
   have HN0:=ξ hn0
   have HE:Hid (t.lowE E V R=⟨L0.code++[insB 1 L0.regs 0 0 0 noB,insB 3 (L0.regs+1:Nat) L0.r L0.regs 16 noB],L0.regs+2,(L0.regs+1:Nat)⟩):=by
    show _=_;rw[HEV.out];unfold lowB;simp only[if_pos hl0,hL0];rw[if_neg (by omega),if_neg (by omega),if_neg (by omega),if_neg (by omega),if_pos k5]
   clear k1 k2 k3 k4 k5 HEV hl1 hL0 hn0
   obtain⟨kb,ko,rfl,hkb,_⟩:=kid_in (HK.out W FrL.refl).2.1 hl0
   go_enter Tryz.func83,Tryz.ntmps83
   obtain⟨kb',ko',hsame,_,ai,ci,hnd,hrk⟩:=kid_in (HK.out W FrL.refl).2.1 hl0
   cases hsame
   rw[Nat.zero_mul,Nat.add_zero] at hnd
   have z0:=hnd.kind
   have z1:=hnd.num
   have z2:=hnd.name
   have z3:=hnd.kids
   have h9:=HIH.out 0 hl0 (N) W (c) (R) ai ci HS.out hrk (by have:=HSZ.out;have:=HSK.out;have:=HN0.out;omega)
   have H9:=ξ h9
   clear hnd hrk h9
   go_wp2_with fail
   clear z0 z1 z2 z3 x0 x1 x2 x3 hW
   refine H9.out.mono ?_
   rintro e w1 ⟨rfl,hs,hf⟩
   clear H9
   have Hw1:=ξ hs
   have HFw1:=ξ (FrL.trans FrL.refl hf)
   clear hs hf
   rw[HL0.out,HN0.out] at Hw1
   have HRES:=ξ (show irI64 L0.r from by have h9:=BdAt.res HS.out (t.kid 0) (by rw[HL0.out];exact Hw1.out);rw[HL0.out] at h9;exact h9)
   rw[HL0.out]
   go_wp2_with fail
   refine (constant_any 0 Hw1.out i64_0 (by have:=HSZ.out;have:=HSK.out;have:=HN0.out;omega)).mono ?_
   rintro e w2 ⟨rfl,hs,hf⟩
   have H2:=ξ hs
   have HF2:=ξ (FrL.trans HFw1.out hf)
   have hR2:L0.regs+1≤1000000:=Nat.le_trans hs.small.1 hs.cap
   clear hs hf
   go_wp2_with fail
   refine (binary_any 16 (L0.r:Int) (L0.regs:Int) H2.out (by decide) HRES.out (i64_nat (by omega)) (by have:=HSZ.out;have:=HSK.out;have:=HN0.out;omega)).mono ?_
   rintro e w3 ⟨rfl,hs,hf⟩
   have H3:=ξ hs
   have HFw3:=ξ (FrL.trans HF2.out hf)
   clear hs hf
   have HE5:=ξ (BdAt.mono H3.out (show N+16*n0+2+2≤N+16*t.size by have:=HSZ.out;have:=HSK.out;have:=HN0.out;omega) HSZ.out.1)
   have HF5:=ξ (HF0.out.trans HFw3.out)
   go_wp2_with fail
   go_ret
   rw[HE.out]
   refine⟨rfl,?_,HF5.out⟩
   have h9:=HE5.out
   simp only[List.append_assoc] at h9⊢
   exact h9
  have b1:(t.kind == 1)=false:=by simp[k1]
  have b2:(t.kind == 2)=false:=by simp[k2]
  have b3:(t.kind == 3)=false:=by simp[k3]
  have b4:(t.kind == 4)=false:=by simp[k4]
  have b5:(t.kind == 5)=false:=by simp[k5]
  have hl2:t.len=2:=by rw[HLEN.out];unfold Fm.kids;rw[Fm.row_else t.kind (by omega)];rfl
  have hl0:0<t.len:=by omega
  have hl1:1<t.len:=by omega
  have hl0i:(0:Int)<(t.len:Int):=by omega
  have hl1i:(1:Int)<(t.len:Int):=by omega
  have HSK:Hid (1+(t.kid 0).size+(t.kid 1).size≤t.size):=by
   show _≤_
   rw[Tree.size_eq t,hl2]
   show _≤1+(0+(t.kid 0).size+(t.kid 1).size)
   omega
  obtain⟨L0,hL0⟩:∃ L,(t.kid 0).lowE E V R=L:=⟨_,rfl⟩
  have HL0:=ξ hL0
  obtain⟨n0,hn0⟩:∃ n,(t.kid 0).size=n:=⟨_,rfl⟩
  have HN0:=ξ hn0
  obtain⟨L1,hL1⟩:∃ L,(t.kid 1).lowE E V L0.regs=L:=⟨_,rfl⟩
  have HL1:=ξ hL1
  have HE:Hid (t.lowE E V R=⟨L0.code++L1.code++[insB 3 L1.regs L0.r L1.r t.kind noB],L1.regs+1,L1.regs⟩):=by
   show _=_;rw[HEV.out];unfold lowB;simp only[if_pos hl0,if_pos hl1,hL0,hL1];rw[if_neg k1,if_neg k2,if_neg k3,if_neg k4,if_neg k5]
  have hk8:0≤t.kind∧t.kind≤255:=hks
  clear k1 k2 k3 k4 k5 HEV hl2 hL0 hL1 hn0
  obtain⟨kb,ko,rfl,hkb,_⟩:=kid_in (HK.out W FrL.refl).2.1 hl0
  go_enter Tryz.func83,Tryz.ntmps83
  obtain⟨kb',ko',hsame,_,ai,ci,hnd,hrk⟩:=kid_in (HK.out W FrL.refl).2.1 hl0
  cases hsame
  rw[Nat.zero_mul,Nat.add_zero] at hnd
  have z0:=hnd.kind
  have z1:=hnd.num
  have z2:=hnd.name
  have z3:=hnd.kids
  have h9:=HIH.out 0 hl0 (N) W (c) (R) ai ci HS.out hrk (by have:=HSZ.out;have:=HSK.out;have:=HN0.out;omega)
  have H9:=ξ h9
  clear hnd hrk h9
  go_wp2_with fail
  clear z0 z1 z2 z3 x0 x1 x2 x3 hW
  refine H9.out.mono ?_
  rintro e w1 ⟨rfl,hs,hf⟩
  clear H9
  have Hw1:=ξ hs
  have HFw1:=ξ (FrL.trans FrL.refl hf)
  clear hs hf
  rw[HL0.out,HN0.out] at Hw1
  have HRES:=ξ (show irI64 L0.r from by have h9:=BdAt.res HS.out (t.kid 0) (by rw[HL0.out];exact Hw1.out);rw[HL0.out] at h9;exact h9)
  rw[HL0.out]
  obtain⟨kb',ko',hsame,_,ai,ci,hnd,hrk⟩:=kid_in (HK.out w1 HFw1.out).2.1 hl1
  cases hsame
  rw[Nat.one_mul] at hnd
  have z0:=hnd.kind
  have z1:=hnd.num
  have z2:=hnd.name
  have z3:=hnd.kids
  obtain⟨x0,x1,x2,x3⟩:=nd_cells (HK.out w1 HFw1.out).1
  have h9:=HIH.out 1 hl1 (N+16*n0) w1 (c++L0.code) (L0.regs) ai ci Hw1.out hrk (by have:=HSZ.out;have:=HSK.out;have:=HN0.out;omega)
  have H9:=ξ h9
  clear hnd hrk h9
  go_wp2_with fail
  clear z0 z1 z2 z3 x0 x1 x2 x3
  refine H9.out.mono ?_
  rintro e w2 ⟨rfl,hs,hf⟩
  clear H9
  have Hw2:=ξ hs
  have HFw2:=ξ (FrL.trans HFw1.out hf)
  clear hs hf
  rw[HL1.out] at Hw2
  have HRES1:=ξ (show irI64 L1.r from by have h9:=BdAt.res Hw1.out (t.kid 1) (by rw[HL1.out];exact Hw2.out);rw[HL1.out] at h9;exact h9)
  rw[HL1.out]
  obtain⟨x0,x1,x2,x3⟩:=nd_cells (HK.out _ HFw2.out).1
  go_wp2_with fail
  clear x0 x1 x2 x3
  refine (binary_any t.kind L0.r L1.r Hw2.out hk8 HRES.out HRES1.out (by have:=HSZ.out;have:=HSK.out;have:=HN0.out;omega)).mono ?_
  rintro e w3 ⟨rfl,hs,hf⟩
  have H3:=ξ hs
  have HFw3:=ξ (FrL.trans HFw2.out hf)
  clear hs hf
  have HE5:=ξ (BdAt.mono H3.out (show N+16*n0+16*(t.kid 1).size+2≤N+16*t.size by have:=HSZ.out;have:=HSK.out;have:=HN0.out;omega) HSZ.out.1)
  have HF5:=ξ (HF0.out.trans HFw3.out)
  go_wp2_with fail
  go_ret
  rw[HE.out]
  refine⟨rfl,?_,HF5.out⟩
  have h9:=HE5.out
  simp only[List.append_assoc] at h9⊢
  exact h9
