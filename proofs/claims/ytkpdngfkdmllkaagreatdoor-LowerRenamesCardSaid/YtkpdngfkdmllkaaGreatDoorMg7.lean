/- Part. -/
import Derived.RangeFuncNested
import Derived.RangeFuncBound
import Derived.RangeFuncLeaves
import Derived.WalkKit
import Derived.ControlIn
import Derived.Test.YtkpdngfkdmllkaaGreatDoorMg3
import Derived.OneCell
namespace Go.Proofs.YtkpdngfkdmllkaaGreatDoor
set_option linter.unusedVariables false
set_option linter.unusedSimpArgs false
open Go.RowKit
structure Keep(O:Nat→Prop)(W W':World):Prop where
 os:W'.os=W.os
 tape:W'.tape=W.tape
 output:W'.output=W.output
 size:W.heap.size≤W'.heap.size
 block:∀ k,¬ O k→k<W.heap.size→W'.heap[k]? = W.heap[k]?
theorem Keep.refl(O:Nat→Prop)(W:World):Keep O W W:=⟨rfl,rfl,rfl,Nat.le_refl _,fun _ _ _=>rfl⟩
theorem Keep.trans{O:Nat→Prop}{A B C:World}(h:Keep O A B)(k:Keep O B C):Keep O A C:=
 ⟨k.os.trans h.os,k.tape.trans h.tape,k.output.trans h.output,Nat.le_trans h.size k.size,fun i hi hl=>(k.block i hi (Nat.lt_of_lt_of_le hl h.size)).trans (h.block i hi hl)⟩
theorem Keep.mono{O O':Nat→Prop}{A B:World}(h:Keep O A B)(hO:∀ k,O k→O' k):Keep O' A B:=
 ⟨h.os,h.tape,h.output,h.size,fun k hk=>h.block k (fun x=>hk (hO k x))⟩
theorem Keep.ofBelow{O:Nat→Prop}{A B:World}(h:Below A.heap.size A B):Keep O A B:=⟨h.os,h.tape,h.output,h.size,fun k _ hk=>h.block k hk⟩
theorem Keep.below{O:Nat→Prop}{A B:World}(h:Keep O A B){N:Nat}(hN:N≤A.heap.size)(hO:∀ k,O k→N≤k):Below N A B:=
 ⟨h.os,h.tape,h.output,h.size,fun k hk=>h.block k (fun x=>by have:=hO k x;omega) (by omega)⟩
theorem Keep.putObj(O:Nat→Prop)(W:World)(r:Nat)(o:Obj)(hr:O r):Keep O W (W.putObj r o):=
 ⟨rfl,rfl,rfl,by simp,fun _ hk _=>World.putObj_heap_other (fun e=>hk (e ▸ hr))⟩
theorem Keep.put{O:Nat→Prop}{w W:World}(h:Keep O w W){r:Nat}(hr:w.heap.size≤r)(o:Obj):Keep O w (W.putObj r o):=
 ⟨h.os,h.tape,h.output,by have:=h.size;simpa using this,fun k hk hl=>(World.putObj_heap_other (by omega)).trans (h.block k hk hl)⟩
def Own{α:Type}(J:(Nat→Prop)→List α→World→Prop)(B:Nat→Prop)(N:Nat)(pre:List α)(W':World):Prop:=
 ∃ B':Nat→Prop,(∀ k,B' k→B k∨N≤k)∧(∀ k,B' k→k<W'.heap.size)∧J B' pre W'
theorem Own.trans{α:Type}{J:(Nat→Prop)→List α→World→Prop}{B B':Nat→Prop}{N M:Nat}{pre:List α}{W:World}(h:Own J B' M pre W)(hs:∀ k,B' k→B k∨N≤k)(hN:N≤M):Own J B N pre W:=by
 obtain⟨C,h1,h2,h3⟩:=h
 refine⟨C,fun k hk=>?_,h2,h3⟩
 rcases h1 k hk with h|h
 ·exact hs k h
 ·exact .inr (Nat.le_trans hN h)
theorem Keep.cell{O:Nat→Prop}{A B:World}(h:Keep O A B){b o:Nat}{v:Value}(hb:¬ O b)(hc:A.cell? ⟨b,o,none⟩=some v):B.cell? ⟨b,o,none⟩=some v:=
 (World.cell?_of_block (a:=⟨b,o,none⟩) (h.block b hb (World.block_lt_of_cell? A _ hc))).trans hc
theorem frozen_of_block{A B:World}{b o:Nat}(h:B.heap[b]? = A.heap[b]?):B.frozen? ⟨b,o,none⟩=A.frozen? ⟨b,o,none⟩:=by
 unfold World.frozen?;rw[h]
theorem Keep.frozen{O:Nat→Prop}{A B:World}(h:Keep O A B){b o:Nat}(hb:¬ O b)(hl:b<A.heap.size):B.frozen? ⟨b,o,none⟩=A.frozen? ⟨b,o,none⟩:=
 frozen_of_block (h.block b hb hl)
theorem Keep.setCell{O:Nat→Prop}{A B:World}(h:Keep O A B){b o:Nat}(hb:O b)(v:Value):Keep O A (B.setCell ⟨b,o,none⟩ v):=by
 have hx:=(Below.refl b B).setCell (p:=⟨b,o,none⟩) (Nat.le_refl _) v
 refine⟨hx.os.trans h.os,hx.tape.trans h.tape,hx.output.trans h.output,Nat.le_trans h.size hx.size,fun k hk hl=>?_⟩
 have hne:k≠b:=fun e=>hk (e ▸ hb)
 exact (Below.heap_setCell _ _ _ _ hne).trans (h.block k hk hl)
theorem Keep.drew{O:Nat→Prop}{A B:World}(h:Keep O A B):Keep O A B.drew:=⟨h.os,h.tape,h.output,h.size,h.block⟩
set_option maxRecDepth 100000
def SmallOk(t:Tree)(d L lb:Nat)(w:World)(e:Ending)(w':World):Prop:=
 ∃ (q:Bool) (L':Int),e = .returned (.bool q)∧Keep (fun k=>k=lb) w w'∧w'.heap[lb]? = some (.cells #[.int .i64 L'] 3 (0,0))∧q=decide (t.depth≤d∧t.size≤L)∧(q=true→L'=(L-t.size:Nat))
set_option maxHeartbeats 2000000 in
theorem isSmall_any:∀ (t:Tree) (d L lb:Nat) (w:World) (a:Option Addr) (c:Nat),RepIn (fun k=>k≠lb) w t a→d≤1000→L≤1000000→w.heap[lb]? = some (.cells #[.int .i64 (L:Nat)] 3 (0,0)) →
 Calls Tryz.prog 49 #[t.val a c,.int .i64 (d:Nat),.pointer (some ⟨lb,0,none⟩)] w (SmallOk t d L lb w):=by
 intro t
 induction t using Tree.ind with
 | h t ih =>
  intro d L lb w a c hr hd hL hlb
  have IH:=ξ ih
  have HR:=ξ hr
  have HLB:=ξ hlb
  have hlen:=hr.fits.len
  have hlbs:lb<w.heap.size:=(Array.getElem?_eq_some_iff.1 hlb).1
  have lc:w.cell? ⟨lb,0,none⟩=some (.int .i64 (L:Nat)):=cell_of_one hlb
  have lf:w.frozen? ⟨lb,0,none⟩=false:=free_of_one hlb
  have HSE:=ξ t.size_eq
  have HDE:=ξ t.depth_eq
  have hpos:=Tree.size_pos t
  clear ih hr hlb
  have HK0:Hid (∀ v:Value,Keep (fun k=>k=lb) w ((w.setCell ⟨lb,0,none⟩ v).alloc (.cells #[.int .u8 t.kind,.int .i64 t.num,.string t.name,.slice a t.len c] 47))):=fun v=>(Keep.setCell (O:=fun k=>k=lb) (b:=lb) (Keep.refl _ w) rfl v).trans (Keep.ofBelow ((Below.refl _ _).alloc (Nat.le_refl _) _))
  have HL0:Hid (∀ v:Value,((w.setCell ⟨lb,0,none⟩ v).alloc (.cells #[.int .u8 t.kind,.int .i64 t.num,.string t.name,.slice a t.len c] 47)).heap[lb]? = some (.cells #[v] 3 (0,0))):=fun v=>(Below.heap_alloc _ _ _ (by simpa using hlbs)).trans (one_setCell HLB.out)
  by_cases hd0:d=0
  ·subst hd0
   have HQ:Hid (decide (t.depth≤0∧t.size≤L)=false):=decide_eq_false (fun h=>by have:=HDE.out;omega)
   go_enter Tryz.func49,Tryz.ntmps49
   go_wp2_with fail
   go_ret
   exact⟨false,_,rfl,HK0.out _,HL0.out _,HQ.out.symm,fun h=>(by cases h)⟩
  ·have qd:((d:Int) == 0)=false:=by simpa using hd0
   have hd1:1≤d:=by omega
   clear hd0
   by_cases hL0:L=0
   ·have HQ:Hid (decide (t.depth≤d∧t.size≤L)=false):=decide_eq_false (fun h=>by omega)
    have hL1:(L:Int)-1<0:=by omega
    clear hL0
    go_enter Tryz.func49,Tryz.ntmps49
    go_wp2_with fail
    go_ret
    exact⟨false,_,rfl,HK0.out _,HL0.out _,HQ.out.symm,fun h=>(by cases h)⟩
   ·have hL1:1≤L:=by omega
    clear hL0
    go_enter Tryz.func49,Tryz.ntmps49
    go_wp2_with fail
    go_loopw [25] (fun i wr=>∃ j:Nat,j≤t.len∧i = .int .i64 j∧Tree.maxTo (fun i=>(t.kid i).depth) j<d∧Tree.sumTo (fun i=>(t.kid i).size) j≤L-1∧wr.heap[lb]? = some (.cells #[.int .i64 ((L-1-Tree.sumTo (fun i=>(t.kid i).size) j:Nat):Int)] 3 (0,0))∧Keep (fun k=>k=lb) w wr) (fun i _=>t.len-(intOf i).toNat)
    case atStart =>
     refine⟨0,Nat.zero_le _,rfl,hd1,Nat.zero_le _,?_,HK0.out _⟩
     rw[HL0.out]
     simp[Tree.sumTo];omega
    case round =>
     obtain⟨j,hj,rfl,hmax,hsum,hlw,hK⟩:=hrel
     have HK:=ξ hK
     have HLW:=ξ hlw
     have hsz:=hK.size
     clear hlw hK
     by_cases hlt:j<t.len
     ·rcases HR.out.kids with h0|⟨b,off,rfl,hSb,hc⟩
      ·omega
      obtain⟨ai,ci,hn,hrk⟩:=hc j hlt
      have hbW:=hn.lt
      obtain⟨f0,f1,f2,f3⟩:=hn.same (HK.out.block b hSb hbW)
      have HRK:=ξ hrk
      have HS1:=ξ (Tree.sumTo_succ (fun i=>(t.kid i).size) j)
      have HM1:=ξ (Tree.maxTo_succ (fun i=>(t.kid i).depth) j)
      have hsm:=Tree.sumTo_le (f:=fun i=>(t.kid i).size) (show j+1≤t.len by omega)
      have hmm:=Tree.maxTo_le (f:=fun i=>(t.kid i).depth) (show j+1≤t.len by omega)
      clear hc hn hrk
      go_wp2_with fail
      have HB2:Hid (Below wr.heap.size wr (wr.alloc (.cells #[.int .u8 (t.kid j).kind,.int .i64 (t.kid j).num,.string (t.kid j).name,.slice ai (t.kid j).len ci] 47))):=(Below.refl _ _).alloc (Nat.le_refl _) _
      have hcast:(d:Int)-1=((d-1:Nat):Int):=by omega
      rw[hcast]
      clear hcast
      refine (IH.out j hlt (d-1) (L-1-Tree.sumTo (fun i=>(t.kid i).size) j) lb _ ai ci (HRK.out.move (fun k hk hl=>(HB2.out.block k (by omega)).trans (HK.out.block k hk hl)) (fun _ h _=>h)) (by omega) (by omega) ((HB2.out.block lb (by omega)).trans HLW.out)).mono ?_
      rintro e w1 ⟨q,L',rfl,hK1,hl1,hq,hL'⟩
      have HK1:=ξ ((HK.out.trans (Keep.ofBelow HB2.out)).trans hK1)
      have HL1:=ξ hl1
      have HQ:=ξ hq
      have HL':=ξ hL'
      clear hK1 hl1 hq hL'
      cases q with
      | true =>
       have hqq:(t.kid j).depth≤d-1∧(t.kid j).size≤L-1-Tree.sumTo (fun i=>(t.kid i).size) j:=of_decide_eq_true HQ.out.symm
       have HN1:Hid (Tree.maxTo (fun i=>(t.kid i).depth) (j+1)<d):=by have:=HM1.out;show _<_;omega
       have HN2:Hid (Tree.sumTo (fun i=>(t.kid i).size) (j+1)≤L-1):=by have:=HS1.out;show _≤_;omega
       have HN3:Hid (w1.heap[lb]? = some (.cells #[.int .i64 ((L-1-Tree.sumTo (fun i=>(t.kid i).size) (j+1):Nat):Int)] 3 (0,0))):=by
        have h:=HL1.out
        rw[HL'.out rfl] at h
        have e:L-1-Tree.sumTo (fun i=>(t.kid i).size) j-(t.kid j).size=L-1-Tree.sumTo (fun i=>(t.kid i).size) (j+1):=by rw[HS1.out];omega
        rw[e] at h
        exact h
       clear hqq hsm hmm
       go_wp2_with fail
       go_roundw
       case rel=>exact⟨j+1,by omega,by go_num,HN1.out,HN2.out,HN3.out,HK1.out⟩
       case measure=>simp[intOf];omega
      | false =>
       have hqq:¬ ((t.kid j).depth≤d-1∧(t.kid j).size≤L-1-Tree.sumTo (fun i=>(t.kid i).size) j):=of_decide_eq_false HQ.out.symm
       have HN:Hid (decide (t.depth≤d∧t.size≤L)=false):=by
        refine decide_eq_false (fun h=>hqq ?_)
        have h1:=HDE.out;have h2:=HSE.out;have h3:=HS1.out;have h4:=HM1.out
        constructor <;> omega
       clear hqq hsm hmm
       go_wp2_with fail
       go_ret
       exact⟨false,_,rfl,HK1.out,HL1.out,HN.out.symm,fun h=>(by cases h)⟩
     ·obtain rfl:j=t.len:=by omega
      have HN:Hid (decide (t.depth≤d∧t.size≤L)=true):=by
       refine decide_eq_true ?_
       have h1:=HDE.out;have h2:=HSE.out
       constructor <;> omega
      have HN3:Hid (L-1-Tree.sumTo (fun i=>(t.kid i).size) t.len=L-t.size):=by have h2:=HSE.out;show _=_;omega
      go_wp2_with fail
      go_ret
      exact⟨true,_,rfl,HK.out,HLW.out,HN.out.symm,fun _=>by rw[HN3.out]⟩
