/- Part. -/
import Derived.Test.YtkpdngfkdmllkaaGreatDoorMg23
import Derived.Test.YtkpdngfkdmllkaaGreatDoorMg24
import Derived.Test.YtkpdngfkdmllkaaGreatDoorMg22
namespace Go.Proofs.YtkpdngfkdmllkaaGreatDoor
set_option linter.unusedVariables false
set_option linter.unusedSimpArgs false
open Go.RowKit
set_option maxRecDepth 100000
theorem inReg_nat{n regs:Int}(h:inReg n regs=true):∃ k:Nat,n=(k:Int)∧(k:Int)<regs:=by
 simp[inReg] at h
 exact⟨n.toNat,by omega,by omega⟩
theorem betw_iff{n lo hi:Int}(h:betw n lo hi=true):lo≤n∧n≤hi:=by simpa[betw] using h
theorem pos_lookB{ns:List (ByteArray×Bool)}{sym:ByteArray}:∀ {b:Bool},lookB ns sym=some b→pos (ns.map (·.1)) sym<(ns.map (·.1)).length:=by
 intro b h
 unfold lookB at h
 unfold pos
 rw[List.findIdx_lt_length]
 cases hf:ns.find? (fun p=>decide (p.1=sym)) with
 | none=>rw[hf] at h;cases h
 | some p =>
  refine⟨p.1,List.mem_map.2 ⟨p,List.mem_of_find?_eq_some hf,rfl⟩,?_⟩
  have:=List.find?_some hf
  exact this
theorem instr_any(N:Nat)(g:Geo)(ns:List (ByteArray×Bool))(inp:List Int)(regs:Int)(i:Ins)(w:World)(ov:Value)(s:IrSt)(h:RunAt N g (ns.map (·.1)) w ov s)(hi:i.Wf)(hok:insOk regs ns i=true)(hr:(s.regs.length:Int)=regs)
 (ia:Option Addr) (ic:Nat) (hinv:g.inv = .slice ia inp.length ic) (hin:IrWordsAt w ia inp) (hNw:∀ b,0<inp.length→ia.map Addr.block=some b→b<N) (hrd:s.read<8000000000) (hol:s.out.length<8000000000) :
 Calls Tryz.prog 39 #[.pointer (some ⟨g.rb,0,none⟩),i.val] w (StepOk N g (ns.map (·.1)) ov s w (step (ns.map (·.1)) inp i s)):=by
 obtain⟨op,d,x,y,imm,sym⟩:=i
 have hsz:sym.size≤9223372036854775807:=hi.sym
 have reg:∀ {n:Int},inReg n regs=true→∃ k:Nat,n=(k:Int)∧k<s.regs.length:=fun h=>by
  obtain⟨k,h1,h2⟩:=inReg_nat h
  exact⟨k,h1,by omega⟩
 have cnt:∀ {n:Int},betw n 0 3=true→n=0∨n=1∨n=2∨n=3:=fun h=>by
  have:=betw_iff h;omega
 unfold insOk at hok
 simp only at hok
 by_cases h1:op=1
 ·subst h1
  simp only[beq_self_eq_true,cond_true,Bool.and_eq_true] at hok
  obtain⟨⟨⟨⟨a1,a2⟩,a3⟩,a4⟩,a5⟩:=hok
  obtain⟨d,rfl,hd⟩:=reg a1
  obtain⟨b1,b2⟩:=betw_iff a2
  obtain rfl:x=0:=by simpa using a3
  obtain rfl:y=0:=by simpa using a4
  exact instr_1 N g _ inp d _ _ imm sym w ov s h hd b1 b2
 have h1':(op == 1)=false:=by simpa using h1
 rw[h1',cond_false] at hok
 by_cases h2:op=2
 ·subst h2
  simp only[beq_self_eq_true,cond_true,Bool.and_eq_true] at hok
  obtain⟨⟨⟨⟨a1,a2⟩,a3⟩,a4⟩,a5⟩:=hok
  obtain⟨d,rfl,hd⟩:=reg a1
  obtain⟨x,rfl,hx⟩:=reg a2
  exact instr_2 N g _ inp d x _ imm sym w ov s h hd hx
 have h2':(op == 2)=false:=by simpa using h2
 rw[h2',cond_false] at hok
 by_cases h3:op=3
 ·subst h3
  simp only[beq_self_eq_true,cond_true,Bool.and_eq_true] at hok
  obtain⟨⟨⟨⟨a1,a2⟩,a3⟩,a4⟩,a5⟩:=hok
  obtain⟨d,rfl,hd⟩:=reg a1
  obtain⟨x,rfl,hx⟩:=reg a2
  obtain⟨y,rfl,hy⟩:=reg a3
  obtain⟨b1,b2⟩:=betw_iff a4
  exact instr_3 N g _ inp d x y imm sym w ov s h hd hx hy b1 b2
 have h3':(op == 3)=false:=by simpa using h3
 rw[h3',cond_false] at hok
 by_cases h4:op=4∨op=6
 ·have h4':(op == 4 || op == 6)=true:=by simpa using h4
  rw[h4',cond_true] at hok
  simp only[Bool.and_eq_true] at hok
  obtain⟨⟨⟨⟨a1,a2⟩,a3⟩,a4⟩,a5⟩:=hok
  obtain⟨d,rfl,hd⟩:=reg a1
  obtain⟨x,rfl,hx⟩:=reg a2
  have hp:=pos_lookB (by simpa using a3)
  rcases h4 with rfl|rfl
  ·exact instr_4 N g _ inp d x _ imm sym w ov s h hd hx hsz hp
  ·exact instr_6 N g _ inp d x _ imm sym w ov s h hd hx hsz hp
 have h4':(op == 4 || op == 6)=false:=by simpa using h4
 rw[h4',cond_false] at hok
 by_cases h5:op=5∨op=7
 ·have h5':(op == 5 || op == 7)=true:=by simpa using h5
  rw[h5',cond_true] at hok
  simp only[Bool.and_eq_true] at hok
  obtain⟨⟨⟨⟨a1,a2⟩,a3⟩,a4⟩,a5⟩:=hok
  obtain⟨x,rfl,hx⟩:=reg a1
  obtain⟨y,rfl,hy⟩:=reg a2
  have hp:=pos_lookB (by simpa using a3)
  rcases h5 with rfl|rfl
  ·exact instr_5 N g _ inp _ x y imm sym w ov s h hx hy hsz hp
  ·exact instr_7 N g _ inp _ x y imm sym w ov s h hx hy hsz hp
 have h5':(op == 5 || op == 7)=false:=by simpa using h5
 rw[h5',cond_false] at hok
 by_cases h8:op=8
 ·subst h8
  simp only[beq_self_eq_true,cond_true,Bool.and_eq_true] at hok
  obtain⟨⟨⟨⟨a1,a2⟩,a3⟩,a4⟩,a5⟩:=hok
  obtain⟨x,rfl,hx⟩:=reg a1
  exact instr_8 N g _ inp _ x _ imm sym w ov s h hx
 have h8':(op == 8)=false:=by simpa using h8
 rw[h8',cond_false] at hok
 by_cases h9:op=9
 ·subst h9
  simp only[beq_self_eq_true,cond_true,Bool.and_eq_true] at hok
  obtain⟨⟨⟨⟨a1,a2⟩,a3⟩,a4⟩,a5⟩:=hok
  obtain⟨d,rfl,hd⟩:=reg a1
  exact instr_9 N g _ inp d _ _ imm sym w ov s h hd ia ic hinv hin hNw hrd
 have h9':(op == 9)=false:=by simpa using h9
 rw[h9',cond_false] at hok
 by_cases h10:op=10
 ·subst h10
  simp only[beq_self_eq_true,cond_true,Bool.and_eq_true] at hok
  obtain⟨⟨⟨⟨a1,a2⟩,a3⟩,a4⟩,a5⟩:=hok
  obtain⟨x,rfl,hx⟩:=reg a1
  exact instr_10 N g _ inp _ x _ imm sym w ov s h hx hol
 have h10':(op == 10)=false:=by simpa using h10
 rw[h10',cond_false] at hok
 by_cases h11:op=11∨op=12
 ·rcases h11 with rfl|rfl
  ·cases hl:s.locked with
   | true=>exact instr_11t N g _ inp _ _ _ imm sym w ov s h hsz hl
   | false=>exact instr_11f N g _ inp _ _ _ imm sym w ov s h hsz hl
  ·exact instr_12 N g _ inp _ _ _ imm sym w ov s h
 have h11':(op == 11 || op == 12)=false:=by simpa using h11
 rw[h11',cond_false] at hok
 by_cases h13:op=13∨op=14
 ·have h13':(op == 13 || op == 14)=true:=by simpa using h13
  rw[h13',cond_true] at hok
  simp only[Bool.and_eq_true] at hok
  obtain⟨⟨⟨⟨a1,a2⟩,a3⟩,a4⟩,a5⟩:=hok
  rcases h13 with rfl|rfl <;> rcases cnt a1 with rfl|rfl|rfl|rfl
  ·exact instr_13_0 N g _ inp _ _ _ sym w ov s h
  ·exact instr_13_1 N g _ inp _ _ _ sym w ov s h
  ·exact instr_13_2 N g _ inp _ _ _ sym w ov s h
  ·exact instr_13_3 N g _ inp _ _ _ sym w ov s h
  ·exact instr_14_0 N g _ inp _ _ _ sym w ov s h
  ·exact instr_14_1 N g _ inp _ _ _ sym w ov s h
  ·exact instr_14_2 N g _ inp _ _ _ sym w ov s h
  ·exact instr_14_3 N g _ inp _ _ _ sym w ov s h
 have h13':(op == 13 || op == 14)=false:=by simpa using h13
 rw[h13',cond_false] at hok
 by_cases h15:op=15
 ·subst h15
  simp only[beq_self_eq_true,cond_true,Bool.and_eq_true] at hok
  obtain⟨⟨⟨⟨a1,a2⟩,a3⟩,a4⟩,a5⟩:=hok
  obtain⟨d,rfl,hd⟩:=reg a1
  rcases cnt a2 with rfl|rfl|rfl|rfl
  ·exact instr_15_0 N g _ inp d _ _ sym w ov s h hd
  ·exact instr_15_1 N g _ inp d _ _ sym w ov s h hd
  ·exact instr_15_2 N g _ inp d _ _ sym w ov s h hd
  ·exact instr_15_3 N g _ inp d _ _ sym w ov s h hd
 have h15':(op == 15)=false:=by simpa using h15
 rw[h15',cond_false] at hok
 by_cases h16:op=16
 ·subst h16
  simp only[beq_self_eq_true,cond_true,Bool.and_eq_true] at hok
  obtain⟨⟨⟨⟨a1,a2⟩,a3⟩,a4⟩,a5⟩:=hok
  rcases cnt a1 with rfl|rfl|rfl|rfl
  ·exact instr_16_0 N g _ inp _ _ imm sym w ov s h
  ·exact instr_16_1 N g _ inp _ _ imm sym w ov s h
  ·exact instr_16_2 N g _ inp _ _ imm sym w ov s h
  ·exact instr_16_3 N g _ inp _ _ imm sym w ov s h
 have h16':(op == 16)=false:=by simpa using h16
 rw[h16',cond_false] at hok
 cases hok
def addArrs(ns:List (ByteArray×Bool)):List (ByteArray×Int)→Option (List (ByteArray×Bool))
 | []=>some ns
 | p::l=>bif (lookB ns p.1).isSome || decide (p.2<1) || decide (32<p.2) then none else addArrs (ns++[(p.1,true)]) l
def addObjs(ns:List (ByteArray×Bool)):List (ByteArray×Int)→Option (List (ByteArray×Bool))
 | []=>some ns
 | p::l=>bif (lookB ns p.1).isSome then none else addObjs (ns++[(p.1,false)]) l
def namesOf(f:Fn)(shared:List (ByteArray×Int)):Option (List (ByteArray×Bool)):=(addArrs [] f.arrays).bind fun ns=>addObjs ns shared
def blkOk(f:Fn)(ns:List (ByteArray×Bool))(b:Blk):Bool:=b.code.all (insOk f.regs ns) && endOk f.regs f.blocks.length b
def fnOk(f:Fn)(shared:List (ByteArray×Int)):Bool:=
 !(f.blocks.length == 0) && decide (0≤f.regs) && decide (f.regs≤10000) && decide (f.arrays.length≤4) &&
 match namesOf f shared with
 | none=>false
 | some ns=>f.blocks.all (blkOk f ns)
theorem drop_cons{α:Type}{l:List α}{k:Nat}{x:α}(h:l[k]? = some x):l.drop k=x::l.drop (k+1):=by
 obtain⟨hk,rfl⟩:=List.getElem?_eq_some_iff.1 h
 exact List.drop_eq_getElem_cons hk
theorem symMap_snoc(ns:List (ByteArray×Bool))(s:ByteArray)(b:Bool):symMap (ns++[(s,b)])=symMap ns++[(s,.bool b)]:=by simp[symMap]
theorem look_none{ns:List (ByteArray×Bool)}{s:ByteArray}(h:(lookB ns s).isSome=false):look (symMap ns) s=none:=by
 rw[look_symMap]
 cases hl:lookB ns s with
 | none=>rfl
 | some b=>rw[hl] at h;cases h
theorem lookv{ns:List (ByteArray×Bool)}{s:ByteArray}:(look (symMap ns) s).getD (.bool false) = .bool ((lookB ns s).getD false):=by
 rw[look_symMap];cases lookB ns s <;> rfl
theorem all_take{α:Type}{g:α→Bool}{l:List α}{k:Nat}{x:α}(h:l[k]? = some x)(h1:(l.take k).all g=true)(h2:g x=true):(l.take (k+1)).all g=true:=by
 obtain⟨hk,rfl⟩:=List.getElem?_eq_some_iff.1 h
 rw[List.take_succ_eq_append_getElem hk,List.all_append,h1]
 simp[h2]
theorem all_fail{α:Type}{g:α→Bool}{l:List α}{k:Nat}{x:α}(h:l[k]? = some x)(h2:g x=false):l.all g=false:=by
 rw[List.all_eq_false]
 exact⟨x,List.mem_of_getElem? h,by rw[h2];simp⟩
theorem lookok{ns:List (ByteArray×Bool)}{s:ByteArray}:(look (symMap ns) s).isSome=(lookB ns s).isSome:=by
 rw[look_symMap];cases lookB ns s <;> rfl
section
set_option maxHeartbeats 16000000
theorem ir_valid_any(f:Fn)(shared:List (ByteArray×Int))(aa ba sa:Option Addr)(ac bc sc:Nat)(w:World)(hf:FnAt w f aa ba)(hs:IrArrsAt w sa shared)(hsl:shared.length≤9223372036854770000) :
 Calls Tryz.prog 24 #[fnVal f.name f.regs aa f.arrays.length ac ba f.blocks.length bc,.slice sa shared.length sc] w fun e w'=>e = .returned (.bool (fnOk f shared))∧Below w.heap.size w w':=by
 have HF:=ξ hf
 have HS:=ξ hs
 have la:=hf.arrays.fits
 have lb:=hf.blocks.fits
 have ls:=hs.fits
 clear hf hs
 by_cases h1:f.blocks.length=0
 ·have hq:fnOk f shared=false:=by simp[fnOk,h1]
  rw[hq]
  have h1':(f.blocks.length:Int)=0:=by omega
  go_enter Tryz.func24,Tryz.ntmps24
  go_wp2_with fail
  go_ret
  exact⟨rfl,(Below.refl _ _).alloc (Nat.le_refl _) _⟩
 have h1':((f.blocks.length:Int) == 0)=false:=beq_eq_false_iff_ne.2 (by omega)
 by_cases h2:f.regs<0
 ·have hq:fnOk f shared=false:=by simp[fnOk];omega
  rw[hq]
  go_enter Tryz.func24,Tryz.ntmps24
  go_wp2_with fail
  go_ret
  exact⟨rfl,(Below.refl _ _).alloc (Nat.le_refl _) _⟩
 have h2':decide (f.regs<0)=false:=by simp;omega
 by_cases h3:10000<f.regs
 ·have hq:fnOk f shared=false:=by simp[fnOk];omega
  rw[hq]
  go_enter Tryz.func24,Tryz.ntmps24
  go_wp2_with fail
  go_ret
  exact⟨rfl,(Below.refl _ _).alloc (Nat.le_refl _) _⟩
 have h3':decide (10000<f.regs)=false:=by simp;omega
 by_cases h4:4<f.arrays.length
 ·have hq:fnOk f shared=false:=by simp[fnOk];omega
  rw[hq]
  have h4':(4:Int)<(f.arrays.length:Int):=by omega
  go_enter Tryz.func24,Tryz.ntmps24
  go_wp2_with fail
  go_ret
  exact⟨rfl,(Below.refl _ _).alloc (Nat.le_refl _) _⟩
 have h4':decide ((4:Int)<(f.arrays.length:Int))=false:=by simp;omega
 have HQ:Hid (fnOk f shared=match namesOf f shared with | none=>false | some ns=>f.blocks.all (blkOk f ns)):=by
  show _=_
  unfold fnOk
  rw[decide_eq_true (show 0≤f.regs by omega),decide_eq_true (show f.regs≤10000 by omega),decide_eq_true (show f.arrays.length≤4 by omega)]
  simp[h1]
 clear h1 h2 h3
 obtain⟨W,hW⟩:∃ W:World,(w.alloc (.cells #[.string f.name,.int .i64 f.regs,.slice aa f.arrays.length ac,.slice ba f.blocks.length bc] 34))=W:=⟨_,rfl⟩
 have hWs:W.heap.size=w.heap.size+1:=by rw[←hW];simp
 have HBW:Hid (Below w.heap.size w W):=by show Below _ _ _;rw[←hW];exact (Below.refl _ _).alloc (Nat.le_refl _) _
 have x0:W.cell? ⟨w.heap.size,0,none⟩=some (.string f.name):=by rw[←hW];simp
 have x1:W.cell? ⟨w.heap.size,1,none⟩=some (.int .i64 f.regs):=by rw[←hW];simp
 have x2:W.cell? ⟨w.heap.size,2,none⟩=some (.slice aa f.arrays.length ac):=by rw[←hW];simp
 have x3:W.cell? ⟨w.heap.size,3,none⟩=some (.slice ba f.blocks.length bc):=by rw[←hW];simp
 have HX:=ξ (And.intro x0 (And.intro x1 (And.intro x2 x3)))
 have HWF:=ξ (HF.out.below HBW.out)
 have HWS:=ξ (HS.out.below HBW.out)
 clear HF HS
 have hmm:=@run_makeMap Tryz.prog
 go_enter Tryz.func24,Tryz.ntmps24
 go_wp2_with fail
 clear hW x0 x1 x2 x3 h1' h2' h3' h4' hmm
 go_loopw [42] (fun i wr=>∃ (j:Nat) (ns:List (ByteArray×Bool)),j≤f.arrays.length∧i = .int .i64 j∧ns.length≤j∧addArrs ns (f.arrays.drop j)=addArrs [] f.arrays∧MapAt Tryz.prog 9 wr (w.heap.size+1) (symMap ns)∧Below W.heap.size W wr) (fun i _=>f.arrays.length-(intOf i).toNat)
 case atStart =>
  refine⟨0,[],Nat.zero_le _,rfl,Nat.le_refl _,rfl,?_,(Below.refl _ _).alloc (Nat.le_refl _) _⟩
  rw[←hWs]
  exact MapAt.made _ _ _
 case round =>
  obtain⟨j,ns,hj,rfl,hnl,hadd,hmap,hB⟩:=hrel
  have HADD:=ξ hadd
  have HMAP:=ξ hmap
  have hBs:=hB.size
  have HB:=ξ hB
  clear hadd hmap hB
  have hk0:(0:Int)≤(j:Int):=by omega
  by_cases hlt:j<f.arrays.length
  ·obtain⟨p,hp⟩:∃ p,f.arrays[j]? = some p:=⟨_,List.getElem?_eq_getElem hlt⟩
   have hps:=HWF.out.arrays.sizes p (List.mem_of_getElem? hp)
   rcases HWF.out.arrays.at_ with h0|⟨b,off,rfl,hc⟩
   ·omega
   obtain⟨c1,c2⟩:=hc j p hp
   have f1:=ir_cell_below HB.out c1
   have f2:=ir_cell_below HB.out c2
   have HD:=ξ (drop_cons hp)
   have hk1:(j:Int)<(f.arrays.length:Int):=by omega
   have hBn:Below W.heap.size W (wr.alloc (.cells #[.string p.1,.int .i64 p.2] 73)):=HB.out.alloc hBs _
   have HBN:=ξ hBn
   have HMN:=ξ (HMAP.out.move (w':=wr.alloc (.cells #[.string p.1,.int .i64 p.2] 73)) (Below.heap_alloc _ _ _ HMAP.out.lt))
   clear hc hp c1 c2 hBn
   obtain⟨t,ht⟩:∃ t,(lookB ns p.1).isSome=t:=⟨_,rfl⟩
   obtain⟨u,hu⟩:∃ u,(lookB ns p.1).getD false=u:=⟨_,rfl⟩
   have HT:=ξ ht
   have HU:=ξ hu
   clear ht hu
   by_cases hbad:t=true∨p.2<1∨32<p.2
   ·have HN:Hid (fnOk f shared=false):=by
     show _=_
     have:addArrs [] f.arrays=none:=by
      rw[←HADD.out,HD.out]
      show (bif _ then _ else _)=_
      rw[HT.out]
      have:(t || decide (p.2<1) || decide (32<p.2))=true:=by simpa[or_assoc] using hbad
      rw[this]
      rfl
     rw[HQ.out]
     unfold namesOf
     rw[this]
     rfl
    have hbad':(t=true)∨(t=false∧p.2<1)∨(t=false∧decide (p.2<1)=false∧32<p.2):=by
     cases t
     ·by_cases q:p.2<1
      ·exact .inr (.inl ⟨rfl,q⟩)
      ·exact .inr (.inr ⟨rfl,by simpa using q,by simp at hbad;omega⟩)
     ·exact .inl rfl
    clear hbad
    rcases hbad' with rfl|⟨rfl,q⟩|⟨rfl,q,q'⟩
    all_goals
     go_wp2_with (first | (at_lookup;refine wpList_look_ok _ rfl _ _ 94 rfl 9 4 Tryz.underlying9 Tryz.underlying94 (ir_zeroB _) (w.heap.size+1) (symMap ns) rfl HMN.out p.1 rfl hps (.bool u) _ (by rw[lookv,HU.out]) (by rw[lookok,HT.out]) ?_))
     go_ret
     exact⟨by rw[HN.out];rfl,HBW.out.trans (HBN.out.mono (by omega))⟩
   ·have ht:t=false:=by cases t <;> simp_all
    subst ht
    have q1:decide (p.2<1)=false:=by simp at hbad ⊢;omega
    have q2:decide (32<p.2)=false:=by simp at hbad ⊢;omega
    have HN:Hid (addArrs (ns++[(p.1,true)]) (f.arrays.drop (j+1))=addArrs [] f.arrays):=by
     show _=_
     rw[←HADD.out,HD.out]
     show _=(bif _ then _ else _)
     rw[HT.out,q1,q2]
     rfl
    clear hbad
    go_wp2_with (first
     | (at_lookup;refine wpList_look_ok _ rfl _ _ 94 rfl 9 4 Tryz.underlying9 Tryz.underlying94 (ir_zeroB _) (w.heap.size+1) (symMap ns) rfl HMN.out p.1 rfl hps (.bool u) _ (by rw[lookv,HU.out]) (by rw[lookok,HT.out]) ?_)
     | (at_mapUpdate;refine wpList_mapStore _ rfl _ _ _ 94 rfl 9 4 Tryz.underlying9 Tryz.underlying94 (w.heap.size+1) (symMap ns) rfl HMN.out p.1 _ rfl rfl hps (by simp[symMap,maxLen];omega) (look_none HT.out) ?_))
    intro w2 hm2 hg2
    have HM2:=ξ hm2
    have HB2:=ξ (HBN.out.grown hg2 (by simp;omega) (fun k hk=>by cases hk;omega))
    clear hm2 hg2
    go_wp2_with fail
    go_roundw
    case rel=>exact⟨j+1,ns++[(p.1,true)],by omega,by go_num,by simp;omega,HN.out,by rw[symMap_snoc];exact HM2.out,HB2.out⟩
    case measure=>simp[intOf];omega
  ·obtain rfl:j=f.arrays.length:=by omega
   have HA:Hid (addArrs [] f.arrays=some ns):=by show _=_;rw[←HADD.out,List.drop_length];rfl
   have hn4:ns.length≤4:=by omega
   have HQ2:Hid (fnOk f shared=match addObjs ns shared with | none=>false | some ns=>f.blocks.all (blkOk f ns)):=by
    show _=_
    rw[HQ.out]
    unfold namesOf
    rw[HA.out]
    rfl
   clear HADD hlt hnl hj hk0 HQ HA
   go_wp2_with fail
   go_loopw [70] (fun i wr=>∃ (j:Nat) (ms:List (ByteArray×Bool)),j≤shared.length∧i = .int .i64 j∧ms.length≤j+4∧addObjs ms (shared.drop j)=addObjs ns shared∧MapAt Tryz.prog 9 wr (w.heap.size+1) (symMap ms)∧Below W.heap.size W wr) (fun i _=>shared.length-(intOf i).toNat)
   case atStart=>exact⟨0,ns,Nat.zero_le _,rfl,by omega,rfl,HMAP.out,HB.out⟩
   case round =>
    clear HMAP HB hBs
    rename_i wr'
    obtain⟨j,ms,hj,rfl,hnl,hadd,hmap,hB⟩:=hrel
    have HADD:=ξ hadd
    have HMAP:=ξ hmap
    have hBs:=hB.size
    have HB:=ξ hB
    clear hadd hmap hB
    have hk0:(0:Int)≤(j:Int):=by omega
    by_cases hlt:j<shared.length
    ·obtain⟨p,hp⟩:∃ p,shared[j]? = some p:=⟨_,List.getElem?_eq_getElem hlt⟩
     have hps:=HWS.out.sizes p (List.mem_of_getElem? hp)
     rcases HWS.out.at_ with h0|⟨b,off,rfl,hc⟩
     ·omega
     obtain⟨c1,c2⟩:=hc j p hp
     have f1:=ir_cell_below HB.out c1
     have f2:=ir_cell_below HB.out c2
     have HD:=ξ (drop_cons hp)
     have hk1:(j:Int)<(shared.length:Int):=by omega
     have hBn:Below W.heap.size W (wr.alloc (.cells #[.string p.1,.int .i64 p.2] 73)):=HB.out.alloc hBs _
     have HBN:=ξ hBn
     have HMN:=ξ (HMAP.out.move (w':=wr.alloc (.cells #[.string p.1,.int .i64 p.2] 73)) (Below.heap_alloc _ _ _ HMAP.out.lt))
     clear hc hp c1 c2 hBn
     obtain⟨t,ht⟩:∃ t,(lookB ms p.1).isSome=t:=⟨_,rfl⟩
     obtain⟨u,hu⟩:∃ u,(lookB ms p.1).getD false=u:=⟨_,rfl⟩
     have HT:=ξ ht
     have HU:=ξ hu
     clear ht hu
     cases t with
     | true =>
      have HN:Hid (fnOk f shared=false):=by
       show _=_
       have:addObjs ns shared=none:=by
        rw[←HADD.out,HD.out]
        show (bif _ then _ else _)=_
        rw[HT.out]
        rfl
       rw[HQ2.out,this]
      go_wp2_with (first | (at_lookup;refine wpList_look_ok _ rfl _ _ 94 rfl 9 4 Tryz.underlying9 Tryz.underlying94 (ir_zeroB _) (w.heap.size+1) (symMap ms) rfl HMN.out p.1 rfl hps (.bool u) _ (by rw[lookv,HU.out]) (by rw[lookok,HT.out]) ?_))
      go_ret
      exact⟨by rw[HN.out];rfl,HBW.out.trans (HBN.out.mono (by omega))⟩
     | false =>
      have HN:Hid (addObjs (ms++[(p.1,false)]) (shared.drop (j+1))=addObjs ns shared):=by
       show _=_
       rw[←HADD.out,HD.out]
       show _=(bif _ then _ else _)
       rw[HT.out]
       rfl
      go_wp2_with (first
       | (at_lookup;refine wpList_look_ok _ rfl _ _ 94 rfl 9 4 Tryz.underlying9 Tryz.underlying94 (ir_zeroB _) (w.heap.size+1) (symMap ms) rfl HMN.out p.1 rfl hps (.bool u) _ (by rw[lookv,HU.out]) (by rw[lookok,HT.out]) ?_)
       | (at_mapUpdate;refine wpList_mapStore _ rfl _ _ _ 94 rfl 9 4 Tryz.underlying9 Tryz.underlying94 (w.heap.size+1) (symMap ms) rfl HMN.out p.1 _ rfl rfl hps (by simp[symMap,maxLen];omega) (look_none HT.out) ?_))
      intro w2 hm2 hg2
      have HM2:=ξ hm2
      have HB2:=ξ (HBN.out.grown hg2 (by simp;omega) (fun k hk=>by cases hk;omega))
      clear hm2 hg2
      go_wp2_with fail
      go_roundw
      case rel=>exact⟨j+1,ms++[(p.1,false)],by omega,by go_num,by simp;omega,HN.out,by rw[symMap_snoc];exact HM2.out,HB2.out⟩
      case measure=>simp[intOf];omega
    ·obtain rfl:j=shared.length:=by omega
     have HQ3:Hid (fnOk f shared=f.blocks.all (blkOk f ms)):=by
      show _=_
      rw[HQ2.out,←HADD.out,List.drop_length]
      rfl
     clear HADD HQ2 hlt hj hk0 hnl
     obtain⟨x0,x1,x2,x3⟩:=HX.out
     have y3:=(HB.out.cell (p:=⟨w.heap.size,3,none⟩) (by show w.heap.size<_;omega)).trans x3
     clear x0 x1 x2 x3
     go_wp2_with fail
     clear y3
     go_loopw [89] (fun i wr=>∃ (j:Nat),j≤f.blocks.length∧i = .int .i64 j∧(f.blocks.take j).all (blkOk f ms)=true∧MapAt Tryz.prog 9 wr (w.heap.size+1) (symMap ms)∧Below W.heap.size W wr) (fun i _=>f.blocks.length-(intOf i).toNat)
     case atStart=>exact⟨0,Nat.zero_le _,rfl,rfl,HMAP.out,HB.out⟩
     case round =>
      clear HMAP HB hBs
      rename_i wr''
      obtain⟨j,hj,rfl,hall,hmap,hB⟩:=hrel
      have HALL:=ξ hall
      have HMAP:=ξ hmap
      have hBs:=hB.size
      have HB:=ξ hB
      clear hall hmap hB
      have hk0:(0:Int)≤(j:Int):=by omega
      by_cases hlt:j<f.blocks.length
      ·obtain⟨p,hp⟩:∃ p,f.blocks[j]? = some p:=⟨_,List.getElem?_eq_getElem hlt⟩
       have HP:=ξ hp
       rcases HWF.out.blocks.at_ with h0|⟨b,off,rfl,hc⟩
       ·omega
       obtain⟨ca,cc,hblk,hcode⟩:=hc j p hp
       have hb2:=hblk.below HB.out
       have HCODE:=ξ hcode
       have hcl:=hcode.fits
       obtain⟨f0,f1,f2,f3,f4⟩:=hb2
       have hk1:(j:Int)<(f.blocks.length:Int):=by omega
       clear hc hp hblk hcode
       obtain⟨V,hV⟩:∃ V:World,wr.alloc (.cells #[.slice ca p.code.length cc,.int .u8 p.kind,.int .i64 p.x,.int .i64 p.to,.int .i64 p.els] 98)=V:=⟨_,rfl⟩
       have hVs:V.heap.size=wr.heap.size+1:=by rw[←hV];simp
       have HVM:Hid (MapAt Tryz.prog 9 V (w.heap.size+1) (symMap ms)):=by show MapAt _ _ _ _ _;rw[←hV];exact HMAP.out.move (Below.heap_alloc _ _ _ HMAP.out.lt)
       have HVB:Hid (Below W.heap.size W V):=by show Below _ _ _;rw[←hV];exact HB.out.alloc hBs _
       have v0:V.cell? ⟨wr.heap.size,0,none⟩=some (.slice ca p.code.length cc):=by rw[←hV];simp
       have v1:V.cell? ⟨wr.heap.size,1,none⟩=some (.int .u8 p.kind):=by rw[←hV];simp
       have v2:V.cell? ⟨wr.heap.size,2,none⟩=some (.int .i64 p.x):=by rw[←hV];simp
       have v3:V.cell? ⟨wr.heap.size,3,none⟩=some (.int .i64 p.to):=by rw[←hV];simp
       have v4:V.cell? ⟨wr.heap.size,4,none⟩=some (.int .i64 p.els):=by rw[←hV];simp
       have HV:=ξ (And.intro v0 (And.intro v1 (And.intro v2 (And.intro v3 v4))))
       go_wp2_with fail
       clear hV v0 v1 v2 v3 v4 f0 f1 f2 f3 f4
       obtain⟨wo,rfl⟩:∃ wo:World,wo=wr:=⟨_,rfl⟩
       go_loopw [96] (fun i wr=>∃ (k:Nat),k≤p.code.length∧i = .int .i64 k∧(p.code.take k).all (insOk f.regs ms)=true∧Below V.heap.size V wr) (fun i _=>p.code.length-(intOf i).toNat)
       case atStart=>exact⟨0,Nat.zero_le _,rfl,rfl,Below.refl _ _⟩
       case round =>
        obtain⟨k,hk,rfl,hal,hB4⟩:=hrel
        have hw9:w.heap.size<wr.heap.size:=by have:=hB4.size;omega
        have HAL:=ξ hal
        have hB4s:=hB4.size
        have HB4:=ξ hB4
        clear hal hB4
        have hk2:(0:Int)≤(k:Int):=by omega
        have HBA:=ξ (HVB.out.trans (HB4.out.mono (by omega)))
        have HMA:=ξ (HVM.out.below HB4.out)
        obtain⟨x0,x1,x2,x3⟩:=HX.out
        have y0:=(HBA.out.cell (p:=⟨w.heap.size,0,none⟩) (by show w.heap.size<_;omega)).trans x0
        have y1:=(HBA.out.cell (p:=⟨w.heap.size,1,none⟩) (by show w.heap.size<_;omega)).trans x1
        have y2:=(HBA.out.cell (p:=⟨w.heap.size,2,none⟩) (by show w.heap.size<_;omega)).trans x2
        have y3:=(HBA.out.cell (p:=⟨w.heap.size,3,none⟩) (by show w.heap.size<_;omega)).trans x3
        clear x0 x1 x2 x3
        by_cases hkl:k<p.code.length
        ·obtain⟨q,hq⟩:∃ q,p.code[k]? = some q:=⟨_,List.getElem?_eq_getElem hkl⟩
         have HQI:=ξ hq
         have hqs:=(HCODE.out.wf q (List.mem_of_getElem? hq)).sym
         rcases HCODE.out.at_ with h0|⟨cb,co,rfl,hcc⟩
         ·omega
         obtain⟨c0,c1,c2,c3,c4,c5⟩:=(hcc k q hq).below HBA.out
         have hk3:(k:Int)<(p.code.length:Int):=by omega
         clear hcc hq
         cases ho:insOk f.regs ms q with
         | true =>
          have HN:Hid ((p.code.take (k+1)).all (insOk f.regs ms)=true):=all_take HQI.out HAL.out ho
          have HO:=ξ ho
          clear ho
          go_wp2_with fail
          refine (validIns_any f.name f.regs aa (some ⟨b,off,none⟩) _ ac _ bc ms (w.heap.size+1) q _ hqs (HMA.out.move (Below.heap_alloc _ _ _ HMA.out.lt))).mono ?_
          rintro e w5 ⟨rfl,hB5⟩
          rw[HO.out]
          have HB5:=ξ ((HB4.out.alloc hB4s _).trans (hB5.mono (by simp;omega)))
          clear hB5 c0 c1 c2 c3 c4 c5
          go_wp2_with fail
          go_roundw
          case rel=>exact⟨k+1,by omega,by go_num,HN.out,HB5.out⟩
          case measure=>simp[intOf];omega
         | false =>
          have HN:Hid (fnOk f shared=false):=by
           show _=_
           rw[HQ3.out]
           refine all_fail HP.out ?_
           unfold blkOk
           rw[all_fail HQI.out ho]
           rfl
          have HO:=ξ ho
          clear ho
          go_wp2_with fail
          refine (validIns_any f.name f.regs aa (some ⟨b,off,none⟩) _ ac _ bc ms (w.heap.size+1) q _ hqs (HMA.out.move (Below.heap_alloc _ _ _ HMA.out.lt))).mono ?_
          rintro e w5 ⟨rfl,hB5⟩
          rw[HO.out]
          have HB5:=ξ ((HBA.out.alloc (by omega) _).trans (hB5.mono (by simp;omega)))
          clear hB5 c0 c1 c2 c3 c4 c5
          go_wp2_with fail
          go_ret
          exact⟨by rw[HN.out];rfl,HBW.out.trans (HB5.out.mono (by omega))⟩
        ·obtain rfl:k=p.code.length:=by omega
         obtain⟨v0,v1,v2,v3,v4⟩:=HV.out
         have u0:=(HB4.out.cell (p:=⟨wo.heap.size,0,none⟩) (by show wo.heap.size<_;omega)).trans v0
         have u1:=(HB4.out.cell (p:=⟨wo.heap.size,1,none⟩) (by show wo.heap.size<_;omega)).trans v1
         have u2:=(HB4.out.cell (p:=⟨wo.heap.size,2,none⟩) (by show wo.heap.size<_;omega)).trans v2
         have u3:=(HB4.out.cell (p:=⟨wo.heap.size,3,none⟩) (by show wo.heap.size<_;omega)).trans v3
         have u4:=(HB4.out.cell (p:=⟨wo.heap.size,4,none⟩) (by show wo.heap.size<_;omega)).trans v4
         clear v0 v1 v2 v3 v4
         go_wp2_with fail
         refine (validEnd_any f.name f.regs aa (some ⟨b,off,none⟩) _ ac f.blocks.length bc p ca cc _ lb).mono ?_
         rintro e w5 ⟨rfl,hB5⟩
         have HB5:=ξ (HBA.out.trans (hB5.mono (by omega)))
         have HM5:=ξ (HMA.out.below hB5)
         clear hB5 u0 u1 u2 u3 u4
         cases ho:endOk f.regs f.blocks.length p with
         | true =>
          have HN:Hid ((f.blocks.take (j+1)).all (blkOk f ms)=true):=by
           refine all_take HP.out HALL.out ?_
           unfold blkOk
           rw[ho]
           have:=HAL.out
           rw[List.take_length] at this
           rw[this]
           rfl
          clear ho
          go_wp2_with fail
          go_roundw
          case rel=>exact⟨j+1,by omega,by go_num,HN.out,HM5.out,HB5.out⟩
          case measure=>simp[intOf];omega
         | false =>
          have HN:Hid (fnOk f shared=false):=by
           show _=_
           rw[HQ3.out]
           refine all_fail HP.out ?_
           unfold blkOk
           rw[ho]
           simp
          clear ho
          go_wp2_with fail
          go_ret
          exact⟨by rw[HN.out];rfl,HBW.out.trans (HB5.out.mono (by omega))⟩
      ·obtain rfl:j=f.blocks.length:=by omega
       have HN:Hid (fnOk f shared=true):=by show _=_;rw[HQ3.out,←HALL.out,List.take_length]
       go_wp2_with fail
       go_ret
       exact⟨by rw[HN.out];rfl,HBW.out.trans (HB.out.mono (by omega))⟩
end
