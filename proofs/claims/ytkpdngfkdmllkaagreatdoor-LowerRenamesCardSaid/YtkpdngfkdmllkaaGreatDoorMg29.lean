/- Part. -/
import Derived.Test.YtkpdngfkdmllkaaGreatDoorIrRunC
import Derived.IntWalk
import Derived.OwnWalk
import Derived.Lib.SliceRun
namespace Go.Proofs.YtkpdngfkdmllkaaGreatDoor
set_option linter.unusedVariables false
set_option linter.unusedSimpArgs false
open Go.RowKit
set_option maxRecDepth 100000
set_option maxHeartbeats 8000000
theorem out_eql(W:World)(x y:Int):(binOp .eql 64 (.agg #[.int .i64 x,.int .i32 y]) (.agg #[.int .i64 x,.int .i32 y])).run Tryz.prog W = .ok (.bool true) W:=by
 have u3:=Tryz.underlying3
 have a3:=Tryz.isAgg3
 have z3:=Tryz.sizeOf3
 have u9:=Tryz.underlying21
 have a9:=Tryz.isAgg21
 have z9:=Tryz.sizeOf21
 have hS:Tryz.prog.underlying 64=some (.struct (Tryz.prog.fieldsOf 64)):=by kernel_rfl
 have hp:Tryz.prog.stoodInHeld 64=false:=by kernel_rfl
 rw[run_eql_struct,show (10000:Nat)=9999+1 from rfl,run_equalIn_agg W 9999 64 _ _ hS hp]
 simp only[Program.fieldsOf,Tryz.underlying64]
 go_simp
set_option maxHeartbeats 4000000
theorem flat_len{α:Type}{f:α→List Value}{n:Nat}(h:∀ x,(f x).length=n)(l:List α):(l.flatMap f).length=l.length*n:=by
 induction l with
 | nil=>simp
 | cons x l ih=>rw[List.flatMap_cons,List.length_append,ih,h,List.length_cons,Nat.succ_mul,Nat.add_comm]
theorem flat_get{α:Type}{f:α→List Value}{n:Nat}(h:∀ x,(f x).length=n):∀ {l:List α} {k:Nat} {x:α} {o:Nat},l[k]? = some x→o<n→(l.flatMap f)[k*n+o]? = (f x)[o]?:=by
 intro l
 induction l with
 | nil=>intro k x o hk;cases hk
 | cons y l ih =>
  intro k x o hk ho
  rw[List.flatMap_cons]
  match k,hk with
  | 0,hk =>
   cases hk
   rw[Nat.zero_mul,Nat.zero_add,List.getElem?_append_left (by rw[h];exact ho)]
  | k+1,hk =>
   have e:(k+1)*n+o=n+(k*n+o):=by rw[Nat.succ_mul];omega
   rw[e,List.getElem?_append_right (by rw[h];omega),h,Nat.add_sub_cancel_left]
   exact ih hk ho
theorem flat_snoc{α:Type}{f:α→List Value}(l:List α)(x:α):(l++[x]).flatMap f=l.flatMap f++f x:=by simp
def Ins.cells(i:Ins):List Value:=[.int .u8 i.op,.int .i64 i.dst,.int .i64 i.x,.int .i64 i.y,.int .i64 i.imm,.string i.sym]
theorem Ins.cells_len(i:Ins):i.cells.length=6:=rfl
def codeCells(l:List Ins):List Value:=l.flatMap Ins.cells
theorem own_cell{w:World}{base:Nat}{e:TypeId}{size gb m n cap:Nat}{xs:List Value}{j:Nat}{u:Value}(h:w.ownsRow base e size (.slice (some ⟨gb,0,none⟩) m cap) n xs)(hu:xs[j]? = some u):w.cell? ⟨gb,j,none⟩=some u:=by
 have:=h.cells (v:=.slice (some ⟨gb,0,none⟩) m cap) rfl j u hu
 have e:(⟨gb,0,none⟩:Addr).add j=⟨gb,j,none⟩:=by
  unfold Addr.add
  by_cases h0:j=0 <;> simp[h0]
 rwa [e] at this
def LiesIn(N M:Nat)(a:Option Addr):Prop:=∀ d,a=some d→N≤d.block∧d.block<M
theorem LiesIn.mono{N N' M M':Nat}{a:Option Addr}(h:LiesIn N M a)(h1:N'≤N)(h2:M≤M'):LiesIn N' M' a:=fun d hd=>⟨Nat.le_trans h1 (h d hd).1,Nat.lt_of_lt_of_le (h d hd).2 h2⟩
theorem code_own{w:World}{N:Nat}{T:TypeId}{v:Value}{l:List Ins}(h:w.ownsRow N T 6 v l.length (codeCells l))(hw:∀ i∈l,i.Wf)(hf:l.length≤9223372036854775807) :
 ∃ a c,v = .slice a l.length c∧CodeAt w a l∧LiesIn N w.heap.size a∧l.length≤c∧(∀ d,a=some d→v.ownBlock=some d.block):=by
 rcases ownsRow_form h with⟨rfl,h0⟩|⟨g,cap,rfl,h1,h2,h3⟩
 ·exact⟨none,0,by rw[h0],⟨hf,hw,.inl h0⟩,fun d hd=>(by cases hd),by omega,fun d hd=>(by cases hd)⟩
 ·refine⟨some ⟨g,0,none⟩,cap,rfl,⟨hf,hw,.inr ⟨g,0,rfl,fun k i hk=>?_⟩⟩,fun d hd=>(by cases hd;exact⟨h1,h2⟩),h3,fun d hd=>(by cases hd;rfl)⟩
  have key:∀ o u,o<6→i.cells[o]? = some u→w.cell? ⟨g,k*6+o,none⟩=some u:=fun o u ho hu=>own_cell h ((flat_get Ins.cells_len hk ho).trans hu)
  rw[Nat.zero_add]
  exact⟨key 0 _ (by omega) rfl,key 1 _ (by omega) rfl,key 2 _ (by omega) rfl,key 3 _ (by omega) rfl,key 4 _ (by omega) rfl,key 5 _ (by omega) rfl⟩
theorem CodeAt.move{w w':World}{a:Option Addr}{l:List Ins}(h:CodeAt w a l)(hm:∀ d,a=some d→d.block<w.heap.size→w'.heap[d.block]? = w.heap[d.block]?):CodeAt w' a l:=by
 refine⟨h.fits,h.wf,?_⟩
 rcases h.at_ with h0|⟨b,off,ha,hk⟩
 ·exact .inl h0
 ·refine .inr ⟨b,off,ha,fun k i hi=>?_⟩
  have hI:=hk k i hi
  have hb:w'.heap[b]? = w.heap[b]?:=hm _ ha (World.block_lt_of_cell? w ⟨b,off+k*6,none⟩ hI.c0)
  have go:∀ {o:Nat} {v:Value},w.cell? ⟨b,o,none⟩=some v→w'.cell? ⟨b,o,none⟩=some v:=fun hv=>(World.cell?_of_block (a:=⟨b,_,none⟩) hb).trans hv
  exact⟨go hI.c0,go hI.c1,go hI.c2,go hI.c3,go hI.c4,go hI.c5⟩
structure BlkP where
 blk:Blk
 a:Option Addr
 c:Nat
def BlkP.cells(p:BlkP):List Value:=[.slice p.a p.blk.code.length p.c,.int .u8 p.blk.kind,.int .i64 p.blk.x,.int .i64 p.blk.to,.int .i64 p.blk.els]
theorem BlkP.cells_len(p:BlkP):p.cells.length=5:=rfl
structure BlkRow(N:Nat)(T:TypeId)(w:World)(v:Value)(l:List BlkP):Prop where
 row:w.ownsRow N T 5 v l.length (l.flatMap BlkP.cells)
 wf:∀ p∈l,p.blk.Wf
 code:∀ p∈l,CodeAt w p.a p.blk.code
 lies:∀ p∈l,LiesIn N w.heap.size p.a
 apart:∀ p∈l,∀ d,p.a=some d→v.ownBlock≠some d.block
theorem BlkRow.nil{N:Nat}{T:TypeId}{w:World}:BlkRow N T w (.slice none 0 0) []:=
 ⟨⟨rfl,.inl ⟨rfl,rfl⟩⟩,fun p hp=>(by cases hp),fun p hp=>(by cases hp),fun p hp=>(by cases hp),fun p hp=>(by cases hp)⟩
section
variable {N:Nat} {T:TypeId} {w w':World} {v:Value} {l:List BlkP}
theorem BlkRow.keep(h:BlkRow N T w v l)(hb:Below w.heap.size w w'):BlkRow N T w' v l:=
 ⟨ownsRow_below h.row hb,h.wf,fun p hp=>(h.code p hp).below hb,fun p hp=>(h.lies p hp).mono (Nat.le_refl _) hb.size,h.apart⟩
theorem BlkRow.move(h:BlkRow N T w v l)(hs:w.heap.size≤w'.heap.size)(hm:∀ k,N≤k→k<w.heap.size→w'.heap[k]? = w.heap[k]?):BlkRow N T w' v l:=
 ⟨ownsRow_move h.row (fun k hk hl=>hm k (ownsRow_lt h.row hk).1 hl),h.wf,fun p hp=>(h.code p hp).move (fun d hd hl=>hm _ (h.lies p hp d hd).1 hl),fun p hp=>(h.lies p hp).mono (Nat.le_refl _) hs,h.apart⟩
theorem BlkRow.push{V w2:World}{p:BlkP}{gb cap:Nat}(h:BlkRow N T w v l)(hN:N≤w.heap.size)(hB:Below w.heap.size w V)(hw:p.blk.Wf)(hc:CodeAt V p.a p.blk.code)(hl:LiesIn w.heap.size V.heap.size p.a)
 (hg:V.grownBy w2 v.ownBlock) (ho:w2.ownsRow N T 5 (.slice (some ⟨gb,0,none⟩) (l.length+1) cap) (l.length+1) (l.flatMap BlkP.cells++p.cells)) (hp:v.ownBlock=some gb∨V.heap.size≤gb) :
 BlkRow N T w2 (.slice (some ⟨gb,0,none⟩) (l.length+1) cap) (l++[p]):=by
 have hs:=hB.size
 have hgs:=hg.size
 have hk:BlkRow N T V v l:=h.keep hB
 have all:∀ q∈l++[p],q.blk.Wf∧CodeAt V q.a q.blk.code∧LiesIn N V.heap.size q.a∧∀ d,q.a=some d→v.ownBlock≠some d.block:=by
  intro q hq
  rcases List.mem_append.1 hq with hq|hq
  ·exact⟨hk.wf q hq,hk.code q hq,hk.lies q hq,hk.apart q hq⟩
  ·obtain rfl:q=p:=by simpa using hq
   refine⟨hw,hc,hl.mono hN (Nat.le_refl _),fun d hd e=>?_⟩
   have:=(ownsRow_lt h.row e).2
   have:=(hl d hd).1
   omega
 refine⟨by rw[List.length_append,flat_snoc];exact ho,fun q hq=>(all q hq).1,fun q hq=>(all q hq).2.1.move (fun d hd hl=>hg.block _ hl (fun e=>(all q hq).2.2.2 d hd e.symm)),fun q hq=>(all q hq).2.2.1.mono (Nat.le_refl _) hgs,fun q hq d hd e=>?_⟩
 have e1:gb=d.block:=by injection e
 rcases hp with hp|hp
 ·exact (all q hq).2.2.2 d hd (by rw[hp,e1])
 ·have:=((all q hq).2.2.1 d hd).2
  omega
theorem BlkRow.blks(h:BlkRow N T w v l)(hf:l.length≤9223372036854775807):∃ a c,v = .slice a l.length c∧BlksAt w a (l.map (·.blk))∧l.length≤c∧LiesIn N w.heap.size a∧(a=none→c=0):=by
 have wf:∀ x∈l.map (·.blk),x.Wf:=fun x hx=>by obtain⟨p,hp,rfl⟩:=List.mem_map.1 hx;exact h.wf p hp
 rcases ownsRow_form h.row with⟨rfl,h0⟩|⟨g,cap,rfl,h1,h2,h3⟩
 ·exact⟨none,0,by rw[h0],⟨by simpa using hf,wf,.inl (by simpa using h0)⟩,by omega,fun d hd=>(by cases hd),fun _=>rfl⟩
 ·refine⟨some ⟨g,0,none⟩,cap,rfl,⟨by simpa using hf,wf,.inr ⟨g,0,rfl,fun k x hx=>?_⟩⟩,h3,fun d hd=>(by cases hd;exact⟨h1,h2⟩),fun hh=>(by cases hh)⟩
  rw[List.getElem?_map] at hx
  obtain⟨p,hp,rfl⟩:=Option.map_eq_some_iff.1 hx
  have key:∀ o u,o<5→p.cells[o]? = some u→w.cell? ⟨g,k*5+o,none⟩=some u:=fun o u ho hu=>own_cell h.row ((flat_get BlkP.cells_len hp ho).trans hu)
  rw[Nat.zero_add]
  exact⟨p.a,p.c,⟨key 0 _ (by omega) rfl,key 1 _ (by omega) rfl,key 2 _ (by omega) rfl,key 3 _ (by omega) rfl,key 4 _ (by omega) rfl⟩,h.code p (List.mem_of_getElem? hp)⟩
end
theorem ins_new(w:World)(i:Ins)(T:TypeId):∀ (j:Nat) (x:Value),i.cells[j]? = some x→(w.alloc (.cells #[.int .u8 i.op,.int .i64 i.dst,.int .i64 i.x,.int .i64 i.y,.int .i64 i.imm,.string i.sym] T)).cell? ((⟨w.heap.size,0,none⟩:Addr).add j)=some x:=by
 intro j x hx
 have e:(⟨w.heap.size,0,none⟩:Addr).add j=⟨w.heap.size,j,none⟩:=by
  unfold Addr.add
  by_cases h0:j=0 <;> simp[h0]
 rw[e,World.cell?_alloc_new]
 simpa[Ins.cells] using hx
theorem blk_new(w:World)(p:BlkP)(T:TypeId):∀ (j:Nat) (x:Value),p.cells[j]? = some x→(w.alloc (.cells #[.slice p.a p.blk.code.length p.c,.int .u8 p.blk.kind,.int .i64 p.blk.x,.int .i64 p.blk.to,.int .i64 p.blk.els] T)).cell? ((⟨w.heap.size,0,none⟩:Addr).add j)=some x:=by
 intro j x hx
 have e:(⟨w.heap.size,0,none⟩:Addr).add j=⟨w.heap.size,j,none⟩:=by
  unfold Addr.add
  by_cases h0:j=0 <;> simp[h0]
 rw[e,World.cell?_alloc_new]
 simpa[BlkP.cells] using hx
theorem Ins.one(i:Ins):∀ u∈i.cells,u.oneCell'=true:=by
 intro u hu
 simp[Ins.cells] at hu
 rcases hu with rfl|rfl|rfl|rfl|rfl|rfl <;> rfl
theorem BlkP.one(p:BlkP):∀ u∈p.cells,u.oneCell'=true:=by
 intro u hu
 simp[BlkP.cells] at hu
 rcases hu with rfl|rfl|rfl|rfl|rfl <;> rfl
theorem own_addr_add(b off j:Nat):(⟨b,off,none⟩:Addr).add j=⟨b,off+j,none⟩:=by
 unfold Addr.add
 by_cases h0:j=0 <;> simp[h0]
theorem src_flat{α:Type}{f:α→List Value}{n:Nat}(hf:∀ x,(f x).length=n)(hn:0<n){w:World}{A:Option Addr}{l:List α}
 (h:l.length=0∨∃ b off,A=some ⟨b,off,none⟩∧∀ k x,l[k]? = some x→∀ o,o<n→w.cell? ⟨b,off+k*n+o,none⟩=(f x)[o]?):Src w A l.length n (l.flatMap f):=by
 refine⟨flat_len hf l,?_⟩
 rcases h with h|⟨b,off,hA,hc⟩
 ·exact .inl h
 ·refine .inr ⟨_,hA,fun j u hu=>?_⟩
  have hj:j<l.length*n:=by rw[←flat_len hf l];exact (List.getElem?_eq_some_iff.1 hu).1
  have hk:j / n<l.length:=Nat.div_lt_of_lt_mul (by rw[Nat.mul_comm];exact hj)
  have ho:j % n<n:=Nat.mod_lt _ hn
  have e:j / n*n+j % n=j:=by rw[Nat.mul_comm];exact Nat.div_add_mod j n
  have hx:=List.getElem?_eq_getElem hk
  have h1:=hc _ _ hx _ ho
  have h2:=flat_get hf hx ho
  rw[e,hu] at h2
  rw[own_addr_add,←e,←Nat.add_assoc,h1,←h2]
def arrOne(p:ByteArray×Int):List Value:=[.string p.1,.int .i64 p.2]
theorem arrOne_len(p:ByteArray×Int):(arrOne p).length=2:=rfl
theorem arrOne_one(l:List (ByteArray×Int)):∀ u∈l.flatMap arrOne,u.oneCell'=true:=by
 intro u hu
 obtain⟨p,_,hp⟩:=List.mem_flatMap.1 hu
 simp[arrOne] at hp
 rcases hp with rfl|rfl <;> rfl
theorem arrs_src{w:World}{a:Option Addr}{l:List (ByteArray×Int)}(h:IrArrsAt w a l):Src w a l.length 2 (l.flatMap arrOne):=by
 refine src_flat arrOne_len (by omega) ?_
 rcases h.at_ with h0|⟨b,off,ha,hc⟩
 ·exact .inl h0
 ·refine .inr ⟨b,off,ha,fun k x hx o ho=>?_⟩
  obtain⟨h1,h2⟩:=hc k x hx
  match o,ho with
  | 0,_=>exact h1
  | 1,_=>exact h2
theorem arrs_own{w:World}{N:Nat}{T:TypeId}{v:Value}{l:List (ByteArray×Int)}(h:w.ownsRow N T 2 v l.length (l.flatMap arrOne))(hf:l.length≤9223372036854775807)(hs:∀ p∈l,p.1.size≤9223372036854775807) :
 ∃ a c,v = .slice a l.length c∧IrArrsAt w a l:=by
 rcases ownsRow_form h with⟨rfl,h0⟩|⟨g,cap,rfl,_,_,_⟩
 ·exact⟨none,0,by rw[h0],hf,hs,.inl h0⟩
 ·refine⟨some ⟨g,0,none⟩,cap,rfl,hf,hs,.inr ⟨g,0,rfl,fun k p hp=>?_⟩⟩
  have key:∀ o u,o<2→(arrOne p)[o]? = some u→w.cell? ⟨g,k*2+o,none⟩=some u:=fun o u ho hu=>own_cell h ((flat_get arrOne_len hp ho).trans hu)
  rw[Nat.zero_add]
  exact⟨key 0 _ (by omega) rfl,key 1 _ (by omega) rfl⟩
def BlkP.code(p:BlkP):Value:=.slice p.a p.blk.code.length p.c
structure BlkOwn(N:Nat)(T E:TypeId)(w:World)(v:Value)(l:List BlkP):Prop where
 row:w.ownsRow N T 5 v l.length (l.flatMap BlkP.cells)
 wf:∀ p∈l,p.blk.Wf
 iwf:∀ p∈l,∀ i∈p.blk.code,i.Wf
 small:∀ p∈l,p.blk.code.length≤1000000
 code:∀ p∈l,w.ownsRow N E 6 p.code p.blk.code.length (codeCells p.blk.code)
 apart:∀ p∈l,p.code.ownBlock=none∨v.ownBlock≠p.code.ownBlock
 each:∀ (i j:Nat) (p q:BlkP),l[i]? = some p→l[j]? = some q→i≠j→p.code.ownBlock=none∨p.code.ownBlock≠q.code.ownBlock
theorem BlkOwn.nil{N:Nat}{T E:TypeId}{w:World}:BlkOwn N T E w (.slice none 0 0) []:=
 ⟨⟨rfl,.inl ⟨rfl,rfl⟩⟩,fun p hp=>(by cases hp),fun p hp=>(by cases hp),fun p hp=>(by cases hp),fun p hp=>(by cases hp),fun p hp=>(by cases hp),fun i j p q hp=>(by simp at hp)⟩
section
variable {N:Nat} {T E:TypeId} {w w':World} {v:Value} {l:List BlkP}
theorem BlkOwn.keep(h:BlkOwn N T E w v l)(hb:Below w.heap.size w w'):BlkOwn N T E w' v l:=
 { h with row:=ownsRow_below h.row hb,code:=fun p hp=>ownsRow_below (h.code p hp) hb }
theorem BlkOwn.move(h:BlkOwn N T E w v l)(hm:∀ k,N≤k→k<w.heap.size→w'.heap[k]? = w.heap[k]?):BlkOwn N T E w' v l:=
 { h with row:=ownsRow_move h.row (fun k hk hl=>hm k (ownsRow_lt h.row hk).1 hl),code:=fun p hp=>ownsRow_move (h.code p hp) (fun k hk hl=>hm k (ownsRow_lt (h.code p hp) hk).1 hl) }
theorem BlkOwn.push{V w2:World}{p:BlkP}{gb cap:Nat}(h:BlkOwn N T E w v l)(hN:N≤w.heap.size)(hB:Below w.heap.size w V)(hw:p.blk.Wf)(hi:∀ i∈p.blk.code,i.Wf)(hs:p.blk.code.length≤1000000)(hc:V.ownsRow w.heap.size E 6 p.code p.blk.code.length (codeCells p.blk.code))
 (hg:V.grownBy w2 v.ownBlock) (ho:w2.ownsRow N T 5 (.slice (some ⟨gb,0,none⟩) (l.length+1) cap) (l.length+1) (l.flatMap BlkP.cells++p.cells)) (hp:v.ownBlock=some gb∨V.heap.size≤gb) :
 BlkOwn N T E w2 (.slice (some ⟨gb,0,none⟩) (l.length+1) cap) (l++[p]):=by
 have hVs:=hB.size
 have hk:BlkOwn N T E V v l:=h.keep hB
 have lo:∀ q∈l,∀ b,q.code.ownBlock=some b→b<w.heap.size:=fun q hq b hb=>(ownsRow_lt (h.code q hq) hb).2
 have hi':∀ b,p.code.ownBlock=some b→w.heap.size≤b∧b<V.heap.size:=fun b hb=>ownsRow_lt hc hb
 have hvb:∀ b,v.ownBlock=some b→b<w.heap.size:=fun b hb=>(ownsRow_lt h.row hb).2
 have all:∀ q∈l++[p],q.blk.Wf∧(∀ i∈q.blk.code,i.Wf)∧q.blk.code.length≤1000000∧V.ownsRow N E 6 q.code q.blk.code.length (codeCells q.blk.code)∧(q.code.ownBlock=none∨v.ownBlock≠q.code.ownBlock):=by
  intro q hq
  rcases List.mem_append.1 hq with hq|hq
  ·exact⟨hk.wf q hq,hk.iwf q hq,hk.small q hq,hk.code q hq,hk.apart q hq⟩
  ·obtain rfl:q=p:=by simpa using hq
   refine⟨hw,hi,hs,ownsRow_base hc hN,?_⟩
   cases hb:q.code.ownBlock with
   | none=>exact .inl rfl
   | some b=>exact .inr (fun e=>by have:=(hi' b hb).1;have:=hvb b e;omega)
 refine⟨by rw[List.length_append,flat_snoc];exact ho,fun q hq=>(all q hq).1,fun q hq=>(all q hq).2.1,fun q hq=>(all q hq).2.2.1,fun q hq=>?_,fun q hq=>?_,fun i j q r hq hr hij=>?_⟩
 ·refine ownsRow_move (all q hq).2.2.2.1 (fun k hk hl=>hg.block k hl (fun e=>?_))
  rcases (all q hq).2.2.2.2 with e1|e1
  ·rw[hk] at e1;cases e1
  ·exact e1 (by rw[←e,hk])
 ·cases hb:q.code.ownBlock with
  | none=>exact .inl rfl
  | some b =>
   refine .inr (fun e=>?_)
   have e:gb=b:=by injection e
   rcases hp with hp|hp
   ·rcases (all q hq).2.2.2.2 with e1|e1
    ·rw[hb] at e1;cases e1
    ·exact e1 (by rw[hp,hb,e])
   ·have:=(ownsRow_lt (all q hq).2.2.2.1 hb).2
    omega
 ·have split:∀ {k:Nat} {q:BlkP},(l++[p])[k]? = some q→l[k]? = some q∨(k=l.length∧q=p):=by
   intro k q hq
   rcases Nat.lt_or_ge k l.length with hk|hk
   ·rw[List.getElem?_append_left hk] at hq;exact .inl hq
   ·rw[List.getElem?_append_right hk] at hq
    have hk0:k-l.length=0:=by
     rcases Nat.eq_zero_or_pos (k-l.length) with h0|h0
     ·exact h0
     ·rw[List.getElem?_eq_none (by simp;omega)] at hq;cases hq
    rw[hk0] at hq
    exact .inr ⟨by omega,by simpa using hq.symm⟩
  rcases split hq with h1|⟨h1,e1⟩
  ·rcases split hr with h2|⟨h2,e2⟩
   ·exact h.each i j q r h1 h2 hij
   ·cases hb:q.code.ownBlock with
    | none=>exact .inl rfl
    | some b=>exact .inr (fun e=>by have:=lo q (List.mem_of_getElem? h1) b hb;have:=(hi' b (by rw[←e2];exact e.symm)).1;omega)
  ·rcases split hr with h2|⟨h2,e2⟩
   ·cases hb:q.code.ownBlock with
    | none=>exact .inl rfl
    | some b=>exact .inr (fun e=>by have:=lo r (List.mem_of_getElem? h2) b e.symm;have:=(hi' b (by rw[←e1];exact hb)).1;omega)
   ·omega
end
structure CopyAt(N:Nat)(TA TB TI:TypeId)(w:World)(f:Fn)(av bv:Value)(l:List BlkP):Prop where
 arrs:w.ownsRow N TA 2 av f.arrays.length (f.arrays.flatMap arrOne)
 blks:BlkOwn N TB TI w bv l
 eq:l.map (·.blk)=f.blocks
 apart:av.ownBlock=none∨av.ownBlock≠bv.ownBlock
 codes:∀ p∈l,av.ownBlock=none∨av.ownBlock≠p.code.ownBlock
section
variable {N:Nat} {TA TB TI:TypeId} {w w':World} {f:Fn} {av bv:Value} {l:List BlkP}
theorem CopyAt.keep(h:CopyAt N TA TB TI w f av bv l)(hb:Below w.heap.size w w'):CopyAt N TA TB TI w' f av bv l:=
 { h with arrs:=ownsRow_below h.arrs hb,blks:=h.blks.keep hb }
theorem CopyAt.move(h:CopyAt N TA TB TI w f av bv l)(hm:∀ k,N≤k→k<w.heap.size→w'.heap[k]? = w.heap[k]?):CopyAt N TA TB TI w' f av bv l:=
 { h with arrs:=ownsRow_move h.arrs (fun k hk hl=>hm k (ownsRow_lt h.arrs hk).1 hl),blks:=h.blks.move hm }
theorem CopyAt.base{N':Nat}(h:CopyAt N TA TB TI w f av bv l)(hN:N'≤N):CopyAt N' TA TB TI w f av bv l:=
 { h with arrs:=ownsRow_base h.arrs hN,blks:={ h.blks with row:=ownsRow_base h.blks.row hN,code:=fun p hp=>ownsRow_base (h.blks.code p hp) hN } }
theorem CopyAt.push{V w2:World}{p:BlkP}{gb cap:Nat}(h:CopyAt N TA TB TI w f av bv l)(hN:N≤w.heap.size)(hB:Below w.heap.size w V)(hw:p.blk.Wf)(hi:∀ i∈p.blk.code,i.Wf)(hs:p.blk.code.length≤1000000)(hc:V.ownsRow w.heap.size TI 6 p.code p.blk.code.length (codeCells p.blk.code))
 (hg:V.grownBy w2 bv.ownBlock) (ho:w2.ownsRow N TB 5 (.slice (some ⟨gb,0,none⟩) (l.length+1) cap) (l.length+1) (l.flatMap BlkP.cells++p.cells)) (hp:bv.ownBlock=some gb∨V.heap.size≤gb) :
 CopyAt N TA TB TI w2 { f with blocks:=f.blocks++[p.blk] } av (.slice (some ⟨gb,0,none⟩) (l.length+1) cap) (l++[p]):=by
 have hVs:=hB.size
 refine⟨ownsRow_move h.arrs (fun k hk hl=>?_),h.blks.push hN hB hw hi hs hc hg ho hp,by rw[List.map_append,h.eq];rfl,?_,fun q hq=>?_⟩
 ·refine (hg.block k (Nat.lt_of_lt_of_le hl hVs) (fun e=>?_)).trans (hB.block k hl)
  rcases h.apart with e1|e1
  ·rw[hk] at e1;cases e1
  ·exact e1 (by rw[hk,e])
 ·cases ha:av.ownBlock with
  | none=>exact .inl rfl
  | some b =>
   refine .inr (fun e=>?_)
   have e:b=gb:=by injection e
   rcases hp with hp|hp
   ·rcases h.apart with e1|e1
    ·rw[ha] at e1;cases e1
    ·exact e1 (by rw[ha,hp,e])
   ·have:=(ownsRow_lt h.arrs ha).2
    omega
 ·rcases List.mem_append.1 hq with hq|hq
  ·exact h.codes q hq
  ·obtain rfl:q=p:=by simpa using hq
   cases ha:av.ownBlock with
   | none=>exact .inl rfl
   | some b=>exact .inr (fun e=>by have:=(ownsRow_lt hc e.symm).1;have:=(ownsRow_lt h.arrs ha).2;omega)
end
structure LEnv where
 len:ByteArray→Int
 sh:ByteArray→Bool
abbrev VM:=ByteArray→Option Nat
def VM.reg(V:VM)(s:ByteArray):Int:=((V s).getD 0:Nat)
abbrev insB(op d x y imm:Int)(s:ByteArray):Ins:=⟨op,d,x,y,imm,s⟩
abbrev noB:ByteArray:=⟨#[]⟩
structure LE where
 code:List Ins
 regs:Nat
 r:Int
def lowB(E:LEnv)(V:VM)(k n:Int)(s:ByteArray)(f0 f1:Nat→LE)(R:Nat):LE:=
 if k=1 then ⟨[insB 1 R 0 0 n noB],R+1,R⟩
 else if k=2 then ⟨[],R,V.reg s⟩
 else if k=3 then ⟨(f0 R).code++[insB 8 0 (f0 R).r 0 (E.len s) noB,insB (if E.sh s then 6 else 4) (f0 R).regs (f0 R).r 0 0 s],(f0 R).regs+1,(f0 R).regs⟩
 else if k=4 then ⟨(f0 R).code++[insB 1 (f0 R).regs 0 0 0 noB,insB 3 ((f0 R).regs+1:Nat) (f0 R).regs (f0 R).r 7 noB],(f0 R).regs+2,((f0 R).regs+1:Nat)⟩
 else if k=5 then ⟨(f0 R).code++[insB 1 (f0 R).regs 0 0 0 noB,insB 3 ((f0 R).regs+1:Nat) (f0 R).r (f0 R).regs 16 noB],(f0 R).regs+2,((f0 R).regs+1:Nat)⟩
 else ⟨(f0 R).code++(f1 (f0 R).regs).code++[insB 3 (f1 (f0 R).regs).regs (f0 R).r (f1 (f0 R).regs).r k noB],(f1 (f0 R).regs).regs+1,(f1 (f0 R).regs).regs⟩
def Tree.lowE(E:LEnv)(V:VM):Tree→Nat→LE
 | .node k n s l kid=>lowB E V k n s (fun R=>if h:0<l then lowE E V (kid ⟨0,h⟩) R else ⟨[],R,0⟩) (fun R=>if h:1<l then lowE E V (kid ⟨1,h⟩) R else ⟨[],R,0⟩)
theorem Tree.lowE_eq(E:LEnv)(V:VM)(t:Tree)(R:Nat):t.lowE E V R=lowB E V t.kind t.num t.name (fun R=>if 0<t.len then (t.kid 0).lowE E V R else ⟨[],R,0⟩) (fun R=>if 1<t.len then (t.kid 1).lowE E V R else ⟨[],R,0⟩) R:=by
 cases t with
 | node k n s l kid =>
  rw[Tree.lowE]
  show lowB E V k n s _ _ R=lowB E V k n s _ _ R
  congr 1
  ·funext R
   by_cases h:0<l
   ·rw[dif_pos h,if_pos (show 0<(Tree.node k n s l kid).len from h),Tree.kid_node h]
   ·rw[dif_neg h,if_neg (show ¬ 0<(Tree.node k n s l kid).len from h)]
  ·funext R
   by_cases h:1<l
   ·rw[dif_pos h,if_pos (show 1<(Tree.node k n s l kid).len from h),Tree.kid_node h]
   ·rw[dif_neg h,if_neg (show ¬ 1<(Tree.node k n s l kid).len from h)]
structure LS where
 done:List Blk
 code:List Ins
 regs:Nat
 vars:VM
abbrev LF:=Nat→List Ins→Nat→VM→LS
def LS.next(k:Nat)(s:LS)(f:LF):LS:=
 let t:=f (k+s.done.length) s.code s.regs s.vars
 { t with done:=s.done++t.done }
def seqL(f:Nat→LF)(k:Nat)(c:List Ins)(R:Nat)(V:VM):Nat→LS
 | 0=>⟨[],c,R,V⟩
 | n+1=>(seqL f k c R V n).next k (f n)
abbrev jmpB(c:List Ins)(tg:Nat):Blk:=⟨c,1,0,tg,0⟩
abbrev opnB(c:List Ins):Blk:=⟨c,0,0,0,0⟩
def ifL(e:LE)(b1 b2:LF)(k:Nat)(c:List Ins)(V:VM):LS:=
 let s1:=b1 (k+1) [] e.regs V
 let k2:=k+1+s1.done.length+1
 let s2:=b2 k2 [] s1.regs s1.vars
 let k3:=k2+s2.done.length+1
 ⟨(⟨c++e.code,2,e.r,(k+1:Nat),k2⟩::s1.done)++(jmpB s1.code k3::s2.done)++[jmpB s2.code k3],[],s2.regs,s2.vars⟩
def loopL(lim:Int)(d:Nat)(h:LE)(enter:VM→VM)(b:LF)(k:Nat)(c:List Ins)(V:VM):LS:=
 let s:=b (k+2) [insB 16 0 d 0 lim noB] h.regs (enter V)
 let k3:=k+2+s.done.length+1
 ⟨[jmpB (c++[insB 13 0 0 0 d noB]) (k+1),⟨h.code,2,h.r,(k+2:Nat),k3⟩]++s.done++[jmpB (s.code++[insB 14 0 0 0 d noB]) (k+1)],[],s.regs,s.vars⟩
def forH(n:Int)(d v:Nat):LE:=⟨[insB 15 v 0 0 d noB,insB 1 (v+1:Nat) 0 0 n noB,insB 3 (v+2:Nat) v (v+1:Nat) 18 noB],v+3,(v+2:Nat)⟩
def stoB(E:LEnv)(s:ByteArray)(i v:Int):Ins:=insB (if E.sh s then 7 else 5) 0 i v 0 s
def lowS (E : LEnv) (kd n : Int) (nm : ByteArray) (p : Tree) (e : Nat → VM → Nat → LE) (b : Nat → Nat → LF) (d : Nat) : LF := fun k c R V =>
  if kd = 40 then
    (if p.kind = 2 then ⟨[], c ++ (e 1 V R).code ++ [insB 2 (V.reg p.name) (e 1 V R).r 0 0 noB], (e 1 V R).regs, V⟩
     else
      let e0 := (p.kid 0).lowE E V R
      let e1 := e 1 V e0.regs
      ⟨[], c ++ e0.code ++ e1.code ++ [insB 8 0 e0.r 0 (E.len p.name) noB, stoB E p.name e0.r e1.r], e1.regs, V⟩)
  else if kd = 41 then ifL (e 0 V R) (b 1 d) (b 2 d) k c V
  else if kd = 42 then
    let s := loopL n d (forH n d R) (fun V => upd V nm (some R)) (b 0 (d + 1)) k c V
    { s with vars := upd s.vars nm none }
  else if kd = 43 then loopL n d (e 0 V R) (fun V => V) (b 1 (d + 1)) k c V
  else if kd = 44 then
    (if p.kind = 2 then ⟨[], c ++ [insB 9 (V.reg p.name) 0 0 n noB], R, V⟩
     else
      let e0 := (p.kid 0).lowE E V R
      ⟨[], c ++ e0.code ++ [insB 8 0 e0.r 0 (E.len p.name) noB, insB 9 e0.regs 0 0 n noB, stoB E p.name e0.r e0.regs], e0.regs + 1, V⟩)
  else if kd = 45 then ⟨[], c ++ (e 0 V R).code ++ [insB 10 0 (e 0 V R).r 0 n noB], (e 0 V R).regs, V⟩
  else if kd = 46 then
    let s := b 0 d k (c ++ [insB 11 0 0 0 0 nm]) R V
    { s with code := s.code ++ [insB 12 0 0 0 0 nm] }
  else ⟨[], c, R, V⟩
def Tree.low(E:LEnv):Tree→Nat→LF
 | .node kd n nm l kid=>fun d k c R V =>
  if kd=47 then seqL (fun i=>if h:i<l then low E (kid ⟨i,h⟩) d else fun _ c R V=>⟨[],c,R,V⟩) k c R V l
  else lowS E kd n nm (if h:0<l then kid ⟨0,h⟩ else .leaf 0 0 ByteArray.empty) (fun i V R=>if h:i<l then (kid ⟨i,h⟩).lowE E V R else ⟨[],R,0⟩)
   (fun i d=>if h:i<l then low E (kid ⟨i,h⟩) d else fun _ c R V=>⟨[],c,R,V⟩) d k c R V
def kidLE(E:LEnv)(t:Tree)(i:Nat)(V:VM)(R:Nat):LE:=if i<t.len then (t.kid i).lowE E V R else ⟨[],R,0⟩
def kidL(E:LEnv)(t:Tree)(i:Nat)(d:Nat):LF:=if i<t.len then (t.kid i).low E d else fun _ c R V=>⟨[],c,R,V⟩
theorem Tree.low_eq(E:LEnv)(t:Tree)(d k:Nat)(c:List Ins)(R:Nat)(V:VM):t.low E d k c R V=if t.kind=47 then seqL (fun i=>kidL E t i d) k c R V t.len else lowS E t.kind t.num t.name (t.kid 0) (kidLE E t) (kidL E t) d k c R V:=by
 cases t with
 | node kd n nm l kid =>
  rw[Tree.low]
  have e1:∀ (i d:Nat),(if h:i<l then Tree.low E (kid ⟨i,h⟩) d else fun _ c R V=>(⟨[],c,R,V⟩:LS))=kidL E (.node kd n nm l kid) i d:=by
   intro i d
   unfold kidL
   by_cases h:i<l
   ·rw[dif_pos h,if_pos (show i<(Tree.node kd n nm l kid).len from h),Tree.kid_node h]
   ·rw[dif_neg h,if_neg (show ¬ i<(Tree.node kd n nm l kid).len from h)]
  have e2:(fun (i:Nat) (V:VM) (R:Nat)=>if h:i<l then (kid ⟨i,h⟩).lowE E V R else (⟨[],R,0⟩:LE))=kidLE E (.node kd n nm l kid):=by
   funext i V R
   unfold kidLE
   by_cases h:i<l
   ·rw[dif_pos h,if_pos (show i<(Tree.node kd n nm l kid).len from h),Tree.kid_node h]
   ·rw[dif_neg h,if_neg (show ¬ i<(Tree.node kd n nm l kid).len from h)]
  simp only[e1]
  rw[e2]
  rfl
def lenA(l:List Arr):ByteArray→Int:=l.foldl (fun f a=>fun s=>if s=a.name then a.len else f s) (fun _=>0)
theorem lenA_snoc(l:List Arr)(a:Arr):lenA (l++[a])=fun s=>if s=a.name then a.len else lenA l s:=by unfold lenA;rw[List.foldl_append];rfl
def shA(l:List Arr):ByteArray→Bool:=fun s=>l.any fun a=>decide (s=a.name)
theorem shA_snoc(l:List Arr)(a:Arr):shA (l++[a])=fun s=>if s=a.name then true else shA l s:=by
 funext s
 unfold shA
 rw[List.any_append]
 by_cases h:s=a.name <;> simp[h]
def envOf(shared arrays:List Arr):LEnv:=⟨lenA (shared++arrays),shA shared⟩
def varsM(l:List ByteArray):Nat→VM
 | 0=>fun _=>none
 | j+1=>upd (varsM l j) (l.getD j ⟨#[]⟩) (some j)
def lowS0(shared:List Arr)(t:Tsk):LS:=t.body.low (envOf shared t.arrays) 0 0 [] t.vars.length (varsM t.vars t.vars.length)
def arrP(a:Arr):ByteArray×Int:=(a.name,a.len)
def lowFn(shared:List Arr)(t:Tsk):Fn:=⟨t.name,((lowS0 shared t).regs:Nat),t.arrays.map arrP,(lowS0 shared t).done++[⟨(lowS0 shared t).code,3,0,0,0⟩]⟩
theorem Tryz.infoArrL:(Tryz.prog.info? 73).map (fun i=>(i.zero,i.size,i.bytes))=some (some (.agg #[.string ⟨#[]⟩,.int .i64 0]),2,24):=by kernel_rfl
theorem arrs_ir{w:World}{a:Option Addr}{l:List Arr}(h:ArrsAt w a l):IrArrsAt w a (l.map arrP):=by
 refine⟨by rw[List.length_map];exact h.1,fun p hp=>?_,?_⟩
 ·obtain⟨x,hx,rfl⟩:=List.mem_map.1 hp
  obtain⟨i,hi⟩:=List.getElem?_of_mem hx
  have hl:=(List.getElem?_eq_some_iff.1 hi).1
  obtain⟨b,off,_,_,_,h3,_⟩:=h.2 i hl
  rw[List.getD_eq_getElem?_getD,hi] at h3
  exact h3
 ·by_cases h0:l.length=0
  ·exact .inl (by rw[List.length_map];exact h0)
  ·obtain⟨b,off,ha,_⟩:=h.2 0 (by omega)
   refine .inr ⟨b,off,ha,fun i p hp=>?_⟩
   rw[List.getElem?_map] at hp
   obtain⟨x,hx,rfl⟩:=Option.map_eq_some_iff.1 hp
   have hl:=(List.getElem?_eq_some_iff.1 hx).1
   obtain⟨b',off',ha',h1,h2,_⟩:=h.2 i hl
   rw[ha] at ha'
   cases ha'
   rw[List.getD_eq_getElem?_getD,hx] at h1 h2
   exact⟨h1,h2⟩
theorem cloneArr_any(l:List (ByteArray×Int))(a:Option Addr)(c:Nat)(w:World)(h:IrArrsAt w a l)(hl:l.length≤1000000) :
 Calls Tryz.prog 43 #[.slice a l.length c] w fun e w'=>∃ v,e = .returned v∧w'.ownsRow w.heap.size 73 2 v l.length (l.flatMap arrOne)∧Below w.heap.size w w':=by
 have HA:=ξ h
 clear h
 have hnil':=fun (w:World) (a:Option Addr) (n c:Nat)=>Lib.run_eql_slice_nil (P:=Tryz.prog) w 22 73 a n c 0 0 Tryz.underlying22
 cases a with
 | none =>
  have hl0:l.length=0:=by
   rcases HA.out.at_ with h1|⟨b,off,hb,_⟩
   ·exact h1
   ·cases hb
  have hnil:l = []:=List.length_eq_zero_iff.1 hl0
  subst hnil
  simp only[List.length_nil]
  go_enter Tryz.func43,Tryz.ntmps43
  go_wp2_with fail
  go_ret
  exact⟨_,rfl,⟨rfl,.inl ⟨rfl,rfl⟩⟩,Below.refl _ _⟩
 | some ad =>
  obtain⟨i0,hi,hz0,hz1,hz2⟩:=info_parts Tryz.infoArrL
  have HOWN:Hid ((w.alloc (.cells #[] 73)).ownsRow w.heap.size 73 2 (.slice (some ⟨w.heap.size,0,none⟩) 0 0) 0 []):=
   World.ownsRow_made _ #[] 0 (Nat.le_refl _) (by unfold maxLen;omega) rfl
  have HB0:Hid (Below w.heap.size w (w.alloc (.cells #[] 73))):=(Below.refl _ _).alloc (Nat.le_refl _) _
  have HSR:Hid (Src (w.alloc (.cells #[] 73)) (some ad) l.length 2 (l.flatMap arrOne)):=arrs_src (HA.out.below HB0.out)
  obtain⟨n,hn⟩:∃ n,l.length=n:=⟨_,rfl⟩
  rw[hn] at HSR hl⊢
  clear HA hn
  go_enter Tryz.func43,Tryz.ntmps43
  go_wp2_with (at_builtin;refine wpList_append_src _ rfl _ _ 22 rfl w.heap.size 73 i0 _ 2 24 Tryz.underlying22 hi hz0 hz1 hz2 rfl (by decide) _ 0 [] rfl HOWN.out (some ad) n c (l.flatMap arrOne) rfl HSR.out (arrOne_one l) (by unfold maxLen;omega) (by omega) (by simp) ?_)
  intro v w2 hown2 hgrow _
  have HO2:Hid (w2.ownsRow w.heap.size 73 2 v n (l.flatMap arrOne)):=by show World.ownsRow _ _ _ _ _ _ _;simpa using hown2
  have HB2:=ξ (HB0.out.grown hgrow (by simp) (fun k hk=>by cases hk;exact Nat.le_refl _))
  clear hown2 hgrow
  go_wp2_with fail
  go_ret
  exact⟨_,rfl,HO2.out,HB2.out⟩
