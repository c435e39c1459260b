/- Part. -/
import Derived.Test.YtkpdngfkdmllkaaGreatDoorProg
import Derived.Lib.Hide
import Derived.Deep.RegionHeld
import Derived.WalkSpells
import Derived.Lib.SliceRun
import Derived.Outline
import Derived.Deep.RegionLawGrows
import Derived.Laws.OwnMore
import Derived.Test.YtkpdngfkdmllkaaGreatDoorMf
import Derived.Test.YtkpdngfkdmllkaaGreatDoorMe
namespace Go.Proofs.YtkpdngfkdmllkaaGreatDoor
set_option linter.unusedVariables false
set_option linter.unusedSimpArgs false
open Go.RowKit
set_option maxRecDepth 100000
def PathIn(S:Nat→Prop)(w:World)(v:Value)(p:List Int):Prop:=
 ∃ b off cap,v = .slice (some ⟨b,off,none⟩) p.length cap∧S b∧p.length≤cap∧b<w.heap.size∧∀ i,i<p.length→w.cell? ⟨b,off+i,none⟩=some (.int .i64 (p.getD i 0))
theorem PathIn.move{S S':Nat→Prop}{w w':World}{v:Value}{p:List Int}(hsz:w.heap.size≤w'.heap.size)(h1:∀ k,S k→k<w.heap.size→w'.heap[k]? = w.heap[k]?)(h2:∀ k,S k→k<w.heap.size→S' k)(h:PathIn S w v p):PathIn S' w' v p:=by
 obtain⟨b,off,cap,hv,hS,hc,hb,hk⟩:=h
 exact⟨b,off,cap,hv,h2 b hS hb,hc,Nat.lt_of_lt_of_le hb hsz,fun i hi=>(World.cell?_of_block (a:=⟨b,_,none⟩) (h1 b hS hb)).trans (hk i hi)⟩
theorem PathIn.below{S:Nat→Prop}{w w':World}{v:Value}{p:List Int}(h:PathIn S w v p)(hb:Below w.heap.size w w'):PathIn S w' v p:=
 h.move hb.size (fun k _ hk=>hb.block k hk) (fun _ h _=>h)
theorem Tryz.infoInt:(Tryz.prog.info? 3).map (fun i=>(i.zero,i.size,i.bytes))=some (some (.int .i64 0),1,8):=by kernel_rfl
def ints(p:List Int):List Value:=p.map (Value.int .i64)
theorem ints_one(p:List Int):∀ u∈ints p,u.oneCell'=true:=by
 intro u hu;simp[ints] at hu;obtain⟨n,_,rfl⟩:=hu;rfl
theorem ints_len(p:List Int):(ints p).length=p.length:=by simp[ints]
theorem step_append_row{P:Program}{ops:Array Oper}{o:Oper}{a:Act}{w:World}{K:Act→World→Prop}{Q:Exit→Act→World→Prop}{E:Prop}
 (hg:o.guard=none) (s x:Operand) (t:TypeId) (hop:o.op=Op.call { callee:=Callee.builtin Builtin.append,args:=#[s,x],argTypes:=#[t,t] })
 (base:Nat) (e:TypeId) (i:TypeInfo) (z:Value) (size bytes:Nat) (h1:P.underlying t=some (.slice e)) (h2:P.info? e=some i) (h3:i.zero=some z) (h4:i.size=size) (h5:i.bytes=bytes) (h6:z.cells.size=size) (h7:0<size)
 (v:Value) (n:Nat) (xs:List Value) (hs:a.eval s=v) (hown:w.ownsRow base e size v n xs)
 (ad:Addr) (m c:Nat) (news:List Value) (hx:a.eval x = .slice (some ad) m c) (hn:news.length=m*size) (hc:∀ j u,news[j]? = some u→w.cell? (ad.add j)=some u) (h1c:∀ u∈news,u.oneCell'=true)
 (hm:0<m) (b1:n+m≤maxLen) (b2:(n+m)*bytes≤140737488355328) (hbase:base≤w.heap.size)
 (hK:∀ g cap w',w'.ownsRow base e size (.slice (some ⟨g,0,none⟩) (n+m) cap) (n+m) (xs++news)→w.grownBy w' v.ownBlock→(v.ownBlock=some g∨w.heap.size≤g)→K (a.put o.dst (.slice (some ⟨g,0,none⟩) (n+m) cap)) w') :
 if Region.wanted o (yielded ops a.tmps)=true then Oper.wp P o a w K Q else E:=by
 have out:∀ v' w',w'.ownsRow w.heap.size e size v' (n+m) (xs++news)→w.grownBy w' none→K (a.put o.dst v') w':=by
  intro v' w' r1 r2
  rcases ownsRow_form r1 with⟨_,h0⟩|⟨g',cap',rfl,hg',_,_⟩
  ·omega
  ·exact hK g' cap' w' (ownsRow_base r1 hbase) (grown_any r2) (.inr hg')
 rcases ownsRow_form hown with⟨rfl,rfl⟩|⟨g,cap,rfl,hgb,hgl,hcap⟩
 ·have hx0:xs = []:=List.length_eq_zero_iff.1 (by rw[hown.1];omega)
  exact step_append_grows hg s x t hop e i z size bytes h1 h2 h3 h4 h5 h6 h7 none 0 0 xs hs (fun _=>⟨rfl,rfl⟩) (by rw[hx0];simp) (fun b h=>by cases h) ad m c news hx hn hc h1c (by omega) b1 b2 out
 ·by_cases hf:n+m≤cap
  ·have hw:Region.wanted o (yielded ops a.tmps)=true:=by simp[Region.wanted,hg]
   rw[if_pos hw]
   obtain⟨w',hrun,r1,r2⟩:=run_append_fits (P:=P) w base t o.type e i size h1 h2 h4 g n cap xs hown ad m c news hn hc h1c hf
   unfold Oper.wp
   simp[execOp,hop,resolve,invoke,builtin,hs,hx,hrun,Result.andThen]
   exact hK g cap w' r1 r2 (.inl rfl)
  ·refine step_append_grows hg s x t hop e i z size bytes h1 h2 h3 h4 h5 h6 h7 (some ⟨g,0,none⟩) n cap xs hs (fun h=>by cases h) hown.1 (fun b hb j u hu=>?_) ad m c news hx hn hc h1c (by omega) b1 b2 out
   cases hb
   exact hown.cells rfl j u hu
def RepIn(S:Nat→Prop)(w:World):Tree→Option Addr→Prop
 | .node k n s l kid=>fun a=>(Tree.node k n s l kid).Fits ∧
  (l=0∨∃ b off,a=some ⟨b,off,none⟩∧S b∧∀ (i:Nat) (h:i<l),∃ ai ci,NodeAt w b (off+i*4) (kid ⟨i,h⟩) ai ci∧RepIn S w (kid ⟨i,h⟩) ai)
theorem RepIn.fits{S:Nat→Prop}{w:World}{t:Tree}{a:Option Addr}(h:RepIn S w t a):t.Fits:=by cases t;exact h.1
theorem RepIn.kids{S:Nat→Prop}{w:World}{t:Tree}{a:Option Addr}(h:RepIn S w t a):t.len=0∨∃ b off,a=some ⟨b,off,none⟩∧S b∧∀ i,i<t.len→∃ ai ci,NodeAt w b (off+i*4) (t.kid i) ai ci∧RepIn S w (t.kid i) ai:=by
 cases t with
 | node k n s l kid =>
  rcases h.2 with h0|⟨b,off,ha,hS,hk⟩
  ·exact .inl h0
  ·exact .inr ⟨b,off,ha,hS,fun i hi=>by have hi':i<l:=hi;rw[Tree.kid_node hi'];exact hk i hi⟩
theorem RepIn.mk{S:Nat→Prop}{w:World}{t:Tree}{a:Option Addr}(hf:t.Fits)(h:t.len=0∨∃ b off,a=some ⟨b,off,none⟩∧S b∧∀ i,i<t.len→∃ ai ci,NodeAt w b (off+i*4) (t.kid i) ai ci∧RepIn S w (t.kid i) ai):RepIn S w t a:=by
 cases t with
 | node k n s l kid =>
  rcases h with h0|⟨b,off,ha,hS,hk⟩
  ·exact⟨hf,.inl h0⟩
  ·exact⟨hf,.inr ⟨b,off,ha,hS,fun i hi=>by have hi':i<l:=hi;have:=hk i hi;rwa [Tree.kid_node hi'] at this⟩⟩
theorem RepIn.rep{S:Nat→Prop}{w:World}:∀ {t:Tree} {a:Option Addr},RepIn S w t a→Rep w t a:=by
 intro t
 induction t using Tree.ind with
 | h t ih =>
  intro a h
  refine Rep.mk h.fits ?_
  rcases h.kids with h0|⟨b,off,ha,_,hk⟩
  ·exact .inl h0
  ·exact .inr ⟨b,off,ha,fun i hi=>by obtain⟨ai,ci,hn,hr⟩:=hk i hi;exact⟨ai,ci,hn,ih i hi hr⟩⟩
theorem NodeAt.same{w w':World}{b off:Nat}{t:Tree}{a:Option Addr}{c:Nat}(h:NodeAt w b off t a c)(hb:w'.heap[b]? = w.heap[b]?):NodeAt w' b off t a c:=
 ⟨(World.cell?_of_block (a:=⟨b,_,none⟩) hb).trans h.kind,(World.cell?_of_block (a:=⟨b,_,none⟩) hb).trans h.num,(World.cell?_of_block (a:=⟨b,_,none⟩) hb).trans h.name,(World.cell?_of_block (a:=⟨b,_,none⟩) hb).trans h.kids⟩
theorem RepIn.move{S S':Nat→Prop}{w w':World}(h1:∀ k,S k→k<w.heap.size→w'.heap[k]? = w.heap[k]?)(h2:∀ k,S k→k<w.heap.size→S' k) :
 ∀ {t:Tree} {a:Option Addr},RepIn S w t a→RepIn S' w' t a:=by
 intro t
 induction t using Tree.ind with
 | h t ih =>
  intro a h
  refine RepIn.mk h.fits ?_
  rcases h.kids with h0|⟨b,off,ha,hS,hk⟩
  ·exact .inl h0
  ·by_cases hl:0<t.len
   ·have hlt:b<w.heap.size:=by obtain⟨ai,ci,hn,_⟩:=hk 0 hl;exact hn.lt
    exact .inr ⟨b,off,ha,h2 b hS hlt,fun i hi=>by obtain⟨ai,ci,hn,hr⟩:=hk i hi;exact⟨ai,ci,hn.same (h1 b hS hlt),ih i hi hr⟩⟩
   ·exact .inl (by omega)
theorem RepIn.mono{S S':Nat→Prop}{w:World}(h:∀ k,S k→S' k){t:Tree}{a:Option Addr}(hr:RepIn S w t a):RepIn S' w t a:=
 hr.move (fun _ _ _=>rfl) (fun k hk _=>h k hk)
def Tree.row(t:Tree)(x:Option Addr×Nat):List Value:=[.int .u8 t.kind,.int .i64 t.num,.string t.name,.slice x.1 t.len x.2]
def rowsTo(kid:Nat→Tree)(x:Nat→Option Addr×Nat):Nat→List Value
 | 0=>[]
 | n+1=>rowsTo kid x n++(kid n).row (x n)
theorem rowsTo_len(kid:Nat→Tree)(x:Nat→Option Addr×Nat)(n:Nat):(rowsTo kid x n).length=n*4:=by
 induction n with
 | zero=>rfl
 | succ n ih=>simp only[rowsTo,List.length_append,ih];simp[Tree.row];omega
theorem rowsTo_congr{kid:Nat→Tree}{x y:Nat→Option Addr×Nat}{n:Nat}(h:∀ i,i<n→x i=y i):rowsTo kid x n=rowsTo kid y n:=by
 induction n with
 | zero=>rfl
 | succ n ih=>simp only[rowsTo];rw[ih (fun i hi=>h i (by omega)),h n (by omega)]
theorem rowsTo_at(kid:Nat→Tree)(x:Nat→Option Addr×Nat){n i:Nat}(h:i<n)(d:Nat)(hd:d<4):(rowsTo kid x n)[i*4+d]? = ((kid i).row (x i))[d]?:=by
 induction n with
 | zero=>omega
 | succ n ih =>
  simp only[rowsTo]
  by_cases e:i=n
  ·subst e
   rw[List.getElem?_append_right (by rw[rowsTo_len];omega),rowsTo_len]
   congr 1;omega
  ·rw[List.getElem?_append_left (by rw[rowsTo_len];omega)]
   exact ih (by omega)
set_option maxHeartbeats 4000000
def PathV(N:Nat)(w:World)(v:Value)(p:List Int):Prop:=w.ownsRow N 3 1 v p.length (ints p)
theorem iclone_any(N:Nat)(p:List Int)(w:World)(v:Value)(hp:PathV N w v p)(hl:p.length≤1000000) :
 Calls Tryz.prog 66 #[v] w fun e w'=>∃ v',e = .returned v'∧PathV w.heap.size w' v' p∧Below w.heap.size w w':=by
 obtain⟨i0,hi,hz0,hz1,hz2⟩:=info_parts Tryz.infoInt
 have hnil:=fun (w:World) (a:Option Addr) (n c:Nat)=>Lib.run_eql_slice_nil (P:=Tryz.prog) w 114 3 a n c 0 0 Tryz.underlying114
 have HP:=ξ hp
 obtain⟨a,c,rfl⟩:=own_val hp
 cases a with
 | none =>
  have h0:p = []:=by
   rcases hp.2 with⟨_,h0⟩|⟨g,cap,cur,h1,_⟩
   ·exact List.length_eq_zero_iff.1 h0
   ·cases h1
  subst h0
  have hc0:c=0:=by
   rcases hp.2 with⟨h1,_⟩|⟨g,cap,cur,h1,_⟩
   ·injection h1
   ·cases h1
  subst hc0
  clear hp
  go_enter Tryz.func66,Tryz.ntmps66
  go_wp2_with fail
  go_ret
  exact⟨_,rfl,World.ownsRow_nil _ _ _ _,Below.refl _ _⟩
 | some ad =>
  have hsrc:Src (w.alloc (.cells #[] 3)) (some ad) p.length 1 (ints p):=by
   refine⟨by rw[ints_len];omega,?_⟩
   rcases Nat.eq_zero_or_pos p.length with h0|h0
   ·exact .inl h0
   ·obtain⟨b,e,_⟩:=own_at hp h0
    refine .inr ⟨ad,rfl,fun j u hj=>?_⟩
    injection e with e
    subst e
    exact (own_below hp (mem_alloc w _)).cells rfl j u hj
  have HSRC:=ξ hsrc
  have hmade:(w.alloc (.cells #[] 3)).ownsRow w.heap.size 3 1 (.slice (some ⟨w.heap.size,0,none⟩) 0 0) 0 []:=World.ownsRow_made _ #[] 0 (Nat.le_refl _) (by unfold maxLen;omega) rfl
  have HMADE:=ξ hmade
  clear hp hsrc hmade
  go_enter Tryz.func66,Tryz.ntmps66
  go_wp2_with (at_builtin;refine wpList_append_src _ rfl (.tmp 5) (.tmp 6) 114 rfl w.heap.size 3 i0 _ 1 8 Tryz.underlying114 hi hz0 hz1 hz2 rfl (by decide) (.slice (some ⟨w.heap.size,0,none⟩) 0 0) 0 [] rfl HMADE.out (some ad) p.length c (ints p) rfl HSRC.out (ints_one p) (by unfold maxLen;omega) (by omega) (by simp) ?_)
  intro v2 w2 hown2 hgrow2 _
  have HO:Hid (PathV w.heap.size w2 v2 p):=by show World.ownsRow _ _ _ _ _ _ _;simpa using hown2
  have HB:Hid (Below w.heap.size w w2):=(mem_alloc w _).grown hgrow2 (by simp) (fun k hk=>by cases hk;exact Nat.le_refl _)
  clear hown2 hgrow2
  go_wp2_with fail
  go_ret
  exact⟨_,rfl,HO.out,HB.out⟩
structure FltP where
 task:Int
 flt:Flt
 pv:Value
def FltP.cells(f:FltP):List Value:=[.int .i64 f.task,f.pv,.int .i64 f.flt.err,.string f.flt.name]
theorem FltP.len(f:FltP):f.cells.length=4:=rfl
theorem FltP.info:(Tryz.prog.info? 116).map (fun i=>(i.zero,i.size,i.bytes))=some (some (.agg #[.int .i64 0,.slice none 0 0,.int .i64 0,.string ⟨#[]⟩]),4,56):=by kernel_rfl
structure FltsAt(N:Nat)(w:World)(v:Value)(L:List FltP):Prop where
 ro:w.ownsRow N 116 4 v L.length (L.flatMap FltP.cells)
 ri:∀ f∈L,PathV N w f.pv f.flt.path
theorem FltsAt.nil{N:Nat}{w:World}:FltsAt N w (.slice none 0 0) []:=⟨World.ownsRow_nil _ _ _ _,by simp⟩
theorem FltsAt.keep{N:Nat}{w w':World}{v:Value}{L:List FltP}(h:FltsAt N w v L)(hB:Below w.heap.size w w'):FltsAt N w' v L:=
 ⟨own_below h.ro hB,fun f hf=>own_below (h.ri f hf) hB⟩
def Still15:Obj→Prop
 | .cells _ t _=>t≠116∧t≠85
 | _=>True
structure FrT(N:Nat)(w w':World):Prop where
 low:Below N w w'
 still:∀ (k:Nat) (o:Obj),w.heap[k]? = some o→Still15 o→w'.heap[k]? = some o
section
variable {N:Nat} {w w' w'':World} {v:Value}
theorem FrT.refl:FrT N w w:=⟨Below.refl _ _,fun _ _ h _=>h⟩
theorem FrT.trans(h:FrT N w w')(h':FrT N w' w''):FrT N w w'':=⟨h.low.trans h'.low,fun k o hk hs=>h'.still k o (h.still k o hk hs) hs⟩
theorem FrT.of(h:Below w.heap.size w w')(hN:N≤w.heap.size):FrT N w w':=⟨h.mono hN,fun _ _ hk _=>mem_keep hk h⟩
theorem FrT.cells{b:Nat}{arr:Array Value}{t:TypeId}(h:FrT N w w')(hb:w.heap[b]? = some (.cells arr t))(h1:t≠116)(h2:t≠85):w'.heap[b]? = some (.cells arr t):=h.still b _ hb ⟨h1,h2⟩
theorem FrT.set{b n:Nat}{S:List ByteArray}(h:FrT N w w')(hs:SetS w b n S):SetS w' b n S:=by
 obtain⟨D,⟨es,clock,h1,h2⟩,h3⟩:=hs
 exact⟨D,⟨es,clock,h.still b _ h1 trivial,h2⟩,h3⟩
theorem FrT.path{B:Nat}{p:List Int}(h:FrT N w w')(hp:PathV B w v p):PathV B w' v p:=by
 rcases hp.2 with⟨rfl,h0⟩|⟨g,cap,cur,rfl,hg,hc,r⟩
 ·exact⟨hp.1,.inl ⟨rfl,h0⟩⟩
 ·exact⟨hp.1,.inr ⟨g,cap,cur,rfl,hg,h.still g _ hc ⟨by decide,by decide⟩,r⟩⟩
theorem FrT.nms{sb cb ab:Nat}{d:Nms}(h:FrT N w w')(hd:NmsAt w sb cb ab d):NmsAt w' sb cb ab d:=
 ⟨hd.shared.imp fun _ x=>h.set x,hd.scalars.imp fun _ x=>h.set x,hd.arrays.imp fun _ x=>h.set x⟩
theorem FrT.rep{t:Tree}{a:Option Addr}(h:FrT N w w')(hr:RepIn (fun k=>k<N) w t a):RepIn (fun k=>k<N) w' t a:=hr.move (fun k hk _=>h.low.block k hk) (fun _ hk _=>hk)
end
structure FB(N:Nat)(w:World)(fb:Nat)(v:Value)(L:List FltP):Prop where
 box:w.heap[fb]? = some (.cells #[v] 85)
 row:FltsAt N w v L
 up:N≤fb
theorem FB.keep{N:Nat}{w w':World}{fb:Nat}{v:Value}{L:List FltP}(h:FB N w fb v L)(hB:Below w.heap.size w w'):FB N w' fb v L:=⟨mem_keep h.box hB,h.row.keep hB,h.up⟩
theorem FB.grow{N:Nat}{w V w2:World}{fb:Nat}{v:Value}{L:List FltP}(h:FB N w fb v L)(hN:N≤w.heap.size)(hB:Below w.heap.size w V)(hg:V.grownBy w2 v.ownBlock):FrT N w w2∧w2.heap[fb]? = some (.cells #[v] 85):=by
 have hV:=h.keep hB
 refine⟨⟨(hB.mono hN).grown hg (Nat.le_trans hN hB.size) (fun k hk=>(own_lt hV.row.ro hk).1),fun k o hk hs=>?_⟩,(hg.block _ (mem_lt hV.box) (fun e=>own_other hV.row.ro hV.box (by decide) e.symm)).trans hV.box⟩
 have h1:=mem_keep hk hB
 refine (hg.block k (mem_lt h1) (fun e=>?_)).trans h1
 rcases hV.row.ro.2 with⟨rfl,_⟩|⟨g',cap',cur,rfl,_,hc,_⟩
 ·cases e
 ·have e:k=g':=by injection e
  subst e
  rw[hc] at h1
  injection h1 with h1
  subst h1
  exact hs.1 rfl
theorem FB.push{N:Nat}{w V w2:World}{fb gb cap:Nat}{v:Value}{L:List FltP}{f:FltP}(h:FB N w fb v L)(hN:N≤w.heap.size)(hB:Below w.heap.size w V)(hp:PathV N V f.pv f.flt.path)(hg:V.grownBy w2 v.ownBlock)
 (ho:w2.ownsRow N 116 4 (.slice (some ⟨gb,0,none⟩) (L.length+1) cap) (L.length+1) (L.flatMap FltP.cells++f.cells)) :
 FB N (w2.setCell ⟨fb,0,none⟩ (.slice (some ⟨gb,0,none⟩) (L.length+1) cap)) fb (.slice (some ⟨gb,0,none⟩) (L.length+1) cap) (L++[f]) ∧
 FrT N w (w2.setCell ⟨fb,0,none⟩ (.slice (some ⟨gb,0,none⟩) (L.length+1) cap)):=by
 have hV:=h.keep hB
 have keep:∀ {b:Nat} {arr:Array Value} {t:TypeId},V.heap[b]? = some (.cells arr t)→t≠116→w2.heap[b]? = some (.cells arr t):=fun hb ht =>
  (hg.block _ (mem_lt hb) (fun e=>own_other hV.row.ro hb ht e.symm)).trans hb
 have path:∀ {B:Nat} {z:Value} {p:List Int},PathV B V z p→PathV B w2 z p:=fun {B z p} hz=>by
  refine own_keep hz (fun k hk hl=>hg.block k hl ?_)
  rcases hz.2 with⟨rfl,_⟩|⟨g',cap',cur,rfl,_,hc,_⟩
  ·cases hk
  ·have hk:g'=k:=by injection hk
   subst hk
   exact fun e=>own_other hV.row.ro hc (by decide) e.symm
 have hbox:=keep hV.box (by decide)
 have path2:∀ {B:Nat} {z:Value} {p:List Int},PathV B w2 z p→PathV B (w2.setCell ⟨fb,0,none⟩ (.slice (some ⟨gb,0,none⟩) (L.length+1) cap)) z p:=fun {B z p} hz =>
  own_keep hz (fun k hk _=>Below.heap_setCell _ _ _ _ (by rintro rfl;exact own_other hz hbox (by decide) hk))
 refine⟨⟨?_,⟨?_,fun g hg'=>?_⟩,h.up⟩,⟨?_,fun k o hk hs=>?_⟩⟩
 ·rw[mem_set hbox];rfl
 ·have e:(L++[f]).flatMap FltP.cells=L.flatMap FltP.cells++f.cells:=by simp
  rw[e]
  simp only[List.length_append,List.length_singleton]
  exact own_keep ho (fun k hk _=>Below.heap_setCell _ _ _ _ (by rintro rfl;exact own_other ho hbox (by decide) hk))
 ·rcases List.mem_append.1 hg' with hg'|hg'
  ·exact path2 (path (hV.row.ri g hg'))
  ·obtain rfl:=List.mem_singleton.1 hg'
   exact path2 (path hp)
 ·exact ((hB.mono hN).grown hg (Nat.le_trans hN hB.size) (fun k hk=>(own_lt hV.row.ro hk).1)).setCell h.up _
 ·have h1:=mem_keep hk hB
  have h2:w2.heap[k]? = some o:=(hg.block k (mem_lt h1) (fun e=>by
   rcases hV.row.ro.2 with⟨rfl,_⟩|⟨g',cap',cur,rfl,_,hc,_⟩
   ·cases e
   ·have e:k=g':=by injection e
    subst e
    rw[hc] at h1
    injection h1 with h1
    subst h1
    exact hs.1 rfl)).trans h1
  refine (Below.heap_setCell _ _ _ _ ?_).trans h2
  rintro rfl
  rw[hbox] at h2
  injection h2 with h2
  subst h2
  exact hs.2 rfl
