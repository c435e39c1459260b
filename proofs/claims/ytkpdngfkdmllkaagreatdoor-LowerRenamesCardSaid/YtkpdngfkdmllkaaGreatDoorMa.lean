/- Part. -/
import Derived.Below
import Derived.ChangeSame
import Derived.ProofKit
import Derived.WideKeyArgs
import Derived.OpenShut
import Derived.WalkKit
import Derived.Deep.QuietTactic
import Derived.Test.YtkpdngfkdmllkaaGreatDoorProg
import Derived.Outline
import Derived.Lib.Hide
import Derived.LoopTactic
namespace Go.Proofs.YtkpdngfkdmllkaaGreatDoor
set_option linter.unusedVariables false
set_option linter.unusedSimpArgs false
open Go.RowKit Go.WideShapes Go.ChangeShapes Go.ChangeAt
section
variable {H:Type} {enc:TypeId×Value→H} {P:Program}
theorem post_of_below{f:Func}{s:ChangeSpec}{apart fresh handsOn again:Bool}{W W':World}{args:Array Value}{v:Value}{ds gs:List (DataW H)}{before pa pv:List MemPlace}
 (hW:DataW.Whole enc P f.params.toList s.vars apart W args.toList ds gs before)
 (hres:∀ (b:Nat) (sp:Nat→Bool) (hd:Bool),DataW.TrodAll enc P W' b sp hd f.resultTypes.toList (v.resultList f.resultTypes.size) (s.fn H (ds++gs)).results [])
 (hargs:∀ sp:Nat→Bool,(∀ p∈before,sp p.block=true)→DataW.TrodAll enc P W' 0 sp true f.params.toList args.toList (s.fn H (ds++gs)).args pa)
 (hvars:∀ sp:Nat→Bool,(∀ p∈before,sp p.block=true)→DataW.TrodVars enc P W' sp s.vars (s.fn H (ds++gs)).vars pv)
 (hps:before=pa++pv) (hb:Below W.heap.size W W')
 (hok:∀ (j:Nat) (t:TypeId) (r:Value),f.resultTypes[j]? = some t→(v.resultList f.resultTypes.size)[j]? = some r→Value.okWide P W' .any 0 t r) :
 s.post enc P f apart fresh handsOn again W args v W':=by
 have hlt:∀ p∈before,p.block<W.heap.size:=fun p hp=>hW.lt p hp
 have hold:∀ p∈before,(fun b=>decide (b<W.heap.size)) p.block=true:=fun p hp=>by simpa using hlt p hp
 refine⟨ds,gs,before,[],pa,pv,hW,hres _ _ _,hargs _ hold,hvars _ hold,World.keptBut_mono (fun p hp=>⟨hp,?_⟩) (hb.frame (·∈before)),fun _=>?_⟩
 ·rw[hps,List.mem_append] at hp
  exact Or.inr hp
 ·obtain⟨_,_,_,_,_,hz,hn⟩:=hW
  refine⟨hok,_,_,([]++pa)++pv,⟨[]++pa,pv,trodAll_append (hargs _ (fun _ _=>rfl)) (hres _ _ _),hvars _ (fun _ _=>rfl),rfl,?_,?_⟩,?_⟩
  ·intro b off hp
   have hin:MemPlace.cell b off∈before:=by rw[hps];simpa using hp
   rw[hb.frozen (hlt _ hin)]
   exact hz b off hin
  ·intro ha
   have:=hn ha
   rw[hps] at this
   simpa using this
  ·intro p hp _
   rw[hps]
   simpa using hp
end
section
variable {H:Type} {enc:TypeId×Value→H} {P:Program}
theorem args_again{W W':World}{sp:Nat→Bool}(hl:laidOutB P=true)(hb:Below W.heap.size W W'):∀ (ts:List TypeId) (vs:List Value) (ds:List (DataW H)) (ps:List MemPlace),
 (∀ t∈ts,P.readableRec t=true∧t<P.types.size)→DataW.TrodAll enc P W 0 (fun _=>true) true ts vs ds ps→(∀ p∈ps,p.block<W.heap.size)→(∀ p∈ps,sp p.block=true) →
 DataW.TrodAll enc P W' 0 sp true ts vs ds ps:=by
 intro ts
 induction ts with
 | nil =>
  intro vs ds ps _ h _ _
  obtain⟨rfl,rfl,rfl⟩:=trodAll_nil h
  exact trodAll_mk0
 | cons t ts ih =>
  intro vs ds ps ht h h1 h2
  obtain⟨v,vs',d,ds',p,q,rfl,rfl,rfl,hv,hr⟩:=trodAll_cons h
  obtain⟨r1,r2⟩:=ht t (by simp)
  refine trodAll_cons_mk (Go.WideElems.Trod_stays hl r1 r2 hv (fun p hp=>hb.same (h1 p (by simp[hp]))) (fun p hp=>h2 p (by simp[hp]))) (ih _ _ _ (fun t h=>ht t (by simp[h])) hr (fun p hp=>h1 p (by simp[hp])) (fun p hp=>h2 p (by simp[hp])))
theorem law_post{f:Func}{s:ChangeSpec}{tb:TypeId}{apart fresh handsOn again:Bool}{W W':World}{args:Array Value}{ds gs:List (DataW H)}{before:List MemPlace}
 (hl:laidOutB P=true) (hts:∀ t∈f.params.toList,P.readableRec t=true∧t<P.types.size) (hv:s.vars = []) (hr:f.resultTypes = #[tb]) (hb:P.underlying tb=some .bool)
 (hs:s.fn H ds = { results:=[.lit (.bool true)],args:=ds })
 (hW:DataW.Whole enc P f.params.toList s.vars apart W args.toList ds gs before) (hB:Below W.heap.size W W') :
 s.post enc P f apart fresh handsOn again W args (.bool true) W':=by
 have hW':=hW
 have hlt:∀ p∈before,p.block<W.heap.size:=fun p hp=>hW'.lt p hp
 obtain⟨p,q,hA,hV,rfl,hfz,hnd⟩:=hW
 rw[hv] at hV
 obtain⟨rfl,rfl⟩:=trodVars_none hV
 rw[List.append_nil] at hW' hlt
 refine post_of_below (pa:=p) (pv:=[]) hW' ?_ ?_ ?_ (by simp) hB ?_
 ·intro b sp hd
  rw[List.append_nil,hs,hr]
  exact trodAll_cons_mk (shut_bool hb _) trodAll_mk0
 ·intro sp hsp
  rw[List.append_nil,hs]
  exact args_again hl hB _ _ _ _ hts hA hlt hsp
 ·intro sp _
  rw[List.append_nil,hs,hv]
  rfl
 ·rw[hr]
  intro j t r h1 h2
  match j with
  | 0 =>
   simp at h1
   subst h1
   have:r = .bool true:=by simpa[Value.resultList] using h2.symm
   subst this
   exact okWide_bool_mk hb _
  | j+1=>simp at h1
end
open Go.RowKit
theorem below_drew{w w':World}(h:∃ m,w'=World.drewN w m):Below w.heap.size w w':=by
 obtain⟨m,rfl⟩:=h
 exact⟨rfl,rfl,rfl,Nat.le_refl _,fun _ _=>rfl⟩
theorem drew_more{w w' V:World}{n:Nat}(h:∃ m,w'=World.drewN w m)(hV:World.drewN w' n=V):∃ m,V=World.drewN w m:=by
 obtain⟨m,rfl⟩:=h
 exact⟨m+n,by rw[←hV];simp[World.drewN,Nat.add_assoc]⟩
structure Ins where
 op:Int
 dst:Int
 x:Int
 y:Int
 imm:Int
 sym:ByteArray
def Ins.val(i:Ins):Value:=.agg #[.int .u8 i.op,.int .i64 i.dst,.int .i64 i.x,.int .i64 i.y,.int .i64 i.imm,.string i.sym]
structure Blk where
 code:List Ins
 kind:Int
 x:Int
 to:Int
 els:Int
def Blk.val(b:Blk)(a:Option Addr)(c:Nat):Value:=.agg #[.slice a b.code.length c,.int .u8 b.kind,.int .i64 b.x,.int .i64 b.to,.int .i64 b.els]
def Blk.succ(b:Blk):List Int:=
 if b.kind=1∨(b.kind=2∧b.to=b.els) then [b.to] else if b.kind=2 then [b.to,b.els] else []
def IntsIn(S:Nat→Prop)(w:World)(v:Value)(p:List Int):Prop:=
 (p = []∧v = .slice none 0 0) ∨
 ∃ b off cap,v = .slice (some ⟨b,off,none⟩) p.length cap∧S b∧p.length≤cap∧b<w.heap.size∧∀ i,i<p.length→w.cell? ⟨b,off+i,none⟩=some (.int .i64 (p.getD i 0))
theorem IntsIn.move{S S':Nat→Prop}{w w':World}{v:Value}{p:List Int}(hsz:w.heap.size≤w'.heap.size)(h1:∀ k,S k→k<w.heap.size→w'.heap[k]? = w.heap[k]?)(h2:∀ k,S k→k<w.heap.size→S' k)(h:IntsIn S w v p):IntsIn S' w' v p:=by
 rcases h with h|⟨b,off,cap,hv,hS,hc,hb,hk⟩
 ·exact .inl h
 ·exact .inr ⟨b,off,cap,hv,h2 b hS hb,hc,Nat.lt_of_lt_of_le hb hsz,fun i hi=>(World.cell?_of_block (a:=⟨b,_,none⟩) (h1 b hS hb)).trans (hk i hi)⟩
theorem IntsIn.below{S:Nat→Prop}{w w':World}{v:Value}{p:List Int}(h:IntsIn S w v p)(hb:Below w.heap.size w w'):IntsIn S w' v p:=
 h.move hb.size (fun k _ hk=>hb.block k hk) (fun _ h _=>h)
set_option maxRecDepth 100000
abbrev fnVal(name:ByteArray)(regs:Int)(aa:Option Addr)(an ac:Nat)(ba:Option Addr)(bn bc:Nat):Value:=.agg #[.string name,.int .i64 regs,.slice aa an ac,.slice ba bn bc]
theorem ret_bool{a b:Bool}(h:a=b):Ending.returned (.bool a) = .returned (.bool b):=by rw[h]
def endOk(regs:Int)(n:Nat)(b:Blk):Bool:=
 bif b.kind == 1 then decide (0≤b.to) && decide (b.to<(n:Int)) && (b.x == 0) && (b.els == 0)
 else bif b.kind == 2 then decide (0≤b.x) && decide (b.x<regs) && decide (0≤b.to) && decide (b.to<(n:Int)) && decide (0≤b.els) && decide (b.els<(n:Int))
 else bif b.kind == 3 then (b.x == 0) && (b.to == 0) && (b.els == 0)
 else false
set_option maxHeartbeats 8000000 in
theorem validEnd_any(name:ByteArray)(regs:Int)(aa ba:Option Addr)(an ac bn bc:Nat)(b:Blk)(a:Option Addr)(c:Nat)(w:World)(hn:bn≤9223372036854775807) :
 Calls Tryz.prog 36 #[fnVal name regs aa an ac ba bn bc,b.val a c] w fun e w'=>e = .returned (.bool (endOk regs bn b))∧Below w.heap.size w w':=by
 unfold Blk.val
 go_enter Tryz.func36,Tryz.ntmps36
 go_wp2
 all_goals
  go_ret
  exact⟨ret_bool (by first | (simp[endOk, *];done) | (simp[endOk, *];intros;omega)),((Below.refl _ _).alloc (Nat.le_refl _) _).alloc (by simp) _⟩
structure IrArrsAt(w:World)(a:Option Addr)(l:List (ByteArray×Int)):Prop where
 fits:l.length≤9223372036854775807
 sizes:∀ p∈l,p.1.size≤9223372036854775807
 at_:l.length=0∨∃ b off,a=some ⟨b,off,none⟩∧∀ (i:Nat) (p:ByteArray×Int),l[i]? = some p→w.cell? ⟨b,off+i*2,none⟩=some (.string p.1)∧w.cell? ⟨b,off+i*2+1,none⟩=some (.int .i64 p.2)
theorem IrArrsAt.below{w w':World}{a:Option Addr}{l:List (ByteArray×Int)}(h:IrArrsAt w a l)(hB:Below w.heap.size w w'):IrArrsAt w' a l:=by
 refine⟨h.fits,h.sizes,?_⟩
 rcases h.at_ with h0|⟨b,off,ha,hk⟩
 ·exact .inl h0
 ·refine .inr ⟨b,off,ha,fun i p hp=>?_⟩
  obtain⟨h1,h2⟩:=hk i p hp
  exact⟨(hB.cell (p:=⟨b,_,none⟩) (World.block_lt_of_cell? w _ h1)).trans h1,(hB.cell (p:=⟨b,_,none⟩) (World.block_lt_of_cell? w _ h2)).trans h2⟩
end Go.Proofs.YtkpdngfkdmllkaaGreatDoor
namespace Go.Proofs.YtkpdngfkdmllkaaGreatDoor.Wd
set_option linter.unusedVariables false
set_option linter.unusedSimpArgs false
open Go.RowKit
def tr(b:Bool):Int:=if b then 1 else 0
def apply(k x y:Int):Int:=
 if k=6 then wrap32 (x+y)
 else if k=7 then wrap32 (x-y)
 else if k=8 then wrap32 (x*y)
 else if k=9 then (if y=0 then 0 else wrap32 (x.tdiv y))
 else if k=10 then (if y=0 then 0 else x.tmod y)
 else if k=11 then bits .and .i32 x y
 else if k=12 then bits .or .i32 x y
 else if k=13 then bits .xor .i32 x y
 else if k=14 then wrap32 (x*2 ^ (y % 32).toNat)
 else if k=15 then x / 2 ^ (y % 32).toNat
 else if k=16 then tr (x == y)
 else if k=17 then tr (x != y)
 else if k=18 then tr (decide (x<y))
 else if k=19 then tr (decide (x≤y))
 else if k=20 then tr (decide (y<x))
 else if k=21 then tr (decide (y≤x))
 else if k=22 then tr (x != 0 && y != 0)
 else if k=23 then tr (x != 0 || y != 0)
 else 0
def err(k y:Int):Int:=
 if k<6∨23<k then 1 else if (k=9∨k=10)∧y=0 then 9 else 0
def unary(k x:Int):Int:=if k=4 then wrap32 (-x) else if k=5 then tr (x == 0) else 0
def uerr(k:Int):Int:=if k=4∨k=5 then 0 else 1
def W(x:Int):Prop:=-2147483648≤x∧x≤2147483647
theorem W_wrap(n:Int):W (wrap32 n):=by unfold W wrap32;omega
theorem W_tr(b:Bool):W (tr b):=by unfold W tr;split <;> omega
theorem W_wf{x:Int}(h:(Lit.int .i32 x).wf=true):W x:=by
 simpa[W,Lit.wf,IntKind.min,IntKind.max,IntKind.signed,IntKind.bits] using h
theorem bits_wrap(op:BinOp)(x y:Int):W (bits op .i32 x y):=by
 have h:∃ n:Int,bits op .i32 x y=IntKind.i32.wrap n:=by
  unfold bits
  split <;> exact⟨_,rfl⟩
 obtain⟨n,h⟩:=h
 rw[h,IntWalk.i32_left]
 exact W_wrap n
theorem W_shr{x:Int}(h:W x)(n:Nat):W (x / 2 ^ n):=by
 have hp:(0:Int)<2 ^ n:=Int.pow_pos (by omega)
 unfold W at *
 constructor
 ·rw[Int.le_ediv_iff_mul_le hp]
  have h1:(1:Int)≤2 ^ n:=hp
  have:(-2147483648:Int)*2 ^ n≤-2147483648*1:=Int.mul_le_mul_of_nonpos_left (by omega) h1
  omega
 ·by_cases h0:0≤x
  ·have:=Int.ediv_le_self (2 ^ n) h0;omega
  ·have:x / 2 ^ n<0:=Int.ediv_neg_of_neg_of_pos (by omega) hp
   omega
theorem W_tmod{x y:Int}(h:W x):W (x.tmod y):=by
 unfold W at *
 have:=Int.natAbs_tmod x y
 have h2:x.natAbs % y.natAbs≤x.natAbs:=Nat.mod_le _ _
 by_cases h0:0≤x
 ·have:=Int.tmod_nonneg y h0;omega
 ·have:x.tmod y = -((-x).tmod y):=by rw[Int.neg_tmod];simp
  have:=Int.tmod_nonneg y (show 0≤-x by omega);omega
theorem W_ite{c:Prop}[Decidable c]{a b:Int}(ha:W a)(hb:W b):W (if c then a else b):=by split <;> assumption
theorem W_apply{x y:Int}(k:Int)(hx:W x)(_hy:W y):W (apply k x y):=by
 unfold apply
 have z:W 0:=by unfold W;omega
 repeat' (first | exact z | exact W_wrap _ | exact W_tr _ | exact bits_wrap _ _ _ | exact W_shr hx _ | exact W_tmod hx | refine W_ite ?_ ?_)
theorem W_unary(k x:Int):W (unary k x):=by
 unfold unary
 have z:W 0:=by unfold W;omega
 repeat' (first | exact z | exact W_wrap _ | exact W_tr _ | split)
theorem a9(x y:Int):apply 9 x y=if y=0 then 0 else wrap32 (x.tdiv y):=rfl
theorem a10(x y:Int):apply 10 x y=if y=0 then 0 else x.tmod y:=rfl
theorem aelse(k x y:Int)(h:k<6∨23<k):apply k x y=0:=by
 unfold apply
 repeat rw[if_neg (by omega)]
theorem eelse(k y:Int)(h:k<6∨23<k):err k y=1:=by unfold err;rw[if_pos h]
theorem e0(k y:Int)(h:6≤k∧k≤23)(h2:¬ ((k=9∨k=10)∧y=0)):err k y=0:=by
 unfold err;rw[if_neg (by omega),if_neg h2]
end Go.Proofs.YtkpdngfkdmllkaaGreatDoor.Wd
