/- Part. -/
import Derived.Test.YtkpdngfkdmllkaaGreatDoorPuts
import Derived.Test.YtkpdngfkdmllkaaGreatDoorMd
import Derived.Maps.OwnSet
import Derived.WalkKit
import Derived.Below
import Derived.Shelf.SlMaps.Clone
import Derived.Laws.AppendOwn
import Derived.Lib.Hide
import Derived.Deep.QuietTactic
import Derived.Test.YtkpdngfkdmllkaaGreatDoorProg
import Derived.BigGuardPart
import Derived.Outline
namespace Go.Proofs.YtkpdngfkdmllkaaGreatDoor
set_option linter.unusedVariables false
set_option linter.unusedSimpArgs false
def concatTo{β:Type}(f:Nat→List β):Nat→List β
 | 0=>[]
 | n+1=>concatTo f n++f n
theorem concatTo_congr{β:Type}{f g:Nat→List β}{n:Nat}(h:∀ i,i<n→f i=g i):concatTo f n=concatTo g n:=by
 induction n with
 | zero=>rfl
 | succ n ih=>unfold concatTo;rw[ih (fun i hi=>h i (by omega)),h n (by omega)]
theorem concatTo_succ{β:Type}(f:Nat→List β)(n:Nat):concatTo f (n+1)=concatTo f n++f n:=rfl
open Go.RowKit
structure Arr where
 name:ByteArray
 len:Int
structure Tsk where
 name:ByteArray
 period:Int
 vars:List ByteArray
 arrays:List Arr
 body:Tree
structure Prg where
 shared:List Arr
 tasks:List Tsk
def Arr.none:Arr:=⟨⟨#[]⟩,0⟩
def Tsk.none:Tsk:=⟨⟨#[]⟩,0,[],[],Tree.leaf 0 0 ⟨#[]⟩⟩
def isI64(n:Int):Prop:=-9223372036854775808≤n∧n≤9223372036854775807
def ArrAt(w:World)(b off:Nat)(x:Arr):Prop:=w.cell? ⟨b,off,none⟩=some (.string x.name)∧w.cell? ⟨b,off+1,none⟩=some (.int .i64 x.len)∧x.name.size≤9223372036854775807∧isI64 x.len
def ArrsAt(w:World)(a:Option Addr)(l:List Arr):Prop:=l.length≤9223372036854775807∧∀ i,i<l.length→∃ b off,a=some ⟨b,off,none⟩∧ArrAt w b (off+i*2) (l.getD i Arr.none)
def StrsAt(w:World)(a:Option Addr)(l:List ByteArray):Prop:=l.length≤9223372036854775807∧∀ i,i<l.length→∃ b off,a=some ⟨b,off,none⟩∧w.cell? ⟨b,off+i,none⟩=some (.string (l.getD i ⟨#[]⟩))∧(l.getD i ⟨#[]⟩).size≤9223372036854775807
structure TskPlace where
 va:Option Addr
 vc:Nat
 aa:Option Addr
 ac:Nat
 ka:Option Addr
 kc:Nat
def Tsk.cells(t:Tsk)(p:TskPlace):Array Value:=#[.string t.name,.int .i64 t.period,.slice p.va t.vars.length p.vc,.slice p.aa t.arrays.length p.ac,.int .u8 t.body.kind,.int .i64 t.body.num,.string t.body.name,.slice p.ka t.body.len p.kc]
structure TskIn(w:World)(t:Tsk)(p:TskPlace):Prop where
 name:t.name.size≤9223372036854775807
 period:isI64 t.period
 vars:StrsAt w p.va t.vars
 arrays:ArrsAt w p.aa t.arrays
 body:Rep w t.body p.ka
def TsksAt(w:World)(a:Option Addr)(l:List Tsk):Prop:=l.length≤9223372036854775807 ∧
 ∀ i,i<l.length→∃ b off p,a=some ⟨b,off,none⟩∧(∀ o,o<8→w.cell? ⟨b,off+i*8+o,none⟩=((l.getD i Tsk.none).cells p)[o]?)∧TskIn w (l.getD i Tsk.none) p
abbrev Prg.val(p:Prg)(sa:Option Addr)(sc:Nat)(ta:Option Addr)(tc:Nat):Value:=.agg #[.slice sa p.shared.length sc,.slice ta p.tasks.length tc]
def PrgAt(w:World)(p:Prg)(sa ta:Option Addr):Prop:=ArrsAt w sa p.shared∧TsksAt w ta p.tasks
theorem cell_below{w w':World}{b o:Nat}{v:Value}(hb:Below w.heap.size w w')(h:w.cell? ⟨b,o,none⟩=some v):w'.cell? ⟨b,o,none⟩=some v:=
 (hb.cell (p:=⟨b,o,none⟩) (World.block_lt_of_cell? w _ h)).trans h
theorem ArrsAt.below{w w':World}{a:Option Addr}{l:List Arr}(h:ArrsAt w a l)(hb:Below w.heap.size w w'):ArrsAt w' a l:=
 ⟨h.1,fun i hi=>by obtain⟨b,off,ha,h1,h2,h3⟩:=h.2 i hi;exact⟨b,off,ha,cell_below hb h1,cell_below hb h2,h3⟩⟩
theorem StrsAt.below{w w':World}{a:Option Addr}{l:List ByteArray}(h:StrsAt w a l)(hb:Below w.heap.size w w'):StrsAt w' a l:=
 ⟨h.1,fun i hi=>by obtain⟨b,off,ha,h1,h3⟩:=h.2 i hi;exact⟨b,off,ha,cell_below hb h1,h3⟩⟩
theorem TskIn.below{w w':World}{t:Tsk}{p:TskPlace}(h:TskIn w t p)(hb:Below w.heap.size w w'):TskIn w' t p:=
 ⟨h.name,h.period,h.vars.below hb,h.arrays.below hb,h.body.below hb⟩
theorem TsksAt.below{w w':World}{a:Option Addr}{l:List Tsk}(h:TsksAt w a l)(hb:Below w.heap.size w w'):TsksAt w' a l:=by
 refine⟨h.1,fun i hi=>?_⟩
 obtain⟨b,off,p,ha,h1,h2⟩:=h.2 i hi
 refine⟨b,off,p,ha,fun o ho=>?_,h2.below hb⟩
 have e:=h1 o ho
 have hs:o<((l.getD i Tsk.none).cells p).size:=ho
 rw[Array.getElem?_eq_getElem hs] at e⊢
 exact cell_below hb e
theorem PrgAt.below{w w':World}{p:Prg}{sa ta:Option Addr}(h:PrgAt w p sa ta)(hb:Below w.heap.size w w'):PrgAt w' p sa ta:=⟨h.1.below hb,h.2.below hb⟩
theorem all_next{α:Type}(f:α→Bool)(l:List α)(d:α)(j:Nat)(h:j<l.length):(l.take (j+1)).all f=((l.take j).all f && f (l.getD j d)):=by
 rw[List.take_succ_eq_append_getElem h,List.all_append]
 simp[h]
theorem all_stop{α:Type}(f:α→Bool)(l:List α)(d:α)(j:Nat)(h:j<l.length)(hf:f (l.getD j d)=false):l.all f=false:=by
 rw[List.all_eq_false]
 refine⟨l.getD j d,?_,by rw[hf];simp⟩
 simp[h]
def Arr.ok(nm:ByteArray→Bool)(x:Arr):Bool:=nm x.name && decide (1≤x.len) && decide (x.len≤32)
open Go.RowKit Go.Maps
set_option maxRecDepth 100000
def inL(S:List ByteArray):Lit→Bool
 | .string cs=>S.any (fun s=>decide (s.data.toList=cs))
 | _=>false
theorem bytes_data{s t:ByteArray}:s.data.toList=t.data.toList↔s=t:=by
 constructor
 ·intro h
  cases s;cases t
  simp only at h
  rw[Array.toList_inj.1 h]
 ·rintro rfl;rfl
def memB(S:List ByteArray)(s:ByteArray):Bool:=S.any (fun t=>decide (t=s))
theorem memB_iff{S:List ByteArray}{s:ByteArray}:memB S s=true↔s∈S:=by
 unfold memB
 rw[List.any_eq_true]
 constructor
 ·rintro⟨x,hx,h⟩
  have:x=s:=by simpa using h
  exact this ▸ hx
 ·intro h
  exact⟨s,h,by simp⟩
theorem inL_str(S:List ByteArray)(s:ByteArray):inL S (.string s.data.toList)=memB S s:=by
 show S.any _=S.any _
 congr 1
 funext t
 exact decide_eq_decide.2 bytes_data
theorem sameKey_str(s t:ByteArray):(Lit.string s.data.toList).sameKey (.string t.data.toList)=decide (s=t):=by
 by_cases h:s=t
 ·subst h;simp[Lit.sameKey]
 ·rw[Maps.sameKey_ne (fun e=>h (bytes_data.1 (by injection e)))]
  simp[h]
theorem inL_add(S:List ByteArray)(s:ByteArray)(kl:Lit):inL (S++[s]) kl=(inL S kl || kl.sameKey (.string s.data.toList)):=by
 unfold inL
 split
 ·rename_i cs
  rw[List.any_append]
  congr 1
  simp only[List.any_cons,List.any_nil,Bool.or_false]
  by_cases h:cs=s.data.toList
  ·subst h;simp[Lit.sameKey]
  ·rw[Maps.sameKey_ne (fun e=>h (by injection e))]
   simpa using fun e=>h e.symm
 ·rename_i h
  rw[Maps.sameKey_ne (fun e=>h _ e)]
  rfl
theorem inL_nil(kl:Lit):inL [] kl=false:=by
 unfold inL
 split <;> rfl
def StrSet(P:Program)(k e:TypeId)(w:World)(b n:Nat)(S:List ByteArray):Prop:=
 ∃ D:DataW Unit,w.ownsMap P k (plainElem P e) b n D∧(∀ kl zd,D.atKey kl zd=if inL S kl then .lit (.bool true) else zd)∧(S = []→Maps.size D=0)
theorem StrSet.made(P:Program)(k e:TypeId)(w:World):StrSet P k e (w.alloc (.map #[] 0)) w.heap.size 0 []:=
 ⟨.map [],World.ownsMap_made w P k _,fun kl zd=>by rw[inL_nil kl];rfl,fun _=>rfl⟩
section
variable {P:Program} {k e t:TypeId} {w w':World} {b n:Nat} {S:List ByteArray}
theorem StrSet.lt(h:StrSet P k e w b n S):b<w.heap.size:=h.choose_spec.1.lt
theorem StrSet.move(h:StrSet P k e w b n S)(hb:w'.heap[b]? = w.heap[b]?):StrSet P k e w' b n S:=by
 obtain⟨D,⟨es,clock,h1,h2⟩,h3⟩:=h
 exact⟨D,⟨es,clock,hb.trans h1,h2⟩,h3⟩
theorem StrSet.below(h:StrSet P k e w b n S)(hb:Below w.heap.size w w'):StrSet P k e w' b n S:=h.move (hb.block b h.lt)
theorem StrSet.mono{n':Nat}(h:StrSet P k e w b n S)(hn:n≤n'):StrSet P k e w b n' S:=by
 obtain⟨D,h1,h2⟩:=h
 exact⟨D,h1.mono hn,h2⟩
theorem StrSet.add{s:ByteArray}(h:StrSet P k e w b n S)(hk:P.underlying k=some .string)(ht:P.underlying t=some (.map k e))(he:P.underlying e=some .bool)(hs:s.size≤maxLen)(hn:n<maxLen) :
 ∃ w',(Instr.mapUpdate t (.map (some b)) (.string s) (.bool true)).run P w = .ok () w'∧StrSet P k e w' b (n+1) (S++[s])∧w.grownBy w' (some b):=by
 obtain⟨D,h1,h2,_⟩:=h
 obtain⟨w',e1,e2,e3⟩:=h1.update (val:=.bool true) (string_keyed hk) ht hn (WideMaps.keyOf_string_mk hk hs) (plainElem_bool he true)
 refine⟨w',e1,⟨_,e2,fun kl zd=>?_,fun h=>by simp at h⟩,e3⟩
 rw[inL_add]
 by_cases hl:kl = .string s.data.toList
 ·subst hl
  rw[Maps.atKey_put_same h1.isMap (show WideAt.IsKeyLit (.string s.data.toList) from trivial),sameKey_str]
  simp
 ·rw[Maps.atKey_put_other hl,h2]
  rw[Maps.sameKey_ne hl]
  simp
theorem StrSet.run(h:StrSet P k e w b n S)(hk:P.underlying k=some .string)(ht:P.underlying t=some (.map k e))(he:P.underlying e=some .bool)(hz:(zeroValue e).run P w = .ok (.bool false) w){s:ByteArray}(hs:s.size≤maxLen) :
 (Instr.lookup t (.map (some b)) (.string s) false).run P w = .ok (.bool (memB S s)) w:=by
 obtain⟨D,h1,h2,_⟩:=h
 obtain⟨v,ps,hrun,hv⟩:=h1.lookup (string_keyed hk) ht hz (plainElem_bool he false) (WideMaps.keyOf_string_mk hk hs)
 rw[hrun]
 rw[h2,inL_str] at hv
 have hb:∃ x,v = .bool x:=by
  unfold plainElem at hv
  rw[he] at hv
  cases v <;> simp at hv
  exact⟨_,rfl⟩
 obtain⟨x,rfl⟩:=hb
 rw[plainElem_bool he] at hv
 cases hm:memB S s <;> rw[hm] at hv <;> simp at hv <;> simp[hv]
theorem StrSet.len(h:StrSet P k e w b n S)(ht:P.underlying t=some (.map k e))(ty:TypeId):∃ m:Nat,(Builtin.len_ #[t] ty #[.map (some b)]).run P w = .ok (.int .i64 (m:Int)) w∧m≤n∧(0<m↔S≠[]):=by
 obtain⟨D,h1,h2,h3⟩:=h
 refine⟨Maps.size D,h1.len ht ty,h1.size_le,fun h9 e9=>by rw[h3 e9] at h9;omega,fun h9=>?_⟩
 cases S with
 | nil=>exact absurd rfl h9
 | cons s S =>
  have hh:Maps.has D (.string s.data.toList)=true:=has_true_of_atKey (y:=.lit (.bool true)) (fun z=>by rw[h2,inL_str];simp[memB])
  cases D with
  | map es =>
   rw[Maps.size_eq]
   cases es with
   | nil=>cases hh
   | cons x es=>simp
  | _=>cases hh
end
section
variable {P:Program} (w:World) {ops:Array Oper} {rest:List Oper} {o:Oper} {a:Act} {Q:Exit→Act→World→Prop}
theorem wpList_store_str(hg:o.guard=none)(m x v:Operand)(t:TypeId)(hop:o.op=Op.mapUpdate t m x v)
 (k e:TypeId) (hk:P.underlying k=some .string) (he:P.underlying e=some .bool) (ht:P.underlying t=some (.map k e)) (b n:Nat) (S:List ByteArray)
 (hm:a.eval m = .map (some b)) (h:StrSet P k e w b n S) (s:ByteArray) (hx:a.eval x = .string s) (hv:a.eval v = .bool true) (hs:s.size≤maxLen) (hn:n<maxLen)
 (hK:∀ w',StrSet P k e w' b (n+1) (S++[s])→w.grownBy w' (some b)→wpList P ops Q rest (a.put o.dst undef) w') :
 wpList P ops Q (o::rest) a w:=by
 refine wpList_plain hg fun K' hK'=>?_
 obtain⟨w',hrun,r1,r2⟩:=h.add hk ht he hs hn
 unfold Oper.wp
 simp[execOp,hop,hm,hx,hv,hrun,Result.andThen]
 exact hK' _ _ (hK w' r1 r2)
end
theorem StrSet.copy{P:Program}{k e:TypeId}{w:World}{b n:Nat}{S:List ByteArray}(h:StrSet P k e w b n S){es:Array MapEntry}{clock:Nat}(hb:w.heap[b]? = some (.map es clock)):StrSet P k e (w.alloc (.map es clock)) w.heap.size n S:=by
 obtain⟨D,⟨es',clock',h1,h2⟩,h3⟩:=h
 rw[hb] at h1
 injection h1 with h1
 injection h1 with e1 e2
 subst e1 e2
 exact⟨D,⟨es,clock,(MapKept.heap_alloc w _).1,h2⟩,h3⟩
structure Nms where
 shared:List ByteArray
 scalars:List ByteArray
 arrays:List ByteArray
def faultN(d:Nms)(kind:Int)(name:ByteArray)(place:Bool)(loops locks:List ByteArray):Int:=
 if kind=2 then
  if place && memB loops name then 7
  else if memB d.scalars name || memB loops name then 0
  else if memB d.arrays name || memB d.shared name then 7
  else 6
 else if kind=3 then
  if memB d.arrays name then 0
  else if memB d.shared name then (if memB locks name then 0 else 12)
  else if memB d.scalars name || memB loops name then 7
  else 6
 else if kind=42 then
  if (memB d.scalars name || memB loops name) || (memB d.arrays name || memB d.shared name) then 8 else 0
 else if kind=46 then
  if memB d.shared name then (if locks = [] then 0 else 12) else 6
 else 0
structure Flt where
 path:List Int
 err:Int
 name:ByteArray
def loopsIn(t:Tree)(l:List ByteArray):List ByteArray:=if t.kind=42 then l++[t.name] else l
def locksIn(t:Tree)(l:List ByteArray):List ByteArray:=if t.kind=46 then l++[t.name] else l
def placeIn(t:Tree)(i:Nat):Bool:=decide (i=0) && (decide (t.kind=40) || decide (t.kind=44))
def ownF(d:Nms)(t:Tree)(path:List Int)(place:Bool)(loops locks:List ByteArray):List Flt:=
 if faultN d t.kind t.name place loops locks=0 then [] else [⟨path,faultN d t.kind t.name place loops locks,t.name⟩]
def faultsT(d:Nms):Tree→List Int→Bool→List ByteArray→List ByteArray→List Flt
 | .node k n s l kid=>fun path place loops locks =>
  ownF d (.node k n s l kid) path place loops locks ++
   concatTo (fun i=>if h:i<l then faultsT d (kid ⟨i,h⟩) (path++[(i:Int)]) (placeIn (.node k n s l kid) i) (loopsIn (.node k n s l kid) loops) (locksIn (.node k n s l kid) locks) else []) l
theorem faultsT_eq(d:Nms)(t:Tree)(path:List Int)(place:Bool)(loops locks:List ByteArray) :
 faultsT d t path place loops locks=ownF d t path place loops locks++concatTo (fun i=>faultsT d (t.kid i) (path++[(i:Int)]) (placeIn t i) (loopsIn t loops) (locksIn t locks)) t.len:=by
 cases t with
 | node k n s l kid =>
  rw[faultsT]
  refine congrArg (ownF d (.node k n s l kid) path place loops locks ++ ·) (concatTo_congr fun i hi=>?_)
  have hi':i<l:=hi
  rw[dif_pos hi',Tree.kid_node hi']
def declF(known:ByteArray→Bool):List ByteArray→List ByteArray→List Flt
 | _,[]=>[]
 | so,x::l=>(if known x || memB so x then [⟨[],8,x⟩] else [])++declF known (so++[x]) l
theorem memB_append(S T:List ByteArray)(s:ByteArray):memB (S++T) s=(memB S s || memB T s):=by unfold memB;simp
theorem declF_snoc(known:ByteArray→Bool):∀ (l so:List ByteArray) (x:ByteArray),declF known so (l++[x])=declF known so l++(if known x || memB (so++l) x then [⟨[],8,x⟩] else [])
 | [],so,x=>by simp[declF]
 | y::l,so,x=>by
  rw[List.cons_append,declF,declF,declF_snoc known l (so++[y]) x,List.append_assoc,List.append_assoc]
  simp
def taskF(shared:List ByteArray)(t:Tsk):List Flt:=
 declF (memB shared) [] (t.vars++t.arrays.map (·.name))++faultsT ⟨shared,t.vars,t.arrays.map (·.name)⟩ t.body [] false [] []
structure TFlt where
 task:Int
 flt:Flt
def tasksF(shared:List ByteArray):List ByteArray→Nat→List Tsk→List TFlt
 | _,_,[]=>[]
 | so,i,t::l=>((if memB so t.name then [Flt.mk [] 8 t.name] else [])++taskF shared t).map (fun f=>TFlt.mk (i:Int) f)++tasksF shared (so++[t.name]) (i+1) l
def checkF(p:Prg):List TFlt:=
 (declF (fun _=>false) [] (p.shared.map (·.name))).map (fun f=>TFlt.mk (-1) f)++tasksF (p.shared.map (·.name)) [] 0 p.tasks
theorem mem_cell{w:World}{b:Nat}{arr:Array Value}{t:TypeId}(h:w.heap[b]? = some (.cells arr t))(i:Nat):w.cell? ⟨b,i,none⟩=arr[i]?:=by
 simp[World.cell?,h]
theorem mem_set{w:World}{b i:Nat}{arr:Array Value}{t:TypeId}{v:Value}(h:w.heap[b]? = some (.cells arr t)):(w.setCell ⟨b,i,none⟩ v).heap[b]? = some (.cells (arr.setIfInBounds i v) t):=by
 simp[World.setCell,Array.getElem?_modify,h]
theorem mem_free{w:World}{b:Nat}{arr:Array Value}{t:TypeId}(h:w.heap[b]? = some (.cells arr t))(i:Nat):w.frozen? ⟨b,i,none⟩=false:=by
 simp[World.frozen?,h]
theorem mem_lt{w:World}{b:Nat}{o:Obj}(h:w.heap[b]? = some o):b<w.heap.size:=(Array.getElem?_eq_some_iff.1 h).1
theorem mem_keep{w w':World}{b:Nat}{o:Obj}(h:w.heap[b]? = some o)(hB:Below w.heap.size w w'):w'.heap[b]? = some o:=(hB.block b (mem_lt h)).trans h
theorem mem_then{W w1 w2:World}(h:Below W.heap.size W w1)(hB:Below w1.heap.size w1 w2):Below W.heap.size W w2:=h.trans (hB.mono h.size)
theorem mem_new(w:World)(o:Obj):(w.alloc o).heap[w.heap.size]? = some o:=by
 show (w.heap.push o)[w.heap.size]? = some o
 simp
theorem mem_new1(w:World)(a b:Obj):((w.alloc a).alloc b).heap[w.heap.size+1]? = some b:=by
 have:=mem_new (w.alloc a) b
 simpa using this
theorem mem_old1(w:World)(a b:Obj):((w.alloc a).alloc b).heap[w.heap.size]? = some a:=by
 rw[Below.heap_alloc _ _ _ (by simp)]
 exact mem_new w a
theorem mem_alloc(w:World)(o:Obj):Below w.heap.size w (w.alloc o):=(Below.refl _ _).alloc (Nat.le_refl _) o
theorem mem_drawn{W wr V:World}{n:Nat}(h:Below W.heap.size W wr)(hV:World.drewN wr n=V):Below W.heap.size W V:=by
 rw[←hV]
 exact⟨h.os,h.tape,h.output,h.size,h.block⟩
theorem mem_three(w:World)(a b c:Obj):(((w.alloc a).alloc b).alloc c).heap[w.heap.size]? = some a∧(((w.alloc a).alloc b).alloc c).heap[w.heap.size+1]? = some b∧(((w.alloc a).alloc b).alloc c).heap[w.heap.size+1+1]? = some c∧Below w.heap.size w (((w.alloc a).alloc b).alloc c):=by
 refine⟨?_,?_,?_,(((Below.refl _ _).alloc (Nat.le_refl _) _).alloc (by simp) _).alloc (by simp;omega) _⟩
 ·rw[Below.heap_alloc _ _ _ (by simp;omega)];exact mem_old1 w a b
 ·rw[Below.heap_alloc _ _ _ (by simp)];exact mem_new1 w a b
 ·have:=mem_new1 (w.alloc a) b c
  simpa using this
theorem own_lt{w:World}{base:Nat}{e:TypeId}{size:Nat}{v:Value}{n:Nat}{xs:List Value}(h:w.ownsRow base e size v n xs){k:Nat}(hk:v.ownBlock=some k):base≤k∧k<w.heap.size:=by
 rcases h.2 with⟨rfl,_⟩|⟨g,cap,cur,rfl,hg,hc,r⟩
 ·cases hk
 ·cases hk;exact⟨hg,(Array.getElem?_eq_some_iff.1 hc).1⟩
theorem own_val{w:World}{base:Nat}{e:TypeId}{size:Nat}{v:Value}{n:Nat}{xs:List Value}(h:w.ownsRow base e size v n xs):∃ a c,v = .slice a n c:=by
 rcases h.2 with⟨rfl,rfl⟩|⟨g,cap,cur,rfl,_⟩
 ·exact⟨_,_,rfl⟩
 ·exact⟨_,_,rfl⟩
theorem own_at{w:World}{base:Nat}{e:TypeId}{size:Nat}{a:Option Addr}{n c:Nat}{xs:List Value}(h:w.ownsRow base e size (.slice a n c) n xs)(hn:0<n):∃ b,a=some ⟨b,0,none⟩∧base≤b∧b<w.heap.size:=by
 rcases h.2 with⟨_,h0⟩|⟨g,cap,cur,hv,hg,hc,_⟩
 ·omega
 ·injection hv with hv;exact⟨g,hv,hg,mem_lt hc⟩
theorem own_get{w:World}{base:Nat}{e:TypeId}{size gb m n cap:Nat}{xs:List Value}{j:Nat}{u:Value}(h:w.ownsRow base e size (.slice (some ⟨gb,0,none⟩) m cap) n xs)(hu:xs[j]? = some u):w.cell? ⟨gb,j,none⟩=some u:=by
 have:=h.cells rfl j u hu
 have e:(⟨gb,0,none⟩:Addr).add j=⟨gb,j,none⟩:=by
  unfold Addr.add
  by_cases h0:j=0 <;> simp[h0]
 rwa [e] at this
theorem own_size{w:World}{base:Nat}{e:TypeId}{size:Nat}{v:Value}{n:Nat}{xs:List Value}(h:w.ownsRow base e size v n xs):n≤9223372036854775807:=by
 rcases h.2 with⟨_,rfl⟩|⟨g,cap,cur,rfl,_,_,h1,h2,_⟩
 ·omega
 ·have:cap≤9223372036854775807:=h2
  omega
theorem own_keep{w w':World}{base:Nat}{e:TypeId}{size:Nat}{v:Value}{n:Nat}{xs:List Value}(h:w.ownsRow base e size v n xs)(hb:∀ k,v.ownBlock=some k→k<w.heap.size→w'.heap[k]? = w.heap[k]?):w'.ownsRow base e size v n xs:=by
 obtain⟨h1,h2⟩:=h
 refine⟨h1,?_⟩
 rcases h2 with h2|⟨g,cap,cur,rfl,hg,hc,r⟩
 ·exact .inl h2
 ·exact .inr ⟨g,cap,cur,rfl,hg,(hb g rfl (mem_lt hc)).trans hc,r⟩
theorem own_below{w w':World}{base:Nat}{e:TypeId}{size:Nat}{v:Value}{n:Nat}{xs:List Value}(h:w.ownsRow base e size v n xs)(hb:Below w.heap.size w w'):w'.ownsRow base e size v n xs:=
 own_keep h (fun k _ hk=>hb.block k hk)
theorem own_other{w:World}{base:Nat}{e t:TypeId}{size m b:Nat}{v:Value}{xs:List Value}{arr:Array Value}(h:w.ownsRow base e size v m xs)(hb:w.heap[b]? = some (.cells arr t))(hT:t≠e):v.ownBlock≠some b:=by
 intro e1
 rcases h.2 with⟨rfl,_⟩|⟨g,cap,cur,rfl,_,hc,_⟩
 ·cases e1
 ·have e1:g=b:=by injection e1
  subst e1
  rw[hb] at hc
  injection hc with hc
  injection hc with _ e2
  exact hT e2
theorem own_down{w:World}{base base':Nat}{e:TypeId}{size:Nat}{v:Value}{n:Nat}{xs:List Value}(h:w.ownsRow base e size v n xs)(hb:base'≤base):w.ownsRow base' e size v n xs:=by
 obtain⟨h1,h2⟩:=h
 refine⟨h1,?_⟩
 rcases h2 with h2|⟨g,cap,cur,rfl,hg,r⟩
 ·exact .inl h2
 ·exact .inr ⟨g,cap,cur,rfl,Nat.le_trans hb hg,r⟩
set_option maxHeartbeats 8000000
abbrev SSet:=StrSet Tryz.prog 9 4
theorem zeroB(w:World):(zeroValue 4).run Tryz.prog w = .ok (.bool false) w:=by kernel_rfl
theorem sset_get{w:World}{b n:Nat}{S:List ByteArray}(h:SSet w b n S){s:ByteArray}(hs:s.size≤maxLen):(Instr.lookup 93 (.map (some b)) (.string s) false).run Tryz.prog w = .ok (.bool (memB S s)) w:=
 h.run Tryz.underlying9 Tryz.underlying93 Tryz.underlying4 (zeroB w) hs
structure NmsAt(w:World)(sb cb ab:Nat)(d:Nms):Prop where
 shared:∃ n,SSet w sb n d.shared
 scalars:∃ n,SSet w cb n d.scalars
 arrays:∃ n,SSet w ab n d.arrays
theorem NmsAt.below{w w':World}{sb cb ab:Nat}{d:Nms}(h:NmsAt w sb cb ab d)(hB:Below w.heap.size w w'):NmsAt w' sb cb ab d:=
 ⟨h.shared.imp fun _ h=>h.below hB,h.scalars.imp fun _ h=>h.below hB,h.arrays.imp fun _ h=>h.below hB⟩
theorem fault_any(d:Nms)(t:Tree)(place:Bool)(loops locks:List ByteArray)(sb cb ab lb kb nl nk:Nat)(a:Option Addr)(c:Nat)(w:World)(hd:NmsAt w sb cb ab d)(hl:SSet w lb nl loops)(hk:SSet w kb nk locks)(hs:t.name.size≤maxLen) :
 Calls Tryz.prog 65 #[.agg #[.map (some sb),.map (some cb),.map (some ab)],t.val a c,.bool place,.agg #[.map (some lb),.map (some kb)]] w fun e w'=>e = .returned (.int .i64 (faultN d t.kind t.name place loops locks))∧Below w.heap.size w w':=by
 obtain⟨⟨ns,h1⟩,⟨nc,h2⟩,⟨na,h3⟩⟩:=hd
 obtain⟨W,hW⟩:∃ W:World,((w.alloc (.cells #[.map (some sb),.map (some cb),.map (some ab)] 131)).alloc (.cells #[.int .u8 t.kind,.int .i64 t.num,.string t.name,.slice a t.len c] 47)).alloc (.cells #[.map (some lb),.map (some kb)] 135)=W:=⟨_,rfl⟩
 have HBW:Hid (Below w.heap.size w W):=by show Below _ _ _;rw[←hW];exact (((Below.refl _ _).alloc (Nat.le_refl _) _).alloc (by simp) _).alloc (by simp;omega) _
 have g1:=sset_get (h1.below HBW.out) hs
 have g2:=sset_get (h2.below HBW.out) hs
 have g3:=sset_get (h3.below HBW.out) hs
 have g4:=sset_get (hl.below HBW.out) hs
 have g5:=sset_get (hk.below HBW.out) hs
 obtain⟨m,gl,hm,hmi⟩:=(hk.below HBW.out).len Tryz.underlying93 3
 have HMI:=ξ hmi
 obtain⟨q0,q1,q2,_⟩:=mem_three w (.cells #[.map (some sb),.map (some cb),.map (some ab)] 131) (.cells #[.int .u8 t.kind,.int .i64 t.num,.string t.name,.slice a t.len c] 47) (.cells #[.map (some lb),.map (some kb)] 135)
 rw[hW] at q0 q1 q2
 have d0:W.cell? ⟨w.heap.size,0,none⟩=some (.map (some sb)):=mem_cell q0 0
 have d1:W.cell? ⟨w.heap.size,1,none⟩=some (.map (some cb)):=mem_cell q0 1
 have d2:W.cell? ⟨w.heap.size,2,none⟩=some (.map (some ab)):=mem_cell q0 2
 have n0:W.cell? ⟨w.heap.size+1,0,none⟩=some (.int .u8 t.kind):=mem_cell q1 0
 have n2:W.cell? ⟨w.heap.size+1,2,none⟩=some (.string t.name):=mem_cell q1 2
 have s0:W.cell? ⟨w.heap.size+1+1,0,none⟩=some (.map (some lb)):=mem_cell q2 0
 have s1:W.cell? ⟨w.heap.size+1+1,1,none⟩=some (.map (some kb)):=mem_cell q2 1
 clear q0 q1 q2
 clear h1 h2 h3 hl hk hmi
 obtain⟨b1,hb1⟩:∃ b,memB d.shared t.name=b:=⟨_,rfl⟩
 obtain⟨b2,hb2⟩:∃ b,memB d.scalars t.name=b:=⟨_,rfl⟩
 obtain⟨b3,hb3⟩:∃ b,memB d.arrays t.name=b:=⟨_,rfl⟩
 obtain⟨b4,hb4⟩:∃ b,memB loops t.name=b:=⟨_,rfl⟩
 obtain⟨b5,hb5⟩:∃ b,memB locks t.name=b:=⟨_,rfl⟩
 rw[hb1] at g1
 rw[hb2] at g2
 rw[hb3] at g3
 rw[hb4] at g4
 rw[hb5] at g5
 obtain⟨r,hr⟩:∃ r,faultN d t.kind t.name place loops locks=r:=⟨_,rfl⟩
 have HR:=ξ hr
 unfold faultN at hr
 rw[hb1,hb2,hb3,hb4,hb5] at hr
 have HX:=ξ hr
 clear hb1 hb2 hb3 hb4 hb5 hr
 rw[HR.out]
 have FIN:∀ x:Int,x=r→(Ending.returned (.int .i64 x)=Ending.returned (.int .i64 r)∧Below w.heap.size w W):=fun x hx=>⟨by rw[hx],HBW.out⟩
 have HFIN:=ξ FIN
 clear FIN
 by_cases k2:t.kind=2
 ·have hx:=HX.out
  rw[if_pos k2] at hx
  have HX2:=ξ hx
  clear hx HX
  rw[k2] at n0
  clear k2
  cases place <;> cases b4 <;> cases b2 <;> cases b3 <;> cases b1
  all_goals
   go_enter Tryz.func65,Tryz.ntmps65
   go_wp2_with fail
   go_ret
   exact HFIN.out _ (by simpa using HX2.out)
 have k2':(t.kind == 2)=false:=by simpa using k2
 by_cases k3:t.kind=3
 ·have hx:=HX.out
  rw[if_neg k2,if_pos k3] at hx
  have HX2:=ξ hx
  clear hx HX k2'
  rw[k3] at n0
  clear k3 k2
  cases b3 <;> cases b1 <;> cases b5 <;> cases b2 <;> cases b4
  all_goals
   go_enter Tryz.func65,Tryz.ntmps65
   go_wp2_with fail
   go_ret
   exact HFIN.out _ (by simpa using HX2.out)
 have k3':(t.kind == 3)=false:=by simpa using k3
 by_cases k4:t.kind=42
 ·have hx:=HX.out
  rw[if_neg k2,if_neg k3,if_pos k4] at hx
  have HX2:=ξ hx
  clear hx HX k2' k3'
  rw[k4] at n0
  clear k4 k3 k2
  cases b2 <;> cases b4 <;> cases b3 <;> cases b1
  all_goals
   go_enter Tryz.func65,Tryz.ntmps65
   go_wp2_with fail
   go_ret
   exact HFIN.out _ (by simpa using HX2.out)
 have k4':(t.kind == 42)=false:=by simpa using k4
 by_cases k6:t.kind=46
 ·have hx:=HX.out
  rw[if_neg k2,if_neg k3,if_neg k4,if_pos k6] at hx
  have HX2:=ξ hx
  clear hx HX k2' k3' k4'
  rw[k6] at n0
  clear k6 k4 k3 k2
  cases b1
  ·go_enter Tryz.func65,Tryz.ntmps65
   cases b2 <;> cases b4
   all_goals
    go_wp2_with fail
    go_ret
    exact HFIN.out _ (by simpa using HX2.out)
  ·by_cases hz:m=0
   ·have hlk:locks = []:=Classical.byContradiction fun h=>by have:=HMI.out.2 h;omega
    have HX3:Hid ((0:Int)=r):=by have:=HX2.out;rw[if_pos rfl,if_pos hlk] at this;exact this
    subst hz
    clear HX2
    cases b2 <;> cases b4
    all_goals
     go_enter Tryz.func65,Tryz.ntmps65
     go_wp2_with fail
     go_ret
     exact HFIN.out _ HX3.out
   ·have hlk:¬ locks = []:=HMI.out.1 (by omega)
    have hz':(0:Int)<(m:Int):=by omega
    have HX3:Hid ((12:Int)=r):=by have:=HX2.out;rw[if_pos rfl,if_neg hlk] at this;exact this
    clear HX2 hz
    cases b2 <;> cases b4
    all_goals
     go_enter Tryz.func65,Tryz.ntmps65
     go_wp2_with fail
     go_ret
     exact HFIN.out _ HX3.out
 have k6':(t.kind == 46)=false:=by simpa using k6
 have HX3:Hid ((0:Int)=r):=by have hx:=HX.out;rw[if_neg k2,if_neg k3,if_neg k4,if_neg k6] at hx;exact hx
 clear HX k2 k3 k4 k6
 cases b2 <;> cases b4
 all_goals
  go_enter Tryz.func65,Tryz.ntmps65
  go_wp2_with fail
  go_ret
  exact HFIN.out _ HX3.out
set_option maxHeartbeats 4000000
abbrev SetS:=StrSet Tryz.prog 9 4
theorem mclone_any(b n:Nat)(S:List ByteArray)(w:World)(h:SetS w b n S) :
 Calls Tryz.prog 84 #[.map (some b)] w fun e w'=>e = .returned (.map (some w.heap.size))∧SetS w' w.heap.size n S∧Below w.heap.size w w':=by
 have HS:=ξ h
 obtain⟨es,clock,hb⟩:∃ es clock,w.heap[b]? = some (.map es clock):=by
  obtain⟨D,⟨es,clock,h1,_⟩,_⟩:=h
  exact⟨es,clock,h1⟩
 have HB:=ξ hb
 have hq:=fun w=>run_eql_map_nil_sl (P:=Tryz.prog) w 93 _ _ (some b) Tryz.underlying93
 clear h hb
 go_enter Tryz.func84,Tryz.ntmps84
 go_wp2_with fail
 rw[run_callFunc_extern Tryz.func107 (by kernel_rfl) (by kernel_rfl) (by kernel_rfl) (e:=Extern.MapsClone.clone) (by kernel_rfl),run_maps_clone_sl w 93 HB.out]
 simp only[Result.andThen]
 rw[Oper.upon_value]
 go_wp2_with fail
 rw[run_typeAssert_map_sl _ 93 _ _ _ _ Tryz.underlying93]
 simp only[Result.andThen]
 rw[Oper.upon_value]
 go_wp2_with fail
 go_ret
 exact⟨rfl,HS.out.copy HB.out,mem_alloc _ _⟩
theorem with_any(b n:Nat)(S:List ByteArray)(s:ByteArray)(w:World)(h:SetS w b n S)(hs:s.size≤maxLen)(hn:n<maxLen) :
 Calls Tryz.prog 67 #[.map (some b),.string s] w fun e w'=>e = .returned (.map (some w.heap.size))∧SetS w' w.heap.size (n+1) (S++[s])∧Below w.heap.size w w':=by
 go_enter Tryz.func67,Tryz.ntmps67
 go_wp2_with fail
 refine (mclone_any b n S w h).mono ?_
 rintro e w1 ⟨rfl,h1,hB1⟩
 have HS1:=ξ h1
 have HB1:=ξ hB1
 clear h1 hB1 h
 go_wp2_with (at_mapUpdate;refine wpList_store_str _ rfl _ _ _ 93 rfl 9 4 Tryz.underlying9 Tryz.underlying4 Tryz.underlying93 w.heap.size n S rfl HS1.out s rfl rfl hs hn ?_)
 intro w2 h2 hg2
 have HS2:=ξ h2
 have HB2:Hid (Below w.heap.size w w2):=HB1.out.grown hg2 HB1.out.size (fun k hk=>by cases hk;exact Nat.le_refl _)
 clear h2 hg2
 go_wp2_with fail
 go_ret
 exact⟨rfl,HS2.out,HB2.out⟩
