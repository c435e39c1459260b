/- Part. -/
import Derived.Test.YtkpdngfkdmllkaaGreatDoorMc
import Derived.Test.YtkpdngfkdmllkaaGreatDoorMd
import Derived.Test.YtkpdngfkdmllkaaGreatDoorProg
import Derived.Lib.Hide
import Derived.LoopTactic
import Derived.BigGuardPart
import Derived.Outline
import Derived.Maps.AppendAt
import Derived.Deep.AppendLies
import Derived.RegionTactic
import Derived.OwnWalk
import Derived.WalkKit
namespace Go.Proofs.YtkpdngfkdmllkaaGreatDoor
set_option linter.unusedVariables false
set_option linter.unusedSimpArgs false
open Go.RowKit Go.Maps
def FMap(P:Program)(k:TypeId)(w:World)(b n:Nat)(f:ByteArray→Option Value):Prop:=
 ∃ D:DataW Value,w.ownsMap P k heldElem b n D∧∀ s:ByteArray,s.size≤maxLen→∀ z,D.atKey (.string s.data.toList) z=((f s).map DataW.held).getD z
def upd{α:Type}(f:ByteArray→Option α)(s:ByteArray)(v:Option α):ByteArray→Option α:=fun t=>if t=s then v else f t
theorem upd_same{α:Type}(f:ByteArray→Option α)(s:ByteArray)(v:Option α):upd f s v s=v:=if_pos rfl
theorem upd_other{α:Type}(f:ByteArray→Option α){s t:ByteArray}(v:Option α)(h:t≠s):upd f s v t=f t:=if_neg h
theorem FMap.made(P:Program)(k:TypeId)(w:World):FMap P k (w.alloc (.map #[] 0)) w.heap.size 0 (fun _=>none):=
 ⟨.map [],World.ownsMap_made w P k heldElem,fun _ _ _=>rfl⟩
section
variable {P:Program} {k e t:TypeId} {w w':World} {b n:Nat} {f:ByteArray→Option Value}
theorem FMap.lt(h:FMap P k w b n f):b<w.heap.size:=h.choose_spec.1.lt
theorem FMap.move(h:FMap P k w b n f)(hb:w'.heap[b]? = w.heap[b]?):FMap P k w' b n f:=by
 obtain⟨D,⟨es,clock,h1,h2⟩,h3⟩:=h
 exact⟨D,⟨es,clock,hb.trans h1,h2⟩,h3⟩
theorem FMap.below(h:FMap P k w b n f)(hb:Below w.heap.size w w'):FMap P k w' b n f:=h.move (hb.block b h.lt)
theorem FMap.mono{n':Nat}(h:FMap P k w b n f)(hn:n≤n'):FMap P k w b n' f:=by
 obtain⟨D,h1,h2⟩:=h
 exact⟨D,h1.mono hn,h2⟩
theorem FMap.obj(h:FMap P k w b n f):∃ es clock,w.heap[b]? = some (.map es clock):=by
 obtain⟨D,⟨es,clock,h1,h2⟩,h3⟩:=h
 exact⟨es,clock,h1⟩
theorem FMap.run(hk:P.underlying k=some .string)(ht:P.underlying t=some (.map k e)){z:Value}(hz:(zeroValue e).run P w = .ok z w)
 (hown:FMap P k w b n f) {s:ByteArray} (hs:s.size≤maxLen):(Instr.lookup t (.map (some b)) (.string s) false).run P w = .ok ((f s).getD z) w:=by
 obtain⟨D,hD,hat⟩:=hown
 have hat:=hat s hs
 obtain⟨v,ps,hrun,hv⟩:=hD.lookup (string_keyed hk) ht hz (zd:=.held z) (zp:=[]) rfl (WideMaps.keyOf_string_mk hk hs)
 have hv1:DataW.held v=D.atKey (.string s.data.toList) (.held z):=by
  have:=Option.some.inj hv
  exact congrArg Prod.fst this
 rw[hat] at hv1
 rw[hrun]
 cases hl:f s with
 | none=>rw[hl] at hv1;simp at hv1;rw[hv1];rfl
 | some q=>rw[hl] at hv1;simp at hv1;rw[hv1];rfl
theorem FMap.run_ok(hk:P.underlying k=some .string)(ht:P.underlying t=some (.map k e)){z:Value}(hz:(zeroValue e).run P w = .ok z w)
 (hown:FMap P k w b n f) {s:ByteArray} (hs:s.size≤maxLen):(Instr.lookup t (.map (some b)) (.string s) true).run P w = .ok (.tuple #[(f s).getD z,.bool (f s).isSome]) w:=by
 obtain⟨D,hD,hat⟩:=hown
 have hat:=hat s hs
 obtain⟨v,ps,hrun,hv⟩:=hD.look_ok (string_keyed hk) ht hz (zd:=.held z) (zp:=[]) rfl (WideMaps.keyOf_string_mk hk hs)
 have hv1:DataW.held v=D.atKey (.string s.data.toList) (.held z):=by
  have:=Option.some.inj hv
  exact congrArg Prod.fst this
 rw[hat] at hv1
 rw[hrun,has_look hat]
 cases hl:f s with
 | none=>rw[hl] at hv1;simp at hv1;rw[hv1];rfl
 | some q=>rw[hl] at hv1;simp at hv1;rw[hv1];rfl
theorem FMap.store(hk:P.underlying k=some .string)(ht:P.underlying t=some (.map k e))
 (hown:FMap P k w b n f) {s:ByteArray} (hs:s.size≤maxLen) (hn:n<maxLen) (v:Value) :
 ∃ w',(Instr.mapUpdate t (.map (some b)) (.string s) v).run P w = .ok () w'∧FMap P k w' b (n+1) (upd f s (some v))∧w.grownBy w' (some b):=by
 obtain⟨D,hD,hat⟩:=hown
 obtain⟨w',h1,h2,h3⟩:=hD.update (val:=v) (string_keyed hk) ht hn (WideMaps.keyOf_string_mk hk hs) rfl
 refine⟨w',h1,⟨_,h2,fun u hu z=>?_⟩,h3⟩
 by_cases he:u=s
 ·subst he
  rw[Maps.atKey_put_same hD.isMap (show WideAt.IsKeyLit (.string u.data.toList) from trivial),upd_same]
  rfl
 ·rw[Maps.atKey_put_other (lit_ne he),upd_other _ _ he]
  exact hat u hu z
theorem FMap.drop(hk:P.underlying k=some .string)(ht:P.underlying t=some (.map k e))
 (hown:FMap P k w b n f) {s:ByteArray} (hs:s.size≤maxLen) (ty:TypeId) :
 ∃ w',(Builtin.delete_ #[t,k] ty #[.map (some b),.string s]).run P w = .ok (.tuple #[]) w'∧FMap P k w' b n (upd f s none)∧w.grownBy w' (some b):=by
 obtain⟨D,hD,hat⟩:=hown
 obtain⟨w',h1,h2,h3⟩:=hD.drop (string_keyed hk) ht (WideMaps.keyOf_string_mk hk hs) ty
 refine⟨w',h1,⟨_,h2,fun u hu z=>?_⟩,h3.grown⟩
 by_cases he:u=s
 ·subst he
  rw[Maps.atKey_del_same,upd_same]
  rfl
 ·rw[Maps.atKey_del_other (lit_ne he),upd_other _ _ he]
  exact hat u hu z
end
section
variable {P:Program} (w:World) {ops:Array Oper} {rest:List Oper} {o:Oper} {a:Act} {Q:Exit→Act→World→Prop}
end
open Go.RowKit
inductive EV where
 | ok (v:Int)
 | er (e:Int)
def EV.bind:EV→(Int→EV)→EV
 | .ok v,f=>f v
 | .er e,_=>.er e
abbrev VF:=ByteArray→Option Int
abbrev AF:=ByteArray→Option (List Int)
def elemV(l:List Int)(i:Int):EV:=if 0≤i∧i<(l.length:Int) then .ok (l.getD i.toNat 0) else .er 11
def optV:Option Int→EV
 | some v=>.ok v
 | none=>.er 6
def evB(V:VF)(A:AF)(k n:Int)(s:ByteArray)(e0 e1:EV):EV:=
 if k=1 then .ok (wrap32 n)
 else if k=2 then optV (V s)
 else if k=3 then (match A s with | none=>.er 6 | some a=>e0.bind (elemV a))
 else if k=4∨k=5 then e0.bind fun x=>.ok (Wd.unary k x)
 else e0.bind fun x=>e1.bind fun y=>if Wd.err k y=0 then .ok (Wd.apply k x y) else .er (Wd.err k y)
def Tree.ev(V:VF)(A:AF):Tree→EV
 | .node k n s l kid=>evB V A k n s (if h:0<l then ev V A (kid ⟨0,h⟩) else .ok 0) (if h:1<l then ev V A (kid ⟨1,h⟩) else .ok 0)
theorem Tree.ev_eq(V:VF)(A:AF)(t:Tree):t.ev V A=evB V A t.kind t.num t.name (if 0<t.len then (t.kid 0).ev V A else .ok 0) (if 1<t.len then (t.kid 1).ev V A else .ok 0):=by
 cases t with
 | node k n s l kid =>
  rw[Tree.ev]
  show evB V A k n s _ _=evB V A k n s _ _
  congr 1
  ·by_cases h:0<l
   ·rw[dif_pos h,if_pos (show 0<(Tree.node k n s l kid).len from h),Tree.kid_node h]
   ·rw[dif_neg h,if_neg (show ¬ 0<(Tree.node k n s l kid).len from h)]
  ·by_cases h:1<l
   ·rw[dif_pos h,if_pos (show 1<(Tree.node k n s l kid).len from h),Tree.kid_node h]
   ·rw[dif_neg h,if_neg (show ¬ 1<(Tree.node k n s l kid).len from h)]
structure St where
 V:VF
 A:AF
 out:List (Int×Int)
 rd:Nat
 st:Nat
abbrev SR:=St×Int
def SR.then(r:SR)(f:St→SR):SR:=if r.2=0 then f r.1 else r
theorem SR.then_ok{r:SR}{f:St→SR}(h:r.2=0):r.then f=f r.1:=if_pos h
theorem SR.then_er{r:SR}{f:St→SR}(h:r.2≠0):r.then f=r:=if_neg h
def runE(v:EV)(s:St)(f:Int→SR):SR:=
 match v with
 | .ok x=>f x
 | .er e=>(s,e)
def stp(F:Int)(s:St):SR:=if F≤(s.st:Int) then (s,13) else ({ s with st:=s.st+1 },0)
def St.putV(s:St)(nm:ByteArray)(v:Option Int):St:={ s with V:=upd s.V nm v }
def St.putA(s:St)(nm:ByteArray)(i v:Int):SR:=
 match s.A nm with
 | none=>(s,11)
 | some a=>if 0≤i∧i<(a.length:Int) then ({ s with A:=upd s.A nm (some (a.set i.toNat v)) },0) else (s,11)
def nxt(inp:List Int)(s:St):Int:=inp.getD s.rd 0
def St.next(s:St):St:={ s with rd:=s.rd+1 }
def St.getA(inp:List Int)(s:St)(nm:ByteArray)(i:Int):SR:=
 match s.A nm with
 | none=>(s,11)
 | some a=>if 0≤i∧i<(a.length:Int) then s.next.putA nm i (nxt inp s) else (s,11)
def seqTo(f:Nat→St→SR):Nat→St→SR
 | 0,s=>(s,0)
 | n+1,s=>(seqTo f n s).then (f n)
def whl(F:Int)(c:St→EV)(b:St→SR):Nat→St→SR
 | 0,s=>(stp F s).then fun s1=>runE (c s1) s1 fun x=>if x=0 then (s1,0) else (s1,11)
 | k+1,s=>(stp F s).then fun s1=>runE (c s1) s1 fun x=>if x=0 then (s1,0) else (b s1).then (whl F c b k)
def forR(F:Int)(nm:ByteArray)(b:St→SR)(i:Nat)(s:St):SR:=(stp F (s.putV nm (some (i:Int)))).then b
def exB (F : Int) (inp : List Int) (k n : Int) (nm : ByteArray) (p : Tree) (e : Nat → St → EV) (b : Nat → St → SR) (s : St) : SR :=
  if k = 40 then
    (if p.kind = 2 then runE (e 1 s) s fun v => (s.putV p.name (some v), 0)
     else runE ((p.kid 0).ev s.V s.A) s fun i => runE (e 1 s) s fun v => s.putA p.name i v)
  else if k = 41 then runE (e 0 s) s fun x => if x = 0 then b 2 s else b 1 s
  else if k = 42 then (seqTo (forR F nm (b 0)) n.toNat s).then fun s1 => (s1.putV nm none, 0)
  else if k = 43 then whl F (e 0) (b 1) n.toNat s
  else if k = 44 then
    (if p.kind = 2 then (s.next.putV p.name (some (nxt inp s)), 0)
     else runE ((p.kid 0).ev s.V s.A) s fun i => s.getA inp p.name i)
  else if k = 45 then runE (e 0 s) s fun v => ({ s with out := s.out ++ [(n, v)] }, 0)
  else b 0 s
def Tree.ex(F:Int)(inp:List Int):Tree→St→SR
 | .node k n nm l kid=>fun s =>
  if k=47 then seqTo (fun i s1=>if h:i<l then ex F inp (kid ⟨i,h⟩) s1 else (s1,0)) l s
  else (stp F s).then fun s1=>exB F inp k n nm (if h:0<l then kid ⟨0,h⟩ else .leaf 0 0 ByteArray.empty)
   (fun i s2=>if h:i<l then (kid ⟨i,h⟩).ev s2.V s2.A else .ok 0) (fun i s2=>if h:i<l then ex F inp (kid ⟨i,h⟩) s2 else (s2,0)) s1
def kidE(t:Tree)(i:Nat)(s:St):EV:=if i<t.len then (t.kid i).ev s.V s.A else .ok 0
def kidX(F:Int)(inp:List Int)(t:Tree)(i:Nat)(s:St):SR:=if i<t.len then (t.kid i).ex F inp s else (s,0)
theorem Tree.ex_eq(F:Int)(inp:List Int)(t:Tree)(s:St):t.ex F inp s=if t.kind=47 then seqTo (kidX F inp t) t.len s else (stp F s).then (exB F inp t.kind t.num t.name (t.kid 0) (kidE t) (kidX F inp t)):=by
 cases t with
 | node k n nm l kid =>
  rw[Tree.ex]
  have e1:(fun (i:Nat) (s1:St)=>if h:i<l then Tree.ex F inp (kid ⟨i,h⟩) s1 else (s1,0))=kidX F inp (.node k n nm l kid):=by
   funext i s1
   unfold kidX
   by_cases h:i<l
   ·rw[dif_pos h,if_pos (show i<(Tree.node k n nm l kid).len from h),Tree.kid_node h]
   ·rw[dif_neg h,if_neg (show ¬ i<(Tree.node k n nm l kid).len from h)]
  have e2:(fun (i:Nat) (s2:St)=>if h:i<l then (kid ⟨i,h⟩).ev s2.V s2.A else .ok 0)=kidE (.node k n nm l kid):=by
   funext i s1
   unfold kidE
   by_cases h:i<l
   ·rw[dif_pos h,if_pos (show i<(Tree.node k n nm l kid).len from h),Tree.kid_node h]
   ·rw[dif_neg h,if_neg (show ¬ i<(Tree.node k n nm l kid).len from h)]
  rw[e1,e2]
  rfl
def Grows(F:Int)(s:St)(r:SR):Prop:=s.st≤r.1.st∧(∃ l,r.1.out=s.out++l)∧s.rd≤r.1.rd∧(r.2=13→F≤(r.1.st:Int))∧((s.st:Int)≤F→(r.1.st:Int)≤F)
theorem Grows.refl{F:Int}{s:St}{V:VF}{A:AF}{k:Int}(hk:k≠13):Grows F s (⟨V,A,s.out,s.rd,s.st⟩,k):=⟨Nat.le_refl _,⟨[],by simp⟩,Nat.le_refl _,fun h=>absurd h hk,id⟩
theorem Grows.then{F:Int}{s:St}{r:SR}{f:St→SR}(h:Grows F s r)(hf:Grows F r.1 (f r.1)):Grows F s (r.then f):=by
 by_cases h0:r.2=0
 ·rw[SR.then_ok h0]
  obtain⟨h1,⟨l,h2⟩,h3,h4,h5⟩:=h
  obtain⟨g1,⟨m,g2⟩,g3,g4,g5⟩:=hf
  exact⟨Nat.le_trans h1 g1,⟨l++m,by rw[g2,h2,List.append_assoc]⟩,Nat.le_trans h3 g3,g4,fun h=>g5 (h5 h)⟩
 ·rw[SR.then_er h0];exact h
theorem stp_grows(F:Int)(s:St):Grows F s (stp F s):=by
 unfold stp
 by_cases h:F≤(s.st:Int)
 ·rw[if_pos h];exact⟨Nat.le_refl _,⟨[],by simp⟩,Nat.le_refl _,fun _=>h,id⟩
 ·rw[if_neg h];exact⟨Nat.le_succ _,⟨[],by simp⟩,Nat.le_refl _,fun h=>absurd (show (0:Int)=13 from h) (by decide),fun _=>by show ((s.st+1:Nat):Int)≤F;omega⟩
def Rel(F:Int)(r r':SR):Prop:=(r.2≠13∧r=r')∨(r.2=13∧(r.1.st:Int)=F∧(∃ l,r'.1.out=r.1.out++l)∧r.1.rd≤r'.1.rd∧F<(r'.1.st:Int))
theorem Rel.refl{F:Int}{r:SR}(h:r.2≠13):Rel F r r:=.inl ⟨h,rfl⟩
theorem Rel.then{F F':Int}{r r':SR}{f f':St→SR}(h:Rel F r r')(hf:r.2=0→Rel F (f r.1) (f' r.1))(hg:Grows F' r'.1 (f' r'.1)):Rel F (r.then f) (r'.then f'):=by
 rcases h with⟨h1,rfl⟩|⟨h1,h2,⟨l,h3⟩,h4,h5⟩
 ·by_cases h0:r.2=0
  ·rw[SR.then_ok h0,SR.then_ok h0];exact hf h0
  ·rw[SR.then_er h0,SR.then_er h0];exact .inl ⟨h1,rfl⟩
 ·rw[SR.then_er (by rw[h1];decide)]
  by_cases h0:r'.2=0
  ·rw[SR.then_ok h0]
   obtain⟨g1,⟨m,g2⟩,g3,_⟩:=hg
   exact .inr ⟨h1,h2,⟨l++m,by rw[g2,h3,List.append_assoc]⟩,Nat.le_trans h4 g3,by omega⟩
  ·rw[SR.then_er h0];exact .inr ⟨h1,h2,⟨l,h3⟩,h4,h5⟩
theorem Wd.err_13(k y:Int):Wd.err k y≠13:=by
 unfold Wd.err
 split
 ·decide
 ·split <;> decide
theorem ev_13(V:VF)(A:AF):∀ (t:Tree) (k:Int),t.ev V A = .er k→k≠13:=by
 intro t
 induction t using Tree.ind with
 | h t ih =>
  intro k hk
  rw[Tree.ev_eq] at hk
  have h0:∀ k,(if 0<t.len then (t.kid 0).ev V A else .ok 0) = .er k→k≠13:=fun k h=>by
   by_cases hl:0<t.len
   ·rw[if_pos hl] at h;exact ih 0 hl k h
   ·rw[if_neg hl] at h;cases h
  have h1:∀ k,(if 1<t.len then (t.kid 1).ev V A else .ok 0) = .er k→k≠13:=fun k h=>by
   by_cases hl:1<t.len
   ·rw[if_pos hl] at h;exact ih 1 hl k h
   ·rw[if_neg hl] at h;cases h
  generalize (if 0<t.len then (t.kid 0).ev V A else EV.ok 0)=e0 at hk h0
  generalize (if 1<t.len then (t.kid 1).ev V A else EV.ok 0)=e1 at hk h1
  unfold evB at hk
  split at hk
  ·cases hk
  split at hk
  ·unfold optV at hk;split at hk
   ·cases hk
   ·cases hk;decide
  split at hk
  ·split at hk
   ·cases hk;decide
   ·cases e0 with
    | er j=>cases hk;exact h0 _ rfl
    | ok v =>
     have hk:elemV _ v = .er k:=hk
     unfold elemV at hk
     split at hk
     ·cases hk
     ·cases hk;decide
  split at hk
  ·cases e0 with
   | er j=>cases hk;exact h0 _ rfl
   | ok v=>cases hk
  ·cases e0 with
   | er j=>cases hk;exact h0 _ rfl
   | ok x =>
    cases e1 with
    | er j=>cases hk;exact h1 _ rfl
    | ok y =>
     have hk:(if Wd.err t.kind y=0 then EV.ok _ else EV.er (Wd.err t.kind y)) = .er k:=hk
     split at hk
     ·cases hk
     ·cases hk;exact Wd.err_13 _ _
theorem runE_grows{F:Int}{v:EV}{s:St}{f:Int→SR}(hv:∀ k,v = .er k→k≠13)(hf:∀ x,Grows F s (f x)):Grows F s (runE v s f):=by
 cases v with
 | ok x=>exact hf x
 | er k=>exact Grows.refl (V:=s.V) (A:=s.A) (hv k rfl)
theorem seqTo_grows{F:Int}{f:Nat→St→SR}(hf:∀ i s,Grows F s (f i s)):∀ (n:Nat) (s:St),Grows F s (seqTo f n s)
 | 0,s=>Grows.refl (V:=s.V) (A:=s.A) (by decide)
 | n+1,s=>(seqTo_grows hf n s).then (hf n _)
theorem whl_grows{F:Int}{c:St→EV}{b:St→SR}(hc:∀ s k,c s = .er k→k≠13)(hb:∀ s,Grows F s (b s)):∀ (n:Nat) (s:St),Grows F s (whl F c b n s)
 | 0,s=>(stp_grows F s).then (runE_grows (hc _) (fun x=>by
  by_cases h:x=0
  ·rw[if_pos h];exact Grows.refl (V:=(stp F s).1.V) (A:=(stp F s).1.A) (by decide)
  ·rw[if_neg h];exact Grows.refl (V:=(stp F s).1.V) (A:=(stp F s).1.A) (by decide)))
 | n+1,s=>(stp_grows F s).then (runE_grows (hc _) (fun x=>by
  by_cases h:x=0
  ·rw[if_pos h];exact Grows.refl (V:=(stp F s).1.V) (A:=(stp F s).1.A) (by decide)
  ·rw[if_neg h];exact (hb _).then (whl_grows hc hb n _)))
def Keeps(s:St)(r:SR):Prop:=r.2≠13∧r.1.out=s.out∧s.rd≤r.1.rd∧r.1.st=s.st
theorem Keeps.grows{F:Int}{s:St}{r:SR}(h:Keeps s r):Grows F s r:=⟨Nat.le_of_eq h.2.2.2.symm,⟨[],by rw[h.2.1,List.append_nil]⟩,h.2.2.1,fun e=>absurd e h.1,fun e=>by rw[h.2.2.2];exact e⟩
theorem putA_keeps(s:St)(nm:ByteArray)(i v:Int):Keeps s (s.putA nm i v):=by
 unfold St.putA
 split
 ·exact⟨show (11:Int)≠13 by decide,rfl,Nat.le_refl _,rfl⟩
 ·split
  ·exact⟨show (0:Int)≠13 by decide,rfl,Nat.le_refl _,rfl⟩
  ·exact⟨show (11:Int)≠13 by decide,rfl,Nat.le_refl _,rfl⟩
theorem getA_keeps(inp:List Int)(s:St)(nm:ByteArray)(i:Int):Keeps s (s.getA inp nm i):=by
 unfold St.getA
 split
 ·exact⟨show (11:Int)≠13 by decide,rfl,Nat.le_refl _,rfl⟩
 ·split
  ·obtain⟨h1,h2,h3,h4⟩:=putA_keeps s.next nm i (nxt inp s)
   exact⟨h1,h2,Nat.le_trans (Nat.le_succ _) h3,h4⟩
  ·exact⟨show (11:Int)≠13 by decide,rfl,Nat.le_refl _,rfl⟩
theorem exB_grows{F:Int}{inp:List Int}{k n:Int}{nm:ByteArray}{p:Tree}{e:Nat→St→EV}{b:Nat→St→SR}(he:∀ i s k,e i s = .er k→k≠13)(hb:∀ i s,Grows F s (b i s))(s:St):Grows F s (exB F inp k n nm p e b s):=by
 unfold exB
 split
 ·split
  ·exact runE_grows (he 1 s) (fun v=>Keeps.grows ⟨show (0:Int)≠13 by decide,rfl,Nat.le_refl _,rfl⟩)
  ·exact runE_grows (ev_13 _ _ _) (fun i=>runE_grows (he 1 s) (fun v=>(putA_keeps s p.name i v).grows))
 split
 ·refine runE_grows (he 0 s) (fun x=>?_)
  by_cases h:x=0
  ·rw[if_pos h];exact hb 2 s
  ·rw[if_neg h];exact hb 1 s
 split
 ·refine (seqTo_grows (fun i s1=>?_) _ s).then ?_
  ·exact (show Grows F s1 (stp F (s1.putV nm (some (i:Int)))) from stp_grows F (s1.putV nm (some (i:Int)))).then (hb 0 _)
  ·exact Keeps.grows ⟨show (0:Int)≠13 by decide,rfl,Nat.le_refl _,rfl⟩
 split
 ·exact whl_grows (fun s1 k h=>he 0 s1 k h) (hb 1) _ s
 split
 ·split
  ·exact Keeps.grows ⟨show (0:Int)≠13 by decide,rfl,Nat.le_succ _,rfl⟩
  ·exact runE_grows (ev_13 _ _ _) (fun i=>(getA_keeps inp s p.name i).grows)
 split
 ·exact runE_grows (he 0 s) (fun v=>⟨Nat.le_refl _,⟨[(n,v)],rfl⟩,Nat.le_refl _,fun h=>absurd (show (0:Int)=13 from h) (by decide),id⟩)
 ·exact hb 0 s
theorem kidE_13(t:Tree)(i:Nat)(s:St)(k:Int)(h:kidE t i s = .er k):k≠13:=by
 unfold kidE at h
 split at h
 ·exact ev_13 _ _ _ _ h
 ·cases h
theorem ex_grows(F:Int)(inp:List Int):∀ (t:Tree) (s:St),Grows F s (t.ex F inp s):=by
 intro t
 induction t using Tree.ind with
 | h t ih =>
  intro s
  have hk:∀ i s,Grows F s (kidX F inp t i s):=fun i s=>by
   unfold kidX
   split
   ·exact ih i (by assumption) s
   ·exact Grows.refl (V:=s.V) (A:=s.A) (by decide)
  rw[Tree.ex_eq]
  split
  ·exact seqTo_grows hk _ s
  ·exact (stp_grows F s).then (exB_grows (kidE_13 t) hk _)
set_option maxRecDepth 100000
theorem ret_int{k:IntKind}{a b:Int}(h:a=b):Ending.returned (.int k a) = .returned (.int k b):=by rw[h]
set_option maxHeartbeats 1000000 in
theorem size_any:∀ (t:Tree) (w:World) (a:Option Addr) (c:Nat),Rep w t a→t.size≤1000000 →
 Calls Tryz.prog 9 #[t.val a c] w fun e w'=>e = .returned (.int .i64 (t.size:Nat))∧Below w.heap.size w w':=by
 intro t
 induction t using Tree.ind with
 | h t ih =>
  intro w a c hv hs
  have IH:=ξ ih
  clear ih
  have hl:=hv.fits.len
  have HK:=ξ hv.kids
  clear hv
  have HV:=ξ t.size_eq
  go_enter Tryz.func9,Tryz.ntmps9
  go_wp2_with fail
  go_loopw [3,9] (fun sz i wr=>∃ j:Nat,j≤t.len∧i = .int .i64 j∧sz = .int .i64 ((1+Tree.sumTo (fun i=>(t.kid i).size) j:Nat):Int)∧Below (w.heap.size+1) (w.alloc (.cells #[.int .u8 t.kind,.int .i64 t.num,.string t.name,.slice a t.len c] 47)) wr) (fun _ i _=>t.len-(intOf i).toNat)
  case atStart=>exact⟨0,Nat.zero_le _,rfl,rfl,Below.refl _ _⟩
  case round =>
   obtain⟨j,hj,rfl,rfl,hBx⟩:=hrel
   have hB:=ofBox hBx
   have hsz:=box_size hBx
   have bx0:=box_cell hBx 0
   have bx3:=box_cell hBx 3
   simp only[List.getElem?_toArray,List.getElem?_cons_zero,List.getElem?_cons_succ] at bx0 bx3
   by_cases hlt:j<t.len
   ·rcases HK.out with h0|⟨b,off,rfl,hc⟩
    ·omega
    obtain⟨ai,ci,hn,hr⟩:=hc j hlt
    obtain⟨f0,f1,f2,f3⟩:=hn.below hB hn.lt
    have HSS:=ξ (Tree.sumTo_succ (fun i=>(t.kid i).size) j)
    have hs1:=Tree.sumTo_le (f:=fun i=>(t.kid i).size) (show j+1≤t.len by omega)
    have hs2:Tree.sumTo (fun i=>(t.kid i).size) j+(t.kid j).size≤1000000:=by have:=HSS.out;have:=HV.out;omega
    clear hs1
    have HI:=ξ (IH.out j hlt)
    clear hc hn
    go_wp2_with fail
    refine (HI.out _ ai ci (hr.below (hB.alloc (by omega) _)) (by omega)).mono ?_
    rintro e w1 ⟨rfl,hB1⟩
    have hB2:Below (w.heap.size+1) (w.alloc (.cells #[.int .u8 t.kind,.int .i64 t.num,.string t.name,.slice (some ⟨b,off,none⟩) t.len c] 47)) w1:=(hBx.alloc hsz _).trans (hB1.mono (by simp;omega))
    clear hB1 hr f0 f1 f2 f3
    go_wp2_with fail
    all_goals
     go_roundw
     case rel=>exact⟨j+1,by omega,by go_num,by rw[HSS.out];go_num,hB2⟩
     case measure=>simp[intOf];omega
   ·obtain rfl:j=t.len:=by omega
    go_wp2_with fail
    go_ret
    exact⟨ret_int (by rw[HV.out]),hB⟩
set_option maxHeartbeats 1000000 in
theorem nest_any:∀ (t:Tree) (w:World) (a:Option Addr) (c:Nat),Rep w t a→t.nest≤1000000 →
 Calls Tryz.prog 50 #[t.val a c] w fun e w'=>e = .returned (.int .i64 (t.nest:Nat))∧Below w.heap.size w w':=by
 intro t
 induction t using Tree.ind with
 | h t ih =>
  intro w a c hv hs
  have IH:=ξ ih
  clear ih
  have hl:=hv.fits.len
  have HK:=ξ hv.kids
  clear hv
  have HV:=ξ t.nest_eq
  go_enter Tryz.func50,Tryz.ntmps50
  go_wp2_with fail
  go_loopw [3,9] (fun sz i wr=>∃ j:Nat,j≤t.len∧i = .int .i64 j∧sz = .int .i64 ((Tree.maxTo (fun i=>(t.kid i).nest) j:Nat):Int)∧Below (w.heap.size+1) (w.alloc (.cells #[.int .u8 t.kind,.int .i64 t.num,.string t.name,.slice a t.len c] 47)) wr) (fun _ i _=>t.len-(intOf i).toNat)
  case atStart=>exact⟨0,Nat.zero_le _,rfl,rfl,Below.refl _ _⟩
  case round =>
   obtain⟨j,hj,rfl,rfl,hBx⟩:=hrel
   have hB:=ofBox hBx
   have hsz:=box_size hBx
   have bx0:=box_cell hBx 0
   have bx3:=box_cell hBx 3
   simp only[List.getElem?_toArray,List.getElem?_cons_zero,List.getElem?_cons_succ] at bx0 bx3
   have hmx:Tree.maxTo (fun i=>(t.kid i).nest) j≤1000000:=by have:=Tree.maxTo_le (f:=fun i=>(t.kid i).nest) hj;have:=HV.out;omega
   by_cases hlt:j<t.len
   ·rcases HK.out with h0|⟨b,off,rfl,hc⟩
    ·omega
    obtain⟨ai,ci,hn,hr⟩:=hc j hlt
    obtain⟨f0,f1,f2,f3⟩:=hn.below hB hn.lt
    have HSS:=ξ (Tree.maxTo_succ (fun i=>(t.kid i).nest) j)
    have hs1:=Tree.maxTo_le (f:=fun i=>(t.kid i).nest) (show j+1≤t.len by omega)
    have hs2:Tree.maxTo (fun i=>(t.kid i).nest) j≤1000000∧(t.kid j).nest≤1000000:=by have:=HSS.out;have:=HV.out;omega
    clear hs1
    have HI:=ξ (IH.out j hlt)
    clear hc hn
    go_wp2_with fail
    refine (HI.out _ ai ci (hr.below (hB.alloc (by omega) _)) (by omega)).mono ?_
    rintro e w1 ⟨rfl,hB1⟩
    have hB2:Below (w.heap.size+1) (w.alloc (.cells #[.int .u8 t.kind,.int .i64 t.num,.string t.name,.slice (some ⟨b,off,none⟩) t.len c] 47)) w1:=(hBx.alloc hsz _).trans (hB1.mono (by simp;omega))
    clear hB1 hr f0 f1 f2 f3
    go_wp2_with fail
    all_goals
     go_roundw
     case rel=>exact⟨j+1,by omega,by go_num,congrArg (Value.int .i64) (by rw[HSS.out];omega),hB2⟩
     case measure=>simp[intOf];omega
   ·obtain rfl:j=t.len:=by omega
    by_cases k42:t.kind=42
    ·have q:(t.kind == 42)=true:=by simpa using k42
     have HE:Hid (t.nest=Tree.maxTo (fun i=>(t.kid i).nest) t.len+1):=by show _=_;rw[HV.out,if_pos (Or.inl k42)]
     clear k42
     go_wp2_with fail
     go_ret
     exact⟨ret_int (by rw[HE.out];rfl),hB⟩
    ·have q:(t.kind == 42)=false:=by simpa using k42
     by_cases k43:t.kind=43
     ·have q':(t.kind == 43)=true:=by simpa using k43
      have HE:Hid (t.nest=Tree.maxTo (fun i=>(t.kid i).nest) t.len+1):=by show _=_;rw[HV.out,if_pos (Or.inr k43)]
      clear k42 k43
      go_wp2_with fail
      go_ret
      exact⟨ret_int (by rw[HE.out];rfl),hB⟩
     ·have q':(t.kind == 43)=false:=by simpa using k43
      have HE:Hid (t.nest=Tree.maxTo (fun i=>(t.kid i).nest) t.len):=by show _=_;rw[HV.out,if_neg (by omega)];rfl
      clear k42 k43
      go_wp2_with fail
      go_ret
      exact⟨ret_int (by rw[HE.out]),hB⟩
def Src(w:World)(A:Option Addr)(m size:Nat)(news:List Value):Prop:=
 news.length=m*size∧(m=0∨∃ ad,A=some ad∧∀ j u,news[j]? = some u→w.cell? (ad.add j)=some u)
theorem run_append_src{P:Program}(w:World)(base:Nat)(t ty e:TypeId)(i:TypeInfo)(z:Value)(size bytes:Nat)(ht:P.underlying t=some (.slice e))(hi:P.info? e=some i)(hz:i.zero=some z)
 (hsize:i.size=size) (hby:i.bytes=bytes) (hzs:z.cells.size=size) (hsz:0<size) (v:Value) (n:Nat) (xs:List Value) (hown:w.ownsRow base e size v n xs)
 (A:Option Addr) (m c:Nat) (news:List Value) (hr:Src w A m size news) (h1:∀ u∈news,u.oneCell'=true) (h63:n+m≤maxLen) (hbytes:(n+m)*bytes≤140737488355328) (hbase:base≤w.heap.size) :
 ∃ v' w',(Builtin.append_ #[t,t] ty #[v,.slice A m c]).run P w = .ok v' w'∧w'.ownsRow base e size v' (n+m) (xs++news)∧w.grownBy w' v.ownBlock∧(v'.ownBlock=v.ownBlock∨v'.ownBlock=some w.heap.size):=by
 cases A with
 | none =>
  have hm:m=0:=by
   rcases hr.2 with h|⟨ad,h,_⟩
   ·exact h
   ·cases h
  subst hm
  have hn:news = []:=List.length_eq_zero_iff.1 (by rw[hr.1];omega)
  subst hn
  refine⟨v,w,?_,by simpa using hown,World.grownBy.refl w _,.inl rfl⟩
  rcases hown.2 with⟨rfl,rfl⟩|⟨g,cap,cur,rfl,_,_,hnc,_⟩
  ·simp[Builtin.append_,run_underlying ht,sizeOf,typeInfo,hi,Builtin.lenOf,Builtin.firstCells]
  ·simp[Builtin.append_,run_underlying ht,sizeOf,typeInfo,hi,Builtin.lenOf,Builtin.firstCells,hnc,storeCells]
 | some ad =>
  have hcells:∀ j u,news[j]? = some u→w.cell? (ad.add j)=some u:=by
   rcases hr.2 with h|⟨ad',h,hc⟩
   ·intro j u hu
    have hn:news = []:=List.length_eq_zero_iff.1 (by rw[hr.1,h];omega)
    subst hn
    cases hu
   ·cases h
    exact hc
  obtain⟨v',w',r1,r2,r3,_,r5⟩:=run_append_own_at (P:=P) w base t ty e i z size bytes ht hi hz hsize hby hzs hsz v n xs hown ad m c news hr.1 hcells h1 h63 hbytes hbase
  exact⟨v',w',r1,r2,r3,r5⟩
theorem wpList_append_src{P:Program}(w:World){ops:Array Oper}{rest:List Oper}{o:Oper}{a:Act}{Q:Exit→Act→World→Prop}
 (hg:o.guard=none) (s x:Operand) (t:TypeId) (hop:o.op=Op.call { callee:=Callee.builtin Builtin.append,args:=#[s,x],argTypes:=#[t,t] })
 (base:Nat) (e:TypeId) (i:TypeInfo) (z:Value) (size bytes:Nat) (ht:P.underlying t=some (.slice e)) (hi:P.info? e=some i) (hz:i.zero=some z)
 (hsize:i.size=size) (hby:i.bytes=bytes) (hzs:z.cells.size=size) (hsz:0<size) (v:Value) (n:Nat) (xs:List Value) (hs:a.eval s=v) (hown:w.ownsRow base e size v n xs)
 (A:Option Addr) (m c:Nat) (news:List Value) (hx:a.eval x = .slice A m c) (hr:Src w A m size news) (h1:∀ u∈news,u.oneCell'=true) (h63:n+m≤maxLen) (hbytes:(n+m)*bytes≤140737488355328) (hbase:base≤w.heap.size)
 (hK:∀ v' w',w'.ownsRow base e size v' (n+m) (xs++news)→w.grownBy w' v.ownBlock→(v'.ownBlock=v.ownBlock∨v'.ownBlock=some w.heap.size)→wpList P ops Q rest (a.put o.dst v') w') :
 wpList P ops Q (o::rest) a w:=by
 refine wpList_plain hg fun K' hK'=>?_
 obtain⟨v',w',hrun,r1,r2,r3⟩:=run_append_src (P:=P) w base t o.type e i z size bytes ht hi hz hsize hby hzs hsz v n xs hown A m c news hr h1 h63 hbytes hbase
 unfold Oper.wp
 simp[execOp,hop,resolve,invoke,builtin,hs,hx,hrun,Result.andThen]
 exact hK' _ _ (hK v' w' r1 r2 r3)
theorem step_append_src{P:Program}(w:World){ops:Array Oper}{o:Oper}{a:Act}{K:Act→World→Prop}{Q:Exit→Act→World→Prop}{E:Prop}
 (hg:o.guard=none) (s x:Operand) (t:TypeId) (hop:o.op=Op.call { callee:=Callee.builtin Builtin.append,args:=#[s,x],argTypes:=#[t,t] })
 (base:Nat) (e:TypeId) (i:TypeInfo) (z:Value) (size bytes:Nat) (ht:P.underlying t=some (.slice e)) (hi:P.info? e=some i) (hz:i.zero=some z)
 (hsize:i.size=size) (hby:i.bytes=bytes) (hzs:z.cells.size=size) (hsz:0<size) (v:Value) (n:Nat) (xs:List Value) (hs:a.eval s=v) (hown:w.ownsRow base e size v n xs)
 (A:Option Addr) (m c:Nat) (news:List Value) (hx:a.eval x = .slice A m c) (hr:Src w A m size news) (h1:∀ u∈news,u.oneCell'=true) (h63:n+m≤maxLen) (hbytes:(n+m)*bytes≤140737488355328) (hbase:base≤w.heap.size)
 (hK:∀ v' w',w'.ownsRow base e size v' (n+m) (xs++news)→w.grownBy w' v.ownBlock→(v'.ownBlock=v.ownBlock∨v'.ownBlock=some w.heap.size)→K (a.put o.dst v') w') :
 if Region.wanted o (yielded ops a.tmps)=true then Oper.wp P o a w K Q else E:=by
 have hw:Region.wanted o (yielded ops a.tmps)=true:=by simp[Region.wanted,hg]
 rw[if_pos hw]
 obtain⟨v',w',hrun,r1,r2,r3⟩:=run_append_src (P:=P) w base t o.type e i z size bytes ht hi hz hsize hby hzs hsz v n xs hown A m c news hr h1 h63 hbytes hbase
 unfold Oper.wp
 simp[execOp,hop,resolve,invoke,builtin,hs,hx,hrun,Result.andThen]
 exact hK v' w' r1 r2 r3
theorem ownsRow_set{w:World}{base:Nat}{e:TypeId}{size g n cap j:Nat}{xs:List Value}{u:Value}(h:w.ownsRow base e size (.slice (some ⟨g,0,none⟩) n cap) n xs)(_hj:j<n*size):(w.setCell ⟨g,j,none⟩ u).ownsRow base e size (.slice (some ⟨g,0,none⟩) n cap) n (xs.set j u):=by
 obtain⟨h1,h2⟩:=h
 refine⟨by simpa using h1,?_⟩
 rcases h2 with⟨h2,_⟩|⟨g',cap',cur,hv,hb,hc,hn,hm,hs,hx⟩
 ·cases h2
 ·cases hv
  refine .inr ⟨g,cap,cur.setIfInBounds j u,rfl,hb,?_,hn,hm,by simpa using hs,?_⟩
  ·simp[World.setCell,Array.getElem?_modify,hc]
  ·rw[Array.toList_setIfInBounds,←hx,List.take_set]
