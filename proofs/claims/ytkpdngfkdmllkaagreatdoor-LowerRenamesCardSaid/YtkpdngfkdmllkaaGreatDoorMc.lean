/- Part. -/
import Derived.Maps.OwnSet
import Derived.Maps.OwnOps
import Derived.WalkKit
import Derived.Below
import Derived.Test.YtkpdngfkdmllkaaGreatDoorMb
import Derived.Deep.QuietTactic
import Derived.BigQuiet
namespace Go.Proofs.YtkpdngfkdmllkaaGreatDoor
set_option linter.unusedVariables false
set_option linter.unusedSimpArgs false
open Go.RowKit Go.Maps
def heldElem(v:Value):Option (DataW Value×List MemPlace):=some (.held v,[])
def look(m:List (ByteArray×Value))(s:ByteArray):Option Value:=(m.find? (fun p=>decide (p.1=s))).map (·.2)
def MapAt(P:Program)(k:TypeId)(w:World)(b:Nat)(m:List (ByteArray×Value)):Prop:=
 ∃ D:DataW Value,w.ownsMap P k heldElem b m.length D∧∀ s:ByteArray,s.size≤maxLen→∀ z,D.atKey (.string s.data.toList) z=((look m s).map DataW.held).getD z
theorem MapAt.made(P:Program)(k:TypeId)(w:World):MapAt P k (w.alloc (.map #[] 0)) w.heap.size []:=
 ⟨.map [],World.ownsMap_made w P k heldElem,fun _ _ _=>rfl⟩
theorem MapAt.lt{P:Program}{k:TypeId}{w:World}{b:Nat}{m:List (ByteArray×Value)}(h:MapAt P k w b m):b<w.heap.size:=h.choose_spec.1.lt
theorem MapAt.move{P:Program}{k:TypeId}{w w':World}{b:Nat}{m:List (ByteArray×Value)}(h:MapAt P k w b m)(hb:w'.heap[b]? = w.heap[b]?):MapAt P k w' b m:=by
 obtain⟨D,⟨es,clock,h1,h2⟩,h3⟩:=h
 exact⟨D,⟨es,clock,hb.trans h1,h2⟩,h3⟩
theorem MapAt.below{P:Program}{k:TypeId}{w w':World}{b:Nat}{m:List (ByteArray×Value)}(h:MapAt P k w b m)(hb:Below w.heap.size w w'):MapAt P k w' b m:=
 h.move (hb.block b h.lt)
theorem look_snoc{m:List (ByteArray×Value)}{s:ByteArray}{v:Value}(h:look m s=none)(t:ByteArray):look (m++[(s,v)]) t=if t=s then some v else look m t:=by
 unfold look at h⊢
 rw[List.find?_append]
 by_cases ht:t=s
 ·subst ht
  rw[if_pos rfl]
  have:m.find? (fun p=>decide (p.1=t))=none:=by simpa using h
  rw[this]
  simp
 ·rw[if_neg ht]
  have:[(s,v)].find? (fun p=>decide (p.1=t))=none:=by simp;exact fun h=>ht h.symm
  rw[this]
  simp
theorem lit_ne{s t:ByteArray}(h:¬ t=s):Lit.string t.data.toList≠Lit.string s.data.toList:=by
 intro e
 apply h
 injection e with e
 cases t;cases s
 simp at e
 rw[e]
section
variable {P:Program} (w:World) {ops:Array Oper} {rest:List Oper} {o:Oper} {a:Act} {Q:Exit→Act→World→Prop}
theorem has_look{D:DataW Value}{l:Lit}{r:Option Value}(h:∀ z,D.atKey l z=(r.map DataW.held).getD z):Maps.has D l=r.isSome:=by
 cases r with
 | none=>exact has_false_of_atKey h
 | some v=>exact has_true_of_atKey h
theorem wpList_look_ok(hg:o.guard=none)(m x:Operand)(t:TypeId)(hop:o.op=Op.lookup t m x true)
 (k e:TypeId) (hk:P.underlying k=some .string) (ht:P.underlying t=some (.map k e)) {z:Value} (hz:(zeroValue e).run P w = .ok z w) (b:Nat) (l:List (ByteArray×Value))
 (hm:a.eval m = .map (some b)) (hown:MapAt P k w b l) (s:ByteArray) (hx:a.eval x = .string s) (hs:s.size≤maxLen) (u:Value) (ok:Bool) (hu:(look l s).getD z=u) (hok:(look l s).isSome=ok)
 (hK:wpList P ops Q rest (a.put o.dst (.tuple #[u,.bool ok])) w) :
 wpList P ops Q (o::rest) a w:=by
 obtain⟨D,hD,hat⟩:=hown
 have hat:=hat s hs
 refine wpList_lookup_own_ok w hg m x t hop k e (string_keyed hk) ht heldElem hz (.held z) [] rfl b _ D hm hD _ _ hx (WideMaps.keyOf_string_mk hk hs) fun v ps hv=>?_
 have hv1:DataW.held v=D.atKey (.string s.data.toList) (.held z):=by
  have:=Option.some.inj hv
  exact congrArg Prod.fst this
 rw[hat] at hv1
 have hv2:v=u:=by
  rw[←hu]
  cases hl:look l s with
  | none=>rw[hl] at hv1;simpa using hv1
  | some q=>rw[hl] at hv1;simpa using hv1
 rw[hv2,has_look hat,hok]
 exact hK
end
theorem MapAt.run{P:Program}{w:World}{t k e:TypeId}(hk:P.underlying k=some .string)(ht:P.underlying t=some (.map k e)){z:Value}(hz:(zeroValue e).run P w = .ok z w){b:Nat}{l:List (ByteArray×Value)}
 (hown:MapAt P k w b l) {s:ByteArray} (hs:s.size≤maxLen):(Instr.lookup t (.map (some b)) (.string s) false).run P w = .ok ((look l s).getD z) w:=by
 obtain⟨D,hD,hat⟩:=hown
 have hat:=hat s hs
 obtain⟨v,ps,hrun,hv⟩:=hD.lookup (string_keyed hk) ht hz (zd:=.held z) (zp:=[]) rfl (WideMaps.keyOf_string_mk hk hs)
 have hv1:DataW.held v=D.atKey (.string s.data.toList) (.held z):=by
  have:=Option.some.inj hv
  exact congrArg Prod.fst this
 rw[hat] at hv1
 rw[hrun]
 cases hl:look l s with
 | none=>rw[hl] at hv1;simp at hv1;rw[hv1];rfl
 | some q=>rw[hl] at hv1;simp at hv1;rw[hv1];rfl
theorem MapAt.run_ok{P:Program}{w:World}{t k e:TypeId}(hk:P.underlying k=some .string)(ht:P.underlying t=some (.map k e)){z:Value}(hz:(zeroValue e).run P w = .ok z w){b:Nat}{l:List (ByteArray×Value)}
 (hown:MapAt P k w b l) {s:ByteArray} (hs:s.size≤maxLen):(Instr.lookup t (.map (some b)) (.string s) true).run P w = .ok (.tuple #[(look l s).getD z,.bool (look l s).isSome]) w:=by
 obtain⟨D,hD,hat⟩:=hown
 have hat:=hat s hs
 obtain⟨v,ps,hrun,hv⟩:=hD.look_ok (string_keyed hk) ht hz (zd:=.held z) (zp:=[]) rfl (WideMaps.keyOf_string_mk hk hs)
 have hv1:DataW.held v=D.atKey (.string s.data.toList) (.held z):=by
  have:=Option.some.inj hv
  exact congrArg Prod.fst this
 rw[hat] at hv1
 rw[hrun,has_look hat]
 cases hl:look l s with
 | none=>rw[hl] at hv1;simp at hv1;rw[hv1];rfl
 | some q=>rw[hl] at hv1;simp at hv1;rw[hv1];rfl
theorem MapAt.store{P:Program}{w:World}{t k e:TypeId}(hk:P.underlying k=some .string)(ht:P.underlying t=some (.map k e)){b:Nat}{l:List (ByteArray×Value)}
 (hown:MapAt P k w b l) {s:ByteArray} (hs:s.size≤maxLen) (hn:l.length<maxLen) (h0:look l s=none) (v:Value) :
 ∃ w',(Instr.mapUpdate t (.map (some b)) (.string s) v).run P w = .ok () w'∧MapAt P k w' b (l++[(s,v)])∧w.grownBy w' (some b):=by
 obtain⟨D,hD,hat⟩:=hown
 obtain⟨w',h1,h2,h3⟩:=hD.update (val:=v) (string_keyed hk) ht hn (WideMaps.keyOf_string_mk hk hs) rfl
 refine⟨w',h1,⟨_,by rw[List.length_append];exact h2,fun u hu z=>?_⟩,h3⟩
 rw[look_snoc h0]
 by_cases he:u=s
 ·subst he
  rw[if_pos rfl,Maps.atKey_put_same hD.isMap (show WideAt.IsKeyLit (.string u.data.toList) from trivial)]
  rfl
 ·rw[if_neg he,Maps.atKey_put_other (lit_ne he)]
  exact hat u hu z
theorem wpList_mapStore{P:Program}(w:World){ops:Array Oper}{rest:List Oper}{o:Oper}{a:Act}{Q:Exit→Act→World→Prop}
 (hg:o.guard=none) (m x v:Operand) (t:TypeId) (hop:o.op=Op.mapUpdate t m x v)
 (k e:TypeId) (hk:P.underlying k=some .string) (ht:P.underlying t=some (.map k e)) (b:Nat) (l:List (ByteArray×Value))
 (hm:a.eval m = .map (some b)) (hown:MapAt P k w b l) (s:ByteArray) (val:Value) (hx:a.eval x = .string s) (hv:a.eval v=val) (hs:s.size≤maxLen) (hn:l.length<maxLen) (h0:look l s=none)
 (hK:∀ w',MapAt P k w' b (l++[(s,val)])→w.grownBy w' (some b)→wpList P ops Q rest (a.put o.dst undef) w') :
 wpList P ops Q (o::rest) a w:=by
 refine wpList_plain hg fun K' hK'=>?_
 obtain⟨w',hrun,r1,r2⟩:=hown.store hk ht hs hn h0 val
 unfold Oper.wp
 simp[execOp,hop,hm,hx,hv,hrun,Result.andThen]
 exact hK' _ _ (hK w' r1 r2)
open Go.RowKit
set_option maxRecDepth 100000
theorem ir_zeroB(w:World):(zeroValue 4).run Tryz.prog w = .ok (.bool false) w:=by kernel_rfl
def symMap(names:List (ByteArray×Bool)):List (ByteArray×Value):=names.map fun p=>(p.1,.bool p.2)
def lookB(names:List (ByteArray×Bool))(s:ByteArray):Option Bool:=(names.find? (fun p=>decide (p.1=s))).map (·.2)
theorem look_symMap(names:List (ByteArray×Bool))(s:ByteArray):look (symMap names) s=(lookB names s).map Value.bool:=by
 unfold look symMap lookB
 rw[List.find?_map]
 simp only[Option.map_map]
 rfl
set_option maxHeartbeats 2000000 in
theorem symbol_any(array:Bool)(names:List (ByteArray×Bool))(mb bm bi oi om:Nat)(sym:ByteArray)(w:World)(hs:sym.size≤9223372036854775807)
 (h1:w.cell? ⟨bm,om,none⟩=some (.map (some mb))) (h2:w.cell? ⟨bi,oi+5,none⟩=some (.string sym)) (hm:MapAt Tryz.prog 9 w mb (symMap names)) :
 Calls Tryz.prog 59 #[.bool array,.pointer (some ⟨bm,om,none⟩),.pointer (some ⟨bi,oi,none⟩)] w fun e w'=>e = .returned (.bool (lookB names sym == some array))∧w=w':=by
 have hrun:=hm.run_ok (s:=sym) (t:=94) Tryz.underlying9 Tryz.underlying94 (ir_zeroB w) hs
 rw[look_symMap] at hrun
 cases hl:lookB names sym with
 | none =>
  rw[hl] at hrun
  have hrun':(Instr.lookup 94 (.map (some mb)) (.string sym) true).run Tryz.prog w = .ok (.tuple #[.bool false,.bool false]) w:=hrun
  clear hrun hl hm
  go_enter Tryz.func59,Tryz.ntmps59
  go_wp2
  go_ret
  exact⟨rfl,rfl⟩
 | some k =>
  rw[hl] at hrun
  have hrun':(Instr.lookup 94 (.map (some mb)) (.string sym) true).run Tryz.prog w = .ok (.tuple #[.bool k,.bool true]) w:=hrun
  clear hrun hl hm
  go_enter Tryz.func59,Tryz.ntmps59
  go_wp2
  go_ret
  exact⟨by cases k <;> cases array <;> rfl,rfl⟩
def betw(n lo hi:Int):Bool:=decide (lo≤n) && decide (n≤hi)
def inReg(n regs:Int):Bool:=decide (0≤n) && decide (n<regs)
def insOk(regs:Int)(names:List (ByteArray×Bool))(i:Ins):Bool:=
 bif i.op == 1 then inReg i.dst regs && betw i.imm (-2147483648) 2147483647 && i.x == 0 && i.y == 0 && i.sym.toList.isEmpty
 else bif i.op == 2 then inReg i.dst regs && inReg i.x regs && i.y == 0 && i.imm == 0 && i.sym.toList.isEmpty
 else bif i.op == 3 then inReg i.dst regs && inReg i.x regs && inReg i.y regs && betw i.imm 6 23 && i.sym.toList.isEmpty
 else bif i.op == 4 || i.op == 6 then inReg i.dst regs && inReg i.x regs && (lookB names i.sym == some (i.op == 4)) && i.y == 0 && i.imm == 0
 else bif i.op == 5 || i.op == 7 then inReg i.x regs && inReg i.y regs && (lookB names i.sym == some (i.op == 5)) && i.dst == 0 && i.imm == 0
 else bif i.op == 8 then inReg i.x regs && betw i.imm 1 131071 && i.dst == 0 && i.y == 0 && i.sym.toList.isEmpty
 else bif i.op == 9 then inReg i.dst regs && betw i.imm 0 7 && i.x == 0 && i.y == 0 && i.sym.toList.isEmpty
 else bif i.op == 10 then inReg i.x regs && betw i.imm 0 7 && i.dst == 0 && i.y == 0 && i.sym.toList.isEmpty
 else bif i.op == 11 || i.op == 12 then (lookB names i.sym == some false) && i.dst == 0 && i.x == 0 && i.y == 0 && i.imm == 0
 else bif i.op == 13 || i.op == 14 then betw i.imm 0 3 && i.dst == 0 && i.x == 0 && i.y == 0 && i.sym.toList.isEmpty
 else bif i.op == 15 then inReg i.dst regs && betw i.imm 0 3 && i.x == 0 && i.y == 0 && i.sym.toList.isEmpty
 else bif i.op == 16 then betw i.x 0 3 && betw i.imm 1 131071 && i.dst == 0 && i.y == 0 && i.sym.toList.isEmpty
 else false
set_option maxHeartbeats 16000000 in
theorem validIns_any(name:ByteArray)(regs:Int)(aa ba:Option Addr)(an ac bn bc:Nat)(names:List (ByteArray×Bool))(mb:Nat)(i:Ins)(w:World)(hs:i.sym.size≤9223372036854775807)(hm:MapAt Tryz.prog 9 w mb (symMap names)) :
 Calls Tryz.prog 35 #[fnVal name regs aa an ac ba bn bc,.map (some mb),i.val] w fun e w'=>e = .returned (.bool (insOk regs names i))∧Below w.heap.size w w':=by
 unfold Ins.val
 obtain⟨W,hW⟩:∃ W:World,((w.alloc (.cells #[.string name,.int .i64 regs,.slice aa an ac,.slice ba bn bc] 34)).alloc (.cells #[.map (some mb)] 94)).alloc (.cells #[.int .u8 i.op,.int .i64 i.dst,.int .i64 i.x,.int .i64 i.y,.int .i64 i.imm,.string i.sym] 100)=W:=⟨_,rfl⟩
 have hB:Below w.heap.size w W:=by rw[←hW];exact (((Below.refl _ _).alloc (Nat.le_refl _) _).alloc (by simp) _).alloc (by simp;omega) _
 have HM:=ξ (hm.below hB)
 have HB:=ξ hB
 have f1:W.cell? ⟨w.heap.size,1,none⟩=some (.int .i64 regs):=by rw[←hW,World.cell?_alloc_past _ _ _ (by simp;omega),World.cell?_alloc_past _ _ _ (by simp)];simp
 have m0:W.cell? ⟨w.heap.size+1,0,none⟩=some (.map (some mb)):=by rw[←hW];simp[World.cell?_alloc_at,World.cell?_alloc_past]
 have c0:W.cell? ⟨w.heap.size+1+1,0,none⟩=some (.int .u8 i.op):=by rw[←hW];simp[World.cell?_alloc_at,World.cell?_alloc_past]
 have c1:W.cell? ⟨w.heap.size+1+1,1,none⟩=some (.int .i64 i.dst):=by rw[←hW];simp[World.cell?_alloc_at,World.cell?_alloc_past]
 have c2:W.cell? ⟨w.heap.size+1+1,2,none⟩=some (.int .i64 i.x):=by rw[←hW];simp[World.cell?_alloc_at,World.cell?_alloc_past]
 have c3:W.cell? ⟨w.heap.size+1+1,3,none⟩=some (.int .i64 i.y):=by rw[←hW];simp[World.cell?_alloc_at,World.cell?_alloc_past]
 have c4:W.cell? ⟨w.heap.size+1+1,4,none⟩=some (.int .i64 i.imm):=by rw[←hW];simp[World.cell?_alloc_at,World.cell?_alloc_past]
 have c5:W.cell? ⟨w.heap.size+1+1,5,none⟩=some (.string i.sym):=by rw[←hW];simp[World.cell?_alloc_at,World.cell?_alloc_past]
 clear hm hB
 go_enter Tryz.func35,Tryz.ntmps35
 go_wp2_with fail
 clear hW
 go_quiet (fail)
 generalize hV:World.drewN _ _=V
 have HBV:Hid (Below w.heap.size w V):=by rw[←hV];exact⟨HB.out.os,HB.out.tape,HB.out.output,HB.out.size,HB.out.block⟩
 have HMV:Hid (MapAt Tryz.prog 9 V mb (symMap names)):=by rw[←hV];exact HM.out.move rfl
 have g1:V.cell? ⟨w.heap.size,1,none⟩=some (.int .i64 regs):=by rw[←hV];exact f1
 have n0:V.cell? ⟨w.heap.size+1,0,none⟩=some (.map (some mb)):=by rw[←hV];exact m0
 have d0:V.cell? ⟨w.heap.size+1+1,0,none⟩=some (.int .u8 i.op):=by rw[←hV];exact c0
 have d1:V.cell? ⟨w.heap.size+1+1,1,none⟩=some (.int .i64 i.dst):=by rw[←hV];exact c1
 have d2:V.cell? ⟨w.heap.size+1+1,2,none⟩=some (.int .i64 i.x):=by rw[←hV];exact c2
 have d3:V.cell? ⟨w.heap.size+1+1,3,none⟩=some (.int .i64 i.y):=by rw[←hV];exact c3
 have d4:V.cell? ⟨w.heap.size+1+1,4,none⟩=some (.int .i64 i.imm):=by rw[←hV];exact c4
 have d5:V.cell? ⟨w.heap.size+1+1,5,none⟩=some (.string i.sym):=by rw[←hV];exact c5
 clear hV f1 m0 c0 c1 c2 c3 c4 c5 HB HM W
 obtain⟨rd,hrd⟩:∃ b,inReg i.dst regs=b:=⟨_,rfl⟩
 obtain⟨rx,hrx⟩:∃ b,inReg i.x regs=b:=⟨_,rfl⟩
 obtain⟨ry,hry⟩:∃ b,inReg i.y regs=b:=⟨_,rfl⟩
 have RD:Hid (∀ n,Calls Tryz.prog 58 #[.int .i64 i.dst,.pointer (some ⟨w.heap.size,0,none⟩)] (World.drewN V n) (fun e w''=>e = .returned (.bool rd)∧∃ m,w''=V.drewN m)):=fun n=>(isReg_any i.dst regs _ 0 (V.drewN n) g1).mono fun e w'' ⟨h1,h2⟩=>⟨by rw[h1,←hrd];rfl,n,h2.symm⟩
 have RX:Hid (∀ n,Calls Tryz.prog 58 #[.int .i64 i.x,.pointer (some ⟨w.heap.size,0,none⟩)] (World.drewN V n) (fun e w''=>e = .returned (.bool rx)∧∃ m,w''=V.drewN m)):=fun n=>(isReg_any i.x regs _ 0 (V.drewN n) g1).mono fun e w'' ⟨h1,h2⟩=>⟨by rw[h1,←hrx];rfl,n,h2.symm⟩
 have RY:Hid (∀ n,Calls Tryz.prog 58 #[.int .i64 i.y,.pointer (some ⟨w.heap.size,0,none⟩)] (World.drewN V n) (fun e w''=>e = .returned (.bool ry)∧∃ m,w''=V.drewN m)):=fun n=>(isReg_any i.y regs _ 0 (V.drewN n) g1).mono fun e w'' ⟨h1,h2⟩=>⟨by rw[h1,←hry];rfl,n,h2.symm⟩
 have HRD:=ξ hrd
 have HRX:=ξ hrx
 have HRY:=ξ hry
 clear hrd hrx hry
 go_wp2_with fail
 go_quiet (first | (go_at_call 58;with_reducible exact RD.out _) | (go_at_call 58;with_reducible exact RX.out _) | (go_at_call 58;with_reducible exact RY.out _))
 generalize hU:World.drewN _ _=U
 have HBU:Hid (Below w.heap.size w U):=by rw[←hU];exact⟨HBV.out.os,HBV.out.tape,HBV.out.output,HBV.out.size,HBV.out.block⟩
 have HMU:Hid (MapAt Tryz.prog 9 U mb (symMap names)):=by rw[←hU];exact HMV.out.move rfl
 have k0:U.cell? ⟨w.heap.size+1,0,none⟩=some (.map (some mb)):=by rw[←hU];exact n0
 have e0:U.cell? ⟨w.heap.size+1+1,0,none⟩=some (.int .u8 i.op):=by rw[←hU];exact d0
 have e2:U.cell? ⟨w.heap.size+1+1,2,none⟩=some (.int .i64 i.x):=by rw[←hU];exact d2
 have e4:U.cell? ⟨w.heap.size+1+1,4,none⟩=some (.int .i64 i.imm):=by rw[←hU];exact d4
 have e5:U.cell? ⟨w.heap.size+1+1,5,none⟩=some (.string i.sym):=by rw[←hU];exact d5
 clear hU g1 n0 d0 d1 d2 d3 d4 d5 HBV HMV RD RX RY V
 go_wp2_with (first
  | (go_at_call 57;refine (between_any _ _ _ _).mono ?_;rintro e w' ⟨rfl,rfl⟩)
  | (go_at_call 59;refine (symbol_any _ names mb _ _ 0 0 i.sym _ hs k0 e5 HMU.out).mono ?_;rintro e w' ⟨rfl,rfl⟩))
 all_goals
  go_ret
  refine⟨ret_bool ?_,HBU.out⟩
  have q1:=HRD.out
  have q2:=HRX.out
  have q3:=HRY.out
  simp[insOk,betw, *]
theorem grown_any{w w':World}{row:Option Nat}(h:w.grownBy w' none):w.grownBy w' row:=
 ⟨h.os,h.tape,h.output,h.size,fun k hk _=>h.block k hk (by simp)⟩
theorem ownsRow_base{w:World}{base base':Nat}{e:TypeId}{size:Nat}{v:Value}{n:Nat}{xs:List Value}(h:w.ownsRow base e size v n xs)(hb:base'≤base):w.ownsRow base' e size v n xs:=by
 obtain⟨h1,h2⟩:=h
 refine⟨h1,?_⟩
 rcases h2 with h2|⟨g,cap,cur,hv,hg,r⟩
 ·exact .inl h2
 ·exact .inr ⟨g,cap,cur,hv,Nat.le_trans hb hg,r⟩
theorem ownsRow_below{w w':World}{base:Nat}{e:TypeId}{size:Nat}{v:Value}{n:Nat}{xs:List Value}(h:w.ownsRow base e size v n xs)(hb:Below w.heap.size w w'):w'.ownsRow base e size v n xs:=by
 obtain⟨h1,h2⟩:=h
 refine⟨h1,?_⟩
 rcases h2 with h2|⟨g,cap,cur,hv,hg,hc,r⟩
 ·exact .inl h2
 ·exact .inr ⟨g,cap,cur,hv,hg,(hb.block g (Array.getElem?_eq_some_iff.1 hc).1).trans hc,r⟩
theorem ownsRow_form{w:World}{base:Nat}{e:TypeId}{size:Nat}{v:Value}{n:Nat}{xs:List Value}(h:w.ownsRow base e size v n xs) :
 (v = .slice none 0 0∧n=0)∨∃ g cap,v = .slice (some ⟨g,0,none⟩) n cap∧base≤g∧g<w.heap.size∧n≤cap:=by
 rcases h.2 with h2|⟨g,cap,cur,hv,hg,hc,hn,r⟩
 ·exact .inl h2
 ·exact .inr ⟨g,cap,hv,hg,(Array.getElem?_eq_some_iff.1 hc).1,hn⟩
theorem wpList_append_row{P:Program}(w:World){ops:Array Oper}{rest:List Oper}{o:Oper}{a:Act}{Q:Exit→Act→World→Prop}
 (hg:o.guard=none) (s x:Operand) (t:TypeId) (hop:o.op=Op.call { callee:=Callee.builtin Builtin.append,args:=#[s,x],argTypes:=#[t,t] })
 (base:Nat) (e:TypeId) (i:TypeInfo) (z:Value) (size bytes:Nat) (h1:P.underlying t=some (.slice e)) (h2:P.info? e=some i) (h3:i.zero=some z) (h4:i.size=size) (h5:i.bytes=bytes) (h6:z.cells.size=size) (h7:0<size)
 (v:Value) (n:Nat) (xs:List Value) (hs:a.eval s=v) (hown:w.ownsRow base e size v n xs)
 (ad:Addr) (m c:Nat) (news:List Value) (hx:a.eval x = .slice (some ad) m c) (hn:news.length=m*size) (hc:∀ j u,news[j]? = some u→w.cell? (ad.add j)=some u) (h1c:∀ u∈news,u.oneCell'=true)
 (hm:0<m) (b1:n+m≤maxLen) (b2:(n+m)*bytes≤140737488355328) (hbase:base≤w.heap.size)
 (hK:∀ g cap w',w'.ownsRow base e size (.slice (some ⟨g,0,none⟩) (n+m) cap) (n+m) (xs++news)→w.grownBy w' v.ownBlock→(v.ownBlock=some g∨w.heap.size≤g)→wpList P ops Q rest (a.put o.dst (.slice (some ⟨g,0,none⟩) (n+m) cap)) w') :
 wpList P ops Q (o::rest) a w:=by
 have out:∀ v' w',w'.ownsRow w.heap.size e size v' (n+m) (xs++news)→w.grownBy w' none→wpList P ops Q rest (a.put o.dst v') w':=by
  intro v' w' r1 r2
  rcases ownsRow_form r1 with⟨_,h0⟩|⟨g',cap',rfl,hg',_,_⟩
  ·omega
  ·exact hK g' cap' w' (ownsRow_base r1 hbase) (grown_any r2) (.inr hg')
 rcases ownsRow_form hown with⟨rfl,rfl⟩|⟨g,cap,rfl,hgb,hgl,hcap⟩
 ·have hx0:xs = []:=List.length_eq_zero_iff.1 (by rw[hown.1];omega)
  exact wpList_append_grows w hg s x t hop e i z size bytes h1 h2 h3 h4 h5 h6 h7 none 0 0 xs hs (fun _=>⟨rfl,rfl⟩) (by rw[hx0];simp) (fun b h=>by cases h) ad m c news hx hn hc h1c (by omega) b1 b2 out
 ·by_cases hf:n+m≤cap
  ·exact wpList_append_fits w hg s x t hop base e i size h1 h2 h4 g n cap xs hs hown ad m c news hx hn hc h1c hf (fun w' r1 r2=>hK g cap w' r1 r2 (.inl rfl))
  ·refine wpList_append_grows w hg s x t hop e i z size bytes h1 h2 h3 h4 h5 h6 h7 (some ⟨g,0,none⟩) n cap xs hs (fun h=>by cases h) hown.1 (fun b hb j u hu=>?_) ad m c news hx hn hc h1c (by omega) b1 b2 out
   cases hb
   exact hown.cells rfl j u hu
