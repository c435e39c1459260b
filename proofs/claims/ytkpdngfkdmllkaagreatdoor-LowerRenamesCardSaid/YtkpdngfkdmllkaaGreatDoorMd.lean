/- Part. -/
import Derived.Test.YtkpdngfkdmllkaaGreatDoorProg
import Derived.WalkKit
import Derived.Lib.Hide
import Derived.LoopTactic
import Derived.BigGuardPart
import Derived.Outline
import Derived.Deep.RegionHeld
namespace Go.Proofs.YtkpdngfkdmllkaaGreatDoor
set_option linter.unusedVariables false
set_option linter.unusedSimpArgs false
open Go.RowKit
set_option maxRecDepth 100000
namespace Lx
def letter(c:Int):Bool:=decide (97≤c∧c≤122)
def digit(c:Int):Bool:=decide (48≤c∧c≤57)
def inner(c:Int):Bool:=letter c || digit c
def space(c:Int):Bool:=decide (c=32∨c=9∨c=13∨c=10)
def other(c:Int):Bool:=decide (¬ c=10)
def kws:List (List UInt8):=[[97,114,114,97,121],[98,111,117,110,100],[101,108,115,101],[102,111,114],[105,102],[105,110],[108,111,99,107],[111,117,116],[112,101,114,105,111,100],[115,104,97,114,101,100],[116,97,115,107],[118,97,114],[119,104,105,108,101]]
def keyword(l:List UInt8):Bool:=kws.contains l
def run(p:Int→Bool):List UInt8→Nat
 | []=>0
 | c::r=>if p c.toNat then 1+run p r else 0
theorem run_le(p:Int→Bool)(l:List UInt8):run p l≤l.length:=by
 induction l with
 | nil=>simp[run]
 | cons c r ih=>simp only[run,List.length_cons];split <;> omega
theorem run_all(p:Int→Bool)(l:List UInt8):run p l=l.length↔l.all (fun c=>p c.toNat)=true:=by
 induction l with
 | nil=>simp[run]
 | cons c r ih =>
  have:=run_le p r
  simp only[run,List.length_cons,List.all_cons,Bool.and_eq_true]
  split
  ·rename_i h;rw[←ih];simp only[h,true_and];omega
  ·rename_i h;simp only[h];simp
def startOk:List UInt8→Bool
 | []=>false
 | c::r=>letter c.toNat && r.all (fun c=>inner c.toNat)
def name(l:List UInt8):Bool:=decide (l.length≤12) && !keyword l && startOk l
end Lx
theorem ret_bool'{a b:Bool}(h:a=b):Ending.returned (.bool a) = .returned (.bool b):=by rw[h]
theorem isLetter_any(c:Int)(w:World):Calls Tryz.prog 86 #[.int .u8 c] w fun e w'=>e = .returned (.bool (Lx.letter c))∧w=w':=by
 by_cases h1:97≤c
 ·by_cases h2:c≤122
  all_goals
   go_enter Tryz.func86,Tryz.ntmps86
   go_wp2_with fail
   go_ret
   exact⟨ret_bool' (by simp[Lx.letter];omega),rfl⟩
 ·go_enter Tryz.func86,Tryz.ntmps86
  go_wp2_with fail
  go_ret
  exact⟨ret_bool' (by simp[Lx.letter];omega),rfl⟩
theorem isDigit_any(c:Int)(w:World):Calls Tryz.prog 88 #[.int .u8 c] w fun e w'=>e = .returned (.bool (Lx.digit c))∧w=w':=by
 by_cases h1:48≤c
 ·by_cases h2:c≤57
  all_goals
   go_enter Tryz.func88,Tryz.ntmps88
   go_wp2_with fail
   go_ret
   exact⟨ret_bool' (by simp[Lx.digit];omega),rfl⟩
 ·go_enter Tryz.func88,Tryz.ntmps88
  go_wp2_with fail
  go_ret
  exact⟨ret_bool' (by simp[Lx.digit];omega),rfl⟩
theorem isInner_any(c:Int)(w:World):Calls Tryz.prog 87 #[.int .u8 c] w fun e w'=>e = .returned (.bool (Lx.inner c))∧w=w':=by
 have HI:Hid (Lx.inner c=(Lx.letter c || Lx.digit c)):=rfl
 cases hl:Lx.letter c with
 | true =>
  go_enter Tryz.func87,Tryz.ntmps87
  go_wp2_with (first | (go_at_call 86;refine (isLetter_any _ _).mono ?_;rintro e w1 ⟨rfl,rfl⟩) | (go_at_call 88;refine (isDigit_any _ _).mono ?_;rintro e w1 ⟨rfl,rfl⟩))
  go_ret
  exact⟨ret_bool' (by rw[HI.out,hl];rfl),rfl⟩
 | false =>
  go_enter Tryz.func87,Tryz.ntmps87
  go_wp2_with (first | (go_at_call 86;refine (isLetter_any _ _).mono ?_;rintro e w1 ⟨rfl,rfl⟩) | (go_at_call 88;refine (isDigit_any _ _).mono ?_;rintro e w1 ⟨rfl,rfl⟩))
  go_ret
  exact⟨ret_bool' (by rw[HI.out,hl];rfl),rfl⟩
theorem isSpace_any(c:Int)(w:World):Calls Tryz.prog 89 #[.int .u8 c] w fun e w'=>e = .returned (.bool (Lx.space c))∧w=w':=by
 by_cases h:c=32∨c=9∨c=13∨c=10
 ·have HE:Hid (Lx.space c=true):=by show _=_;simp[Lx.space,h]
  rcases h with rfl|rfl|rfl|rfl
  all_goals
   go_enter Tryz.func89,Tryz.ntmps89
   go_wp2_with fail
   go_ret
   exact⟨rfl,rfl⟩
 ·have HE:Hid (Lx.space c=false):=by show _=_;simp only[Lx.space,decide_eq_false_iff_not];exact h
  have d1:(c == 32)=false:=by simp;omega
  have d2:(c == 9)=false:=by simp;omega
  have d3:(c == 13)=false:=by simp;omega
  have d4:(c == 10)=false:=by simp;omega
  clear h
  go_enter Tryz.func89,Tryz.ntmps89
  go_wp2_with fail
  go_ret
  exact⟨ret_bool' HE.out.symm,rfl⟩
theorem isOther_any(c:Int)(w:World):Calls Tryz.prog 90 #[.int .u8 c] w fun e w'=>e = .returned (.bool (Lx.other c))∧w=w':=by
 go_enter Tryz.func90,Tryz.ntmps90
 go_wp2_with fail
 go_ret
 exact⟨ret_bool' (by simp[Lx.other,bne];rfl),rfl⟩
theorem keyword_0(w:World):Calls Tryz.prog 69 #[.string ⟨#[97,114,114,97,121]⟩] w fun e w'=>e = .returned (.bool true)∧w=w':=by
 go_enter Tryz.func69,Tryz.ntmps69
 go_wp2_with fail
 go_ret
 exact⟨rfl,rfl⟩
theorem keyword_1(w:World):Calls Tryz.prog 69 #[.string ⟨#[98,111,117,110,100]⟩] w fun e w'=>e = .returned (.bool true)∧w=w':=by
 go_enter Tryz.func69,Tryz.ntmps69
 go_wp2_with fail
 go_ret
 exact⟨rfl,rfl⟩
theorem keyword_2(w:World):Calls Tryz.prog 69 #[.string ⟨#[101,108,115,101]⟩] w fun e w'=>e = .returned (.bool true)∧w=w':=by
 go_enter Tryz.func69,Tryz.ntmps69
 go_wp2_with fail
 go_ret
 exact⟨rfl,rfl⟩
theorem keyword_3(w:World):Calls Tryz.prog 69 #[.string ⟨#[102,111,114]⟩] w fun e w'=>e = .returned (.bool true)∧w=w':=by
 go_enter Tryz.func69,Tryz.ntmps69
 go_wp2_with fail
 go_ret
 exact⟨rfl,rfl⟩
theorem keyword_4(w:World):Calls Tryz.prog 69 #[.string ⟨#[105,102]⟩] w fun e w'=>e = .returned (.bool true)∧w=w':=by
 go_enter Tryz.func69,Tryz.ntmps69
 go_wp2_with fail
 go_ret
 exact⟨rfl,rfl⟩
theorem keyword_5(w:World):Calls Tryz.prog 69 #[.string ⟨#[105,110]⟩] w fun e w'=>e = .returned (.bool true)∧w=w':=by
 go_enter Tryz.func69,Tryz.ntmps69
 go_wp2_with fail
 go_ret
 exact⟨rfl,rfl⟩
theorem keyword_6(w:World):Calls Tryz.prog 69 #[.string ⟨#[108,111,99,107]⟩] w fun e w'=>e = .returned (.bool true)∧w=w':=by
 go_enter Tryz.func69,Tryz.ntmps69
 go_wp2_with fail
 go_ret
 exact⟨rfl,rfl⟩
theorem keyword_7(w:World):Calls Tryz.prog 69 #[.string ⟨#[111,117,116]⟩] w fun e w'=>e = .returned (.bool true)∧w=w':=by
 go_enter Tryz.func69,Tryz.ntmps69
 go_wp2_with fail
 go_ret
 exact⟨rfl,rfl⟩
theorem keyword_8(w:World):Calls Tryz.prog 69 #[.string ⟨#[112,101,114,105,111,100]⟩] w fun e w'=>e = .returned (.bool true)∧w=w':=by
 go_enter Tryz.func69,Tryz.ntmps69
 go_wp2_with fail
 go_ret
 exact⟨rfl,rfl⟩
theorem keyword_9(w:World):Calls Tryz.prog 69 #[.string ⟨#[115,104,97,114,101,100]⟩] w fun e w'=>e = .returned (.bool true)∧w=w':=by
 go_enter Tryz.func69,Tryz.ntmps69
 go_wp2_with fail
 go_ret
 exact⟨rfl,rfl⟩
theorem keyword_10(w:World):Calls Tryz.prog 69 #[.string ⟨#[116,97,115,107]⟩] w fun e w'=>e = .returned (.bool true)∧w=w':=by
 go_enter Tryz.func69,Tryz.ntmps69
 go_wp2_with fail
 go_ret
 exact⟨rfl,rfl⟩
theorem keyword_11(w:World):Calls Tryz.prog 69 #[.string ⟨#[118,97,114]⟩] w fun e w'=>e = .returned (.bool true)∧w=w':=by
 go_enter Tryz.func69,Tryz.ntmps69
 go_wp2_with fail
 go_ret
 exact⟨rfl,rfl⟩
theorem keyword_12(w:World):Calls Tryz.prog 69 #[.string ⟨#[119,104,105,108,101]⟩] w fun e w'=>e = .returned (.bool true)∧w=w':=by
 go_enter Tryz.func69,Tryz.ntmps69
 go_wp2_with fail
 go_ret
 exact⟨rfl,rfl⟩
theorem bytes_eq {s : ByteArray} {l : List UInt8} (h : s.toList = l) : s = ⟨l.toArray⟩ := by
  cases s with
  | mk d => have : d.toList = l := by rw [← h]; simp [ByteArray.toList_eq]
            subst this; rfl
theorem keyword_any(s:ByteArray)(w:World):Calls Tryz.prog 69 #[.string s] w fun e w'=>e = .returned (.bool (Lx.keyword s.toList))∧w=w':=by
 by_cases h0:s.toList = [97,114,114,97,121]
 ·have e:s=⟨#[97,114,114,97,121]⟩:=bytes_eq h0
  have e2:Lx.keyword s.toList=true:=by rw[h0];decide
  rw[e2,e];exact keyword_0 w
 by_cases h1:s.toList = [98,111,117,110,100]
 ·have e:s=⟨#[98,111,117,110,100]⟩:=bytes_eq h1
  have e2:Lx.keyword s.toList=true:=by rw[h1];decide
  rw[e2,e];exact keyword_1 w
 by_cases h2:s.toList = [101,108,115,101]
 ·have e:s=⟨#[101,108,115,101]⟩:=bytes_eq h2
  have e2:Lx.keyword s.toList=true:=by rw[h2];decide
  rw[e2,e];exact keyword_2 w
 by_cases h3:s.toList = [102,111,114]
 ·have e:s=⟨#[102,111,114]⟩:=bytes_eq h3
  have e2:Lx.keyword s.toList=true:=by rw[h3];decide
  rw[e2,e];exact keyword_3 w
 by_cases h4:s.toList = [105,102]
 ·have e:s=⟨#[105,102]⟩:=bytes_eq h4
  have e2:Lx.keyword s.toList=true:=by rw[h4];decide
  rw[e2,e];exact keyword_4 w
 by_cases h5:s.toList = [105,110]
 ·have e:s=⟨#[105,110]⟩:=bytes_eq h5
  have e2:Lx.keyword s.toList=true:=by rw[h5];decide
  rw[e2,e];exact keyword_5 w
 by_cases h6:s.toList = [108,111,99,107]
 ·have e:s=⟨#[108,111,99,107]⟩:=bytes_eq h6
  have e2:Lx.keyword s.toList=true:=by rw[h6];decide
  rw[e2,e];exact keyword_6 w
 by_cases h7:s.toList = [111,117,116]
 ·have e:s=⟨#[111,117,116]⟩:=bytes_eq h7
  have e2:Lx.keyword s.toList=true:=by rw[h7];decide
  rw[e2,e];exact keyword_7 w
 by_cases h8:s.toList = [112,101,114,105,111,100]
 ·have e:s=⟨#[112,101,114,105,111,100]⟩:=bytes_eq h8
  have e2:Lx.keyword s.toList=true:=by rw[h8];decide
  rw[e2,e];exact keyword_8 w
 by_cases h9:s.toList = [115,104,97,114,101,100]
 ·have e:s=⟨#[115,104,97,114,101,100]⟩:=bytes_eq h9
  have e2:Lx.keyword s.toList=true:=by rw[h9];decide
  rw[e2,e];exact keyword_9 w
 by_cases h10:s.toList = [116,97,115,107]
 ·have e:s=⟨#[116,97,115,107]⟩:=bytes_eq h10
  have e2:Lx.keyword s.toList=true:=by rw[h10];decide
  rw[e2,e];exact keyword_10 w
 by_cases h11:s.toList = [118,97,114]
 ·have e:s=⟨#[118,97,114]⟩:=bytes_eq h11
  have e2:Lx.keyword s.toList=true:=by rw[h11];decide
  rw[e2,e];exact keyword_11 w
 by_cases h12:s.toList = [119,104,105,108,101]
 ·have e:s=⟨#[119,104,105,108,101]⟩:=bytes_eq h12
  have e2:Lx.keyword s.toList=true:=by rw[h12];decide
  rw[e2,e];exact keyword_12 w
 have e2:Hid (Lx.keyword s.toList=false):=by
  show _=_
  simp[Lx.keyword,Lx.kws,h0,h1,h2,h3,h4,h5,h6,h7,h8,h9,h10,h11,h12]
 have b0:(s.toList == [97,114,114,97,121])=false:=by simpa using h0
 clear h0
 have b1:(s.toList == [98,111,117,110,100])=false:=by simpa using h1
 clear h1
 have b2:(s.toList == [101,108,115,101])=false:=by simpa using h2
 clear h2
 have b3:(s.toList == [102,111,114])=false:=by simpa using h3
 clear h3
 have b4:(s.toList == [105,102])=false:=by simpa using h4
 clear h4
 have b5:(s.toList == [105,110])=false:=by simpa using h5
 clear h5
 have b6:(s.toList == [108,111,99,107])=false:=by simpa using h6
 clear h6
 have b7:(s.toList == [111,117,116])=false:=by simpa using h7
 clear h7
 have b8:(s.toList == [112,101,114,105,111,100])=false:=by simpa using h8
 clear h8
 have b9:(s.toList == [115,104,97,114,101,100])=false:=by simpa using h9
 clear h9
 have b10:(s.toList == [116,97,115,107])=false:=by simpa using h10
 clear h10
 have b11:(s.toList == [118,97,114])=false:=by simpa using h11
 clear h11
 have b12:(s.toList == [119,104,105,108,101])=false:=by simpa using h12
 clear h12
 go_enter Tryz.func69,Tryz.ntmps69
 go_wp2_with fail
 go_ret
 exact⟨ret_bool' e2.out.symm,rfl⟩
inductive Tree where
 | node (kind num:Int) (name:ByteArray) (len:Nat) (kid:Fin len→Tree)
namespace Tree
def kind:Tree→Int | node k _ _ _ _=>k
def num:Tree→Int | node _ n _ _ _=>n
def name:Tree→ByteArray | node _ _ s _ _=>s
def len:Tree→Nat | node _ _ _ l _=>l
def leaf(k n:Int)(s:ByteArray):Tree:=node k n s 0 (fun i=>i.elim0)
def kid:Tree→Nat→Tree | node _ _ _ l k=>fun i=>if h:i<l then k ⟨i,h⟩ else leaf 0 0 ByteArray.empty
theorem kid_node{k n:Int}{s:ByteArray}{l:Nat}{kid:Fin l→Tree}{i:Nat}(h:i<l):(node k n s l kid).kid i=kid ⟨i,h⟩:=dif_pos h
def sumTo(f:Nat→Nat):Nat→Nat
 | 0=>0
 | n+1=>sumTo f n+f n
def maxTo(f:Nat→Nat):Nat→Nat
 | 0=>0
 | n+1=>max (maxTo f n) (f n)
def allTo(f:Nat→Bool):Nat→Bool
 | 0=>true
 | n+1=>allTo f n && f n
def size:Tree→Nat | node _ _ _ l kid=>1+sumTo (fun i=>if h:i<l then size (kid ⟨i,h⟩) else 0) l
def depth:Tree→Nat | node _ _ _ l kid=>maxTo (fun i=>if h:i<l then depth (kid ⟨i,h⟩) else 0) l+1
def nest:Tree→Nat | node k _ _ l kid=>maxTo (fun i=>if h:i<l then nest (kid ⟨i,h⟩) else 0) l+if k=42∨k=43 then 1 else 0
theorem sumTo_succ(f:Nat→Nat)(n:Nat):sumTo f (n+1)=sumTo f n+f n:=rfl
theorem maxTo_succ(f:Nat→Nat)(n:Nat):maxTo f (n+1)=max (maxTo f n) (f n):=rfl
theorem allTo_succ(f:Nat→Bool)(n:Nat):allTo f (n+1)=(allTo f n && f n):=rfl
theorem sumTo_le {f : Nat → Nat} {n m : Nat} (h : n ≤ m) : sumTo f n ≤ sumTo f m := by
  induction m with
  | zero => obtain rfl : n = 0 := by omega
            exact Nat.le_refl _
  | succ m ih =>
    by_cases e : n = m + 1
    · subst e; exact Nat.le_refl _
    · have := ih (by omega); rw [sumTo_succ]; omega
theorem le_sumTo{f:Nat→Nat}{i n:Nat}(h:i<n):f i≤sumTo f n:=by
 have:=sumTo_le (f:=f) (show i+1≤n by omega)
 rw[sumTo_succ] at this;omega
theorem maxTo_le {f : Nat → Nat} {n m : Nat} (h : n ≤ m) : maxTo f n ≤ maxTo f m := by
  induction m with
  | zero => obtain rfl : n = 0 := by omega
            exact Nat.le_refl _
  | succ m ih =>
    by_cases e : n = m + 1
    · subst e; exact Nat.le_refl _
    · have := ih (by omega); rw [maxTo_succ]; omega
theorem maxTo_lt{f:Nat→Nat}{n b:Nat}(hb:0<b)(h:∀ i,i<n→f i<b):maxTo f n<b:=by
 induction n with
 | zero=>exact hb
 | succ n ih=>have:=ih (fun i hi=>h i (by omega));have:=h n (by omega);rw[maxTo_succ];omega
theorem allTo_iff{f:Nat→Bool}{n:Nat}:allTo f n=true↔∀ i,i<n→f i=true:=by
 induction n with
 | zero=>simp[allTo]
 | succ n ih =>
  simp only[allTo,Bool.and_eq_true,ih]
  constructor
  ·intro h i hi
   by_cases e:i=n
   ·subst e;exact h.2
   ·exact h.1 i (by omega)
  ·intro h;exact⟨fun i hi=>h i (by omega),h n (by omega)⟩
theorem allTo_congr{f g:Nat→Bool}{n:Nat}(h:∀ i,i<n→f i=g i):allTo f n=allTo g n:=by
 induction n with
 | zero=>rfl
 | succ n ih=>unfold allTo;rw[ih (fun i hi=>h i (by omega)),h n (by omega)]
theorem allTo_false{f:Nat→Bool}{n i:Nat}(hi:i<n)(h:f i=false):allTo f n=false:=by
 cases e:allTo f n with
 | false=>rfl
 | true=>rw[allTo_iff.1 e i hi] at h;cases h
theorem sumTo_congr{f g:Nat→Nat}{n:Nat}(h:∀ i,i<n→f i=g i):sumTo f n=sumTo g n:=by
 induction n with
 | zero=>rfl
 | succ n ih=>rw[sumTo_succ,sumTo_succ,ih (fun i hi=>h i (by omega)),h n (by omega)]
theorem maxTo_congr{f g:Nat→Nat}{n:Nat}(h:∀ i,i<n→f i=g i):maxTo f n=maxTo g n:=by
 induction n with
 | zero=>rfl
 | succ n ih=>rw[maxTo_succ,maxTo_succ,ih (fun i hi=>h i (by omega)),h n (by omega)]
theorem size_eq(t:Tree):t.size=1+sumTo (fun i=>(t.kid i).size) t.len:=by
 cases t with
 | node k n s l kid=>rw[size];congr 1;exact sumTo_congr fun i hi=>by rw[dif_pos hi,kid_node hi]
theorem depth_eq(t:Tree):t.depth=maxTo (fun i=>(t.kid i).depth) t.len+1:=by
 cases t with
 | node k n s l kid=>rw[depth];congr 1;exact maxTo_congr fun i hi=>by rw[dif_pos hi,kid_node hi]
theorem nest_eq(t:Tree):t.nest=maxTo (fun i=>(t.kid i).nest) t.len+if t.kind=42∨t.kind=43 then 1 else 0:=by
 cases t with
 | node k n s l kid=>rw[nest];congr 1;exact maxTo_congr fun i hi=>by rw[dif_pos hi,kid_node hi]
theorem ind{P:Tree→Prop}(h:∀ t:Tree,(∀ i,i<t.len→P (t.kid i))→P t):∀ t,P t:=by
 intro t
 induction t with
 | node k n s l kid ih=>exact h _ fun i hi=>by have hi':i<l:=hi;rw[kid_node hi'];exact ih _
def make(k n:Int)(s:ByteArray)(l:Nat)(f:Nat→Tree):Tree:=node k n s l (fun i=>f i.1)
theorem make_kid{k n:Int}{s:ByteArray}{l:Nat}{f:Nat→Tree}{i:Nat}(h:i<l):(make k n s l f).kid i=f i:=kid_node h
theorem size_pos(t:Tree):1≤t.size:=by rw[size_eq];omega
theorem size_kid{t:Tree}{i:Nat}(h:i<t.len):(t.kid i).size<t.size:=by
 have:=le_sumTo (f:=fun i=>(t.kid i).size) h
 rw[size_eq t];exact Nat.lt_of_le_of_lt this (by omega)
theorem maxTo_le_maxTo{f g:Nat→Nat}{n:Nat}(h:∀ i,i<n→f i≤g i):maxTo f n≤maxTo g n:=by
 induction n with
 | zero=>exact Nat.le_refl _
 | succ n ih=>have:=ih (fun i hi=>h i (by omega));have:=h n (by omega);rw[maxTo_succ,maxTo_succ];omega
theorem nest_le_depth(t:Tree):t.nest≤t.depth:=by
 induction t using ind with
 | h t ih=>have:=maxTo_le_maxTo (n:=t.len) ih;rw[depth_eq,nest_eq];split <;> omega
end Tree
structure Tree.Fits(t:Tree):Prop where
 kind:0≤t.kind∧t.kind≤255
 num : -9223372036854775808≤t.num∧t.num≤9223372036854775807
 name:t.name.size≤9223372036854775807
 len:t.len≤9223372036854775807
structure NodeAt(w:World)(b off:Nat)(t:Tree)(a:Option Addr)(c:Nat):Prop where
 kind:w.cell? ⟨b,off,none⟩=some (.int .u8 t.kind)
 num:w.cell? ⟨b,off+1,none⟩=some (.int .i64 t.num)
 name:w.cell? ⟨b,off+2,none⟩=some (.string t.name)
 kids:w.cell? ⟨b,off+3,none⟩=some (.slice a t.len c)
abbrev Tree.val(t:Tree)(a:Option Addr)(c:Nat):Value:=.agg #[.int .u8 t.kind,.int .i64 t.num,.string t.name,.slice a t.len c]
def Rep(w:World):Tree→Option Addr→Prop
 | .node k n s l kid=>fun a=>(Tree.node k n s l kid).Fits ∧
  (l=0∨∃ b off,a=some ⟨b,off,none⟩∧∀ (i:Nat) (h:i<l),∃ ai ci,NodeAt w b (off+i*4) (kid ⟨i,h⟩) ai ci∧Rep w (kid ⟨i,h⟩) ai)
theorem Rep.fits{w:World}{t:Tree}{a:Option Addr}(h:Rep w t a):t.Fits:=by cases t;exact h.1
theorem Rep.kids{w:World}{t:Tree}{a:Option Addr}(h:Rep w t a):t.len=0∨∃ b off,a=some ⟨b,off,none⟩∧∀ i,i<t.len→∃ ai ci,NodeAt w b (off+i*4) (t.kid i) ai ci∧Rep w (t.kid i) ai:=by
 cases t with
 | node k n s l kid =>
  rcases h.2 with h0|⟨b,off,ha,hk⟩
  ·exact .inl h0
  ·exact .inr ⟨b,off,ha,fun i hi=>by have hi':i<l:=hi;rw[Tree.kid_node hi'];exact hk i hi⟩
theorem Rep.mk{w:World}{t:Tree}{a:Option Addr}(hf:t.Fits)(h:t.len=0∨∃ b off,a=some ⟨b,off,none⟩∧∀ i,i<t.len→∃ ai ci,NodeAt w b (off+i*4) (t.kid i) ai ci∧Rep w (t.kid i) ai):Rep w t a:=by
 cases t with
 | node k n s l kid =>
  rcases h with h0|⟨b,off,ha,hk⟩
  ·exact⟨hf,.inl h0⟩
  ·exact⟨hf,.inr ⟨b,off,ha,fun i hi=>by have hi':i<l:=hi;have:=hk i hi;rwa [Tree.kid_node hi'] at this⟩⟩
theorem NodeAt.below{w w':World}{b off:Nat}{t:Tree}{a:Option Addr}{c B:Nat}(h:NodeAt w b off t a c)(hb:Below B w w')(hB:b<B):NodeAt w' b off t a c:=
 ⟨(hb.cell (p:=⟨b,_,none⟩) hB).trans h.kind,(hb.cell (p:=⟨b,_,none⟩) hB).trans h.num,(hb.cell (p:=⟨b,_,none⟩) hB).trans h.name,(hb.cell (p:=⟨b,_,none⟩) hB).trans h.kids⟩
theorem NodeAt.lt{w:World}{b off:Nat}{t:Tree}{a:Option Addr}{c:Nat}(h:NodeAt w b off t a c):b<w.heap.size:=World.block_lt_of_cell? w _ h.kind
theorem Rep.below{w w':World}(hb:Below w.heap.size w w'):∀ {t:Tree} {a:Option Addr},Rep w t a→Rep w' t a:=by
 intro t
 induction t using Tree.ind with
 | h t ih =>
  intro a h
  refine Rep.mk h.fits ?_
  rcases h.kids with h0|⟨b,off,ha,hk⟩
  ·exact .inl h0
  ·refine .inr ⟨b,off,ha,fun i hi=>?_⟩
   obtain⟨ai,ci,hn,hr⟩:=hk i hi
   exact⟨ai,ci,hn.below hb hn.lt,ih i hi hr⟩
theorem ofBox{w wr:World}{o:Obj}(h:Below (w.heap.size+1) (w.alloc o) wr):Below w.heap.size w wr:=
 ((Below.refl _ _).alloc (Nat.le_refl _) o).trans (h.mono (Nat.le_succ _))
theorem box_cell{w wr:World}{c:Array Value}{t:TypeId}(h:Below (w.heap.size+1) (w.alloc (.cells c t)) wr)(i:Nat):wr.cell? ⟨w.heap.size,i,none⟩=c[i]?:=
 (h.cell (p:=⟨w.heap.size,i,none⟩) (Nat.lt_succ_self _)).trans (World.cell?_alloc_new w c t i)
theorem box_size{w wr:World}{o:Obj}(h:Below (w.heap.size+1) (w.alloc o) wr):w.heap.size+1≤wr.heap.size:=by
 have:=h.size;simpa using this
def Tree.cnt:Nat→Tree→Nat
 | 0,_=>1000
 | d+1,t=>min 1000 (1+Tree.sumTo (fun i=>Tree.cnt d (t.kid i)) t.len)
theorem Tree.cnt_succ(d:Nat)(t:Tree):Tree.cnt (d+1) t=min 1000 (1+Tree.sumTo (fun i=>Tree.cnt d (t.kid i)) t.len):=rfl
theorem Tree.cnt_small(d:Nat):∀ t:Tree,Tree.cnt d t<1000→t.size=Tree.cnt d t∧t.depth≤d:=by
 induction d with
 | zero=>intro t h;simp[Tree.cnt] at h
 | succ d ih =>
  intro t h
  rw[cnt_succ] at h
  have hk:∀ i,i<t.len→(t.kid i).size=Tree.cnt d (t.kid i)∧(t.kid i).depth≤d:=by
   intro i hi
   have:=le_sumTo (f:=fun i=>Tree.cnt d (t.kid i)) hi
   exact ih _ (Nat.lt_of_le_of_lt this (by omega))
  constructor
  ·rw[cnt_succ,size_eq,sumTo_congr (fun i hi=>(hk i hi).1)];omega
  ·rw[depth_eq]
   have:maxTo (fun i=>(t.kid i).depth) t.len<d+1:=maxTo_lt (by omega) (fun i hi=>by have:=(hk i hi).2;omega)
   omega
def Tree.big(t:Tree):Prop:=500<Tree.cnt 40 t
theorem Tree.small{t:Tree}(h:¬ t.big):t.size≤500∧t.depth≤40:=by
 unfold Tree.big at h
 have:=Tree.cnt_small 40 t (by omega)
 omega
namespace Fm
def row(k:Int):Bool×Int×Int×List UInt8:=
 if k=1 then (false,0,2147483647,[]) else
 if k=2 then (true,0,0,[]) else
 if k=3 then (true,0,0,[101]) else
 if k=4 then (false,0,0,[101]) else
 if k=5 then (false,0,0,[101]) else
 if k=40 then (false,0,0,[112,101]) else
 if k=41 then (false,0,0,[101,98,98]) else
 if k=42 then (true,1,1000,[98]) else
 if k=43 then (false,1,1000,[101,98]) else
 if k=44 then (false,0,7,[112]) else
 if k=45 then (false,0,7,[101]) else
 if k=46 then (true,0,0,[98]) else
 (false,0,0,[101,101])
def name(k:Int):Bool:=(row k).1
def lo(k:Int):Int:=(row k).2.1
def hi(k:Int):Int:=(row k).2.2.1
def kids(k:Int):List UInt8:=(row k).2.2.2
def belongs(k c:Int):Bool:=
 if c=101 then decide (1≤k∧k≤23) else if c=112 then decide (k=2∨k=3) else if c=115 then decide (40≤k∧k<47) else decide (k=47)
def cat(c:Int):Prop:=c=101∨c=112∨c=115∨c=98
theorem row_else(k:Int)(h:¬ (k=1∨k=2∨k=3∨k=4∨k=5∨k=40∨k=41∨k=42∨k=43∨k=44∨k=45∨k=46)):row k=(false,0,0,[101,101]):=by
 unfold row
 repeat rw[if_neg (by omega)]
theorem kids_cat(k:Int)(i:Nat)(h:i<(kids k).length):cat ((kids k).getD i 0).toNat:=by
 by_cases hk:k=1∨k=2∨k=3∨k=4∨k=5∨k=40∨k=41∨k=42∨k=43∨k=44∨k=45∨k=46
 ·rcases hk with rfl|rfl|rfl|rfl|rfl|rfl|rfl|rfl|rfl|rfl|rfl|rfl
  all_goals
   revert i
   unfold cat
   decide
 ·unfold kids at *
  rw[row_else k hk] at *
  revert i
  unfold cat
  decide
theorem bd(k:Int):0≤lo k∧lo k≤1∧0≤hi k∧hi k≤2147483647∧(kids k).length≤3:=by
 by_cases hk:k=1∨k=2∨k=3∨k=4∨k=5∨k=40∨k=41∨k=42∨k=43∨k=44∨k=45∨k=46
 ·rcases hk with rfl|rfl|rfl|rfl|rfl|rfl|rfl|rfl|rfl|rfl|rfl|rfl
  all_goals decide
 ·unfold lo hi kids;rw[row_else k hk];decide
end Fm
namespace Tree
def vld:Tree→Int→Bool
 | node k n s l kid=>fun c=>Fm.belongs k c && (if k=47 then (n == 0) && s.toList.isEmpty && allTo (fun i=>if h:i<l then vld (kid ⟨i,h⟩) 115 else true) l else
  decide (Fm.lo k≤n) && decide (n≤Fm.hi k) && decide (l=(Fm.kids k).length) && (if Fm.name k then Lx.name s.toList else s.toList.isEmpty) && allTo (fun i=>if h:i<l then vld (kid ⟨i,h⟩) (((Fm.kids k).getD i 0).toNat) else true) l)
theorem vld_eq (t : Tree) (c : Int) : t.vld c = (Fm.belongs t.kind c && (if t.kind = 47 then (t.num == 0) && t.name.toList.isEmpty && allTo (fun i => (t.kid i).vld 115) t.len else
      decide (Fm.lo t.kind ≤ t.num) && decide (t.num ≤ Fm.hi t.kind) && decide (t.len = (Fm.kids t.kind).length) && (if Fm.name t.kind then Lx.name t.name.toList else t.name.toList.isEmpty) && allTo (fun i => (t.kid i).vld (((Fm.kids t.kind).getD i 0).toNat)) t.len)) := by
  cases t with
  | node k n s l kid =>
    rw [vld]
    have e1 : allTo (fun i => if h : i < l then vld (kid ⟨i, h⟩) 115 else true) l = allTo (fun i => ((node k n s l kid).kid i).vld 115) l := allTo_congr fun i hi => by rw [dif_pos hi, kid_node hi]
    have e2 : allTo (fun i => if h : i < l then vld (kid ⟨i, h⟩) (((Fm.kids k).getD i 0).toNat) else true) l = allTo (fun i => ((node k n s l kid).kid i).vld (((Fm.kids k).getD i 0).toNat)) l := allTo_congr fun i hi => by rw [dif_pos hi, kid_node hi]
    rw [e1, e2]; rfl
end Tree
end Go.Proofs.YtkpdngfkdmllkaaGreatDoor
