/- Part. -/
import Derived.Test.YtkpdngfkdmllkaaGreatDoorMg5
import Derived.StillTailTactics
import Derived.Deep.RegionWith
import Derived.Deep.QuietTactic
import Derived.BigQuiet
import Derived.Deep.Cut
import Derived.Deep.CutRange
import Derived.Deep.DeepCutAuto
namespace Go.Proofs.YtkpdngfkdmllkaaGreatDoor
set_option linter.unusedVariables false
set_option linter.unusedSimpArgs false
open Go.RowKit
set_option maxRecDepth 100000
theorem formOf_1(w:World):Calls Tryz.prog 96 #[.int .u8 1] w fun e w'=>e = .returned (.agg #[.bool false,.int .i64 0,.int .i64 2147483647,.string ⟨#[]⟩])∧Below w.heap.size w w':=by
 go_enter Tryz.func96,Tryz.ntmps96
 go_wp2_with fail
 exact bodyPost_ret (v:=.agg #[.bool false,.int .i64 0,.int .i64 2147483647,.string ⟨#[]⟩]) (by simp[results,Tryz.results96,go_sem]) rfl ⟨rfl,by repeat (first | exact Below.refl _ _ | refine Below.alloc ?_ (by simp) _ | refine Below.setCell ?_ (by simp) _)⟩
theorem formOf_2(w:World):Calls Tryz.prog 96 #[.int .u8 2] w fun e w'=>e = .returned (.agg #[.bool true,.int .i64 0,.int .i64 0,.string ⟨#[]⟩])∧Below w.heap.size w w':=by
 go_enter Tryz.func96,Tryz.ntmps96
 go_wp2_with fail
 exact bodyPost_ret (v:=.agg #[.bool true,.int .i64 0,.int .i64 0,.string ⟨#[]⟩]) (by simp[results,Tryz.results96,go_sem]) rfl ⟨rfl,by repeat (first | exact Below.refl _ _ | refine Below.alloc ?_ (by simp) _ | refine Below.setCell ?_ (by simp) _)⟩
theorem formOf_3(w:World):Calls Tryz.prog 96 #[.int .u8 3] w fun e w'=>e = .returned (.agg #[.bool true,.int .i64 0,.int .i64 0,.string ⟨#[101]⟩])∧Below w.heap.size w w':=by
 go_enter Tryz.func96,Tryz.ntmps96
 go_wp2_with fail
 exact bodyPost_ret (v:=.agg #[.bool true,.int .i64 0,.int .i64 0,.string ⟨#[101]⟩]) (by simp[results,Tryz.results96,go_sem]) rfl ⟨rfl,by repeat (first | exact Below.refl _ _ | refine Below.alloc ?_ (by simp) _ | refine Below.setCell ?_ (by simp) _)⟩
theorem formOf_4(w:World):Calls Tryz.prog 96 #[.int .u8 4] w fun e w'=>e = .returned (.agg #[.bool false,.int .i64 0,.int .i64 0,.string ⟨#[101]⟩])∧Below w.heap.size w w':=by
 go_enter Tryz.func96,Tryz.ntmps96
 go_wp2_with fail
 exact bodyPost_ret (v:=.agg #[.bool false,.int .i64 0,.int .i64 0,.string ⟨#[101]⟩]) (by simp[results,Tryz.results96,go_sem]) rfl ⟨rfl,by repeat (first | exact Below.refl _ _ | refine Below.alloc ?_ (by simp) _ | refine Below.setCell ?_ (by simp) _)⟩
theorem formOf_5(w:World):Calls Tryz.prog 96 #[.int .u8 5] w fun e w'=>e = .returned (.agg #[.bool false,.int .i64 0,.int .i64 0,.string ⟨#[101]⟩])∧Below w.heap.size w w':=by
 go_enter Tryz.func96,Tryz.ntmps96
 go_wp2_with fail
 exact bodyPost_ret (v:=.agg #[.bool false,.int .i64 0,.int .i64 0,.string ⟨#[101]⟩]) (by simp[results,Tryz.results96,go_sem]) rfl ⟨rfl,by repeat (first | exact Below.refl _ _ | refine Below.alloc ?_ (by simp) _ | refine Below.setCell ?_ (by simp) _)⟩
theorem formOf_40(w:World):Calls Tryz.prog 96 #[.int .u8 40] w fun e w'=>e = .returned (.agg #[.bool false,.int .i64 0,.int .i64 0,.string ⟨#[112,101]⟩])∧Below w.heap.size w w':=by
 go_enter Tryz.func96,Tryz.ntmps96
 go_wp2_with fail
 exact bodyPost_ret (v:=.agg #[.bool false,.int .i64 0,.int .i64 0,.string ⟨#[112,101]⟩]) (by simp[results,Tryz.results96,go_sem]) rfl ⟨rfl,by repeat (first | exact Below.refl _ _ | refine Below.alloc ?_ (by simp) _ | refine Below.setCell ?_ (by simp) _)⟩
theorem formOf_41(w:World):Calls Tryz.prog 96 #[.int .u8 41] w fun e w'=>e = .returned (.agg #[.bool false,.int .i64 0,.int .i64 0,.string ⟨#[101,98,98]⟩])∧Below w.heap.size w w':=by
 go_enter Tryz.func96,Tryz.ntmps96
 go_wp2_with fail
 exact bodyPost_ret (v:=.agg #[.bool false,.int .i64 0,.int .i64 0,.string ⟨#[101,98,98]⟩]) (by simp[results,Tryz.results96,go_sem]) rfl ⟨rfl,by repeat (first | exact Below.refl _ _ | refine Below.alloc ?_ (by simp) _ | refine Below.setCell ?_ (by simp) _)⟩
theorem formOf_42(w:World):Calls Tryz.prog 96 #[.int .u8 42] w fun e w'=>e = .returned (.agg #[.bool true,.int .i64 1,.int .i64 1000,.string ⟨#[98]⟩])∧Below w.heap.size w w':=by
 go_enter Tryz.func96,Tryz.ntmps96
 go_wp2_with fail
 exact bodyPost_ret (v:=.agg #[.bool true,.int .i64 1,.int .i64 1000,.string ⟨#[98]⟩]) (by simp[results,Tryz.results96,go_sem]) rfl ⟨rfl,by repeat (first | exact Below.refl _ _ | refine Below.alloc ?_ (by simp) _ | refine Below.setCell ?_ (by simp) _)⟩
theorem formOf_43(w:World):Calls Tryz.prog 96 #[.int .u8 43] w fun e w'=>e = .returned (.agg #[.bool false,.int .i64 1,.int .i64 1000,.string ⟨#[101,98]⟩])∧Below w.heap.size w w':=by
 go_enter Tryz.func96,Tryz.ntmps96
 go_wp2_with fail
 exact bodyPost_ret (v:=.agg #[.bool false,.int .i64 1,.int .i64 1000,.string ⟨#[101,98]⟩]) (by simp[results,Tryz.results96,go_sem]) rfl ⟨rfl,by repeat (first | exact Below.refl _ _ | refine Below.alloc ?_ (by simp) _ | refine Below.setCell ?_ (by simp) _)⟩
theorem formOf_44(w:World):Calls Tryz.prog 96 #[.int .u8 44] w fun e w'=>e = .returned (.agg #[.bool false,.int .i64 0,.int .i64 7,.string ⟨#[112]⟩])∧Below w.heap.size w w':=by
 go_enter Tryz.func96,Tryz.ntmps96
 go_wp2_with fail
 exact bodyPost_ret (v:=.agg #[.bool false,.int .i64 0,.int .i64 7,.string ⟨#[112]⟩]) (by simp[results,Tryz.results96,go_sem]) rfl ⟨rfl,by repeat (first | exact Below.refl _ _ | refine Below.alloc ?_ (by simp) _ | refine Below.setCell ?_ (by simp) _)⟩
theorem formOf_45(w:World):Calls Tryz.prog 96 #[.int .u8 45] w fun e w'=>e = .returned (.agg #[.bool false,.int .i64 0,.int .i64 7,.string ⟨#[101]⟩])∧Below w.heap.size w w':=by
 go_enter Tryz.func96,Tryz.ntmps96
 go_wp2_with fail
 exact bodyPost_ret (v:=.agg #[.bool false,.int .i64 0,.int .i64 7,.string ⟨#[101]⟩]) (by simp[results,Tryz.results96,go_sem]) rfl ⟨rfl,by repeat (first | exact Below.refl _ _ | refine Below.alloc ?_ (by simp) _ | refine Below.setCell ?_ (by simp) _)⟩
theorem formOf_46(w:World):Calls Tryz.prog 96 #[.int .u8 46] w fun e w'=>e = .returned (.agg #[.bool true,.int .i64 0,.int .i64 0,.string ⟨#[98]⟩])∧Below w.heap.size w w':=by
 go_enter Tryz.func96,Tryz.ntmps96
 go_wp2_with fail
 exact bodyPost_ret (v:=.agg #[.bool true,.int .i64 0,.int .i64 0,.string ⟨#[98]⟩]) (by simp[results,Tryz.results96,go_sem]) rfl ⟨rfl,by repeat (first | exact Below.refl _ _ | refine Below.alloc ?_ (by simp) _ | refine Below.setCell ?_ (by simp) _)⟩
theorem formOf_else(k:Int)(_hk:0≤k∧k≤255)(h:¬ (k=1∨k=2∨k=3∨k=4∨k=5∨k=40∨k=41∨k=42∨k=43∨k=44∨k=45∨k=46))(w:World):Calls Tryz.prog 96 #[.int .u8 k] w fun e w'=>e = .returned (.agg #[.bool false,.int .i64 0,.int .i64 0,.string ⟨#[101,101]⟩])∧Below w.heap.size w w':=by
 have b1:(k == 1)=false:=by simp;omega
 have b2:(k == 2)=false:=by simp;omega
 have b3:(k == 3)=false:=by simp;omega
 have b4:(k == 4)=false:=by simp;omega
 have b5:(k == 5)=false:=by simp;omega
 have b40:(k == 40)=false:=by simp;omega
 have b41:(k == 41)=false:=by simp;omega
 have b42:(k == 42)=false:=by simp;omega
 have b43:(k == 43)=false:=by simp;omega
 have b44:(k == 44)=false:=by simp;omega
 have b45:(k == 45)=false:=by simp;omega
 have b46:(k == 46)=false:=by simp;omega
 clear h
 go_enter Tryz.func96,Tryz.ntmps96
 go_wp2_with fail
 exact bodyPost_ret (v:=.agg #[.bool false,.int .i64 0,.int .i64 0,.string ⟨#[101,101]⟩]) (by simp[results,Tryz.results96,go_sem]) rfl ⟨rfl,by repeat (first | exact Below.refl _ _ | refine Below.alloc ?_ (by simp) _ | refine Below.setCell ?_ (by simp) _)⟩
theorem formOf_any(k:Int)(hk:0≤k∧k≤255)(w:World) :
 Calls Tryz.prog 96 #[.int .u8 k] w fun e w'=>e = .returned (.agg #[.bool (Fm.name k),.int .i64 (Fm.lo k),.int .i64 (Fm.hi k),.string ⟨(Fm.kids k).toArray⟩])∧Below w.heap.size w w':=by
 by_cases h:k=1∨k=2∨k=3∨k=4∨k=5∨k=40∨k=41∨k=42∨k=43∨k=44∨k=45∨k=46
 ·rcases h with rfl|rfl|rfl|rfl|rfl|rfl|rfl|rfl|rfl|rfl|rfl|rfl
  ·exact formOf_1 w
  ·exact formOf_2 w
  ·exact formOf_3 w
  ·exact formOf_4 w
  ·exact formOf_5 w
  ·exact formOf_40 w
  ·exact formOf_41 w
  ·exact formOf_42 w
  ·exact formOf_43 w
  ·exact formOf_44 w
  ·exact formOf_45 w
  ·exact formOf_46 w
 ·have e:=Fm.row_else k h
  unfold Fm.name Fm.lo Fm.hi Fm.kids
  rw[e]
  exact formOf_else k hk h w
theorem belongs_any(k c:Int)(hk:0≤k∧k≤255)(hc:Fm.cat c)(w:World) :
 Calls Tryz.prog 92 #[.int .u8 k,.int .u8 c] w fun e w'=>e = .returned (.bool (Fm.belongs k c))∧w=w':=by
 have key:∀ b:Bool,Fm.belongs k c=b→Calls Tryz.prog 92 #[.int .u8 k,.int .u8 c] w fun e w'=>e = .returned (.bool b)∧w=w':=by
  intro b hb
  have HB:=ξ hb
  clear hb
  rcases hc with rfl|rfl|rfl|rfl
  ·by_cases h1:1≤k
   ·by_cases h2:k≤23
    all_goals
     go_enter Tryz.func92,Tryz.ntmps92
     go_wp2_with fail
     go_ret
     exact⟨ret_bool' (by rw[←HB.out];simp[Fm.belongs];omega),rfl⟩
   ·go_enter Tryz.func92,Tryz.ntmps92
    go_wp2_with fail
    go_ret
    exact⟨ret_bool' (by rw[←HB.out];simp[Fm.belongs];omega),rfl⟩
  ·by_cases h1:k=2
   ·subst h1
    go_enter Tryz.func92,Tryz.ntmps92
    go_wp2_with fail
    go_ret
    exact⟨ret_bool' (by rw[←HB.out];rfl),rfl⟩
   ·have q:(k == 2)=false:=by simpa using h1
    go_enter Tryz.func92,Tryz.ntmps92
    go_wp2_with fail
    go_ret
    exact⟨ret_bool' (by rw[←HB.out];simp[Fm.belongs,h1];rfl),rfl⟩
  ·by_cases h1:40≤k
   ·by_cases h2:k<47
    all_goals
     go_enter Tryz.func92,Tryz.ntmps92
     go_wp2_with fail
     go_ret
     exact⟨ret_bool' (by rw[←HB.out];simp[Fm.belongs];omega),rfl⟩
   ·go_enter Tryz.func92,Tryz.ntmps92
    go_wp2_with fail
    go_ret
    exact⟨ret_bool' (by rw[←HB.out];simp[Fm.belongs];omega),rfl⟩
  ·go_enter Tryz.func92,Tryz.ntmps92
   go_wp2_with fail
   go_ret
   exact⟨ret_bool' (by rw[←HB.out];simp[Fm.belongs];rfl),rfl⟩
 exact key _ rfl
def ValidAt(t:Tree):Prop:=∀ (w:World) (a:Option Addr) (c:Nat) (k:Int),Rep w t a→Fm.cat k→SignsIn w →
 Calls Tryz.prog 71 #[t.val a c,.int .u8 k] w fun e w'=>e = .returned (.bool (t.vld k))∧Below w.heap.size w w'
theorem isStmt_of{t:Tree}(H:ValidAt t)(w:World)(a:Option Addr)(c:Nat)(hr:Rep w t a)(hg:SignsIn w) :
 Calls Tryz.prog 95 #[t.val a c] w fun e w'=>e = .returned (.bool (t.vld 115))∧Below w.heap.size w w':=by
 have hB0:Below w.heap.size w (w.alloc (.cells #[.int .u8 t.kind,.int .i64 t.num,.string t.name,.slice a t.len c] 47)):=(Below.refl _ _).alloc (Nat.le_refl _) _
 have HR:=ξ (hr.below hB0)
 have HG:=ξ (hg.below hB0)
 clear hr hg
 go_enter Tryz.func95,Tryz.ntmps95
 go_wp2_with fail
 refine (H _ a c 115 HR.out (by unfold Fm.cat;omega) HG.out).mono ?_
 rintro e w1 ⟨rfl,hB1⟩
 have hB2:=hB0.trans (hB1.mono (by simp))
 clear hB1
 go_wp2_with fail
 go_ret
 exact⟨rfl,hB2⟩
theorem noStmt_of{t:Tree}(H:ValidAt t)(w:World)(a:Option Addr)(c:Nat)(hr:Rep w t a)(hg:SignsIn w) :
 Calls Tryz.prog 94 #[t.val a c] w fun e w'=>e = .returned (.bool (!t.vld 115))∧Below w.heap.size w w':=by
 have hB0:Below w.heap.size w (w.alloc (.cells #[.int .u8 t.kind,.int .i64 t.num,.string t.name,.slice a t.len c] 47)):=(Below.refl _ _).alloc (Nat.le_refl _) _
 have HR:=ξ (hr.below hB0)
 have HG:=ξ (hg.below hB0)
 clear hr hg
 go_enter Tryz.func94,Tryz.ntmps94
 go_wp2_with fail
 refine (isStmt_of H _ a c HR.out HG.out).mono ?_
 rintro e w1 ⟨rfl,hB1⟩
 have hB2:=hB0.trans (hB1.mono (by simp))
 clear hB1
 go_wp2_with fail
 go_ret
 exact⟨rfl,hB2⟩
def SomeIndex(q:Bool)(w:World)(e:Ending)(w':World):Prop:=∃ r:Int,e = .returned (.int .i64 r)∧(decide (0≤r) = !q)∧Below w.heap.size w w'
set_option maxHeartbeats 1000000 in
theorem indexStmt_of{t:Tree}(H:∀ i,i<t.len→ValidAt (t.kid i))(w:World)(a:Option Addr)(c:Nat)(hr:Rep w t a)(hg:SignsIn w) :
 Calls Tryz.prog 109 #[.slice a t.len c,.func (.func 94) #[] #[]] w (SomeIndex (Tree.allTo (fun i=>(t.kid i).vld 115) t.len) w):=by
 have HH:=ξ H
 clear H
 have hl:=hr.fits.len
 have HK:=ξ hr.kids
 have HG:=ξ hg
 clear hr hg
 go_enter Tryz.func109,Tryz.ntmps109
 go_wp2_with fail
 go_loopw [8] (fun i wr=>∃ j:Nat,j≤t.len∧i = .int .i64 j∧Tree.allTo (fun i=>(t.kid i).vld 115) j=true∧Below w.heap.size w wr) (fun i _=>t.len-(intOf i).toNat)
 case atStart=>exact⟨0,Nat.zero_le _,rfl,rfl,Below.refl _ _⟩
 case round =>
  obtain⟨j,hj,rfl,hall,hB⟩:=hrel
  have HA:=ξ hall
  clear hall
  have hsz:=hB.size
  by_cases hlt:j<t.len
  ·rcases HK.out with h0|⟨b,off,rfl,hc⟩
   ·omega
   obtain⟨ai,ci,hn,hr⟩:=hc j hlt
   obtain⟨f0,f1,f2,f3⟩:=hn.below hB hn.lt
   clear hc hn
   go_wp2_with fail
   refine (noStmt_of (HH.out j hlt) _ ai ci (hr.below hB) (HG.out.below hB)).mono ?_
   rintro e w1 ⟨rfl,hB1⟩
   have hB2:=hB.trans (hB1.mono hsz)
   clear hB1 hr f0 f1 f2 f3
   cases hv:(t.kid j).vld 115 with
   | true =>
    have HN:Hid (Tree.allTo (fun i=>(t.kid i).vld 115) (j+1)=true):=by show _=_;rw[Tree.allTo_succ,HA.out,hv];rfl
    go_wp2_with fail
    go_roundw
    case rel=>exact⟨j+1,by omega,by go_num,HN.out,hB2⟩
    case measure=>simp[intOf];omega
   | false =>
    have HN:Hid (Tree.allTo (fun i=>(t.kid i).vld 115) t.len=false):=Tree.allTo_false hlt hv
    go_wp2_with fail
    go_ret
    exact⟨_,rfl,by rw[HN.out];simp,hB2⟩
  ·obtain rfl:j=t.len:=by omega
   go_wp2_with fail
   go_ret
   exact⟨_,rfl,by rw[HA.out];rfl,hB⟩
theorem containsStmt_of{t:Tree}(H:∀ i,i<t.len→ValidAt (t.kid i))(w:World)(a:Option Addr)(c:Nat)(hr:Rep w t a)(hg:SignsIn w) :
 Calls Tryz.prog 93 #[.slice a t.len c,.func (.func 94) #[] #[]] w fun e w'=>e = .returned (.bool (!Tree.allTo (fun i=>(t.kid i).vld 115) t.len))∧Below w.heap.size w w':=by
 go_enter Tryz.func93,Tryz.ntmps93
 go_wp2_with fail
 refine (indexStmt_of H _ a c hr hg).mono ?_
 rintro e w1 ⟨r,rfl,hq,hB1⟩
 have HQ:=ξ hq
 clear hq H
 go_wp2_with fail
 go_ret
 exact⟨ret_bool' HQ.out,hB1⟩
def nm(s:ByteArray):Bool:=Lx.name s.toList
def arrOk(x:Arr):Bool:=nm x.name && decide (1≤x.len) && decide (x.len≤32)
theorem noArray_any(x:Arr)(w:World)(h1:x.name.size≤9223372036854775807)(hg:SignsIn w) :
 Calls Tryz.prog 47 #[.agg #[.string x.name,.int .i64 x.len]] w fun e w'=>e = .returned (.bool (!arrOk x))∧Below w.heap.size w w':=by
 have hB0:Below w.heap.size w (w.alloc (.cells #[.string x.name,.int .i64 x.len] 73)):=(Below.refl _ _).alloc (Nat.le_refl _) _
 have HG:=ξ (hg.below hB0)
 have HB0:=ξ hB0
 clear hg hB0
 go_enter Tryz.func47,Tryz.ntmps47
 go_wp2_with fail
 refine (name_any x.name _ h1 HG.out).mono ?_
 rintro e w1 ⟨he,hB1⟩
 have HB1:=ξ (HB0.out.trans (hB1.mono (by simp)))
 have f1:w1.cell? ⟨w.heap.size,1,none⟩=some (.int .i64 x.len):=cell_below hB1 (World.cell?_alloc_new w _ _ 1)
 clear hB1
 cases hn:nm x.name with
 | false =>
  obtain rfl:e = .returned (.bool false):=by rw[he];exact congrArg _ (congrArg _ hn)
  have HE:Hid (arrOk x=false):=by show _=_;unfold arrOk;rw[hn];rfl
  clear he hn
  go_wp2_with fail
  go_ret
  exact⟨by rw[HE.out];rfl,HB1.out⟩
 | true =>
  obtain rfl:e = .returned (.bool true):=by rw[he];exact congrArg _ (congrArg _ hn)
  have HE:Hid (arrOk x=(decide (1≤x.len) && decide (x.len≤32))):=by show _=_;unfold arrOk;rw[hn];rfl
  clear he hn
  by_cases h2:x.len<1
  ·have HE2:Hid (arrOk x=false):=by have:=HE.out;show _=_;rw[this,decide_eq_false (by omega)];rfl
   go_wp2_with fail
   go_ret
   exact⟨by rw[HE2.out];rfl,HB1.out⟩
  ·have h2':1≤x.len:=by omega
   have h2d:decide (x.len<1)=false:=by simpa using h2'
   clear h2
   by_cases h3:32<x.len
   ·have h3d:decide (32<x.len)=true:=by simpa using h3
    have HE2:Hid (arrOk x=false):=by have:=HE.out;show _=_;rw[this,decide_eq_false (p:=x.len≤32) (by omega)];simp
    go_wp2_with fail
    go_ret
    exact⟨by rw[HE2.out];rfl,HB1.out⟩
   ·have h3':x.len≤32:=by omega
    have h3d:decide (32<x.len)=false:=by simpa using h3'
    clear h3
    have HE2:Hid (arrOk x=true):=by have:=HE.out;show _=_;rw[this,decide_eq_true (p:=x.len≤32) (by omega),decide_eq_true (by omega)];rfl
    go_wp2_with fail
    go_ret
    exact⟨by rw[HE2.out];rfl,HB1.out⟩
set_option maxHeartbeats 1000000 in
theorem indexArray_any(l:List Arr)(w:World)(a:Option Addr)(c:Nat)(hl:ArrsAt w a l)(hg:SignsIn w) :
 Calls Tryz.prog 68 #[.slice a l.length c,.func (.func 47) #[] #[]] w (SomeIndex (l.all arrOk) w):=by
 have HL:=ξ hl.2
 have hlen:=hl.1
 have HG:=ξ hg
 clear hl hg
 go_enter Tryz.func68,Tryz.ntmps68
 go_wp2_with fail
 go_loopw [8] (fun i wr=>∃ j:Nat,j≤l.length∧i = .int .i64 j∧(l.take j).all arrOk=true∧Below w.heap.size w wr) (fun i _=>l.length-(intOf i).toNat)
 case atStart=>exact⟨0,Nat.zero_le _,rfl,rfl,Below.refl _ _⟩
 case round =>
  obtain⟨j,hj,rfl,hall,hB⟩:=hrel
  have HA:=ξ hall
  clear hall
  have hsz:=hB.size
  by_cases hlt:j<l.length
  ·obtain⟨b,off,rfl,q1,q2,q3,q4⟩:=HL.out j hlt
   obtain⟨x,hx⟩:∃ x,l.getD j Arr.none=x:=⟨_,rfl⟩
   rw[hx] at q1 q2 q3 q4
   have f1:=(hB.cell (p:=⟨b,off+j*2,none⟩) (World.block_lt_of_cell? w _ q1)).trans q1
   have f2:=(hB.cell (p:=⟨b,off+j*2+1,none⟩) (World.block_lt_of_cell? w _ q2)).trans q2
   have HX:=ξ hx
   clear hx q1 q2 q4
   go_wp2_with fail
   refine (noArray_any x _ q3 (HG.out.below hB)).mono ?_
   rintro e w1 ⟨rfl,hB1⟩
   have hB2:=hB.trans (hB1.mono hsz)
   clear hB1 f1 f2
   cases hv:arrOk x with
   | true =>
    have HN:Hid ((l.take (j+1)).all arrOk=true):=by show _=_;rw[all_next arrOk l Arr.none j hlt,HA.out,HX.out,hv];rfl
    go_wp2_with fail
    go_roundw
    case rel=>exact⟨j+1,by omega,by go_num,HN.out,hB2⟩
    case measure=>simp[intOf];omega
   | false =>
    have HN:Hid (l.all arrOk=false):=all_stop arrOk l Arr.none j hlt (by rw[HX.out,hv])
    go_wp2_with fail
    go_ret
    exact⟨_,rfl,by rw[HN.out];simp,hB2⟩
  ·obtain rfl:j=l.length:=by omega
   go_wp2_with fail
   go_ret
   exact⟨_,rfl,by have:=HA.out;rw[List.take_length] at this;rw[this];rfl,hB⟩
theorem containsArray_any(l:List Arr)(w:World)(a:Option Addr)(c:Nat)(hl:ArrsAt w a l)(hg:SignsIn w) :
 Calls Tryz.prog 46 #[.slice a l.length c,.func (.func 47) #[] #[]] w fun e w'=>e = .returned (.bool (!l.all arrOk))∧Below w.heap.size w w':=by
 go_enter Tryz.func46,Tryz.ntmps46
 go_wp2_with fail
 refine (indexArray_any l _ a c hl hg).mono ?_
 rintro e w1 ⟨r,rfl,hq,hB1⟩
 have HQ:=ξ hq
 clear hq
 go_wp2_with fail
 go_ret
 exact⟨ret_bool' HQ.out,hB1⟩
theorem areArrays_any(l:List Arr)(w:World)(a:Option Addr)(c:Nat)(hl:ArrsAt w a l)(hg:SignsIn w) :
 Calls Tryz.prog 31 #[.slice a l.length c] w fun e w'=>e = .returned (.bool (l.all arrOk))∧Below w.heap.size w w':=by
 go_enter Tryz.func31,Tryz.ntmps31
 go_wp2_with fail
 refine (containsArray_any l _ a c hl hg).mono ?_
 rintro e w1 ⟨rfl,hB1⟩
 go_wp2_with fail
 go_ret
 exact⟨by simp,hB1⟩
