/- Part. -/
import Derived.Test.YtkpdngfkdmllkaaGreatDoorMg39
import Derived.Deep.RegionHeld
import Derived.Deep.RegionHeld3
import Derived.Deep.DeepCutAuto
namespace Go.Proofs.YtkpdngfkdmllkaaGreatDoor
set_option linter.unusedVariables false
set_option linter.unusedSimpArgs false
open Go.RowKit
set_option maxRecDepth 100000
set_option maxHeartbeats 4000000
theorem count14_any:∀ (t:Tree) (d:Int) (w:World) (a:Option Addr) (c:Nat),Rep w t a→0≤d∧d≤20 →
 Calls Tryz.prog 45 #[t.val a c,.int .i64 d] w fun e w'=>(∃ n:Int,e = .returned (.int .i64 n)∧0≤n∧n≤1000*(d+1))∧Below w.heap.size w w':=by
 intro t
 induction t using Tree.ind with
 | h t ih =>
  intro d w a c hv hd
  have IH:=ξ ih
  have HD:=ξ hd
  clear ih
  have hl:=hv.fits.len
  have HK:=ξ hv.kids
  have HN:=ξ hv.fits
  clear hv
  obtain⟨W,hW⟩:∃ W:World,w.alloc (.cells #[.int .u8 t.kind,.int .i64 t.num,.string t.name,.slice a t.len c] 47)=W:=⟨_,rfl⟩
  have HBW:Hid (Below w.heap.size w W):=by show Below _ _ _;rw[←hW];exact mem_alloc _ _
  have HBX:Hid (W.heap[w.heap.size]? = some (.cells #[.int .u8 t.kind,.int .i64 t.num,.string t.name,.slice a t.len c] 47)):=by show _=_;rw[←hW];exact mem_new _ _
  have y2:W.cell? ⟨w.heap.size,2,none⟩=some (.string t.name):=mem_cell HBX.out 2
  have y3:W.cell? ⟨w.heap.size,3,none⟩=some (.slice a t.len c):=mem_cell HBX.out 3
  clear hd
  by_cases h0:d=0
  ·subst h0
   go_enter Tryz.func45,Tryz.ntmps45
   go_wp2_with fail
   go_ret
   exact⟨⟨1000,rfl,by omega,by omega⟩,HBW.out⟩
  have hdz:(d == 0)=false:=by simpa using h0
  have hd1:0<d:=by have:=HD.out;omega
  have hd2:d≤20:=HD.out.2
  have HP0:=ξ hd1
  clear h0
  by_cases h1:40<t.name.size
  ·have h1d:decide ((40:Int)<(t.name.size:Int))=true:=by simp;omega
   clear h1
   go_enter Tryz.func45,Tryz.ntmps45
   go_wp2_with fail
   go_ret
   exact⟨⟨1000,rfl,by omega,by omega⟩,HBW.out⟩
  have h1d:decide ((40:Int)<(t.name.size:Int))=false:=by simp;omega
  clear h1
  go_enter Tryz.func45,Tryz.ntmps45
  go_wp2_with fail
  clear hW y2 y3
  go_loopw [5,6] (fun sz i wr=>∃ (j:Nat) (n:Int),j≤t.len∧i = .int .i64 j∧sz = .int .i64 n∧(0≤n∧n≤999+1000*d)∧Below W.heap.size W wr) (fun _ i _=>t.len-(intOf i).toNat)
  case atStart=>exact⟨0,1,Nat.zero_le _,rfl,rfl,by omega,Below.refl _ _⟩
  case round =>
   obtain⟨j,n,hj,rfl,rfl,hn,hB⟩:=hrel
   have HB:=ξ hB
   have HNN:=ξ hn
   have hBx:=mem_keep HBX.out hB
   have y3:wr.cell? ⟨w.heap.size,3,none⟩=some (.slice a t.len c):=mem_cell hBx 3
   clear hB hn hBx
   by_cases hlt:j<t.len
   ·by_cases hn1:n<1000
    ·rcases HK.out with h0|⟨b,off,rfl,hc⟩
     ·omega
     obtain⟨ai,ci,hnc,hr⟩:=hc j hlt
     have HBB:=ξ (mem_then HBW.out HB.out)
     obtain⟨f0,f1,f2,f3⟩:=hnc.below HBB.out hnc.lt
     have HI:=ξ (IH.out j hlt)
     have HR:=ξ (hr.below HBB.out)
     have hn1d:decide (n<1000)=true:=by simp;omega
     have hltd:decide ((j:Int)<(t.len:Int))=true:=by simp;omega
     clear hc hnc hr
     go_wp2_with fail
     refine (HI.out (d-1) _ ai ci HR.out (by omega)).mono ?_
     rintro e w1 ⟨⟨m,rfl,hm⟩,hB1⟩
     have hnm:0≤n+m∧n+m≤999+1000*d:=by have:=HNN.out;omega
     have HNM:=ξ hnm
     have hnm2:n+m≤21000:=by omega
     have hnm3:0≤n+m:=hnm.1
     have HB1:Hid (Below W.heap.size W w1):=mem_then HB.out hB1
     clear hB1 hnm hm f0 f1 f2 f3 y3
     go_wp2_with fail
     go_roundw
     case rel=>exact⟨j+1,n+m,by omega,by go_num,rfl,HNM.out,HB1.out⟩
     case measure=>simp[intOf];omega
    ·have hn1d:decide (n<1000)=false:=by simp;omega
     have hltd:decide ((j:Int)<(t.len:Int))=true:=by simp;omega
     clear hn1
     go_wp2_with fail
     go_ret
     exact⟨⟨n,rfl,HNN.out.1,by have:=HNN.out;omega⟩,mem_then HBW.out HB.out⟩
   ·have hltd:decide ((j:Int)<(t.len:Int))=false:=by simp;omega
    go_wp2_with fail
    go_ret
    exact⟨⟨n,rfl,HNN.out.1,by have:=HNN.out;omega⟩,mem_then HBW.out HB.out⟩
theorem small14_any(t:Tree)(w:World)(a:Option Addr)(c:Nat)(hv:Rep w t a) :
 Calls Tryz.prog 30 #[t.val a c] w fun e w'=>(∃ b,e = .returned (.bool b))∧Below w.heap.size w w':=by
 have hl:=hv.fits.len
 have HV:=ξ hv
 obtain⟨W,hW⟩:∃ W:World,w.alloc (.cells #[.int .u8 t.kind,.int .i64 t.num,.string t.name,.slice a t.len c] 47)=W:=⟨_,rfl⟩
 have HBW:Hid (Below w.heap.size w W):=by show Below _ _ _;rw[←hW];exact mem_alloc _ _
 have HBX:Hid (W.heap[w.heap.size]? = some (.cells #[.int .u8 t.kind,.int .i64 t.num,.string t.name,.slice a t.len c] 47)):=by show _=_;rw[←hW];exact mem_new _ _
 have y0:W.cell? ⟨w.heap.size,0,none⟩=some (.int .u8 t.kind):=mem_cell HBX.out 0
 have y1:W.cell? ⟨w.heap.size,1,none⟩=some (.int .i64 t.num):=mem_cell HBX.out 1
 have y2:W.cell? ⟨w.heap.size,2,none⟩=some (.string t.name):=mem_cell HBX.out 2
 have y3:W.cell? ⟨w.heap.size,3,none⟩=some (.slice a t.len c):=mem_cell HBX.out 3
 clear hv
 go_enter Tryz.func30,Tryz.ntmps30
 go_wp2_with fail
 clear hW y0 y1 y2 y3
 refine (count14_any t 20 W a c (HV.out.below HBW.out) (by decide)).mono ?_
 rintro e w1 ⟨⟨m,rfl,hm⟩,hB1⟩
 have HB:=ξ (mem_then HBW.out hB1)
 clear hm hB1
 go_wp2_with fail
 go_ret
 exact⟨⟨_,rfl⟩,HB.out⟩
theorem smallProg_any(p:Prg)(w:World)(sa ta:Option Addr)(sc tc:Nat)(hp:PrgAt w p sa ta) :
 Calls Tryz.prog 17 #[p.val sa sc ta tc] w fun e w'=>(∃ b,e = .returned (.bool b))∧Below w.heap.size w w':=by
 have hsl:=hp.1.1
 have htl:=hp.2.1
 have HP:=ξ hp
 obtain⟨W,hW⟩:∃ W:World,w.alloc (prgObj p sa sc ta tc)=W:=⟨_,rfl⟩
 have HBW:Hid (Below w.heap.size w W):=by show Below _ _ _;rw[←hW];exact mem_alloc _ _
 have HBX:Hid (W.heap[w.heap.size]? = some (prgObj p sa sc ta tc)):=by show _=_;rw[←hW];exact mem_new _ _
 have y0:W.cell? ⟨w.heap.size,0,none⟩=some (.slice sa p.shared.length sc):=mem_cell HBX.out 0
 have y1:W.cell? ⟨w.heap.size,1,none⟩=some (.slice ta p.tasks.length tc):=mem_cell HBX.out 1
 clear hp
 by_cases h1:10<p.shared.length
 ·have h1d:decide ((10:Int)<(p.shared.length:Int))=true:=by simp;omega
  clear h1
  go_enter Tryz.func17,Tryz.ntmps17
  go_wp2_with fail
  go_ret
  exact⟨⟨_,rfl⟩,HBW.out⟩
 have h1d:decide ((10:Int)<(p.shared.length:Int))=false:=by simp;omega
 by_cases h2:10<p.tasks.length
 ·have h2d:decide ((10:Int)<(p.tasks.length:Int))=true:=by simp;omega
  clear h1 h2
  go_enter Tryz.func17,Tryz.ntmps17
  go_wp2_with fail
  go_ret
  exact⟨⟨_,rfl⟩,HBW.out⟩
 have h2d:decide ((10:Int)<(p.tasks.length:Int))=false:=by simp;omega
 clear h1 h2
 go_enter Tryz.func17,Tryz.ntmps17
 go_wp2_with fail
 clear hW y0 y1 h1d h2d
 go_loopw [3] (fun iv wr=>∃ j:Nat,j≤p.shared.length∧iv = .int .i64 (j:Int)∧Below W.heap.size W wr) (fun iv _=>p.shared.length-(intOf iv).toNat)
 case atStart=>exact⟨0,Nat.zero_le _,rfl,Below.refl _ _⟩
 case round =>
  obtain⟨j,hj,rfl,hB⟩:=hrel
  have HB:=ξ hB
  have hj0:(0:Int)≤(j:Int):=by omega
  have y0:wr.cell? ⟨w.heap.size,0,none⟩=some (.slice sa p.shared.length sc):=mem_cell (mem_keep HBX.out hB) 0
  have y1:wr.cell? ⟨w.heap.size,1,none⟩=some (.slice ta p.tasks.length tc):=mem_cell (mem_keep HBX.out hB) 1
  clear hB
  by_cases hlt:j<p.shared.length
  ·have hlt2:(j:Int)<(p.shared.length:Int):=by omega
   obtain⟨bb,off,hsa,c1,c2,hn,_⟩:=(HP.out.1.below (mem_then HBW.out HB.out)).2 j hlt
   rw[hsa] at y0
   obtain⟨a,ha⟩:∃ a,p.shared.getD j Arr.none=a:=⟨_,rfl⟩
   rw[ha] at c1 c2 hn
   clear ha
   obtain⟨b4,h4⟩:∃ b,decide ((40:Int)<(a.name.size:Int))=b:=⟨_,rfl⟩
   cases b4 with
   | true =>
    go_wp2_with fail
    go_ret
    exact⟨⟨_,rfl⟩,mem_then HBW.out HB.out⟩
   | false =>
    go_wp2_with fail
    go_roundw
    case rel=>exact⟨j+1,by omega,by go_num,HB.out⟩
    case measure=>simp[intOf];omega
  ·obtain rfl:j=p.shared.length:=by omega
   go_wp2_with fail
   clear y0 y1 hj0 hlt
   go_loopw [4] (fun iv wr=>∃ j:Nat,j≤p.tasks.length∧iv = .int .i64 (j:Int)∧Below W.heap.size W wr) (fun iv _=>p.tasks.length-(intOf iv).toNat)
   case atStart=>exact⟨0,Nat.zero_le _,rfl,HB.out⟩
   case round =>
    clear HB
    obtain⟨j,hj,rfl,hB⟩:=hrel
    have HB:=ξ hB
    have hj0:(0:Int)≤(j:Int):=by omega
    have y0:wr.cell? ⟨w.heap.size,0,none⟩=some (.slice sa p.shared.length sc):=mem_cell (mem_keep HBX.out hB) 0
    have y1:wr.cell? ⟨w.heap.size,1,none⟩=some (.slice ta p.tasks.length tc):=mem_cell (mem_keep HBX.out hB) 1
    clear hB
    by_cases hlt:j<p.tasks.length
    ·have hlt2:(j:Int)<(p.tasks.length:Int):=by omega
     obtain⟨bb,off,q,hta,hc,hin⟩:=HP.out.2.2 j hlt
     obtain⟨t,ht⟩:∃ t,p.tasks.getD j Tsk.none=t:=⟨_,rfl⟩
     rw[ht] at hc hin
     obtain⟨⟨g0,g1,g2,g3,g4,g5,g6,g7⟩,hbl⟩:=tsk_cells (mem_then HBW.out HB.out) hc
     have hvl:=hin.vars.1
     have hal:=hin.arrays.1
     have hnl:=hin.name
     obtain⟨D,hD⟩:∃ D:World,wr.alloc (tskObj t q)=D:=⟨_,rfl⟩
     have hBD:Below wr.heap.size wr D:=by rw[←hD];exact mem_alloc _ _
     have HX:Hid (D.heap[wr.heap.size]? = some (tskObj t q)):=by show _=_;rw[←hD];exact mem_new _ _
     have HBD:Hid (Below W.heap.size W D):=mem_then HB.out hBD
     have HIN:=ξ hin
     have x0:=mem_cell HX.out 0
     have x2:=mem_cell HX.out 2
     have x3:=mem_cell HX.out 3
     have x4:=mem_cell HX.out 4
     have x5:=mem_cell HX.out 5
     have x6:=mem_cell HX.out 6
     have x7:=mem_cell HX.out 7
     simp only[List.getElem?_toArray,List.getElem?_cons_zero,List.getElem?_cons_succ] at x0 x2 x3 x4 x5 x6 x7
     rw[hta] at y1
     clear hc hin ht hBD hbl hta
     go_wp2_with fail
     clear g0 g1 g2 g3 g4 g5 g6 g7 hD x0 x2 x3 x4 x5 x6 x7
     refine (small14_any t.body D q.ka q.kc (HIN.out.body.below (mem_then HBW.out HBD.out))).mono ?_
     rintro e w2 ⟨⟨b,rfl⟩,hB2⟩
     have HX2:=ξ (mem_keep HX.out hB2)
     have HB2:Hid (Below W.heap.size W w2):=mem_then HBD.out hB2
     have x0:=mem_cell HX2.out 0
     have x2:=mem_cell HX2.out 2
     have x3:=mem_cell HX2.out 3
     simp only[List.getElem?_toArray,List.getElem?_cons_zero,List.getElem?_cons_succ] at x0 x2 x3
     clear hB2 y0 y1
     cases b with
     | false =>
      go_wp2_with fail
      go_ret
      exact⟨⟨_,rfl⟩,mem_then HBW.out HB2.out⟩
     | true =>
     obtain⟨b1,h1⟩:∃ b,decide ((20:Int)<(t.vars.length:Int))=b:=⟨_,rfl⟩
     cases b1 with
     | true =>
      go_wp2_with fail
      go_ret
      exact⟨⟨_,rfl⟩,mem_then HBW.out HB2.out⟩
     | false =>
     obtain⟨b2,h2⟩:∃ b,decide ((20:Int)<(t.arrays.length:Int))=b:=⟨_,rfl⟩
     cases b2 with
     | true =>
      go_wp2_with fail
      go_ret
      exact⟨⟨_,rfl⟩,mem_then HBW.out HB2.out⟩
     | false =>
     obtain⟨b3,h3⟩:∃ b,decide ((40:Int)<(t.name.size:Int))=b:=⟨_,rfl⟩
     cases b3 with
     | true =>
      go_wp2_with fail
      go_ret
      exact⟨⟨_,rfl⟩,mem_then HBW.out HB2.out⟩
     | false =>
     go_wp2_with fail
     clear x0 x2 x3 h1 h2 h3
     go_loopw [6] (fun iv wr'=>∃ j:Nat,j≤t.vars.length∧iv = .int .i64 (j:Int)∧Below w2.heap.size w2 wr') (fun iv _=>t.vars.length-(intOf iv).toNat)
     case atStart=>exact⟨0,Nat.zero_le _,rfl,Below.refl _ _⟩
     case round =>
      obtain⟨m,hm,rfl,hB3⟩:=hrel
      have HB3:=ξ hB3
      have hm0:(0:Int)≤(m:Int):=by omega
      have HX3:=ξ (mem_keep HX2.out hB3)
      have x2:=mem_cell HX3.out 2
      have x3:=mem_cell HX3.out 3
      simp only[List.getElem?_toArray,List.getElem?_cons_zero,List.getElem?_cons_succ] at x2 x3
      clear hB3
      by_cases hmt:m<t.vars.length
      ·have hmt2:(m:Int)<(t.vars.length:Int):=by omega
       obtain⟨vb,vf,hva,hvc,hvs⟩:=(HIN.out.vars.below (mem_then (mem_then HBW.out HB2.out) HB3.out)).2 m hmt
       obtain⟨s,hs⟩:∃ s,t.vars.getD m ⟨#[]⟩=s:=⟨_,rfl⟩
       rw[hs] at hvc hvs
       rw[hva] at x2
       clear hs
       obtain⟨b4,h4⟩:∃ b,decide ((40:Int)<(s.size:Int))=b:=⟨_,rfl⟩
       cases b4 with
       | true =>
        go_wp2_with fail
        go_ret
        exact⟨⟨_,rfl⟩,mem_then HBW.out (mem_then HB2.out HB3.out)⟩
       | false =>
        go_wp2_with fail
        go_roundw
        case rel=>exact⟨m+1,by omega,by go_num,HB3.out⟩
        case measure=>simp[intOf];omega
      ·obtain rfl:m=t.vars.length:=by omega
       go_wp2_with fail
       clear x2 x3 hm0 hmt
       go_loopw [7] (fun iv wr'=>∃ j:Nat,j≤t.arrays.length∧iv = .int .i64 (j:Int)∧Below w2.heap.size w2 wr') (fun iv _=>t.arrays.length-(intOf iv).toNat)
       case atStart=>exact⟨0,Nat.zero_le _,rfl,HB3.out⟩
       case round =>
        clear HB3 HX3
        obtain⟨m,hm,rfl,hB3⟩:=hrel
        have HB3:=ξ hB3
        have hm0:(0:Int)≤(m:Int):=by omega
        have HX3:=ξ (mem_keep HX2.out hB3)
        have x3:=mem_cell HX3.out 3
        simp only[List.getElem?_toArray,List.getElem?_cons_zero,List.getElem?_cons_succ] at x3
        clear hB3
        by_cases hmt:m<t.arrays.length
        ·have hmt2:(m:Int)<(t.arrays.length:Int):=by omega
         obtain⟨vb,vf,hva,hvc,hvd,hvs,_⟩:=(HIN.out.arrays.below (mem_then (mem_then HBW.out HB2.out) HB3.out)).2 m hmt
         obtain⟨s,hs⟩:∃ s,t.arrays.getD m Arr.none=s:=⟨_,rfl⟩
         rw[hs] at hvc hvd hvs
         rw[hva] at x3
         clear hs
         obtain⟨b4,h4⟩:∃ b,decide ((40:Int)<(s.name.size:Int))=b:=⟨_,rfl⟩
         cases b4 with
         | true =>
          go_wp2_with fail
          go_ret
          exact⟨⟨_,rfl⟩,mem_then HBW.out (mem_then HB2.out HB3.out)⟩
         | false =>
          go_wp2_with fail
          go_roundw
          case rel=>exact⟨m+1,by omega,by go_num,HB3.out⟩
          case measure=>simp[intOf];omega
        ·obtain rfl:m=t.arrays.length:=by omega
         go_wp2_with fail
         go_roundw
         case rel=>exact⟨j+1,by omega,by go_num,mem_then HB2.out HB3.out⟩
         case measure=>simp[intOf];omega
    ·obtain rfl:j=p.tasks.length:=by omega
     go_wp2_with fail
     go_ret
     exact⟨⟨_,rfl⟩,mem_then HBW.out HB.out⟩
open Go.RowKit Go.Maps
set_option maxHeartbeats 8000000
def TransRet(p:Prg)(k:Int)(w:World)(e:Ending)(w':World):Prop:=∃ F b aa ac ba bc,e = .returned (.tuple #[fnVal F.name F.regs aa F.arrays.length ac ba F.blocks.length bc,.bool b])∧FnNew w.heap.size w' F aa ba∧Below w.heap.size w w' ∧
 (b=true→okP p=true∧(0≤k∧k<p.tasks.length)∧F=lowFn p.shared (p.tasks.getD k.toNat Tsk.none))
theorem TransRet.no{p:Prg}{k:Int}{w w':World}(h:Below w.heap.size w w'):TransRet p k w (.returned (.tuple #[fnVal ⟨#[]⟩ 0 none 0 0 none 0 0,.bool false])) w':=
 ⟨Fn.zero,false,none,0,none,0,rfl,Fn.zero_at _ _,h,fun h=>nomatch h⟩
theorem translated_fn(p:Prg)(k:Int)(w:World)(sa ta:Option Addr)(sc tc:Nat)(hp:PrgAt w p sa ta)(hg:SignsIn w)(hk:isI64 k) :
 Calls Tryz.prog 6 #[p.val sa sc ta tc,.int .i64 k] w (TransRet p k w):=by
 have htl:=hp.2.1
 have HKK:=ξ hk
 have hk1:=hk.1
 have hk2:=hk.2
 obtain⟨A0,h0⟩:∃ A0:World,w.alloc (prgObj p sa sc ta tc)=A0:=⟨_,rfl⟩
 obtain⟨A1,h1⟩:∃ A1:World,A0.alloc (fnObj ⟨#[]⟩ 0 (.slice none 0 0) (.slice none 0 0))=A1:=⟨_,rfl⟩
 have HB0:Hid (Below w.heap.size w A0):=by show Below _ _ _;rw[←h0];exact mem_alloc _ _
 have HB1:Hid (Below A0.heap.size A0 A1):=by show Below _ _ _;rw[←h1];exact mem_alloc _ _
 have HX0:Hid (A0.heap[w.heap.size]? = some (prgObj p sa sc ta tc)):=by show _=_;rw[←h0];exact mem_new _ _
 have HX1:Hid (A1.heap[A0.heap.size]? = some (fnObj ⟨#[]⟩ 0 (.slice none 0 0) (.slice none 0 0))):=by show _=_;rw[←h1];exact mem_new _ _
 have HBW:=ξ (mem_then HB0.out HB1.out)
 have HZ:Hid (A0.heap.size=w.heap.size+1):=by show _=_;rw[←h0];simp
 have HK:Hid (∀ w',Below A1.heap.size A1 w'→w'.heap[w.heap.size]? = some (prgObj p sa sc ta tc)∧w'.heap[A0.heap.size]? = some (fnObj ⟨#[]⟩ 0 (.slice none 0 0) (.slice none 0 0))∧PrgAt w' p sa ta∧Below w.heap.size w w'∧SignsIn w'):=fun w' h =>
  ⟨mem_keep (mem_keep HX0.out HB1.out) h,mem_keep HX1.out h,hp.below (mem_then HBW.out h),mem_then HBW.out h,hg.below (mem_then HBW.out h)⟩
 have HZF:Hid (∀ w',Below A1.heap.size A1 w'→Below w.heap.size w (put4 w' A0.heap.size (.string ⟨#[]⟩) (.int .i64 0) (.slice none 0 0) (.slice none 0 0))∧(put4 w' A0.heap.size (.string ⟨#[]⟩) (.int .i64 0) (.slice none 0 0) (.slice none 0 0)).heap[A0.heap.size]? = some (fnObj ⟨#[]⟩ 0 (.slice none 0 0) (.slice none 0 0))):=fun w' h =>
  ⟨put4_below (HK.out w' h).2.2.2.1 (by have:=HZ.out;omega),put4_at (HK.out w' h).2.1⟩
 have y0:A1.cell? ⟨w.heap.size,0,none⟩=some (.slice sa p.shared.length sc):=mem_cell (HK.out A1 (Below.refl _ _)).1 0
 have y1:A1.cell? ⟨w.heap.size,1,none⟩=some (.slice ta p.tasks.length tc):=mem_cell (HK.out A1 (Below.refl _ _)).1 1
 clear hp hg hk
 go_enter Tryz.func6,Tryz.ntmps6
 go_wp2_with fail
 clear y0 y1 h0 h1
 refine (smallProg_any p A1 sa ta sc tc (HK.out A1 (Below.refl _ _)).2.2.1).mono ?_
 rintro e w1 ⟨⟨b1,rfl⟩,hB1⟩
 have HB1':=ξ hB1
 have y0:w1.cell? ⟨w.heap.size,0,none⟩=some (.slice sa p.shared.length sc):=mem_cell (HK.out w1 hB1).1 0
 have y1:w1.cell? ⟨w.heap.size,1,none⟩=some (.slice ta p.tasks.length tc):=mem_cell (HK.out w1 hB1).1 1
 clear hB1
 have HOUT:Hid (∀ w',Below A1.heap.size A1 w'→∃ X:World,put4 w' A0.heap.size (.string ⟨#[]⟩) (.int .i64 0) (.slice none 0 0) (.slice none 0 0)=X∧(Below w.heap.size w X∧X.heap[A0.heap.size]? = some (fnObj ⟨#[]⟩ 0 (.slice none 0 0) (.slice none 0 0)))):=fun w' h=>⟨_,rfl,HZF.out w' h⟩
 cases b1 with
 | false =>
  obtain⟨c0,c1,c2,c3,cf⟩:=fn_four (HK.out w1 HB1'.out).2.1
  obtain⟨WE,hWE,hz⟩:=HOUT.out w1 HB1'.out
  have HZ1:=ξ hz
  unfold put4 at hWE
  clear hz
  go_wp2_with fail
  clear c0 c1 c2 c3 cf hWE
  obtain⟨r0,r1,r2,r3,_⟩:=fn_four HZ1.out.2
  exact bodyPost_ret (v:=.tuple #[fnVal ⟨#[]⟩ 0 none 0 0 none 0 0,.bool false]) (by simp[results,Tryz.results6,go_sem,r0,r1,r2,r3]) rfl (TransRet.no HZ1.out.1)
 | true =>
 go_wp2_with fail
 clear y0 y1
 refine (ok15_any p w1 sa ta sc tc (HK.out w1 HB1'.out).2.2.1 (HK.out w1 HB1'.out).2.2.2.2).mono ?_
 rintro e w2 ⟨rfl,hB2⟩
 have HB2:=ξ (mem_then HB1'.out hB2)
 have y0:w2.cell? ⟨w.heap.size,0,none⟩=some (.slice sa p.shared.length sc):=mem_cell (HK.out w2 HB2.out).1 0
 have y1:w2.cell? ⟨w.heap.size,1,none⟩=some (.slice ta p.tasks.length tc):=mem_cell (HK.out w2 HB2.out).1 1
 obtain⟨ok,hok⟩:∃ b,okP p=b:=⟨_,rfl⟩
 have HOK:=ξ hok
 rw[hok]
 clear hB2 hok
 cases ok with
 | false =>
  obtain⟨c0,c1,c2,c3,cf⟩:=fn_four (HK.out w2 HB2.out).2.1
  obtain⟨WE,hWE,hz⟩:=HOUT.out w2 HB2.out
  have HZ1:=ξ hz
  unfold put4 at hWE
  clear hz
  go_wp2_with fail
  clear c0 c1 c2 c3 cf hWE
  obtain⟨r0,r1,r2,r3,_⟩:=fn_four HZ1.out.2
  exact bodyPost_ret (v:=.tuple #[fnVal ⟨#[]⟩ 0 none 0 0 none 0 0,.bool false]) (by simp[results,Tryz.results6,go_sem,r0,r1,r2,r3]) rfl (TransRet.no HZ1.out.1)
 | true =>
 by_cases h0:k<0
 ·have h0d:decide (k<0)=true:=by simpa using h0
  obtain⟨c0,c1,c2,c3,cf⟩:=fn_four (HK.out w2 HB2.out).2.1
  obtain⟨WE,hWE,hz⟩:=HOUT.out w2 HB2.out
  have HZ1:=ξ hz
  unfold put4 at hWE
  clear hz
  go_wp2_with fail
  clear c0 c1 c2 c3 cf hWE
  obtain⟨r0,r1,r2,r3,_⟩:=fn_four HZ1.out.2
  exact bodyPost_ret (v:=.tuple #[fnVal ⟨#[]⟩ 0 none 0 0 none 0 0,.bool false]) (by simp[results,Tryz.results6,go_sem,r0,r1,r2,r3]) rfl (TransRet.no HZ1.out.1)
 have h0d:decide (k<0)=false:=by simpa using h0
 by_cases h1:(p.tasks.length:Int)≤k
 ·have h1d:decide ((p.tasks.length:Int)≤k)=true:=by simpa using h1
  obtain⟨c0,c1,c2,c3,cf⟩:=fn_four (HK.out w2 HB2.out).2.1
  obtain⟨WE,hWE,hz⟩:=HOUT.out w2 HB2.out
  have HZ1:=ξ hz
  unfold put4 at hWE
  clear hz
  go_wp2_with fail
  clear c0 c1 c2 c3 cf hWE
  obtain⟨r0,r1,r2,r3,_⟩:=fn_four HZ1.out.2
  exact bodyPost_ret (v:=.tuple #[fnVal ⟨#[]⟩ 0 none 0 0 none 0 0,.bool false]) (by simp[results,Tryz.results6,go_sem,r0,r1,r2,r3]) rfl (TransRet.no HZ1.out.1)
 have h1d:decide ((p.tasks.length:Int)≤k)=false:=by simpa using h1
 have HKB:Hid (0≤k∧k<p.tasks.length):=⟨by omega,by omega⟩
 have HR:Hid (taskR p k=(lowFn p.shared (p.tasks.getD k.toNat Tsk.none),0)):=by
  show _=_;unfold taskR;rw[if_neg (by rw[HOK.out];simp),if_neg (by omega)]
 clear h0 h1
 have hT:=task_any p k w2 sa ta sc tc (HK.out w2 HB2.out).2.2.1 (HK.out w2 HB2.out).2.2.2.2 HKK.out
 rw[HR.out] at hT
 obtain⟨F,hF⟩:∃ F,lowFn p.shared (p.tasks.getD k.toNat Tsk.none)=F:=⟨_,rfl⟩
 have HF:=ξ hF
 rw[hF] at hT
 have HT:=ξ hT
 clear hT hF
 go_wp2_with fail
 clear y0 y1
 refine HT.out.mono ?_
 rintro e w3 ⟨aa,ac,ba,bc,rfl,hfn,hB3⟩
 have HFN:=ξ hfn
 have HB3:=ξ (mem_then HB2.out hB3)
 clear hfn hB3 HT
 obtain⟨an,hn1⟩:∃ n,F.arrays.length=n:=⟨_,rfl⟩
 obtain⟨bn,hn2⟩:∃ n,F.blocks.length=n:=⟨_,rfl⟩
 have HNN:Hid (F.arrays.length=an∧F.blocks.length=bn):=⟨hn1,hn2⟩
 simp only[hn1,hn2]
 obtain⟨V,hV⟩:∃ X:World,w3.alloc (fnObj F.name F.regs (.slice aa an ac) (.slice ba bn bc))=X:=⟨_,rfl⟩
 have HV0:Hid (Below w3.heap.size w3 V):=by show Below _ _ _;rw[←hV];exact mem_alloc _ _
 have HVX:Hid (V.heap[w3.heap.size]? = some (fnObj F.name F.regs (.slice aa an ac) (.slice ba bn bc))):=by show _=_;rw[←hV];exact mem_new _ _
 have HV:=ξ (mem_then HB3.out HV0.out)
 obtain⟨v0,v1,v2,v3,_⟩:=fn_four HVX.out
 obtain⟨c0,c1,c2,c3,cf⟩:=fn_four (HK.out V HV.out).2.1
 obtain⟨WE,hWE⟩:∃ X:World,put4 V A0.heap.size (.string F.name) (.int .i64 F.regs) (.slice aa an ac) (.slice ba bn bc)=X:=⟨_,rfl⟩
 have HEX:Hid (WE.heap[A0.heap.size]? = some (fnObj F.name F.regs (.slice aa an ac) (.slice ba bn bc))):=by show _=_;rw[←hWE];exact put4_at (HK.out V HV.out).2.1
 have HAE:Hid (FnNew w.heap.size WE F aa ba):=by
  refine (FnNew.move HFN.out (by rw[←hWE];unfold put4;simp;exact HV0.out.size) (fun k h1 h2=>?_)).mono (by have:=HB2.out.size;have:=HBW.out.size;omega)
  rw[←hWE]
  exact (put4_far (by have h3:=mem_lt (HK.out w2 HB2.out).2.1;omega)).trans (HV0.out.block k h2)
 have HBE:Hid (Below w.heap.size w WE):=by show Below _ _ _;rw[←hWE];exact put4_below (HK.out V HV.out).2.2.2.1 (by have:=HZ.out;omega)
 unfold put4 at hWE
 clear hn1 hn2
 go_wp2_with fail
 clear c0 c1 c2 c3 cf hWE hV v0 v1 v2 v3
 obtain⟨r0,r1,r2,r3,_⟩:=fn_four HEX.out
 exact bodyPost_ret (v:=.tuple #[fnVal F.name F.regs aa an ac ba bn bc,.bool true]) (by simp[results,Tryz.results6,go_sem,r0,r1,r2,r3]) rfl ⟨F,true,aa,ac,ba,bc,by rw[HNN.out.1,HNN.out.2],HAE.out,HBE.out,fun _=>⟨HOK.out,HKB.out,HF.out.symm⟩⟩
set_option maxHeartbeats 16000000
abbrev ocObj(va vo vu:Value)(rd st err:Int):Obj:=.cells #[va,vo,vu,.int .i64 rd,.int .i64 st,.int .i64 err] 51
abbrev zOc:Obj:=ocObj (.slice none 0 0) (.slice none 0 0) (.slice none 0 0) 0 0 0
abbrev Oc.obj(R:Oc)(aa:Option Addr)(ac:Nat)(sa:Option Addr)(sc:Nat)(oa:Option Addr)(oc:Nat):Obj:=ocObj (.slice aa R.arrays.length ac) (.slice sa R.objects.length sc) (.slice oa R.out.length oc) R.read R.steps R.err
abbrev Oc.val(R:Oc)(aa:Option Addr)(ac:Nat)(sa:Option Addr)(sc:Nat)(oa:Option Addr)(oc:Nat):Value:=.agg #[.slice aa R.arrays.length ac,.slice sa R.objects.length sc,.slice oa R.out.length oc,.int .i64 (R.read:Int),.int .i64 (R.steps:Int),.int .i64 R.err]
def OcIn(w:World)(R:Oc)(aa sa oa:Option Addr):Prop:=IrContAt w aa R.arrays∧IrContAt w sa R.objects∧OutsAt w oa R.out
def OcTy(w:World)(R:Oc)(aa sa:Option Addr):Prop:=OcRowTy w aa R.arrays.length∧OcRowTy w sa R.objects.length
def RunQ(R:Oc)(w:World)(e:Ending)(w':World):Prop:=∃ aa ac sa sc oa oc,e = .returned (R.val aa ac sa sc oa oc)∧OcIn w' R aa sa oa∧Below w.heap.size w w'∧R.out.length≤oc∧OcTy w' R aa sa
theorem OcIn.below{w w':World}{R:Oc}{aa sa oa:Option Addr}(h:OcIn w R aa sa oa)(hb:Below w.heap.size w w'):OcIn w' R aa sa oa:=⟨h.1.below hb,h.2.1.below hb,h.2.2.below hb⟩
theorem OcRowTy.below{w w':World}{a:Option Addr}{n:Nat}(h:OcRowTy w a n)(hb:Below w.heap.size w w'):OcRowTy w' a n:=h.imp id (fun ⟨b,off,arr,ha,hc⟩=>⟨b,off,arr,ha,mem_keep hc hb⟩)
theorem OcTy.below{w w':World}{R:Oc}{aa sa:Option Addr}(h:OcTy w R aa sa)(hb:Below w.heap.size w w'):OcTy w' R aa sa:=⟨h.1.below hb,h.2.below hb⟩
theorem oc_cells{w:World}{b:Nat}{x0 x1 x2 x3 x4 x5:Value}{T:TypeId}(h:w.heap[b]? = some (.cells #[x0,x1,x2,x3,x4,x5] T)) :
 w.cell? ⟨b,0,none⟩=some x0∧w.cell? ⟨b,1,none⟩=some x1∧w.cell? ⟨b,2,none⟩=some x2∧w.cell? ⟨b,3,none⟩=some x3∧w.cell? ⟨b,4,none⟩=some x4∧w.cell? ⟨b,5,none⟩=some x5:=
 ⟨mem_cell h 0,mem_cell h 1,mem_cell h 2,mem_cell h 3,mem_cell h 4,mem_cell h 5⟩
def put6(w:World)(b:Nat)(x0 x1 x2 x3 x4 x5:Value):World:=
 (((((w.setCell ⟨b,0,none⟩ x0).setCell ⟨b,1,none⟩ x1).setCell ⟨b,2,none⟩ x2).setCell ⟨b,3,none⟩ x3).setCell ⟨b,4,none⟩ x4).setCell ⟨b,5,none⟩ x5
theorem put6_at{w:World}{b:Nat}{y0 y1 y2 y3 y4 y5 x0 x1 x2 x3 x4 x5:Value}{T:TypeId}(h:w.heap[b]? = some (.cells #[y0,y1,y2,y3,y4,y5] T)):(put6 w b x0 x1 x2 x3 x4 x5).heap[b]? = some (.cells #[x0,x1,x2,x3,x4,x5] T):=by
 unfold put6
 rw[mem_set (mem_set (mem_set (mem_set (mem_set (mem_set h)))))]
 rfl
theorem put6_far{w:World}{b k:Nat}{x0 x1 x2 x3 x4 x5:Value}(h:k≠b):(put6 w b x0 x1 x2 x3 x4 x5).heap[k]? = w.heap[k]?:=by
 unfold put6
 rw[Below.heap_setCell _ _ _ _ h,Below.heap_setCell _ _ _ _ h,Below.heap_setCell _ _ _ _ h,Below.heap_setCell _ _ _ _ h,Below.heap_setCell _ _ _ _ h,Below.heap_setCell _ _ _ _ h]
theorem put6_below{B:Nat}{a w:World}{b:Nat}{x0 x1 x2 x3 x4 x5:Value}(h:Below B a w)(hb:B≤b):Below B a (put6 w b x0 x1 x2 x3 x4 x5):=
 (((((h.setCell (p:=⟨b,0,none⟩) hb _).setCell (p:=⟨b,1,none⟩) hb _).setCell (p:=⟨b,2,none⟩) hb _).setCell (p:=⟨b,3,none⟩) hb _).setCell (p:=⟨b,4,none⟩) hb _).setCell (p:=⟨b,5,none⟩) hb _
theorem zOc_word{w:World}{b o:Nat}{x:Int}(h:w.heap[b]? = some zOc):w.cell? ⟨b,o,none⟩≠some (.int .i32 x):=by
 rw[mem_cell h]
 match o with
 | 0=>intro h;cases h
 | 1=>intro h;cases h
 | 2=>intro h;cases h
 | 3=>intro h;cases h
 | 4=>intro h;cases h
 | 5=>intro h;cases h
 | o+6=>intro h;cases h
theorem IrWordsAt.stored{U E:World}{b:Nat}{a:Option Addr}{l:List Int}(hz:U.heap[b]? = some zOc)(h:∀ k,k≠b→E.heap[k]? = U.heap[k]?)(hw:IrWordsAt U a l):IrWordsAt E a l:=by
 refine⟨hw.fits,hw.words,?_⟩
 rcases hw.at_ with h0|⟨b',off,ha,hk⟩
 ·exact .inl h0
 ·refine .inr ⟨b',off,ha,fun k x hx=>?_⟩
  have h1:=hk k x hx
  by_cases e:b'=b
  ·subst e;exact absurd h1 (zOc_word hz)
  ·exact (World.cell?_of_block (a:=⟨b',off+k,none⟩) (h b' e)).trans h1
theorem OutsAt.stored{U E:World}{b:Nat}{a:Option Addr}{l:List (Int×Int)}(hz:U.heap[b]? = some zOc)(h:∀ k,k≠b→E.heap[k]? = U.heap[k]?)(hw:OutsAt U a l):OutsAt E a l:=by
 refine⟨hw.fits,?_⟩
 rcases hw.at_ with h0|⟨b',off,ha,hk⟩
 ·exact .inl h0
 ·refine .inr ⟨b',off,ha,fun k x hx=>?_⟩
  obtain⟨h1,h2⟩:=hk k x hx
  by_cases e:b'=b
  ·subst e;exact absurd h2 (zOc_word hz)
  ·exact⟨(World.cell?_of_block (a:=⟨b',off+k*2,none⟩) (h b' e)).trans h1,(World.cell?_of_block (a:=⟨b',off+k*2+1,none⟩) (h b' e)).trans h2⟩
theorem IrContAt.stored{U E:World}{b:Nat}{a:Option Addr}{l:List (List Int)}(hz:U.heap[b]? = some zOc)(h:∀ k,k≠b→E.heap[k]? = U.heap[k]?)(hw:IrContAt U a l)(ht:OcRowTy U a l.length):IrContAt E a l∧OcRowTy E a l.length:=by
 rcases ht with h0|⟨b',off,arr,ha,hc⟩
 ·exact⟨⟨hw.fits,.inl h0⟩,.inl h0⟩
 ·have hne:b'≠b:=by
   rintro rfl
   rw[hz] at hc
   injection hc with hc
   injection hc with _ hc
   exact absurd hc (by decide)
  refine⟨⟨hw.fits,?_⟩,.inr ⟨b',off,arr,ha,(h b' hne).trans hc⟩⟩
  rcases hw.at_ with h0|⟨b2,off2,ha2,hk⟩
  ·exact .inl h0
  ·rw[ha] at ha2
   cases ha2
   refine .inr ⟨b',off,ha,fun k r hr=>?_⟩
   obtain⟨ra,rc,h1,h2,h3⟩:=hk k r hr
   exact⟨ra,rc,(World.cell?_of_block (a:=⟨b',off+k,none⟩) (h b' hne)).trans h1,h2,h3.stored hz h⟩
theorem OcIn.stored{U E:World}{b:Nat}{R:Oc}{aa sa oa:Option Addr}(hz:U.heap[b]? = some zOc)(h:∀ k,k≠b→E.heap[k]? = U.heap[k]?)(hr:OcIn U R aa sa oa)(ht:OcTy U R aa sa):OcIn E R aa sa oa∧OcTy E R aa sa:=by
 obtain⟨a1,a2⟩:=hr.1.stored hz h ht.1
 obtain⟨b1,b2⟩:=hr.2.1.stored hz h ht.2
 exact⟨⟨a1,b1,hr.2.2.stored hz h⟩,a2,b2⟩
theorem runQ_any(f:Fn)(shared:List (ByteArray×Int))(arrays objects:List (List Int))(inp:List Int)(fuel:Int)(aa ba sa ara oba ia:Option Addr)(ac bc sc arc obc ic:Nat)(w:World)(hf:FnAt w f aa ba)(hs:IrArrsAt w sa shared)(hsl:shared.length≤1000000)
 (ha:IrContAt w ara arrays) (ho:IrContAt w oba objects) (hal:∀ r∈arrays,r.length≤1000000) (hol:∀ r∈objects,r.length≤1000000) (hin:IrWordsAt w ia inp) (hfu:fuel≤4000000000) :
 Calls Tryz.prog 10 #[fnVal f.name f.regs aa f.arrays.length ac ba f.blocks.length bc,.slice sa shared.length sc,.slice ara arrays.length arc,.slice oba objects.length obc,.slice ia inp.length ic,.int .i64 fuel] w (RunQ (runOf f shared arrays objects inp fuel) w):=by
 refine (run_wide f shared arrays objects inp fuel aa ba sa ara oba ia ac bc sc arc obc ic w hf hs (by omega) ha ho (fun r hr=>by have:=hal r hr;omega) (fun r hr=>by have:=hol r hr;omega) hin hfu).mono ?_
 rintro e w' ⟨v,rfl,⟨va,vo,vu,vac,voc,vuc,rfl,⟨h1,h2,h3,h4,_⟩,h5,h6⟩,hB⟩
 exact⟨va,vac,vo,voc,vu,vuc,rfl,⟨h1,h2,h3⟩,hB,h4,h5,h6⟩
