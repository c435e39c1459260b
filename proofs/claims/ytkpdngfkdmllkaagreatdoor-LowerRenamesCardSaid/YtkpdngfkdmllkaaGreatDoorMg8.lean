/- Part. -/
import Derived.Test.YtkpdngfkdmllkaaGreatDoorMg6
import Derived.Test.YtkpdngfkdmllkaaGreatDoorMg7
namespace Go.Proofs.YtkpdngfkdmllkaaGreatDoor
set_option linter.unusedVariables false
set_option linter.unusedSimpArgs false
open Go.RowKit
set_option maxRecDepth 100000
abbrev Tree.cells(t:Tree)(a:Option Addr)(c:Nat):Array Value:=#[.int .u8 t.kind,.int .i64 t.num,.string t.name,.slice a t.len c]
set_option maxHeartbeats 1000000 in
theorem isValid_no(t:Tree)(w:World)(a:Option Addr)(c:Nat)(k:Int)(hr:Rep w t a)(hk:Fm.cat k)(hb:Fm.belongs t.kind k=false) :
 Calls Tryz.prog 71 #[t.val a c,.int .u8 k] w fun e w'=>e = .returned (.bool (t.vld k))∧Below w.heap.size w w':=by
 have hf:=hr.fits.kind
 have HV:Hid (t.vld k=false):=by show _=_;rw[t.vld_eq,hb];rfl
 clear hr
 go_enter Tryz.func71,Tryz.ntmps71
 go_wp2_with (go_at_call 92;refine (belongs_any _ _ hf hk _).mono ?_;rintro e w1 ⟨rfl,rfl⟩)
 go_ret
 exact⟨ret_bool' HV.out.symm,(Below.refl _ _).alloc (Nat.le_refl _) _⟩
set_option maxHeartbeats 1000000 in
theorem isValid_block{t:Tree}(H:∀ i,i<t.len→ValidAt (t.kid i))(w:World)(a:Option Addr)(c:Nat)(k:Int)(hr:Rep w t a)(hk:Fm.cat k)(hg:SignsIn w)(hb:Fm.belongs t.kind k=true)(h47:t.kind=47) :
 Calls Tryz.prog 71 #[t.val a c,.int .u8 k] w fun e w'=>e = .returned (.bool (t.vld k))∧Below w.heap.size w w':=by
 have hf:=hr.fits.kind
 have q47:(t.kind == 47)=true:=by simpa using h47
 have HV:Hid (t.vld k=((t.num == 0) && t.name.toList.isEmpty && Tree.allTo (fun i=>(t.kid i).vld 115) t.len)):=by show _=_;rw[t.vld_eq,hb,if_pos h47];rfl
 clear h47
 have hB0:Below w.heap.size w (w.alloc (.cells (t.cells a c) 47)):=(Below.refl _ _).alloc (Nat.le_refl _) _
 have HR:=ξ (hr.below hB0)
 have HG:=ξ (hg.below hB0)
 have HH:=ξ H
 clear hr hg H
 cases hn:(t.num == 0) with
 | false =>
  go_enter Tryz.func71,Tryz.ntmps71
  go_wp2_with (go_at_call 92;refine (belongs_any _ _ hf hk _).mono ?_;rintro e w1 ⟨rfl,rfl⟩)
  go_ret
  exact⟨ret_bool' (by rw[HV.out,hn];rfl),hB0⟩
 | true =>
  cases hs:t.name.toList.isEmpty with
  | false =>
   have hs2:¬ t.name.toList = []:=by intro h;rw[h] at hs;cases hs
   have hs3:(t.name.toList == [])=false:=by simpa using hs2
   go_enter Tryz.func71,Tryz.ntmps71
   go_wp2_with (go_at_call 92;refine (belongs_any _ _ hf hk _).mono ?_;rintro e w1 ⟨rfl,rfl⟩)
   go_ret
   exact⟨ret_bool' (by rw[HV.out,hn,hs];rfl),hB0⟩
  | true =>
   have hs2:t.name.toList = []:=List.isEmpty_iff.1 hs
   have hs3:(t.name.toList == [])=true:=by simpa using hs2
   have HV2:Hid (t.vld k=Tree.allTo (fun i=>(t.kid i).vld 115) t.len):=by show _=_;rw[HV.out,hn,hs];rfl
   clear hs2
   go_enter Tryz.func71,Tryz.ntmps71
   go_wp2_with (go_at_call 92;refine (belongs_any _ _ hf hk _).mono ?_;rintro e w1 ⟨rfl,rfl⟩)
   refine (containsStmt_of HH.out _ a c HR.out HG.out).mono ?_
   rintro e w1 ⟨rfl,hB1⟩
   have hB2:=hB0.trans (hB1.mono (by simp))
   clear hB1
   go_wp2_with fail
   go_ret
   exact⟨ret_bool' (by rw[HV2.out]),hB2⟩
set_option maxHeartbeats 2000000 in
theorem isValid_form{t:Tree}(H:∀ i,i<t.len→ValidAt (t.kid i))(w:World)(a:Option Addr)(c:Nat)(k:Int)(hr:Rep w t a)(hk:Fm.cat k)(hg:SignsIn w)(hb:Fm.belongs t.kind k=true)(h47:¬ t.kind=47) :
 Calls Tryz.prog 71 #[t.val a c,.int .u8 k] w fun e w'=>e = .returned (.bool (t.vld k))∧Below w.heap.size w w':=by
 have hf:=hr.fits.kind
 have hnum:=hr.fits.num
 have hln:=hr.fits.len
 have hnm:=hr.fits.name
 have q47:(t.kind == 47)=false:=by simpa using h47
 have HV:Hid (t.vld k=(decide (Fm.lo t.kind≤t.num) && decide (t.num≤Fm.hi t.kind) && decide (t.len=(Fm.kids t.kind).length) && (if Fm.name t.kind then Lx.name t.name.toList else t.name.toList.isEmpty) && Tree.allTo (fun i=>(t.kid i).vld (((Fm.kids t.kind).getD i 0).toNat)) t.len)):=by
  show _=_;rw[t.vld_eq,hb,if_neg h47];rfl
 clear h47
 have hB0:Below w.heap.size w (w.alloc (.cells (t.cells a c) 47)):=(Below.refl _ _).alloc (Nat.le_refl _) _
 have HK:=ξ hr.kids
 have HG:=ξ hg
 have HH:=ξ H
 have hfb:=Fm.bd t.kind
 have HC:=ξ (Fm.kids_cat t.kind)
 clear hr hg H
 obtain⟨fn,hfn⟩:∃ fn,Fm.name t.kind=fn:=⟨_,rfl⟩
 obtain⟨lo,hlo⟩:∃ lo,Fm.lo t.kind=lo:=⟨_,rfl⟩
 obtain⟨hi,hhi⟩:∃ hi,Fm.hi t.kind=hi:=⟨_,rfl⟩
 obtain⟨kd,hkd⟩:∃ kd,Fm.kids t.kind=kd:=⟨_,rfl⟩
 have HF:Hid (∀ w,Calls Tryz.prog 96 #[.int .u8 t.kind] w fun e w'=>e = .returned (.agg #[.bool fn,.int .i64 lo,.int .i64 hi,.string ⟨kd.toArray⟩])∧Below w.heap.size w w'):=by
  intro w
  have:=formOf_any t.kind hf w
  rw[hfn,hlo,hhi,hkd] at this
  exact this
 rw[hfn,hlo,hhi,hkd] at HV
 rw[hlo,hhi,hkd] at hfb
 rw[hkd] at HC
 clear hfn hlo hhi hkd
 go_enter Tryz.func71,Tryz.ntmps71
 go_wp2_with (go_at_call 92;refine (belongs_any _ _ hf hk _).mono ?_;rintro e w1 ⟨rfl,rfl⟩)
 refine (HF.out _).mono ?_
 rintro e w1 ⟨rfl,hB1⟩
 have bx0:=box_cell (hB1.mono (by simp)) 0
 have bx1:=box_cell (hB1.mono (by simp)) 1
 have bx2:=box_cell (hB1.mono (by simp)) 2
 have bx3:=box_cell (hB1.mono (by simp)) 3
 have hsz:=box_size (hB1.mono (by simp))
 simp only[List.getElem?_toArray,List.getElem?_cons_zero,List.getElem?_cons_succ] at bx0 bx1 bx2 bx3
 have hlt1:w.heap.size<w1.heap.size:=by omega
 have hsi:=Nat.lt_succ_self w1.heap.size
 have hB2:Below w.heap.size w (w1.alloc (.cells #[.bool fn,.int .i64 lo,.int .i64 hi,.string ⟨kd.toArray⟩] 161)):=(ofBox (hB1.mono (by simp))).alloc (by omega) _
 have HB1:=ξ hB1
 clear hB1
 by_cases h1:t.num<lo
 ·have d1:decide (t.num<lo)=true:=by simpa using h1
  go_wp2_with fail
  go_ret
  exact⟨ret_bool' (by rw[HV.out];simp[show ¬ lo≤t.num by omega]),hB2⟩
 have d1:decide (t.num<lo)=false:=by simp;omega
 by_cases h2:hi<t.num
 ·have d2:decide (hi<t.num)=true:=by simpa using h2
  go_wp2_with fail
  go_ret
  exact⟨ret_bool' (by rw[HV.out];simp[show ¬ t.num≤hi by omega]),hB2⟩
 have d2:decide (hi<t.num)=false:=by simp;omega
 by_cases h3:t.len=kd.length
 case neg =>
  have d3:((t.len:Int) != (kd.length:Int))=true:=by simp;omega
  have d4:(t.len != kd.length)=true:=by simpa using h3
  go_wp2_with fail
  go_ret
  exact⟨ret_bool' (by rw[HV.out];simp[h3]),hB2⟩
 have d3:((t.len:Int) != (kd.length:Int))=false:=by simp;omega
 have d4:(t.len != kd.length)=false:=by simpa using h3
 have HV3:Hid (t.vld k=((if fn then Lx.name t.name.toList else t.name.toList.isEmpty) && Tree.allTo (fun i=>(t.kid i).vld ((kd.getD i 0).toNat)) t.len)):=by
  show _=_;rw[HV.out];simp[show lo≤t.num by omega,show t.num≤hi by omega,h3]
 have H3:=ξ h3
 clear h3 h1 h2
 have HG2:=ξ (HG.out.below hB2)
 cases fn with
 | true =>
  go_wp2_with fail
  refine (name_any t.name _ hnm HG2.out).mono ?_
  rintro e w2 ⟨rfl,hBn⟩
  have HBW:Hid (Below w.heap.size w w2):=hB2.trans (hBn.mono (by simp;omega))
  have hsW:w1.heap.size+1≤w2.heap.size:=by have:=hBn.size;simpa using this
  have fmW:w2.cell? ⟨w1.heap.size,3,none⟩=some (.string ⟨kd.toArray⟩):=(hBn.cell (p:=⟨w1.heap.size,3,none⟩) (by simp)).trans (by simp)
  have fm0:w2.cell? ⟨w1.heap.size,0,none⟩=some (.bool true):=(hBn.cell (p:=⟨w1.heap.size,0,none⟩) (by simp)).trans (by simp)
  have by3:w2.cell? ⟨w.heap.size,3,none⟩=some (.slice a t.len c):=(hBn.cell (p:=⟨w.heap.size,3,none⟩) (by simp;omega)).trans ((World.cell?_alloc_lt _ _ _ hlt1).trans bx3)
  clear hBn bx0 bx1 bx2 bx3
  cases hv:Lx.name t.name.toList with
  | false =>
   go_wp2_with fail
   go_ret
   exact⟨ret_bool' (by rw[HV3.out,hv];rfl),HBW.out⟩
  | true =>
   have HV4:Hid (t.vld k=Tree.allTo (fun i=>(t.kid i).vld ((kd.getD i 0).toNat)) t.len):=by show _=_;rw[HV3.out,hv];rfl
   go_wp2_with fail
   go_loopw [75] (fun i wr=>∃ j:Nat,j≤t.len∧i = .int .i64 j∧Tree.allTo (fun i=>(t.kid i).vld ((kd.getD i 0).toNat)) j=true∧Below (w1.heap.size+1) w2 wr) (fun i _=>t.len-(intOf i).toNat)
   case atStart=>exact⟨0,Nat.zero_le _,rfl,rfl,Below.refl _ _⟩
   case round =>
    obtain⟨j,hj,rfl,hall,hBr⟩:=hrel
    have HA:=ξ hall
    clear hall
    have hBw:Below w.heap.size w wr:=HBW.out.trans (hBr.mono (by omega))
    have hsr:w1.heap.size+1≤wr.heap.size:=Nat.le_trans hsW hBr.size
    by_cases hlt:j<t.len
    ·rcases HK.out with h0|⟨b,off,rfl,hc⟩
     ·omega
     obtain⟨ai,ci,hn,hr⟩:=hc j hlt
     obtain⟨f0,f1,f2,f3⟩:=hn.below hBw hn.lt
     have hfm:wr.cell? ⟨w1.heap.size,3,none⟩=some (.string ⟨kd.toArray⟩):=(hBr.cell (p:=⟨w1.heap.size,3,none⟩) (Nat.lt_succ_self _)).trans fmW
     have hls:w1.heap.size<wr.heap.size:=hsr
     have hjk:j<kd.length:=by have:=H3.out;omega
     have hjk1:(j:Int)<(kd.length:Int):=by omega
     clear hc hn
     go_wp2_with fail
     have hjb:j<(⟨kd.toArray⟩:ByteArray).size:=by show j<kd.toArray.size;simpa using hjk
     have HNX:=ξ (Tree.allTo_succ (fun i=>(t.kid i).vld ((kd.getD i 0).toNat)) j)
     have hBk:Below w.heap.size w (wr.alloc (.cells ((t.kid j).cells ai ci) 47)).drew:=(hBw.alloc (by omega) _).drew
     have HRk:=ξ (hr.below hBk)
     have HGk:=ξ (HG.out.below hBk)
     obtain⟨vj,hvj⟩:∃ vj,(t.kid j).vld ((kd.getD j 0).toNat)=vj:=⟨_,rfl⟩
     have HHj:Hid (∀ (w:World) (a:Option Addr) (c:Nat),Rep w (t.kid j) a→SignsIn w→Calls Tryz.prog 71 #[(t.kid j).val a c,.int .u8 (((⟨kd.toArray⟩:ByteArray)[j]'hjb).toNat)] w fun e w'=>e = .returned (.bool vj)∧Below w.heap.size w w'):=by
      intro w a c h1 h2
      have e:((⟨kd.toArray⟩:ByteArray)[j]'hjb)=kd.getD j 0:=by
       rw[List.getD_eq_getElem?_getD,List.getElem?_eq_getElem hjk];rfl
      rw[e,←hvj]
      exact HH.out j hlt w a c _ h1 (HC.out j hjk) h2
     have HVJ:=ξ hvj
     clear hvj
     cases vj with
     | true =>
      go_region_with (first | (go_at_call 71;refine (HHj.out _ ai ci HRk.out HGk.out).mono ?_;rintro e w3 ⟨rfl,hB3⟩))
      all_goals
       have hB4:Below (w1.heap.size+1) w2 w3:=(hBr.alloc hsr _).drew.trans (hB3.mono (by simp;omega))
       have HN:Hid (Tree.allTo (fun i=>(t.kid i).vld ((kd.getD i 0).toNat)) (j+1)=true):=by show _=_;rw[HNX.out,HA.out,HVJ.out];rfl
       clear hB3 hBr
       go_wp2_with fail
       go_roundw
       case rel=>exact⟨j+1,by omega,by go_num,HN.out,hB4⟩
       case measure=>simp[intOf];omega
     | false =>
      go_region_with (first | (go_at_call 71;refine (HHj.out _ ai ci HRk.out HGk.out).mono ?_;rintro e w3 ⟨rfl,hB3⟩))
      all_goals
       have hB4:Below (w1.heap.size+1) w2 w3:=(hBr.alloc hsr _).drew.trans (hB3.mono (by simp;omega))
       have hB5:Below w.heap.size w w3:=HBW.out.trans (hB4.mono (by omega))
       have HN:Hid (Tree.allTo (fun i=>(t.kid i).vld ((kd.getD i 0).toNat)) t.len=false):=Tree.allTo_false hlt HVJ.out
       clear hB3 hBr
       go_wp2_with fail
       go_ret
       exact⟨ret_bool' (by rw[HV4.out,HN.out]),hB5⟩
    ·obtain rfl:j=t.len:=by omega
     go_wp2_with fail
     go_ret
     exact⟨ret_bool' (by rw[HV4.out,HA.out]),hBw⟩
 | false =>
  have HBW:=ξ hB2
  have hsW:w1.heap.size+1≤(w1.alloc (.cells #[.bool false,.int .i64 lo,.int .i64 hi,.string ⟨kd.toArray⟩] 161)).heap.size:=by simp
  have fmW:(w1.alloc (.cells #[.bool false,.int .i64 lo,.int .i64 hi,.string ⟨kd.toArray⟩] 161)).cell? ⟨w1.heap.size,3,none⟩=some (.string ⟨kd.toArray⟩):=by simp
  cases hv:t.name.toList.isEmpty with
  | false =>
   go_wp2_with fail
   go_ret
   exact⟨ret_bool' (by rw[HV3.out,hv];rfl),hB2⟩
  | true =>
   have HV4:Hid (t.vld k=Tree.allTo (fun i=>(t.kid i).vld ((kd.getD i 0).toNat)) t.len):=by show _=_;rw[HV3.out,hv];rfl
   have hs2:t.name.toList = []:=List.isEmpty_iff.1 hv
   have hs3:(t.name.toList == [])=true:=by simpa using hs2
   clear hs2
   go_wp2_with fail
   go_loopw [75] (fun i wr=>∃ j:Nat,j≤t.len∧i = .int .i64 j∧Tree.allTo (fun i=>(t.kid i).vld ((kd.getD i 0).toNat)) j=true∧Below (w1.heap.size+1) (w1.alloc (.cells #[.bool false,.int .i64 lo,.int .i64 hi,.string ⟨kd.toArray⟩] 161)) wr) (fun i _=>t.len-(intOf i).toNat)
   case atStart=>exact⟨0,Nat.zero_le _,rfl,rfl,Below.refl _ _⟩
   case round =>
    obtain⟨j,hj,rfl,hall,hBr⟩:=hrel
    have HA:=ξ hall
    clear hall
    have hBw:Below w.heap.size w wr:=HBW.out.trans (hBr.mono (by omega))
    have hsr:w1.heap.size+1≤wr.heap.size:=Nat.le_trans hsW hBr.size
    by_cases hlt:j<t.len
    ·rcases HK.out with h0|⟨b,off,rfl,hc⟩
     ·omega
     obtain⟨ai,ci,hn,hr⟩:=hc j hlt
     obtain⟨f0,f1,f2,f3⟩:=hn.below hBw hn.lt
     have hfm:wr.cell? ⟨w1.heap.size,3,none⟩=some (.string ⟨kd.toArray⟩):=(hBr.cell (p:=⟨w1.heap.size,3,none⟩) (Nat.lt_succ_self _)).trans fmW
     have hls:w1.heap.size<wr.heap.size:=hsr
     have hjk:j<kd.length:=by have:=H3.out;omega
     have hjk1:(j:Int)<(kd.length:Int):=by omega
     clear hc hn
     go_wp2_with fail
     have hjb:j<(⟨kd.toArray⟩:ByteArray).size:=by show j<kd.toArray.size;simpa using hjk
     have HNX:=ξ (Tree.allTo_succ (fun i=>(t.kid i).vld ((kd.getD i 0).toNat)) j)
     have hBk:Below w.heap.size w (wr.alloc (.cells ((t.kid j).cells ai ci) 47)).drew:=(hBw.alloc (by omega) _).drew
     have HRk:=ξ (hr.below hBk)
     have HGk:=ξ (HG.out.below hBk)
     obtain⟨vj,hvj⟩:∃ vj,(t.kid j).vld ((kd.getD j 0).toNat)=vj:=⟨_,rfl⟩
     have HHj:Hid (∀ (w:World) (a:Option Addr) (c:Nat),Rep w (t.kid j) a→SignsIn w→Calls Tryz.prog 71 #[(t.kid j).val a c,.int .u8 (((⟨kd.toArray⟩:ByteArray)[j]'hjb).toNat)] w fun e w'=>e = .returned (.bool vj)∧Below w.heap.size w w'):=by
      intro w a c h1 h2
      have e:((⟨kd.toArray⟩:ByteArray)[j]'hjb)=kd.getD j 0:=by
       rw[List.getD_eq_getElem?_getD,List.getElem?_eq_getElem hjk];rfl
      rw[e,←hvj]
      exact HH.out j hlt w a c _ h1 (HC.out j hjk) h2
     have HVJ:=ξ hvj
     clear hvj
     cases vj with
     | true =>
      go_region_with (first | (go_at_call 71;refine (HHj.out _ ai ci HRk.out HGk.out).mono ?_;rintro e w3 ⟨rfl,hB3⟩))
      all_goals
       have hB4:Below (w1.heap.size+1) (w1.alloc (.cells #[.bool false,.int .i64 lo,.int .i64 hi,.string ⟨kd.toArray⟩] 161)) w3:=(hBr.alloc hsr _).drew.trans (hB3.mono (by simp;omega))
       have HN:Hid (Tree.allTo (fun i=>(t.kid i).vld ((kd.getD i 0).toNat)) (j+1)=true):=by show _=_;rw[HNX.out,HA.out,HVJ.out];rfl
       clear hB3 hBr
       go_wp2_with fail
       go_roundw
       case rel=>exact⟨j+1,by omega,by go_num,HN.out,hB4⟩
       case measure=>simp[intOf];omega
     | false =>
      go_region_with (first | (go_at_call 71;refine (HHj.out _ ai ci HRk.out HGk.out).mono ?_;rintro e w3 ⟨rfl,hB3⟩))
      all_goals
       have hB4:Below (w1.heap.size+1) (w1.alloc (.cells #[.bool false,.int .i64 lo,.int .i64 hi,.string ⟨kd.toArray⟩] 161)) w3:=(hBr.alloc hsr _).drew.trans (hB3.mono (by simp;omega))
       have hB5:Below w.heap.size w w3:=HBW.out.trans (hB4.mono (by omega))
       have HN:Hid (Tree.allTo (fun i=>(t.kid i).vld ((kd.getD i 0).toNat)) t.len=false):=Tree.allTo_false hlt HVJ.out
       clear hB3 hBr
       go_wp2_with fail
       go_ret
       exact⟨ret_bool' (by rw[HV4.out,HN.out]),hB5⟩
    ·obtain rfl:j=t.len:=by omega
     go_wp2_with fail
     go_ret
     exact⟨ret_bool' (by rw[HV4.out,HA.out]),hBw⟩
theorem isValid_any:∀ t:Tree,ValidAt t:=by
 intro t
 induction t using Tree.ind with
 | h t ih =>
  intro w a c k hr hk hg
  cases hb:Fm.belongs t.kind k with
  | false=>exact isValid_no t w a c k hr hk hb
  | true =>
   by_cases h47:t.kind=47
   ·exact isValid_block ih w a c k hr hk hg hb h47
   ·exact isValid_form ih w a c k hr hk hg hb h47
theorem isBlock_any(t:Tree)(w:World)(a:Option Addr)(c:Nat)(hr:Rep w t a)(hg:SignsIn w) :
 Calls Tryz.prog 51 #[t.val a c] w fun e w'=>e = .returned (.bool (t.vld 98))∧Below w.heap.size w w':=by
 have hB0:Below w.heap.size w (w.alloc (.cells #[.int .u8 t.kind,.int .i64 t.num,.string t.name,.slice a t.len c] 47)):=(Below.refl _ _).alloc (Nat.le_refl _) _
 have HR:=ξ (hr.below hB0)
 have HG:=ξ (hg.below hB0)
 clear hr hg
 go_enter Tryz.func51,Tryz.ntmps51
 go_wp2_with fail
 refine (isValid_any t _ a c 98 HR.out (by unfold Fm.cat;omega) HG.out).mono ?_
 rintro e w1 ⟨rfl,hB1⟩
 have hB2:=hB0.trans (hB1.mono (by simp))
 clear hB1
 go_wp2_with fail
 go_ret
 exact⟨rfl,hB2⟩
def tskOk(t:Tsk):Bool:=nm t.name && (decide (1≤t.period) && (decide (t.period≤1000) && (decide (t.vars.length≤12) && (decide (t.arrays.length≤4) && (t.arrays.all arrOk && (t.vars.all nm && (decide (t.body.depth≤16∧t.body.size≤400) && (decide (t.body.nest≤4) && t.body.vld 98))))))))
theorem Rep.toIn{w:World}:∀ {t:Tree} {a:Option Addr},Rep w t a→RepIn (fun k=>k<w.heap.size) w t a:=by
 intro t
 induction t using Tree.ind with
 | h t ih =>
  intro a h
  refine RepIn.mk h.fits ?_
  rcases h.kids with h0|⟨b,off,ha,hk⟩
  ·exact .inl h0
  ·by_cases hl:0<t.len
   ·have hlt:b<w.heap.size:=by obtain⟨ai,ci,hn,_⟩:=hk 0 hl;exact hn.lt
    exact .inr ⟨b,off,ha,hlt,fun i hi=>by obtain⟨ai,ci,hn,hr⟩:=hk i hi;exact⟨ai,ci,hn,ih i hi hr⟩⟩
   ·exact .inl (by omega)
abbrev tskObj(t:Tsk)(p:TskPlace):Obj:=.cells #[.string t.name,.int .i64 t.period,.slice p.va t.vars.length p.vc,.slice p.aa t.arrays.length p.ac,.int .u8 t.body.kind,.int .i64 t.body.num,.string t.body.name,.slice p.ka t.body.len p.kc] 49
theorem box8{w wr:World}{x0 x1 x2 x3 x4 x5 x6 x7:Value}{T:TypeId}(h:Below (w.heap.size+1) (w.alloc (.cells #[x0,x1,x2,x3,x4,x5,x6,x7] T)) wr) :
 wr.cell? ⟨w.heap.size,0,none⟩=some x0∧wr.cell? ⟨w.heap.size,1,none⟩=some x1∧wr.cell? ⟨w.heap.size,2,none⟩=some x2∧wr.cell? ⟨w.heap.size,3,none⟩=some x3 ∧
 wr.cell? ⟨w.heap.size,4,none⟩=some x4∧wr.cell? ⟨w.heap.size,5,none⟩=some x5∧wr.cell? ⟨w.heap.size,6,none⟩=some x6∧wr.cell? ⟨w.heap.size,7,none⟩=some x7:=
 ⟨box_cell h 0,box_cell h 1,box_cell h 2,box_cell h 3,box_cell h 4,box_cell h 5,box_cell h 6,box_cell h 7⟩
set_option maxHeartbeats 4000000 in
theorem isTask_any(t:Tsk)(p:TskPlace)(w:World)(ht:TskIn w t p)(hg:SignsIn w) :
 Calls Tryz.prog 32 #[.agg #[.string t.name,.int .i64 t.period,.slice p.va t.vars.length p.vc,.slice p.aa t.arrays.length p.ac,.int .u8 t.body.kind,.int .i64 t.body.num,.string t.body.name,.slice p.ka t.body.len p.kc]] w
  fun e w'=>e = .returned (.bool (tskOk t))∧Below w.heap.size w w':=by
 have HT:=ξ ht
 have HG:=ξ hg
 have HB0:Hid (Below (w.heap.size+1) (w.alloc (tskObj t p)) (w.alloc (tskObj t p))):=Below.refl _ _
 have HNM:=ξ ht.name
 have hvl:=ht.vars.1
 have hal:=ht.arrays.1
 clear ht hg
 go_enter Tryz.func32,Tryz.ntmps32
 go_wp2_with fail
 refine (name_any t.name _ HNM.out (HG.out.below (ofBox HB0.out))).mono ?_
 rintro e w1 ⟨he,hB1⟩
 have HB1:=ξ (HB0.out.trans (hB1.mono (by simp)))
 obtain⟨x0,x1,x2,x3,x4,x5,x6,x7⟩:=box8 HB1.out
 clear hB1
 cases hn:nm t.name with
 | false =>
  obtain rfl:e = .returned (.bool false):=by rw[he];exact congrArg _ (congrArg _ hn)
  have HE:Hid (tskOk t=false):=by show _=_;simp[tskOk,hn]
  clear he hn
  go_wp2_with fail
  go_ret
  exact⟨by rw[HE.out];rfl,ofBox HB1.out⟩
 | true =>
 obtain rfl:e = .returned (.bool true):=by rw[he];exact congrArg _ (congrArg _ hn)
 have HN:=ξ hn
 clear he hn
 by_cases h1:t.period<1
 ·have HE:Hid (tskOk t=false):=by show _=_;simp[tskOk,show ¬ 1≤t.period by omega]
  go_wp2_with fail
  go_ret
  exact⟨by rw[HE.out];rfl,ofBox HB1.out⟩
 have h1':1≤t.period:=by omega
 have h1d:decide (t.period<1)=false:=by simpa using h1'
 clear h1
 by_cases h2:1000<t.period
 ·have h2d:decide (1000<t.period)=true:=by simpa using h2
  have HE:Hid (tskOk t=false):=by show _=_;simp[tskOk,show ¬ t.period≤1000 by omega]
  go_wp2_with fail
  go_ret
  exact⟨by rw[HE.out];rfl,ofBox HB1.out⟩
 have h2':t.period≤1000:=by omega
 have h2d:decide (1000<t.period)=false:=by simpa using h2'
 clear h2
 by_cases h3:12<t.vars.length
 ·have h3d:decide (12<t.vars.length)=true:=by simpa using h3
  have h3i:decide ((12:Int)<(t.vars.length:Int))=true:=by simp;omega
  have HE:Hid (tskOk t=false):=by show _=_;simp[tskOk,show ¬ t.vars.length≤12 by omega]
  go_wp2_with fail
  go_ret
  exact⟨by rw[HE.out];rfl,ofBox HB1.out⟩
 have h3':t.vars.length≤12:=by omega
 have h3d:decide (12<t.vars.length)=false:=by simpa using h3'
 have h3i:decide ((12:Int)<(t.vars.length:Int))=false:=by simp;omega
 clear h3
 by_cases h4:4<t.arrays.length
 ·have h4d:decide (4<t.arrays.length)=true:=by simpa using h4
  have h4i:decide ((4:Int)<(t.arrays.length:Int))=true:=by simp;omega
  have HE:Hid (tskOk t=false):=by show _=_;simp[tskOk,show ¬ t.arrays.length≤4 by omega]
  go_wp2_with fail
  go_ret
  exact⟨by rw[HE.out];rfl,ofBox HB1.out⟩
 have h4':t.arrays.length≤4:=by omega
 have h4d:decide (4<t.arrays.length)=false:=by simpa using h4'
 have h4i:decide ((4:Int)<(t.arrays.length:Int))=false:=by simp;omega
 clear h4
 go_wp2_with fail
 refine (areArrays_any t.arrays _ p.aa p.ac (HT.out.arrays.below (ofBox HB1.out)) (HG.out.below (ofBox HB1.out))).mono ?_
 rintro e w2 ⟨rfl,hB2⟩
 have HB2:=ξ (HB1.out.trans (hB2.mono (box_size HB1.out)))
 clear hB2 x0 x1 x2 x3 x4 x5 x6 x7
 obtain⟨x0,x1,x2,x3,x4,x5,x6,x7⟩:=box8 HB2.out
 cases ha:t.arrays.all arrOk with
 | false =>
  have HE:Hid (tskOk t=false):=by show _=_;simp only[tskOk,ha];simp
  clear ha
  go_wp2_with fail
  go_ret
  exact⟨by rw[HE.out];rfl,ofBox HB2.out⟩
 | true =>
 have HAA:=ξ ha
 clear ha
 go_wp2_with fail
 go_loopw [4,39] (fun _ i wr=>∃ j:Nat,j≤t.vars.length∧i = .int .i64 j∧(t.vars.take j).all nm=true∧Below (w.heap.size+1) (w.alloc (tskObj t p)) wr) (fun _ i _=>t.vars.length-(intOf i).toNat)
 case atStart=>exact⟨0,Nat.zero_le _,rfl,rfl,HB2.out⟩
 case round =>
  obtain⟨j,hj,rfl,hall,hBx⟩:=hrel
  have HA:=ξ hall
  have HBX:=ξ hBx
  have hB:=ofBox hBx
  clear hall x0 x1 x2 x3 x4 x5 x6 x7
  by_cases hlt:j<t.vars.length
  ·obtain⟨b,off,hva,q1,q2⟩:=HT.out.vars.2 j hlt
   obtain⟨s,hs⟩:∃ s,t.vars.getD j ⟨#[]⟩=s:=⟨_,rfl⟩
   rw[hs] at q1 q2
   have f1:=(hB.cell (p:=⟨b,off+j,none⟩) (World.block_lt_of_cell? w _ q1)).trans q1
   have HX:=ξ hs
   clear hs q1 hBx
   rw[hva]
   go_wp2_with fail
   refine (name_any s _ q2 (HG.out.below hB)).mono ?_
   rintro e w3 ⟨he,hB3⟩
   have HB3:=ξ (HBX.out.trans (hB3.mono (box_size HBX.out)))
   clear hB3
   cases hn:nm s with
   | false =>
    obtain rfl:e = .returned (.bool false):=by rw[he];exact congrArg _ (congrArg _ hn)
    have HE:Hid (tskOk t=false):=by show _=_;simp only[tskOk,all_stop nm t.vars ⟨#[]⟩ j hlt (by rw[HX.out,hn])];simp
    clear he hn
    go_wp2_with fail
    go_ret
    exact⟨by rw[HE.out];rfl,ofBox HB3.out⟩
   | true =>
    obtain rfl:e = .returned (.bool true):=by rw[he];exact congrArg _ (congrArg _ hn)
    have HN2:Hid ((t.vars.take (j+1)).all nm=true):=by show _=_;rw[all_next nm t.vars ⟨#[]⟩ j hlt,HA.out,HX.out,hn];rfl
    clear he hn
    go_wp2_with fail
    go_roundw
    case rel=>exact⟨j+1,by omega,by go_num,HN2.out,HB3.out⟩
    case measure=>simp[intOf];omega
  ·obtain rfl:j=t.vars.length:=by omega
   have HV:Hid (t.vars.all nm=true):=by have:=HA.out;rw[List.take_length] at this;exact this
   obtain⟨x0,x1,x2,x3,x4,x5,x6,x7⟩:=box8 HBX.out
   have hzr:=box_size HBX.out
   have hzl:w.heap.size<wr.heap.size:=by omega
   clear hBx HA
   go_wp2_with fail
   have HBL:Hid (Below wr.heap.size wr (wr.alloc (.cells #[.int .i64 400] 3))):=(Below.refl _ _).alloc (Nat.le_refl _) _
   refine (isSmall_any t.body 16 400 wr.heap.size _ p.ka p.kc ((HT.out.body.below hB).toIn.move (fun k hk _=>HBL.out.block k hk) (fun k hk _=>by omega)) (by omega) (by omega) (World.alloc_heap_new wr _)).mono ?_
   rintro e w4 ⟨q,L',rfl,hK4,hl4,hq,hL4⟩
   have hBW4:Below wr.heap.size wr w4:=HBL.out.trans (hK4.below (by simp) (fun k hk=>by omega))
   have HB4:=ξ (HBX.out.trans (hBW4.mono hzr))
   clear hK4 hl4 hL4 hBW4 x0 x1 x2 x3 x4 x5 x6 x7
   obtain⟨x0,x1,x2,x3,x4,x5,x6,x7⟩:=box8 HB4.out
   cases q with
   | false =>
    have HE:Hid (tskOk t=false):=by show _=_;simp only[tskOk,←hq];simp
    clear hq
    go_wp2_with fail
    go_ret
    exact⟨by rw[HE.out];rfl,ofBox HB4.out⟩
   | true =>
    have hsm:t.body.depth≤16∧t.body.size≤400:=of_decide_eq_true hq.symm
    have HQ:=ξ hq
    have hnb:=Tree.nest_le_depth t.body
    clear hq
    go_wp2_with fail
    refine (nest_any t.body _ p.ka p.kc (HT.out.body.below (ofBox HB4.out)) (by omega)).mono ?_
    rintro e w5 ⟨rfl,hB5⟩
    have HB5:=ξ (HB4.out.trans (hB5.mono (box_size HB4.out)))
    clear hB5 x0 x1 x2 x3 x4 x5 x6 x7
    obtain⟨x0,x1,x2,x3,x4,x5,x6,x7⟩:=box8 HB5.out
    by_cases hn4:t.body.nest≤4
    ·have hn4d:decide ((t.body.nest:Int)≤4)=true:=by simp;omega
     go_wp2_with fail
     refine (isBlock_any t.body _ p.ka p.kc (HT.out.body.below (ofBox HB5.out)) (HG.out.below (ofBox HB5.out))).mono ?_
     rintro e w6 ⟨rfl,hB6⟩
     have HB6:=ξ (HB5.out.trans (hB6.mono (box_size HB5.out)))
     clear hB6
     have HE:Hid (tskOk t=t.body.vld 98):=by show _=_;simp only[tskOk,HN.out,HAA.out,HV.out,←HQ.out,h1',h2',h3',h4',hn4];simp
     go_wp2_with fail
     go_ret
     exact⟨by rw[HE.out];rfl,ofBox HB6.out⟩
    ·have hn4d:decide ((t.body.nest:Int)≤4)=false:=by simp;omega
     have HE:Hid (tskOk t=false):=by show _=_;simp[tskOk,hn4]
     go_wp2_with fail
     go_ret
     exact⟨by rw[HE.out];rfl,ofBox HB5.out⟩
