/- Part. -/
import Derived.Test.YtkpdngfkdmllkaaGreatDoorMg10
import Derived.Deep.QuietTactic
import Derived.BigQuiet
import Derived.Deep.RegionHeld
import Derived.OrdersHeld
namespace Go.Proofs.YtkpdngfkdmllkaaGreatDoor
set_option linter.unusedVariables false
set_option linter.unusedSimpArgs false
open Go.RowKit
theorem tasksF_nil{shared:List ByteArray}:∀ {l:List Tsk} {so:List ByteArray} {i:Nat},tasksF shared so i l = []→∀ j (h:j<l.length),memB (so++(l.take j).map (·.name)) l[j].name=false∧taskF shared l[j] = []
 | t::l,so,i,h,j,hj=>by
  rw[tasksF,List.append_eq_nil_iff,List.map_eq_nil_iff,List.append_eq_nil_iff] at h
  obtain⟨⟨h1,h2⟩,h3⟩:=h
  cases j with
  | zero =>
   refine⟨?_,h2⟩
   cases hb:memB so t.name with
   | false=>simpa using hb
   | true=>rw[hb] at h1;cases h1
  | succ j =>
   have:=tasksF_nil h3 j (by simpa using hj)
   simpa using this
theorem okP_parts{p:Prg}(h:okP p=true):prgOk p=true∧declF (fun _=>false) [] (p.shared.map (·.name)) = []∧tasksF (p.shared.map (·.name)) [] 0 p.tasks = []:=by
 unfold okP at h
 rw[Bool.and_eq_true,List.isEmpty_iff] at h
 obtain⟨h1,h2⟩:=h
 unfold checkE at h2
 rw[if_pos h1] at h2
 unfold checkF at h2
 rw[List.append_eq_nil_iff,List.map_eq_nil_iff] at h2
 exact⟨h1,h2⟩
theorem taskF_nil{shared:List ByteArray}{t:Tsk}(h:taskF shared t = []):declF (memB shared) [] (t.vars++t.arrays.map (·.name)) = []∧faultsT ⟨shared,t.vars,t.arrays.map (·.name)⟩ t.body [] false [] [] = []:=by
 unfold taskF at h
 exact List.append_eq_nil_iff.1 h
theorem task_in{p:Prg}{i:Nat}(h:okP p=true)(hi:i<p.tasks.length):memB ((p.tasks.take i).map (·.name)) (p.tasks.getD i Tsk.none).name=false∧taskF (p.shared.map (·.name)) (p.tasks.getD i Tsk.none) = []:=by
 obtain⟨_,_,h3⟩:=okP_parts h
 have:=tasksF_nil h3 i hi
 rw[List.nil_append] at this
 rw[show p.tasks.getD i Tsk.none=p.tasks[i] by simp[hi]]
 exact this
set_option maxRecDepth 100000
theorem cell_stay{w w':World}{b o:Nat}{v:Value}(hb:Below w.heap.size w w')(h:w.cell? ⟨b,o,none⟩=some v):w'.cell? ⟨b,o,none⟩=some v:=
 (hb.cell (p:=⟨b,o,none⟩) (World.block_lt_of_cell? w _ h)).trans h
structure WordsAt(w:World)(a:Option Addr)(l:List Int):Prop where
 fits:l.length≤9223372036854775807
 words:∀ x∈l,Wd.W x
 at_:l.length=0∨∃ b off,a=some ⟨b,off,none⟩∧∀ (k:Nat) (x:Int),l[k]? = some x→w.cell? ⟨b,off+k,none⟩=some (.int .i32 x)
structure ContAt(w:World)(a:Option Addr)(l:List (List Int)):Prop where
 fits:l.length≤9223372036854775807
 at_:l.length=0∨∃ b off,a=some ⟨b,off,none⟩∧∀ (k:Nat) (r:List Int),l[k]? = some r→∃ ra rc,w.cell? ⟨b,off+k,none⟩=some (.slice ra r.length rc)∧(ra=none→rc=0)∧WordsAt w ra r
theorem WordsAt.below{w w':World}{a:Option Addr}{l:List Int}(h:WordsAt w a l)(hb:Below w.heap.size w w'):WordsAt w' a l:=by
 refine⟨h.fits,h.words,?_⟩
 rcases h.at_ with h0|⟨b,off,ha,hk⟩
 ·exact .inl h0
 ·exact .inr ⟨b,off,ha,fun k x hx=>cell_stay hb (hk k x hx)⟩
theorem ContAt.below{w w':World}{a:Option Addr}{l:List (List Int)}(h:ContAt w a l)(hb:Below w.heap.size w w'):ContAt w' a l:=by
 refine⟨h.fits,?_⟩
 rcases h.at_ with h0|⟨b,off,ha,hk⟩
 ·exact .inl h0
 ·exact .inr ⟨b,off,ha,fun k r hr=>by obtain⟨ra,rc,h1,h2,h3⟩:=hk k r hr;exact⟨ra,rc,cell_stay hb h1,h2,h3.below hb⟩⟩
structure Cont3At(w:World)(a:Option Addr)(l:List (List (List Int))):Prop where
 fits:l.length≤9223372036854775807
 at_:l.length=0∨∃ b off,a=some ⟨b,off,none⟩∧∀ (k:Nat) (r:List (List Int)),l[k]? = some r→∃ ra rc,w.cell? ⟨b,off+k,none⟩=some (.slice ra r.length rc)∧(ra=none→rc=0)∧ContAt w ra r
theorem Cont3At.below{w w':World}{a:Option Addr}{l:List (List (List Int))}(h:Cont3At w a l)(hb:Below w.heap.size w w'):Cont3At w' a l:=by
 refine⟨h.fits,?_⟩
 rcases h.at_ with h0|⟨b,off,ha,hk⟩
 ·exact .inl h0
 ·exact .inr ⟨b,off,ha,fun k r hr=>by obtain⟨ra,rc,h1,h2,h3⟩:=hk k r hr;exact⟨ra,rc,cell_stay hb h1,h2,h3.below hb⟩⟩
theorem ContAt.row{w:World}{a:Option Addr}{l:List (List Int)}(h:ContAt w a l){k:Nat}{r:List Int}(hk:l[k]? = some r):∃ b off,a=some ⟨b,off,none⟩∧∃ ra rc,w.cell? ⟨b,off+k,none⟩=some (.slice ra r.length rc)∧(ra=none→rc=0)∧WordsAt w ra r:=by
 have hl:=(List.getElem?_eq_some_iff.1 hk).1
 rcases h.at_ with h0|⟨b,off,ha,hr⟩
 ·omega
 ·exact⟨b,off,ha,hr k r hk⟩
theorem Cont3At.row{w:World}{a:Option Addr}{l:List (List (List Int))}(h:Cont3At w a l){k:Nat}{r:List (List Int)}(hk:l[k]? = some r):∃ b off,a=some ⟨b,off,none⟩∧∃ ra rc,w.cell? ⟨b,off+k,none⟩=some (.slice ra r.length rc)∧(ra=none→rc=0)∧ContAt w ra r:=by
 have hl:=(List.getElem?_eq_some_iff.1 hk).1
 rcases h.at_ with h0|⟨b,off,ha,hr⟩
 ·omega
 ·exact⟨b,off,ha,hr k r hk⟩
set_option maxHeartbeats 8000000
def matchP:List Arr→List (List Int)→Bool
 | [],[]=>true
 | x::D,r::L=>(x.len == (r.length:Int)) && matchP D L
 | _,_=>false
theorem matchP_len{D:List Arr}:∀ {L:List (List Int)},¬ D.length=L.length→matchP D L=false:=by
 induction D with
 | nil=>intro L h;cases L with | nil=>exact absurd rfl h | cons _ _=>rfl
 | cons x D ih =>
  intro L h
  cases L with
  | nil=>rfl
  | cons r L=>show (_ && _)=_;rw[ih (fun e=>h (by simp[e])),Bool.and_false]
theorem matchP_drop{D:List Arr}{L:List (List Int)}{j:Nat}{r:List Int}(h1:j<D.length)(h2:L[j]? = some r):matchP (D.drop j) (L.drop j)=(((D.getD j Arr.none).len == (r.length:Int)) && matchP (D.drop (j+1)) (L.drop (j+1))):=by
 obtain⟨hk',rfl⟩:=List.getElem?_eq_some_iff.1 h2
 rw[List.drop_eq_getElem_cons h1,List.drop_eq_getElem_cons hk',List.getD_eq_getElem?_getD,List.getElem?_eq_getElem h1]
 rfl
theorem matchP_end{D:List Arr}{L:List (List Int)}(h:D.length=L.length):matchP (D.drop D.length) (L.drop D.length)=true:=by
 rw[List.drop_length,h,List.drop_length];rfl
theorem match16_any(D:List Arr)(L:List (List Int))(a b:Option Addr)(c d:Nat)(w:World)(hl:ArrsAt w a D)(hm:ContAt w b L) :
 Calls Tryz.prog 19 #[.slice a D.length c,.slice b L.length d] w fun e w'=>e = .returned (.bool (matchP D L))∧Below w.heap.size w w':=by
 have HL:=ξ hl
 have HM:=ξ hm
 have hlf:=hl.1
 have hmf:=hm.fits
 clear hl hm
 by_cases hlen:D.length=L.length
 ·have q0:((D.length:Int) != (L.length:Int))=false:=by simp[hlen]
  have HLEN:=ξ hlen
  clear hlen
  go_enter Tryz.func19,Tryz.ntmps19
  go_wp2_with fail
  go_loopw [14] (fun i wr=>∃ j:Nat,j≤D.length∧i = .int .i64 j∧matchP (D.drop j) (L.drop j)=matchP D L∧Below w.heap.size w wr) (fun i _=>D.length-(intOf i).toNat)
  case atStart=>exact⟨0,Nat.zero_le _,rfl,rfl,Below.refl _ _⟩
  case round =>
   obtain⟨j,hj,rfl,hd,hB⟩:=hrel
   have HD:=ξ hd
   have HB:=ξ hB
   have hk0:(0:Int)≤(j:Int):=by omega
   clear hd hB
   by_cases hlt:j<D.length
   ·have hlt2:(j:Int)<(D.length:Int):=by omega
    have hlt3:(j:Int)<(L.length:Int):=by have:=HLEN.out;omega
    have hlt4:j<L.length:=by have:=HLEN.out;omega
    obtain⟨r,hr⟩:∃ r,L[j]? = some r:=⟨_,List.getElem?_eq_getElem hlt4⟩
    obtain⟨b1,o1,rfl,hx⟩:=HL.out.2 j hlt
    obtain⟨x,hxe⟩:∃ x,D.getD j Arr.none=x:=⟨_,rfl⟩
    rw[hxe] at hx
    obtain⟨b2,o2,rfl,ra,rc,hcell,_,hw⟩:=(HM.out.below HB.out).row hr
    have hrf:=hw.fits
    have HDR:Hid (matchP (D.drop j) (L.drop j)=((x.len == (r.length:Int)) && matchP (D.drop (j+1)) (L.drop (j+1)))):=by show _=_;rw[matchP_drop hlt hr,hxe]
    have x0:=cell_stay HB.out hx.1
    have x1:=cell_stay HB.out hx.2.1
    have hb1:=World.block_lt_of_cell? _ _ x0
    have hb2:=World.block_lt_of_cell? _ _ hcell
    obtain⟨V,hV⟩:∃ V:World,wr.alloc (.cells #[.string x.name,.int .i64 x.len] 73)=V:=⟨_,rfl⟩
    have HBV:Hid (Below wr.heap.size wr V):=by show Below _ _ _;rw[←hV];exact mem_alloc _ _
    have hXV:V.heap[wr.heap.size]? = some (.cells #[.string x.name,.int .i64 x.len] 73):=by rw[←hV];exact mem_new _ _
    have v1:=mem_cell hXV 1
    simp only[List.getElem?_toArray,List.getElem?_cons_zero,List.getElem?_cons_succ] at v1
    have y0:=cell_stay HBV.out hcell
    have hbV:b2<V.heap.size:=World.block_lt_of_cell? _ _ y0
    clear hr hx hxe hw hXV
    go_wp2_with fail
    clear hV x0 x1 hcell
    go_quiet (fail)
    generalize hwq:World.drewN V _=wq
    have HQ:Hid (Below wr.heap.size wr wq):=mem_then HBV.out (mem_drawn (Below.refl _ _) hwq)
    clear hwq y0 v1
    by_cases he:x.len=(r.length:Int)
    ·have hb:((r.length:Int) != x.len)=false:=by simp[he]
     have HN:Hid (matchP (D.drop (j+1)) (L.drop (j+1))=matchP D L):=by
      show _=_;rw[←HD.out,HDR.out];simp[he]
     clear he
     go_wp2_with fail
     go_roundw
     case rel=>exact⟨j+1,by omega,by go_num,HN.out,mem_then HB.out HQ.out⟩
     case measure=>simp[intOf];omega
    ·have hb:((r.length:Int) != x.len)=true:=by simp;omega
     have HN:Hid (matchP D L=false):=by
      have hz:(x.len == (r.length:Int))=false:=by simpa using he
      show _=_;rw[←HD.out,HDR.out,hz,Bool.false_and]
     clear he
     go_wp2_with fail
     go_ret
     exact⟨by rw[HN.out];rfl,mem_then HB.out HQ.out⟩
   ·obtain rfl:j=D.length:=by omega
    have HN:Hid (matchP D L=true):=by show _=_;rw[←HD.out];exact matchP_end HLEN.out
    go_wp2_with fail
    go_ret
    exact⟨by rw[HN.out];rfl,HB.out⟩
 ·have q0:((D.length:Int) != (L.length:Int))=true:=by simp;omega
  have HN:=ξ (matchP_len hlen)
  clear hlen
  go_enter Tryz.func19,Tryz.ntmps19
  go_wp2_with fail
  go_ret
  exact⟨by rw[HN.out];rfl,Below.refl _ _⟩
structure Mem where
 arrays:List (List (List Int))
 shared:List (List Int)
abbrev Mem.val(M:Mem)(aa:Option Addr)(ac:Nat)(sa:Option Addr)(sc:Nat):Value:=.agg #[.slice aa M.arrays.length ac,.slice sa M.shared.length sc]
abbrev memObj(M:Mem)(aa:Option Addr)(ac:Nat)(sa:Option Addr)(sc:Nat):Obj:=.cells #[.slice aa M.arrays.length ac,.slice sa M.shared.length sc] 29
def MemAt(w:World)(M:Mem)(aa sa:Option Addr):Prop:=Cont3At w aa M.arrays∧ContAt w sa M.shared
theorem MemAt.below{w w':World}{M:Mem}{aa sa:Option Addr}(h:MemAt w M aa sa)(hb:Below w.heap.size w w'):MemAt w' M aa sa:=⟨h.1.below hb,h.2.below hb⟩
def fitsAll:List Tsk→List (List (List Int))→Bool
 | [],[]=>true
 | t::T,r::R=>matchP t.arrays r && fitsAll T R
 | _,_=>false
theorem fitsAll_drop{D:List Tsk}{L:List (List (List Int))}{j:Nat}{r:List (List Int)}(h1:j<D.length)(h2:L[j]? = some r):fitsAll (D.drop j) (L.drop j)=(matchP (D.getD j Tsk.none).arrays r && fitsAll (D.drop (j+1)) (L.drop (j+1))):=by
 obtain⟨hk',rfl⟩:=List.getElem?_eq_some_iff.1 h2
 rw[List.drop_eq_getElem_cons h1,List.drop_eq_getElem_cons hk',List.getD_eq_getElem?_getD,List.getElem?_eq_getElem h1]
 rfl
theorem fitsAll_end{D:List Tsk}{L:List (List (List Int))}(h:D.length=L.length):fitsAll (D.drop D.length) (L.drop D.length)=true:=by
 rw[List.drop_length,h,List.drop_length];rfl
def fitsP(p:Prg)(M:Mem):Bool:=prgOk p && (decide (M.arrays.length=p.tasks.length) && (fitsAll p.tasks M.arrays && matchP p.shared M.shared))
theorem fits16_any(p:Prg)(M:Mem)(w:World)(sa ta:Option Addr)(sc tc:Nat)(ma ms:Option Addr)(mac msc:Nat)(hp:PrgAt w p sa ta)(hm:MemAt w M ma ms)(hg:SignsIn w) :
 Calls Tryz.prog 7 #[p.val sa sc ta tc,M.val ma mac ms msc] w fun e w'=>e = .returned (.bool (fitsP p M))∧Below w.heap.size w w':=by
 have hsl:=hp.1.1
 have htl:=hp.2.1
 have hml:=hm.1.fits
 have hmsl:=hm.2.fits
 obtain⟨W,hW⟩:∃ W:World,w.alloc (prgObj p sa sc ta tc)=W:=⟨_,rfl⟩
 have hBW:Below w.heap.size w W:=by rw[←hW];exact mem_alloc _ _
 have hXW:W.heap[w.heap.size]? = some (prgObj p sa sc ta tc):=by rw[←hW];exact mem_new _ _
 obtain⟨W2,hW2⟩:∃ W2:World,W.alloc (memObj M ma mac ms msc)=W2:=⟨_,rfl⟩
 have hBW2:Below W.heap.size W W2:=by rw[←hW2];exact mem_alloc _ _
 have hXW2:W2.heap[W.heap.size]? = some (memObj M ma mac ms msc):=by rw[←hW2];exact mem_new _ _
 have HB2:Hid (Below w.heap.size w W2):=mem_then hBW hBW2
 have HK:Hid (∀ w',Below W2.heap.size W2 w'→(w'.cell? ⟨w.heap.size,0,none⟩=some (.slice sa p.shared.length sc)∧w'.cell? ⟨w.heap.size,1,none⟩=some (.slice ta p.tasks.length tc))∧(w'.cell? ⟨W.heap.size,0,none⟩=some (.slice ma M.arrays.length mac)∧w'.cell? ⟨W.heap.size,1,none⟩=some (.slice ms M.shared.length msc))∧PrgAt w' p sa ta∧MemAt w' M ma ms∧Below w.heap.size w w'):=fun w' hw=>by
  have hb:=mem_then HB2.out hw
  have h1:=mem_keep (mem_keep hXW hBW2) hw
  have h2:=mem_keep hXW2 hw
  exact⟨⟨mem_cell h1 0,mem_cell h1 1⟩,⟨mem_cell h2 0,mem_cell h2 1⟩,hp.below hb,hm.below hb,hb⟩
 obtain⟨⟨x0,x1⟩,⟨y0,y1⟩,hp2,hm2,_⟩:=HK.out W2 (Below.refl _ _)
 have HV:=ξ (valid_any p W2 sa ta sc tc hp2 (hg.below HB2.out))
 clear hp hm hg hBW hXW hBW2 hXW2 hp2 hm2
 go_enter Tryz.func7,Tryz.ntmps7
 go_wp2_with fail
 clear hW hW2 x0 x1 y0 y1
 refine HV.out.mono ?_
 rintro e w1 ⟨rfl,hB1⟩
 have HB1:=ξ hB1
 clear HV hB1
 cases hok:prgOk p with
 | false =>
  have HN:Hid (fitsP p M=false):=by show _=_;unfold fitsP;rw[hok];rfl
  clear hok
  go_wp2_with fail
  go_ret
  exact⟨by rw[HN.out];rfl,(HK.out _ HB1.out).2.2.2.2⟩
 | true =>
 have HOK:=ξ hok
 clear hok
 obtain⟨⟨x0,x1⟩,⟨y0,y1⟩,_,_,_⟩:=HK.out w1 HB1.out
 by_cases hlen:M.arrays.length=p.tasks.length
 ·have hlb:((M.arrays.length:Int) != (p.tasks.length:Int))=false:=by simp[hlen]
  have HLEN:=ξ hlen
  clear hlen
  go_wp2_with fail
  clear x0 x1 y0 y1
  go_loopw [22] (fun i wr=>∃ j:Nat,j≤p.tasks.length∧i = .int .i64 j∧fitsAll (p.tasks.drop j) (M.arrays.drop j)=fitsAll p.tasks M.arrays∧Below W2.heap.size W2 wr) (fun i _=>p.tasks.length-(intOf i).toNat)
  case atStart=>exact⟨0,Nat.zero_le _,rfl,rfl,HB1.out⟩
  case round =>
   obtain⟨j,hj,rfl,hd,hB⟩:=hrel
   have HD:=ξ hd
   have HB:=ξ hB
   have hk0:(0:Int)≤(j:Int):=by omega
   clear hd hB
   by_cases hlt:j<p.tasks.length
   ·have hlt2:(j:Int)<(p.tasks.length:Int):=by omega
    have hlt3:(j:Int)<(M.arrays.length:Int):=by have:=HLEN.out;omega
    have hlt4:j<M.arrays.length:=by have:=HLEN.out;omega
    obtain⟨r,hr⟩:∃ r,M.arrays[j]? = some r:=⟨_,List.getElem?_eq_getElem hlt4⟩
    obtain⟨_,_,hpr,hmr,_⟩:=HK.out wr HB.out
    obtain⟨tb,tf,q,rfl,hc,hin⟩:=hpr.2.2 j hlt
    obtain⟨t,ht⟩:∃ t,p.tasks.getD j Tsk.none=t:=⟨_,rfl⟩
    rw[ht] at hc hin
    obtain⟨⟨g0,g1,g2,g3,g4,g5,g6,g7⟩,hbl⟩:=tsk_cells (Below.refl _ _) hc
    obtain⟨b2,o2,rfl,ra,rc,hcell,_,hw⟩:=hmr.1.row hr
    have hrf:=hw.fits
    have HDR:Hid (fitsAll (p.tasks.drop j) (M.arrays.drop j)=(matchP t.arrays r && fitsAll (p.tasks.drop (j+1)) (M.arrays.drop (j+1)))):=by show _=_;rw[fitsAll_drop hlt hr,ht]
    obtain⟨V,hV⟩:∃ V:World,wr.alloc (tskObj t q)=V:=⟨_,rfl⟩
    have hBV:Below wr.heap.size wr V:=by rw[←hV];exact mem_alloc _ _
    have HBV:Hid (Below W2.heap.size W2 V):=mem_then HB.out hBV
    have HXV:Hid (V.heap[wr.heap.size]? = some (tskObj t q)):=by show _=_;rw[←hV];exact mem_new _ _
    have HC:=ξ (cell_stay hBV hcell)
    have HIN:=ξ (hin.arrays.below hBV)
    have HWR:=ξ (hw.below hBV)
    have hal:=hin.arrays.1
    clear hr ht hc hin hcell hw hpr hmr hBV
    go_wp2_with fail
    clear hV g0 g1 g2 g3 g4 g5 g6 g7
    have hD0:Below V.heap.size V (World.drew V):=(Below.refl _ _).drew
    refine wp_region_held_drew (S:=fun w'=>Below V.heap.size V w') (by kernel_rfl) hD0 (fun hHeld=>?_)
    generalize hwd:World.drew V=v1 at hHeld hD0⊢
    clear hwd hD0
    refine hT 0 (.pointer (some ⟨wr.heap.size,3,none⟩)) rfl (hy:=?_) (h:=?_)
    ·intro w' hSw;go_simp
    (try simp only[Act.put,pZ])
    refine hT 1 (.slice q.aa t.arrays.length q.ac) rfl (hy:=?_) (h:=?_)
    ·intro w' hSw;have z0:=mem_cell (mem_keep HXV.out hSw) 3;simp only[List.getElem?_toArray,List.getElem?_cons_zero,List.getElem?_cons_succ] at z0;go_simp
    (try simp only[Act.put,pZ])
    refine hT 2 (.pointer (some ⟨W.heap.size,0,none⟩)) rfl (hy:=?_) (h:=?_)
    ·intro w' hSw;go_simp
    (try simp only[Act.put,pZ])
    refine hT 3 (.slice (some ⟨b2,o2,none⟩) M.arrays.length mac) rfl (hy:=?_) (h:=?_)
    ·intro w' hSw;have z0:=(HK.out _ (mem_then HBV.out hSw)).2.1.1;go_simp
    (try simp only[Act.put,pZ])
    refine hT 4 (.int .i64 (j:Int)) rfl (hy:=?_) (h:=?_)
    ·intro w' hSw;go_simp
    (try simp only[Act.put,pZ])
    refine hT 5 (.pointer (some ⟨b2,o2+j,none⟩)) rfl (hy:=?_) (h:=?_)
    ·intro w' hSw;go_simp
    (try simp only[Act.put,pZ])
    refine hT 6 (.slice ra r.length rc) rfl (hy:=?_) (h:=?_)
    ·intro w' hSw;have z0:=cell_stay hSw HC.out;go_simp
    (try simp only[Act.put,pZ])
    have h9:=match16_any t.arrays r q.aa ra q.ac rc v1 (HIN.out.below hHeld) (HWR.out.below hHeld)
    have H9:=ξ h9
    have HB3:=ξ hHeld
    clear h9
    refine hR 7 rfl (fun K hK=>?_)
    go_simp
    refine H9.out.mono ?_
    rintro e w3 ⟨rfl,hB3⟩
    have HB4:=ξ (mem_then HB3.out hB3)
    clear H9 hB3
    refine hK.out _ _ (HB4.out) (fun hHeld=>?_)
    clear hK K
    rename_i hOld
    clear hOld
    (try simp only[Act.put,pZ])
    cases hm:matchP t.arrays r with
    | false =>
     have HN:Hid (fitsP p M=false):=by
      show _=_;unfold fitsP;rw[←HD.out,HDR.out,hm];simp
     clear hm
     refine hT 8 (.bool true) rfl (hy:=?_) (h:=?_)
     ·intro w' hSw;go_simp
     (try simp only[Act.put,pZ])
     refine wpAnyH_done (by kernel_rfl) ?_ _
     go_wp2_with fail
     go_ret
     exact⟨by rw[HN.out];rfl,(HK.out _ (mem_then HBV.out HB4.out)).2.2.2.2⟩
    | true =>
     have HN:Hid (fitsAll (p.tasks.drop (j+1)) (M.arrays.drop (j+1))=fitsAll p.tasks M.arrays):=by
      show _=_;rw[←HD.out,HDR.out,hm,Bool.true_and]
     clear hm
     refine hT 8 (.bool false) rfl (hy:=?_) (h:=?_)
     ·intro w' hSw;go_simp
     (try simp only[Act.put,pZ])
     refine wpAnyH_done (by kernel_rfl) ?_ _
     go_wp2_with fail
     go_roundw
     case rel=>exact⟨j+1,by omega,by go_num,HN.out,mem_then HBV.out HB4.out⟩
     case measure=>simp[intOf];omega
   ·obtain rfl:j=p.tasks.length:=by omega
    have HFA:Hid (fitsAll p.tasks M.arrays=true):=by show _=_;rw[←HD.out];exact fitsAll_end HLEN.out.symm
    obtain⟨⟨x0,x1⟩,⟨y0,y1⟩,hpr,hmr,_⟩:=HK.out wr HB.out
    have H9:=ξ (match16_any p.shared M.shared sa ms sc msc wr hpr.1 hmr.2)
    have HE:Hid (fitsP p M=matchP p.shared M.shared):=by show _=_;unfold fitsP;rw[HOK.out,HFA.out,HLEN.out];simp
    clear hpr hmr
    go_wp2_with fail
    clear x0 x1 y0 y1
    refine H9.out.mono ?_
    rintro e w3 ⟨rfl,hB3⟩
    have HB4:=ξ (mem_then HB.out hB3)
    clear H9 hB3
    go_wp2_with fail
    go_ret
    exact⟨by rw[HE.out];rfl,(HK.out _ HB4.out).2.2.2.2⟩
 ·have hlb:((M.arrays.length:Int) != (p.tasks.length:Int))=true:=by simp;omega
  have HN:Hid (fitsP p M=false):=by show _=_;unfold fitsP;rw[decide_eq_false hlen];simp
  clear hlen
  go_wp2_with fail
  go_ret
  exact⟨by rw[HN.out];rfl,(HK.out _ HB1.out).2.2.2.2⟩
theorem matchP_parts{D:List Arr}:∀ {L:List (List Int)},matchP D L=true→D.length=L.length∧∀ (k:Nat) (r:List Int),L[k]? = some r→∃ x,D[k]? = some x∧x.len=(r.length:Int):=by
 induction D with
 | nil=>intro L h;cases L with
  | nil=>exact⟨rfl,fun k r hr=>by simp at hr⟩
  | cons _ _=>cases h
 | cons x D ih =>
  intro L h
  cases L with
  | nil=>cases h
  | cons r L =>
   have h:((x.len == (r.length:Int)) && matchP D L)=true:=h
   rw[Bool.and_eq_true] at h
   obtain⟨h1,h2⟩:=ih h.2
   refine⟨by simp[h1],fun k s hs=>?_⟩
   cases k with
   | zero =>
    have hs:r=s:=by simpa using hs
    subst hs
    exact⟨x,rfl,by simpa using h.1⟩
   | succ k=>exact h2 k s (by simpa using hs)
theorem fitsAll_parts{T:List Tsk}:∀ {R:List (List (List Int))},fitsAll T R=true→T.length=R.length∧∀ (k:Nat) (r:List (List Int)),R[k]? = some r→∃ t,T[k]? = some t∧matchP t.arrays r=true:=by
 induction T with
 | nil=>intro L h;cases L with
  | nil=>exact⟨rfl,fun k r hr=>by simp at hr⟩
  | cons _ _=>cases h
 | cons x D ih =>
  intro L h
  cases L with
  | nil=>cases h
  | cons r L =>
   have h:(matchP x.arrays r && fitsAll D L)=true:=h
   rw[Bool.and_eq_true] at h
   obtain⟨h1,h2⟩:=ih h.2
   refine⟨by simp[h1],fun k s hs=>?_⟩
   cases k with
   | zero =>
    have hs:r=s:=by simpa using hs
    subst hs
    exact⟨x,rfl,h.1⟩
   | succ k=>exact h2 k s (by simpa using hs)
theorem arrOk_le{x:Arr}(h:arrOk x=true):1≤x.len∧x.len≤32:=by
 unfold arrOk at h
 simp only[Bool.and_eq_true,decide_eq_true_eq] at h
 exact⟨h.1.2,h.2⟩
theorem tskOk_arrs{t:Tsk}(h:tskOk t=true):t.arrays.length≤4∧∀ x∈t.arrays,arrOk x=true:=by
 unfold tskOk at h
 simp only[Bool.and_eq_true,decide_eq_true_eq,List.all_eq_true] at h
 exact⟨h.2.2.2.2.1,h.2.2.2.2.2.1⟩
theorem in_tskOk_body{t:Tsk}(h:tskOk t=true):t.body.vld 98=true:=by
 unfold tskOk at h
 simp only[Bool.and_eq_true] at h
 exact h.2.2.2.2.2.2.2.2.2
theorem prgOk_shared{p:Prg}(h:prgOk p=true):p.shared.length≤4∧∀ x∈p.shared,arrOk x=true:=by
 unfold prgOk at h
 simp only[Bool.and_eq_true,decide_eq_true_eq,List.all_eq_true] at h
 exact⟨h.1,h.2.2.1⟩
theorem match_small{D:List Arr}{L:List (List Int)}(h:matchP D L=true)(hD:D.length≤4∧∀ x∈D,arrOk x=true):L.length≤4∧∀ r∈L,1≤r.length∧r.length≤32:=by
 obtain⟨h1,h2⟩:=matchP_parts h
 refine⟨by omega,fun r hr=>?_⟩
 obtain⟨k,hk,rfl⟩:=List.mem_iff_getElem.1 hr
 obtain⟨x,e1,e2⟩:=h2 k _ (List.getElem?_eq_getElem hk)
 have:=arrOk_le (hD.2 x (List.mem_of_getElem? e1))
 omega
structure FitP(p:Prg)(M:Mem):Prop where
 ok:prgOk p=true
 len:M.arrays.length=p.tasks.length
 shared:matchP p.shared M.shared=true
 task:∀ (k:Nat) (r:List (List Int)),M.arrays[k]? = some r→matchP (p.tasks.getD k Tsk.none).arrays r=true∧r.length≤4∧∀ l∈r,1≤l.length∧l.length≤32
 slen:M.shared.length≤4∧∀ l∈M.shared,1≤l.length∧l.length≤32
theorem fit_of{p:Prg}{M:Mem}(h:fitsP p M=true):FitP p M:=by
 unfold fitsP at h
 simp only[Bool.and_eq_true,decide_eq_true_eq] at h
 obtain⟨h1,h2,h3,h4⟩:=h
 obtain⟨h5,h6⟩:=fitsAll_parts h3
 refine⟨h1,h2,h4,fun k r hr=>?_,match_small h4 (prgOk_shared h1)⟩
 obtain⟨t,ht,hm⟩:=h6 k r hr
 have hk:=(List.getElem?_eq_some_iff.1 ht).1
 have e:p.tasks.getD k Tsk.none=t:=by rw[List.getD_eq_getElem?_getD,ht];rfl
 have hto:=(prgOk_le h1).2.2 k hk
 rw[e] at hto⊢
 exact⟨hm,match_small hm (tskOk_arrs hto)⟩
theorem declF_nodup{known:ByteArray→Bool}:∀ {l so:List ByteArray},declF known so l = []→(∀ x∈l,known x=false∧x∉so)∧l.Nodup
 | [],so,_=>⟨(fun x hx=>nomatch hx),List.nodup_nil⟩
 | x::l,so,h=>by
  rw[declF,List.append_eq_nil_iff] at h
  obtain⟨h1,h2⟩:=h
  obtain⟨h3,h4⟩:=declF_nodup h2
  have hx:known x=false∧x∉so:=by
   by_cases hc:(known x || memB so x)=true
   ·rw[if_pos hc] at h1;cases h1
   ·rw[Bool.or_eq_true,not_or] at hc
    exact⟨by simpa using hc.1,fun hm=>hc.2 (memB_iff.2 hm)⟩
  refine⟨fun y hy=>?_,List.nodup_cons.2 ⟨fun hm=>(h3 x hm).2 (by simp),h4⟩⟩
  rcases List.mem_cons.1 hy with rfl|hy
  ·exact hx
  ·exact⟨(h3 y hy).1,fun hm=>(h3 y hy).2 (by simp[hm])⟩
theorem names_apart{p:Prg}{i:Nat}(h:okP p=true)(hi:i<p.tasks.length):(p.shared.map (·.name)++(p.tasks.getD i Tsk.none).arrays.map (·.name)).Nodup∧(p.tasks.getD i Tsk.none).vars.Nodup ∧
 (∀ x∈(p.tasks.getD i Tsk.none).vars,x∉p.shared.map (·.name)++(p.tasks.getD i Tsk.none).arrays.map (·.name)):=by
 obtain⟨_,h1,_⟩:=okP_parts h
 have h2:=(taskF_nil (task_in h hi).2).1
 obtain⟨_,n1⟩:=declF_nodup h1
 obtain⟨n2,n3⟩:=declF_nodup h2
 rw[List.nodup_append] at n3
 have hk:∀ x,memB (p.shared.map (·.name)) x=false→x∉p.shared.map (·.name):=fun x hx hm=>by rw[memB_iff.2 hm] at hx;cases hx
 refine⟨List.nodup_append.2 ⟨n1,n3.2.1,fun a ha b hb e=>?_⟩,n3.1,fun x hx hm=>?_⟩
 ·subst e
  exact hk a (n2 a (by simp only[List.mem_append];exact .inr hb)).1 ha
 ·rcases List.mem_append.1 hm with hm|hm
  ·exact hk x (n2 x (by simp only[List.mem_append];exact .inl hx)).1 hm
  ·exact n3.2.2 x hx x hm rfl
