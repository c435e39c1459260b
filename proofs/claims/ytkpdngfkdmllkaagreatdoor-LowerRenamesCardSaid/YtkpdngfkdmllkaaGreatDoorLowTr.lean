/- Part. -/
import Derived.Test.YtkpdngfkdmllkaaGreatDoorMg37
namespace Go.Proofs.YtkpdngfkdmllkaaGreatDoor
set_option linter.unusedVariables false
set_option linter.unusedSimpArgs false
open Go.RowKit Go.Maps
set_option maxRecDepth 100000
set_option maxHeartbeats 8000000
theorem Tryz.infoBlkL:(Tryz.prog.info? 98).map (fun i=>(i.zero,i.size,i.bytes))=some (some (.agg #[.slice none 0 0,.int .u8 0,.int .i64 0,.int .i64 0,.int .i64 0]),5,56):=by kernel_rfl
abbrev fnObj(n:ByteArray)(r:Int)(av bv:Value):Obj:=.cells #[.string n,.int .i64 r,av,bv] 34
theorem fn_four{w:World}{b:Nat}{x0 x1 x2 x3:Value}{T:TypeId}(h:w.heap[b]? = some (.cells #[x0,x1,x2,x3] T)):w.cell? ⟨b,0,none⟩=some x0∧w.cell? ⟨b,1,none⟩=some x1∧w.cell? ⟨b,2,none⟩=some x2∧w.cell? ⟨b,3,none⟩=some x3∧∀ j,w.frozen? ⟨b,j,none⟩=false:=
 ⟨mem_cell h 0,mem_cell h 1,mem_cell h 2,mem_cell h 3,fun j=>mem_free h j⟩
theorem tsk_eight{w:World}{b:Nat}{t:Tsk}{q:TskPlace}(h:w.heap[b]? = some (tskObj t q)):w.cell? ⟨b,0,none⟩=some (.string t.name)∧w.cell? ⟨b,2,none⟩=some (.slice q.va t.vars.length q.vc)∧w.cell? ⟨b,3,none⟩=some (.slice q.aa t.arrays.length q.ac) ∧
 w.cell? ⟨b,4,none⟩=some (.int .u8 t.body.kind)∧w.cell? ⟨b,5,none⟩=some (.int .i64 t.body.num)∧w.cell? ⟨b,6,none⟩=some (.string t.body.name)∧w.cell? ⟨b,7,none⟩=some (.slice q.ka t.body.len q.kc):=
 ⟨mem_cell h 0,mem_cell h 2,mem_cell h 3,mem_cell h 4,mem_cell h 5,mem_cell h 6,mem_cell h 7⟩
def put4(w:World)(b:Nat)(x0 x1 x2 x3:Value):World:=(((w.setCell ⟨b,0,none⟩ x0).setCell ⟨b,1,none⟩ x1).setCell ⟨b,2,none⟩ x2).setCell ⟨b,3,none⟩ x3
theorem put4_at{w:World}{b:Nat}{y0 y1 y2 y3 x0 x1 x2 x3:Value}{T:TypeId}(h:w.heap[b]? = some (.cells #[y0,y1,y2,y3] T)):(put4 w b x0 x1 x2 x3).heap[b]? = some (.cells #[x0,x1,x2,x3] T):=by
 unfold put4
 rw[mem_set (mem_set (mem_set (mem_set h)))]
 rfl
theorem put4_far{w:World}{b k:Nat}{x0 x1 x2 x3:Value}(h:k≠b):(put4 w b x0 x1 x2 x3).heap[k]? = w.heap[k]?:=by
 unfold put4
 rw[Below.heap_setCell _ _ _ _ h,Below.heap_setCell _ _ _ _ h,Below.heap_setCell _ _ _ _ h,Below.heap_setCell _ _ _ _ h]
theorem put4_below{B:Nat}{a w:World}{b:Nat}{x0 x1 x2 x3:Value}(h:Below B a w)(hb:B≤b):Below B a (put4 w b x0 x1 x2 x3):=
 (((h.setCell (p:=⟨b,0,none⟩) hb _).setCell (p:=⟨b,1,none⟩) hb _).setCell (p:=⟨b,2,none⟩) hb _).setCell (p:=⟨b,3,none⟩) hb _
theorem fn_put{w D:World}{b:Nat}{n:ByteArray}{r:Int}{av:Value}{na:Nat}{xs:List Value}(h:D.heap[b]? = some (fnObj ⟨#[]⟩ 0 (.slice none 0 0) (.slice none 0 0)))(hb:Below w.heap.size w D)(hw:w.heap.size≤b)(ho:D.ownsRow w.heap.size 73 2 av na xs) :
 (put4 D b (.string n) (.int .i64 r) av (.slice none 0 0)).heap[b]? = some (fnObj n r av (.slice none 0 0))∧(put4 D b (.string n) (.int .i64 r) av (.slice none 0 0)).ownsRow w.heap.size 73 2 av na xs∧Below w.heap.size w (put4 D b (.string n) (.int .i64 r) av (.slice none 0 0)):=
 ⟨put4_at h,own_keep ho (fun k hk _=>put4_far (by rintro rfl;exact own_other ho h (by decide) hk)),put4_below hb hw⟩
theorem blk_five{w:World}{b:Nat}{x:BP}(h:w.heap[b]? = some x.obj):w.cell? ⟨b,0,none⟩=some (.slice x.p.a x.p.blk.code.length x.p.c)∧w.cell? ⟨b,1,none⟩=some (.int .u8 x.p.blk.kind)∧w.cell? ⟨b,2,none⟩=some (.int .i64 x.p.blk.x)∧w.cell? ⟨b,3,none⟩=some (.int .i64 x.p.blk.to)∧w.cell? ⟨b,4,none⟩=some (.int .i64 x.p.blk.els):=
 ⟨mem_cell h 0,mem_cell h 1,mem_cell h 2,mem_cell h 3,mem_cell h 4⟩
theorem blks_rows{w:World}{N B n bc:Nat}{ba:Option Addr}{L:List BP}(h:w.ownsRow N 98 5 (.slice ba n bc) n ((L.map (·.p)).flatMap BlkP.cells))(hn:L.length=n)(hl:n≤1000000)(hw:∀ x∈L,x.p.blk.Wf∧∀ i∈x.p.blk.code,i.Wf)
 (hc:∀ x∈L,w.ownsRow B 100 6 x.p.code x.p.blk.code.length (codeCells x.p.blk.code)) (hs:∀ x∈L,x.p.blk.code.length≤1000000):BlksAt w ba (L.map (·.p.blk)):=by
 refine⟨by rw[List.length_map];omega,fun b hb=>?_,?_⟩
 ·obtain⟨x,hx,rfl⟩:=List.mem_map.1 hb
  exact (hw x hx).1
 ·rcases h.2 with⟨_,e⟩|⟨g,cap,cur,e,_,_,_⟩
  ·exact .inl (by rw[List.length_map,hn];exact e)
  ·injection e with e1 _ e2
   subst e1 e2
   refine .inr ⟨g,0,rfl,fun k b hb=>?_⟩
   rw[List.getElem?_map] at hb
   obtain⟨x,hx,rfl⟩:=Option.map_eq_some_iff.1 hb
   have hxm:=List.mem_of_getElem? hx
   have key:∀ o u,o<5→x.p.cells[o]? = some u→w.cell? ⟨g,0+k*5+o,none⟩=some u:=fun o u ho hu=>by
    rw[Nat.zero_add]
    exact own_cell h ((flat_get BlkP.cells_len (by rw[List.getElem?_map,hx];rfl) ho).trans hu)
   refine⟨x.p.a,x.p.c,⟨key 0 _ (by omega) rfl,key 1 _ (by omega) rfl,key 2 _ (by omega) rfl,key 3 _ (by omega) rfl,key 4 _ (by omega) rfl⟩,?_⟩
   obtain⟨a',c',e9,h9,_⟩:=code_own (hc x hxm) (hw x hxm).2 (by have:=hs x hxm;omega)
   unfold BlkP.code at e9
   injection e9 with e9
   rw[e9]
   exact h9
def FnNew(N:Nat)(w:World)(f:Fn)(aa ba:Option Addr):Prop:=∀ w':World,(∀ k,N≤k→k<w.heap.size→w'.heap[k]? = w.heap[k]?)→FnAt w' f aa ba
theorem FnNew.at_{N:Nat}{w:World}{f:Fn}{aa ba:Option Addr}(h:FnNew N w f aa ba):FnAt w f aa ba:=h w (fun _ _ _=>rfl)
theorem FnNew.mono{N N':Nat}{w:World}{f:Fn}{aa ba:Option Addr}(h:FnNew N w f aa ba)(hN:N'≤N):FnNew N' w f aa ba:=fun w' hw=>h w' (fun k h1 h2=>hw k (Nat.le_trans hN h1) h2)
theorem FnNew.move{N:Nat}{w w2:World}{f:Fn}{aa ba:Option Addr}(h:FnNew N w f aa ba)(hs:w.heap.size≤w2.heap.size)(hm:∀ k,N≤k→k<w.heap.size→w2.heap[k]? = w.heap[k]?):FnNew N w2 f aa ba:=
 fun w' hw=>h w' (fun k h1 h2=>(hw k h1 (Nat.lt_of_lt_of_le h2 hs)).trans (hm k h1 h2))
structure TrK(p:Prg)(t:Tsk)(q:TskPlace)(sa ta:Option Addr)(sc tc b0 b1 b2:Nat)(w:World):Prop where
 px:w.heap[b0]? = some (prgObj p sa sc ta tc)
 tx:w.heap[b1]? = some (tskObj t q)
 rx:w.heap[b2]? = some (fnObj ⟨#[]⟩ 0 (.slice none 0 0) (.slice none 0 0))
section
variable {p:Prg} {t:Tsk} {q:TskPlace} {sa ta:Option Addr} {sc tc b0 b1 b2:Nat} {w w':World} {B:Nat} {m:BM}
theorem TrK.cells(h:TrK p t q sa ta sc tc b0 b1 b2 w)(hk:CellsKept w w'):TrK p t q sa ta sc tc b0 b1 b2 w':=⟨hk _ _ _ _ h.px,hk _ _ _ _ h.tx,hk _ _ _ _ h.rx⟩
theorem TrK.below(h:TrK p t q sa ta sc tc b0 b1 b2 w)(hb:Below w.heap.size w w'):TrK p t q sa ta sc tc b0 b1 b2 w':=⟨mem_keep h.px hb,mem_keep h.tx hb,mem_keep h.rx hb⟩
theorem TrK.fr(h:TrK p t q sa ta sc tc b0 b1 b2 w)(hf:FrL B m w w'):TrK p t q sa ta sc tc b0 b1 b2 w':=
 ⟨hf.still _ _ h.px (by show _≠_∧_;decide),hf.still _ _ h.tx (by show _≠_∧_;decide),hf.still _ _ h.rx (by show _≠_∧_;decide)⟩
end
theorem arr_take{l:List Arr}{j:Nat}(h:j<l.length):l.take (j+1)=l.take j++[l.getD j Arr.none]:=by
 rw[List.take_succ_eq_append_getElem h,List.getD_eq_getElem?_getD,List.getElem?_eq_getElem h];rfl
theorem lenA_next(l0 l:List Arr){j:Nat}(h:j<l.length):lenA (l0++l.take (j+1))=fun s=>if s=(l.getD j Arr.none).name then (l.getD j Arr.none).len else lenA (l0++l.take j) s:=by
 rw[arr_take h,←List.append_assoc,lenA_snoc]
theorem shA_next(l:List Arr){j:Nat}(h:j<l.length):shA (l.take (j+1))=fun s=>if s=(l.getD j Arr.none).name then true else shA (l.take j) s:=by
 rw[arr_take h,shA_snoc]
theorem translate_any(p:Prg)(t:Tsk)(q:TskPlace)(sa ta:Option Addr)(sc tc:Nat)(w:World)(hs:ArrsAt w sa p.shared)(ht:TskIn w t q)(hsl:p.shared.length≤1000)(hal:t.arrays.length≤1000)(hvl:t.vars.length≤1000)(hbs:t.body.size≤10000)(hv:t.body.vld 98=true) :
 Calls Tryz.prog 28 #[p.val sa sc ta tc,.agg (t.cells q)] w fun e w'=>∃ aa ac ba bc,e = .returned (fnVal t.name (lowFn p.shared t).regs aa (lowFn p.shared t).arrays.length ac ba (lowFn p.shared t).blocks.length bc)∧FnNew w.heap.size w' (lowFn p.shared t) aa ba∧Below w.heap.size w w':=by
 obtain⟨A0,h0⟩:∃ A0:World,w.alloc (prgObj p sa sc ta tc)=A0:=⟨_,rfl⟩
 obtain⟨A1,h1⟩:∃ A1:World,A0.alloc (tskObj t q)=A1:=⟨_,rfl⟩
 obtain⟨A2,h2⟩:∃ A2:World,A1.alloc (fnObj ⟨#[]⟩ 0 (.slice none 0 0) (.slice none 0 0))=A2:=⟨_,rfl⟩
 obtain⟨A3,h3⟩:∃ A3:World,A2.alloc (.map #[] 0)=A3:=⟨_,rfl⟩
 obtain⟨A4,h4⟩:∃ A4:World,A3.alloc (.map #[] 0)=A4:=⟨_,rfl⟩
 obtain⟨A5,h5⟩:∃ A5:World,A4.alloc (.map #[] 0)=A5:=⟨_,rfl⟩
 obtain⟨A6,h6⟩:∃ A6:World,A5.alloc (.cells #[.map (some A2.heap.size),.map (some A3.heap.size),.map (some A4.heap.size),.int .i64 0,.int .i64 0,.slice none 0 0,.pointer none] 111)=A6:=⟨_,rfl⟩
 have g0:Below w.heap.size w A0:=by rw[←h0];exact mem_alloc _ _
 have g1:Below A0.heap.size A0 A1:=by rw[←h1];exact mem_alloc _ _
 have g2:Below A1.heap.size A1 A2:=by rw[←h2];exact mem_alloc _ _
 have g3:Below A2.heap.size A2 A3:=by rw[←h3];exact mem_alloc _ _
 have g4:Below A3.heap.size A3 A4:=by rw[←h4];exact mem_alloc _ _
 have g5:Below A4.heap.size A4 A5:=by rw[←h5];exact mem_alloc _ _
 have g6:Below A5.heap.size A5 A6:=by rw[←h6];exact mem_alloc _ _
 have z1:A1.heap.size=A0.heap.size+1:=by rw[←h1];simp
 have z2:A2.heap.size=A1.heap.size+1:=by rw[←h2];simp
 have z3:A3.heap.size=A2.heap.size+1:=by rw[←h3];simp
 have z4:A4.heap.size=A3.heap.size+1:=by rw[←h4];simp
 have z5:A5.heap.size=A4.heap.size+1:=by rw[←h5];simp
 have z0:A0.heap.size=w.heap.size+1:=by rw[←h0];simp
 have k0:A0.heap[w.heap.size]? = some (prgObj p sa sc ta tc):=by rw[←h0];exact mem_new _ _
 have k1:A1.heap[A0.heap.size]? = some (tskObj t q):=by rw[←h1];exact mem_new _ _
 have k2:A2.heap[A1.heap.size]? = some (fnObj ⟨#[]⟩ 0 (.slice none 0 0) (.slice none 0 0)):=by rw[←h2];exact mem_new _ _
 have f3:FMap Tryz.prog LKey A3 A2.heap.size 0 (fun _=>none):=by rw[←h3];exact FMap.made _ _ _
 have f4:FMap Tryz.prog LKey A4 A3.heap.size 0 (fun _=>none):=by rw[←h4];exact FMap.made _ _ _
 have f5:FMap Tryz.prog LKey A5 A4.heap.size 0 (fun _=>none):=by rw[←h5];exact FMap.made _ _ _
 have k6:A6.heap[A5.heap.size]? = some (.cells #[.map (some A2.heap.size),.map (some A3.heap.size),.map (some A4.heap.size),.int .i64 0,.int .i64 0,.slice none 0 0,.pointer none] 111):=by rw[←h6];exact mem_new _ _
 have g36:Below A3.heap.size A3 A6:=mem_then (mem_then g4 g5) g6
 have HB6:Hid (Below w.heap.size w A6):=mem_then (mem_then (mem_then g0 g1) (mem_then g2 g3)) g36
 have HT6:Hid (TrK p t q sa ta sc tc w.heap.size A0.heap.size A1.heap.size A6):=
  ⟨mem_keep k0 (mem_then (mem_then g1 g2) (mem_then g3 g36)),mem_keep k1 (mem_then g2 (mem_then g3 g36)),mem_keep k2 (mem_then g3 g36)⟩
 have HS6:Hid (BdAt w.heap.size 0 ⟨A5.heap.size,A2.heap.size,A3.heap.size,A4.heap.size,0,0,fun _=>none,fun _=>none⟩ ⟨lenA [],shA []⟩ A6 [] [] 0 0 (fun _=>none)):=by
  refine⟨⟨.slice none 0 0,k6,World.ownsRow_nil _ _ _ _⟩,⟨[],⟨fun x hx=>(by cases hx),fun x hx=>(by cases hx),fun i j x y hx=>(by simp at hx),fun i j x y hx=>(by simp at hx),fun x hx=>(by cases hx)⟩,rfl,rfl⟩,⟨f3.below g36,fun s=>rfl⟩,⟨(f4.below g5).below g6,fun s=>rfl⟩,?_,⟨Nat.le_refl _,Nat.le_refl _,Nat.le_refl _,fun q hq=>(by cases hq)⟩,fun s r hs=>(by cases hs),fun s=>i64_0,by decide,?_⟩
  ·exact f5.below g6
  ·refine⟨?_,?_,?_,?_,?_,?_,HB6.out.size⟩ <;> show _ <;> simp only <;> omega
 have HLT:Hid (w.heap.size<A0.heap.size∧A0.heap.size<A1.heap.size∧A1.heap.size<A2.heap.size∧A2.heap.size<A3.heap.size∧A3.heap.size<A4.heap.size∧A4.heap.size<A5.heap.size):=by
  show _∧_
  omega
 obtain⟨bb,hbb⟩:∃ n,A5.heap.size=n:=⟨_,rfl⟩
 obtain⟨lb,hlb⟩:∃ n,A2.heap.size=n:=⟨_,rfl⟩
 obtain⟨sb,hsb⟩:∃ n,A3.heap.size=n:=⟨_,rfl⟩
 obtain⟨vb,hvb⟩:∃ n,A4.heap.size=n:=⟨_,rfl⟩
 have HBB:Hid (A5.heap.size=bb∧A2.heap.size=lb∧A3.heap.size=sb∧A4.heap.size=vb):=⟨hbb,hlb,hsb,hvb⟩
 rw[hbb,hlb,hsb,hvb] at HS6
 rw[hbb,hlb,hsb,hvb] at HLT
 have HS0:=ξ hs
 have HT0:=ξ ht
 have hmm:=@run_makeMap Tryz.prog
 obtain⟨y0,y1⟩:A6.cell? ⟨w.heap.size,0,none⟩=some (.slice sa p.shared.length sc)∧A6.cell? ⟨A0.heap.size,3,none⟩=some (.slice q.aa t.arrays.length q.ac):=⟨mem_cell HT6.out.px 0,mem_cell HT6.out.tx 3⟩
 have HV:=ξ hv
 have HBS:Hid (t.body.size≤10000):=hbs
 unfold Tsk.cells
 clear hbb hlb hsb hvb hs ht hv hbs g0 g1 g2 g3 g4 g5 g6 z0 z1 z2 z3 z4 z5 k0 k1 k2 f3 f4 f5 k6 g36
 go_enter Tryz.func28,Tryz.ntmps28
 go_wp2_with fail
 clear h0 h1 h2 h3 h4 h5 h6 hmm y0 y1
 rw[HBB.out.1,HBB.out.2.1,HBB.out.2.2.1,HBB.out.2.2.2]
 go_loopw [23] (fun iv wr=>∃ (j nl ns:Nat) (FL FS:ByteArray→Option Value),j≤p.shared.length∧iv = .int .i64 (j:Int)∧nl≤j∧ns≤j∧BdAt w.heap.size 0 ⟨bb,lb,sb,vb,nl,ns,FL,FS⟩ ⟨lenA (p.shared.take j),shA (p.shared.take j)⟩ wr [] [] 0 0 (fun _=>none)∧TrK p t q sa ta sc tc w.heap.size A0.heap.size A1.heap.size wr∧Below w.heap.size w wr) (fun iv _=>p.shared.length-(intOf iv).toNat)
 case atStart=>exact⟨0,0,0,_,_,Nat.zero_le _,rfl,Nat.le_refl _,Nat.le_refl _,HS6.out,HT6.out,HB6.out⟩
 case round =>
  clear HS6 HT6 HB6
  obtain⟨j,nl,ns,FL,FS,hj,rfl,hnl,hns,hst,htk,hbw⟩:=hrel
  have HST:=ξ hst
  have HTK:=ξ htk
  have HBW:=ξ hbw
  have hj0:(0:Int)≤(j:Int):=by omega
  clear hst htk hbw
  by_cases hlt:j<p.shared.length
  ·skip
   have hlt2:(j:Int)<(p.shared.length:Int):=by omega
   obtain⟨x,hx⟩:∃ x,p.shared.getD j Arr.none=x:=⟨_,rfl⟩
   obtain⟨kb,ko,rfl,e0,e1,hxs,hxl⟩:=(HS0.out.below HBW.out).2 j hlt
   rw[hx] at e0 e1 hxs hxl
   have HNL:Hid (lenA (p.shared.take (j+1))=fun s=>if s=x.name then x.len else lenA (p.shared.take j) s):=by show _=_;have h9:=lenA_next [] p.shared hlt;rw[hx] at h9;exact h9
   have HNS:Hid (shA (p.shared.take (j+1))=fun s=>if s=x.name then true else shA (p.shared.take j) s):=by show _=_;have h9:=shA_next p.shared hlt;rw[hx] at h9;exact h9
   have HXL:=ξ hxl
   obtain⟨X,hX⟩:∃ X:World,wr.alloc (.cells #[.string x.name,.int .i64 x.len] 73)=X:=⟨_,rfl⟩
   have HBX:Hid (Below wr.heap.size wr X):=by show Below _ _ _;rw[←hX];exact mem_alloc _ _
   have HXX:Hid (X.heap[wr.heap.size]? = some (.cells #[.string x.name,.int .i64 x.len] 73)):=by show _=_;rw[←hX];exact mem_new _ _
   have HSX:=ξ (HST.out.keep HBX.out)
   go_upto_region 5 with fail
   clear hX e0 e1 hx
   have HBD:Hid (Below X.heap.size X X.drew):=(Below.refl _ _).drew
   have HD:=ξ (HSX.out.keep HBD.out)
   have HXD:Hid (X.drew.heap[wr.heap.size]? = some (.cells #[.string x.name,.int .i64 x.len] 73)):=mem_keep HXX.out HBD.out
   refine wp_region_held_drew (S:=fun w'=>w'.cell? ⟨bb,0,none⟩=some (.map (some lb))∧w'.heap[wr.heap.size]? = some (.cells #[.string x.name,.int .i64 x.len] 73)) (by kernel_rfl) ⟨HD.out.cells.1,HXD.out⟩ (fun hHeld=>?_)
   generalize hwd:World.drew X=D at hHeld HBD HD HXD⊢
   clear hwd
   refine hT 0 (ptrV bb) rfl (hy:=?_) (h:=?_)
   ·intro w' hSw;go_simp
   (try simp only[Act.put,pZ])
   refine hT 1 (.pointer (some ⟨bb,0,none⟩)) rfl (hy:=?_) (h:=?_)
   ·intro w' hSw;go_simp
   (try simp only[Act.put,pZ])
   refine hT 2 (.pointer (some ⟨bb,0,none⟩)) rfl (hy:=?_) (h:=?_)
   ·intro w' hSw;go_simp
   (try simp only[Act.put,pZ])
   refine hT 3 (.map (some lb)) rfl (hy:=?_) (h:=?_)
   ·intro w' hSw;have q0:=hSw.1;go_simp
   (try simp only[Act.put,pZ])
   refine hT 4 (.pointer (some ⟨wr.heap.size,0,none⟩)) rfl (hy:=?_) (h:=?_)
   ·intro w' hSw;go_simp
   (try simp only[Act.put,pZ])
   refine hT 5 (.string x.name) rfl (hy:=?_) (h:=?_)
   ·intro w' hSw;have q0:=mem_cell hSw.2 0;go_simp
   (try simp only[Act.put,pZ])
   refine hT 6 (.pointer (some ⟨wr.heap.size,1,none⟩)) rfl (hy:=?_) (h:=?_)
   ·intro w' hSw;go_simp
   (try simp only[Act.put,pZ])
   refine hT 7 (.int .i64 x.len) rfl (hy:=?_) (h:=?_)
   ·intro w' hSw;have q0:=mem_cell hSw.2 1;go_simp
   (try simp only[Act.put,pZ])
   obtain⟨w3,hrun,hst3,hlow3,hck3⟩:=HD.out.setLen (s:=x.name) (n:=x.len) hxs HXL.out (by show nl≤_;omega) (by have:=HLT.out;show lb≠sb;omega)
   have H3:=ξ hst3
   have HL3:=ξ hlow3
   have HC3:=ξ hck3
   clear hst3 hlow3 hck3
   refine hR 8 rfl (fun K hK=>?_)
   go_simp
   refine hK.out _ _ (⟨H3.out.cells.1,HC3.out _ _ _ _ HXD.out⟩) (fun hHeld=>?_)
   clear hK K
   rename_i hOld
   clear hOld
   (try simp only[Act.put,pZ])
   clear hrun hHeld
   refine wpAnyH_done (by kernel_rfl) ?_ _
   go_upto_region 6 with fail
   have HBD4:Hid (Below w3.heap.size w3 w3.drew):=(Below.refl _ _).drew
   have HD4:=ξ (H3.out.keep HBD4.out)
   have HX4:Hid (w3.drew.heap[wr.heap.size]? = some (.cells #[.string x.name,.int .i64 x.len] 73)):=mem_keep (HC3.out _ _ _ _ HXD.out) HBD4.out
   refine wp_region_held_drew (S:=fun w'=>w'.cell? ⟨bb,1,none⟩=some (.map (some sb))∧w'.heap[wr.heap.size]? = some (.cells #[.string x.name,.int .i64 x.len] 73)) (by kernel_rfl) ⟨HD4.out.cells.2.1,HX4.out⟩ (fun hHeld=>?_)
   generalize hwd:World.drew w3=D4 at hHeld HBD4 HD4 HX4⊢
   clear hwd
   refine hT 0 (ptrV bb) rfl (hy:=?_) (h:=?_)
   ·intro w' hSw;go_simp
   (try simp only[Act.put,pZ])
   refine hT 1 (.pointer (some ⟨bb,0,none⟩)) rfl (hy:=?_) (h:=?_)
   ·intro w' hSw;go_simp
   (try simp only[Act.put,pZ])
   refine hT 2 (.pointer (some ⟨bb,1,none⟩)) rfl (hy:=?_) (h:=?_)
   ·intro w' hSw;go_simp
   (try simp only[Act.put,pZ])
   refine hT 3 (.map (some sb)) rfl (hy:=?_) (h:=?_)
   ·intro w' hSw;have q0:=hSw.1;go_simp
   (try simp only[Act.put,pZ])
   refine hT 4 (.pointer (some ⟨wr.heap.size,0,none⟩)) rfl (hy:=?_) (h:=?_)
   ·intro w' hSw;go_simp
   (try simp only[Act.put,pZ])
   refine hT 5 (.string x.name) rfl (hy:=?_) (h:=?_)
   ·intro w' hSw;have q0:=mem_cell hSw.2 0;go_simp
   (try simp only[Act.put,pZ])
   obtain⟨w5,hrun,hst5,hlow5,hck5⟩:=HD4.out.setSh (s:=x.name) hxs (by show ns≤_;omega) (by have:=HLT.out;show lb≠sb;omega)
   have H5:=ξ hst5
   have HL5:=ξ hlow5
   have HC5:=ξ hck5
   clear hst5 hlow5 hck5
   refine hR 6 rfl (fun K hK=>?_)
   go_simp
   refine hK.out _ _ (⟨H5.out.cells.2.1,HC5.out _ _ _ _ HX4.out⟩) (fun hHeld=>?_)
   clear hK K
   rename_i hOld
   clear hOld
   (try simp only[Act.put,pZ])
   clear hrun hHeld
   refine wpAnyH_done (by kernel_rfl) ?_ _
   have HSN:Hid (BdAt w.heap.size 0 ⟨bb,lb,sb,vb,nl+1,ns+1,upd FL x.name (some (.int .i64 x.len)),upd FS x.name (some (.bool true))⟩ ⟨lenA (p.shared.take (j+1)),shA (p.shared.take (j+1))⟩ w5 [] [] 0 0 (fun _=>none)):=by
    show BdAt _ _ _ _ _ _ _ _ _ _
    rw[HNL.out,HNS.out]
    exact H5.out
   have HTN:Hid (TrK p t q (some ⟨kb,ko,none⟩) ta sc tc w.heap.size A0.heap.size A1.heap.size w5):=((((HTK.out.below HBX.out).below HBD.out).cells HC3.out).below HBD4.out).cells HC5.out
   have HBN:Hid (Below w.heap.size w w5):=(mem_then (mem_then HBW.out HBX.out) HBD.out).trans (HL3.out.trans ((HBD4.out.mono H3.out.lt.2.2.2.2).trans HL5.out))
   go_wp2_with fail
   go_roundw
   case rel=>exact⟨j+1,nl+1,ns+1,_,_,by omega,by go_num,by omega,by omega,HSN.out,HTN.out,HBN.out⟩
   case measure=>simp[intOf];omega
  ·obtain rfl:j=p.shared.length:=by omega
   have HST1:Hid (BdAt w.heap.size 0 ⟨bb,lb,sb,vb,nl,ns,FL,FS⟩ ⟨lenA (p.shared++t.arrays.take 0),shA p.shared⟩ wr [] [] 0 0 (fun _=>none)):=by
    have h9:=HST.out
    rw[List.take_length] at h9
    show BdAt _ _ _ _ _ _ _ _ _ _
    rw[List.take_zero,List.append_nil]
    exact h9
   obtain⟨_,_,y3,_⟩:=tsk_eight HTK.out.tx
   clear HST
   go_wp2_with fail
   clear y3
   obtain⟨wo,hwo⟩:∃ wo:World,wo=wr:=⟨_,rfl⟩
   subst hwo
   go_loopw [45] (fun iv wr=>∃ (j nl:Nat) (FL:ByteArray→Option Value),j≤t.arrays.length∧iv = .int .i64 (j:Int)∧nl≤1000+j∧BdAt w.heap.size 0 ⟨bb,lb,sb,vb,nl,ns,FL,FS⟩ ⟨lenA (p.shared++t.arrays.take j),shA p.shared⟩ wr [] [] 0 0 (fun _=>none)∧TrK p t q sa ta sc tc w.heap.size A0.heap.size A1.heap.size wr∧Below w.heap.size w wr) (fun iv _=>t.arrays.length-(intOf iv).toNat)
   case atStart=>exact⟨0,nl,FL,Nat.zero_le _,rfl,by omega,HST1.out,HTK.out,HBW.out⟩
   case round =>
    clear HST1 HTK HBW
    obtain⟨j,nl2,FL2,hj,rfl,hnl2,hst,htk,hbw⟩:=hrel
    have HST:=ξ hst
    have HTK:=ξ htk
    have HBW:=ξ hbw
    have hj0:(0:Int)≤(j:Int):=by omega
    clear hst htk hbw
    by_cases hlt:j<t.arrays.length
    ·skip
     have hlt2:(j:Int)<(t.arrays.length:Int):=by omega
     obtain⟨x,hx⟩:∃ x,t.arrays.getD j Arr.none=x:=⟨_,rfl⟩
     obtain⟨qva,qvc,qaa,qac,qka,qkc⟩:=q
     obtain⟨kb,ko,hka,e0,e1,hxs,hxl⟩:=(HT0.out.arrays.below HBW.out).2 j hlt
     have hka:qaa=some ⟨kb,ko,none⟩:=hka
     subst hka
     rw[hx] at e0 e1 hxs hxl
     have HNL:Hid (lenA (p.shared++t.arrays.take (j+1))=fun s=>if s=x.name then x.len else lenA (p.shared++t.arrays.take j) s):=by show _=_;have h9:=lenA_next p.shared t.arrays hlt;rw[hx] at h9;exact h9
     have HXL:=ξ hxl
     obtain⟨X,hX⟩:∃ X:World,wr.alloc (.cells #[.string x.name,.int .i64 x.len] 73)=X:=⟨_,rfl⟩
     have HBX:Hid (Below wr.heap.size wr X):=by show Below _ _ _;rw[←hX];exact mem_alloc _ _
     have HXX:Hid (X.heap[wr.heap.size]? = some (.cells #[.string x.name,.int .i64 x.len] 73)):=by show _=_;rw[←hX];exact mem_new _ _
     have HSX:=ξ (HST.out.keep HBX.out)
     go_upto_region 11 with fail
     clear hX e0 e1 hx
     have HBD:Hid (Below X.heap.size X X.drew):=(Below.refl _ _).drew
     have HD:=ξ (HSX.out.keep HBD.out)
     have HXD:Hid (X.drew.heap[wr.heap.size]? = some (.cells #[.string x.name,.int .i64 x.len] 73)):=mem_keep HXX.out HBD.out
     refine wp_region_held_drew (S:=fun w'=>w'.cell? ⟨bb,0,none⟩=some (.map (some lb))∧w'.heap[wr.heap.size]? = some (.cells #[.string x.name,.int .i64 x.len] 73)) (by kernel_rfl) ⟨HD.out.cells.1,HXD.out⟩ (fun hHeld=>?_)
     generalize hwd:World.drew X=D at hHeld HBD HD HXD⊢
     clear hwd
     refine hT 0 (ptrV bb) rfl (hy:=?_) (h:=?_)
     ·intro w' hSw;go_simp
     (try simp only[Act.put,pZ])
     refine hT 1 (.pointer (some ⟨bb,0,none⟩)) rfl (hy:=?_) (h:=?_)
     ·intro w' hSw;go_simp
     (try simp only[Act.put,pZ])
     refine hT 2 (.pointer (some ⟨bb,0,none⟩)) rfl (hy:=?_) (h:=?_)
     ·intro w' hSw;go_simp
     (try simp only[Act.put,pZ])
     refine hT 3 (.map (some lb)) rfl (hy:=?_) (h:=?_)
     ·intro w' hSw;have q0:=hSw.1;go_simp
     (try simp only[Act.put,pZ])
     refine hT 4 (.pointer (some ⟨wr.heap.size,0,none⟩)) rfl (hy:=?_) (h:=?_)
     ·intro w' hSw;go_simp
     (try simp only[Act.put,pZ])
     refine hT 5 (.string x.name) rfl (hy:=?_) (h:=?_)
     ·intro w' hSw;have q0:=mem_cell hSw.2 0;go_simp
     (try simp only[Act.put,pZ])
     refine hT 6 (.pointer (some ⟨wr.heap.size,1,none⟩)) rfl (hy:=?_) (h:=?_)
     ·intro w' hSw;go_simp
     (try simp only[Act.put,pZ])
     refine hT 7 (.int .i64 x.len) rfl (hy:=?_) (h:=?_)
     ·intro w' hSw;have q0:=mem_cell hSw.2 1;go_simp
     (try simp only[Act.put,pZ])
     obtain⟨w3,hrun,hst3,hlow3,hck3⟩:=HD.out.setLen (s:=x.name) (n:=x.len) hxs HXL.out (by show nl2≤_;omega) (by have:=HLT.out;show lb≠sb;omega)
     have H3:=ξ hst3
     have HL3:=ξ hlow3
     have HC3:=ξ hck3
     clear hst3 hlow3 hck3
     refine hR 8 rfl (fun K hK=>?_)
     go_simp
     refine hK.out _ _ (⟨H3.out.cells.1,HC3.out _ _ _ _ HXD.out⟩) (fun hHeld=>?_)
     clear hK K
     rename_i hOld
     clear hOld
     (try simp only[Act.put,pZ])
     clear hrun hHeld
     refine wpAnyH_done (by kernel_rfl) ?_ _
     have HSN:Hid (BdAt w.heap.size 0 ⟨bb,lb,sb,vb,nl2+1,ns,upd FL2 x.name (some (.int .i64 x.len)),FS⟩ ⟨lenA (p.shared++t.arrays.take (j+1)),shA p.shared⟩ w3 [] [] 0 0 (fun _=>none)):=by
      show BdAt _ _ _ _ _ _ _ _ _ _
      rw[HNL.out]
      exact H3.out
     have HTN:Hid (TrK p t ⟨qva,qvc,some ⟨kb,ko,none⟩,qac,qka,qkc⟩ sa ta sc tc w.heap.size A0.heap.size A1.heap.size w3):=((HTK.out.below HBX.out).below HBD.out).cells HC3.out
     have HBN:Hid (Below w.heap.size w w3):=(mem_then (mem_then HBW.out HBX.out) HBD.out).trans HL3.out
     go_wp2_with fail
     go_roundw
     case rel=>exact⟨j+1,nl2+1,_,by omega,by go_num,by omega,HSN.out,HTN.out,HBN.out⟩
     case measure=>simp[intOf];omega
    ·obtain rfl:j=t.arrays.length:=by omega
     have HST2:Hid (BdAt w.heap.size 0 ⟨bb,lb,sb,vb,nl2,ns,FL2,FS⟩ (envOf p.shared t.arrays) wr [] [] 0 0 (varsM t.vars 0)):=by
      have h9:=HST.out
      rw[List.take_length] at h9
      exact h9
     obtain⟨_,y2,_⟩:=tsk_eight HTK.out.tx
     clear HST
     go_wp2_with fail
     clear y2
     obtain⟨wo2,hwo⟩:∃ wo:World,wo=wr:=⟨_,rfl⟩
     subst hwo
     obtain⟨m,hm⟩:∃ m:BM,(⟨bb,lb,sb,vb,nl2,ns,FL2,FS⟩:BM)=m:=⟨_,rfl⟩
     have HM:Hid (m.bb=bb∧m.vb=vb):=by show _∧_;rw[←hm];exact⟨rfl,rfl⟩
     rw[hm] at HST2
     rw[←HM.out.1]
     obtain⟨E,hE⟩:∃ E,envOf p.shared t.arrays=E:=⟨_,rfl⟩
     have HE:=ξ hE
     rw[hE] at HST2
     clear hm hE
     go_loopw [61] (fun iv wr=>∃ j:Nat,j≤t.vars.length∧iv = .int .i64 (j:Int)∧BdAt w.heap.size (2*j) m E wr [] [] j 0 (varsM t.vars j)∧TrK p t q sa ta sc tc w.heap.size A0.heap.size A1.heap.size wr∧Below w.heap.size w wr) (fun iv _=>t.vars.length-(intOf iv).toNat)
     case atStart=>exact⟨0,Nat.zero_le _,rfl,HST2.out,HTK.out,HBW.out⟩
     case round =>
      clear HST2 HTK HBW
      obtain⟨j,hj,rfl,hst,htk,hbw⟩:=hrel
      have HST:=ξ hst
      have HTK:=ξ htk
      have HBW:=ξ hbw
      have hj0:(0:Int)≤(j:Int):=by omega
      clear hst htk hbw
      by_cases hlt:j<t.vars.length
      ·skip
       have hlt2:(j:Int)<(t.vars.length:Int):=by omega
       obtain⟨x,hx⟩:∃ x,t.vars.getD j ⟨#[]⟩=x:=⟨_,rfl⟩
       obtain⟨qva,qvc,qaa,qac,qka,qkc⟩:=q
       obtain⟨kb,ko,hka,e0,hxs⟩:=(HT0.out.vars.below HBW.out).2 j hlt
       have hka:qva=some ⟨kb,ko,none⟩:=hka
       subst hka
       rw[hx] at e0 hxs
       have HNV:Hid (varsM t.vars (j+1)=upd (varsM t.vars j) x (some j)):=by show _=_;show upd _ (t.vars.getD j ⟨#[]⟩) _=_;rw[hx]
       go_upto_region 16 with fail
       clear e0 hx
       have HBD:Hid (Below wr.heap.size wr wr.drew):=(Below.refl _ _).drew
       have HD:=ξ (HST.out.keep HBD.out)
       have HFD:Hid (FrL w.heap.size m wr wr.drew):=FrL.of HBD.out HST.out.lt.2.2.2.2
       refine wp_region_held_drew (S:=fun w'=>w'.cell? ⟨m.bb,2,none⟩=some (.map (some m.vb))) (by kernel_rfl) HD.out.cells.2.2.1 (fun hHeld=>?_)
       generalize hwd:World.drew wr=D at hHeld HBD HD HFD⊢
       clear hwd
       refine hT 0 (ptrV m.bb) rfl (hy:=?_) (h:=?_)
       ·intro w' hSw;go_simp
       (try simp only[Act.put,pZ])
       refine hT 1 (.pointer (some ⟨m.bb,0,none⟩)) rfl (hy:=?_) (h:=?_)
       ·intro w' hSw;go_simp
       (try simp only[Act.put,pZ])
       refine hT 2 (.pointer (some ⟨m.bb,2,none⟩)) rfl (hy:=?_) (h:=?_)
       ·intro w' hSw;go_simp
       (try simp only[Act.put,pZ])
       refine hT 3 (.map (some m.vb)) rfl (hy:=?_) (h:=?_)
       ·intro w' hSw;have q0:=hSw;go_simp
       (try simp only[Act.put,pZ])
       refine hT 4 (.string x) rfl (hy:=?_) (h:=?_)
       ·intro w' hSw;go_simp
       (try simp only[Act.put,pZ])
       refine hT 5 (ptrV m.bb) rfl (hy:=?_) (h:=?_)
       ·intro w' hSw;go_simp
       (try simp only[Act.put,pZ])
       refine hR 6 rfl (fun K hK=>?_)
       go_simp
       refine (register_any HD.out (by omega)).mono ?_
       rintro e w3 ⟨rfl,hst3,hfr3⟩
       have H3:=ξ hst3
       have HF3:=ξ (FrL.trans HFD.out hfr3)
       clear hst3 hfr3
       refine hK.out _ _ (H3.out.cells.2.2.1) (fun hHeld=>?_)
       clear hK K
       rename_i hOld
       clear hOld
       (try simp only[Act.put,pZ])
       obtain⟨w5,hrun,hst5,hfr5⟩:=H3.out.setVar (s:=x) (r:=j) hxs (by omega) (by omega)
       have H5:Hid (BdAt w.heap.size (2*(j+1)) m E w5 [] [] (j+1) 0 (varsM t.vars (j+1))):=by
        show BdAt _ _ _ _ _ _ _ _ _ _
        rw[HNV.out]
        exact hst5
       have HF5:=ξ (FrL.trans HF3.out hfr5)
       clear hst5 hfr5
       refine hR 7 rfl (fun K hK=>?_)
       go_simp
       refine hK.out _ _ (H5.out.cells.2.2.1) (fun hHeld=>?_)
       clear hK K
       rename_i hOld
       clear hOld
       (try simp only[Act.put,pZ])
       clear hrun hHeld
       refine wpAnyH_done (by kernel_rfl) ?_ _
       have HTN:Hid (TrK p t ⟨some ⟨kb,ko,none⟩,qvc,qaa,qac,qka,qkc⟩ sa ta sc tc w.heap.size A0.heap.size A1.heap.size w5):=HTK.out.fr HF5.out
       have HBN:Hid (Below w.heap.size w w5):=HBW.out.trans HF5.out.low
       go_wp2_with fail
       go_roundw
       case rel=>exact⟨j+1,by omega,by go_num,H5.out,HTN.out,HBN.out⟩
       case measure=>simp[intOf];omega
      ·obtain rfl:j=t.vars.length:=by omega
       obtain⟨nv,hnv⟩:∃ n,t.vars.length=n:=⟨_,rfl⟩
       have HNV:=ξ hnv
       rw[hnv] at HST hvl
       go_wp2_with fail
       obtain⟨w0',hw0'⟩:∃ wo:World,wo=wr:=⟨_,rfl⟩
       subst hw0'
       refine (start_at (n:=0) HST.out rfl (by omega)).mono ?_
       rintro e w1 ⟨rfl,gg,hst,hfr⟩
       have H1:Hid (BdC w.heap.size (2*nv+1) m E w1 [gg] [] [] nv 0 (varsM t.vars nv)):=hst
       have HF1:=ξ hfr
       have HTK1:=ξ (HTK.out.fr hfr)
       have HB1:Hid (Below w.heap.size w w1):=HBW.out.trans hfr.low
       clear hst hfr HST HTK HBW
       obtain⟨s,hs⟩:∃ s,lowS0 p.shared t=s:=⟨_,rfl⟩
       have HS:=ξ hs
       have hq:=(low_all w.heap.size m E t.body).2 (2*nv+1) w1 [gg] [] [] nv 0 (varsM t.vars nv) q.ka q.kc HV.out H1.out (InB.low (HT0.out.body.toIn) HB1.out) (by have:=HBS.out;omega)
       have e9:t.body.low E 0 ([]:List Blk).length [] nv (varsM t.vars nv)=s:=by rw[←hs,←HE.out];unfold lowS0;rw[hnv];rfl
       rw[e9] at hq
       have HQ:=ξ hq
       obtain⟨_,_,_,y4,y5,y6,y7⟩:=tsk_eight HTK1.out.tx
       clear hs hq e9 hnv
       go_wp2_with fail
       clear y4 y5 y6 y7
       refine HQ.out.mono ?_
       rintro e w2 ⟨rfl,G',hst,hfr⟩
       obtain⟨i,hi⟩:∃ i,s.done.length=i:=⟨_,rfl⟩
       have HI:=ξ hi
       have HG:Hid (([gg]++G').length=i+1):=by show _=_;rw[BdAt.len hst];simp[hi]
       obtain⟨gl,hgl⟩:=BdAt.getG hst (i:=i) (by simp[hi])
       have hql:([]++s.done++[opnB s.code])[i]? = some (opnB s.code):=by rw[List.nil_append];exact get_at hi
       have HFLD:=ξ (BdAt.fld (u:=.int .u8 3) (o:=1) (q':=⟨s.code,3,0,0,0⟩) hst hgl hql rfl ⟨by show (0:Int)≤3;decide,by show (3:Int)≤255;decide,i64_0,i64_0,i64_0⟩ (fun _ _=>rfl))
       obtain⟨W3,hW3⟩:∃ X:World,w2.setCell ⟨gl,1,none⟩ (.int .u8 3)=X:=⟨_,rfl⟩
       rw[hW3] at HFLD
       obtain⟨F,hF⟩:∃ F,s.done++[(⟨s.code,3,0,0,0⟩:Blk)]=F:=⟨_,rfl⟩
       have HFE:=ξ hF
       have H3:Hid (BdAt w.heap.size (2*nv+1+16*t.body.size) m E W3 ([gg]++G') F s.regs 0 s.vars):=by
        have h9:=HFLD.out.1
        have e9:=set_mid s.done [] (opnB s.code) ⟨s.code,3,0,0,0⟩
        rw[hi] at e9
        rw[List.nil_append,e9,hF] at h9
        exact h9
       have HF3:Hid (FrL w.heap.size m w1 W3):=FrL.trans hfr HFLD.out.2
       have HTK3:=ξ (HTK1.out.fr HF3.out)
       have HB3:Hid (Below w.heap.size w W3):=HB1.out.trans HF3.out.low
       have x6:=BdAt.cur6 hst hgl HG.out
       obtain⟨a9,c9,h09,_⟩:=BdAt.at_ hst hgl hql
       have x1:w2.cell? ⟨gl,1,none⟩=some (.int .u8 0):=mem_cell h09 1
       have xf:=mem_free h09
       clear hst hfr hi hgl hql HFLD hF h09 HQ
       go_upto_region 21 with fail
       clear x6 x1 xf hW3
       obtain⟨na,hna⟩:∃ n,t.arrays.length=n:=⟨_,rfl⟩
       have HNA:=ξ hna
       clear hna
       have HIR:Hid (∀ w',Below W3.heap.size W3 w'→IrArrsAt w' q.aa (t.arrays.map arrP)):=fun w' h=>arrs_ir (HT0.out.arrays.below (mem_then HB3.out h))
       have hR9:s.regs≤1000000:=by have:=H3.out.small.1;have:=H3.out.cap;omega
       go_cut [12] (fun v w'=>∃ fb aa ac,v = .pointer (some ⟨fb,0,none⟩)∧W3.heap.size≤fb∧w'.heap[fb]? = some (fnObj t.name (s.regs:Int) (.slice aa na ac) (.slice none 0 0))∧w'.ownsRow W3.heap.size 73 2 (.slice aa na ac) na ((t.arrays.map arrP).flatMap arrOne)∧Below W3.heap.size W3 w')
       case first =>
        have HBD:Hid (Below W3.heap.size W3 W3.drew):=(Below.refl _ _).drew
        refine wp_region_held_drew (S:=fun w'=>Below W3.heap.size W3 w') (by kernel_rfl) HBD.out (fun hHeld=>?_)
        generalize hwd:World.drew W3=D at hHeld HBD⊢
        clear hwd
        have HKK:Hid (∀ w',Below W3.heap.size W3 w'→TrK p t q sa ta sc tc w.heap.size A0.heap.size A1.heap.size w'∧w'.cell? ⟨m.bb,3,none⟩=some (.int .i64 (s.regs:Int))):=fun w' h=>⟨HTK3.out.below h,(BdAt.cells (H3.out.keep h)).2.2.2.1⟩
        have HCL:Hid (∀ w',Below W3.heap.size W3 w'→Calls Tryz.prog 43 #[.slice q.aa na q.ac] w' fun e w''=>∃ v,e = .returned v∧w''.ownsRow w'.heap.size 73 2 v na ((t.arrays.map arrP).flatMap arrOne)∧Below w'.heap.size w' w''):=fun w' h=>by
         have h9:=cloneArr_any (t.arrays.map arrP) q.aa q.ac w' (HIR.out w' h) (by rw[List.length_map];omega)
         rw[List.length_map,HNA.out] at h9
         exact h9
        refine hT 0 (.pointer (some ⟨A0.heap.size,0,none⟩)) rfl (hy:=?_) (h:=?_)
        ·intro w' hSw;go_simp
        (try simp only[Act.put,pZ])
        refine hT 1 (.string t.name) rfl (hy:=?_) (h:=?_)
        ·intro w' hSw;obtain⟨q0,_⟩:=tsk_eight (HKK.out _ hSw).1.tx;go_simp
        (try simp only[Act.put,pZ])
        refine hT 2 (ptrV m.bb) rfl (hy:=?_) (h:=?_)
        ·intro w' hSw;go_simp
        (try simp only[Act.put,pZ])
        refine hT 3 (.pointer (some ⟨m.bb,0,none⟩)) rfl (hy:=?_) (h:=?_)
        ·intro w' hSw;go_simp
        (try simp only[Act.put,pZ])
        refine hT 4 (.pointer (some ⟨m.bb,3,none⟩)) rfl (hy:=?_) (h:=?_)
        ·intro w' hSw;go_simp
        (try simp only[Act.put,pZ])
        refine hT 5 (.int .i64 (s.regs:Int)) rfl (hy:=?_) (h:=?_)
        ·intro w' hSw;have q0:=(HKK.out _ hSw).2;go_simp
        (try simp only[Act.put,pZ])
        refine hT 6 (.pointer (some ⟨A0.heap.size,3,none⟩)) rfl (hy:=?_) (h:=?_)
        ·intro w' hSw;go_simp
        (try simp only[Act.put,pZ])
        refine hT 7 (.slice q.aa na q.ac) rfl (hy:=?_) (h:=?_)
        ·intro w' hSw;obtain⟨_,_,q0,_⟩:=tsk_eight (HKK.out _ hSw).1.tx;rw[HNA.out] at q0;go_simp
        (try simp only[Act.put,pZ])
        refine wpAnyH_ready (rs:=[8,10]) (by kernel_rfl) (by simp) (AllReadyH.cons rfl (fun K hK=>?_) (AllReadyH.cons rfl (fun K hK=>?_) AllReadyH.nil))
        ·go_simp
         refine (HCL.out D HBD.out).mono ?_
         rintro e D1 ⟨v,rfl,hown,hb1⟩
         obtain⟨va,vc,rfl⟩:=own_val hown
         have HBD1:Hid (Below W3.heap.size W3 D1):=mem_then HBD.out hb1
         have HO1:Hid (D1.ownsRow W3.heap.size 73 2 (.slice va na vc) na ((t.arrays.map arrP).flatMap arrOne)):=own_down hown HBD.out.size
         clear hown hb1
         refine hK.out _ _ (HBD1.out) (fun hHeld=>?_)
         clear hK K
         rename_i hOld
         clear hOld
         (try simp only[Act.put,pZ])
         refine hT 9 (.agg #[.string t.name,.int .i64 (s.regs:Int),.slice va na vc,.slice none 0 0]) rfl (hy:=?_) (h:=?_)
         ·intro w' hSw;go_simp
         (try simp only[Act.put,pZ])
         refine hR 10 rfl (fun K hK=>?_)
         go_simp
         obtain⟨D2,hD2⟩:∃ X:World,D1.alloc (fnObj ⟨#[]⟩ 0 (.slice none 0 0) (.slice none 0 0))=X:=⟨_,rfl⟩
         rw[hD2]
         have hx2:D2.heap[D1.heap.size]? = some (fnObj ⟨#[]⟩ 0 (.slice none 0 0) (.slice none 0 0)):=by rw[←hD2];exact mem_new _ _
         have hb2:Below D1.heap.size D1 D2:=by rw[←hD2];exact mem_alloc _ _
         have HX2:=ξ hx2
         have HBD2:=ξ (mem_then HBD1.out hb2)
         have HO2:=ξ (own_below HO1.out hb2)
         clear hD2 hx2 hb2
         refine hK.out _ _ (HBD2.out) (fun hHeld=>?_)
         clear hK K
         rename_i hOld
         clear hOld
         (try simp only[Act.put,pZ])
         have HEND:=ξ (fn_put (n:=t.name) (r:=(s.regs:Int)) (av:=.slice va na vc) HX2.out HBD2.out (show W3.heap.size≤D1.heap.size from HBD1.out.size) HO2.out)
         obtain⟨DE,hDE⟩:∃ X:World,put4 D2 D1.heap.size (.string t.name) (.int .i64 (s.regs:Int)) (.slice va na vc) (.slice none 0 0)=X:=⟨_,rfl⟩
         rw[hDE] at HEND
         unfold put4 at hDE
         obtain⟨q0,q1,q2,q3,qf⟩:=fn_four HX2.out
         refine hR 11 rfl (fun K hK=>?_)
         go_simp
         refine hK.out _ _ (HEND.out.2.2) (fun hHeld=>?_)
         clear hK K
         rename_i hOld
         clear hOld
         (try simp only[Act.put,pZ])
         clear q0 q1 q2 q3 qf hDE hHeld
         refine wpAnyH_done (by kernel_rfl) ?_ _
         go_wp2_with fail
         go_meet
         exact⟨_,_,_,rfl,HBD1.out.size,HEND.out.1,HEND.out.2.1,HEND.out.2.2⟩
        ·go_simp
         obtain⟨D1,hD1⟩:∃ X:World,D.alloc (fnObj ⟨#[]⟩ 0 (.slice none 0 0) (.slice none 0 0))=X:=⟨_,rfl⟩
         rw[hD1]
         have hx1:D1.heap[D.heap.size]? = some (fnObj ⟨#[]⟩ 0 (.slice none 0 0) (.slice none 0 0)):=by rw[←hD1];exact mem_new _ _
         have hb1:Below D.heap.size D D1:=by rw[←hD1];exact mem_alloc _ _
         have HX1:=ξ hx1
         have HBD1:=ξ (mem_then HBD.out hb1)
         clear hD1 hx1 hb1
         refine hK.out _ _ (HBD1.out) (fun hHeld=>?_)
         clear hK K
         rename_i hOld
         clear hOld
         (try simp only[Act.put,pZ])
         refine hR 8 rfl (fun K hK=>?_)
         go_simp
         refine (HCL.out D1 HBD1.out).mono ?_
         rintro e D2 ⟨v,rfl,hown,hb1⟩
         obtain⟨va,vc,rfl⟩:=own_val hown
         have HBD2:Hid (Below W3.heap.size W3 D2):=mem_then HBD1.out hb1
         have HO2:Hid (D2.ownsRow W3.heap.size 73 2 (.slice va na vc) na ((t.arrays.map arrP).flatMap arrOne)):=own_down hown HBD1.out.size
         have HX2:=ξ (mem_keep HX1.out hb1)
         clear hown hb1
         refine hK.out _ _ (HBD2.out) (fun hHeld=>?_)
         clear hK K
         rename_i hOld
         clear hOld
         (try simp only[Act.put,pZ])
         refine hT 9 (.agg #[.string t.name,.int .i64 (s.regs:Int),.slice va na vc,.slice none 0 0]) rfl (hy:=?_) (h:=?_)
         ·intro w' hSw;go_simp
         (try simp only[Act.put,pZ])
         have HEND:=ξ (fn_put (n:=t.name) (r:=(s.regs:Int)) (av:=.slice va na vc) HX2.out HBD2.out (show W3.heap.size≤D.heap.size from HBD.out.size) HO2.out)
         obtain⟨DE,hDE⟩:∃ X:World,put4 D2 D.heap.size (.string t.name) (.int .i64 (s.regs:Int)) (.slice va na vc) (.slice none 0 0)=X:=⟨_,rfl⟩
         rw[hDE] at HEND
         unfold put4 at hDE
         obtain⟨q0,q1,q2,q3,qf⟩:=fn_four HX2.out
         refine hR 11 rfl (fun K hK=>?_)
         go_simp
         refine hK.out _ _ (HEND.out.2.2) (fun hHeld=>?_)
         clear hK K
         rename_i hOld
         clear hOld
         (try simp only[Act.put,pZ])
         clear q0 q1 q2 q3 qf hDE hHeld
         refine wpAnyH_done (by kernel_rfl) ?_ _
         go_wp2_with fail
         go_meet
         exact⟨_,_,_,rfl,HBD.out.size,HEND.out.1,HEND.out.2.1,HEND.out.2.2⟩
       case rest =>
        obtain⟨fb,aa,ac,rfl,hfb,hfx,hown,hBc⟩:=hcut
        obtain⟨w4,hw4⟩:∃ X:World,X=wc:=⟨_,rfl⟩
        subst hw4
        have HFB:Hid (W3.heap.size≤fb):=hfb
        have HBC:=ξ hBc
        have HFX:=ξ hfx
        have HOW:=ξ hown
        obtain⟨rv,hrv,hrow⟩:=(H3.out.keep hBc).box
        have hnG:([gg]++G').length=F.length:=H3.out.len
        obtain⟨n,hn⟩:∃ n,F.length=n:=⟨_,rfl⟩
        have HN:=ξ hn
        have hn0:0<n:=by rw[←hn,←HFE.out];simp
        rw[hnG,hn] at hrow
        obtain⟨rb,rc,rfl⟩:∃ rb rc,rv = .slice (some ⟨rb,0,none⟩) n rc:=by
         obtain⟨ra,rc,rfl⟩:=own_val hrow
         obtain⟨rb,rfl,_⟩:=own_at hrow hn0
         exact⟨rb,rc,rfl⟩
        have hnN:n≤1000000:=by have h9:=H3.out.small.2.2.1;have:=H3.out.cap;omega
        have x5:w4.cell? ⟨m.bb,5,none⟩=some (.slice (some ⟨rb,0,none⟩) n rc):=mem_cell hrv 5
        have HROW:Hid (∀ w',Below w4.heap.size w4 w'∨Below W3.heap.size W3 w'→∀ j g,([gg]++G')[j]? = some g→w'.cell? ⟨rb,j,none⟩=some (ptrV g)):=by
         obtain⟨rv3,hrv3,hrow3⟩:=H3.out.box
         rw[hnG,hn] at hrow3
         have e9:rv3 = .slice (some ⟨rb,0,none⟩) n rc:=by
          have h9:=mem_keep hrv3 hBc
          rw[hrv] at h9
          injection h9 with h9
          injection h9 with h9
          injection h9 with h9
          injection h9 with _ h9
          injection h9 with _ h9
          injection h9 with _ h9
          injection h9 with _ h9
          injection h9 with _ h9
          injection h9 with h9 _
          exact h9.symm
         intro w' hw' j g hg
         have hb':Below W3.heap.size W3 w':=by
          rcases hw' with h|h
          ·exact mem_then hBc h
          ·exact h
         rw[e9] at hrow3
         exact own_get (own_below hrow3 hb') (by rw[List.getElem?_map,hg];rfl)
        obtain⟨L,hbl,hLG,hLF⟩:=H3.out.blks
        have HBL:=ξ hbl
        have HLG:=ξ hLG
        have HLF:=ξ hLF
        have HLN:Hid (L.length=n):=by have h9:=congrArg List.length hLF;rw[List.length_map] at h9;exact h9.trans hn
        obtain⟨i0,hi0,hz0,hz1,hz2⟩:=info_parts Tryz.infoBlkL
        clear hfb hfx hown hBc hrv hrow hnG hn hbl hLG hLF
        go_wp2_with fail
        clear x5
        go_loopw [100] (fun iv wr=>∃ (j:Nat) (ba:Option Addr) (bc:Nat),j≤n∧iv = .int .i64 (j:Int)∧Below W3.heap.size W3 wr∧wr.heap[fb]? = some (fnObj t.name (s.regs:Int) (.slice aa na ac) (.slice ba j bc))∧wr.ownsRow W3.heap.size 73 2 (.slice aa na ac) na ((t.arrays.map arrP).flatMap arrOne)∧wr.ownsRow W3.heap.size 98 5 (.slice ba j bc) j (((L.take j).map (·.p)).flatMap BlkP.cells)) (fun iv _=>n-(intOf iv).toNat)
        case atStart=>exact⟨0,none,0,Nat.zero_le _,rfl,HBC.out,HFX.out,HOW.out,World.ownsRow_nil _ _ _ _⟩
        case round =>
         clear HBC HFX HOW
         obtain⟨j,ba,bc,hj,rfl,hB,hfx,hown,hrow⟩:=hrel
         have HB:=ξ hB
         have HFX:=ξ hfx
         have HOW:=ξ hown
         have HRW:=ξ hrow
         have hj0:(0:Int)≤(j:Int):=by omega
         clear hB hfx hown hrow
         by_cases hlt:j<n
         ·skip
          have hlt2:(j:Int)<(n:Int):=by omega
          obtain⟨x,hx⟩:∃ x,L[j]? = some x:=⟨_,List.getElem?_eq_getElem (by rw[HLN.out];exact hlt)⟩
          have hgx:([gg]++G')[j]? = some x.g:=by rw[←HLG.out,List.getElem?_map,hx];rfl
          have x0:wr.cell? ⟨rb,j,none⟩=some (ptrV x.g):=HROW.out wr (.inr HB.out) j x.g hgx
          have HXO:Hid (∀ w',Below W3.heap.size W3 w'→w'.heap[x.g]? = some x.obj):=fun w' h=>mem_keep (HBL.out.obj x (List.mem_of_getElem? hx)).1 h
          have HTK5:Hid ((L.take (j+1)).map (·.p)=(L.take j).map (·.p)++[x.p]):=by show _=_;rw[List.take_add_one,hx];simp
          clear hx hgx
          go_upto_region 25 with fail
          clear x0
          have hBD:Below wr.heap.size wr wr.drew:=(Below.refl _ _).drew
          refine wp_region_z 8 (S:=fun w'=>w'.heap[fb]? = some (fnObj t.name (s.regs:Int) (.slice aa na ac) (.slice ba j bc))∧w'.heap[x.g]? = some x.obj) (by kernel_rfl) ⟨mem_keep HFX.out hBD,HXO.out _ (mem_then HB.out hBD)⟩ (fun hHeld=>?_)
          generalize hwd:World.drew wr=D at hHeld hBD⊢
          clear hwd
          have HBD:=ξ hBD
          clear hBD
          refine zT 0 (.pointer (some ⟨fb,3,none⟩)) rfl (hy:=?_) (h:=?_)
          ·intro w' hSw;go_simp
          (try simp only[Act.put,pZ])
          refine zT 1 (.slice ba j bc) rfl (hy:=?_) (h:=?_)
          ·intro w' hSw;obtain⟨_,_,_,q3,_⟩:=fn_four hSw.1;go_simp
          (try simp only[Act.put,pZ])
          refine zT 2 (ptrV x.g) rfl (hy:=?_) (h:=?_)
          ·intro w' hSw;go_simp
          (try simp only[Act.put,pZ])
          refine zT 3 (.pointer (some ⟨x.g,0,none⟩)) rfl (hy:=?_) (h:=?_)
          ·intro w' hSw;go_simp
          (try simp only[Act.put,pZ])
          refine zT 4 (.agg #[.slice x.p.a x.p.blk.code.length x.p.c,.int .u8 x.p.blk.kind,.int .i64 x.p.blk.x,.int .i64 x.p.blk.to,.int .i64 x.p.blk.els]) rfl (hy:=?_) (h:=?_)
          ·intro w' hSw;obtain⟨q0,q1,q2,q3,q4⟩:=blk_five hSw.2;go_simp
          (try simp only[Act.put,pZ])
          refine zR 5 rfl (fun K hK=>?_)
          go_simp
          obtain⟨D2,hD2⟩:∃ V:World,D.alloc (.cells #[.slice x.p.a x.p.blk.code.length x.p.c,.int .u8 x.p.blk.kind,.int .i64 x.p.blk.x,.int .i64 x.p.blk.to,.int .i64 x.p.blk.els] 98)=V:=⟨_,rfl⟩
          rw[hD2]
          have hB2:Below D.heap.size D D2:=by rw[←hD2];exact mem_alloc _ _
          have HLIT:Hid (∀ (j:Nat) (y:Value),x.p.cells[j]? = some y→D2.cell? ((⟨D.heap.size,0,none⟩:Addr).add j)=some y):=by
           show ∀ _ _,_
           rw[←hD2]
           exact blk_new D x.p _
          have HBV:=ξ (mem_then HBD.out hB2)
          clear hD2 hB2
          refine hK.out _ _ (⟨mem_keep HFX.out HBV.out,HXO.out _ (mem_then HB.out HBV.out)⟩) (fun hHeld=>?_)
          clear hK K
          rename_i hOld
          clear hOld
          (try simp only[Act.put,pZ])
          refine zR 6 rfl (fun K hK=>?_)
          refine step_append_row rfl (.tmp 105) (.tmp 109) 32 rfl W3.heap.size 98 i0 _ 5 56 Tryz.underlying32 hi0 hz0 hz1 hz2 rfl (by decide) (.slice ba j bc) j (((L.take j).map (·.p)).flatMap BlkP.cells) (by simp[Act.eval]) (own_below HRW.out HBV.out) ⟨D.heap.size,0,none⟩ 1 1 x.p.cells (by simp[Act.eval]) rfl HLIT.out x.p.one (by decide) (by unfold maxLen;omega) (by omega) (by have:=HB.out.size;have:=HBV.out.size;omega) ?_
          intro gb cap w6 hown6 hgrow6 hplace6
          have keep9:∀ (k:Nat) o,wr.heap[k]? = some o→(Value.slice ba j bc).ownBlock≠some k→w6.heap[k]? = some o:=fun k o hk ht=>(hgrow6.block k (Nat.lt_of_lt_of_le (mem_lt hk) HBV.out.size) (fun e=>ht e.symm)).trans (mem_keep hk HBV.out)
          have HF6:Hid (w6.heap[fb]? = some (fnObj t.name (s.regs:Int) (.slice aa na ac) (.slice ba j bc))):=keep9 _ _ HFX.out (own_other HRW.out HFX.out (by decide))
          have HB6:Hid (Below W3.heap.size W3 w6):=(mem_then HB.out HBV.out).grown hgrow6 (by have:=HB.out.size;have:=HBV.out.size;omega) (fun k hk=>(own_lt HRW.out hk).1)
          have HOW6:Hid (w6.ownsRow W3.heap.size 73 2 (.slice aa na ac) na ((t.arrays.map arrP).flatMap arrOne)):=own_keep HOW.out (fun k hk hl=>by
           rcases HOW.out.2 with⟨e,_⟩|⟨g',cap',cur,e,_,hc1,_⟩
           ·rw[e] at hk;cases hk
           ·rw[e] at hk
            cases hk
            exact (keep9 _ _ hc1 (own_other HRW.out hc1 (by decide))).trans hc1.symm)
          have HOWN:=ξ hown6
          clear hown6 hgrow6 hplace6 keep9
          refine hK.out _ _ (⟨HF6.out,HXO.out _ HB6.out⟩) (fun hHeld=>?_)
          clear hK K
          rename_i hOld
          clear hOld
          (try simp only[Act.put,pZ])
          refine zT 7 (.pointer (some ⟨fb,3,none⟩)) rfl (hy:=?_) (h:=?_)
          ·intro w' hSw;go_simp
          (try simp only[Act.put,pZ])
          obtain⟨_,_,_,c0,f0⟩:=fn_four HF6.out
          refine wpAnyZ_ready (rs:=[8]) (by kernel_rfl) (by simp) (AllReadyZ.last rfl (by decide) (fun K hK=>?_) AllReadyZ.nil)
          go_simp
          refine hK.out _ _ ?_
          clear hK K
          (try simp only[Act.put,pZ])
          clear c0 f0 hHeld
          refine wpAnyZ_done (by kernel_rfl) ?_ _
          obtain⟨WE,hWE⟩:∃ W:World,w6.setCell ⟨fb,3,none⟩ (.slice (some ⟨gb,0,none⟩) (j+1) cap)=W:=⟨_,rfl⟩
          rw[hWE]
          have hfar:∀ k,k≠fb→WE.heap[k]? = w6.heap[k]?:=fun k hk=>by rw[←hWE];exact Below.heap_setCell _ _ _ _ hk
          have HEX:Hid (WE.heap[fb]? = some (fnObj t.name (s.regs:Int) (.slice aa na ac) (.slice (some ⟨gb,0,none⟩) (j+1) cap))):=by show _=_;rw[←hWE,mem_set HF6.out];rfl
          have HEB:Hid (Below W3.heap.size W3 WE):=by show Below _ _ _;rw[←hWE];exact HB6.out.setCell (p:=⟨fb,3,none⟩) HFB.out _
          have HEO:Hid (WE.ownsRow W3.heap.size 73 2 (.slice aa na ac) na ((t.arrays.map arrP).flatMap arrOne)):=own_keep HOW6.out (fun k hk _=>hfar k (by rintro rfl;exact own_other HOW6.out HF6.out (by decide) hk))
          have HER:Hid (WE.ownsRow W3.heap.size 98 5 (.slice (some ⟨gb,0,none⟩) (j+1) cap) (j+1) (((L.take (j+1)).map (·.p)).flatMap BlkP.cells)):=by
           show World.ownsRow _ _ _ _ _ _ _
           rw[HTK5.out,flat_snoc]
           exact own_keep HOWN.out (fun k hk _=>hfar k (by rintro rfl;exact own_other HOWN.out HF6.out (by decide) hk))
          clear hWE hfar
          go_wp2_with fail
          go_roundw
          case rel=>exact⟨j+1,_,_,by omega,by go_num,HEB.out,HEX.out,HEO.out,HER.out⟩
          case measure=>simp[intOf];omega
         ·obtain rfl:j=n:=by omega
          have hx:=HFX.out
          obtain⟨u0,u1,u2,u3,_⟩:=fn_four hx
          obtain⟨v0,v1,v2,v3,vf⟩:=fn_four (HTK3.out.below HB.out).rx
          have hlt9:A1.heap.size<W3.heap.size:=mem_lt HTK3.out.rx
          obtain⟨WE,hWE⟩:∃ X:World,put4 wr A1.heap.size (.string t.name) (.int .i64 (s.regs:Int)) (.slice aa na ac) (.slice ba j bc)=X:=⟨_,rfl⟩
          have HEX:Hid (WE.heap[A1.heap.size]? = some (fnObj t.name (s.regs:Int) (.slice aa na ac) (.slice ba j bc))):=by show _=_;rw[←hWE];exact put4_at (HTK3.out.below HB.out).rx
          have hfar:∀ k,k≠A1.heap.size→WE.heap[k]? = wr.heap[k]?:=fun k hk=>by rw[←hWE];exact put4_far hk
          have HBE:Hid (Below w.heap.size w WE):=by
           show Below _ _ _
           rw[←hWE]
           exact put4_below (HB3.out.trans (HB.out.mono HB3.out.size)) (by have:=HLT.out;omega)
          have HAE:Hid (WE.ownsRow W3.heap.size 73 2 (.slice aa na ac) na ((t.arrays.map arrP).flatMap arrOne)):=own_keep HOW.out (fun k hk _=>hfar k (by have:=(own_lt HOW.out hk).1;omega))
          have HRE:Hid (WE.ownsRow W3.heap.size 98 5 (.slice ba j bc) j ((L.map (·.p)).flatMap BlkP.cells)):=by
           have h9:=HRW.out
           rw[List.take_of_length_le (by rw[HLN.out];exact Nat.le_refl _)] at h9
           exact own_keep h9 (fun k hk _=>hfar k (by have:=(own_lt h9 hk).1;omega))
          have HCE:Hid (∀ x∈L,WE.ownsRow w.heap.size 100 6 x.p.code x.p.blk.code.length (codeCells x.p.blk.code)):=fun x hx=>own_keep ((HBL.out.keep HB.out).code x hx) (fun k hk _=>hfar k (by rintro rfl;exact own_other ((HBL.out.keep HB.out).code x hx) (HTK3.out.below HB.out).rx (by decide) hk))
          unfold put4 at hWE
          clear hx
          go_wp2_with fail
          clear hWE u0 u1 u2 u3 v0 v1 v2 v3 vf hfar
          obtain⟨r0,r1,r2,r3,_⟩:=fn_four HEX.out
          have HFN:Hid (FnNew w.heap.size WE (lowFn p.shared t) aa ba):=by
           intro WF hWF
           have hW3:w.heap.size≤W3.heap.size:=HB3.out.size
           have HAF:=own_keep HAE.out (fun k hk hl=>hWF k (Nat.le_trans hW3 (own_lt HAE.out hk).1) hl)
           have HRF:=own_keep HRE.out (fun k hk hl=>hWF k (Nat.le_trans hW3 (own_lt HRE.out hk).1) hl)
           have HCF:∀ x∈L,WF.ownsRow w.heap.size 100 6 x.p.code x.p.blk.code.length (codeCells x.p.blk.code):=fun x hx=>own_keep (HCE.out x hx) (fun k hk hl=>hWF k (own_lt (HCE.out x hx) hk).1 hl)
           have hbk:(lowFn p.shared t).blocks=L.map (·.p.blk):=by
            show (lowS0 p.shared t).done++_=_
            rw[HS.out,HLF.out]
            exact HFE.out
           refine⟨?_,?_,?_,HT0.out.name⟩
           ·obtain⟨a',c',e,h9⟩:=arrs_own (l:=t.arrays.map arrP) (v:=.slice aa na ac) (by rw[List.length_map,HNA.out];exact HAF) (by rw[List.length_map];omega) (fun x hx=>by
             have h9:=(arrs_ir HT0.out.arrays).sizes x hx
             exact h9)
            injection e with e
            rw[e]
            exact h9
           ·rw[hbk]
            exact blks_rows HRF HLN.out hnN (fun x hx=>(HBL.out.wf x hx)) HCF (fun x hx=>by have h9:=H3.out.small.2.2.2 x.p.blk (by rw[←HLF.out];exact List.mem_map_of_mem hx);have:=H3.out.cap;omega)
           ·show irI64 (((lowS0 p.shared t).regs:Nat):Int)
            rw[HS.out]
            exact i64_nat hR9
          refine bodyPost_ret (v:=fnVal t.name (s.regs:Int) aa na ac ba j bc) (by simp[results,Tryz.results28,go_sem,r0,r1,r2,r3]) rfl ?_
          refine⟨aa,ac,ba,bc,?_,HFN.out,HBE.out⟩
          have e1:(lowFn p.shared t).arrays.length=na:=by show (t.arrays.map arrP).length=na;rw[List.length_map,HNA.out]
          have e2:(lowFn p.shared t).blocks.length=j:=by
           show ((lowS0 p.shared t).done++_).length=j
           rw[HS.out,HFE.out,HN.out]
          have e3:(lowFn p.shared t).regs=(s.regs:Int):=by show (((lowS0 p.shared t).regs:Nat):Int)=_;rw[HS.out]
          rw[e1,e2,e3]
