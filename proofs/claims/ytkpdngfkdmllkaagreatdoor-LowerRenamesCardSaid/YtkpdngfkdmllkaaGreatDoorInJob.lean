/- Part. -/
import Derived.Test.YtkpdngfkdmllkaaGreatDoorInJobE
import Derived.Laws.EntriesVeiled
namespace Go.Proofs.YtkpdngfkdmllkaaGreatDoor
set_option linter.unusedVariables false
set_option linter.unusedSimpArgs false
open Go.RowKit Go.Maps
set_option maxRecDepth 100000
set_option maxHeartbeats 80000000
def OutAt(w:World)(a:Option Addr)(l:List (Int×Int)):Prop:=l.length≤9223372036854775807∧∀ (k:Nat) (x:Int×Int),l[k]? = some x→∃ b o,a=some ⟨b,o,none⟩∧w.cell? ⟨b,o+k*2,none⟩=some (.int .i64 x.1)∧w.cell? ⟨b,o+k*2+1,none⟩=some (.int .i32 x.2)
theorem OutAt.below{w w':World}{a:Option Addr}{l:List (Int×Int)}(h:OutAt w a l)(hb:Below w.heap.size w w'):OutAt w' a l:=
 ⟨h.1,fun k x hx=>by obtain⟨b,o,h1,h2,h3⟩:=h.2 k x hx;exact⟨b,o,h1,cell_stay hb h2,cell_stay hb h3⟩⟩
theorem out_get {l : List (Int × Int)} {k : Nat} {x : Int × Int} (h : l[k]? = some x) : (outCells l)[k * 2]? = some (.int .i64 x.1) ∧ (outCells l)[k * 2 + 1]? = some (.int .i32 x.2) := by
  induction l generalizing k with
  | nil => cases h
  | cons y l ih =>
    have e : outCells (y :: l) = .int .i64 y.1 :: .int .i32 y.2 :: outCells l := rfl
    rw [e]
    cases k with
    | zero => have h : y = x := by simpa using h
              subst h; exact ⟨rfl, rfl⟩
    | succ k =>
      have h := ih (k := k) (by simpa using h)
      rw [show (k + 1) * 2 = k * 2 + 1 + 1 by omega]
      exact h
theorem out_at{B n c:Nat}{w:World}{a:Option Addr}{l:List (Int×Int)}(h:w.ownsRow B 64 2 (.slice a n c) l.length (outCells l))(hl:l.length≤9223372036854775807):n=l.length∧OutAt w a l:=by
 have hn:n=l.length:=by
  rcases h.2 with⟨e,_⟩|⟨g,cap,cur,e,_⟩
  ·cases e
   have h1:=h.1
   have:(outCells ([]:List (Int×Int))).length=0:=rfl
   have h2:l.length=0:=by
    rename_i hx
    cases l with
    | nil=>rfl
    | cons y l=>cases hx
   omega
  ·cases e;rfl
 subst hn
 refine⟨rfl,hl,fun k x hx=>?_⟩
 have hk:=(List.getElem?_eq_some_iff.1 hx).1
 obtain⟨g,rfl,_⟩:=own_at h (by omega)
 obtain⟨h1,h2⟩:=out_get hx
 exact⟨g,0,rfl,by rw[Nat.zero_add];exact own_get h h1,by rw[Nat.zero_add];exact own_get h h2⟩
abbrev Res.val(R:Res)(aa:Option Addr)(ac:Nat)(sa:Option Addr)(sc:Nat)(oa:Option Addr)(oc:Nat):Value:=
 .agg #[.slice aa R.mem.arrays.length ac,.slice sa R.mem.shared.length sc,.slice oa R.out.length oc,.int .i64 (R.rd:Int),.int .i64 (R.st:Int),.int .i64 R.err]
structure ResAt(w:World)(R:Res)(aa sa oa:Option Addr):Prop where
 mem:MemAt w R.mem aa sa
 out:OutAt w oa R.out
theorem own_cap{N n c:Nat}{w:World}{e:TypeId}{size:Nat}{a:Option Addr}{xs:List Value}(h:w.ownsRow N e size (.slice a n c) n xs):n≤c:=by
 rcases h.2 with⟨e1,_⟩|⟨g,cap,cur,e1,_,_,hn,_⟩
 ·cases e1;exact Nat.le_refl _
 ·cases e1;exact hn
def JobQ(R:Res)(w:World)(e:Ending)(w':World):Prop:=∃ aa ac sa sc oa oc,e = .returned (R.val aa ac sa sc oa oc)∧ResAt w' R aa sa oa∧Below w.heap.size w w'∧R.out.length≤oc∧MemTy w' R.mem aa sa
abbrev resObj(a s o:Value)(rd st err:Int):Obj:=.cells #[a,s,o,.int .i64 rd,.int .i64 st,.int .i64 err] 41
theorem fail_at{w:World}{e:Int}:ResAt w (Res.fail e) none none none:=
 ⟨⟨⟨Nat.zero_le _,.inl rfl⟩,⟨Nat.zero_le _,.inl rfl⟩⟩,Nat.zero_le _,fun k x h=>by cases h⟩
theorem res_cells{w:World}{b:Nat}{x0 x1 x2 x3 x4 x5:Value}{T:TypeId}(h:w.heap[b]? = some (.cells #[x0,x1,x2,x3,x4,x5] T)) :
 w.cell? ⟨b,0,none⟩=some x0∧w.cell? ⟨b,1,none⟩=some x1∧w.cell? ⟨b,2,none⟩=some x2∧w.cell? ⟨b,3,none⟩=some x3∧w.cell? ⟨b,4,none⟩=some x4∧w.cell? ⟨b,5,none⟩=some x5:=
 ⟨mem_cell h 0,mem_cell h 1,mem_cell h 2,mem_cell h 3,mem_cell h 4,mem_cell h 5⟩
theorem fail_ty{w:World}{e:Int}:MemTy w (Res.fail e).mem none none:=⟨.inl rfl,fun k r hk=>(nomatch hk),.inl rfl⟩
def set6(w:World)(b:Nat)(x0 x1 x2 x3 x4 x5:Value):World:=
 (((((w.setCell ⟨b,0,none⟩ x0).setCell ⟨b,1,none⟩ x1).setCell ⟨b,2,none⟩ x2).setCell ⟨b,3,none⟩ x3).setCell ⟨b,4,none⟩ x4).setCell ⟨b,5,none⟩ x5
theorem set6_at{w:World}{b:Nat}{y0 y1 y2 y3 y4 y5 x0 x1 x2 x3 x4 x5:Value}{T:TypeId}(h:w.heap[b]? = some (.cells #[y0,y1,y2,y3,y4,y5] T)):(set6 w b x0 x1 x2 x3 x4 x5).heap[b]? = some (.cells #[x0,x1,x2,x3,x4,x5] T):=by
 unfold set6
 rw[mem_set (mem_set (mem_set (mem_set (mem_set (mem_set h)))))]
 rfl
theorem set6_far{w:World}{b k:Nat}{x0 x1 x2 x3 x4 x5:Value}(h:k≠b):(set6 w b x0 x1 x2 x3 x4 x5).heap[k]? = w.heap[k]?:=by
 unfold set6
 rw[Below.heap_setCell _ _ _ _ h,Below.heap_setCell _ _ _ _ h,Below.heap_setCell _ _ _ _ h,Below.heap_setCell _ _ _ _ h,Below.heap_setCell _ _ _ _ h,Below.heap_setCell _ _ _ _ h]
theorem set6_below{B:Nat}{a w:World}{b:Nat}{x0 x1 x2 x3 x4 x5:Value}(h:Below B a w)(hb:B≤b):Below B a (set6 w b x0 x1 x2 x3 x4 x5):=
 (((((h.setCell (p:=⟨b,0,none⟩) hb _).setCell (p:=⟨b,1,none⟩) hb _).setCell (p:=⟨b,2,none⟩) hb _).setCell (p:=⟨b,3,none⟩) hb _).setCell (p:=⟨b,4,none⟩) hb _).setCell (p:=⟨b,5,none⟩) hb _
theorem cont_info:(Tryz.prog.info? 27).map (fun i=>(i.zero,i.size,i.bytes))=some (some (.slice none 0 0),1,24):=by kernel_rfl
theorem job_any(p:Prg)(task:Int)(M:Mem)(inp:List Int)(F:Int)(w:World)(sa ta:Option Addr)(sc tc:Nat)(ma ms:Option Addr)(mac msc:Nat)(ia:Option Addr)(ic:Nat)
 (hp:PrgAt w p sa ta) (hm:MemAt w M ma ms) (hi:WordsAt w ia inp) (hg:SignsIn w) (ht:isI64 task) (hF:F≤1000000) (hil:inp.length≤1000000) :
 Calls Tryz.prog 8 #[p.val sa sc ta tc,.int .i64 task,M.val ma mac ms msc,.slice ia inp.length ic,.int .i64 F] w (JobQ (jobP p task M inp F) w):=by
 have hsl:=hp.1.1
 have htl:=hp.2.1
 have hml:=hm.1.fits
 have hmsl:=hm.2.fits
 obtain⟨W,hW⟩:∃ W:World,w.alloc (prgObj p sa sc ta tc)=W:=⟨_,rfl⟩
 have hBW:Below w.heap.size w W:=by rw[←hW];exact mem_alloc _ _
 have hXW:W.heap[w.heap.size]? = some (prgObj p sa sc ta tc):=by rw[←hW];exact mem_new _ _
 obtain⟨W2,hW2⟩:∃ W2:World,W.alloc (memObj M ma mac ms msc)=W2:=⟨_,rfl⟩
 have hBW2:Below W.heap.size W W2:=by rw[←hW2];exact mem_alloc _ _
 have hXW2:W2.heap[W.heap.size]? = some (memObj M ma mac ms msc):=by rw[←hW2];exact mem_new _ _
 obtain⟨W3,hW3⟩:∃ W3:World,W2.alloc (resObj (.slice none 0 0) (.slice none 0 0) (.slice none 0 0) 0 0 0)=W3:=⟨_,rfl⟩
 have hBW3:Below W2.heap.size W2 W3:=by rw[←hW3];exact mem_alloc _ _
 have hXW3:W3.heap[W2.heap.size]? = some (resObj (.slice none 0 0) (.slice none 0 0) (.slice none 0 0) 0 0 0):=by rw[←hW3];exact mem_new _ _
 have HB3:Hid (Below w.heap.size w W3):=mem_then hBW (mem_then hBW2 hBW3)
 have hlt:Hid (w.heap.size<W.heap.size∧W.heap.size<W2.heap.size∧W2.heap.size<W3.heap.size):=⟨mem_lt hXW,mem_lt hXW2,mem_lt hXW3⟩
 have HLT:=hlt
 have HK:Hid (∀ w',Below W3.heap.size W3 w'→w'.heap[w.heap.size]? = some (prgObj p sa sc ta tc)∧w'.heap[W.heap.size]? = some (memObj M ma mac ms msc)∧w'.heap[W2.heap.size]? = some (resObj (.slice none 0 0) (.slice none 0 0) (.slice none 0 0) 0 0 0)∧PrgAt w' p sa ta∧MemAt w' M ma ms∧WordsAt w' ia inp∧SignsIn w'∧Below w.heap.size w w'):=fun w' hw=>by
  have hb:=mem_then HB3.out hw
  exact⟨mem_keep (mem_keep hXW (mem_then hBW2 hBW3)) hw,mem_keep (mem_keep hXW2 hBW3) hw,mem_keep hXW3 hw,hp.below hb,hm.below hb,hi.below hb,hg.below hb,hb⟩
 have HFAIL:Hid (∀ (e:Int) (w':World),Below W3.heap.size W3 w'→(set6 w' W2.heap.size (.slice none 0 0) (.slice none 0 0) (.slice none 0 0) (.int .i64 0) (.int .i64 0) (.int .i64 e)).heap[W2.heap.size]? = some (resObj (.slice none 0 0) (.slice none 0 0) (.slice none 0 0) 0 0 e)∧Below w.heap.size w (set6 w' W2.heap.size (.slice none 0 0) (.slice none 0 0) (.slice none 0 0) (.int .i64 0) (.int .i64 0) (.int .i64 e))):=fun e w' hw=>by
  have hk:=HK.out w' hw
  exact⟨set6_at hk.2.2.1,set6_below hk.2.2.2.2.2.2.2 (by have:=hlt.out;omega)⟩
 obtain⟨hx1,_,_,hp3,_,_,hg3,_⟩:=HK.out W3 (Below.refl _ _)
 have HOK:=ξ (ok15_any p W3 sa ta sc tc hp3 hg3)
 have x0:=mem_cell hx1 0
 have x1:=mem_cell hx1 1
 simp only[List.getElem?_toArray,List.getElem?_cons_zero,List.getElem?_cons_succ] at x0 x1
 clear hp hm hi hg hBW hXW hBW2 hXW2 hBW3 hXW3 hx1 hp3 hg3
 obtain⟨R,hR⟩:∃ R,jobP p task M inp F=R:=⟨_,rfl⟩
 have HR:=ξ hR
 rw[hR]
 clear hR
 go_enter Tryz.func8,Tryz.ntmps8
 go_wp2_with fail
 clear hW hW2 hW3 x0 x1
 refine HOK.out.mono ?_
 rintro e w4 ⟨rfl,hB4⟩
 have HB4:=ξ hB4
 obtain⟨hx1,hx2,hx3,_⟩:=HK.out w4 hB4
 have x0:=mem_cell hx1 0
 have x1:=mem_cell hx1 1
 have y0:=mem_cell hx2 0
 have y1:=mem_cell hx2 1
 simp only[List.getElem?_toArray,List.getElem?_cons_zero,List.getElem?_cons_succ] at x0 x1 y0 y1
 cases hok:okP p with
 | false =>
  have HE:Hid (R = .fail 3):=by show _=_;rw[←HR.out];unfold jobP;rw[if_pos hok]
  obtain⟨z0,z1,z2,z3,z4,z5⟩:=res_cells hx3
  have f0:=mem_free hx3 0
  have f1:=mem_free hx3 1
  have f2:=mem_free hx3 2
  have f3:=mem_free hx3 3
  have f4:=mem_free hx3 4
  have f5:=mem_free hx3 5
  obtain⟨E,hE⟩:∃ E:World,set6 w4 W2.heap.size (.slice none 0 0) (.slice none 0 0) (.slice none 0 0) (.int .i64 0) (.int .i64 0) (.int .i64 3)=E:=⟨_,rfl⟩
  have hf:=HFAIL.out 3 w4 hB4
  rw[hE] at hf
  unfold set6 at hE
  obtain⟨q0,q1,q2,q3,q4,q5⟩:=res_cells hf.1
  have HF:=ξ hf.2
  clear hok hB4 hx1 hx2 hx3 HOK hf
  go_wp2_with fail
  refine bodyPost_ret (v:=.agg #[.slice none 0 0,.slice none 0 0,.slice none 0 0,.int .i64 0,.int .i64 0,.int .i64 3]) (by simp[results,Tryz.results8,go_sem,q0,q1,q2,q3,q4,q5]) rfl ?_
  exact⟨none,0,none,0,none,0,by rw[HE.out];rfl,by rw[HE.out];exact fail_at,HF.out,by rw[HE.out];exact Nat.zero_le _,by rw[HE.out];exact fail_ty⟩
 | true =>
 have HOKK:=ξ hok
 have hJ1:∀ X:Res,(if okP p=false then Res.fail 3 else X)=X:=fun X=>if_neg (by rw[hok];decide)
 have HR2:Hid ((if task<0∨(p.tasks.length:Int)≤task then Res.fail 2 else if fitsP p M=false then .fail 14 else runR p task.toNat M ((p.tasks.getD task.toNat Tsk.none).body.ex F inp (jobS p task.toNat M)))=R):=by
  show _=_;rw[←HR.out];unfold jobP;rw[hJ1]
 clear hok hJ1 HR HOK
 by_cases hneg:task<0
 ·skip
  have hnb:decide (task<0)=true:=by simpa using hneg
  have HE:Hid (R = .fail 2):=by show _=_;rw[←HR2.out];rw[if_pos (Or.inl hneg)]
  obtain⟨z0,z1,z2,z3,z4,z5⟩:=res_cells hx3
  have f0:=mem_free hx3 0
  have f1:=mem_free hx3 1
  have f2:=mem_free hx3 2
  have f3:=mem_free hx3 3
  have f4:=mem_free hx3 4
  have f5:=mem_free hx3 5
  obtain⟨E,hE⟩:∃ E:World,set6 w4 W2.heap.size (.slice none 0 0) (.slice none 0 0) (.slice none 0 0) (.int .i64 0) (.int .i64 0) (.int .i64 2)=E:=⟨_,rfl⟩
  have hf:=HFAIL.out 2 w4 hB4
  rw[hE] at hf
  unfold set6 at hE
  obtain⟨q0,q1,q2,q3,q4,q5⟩:=res_cells hf.1
  have HF:=ξ hf.2
  clear hneg hB4 hx1 hx2 hx3 hf
  go_wp2_with fail
  refine bodyPost_ret (v:=.agg #[.slice none 0 0,.slice none 0 0,.slice none 0 0,.int .i64 0,.int .i64 0,.int .i64 2]) (by simp[results,Tryz.results8,go_sem,q0,q1,q2,q3,q4,q5]) rfl ?_
  exact⟨none,0,none,0,none,0,by rw[HE.out];rfl,by rw[HE.out];exact fail_at,HF.out,by rw[HE.out];exact Nat.zero_le _,by rw[HE.out];exact fail_ty⟩
 have hnb:decide (task<0)=false:=by simpa using hneg
 by_cases hbig:(p.tasks.length:Int)≤task
 ·skip
  have hbb:decide ((p.tasks.length:Int)≤task)=true:=by simpa using hbig
  have HE:Hid (R = .fail 2):=by show _=_;rw[←HR2.out];rw[if_pos (Or.inr hbig)]
  obtain⟨z0,z1,z2,z3,z4,z5⟩:=res_cells hx3
  have f0:=mem_free hx3 0
  have f1:=mem_free hx3 1
  have f2:=mem_free hx3 2
  have f3:=mem_free hx3 3
  have f4:=mem_free hx3 4
  have f5:=mem_free hx3 5
  obtain⟨E,hE⟩:∃ E:World,set6 w4 W2.heap.size (.slice none 0 0) (.slice none 0 0) (.slice none 0 0) (.int .i64 0) (.int .i64 0) (.int .i64 2)=E:=⟨_,rfl⟩
  have hf:=HFAIL.out 2 w4 hB4
  rw[hE] at hf
  unfold set6 at hE
  obtain⟨q0,q1,q2,q3,q4,q5⟩:=res_cells hf.1
  have HF:=ξ hf.2
  clear hneg hbig hB4 hx1 hx2 hx3 hf
  go_wp2_with fail
  refine bodyPost_ret (v:=.agg #[.slice none 0 0,.slice none 0 0,.slice none 0 0,.int .i64 0,.int .i64 0,.int .i64 2]) (by simp[results,Tryz.results8,go_sem,q0,q1,q2,q3,q4,q5]) rfl ?_
  exact⟨none,0,none,0,none,0,by rw[HE.out];rfl,by rw[HE.out];exact fail_at,HF.out,by rw[HE.out];exact Nat.zero_le _,by rw[HE.out];exact fail_ty⟩
 have hbb:decide ((p.tasks.length:Int)≤task)=false:=by simpa using hbig
 have HR3:Hid ((if fitsP p M=false then Res.fail 14 else runR p task.toNat M ((p.tasks.getD task.toNat Tsk.none).body.ex F inp (jobS p task.toNat M)))=R):=by
  show _=_;rw[←HR2.out];exact (if_neg (fun h=>h.elim hneg hbig)).symm
 obtain⟨i,hti⟩:∃ i:Nat,task=(i:Int):=⟨task.toNat,by omega⟩
 subst hti
 have hil2:i<p.tasks.length:=by omega
 rw[Int.toNat_natCast] at HR3
 obtain⟨_,_,_,hp4,hm4,_,hg4,_⟩:=HK.out w4 hB4
 have HFT:=ξ (fits16_any p M w4 sa ta sc tc ma ms mac msc hp4 hm4 hg4)
 clear hneg hbig hB4 hx1 hx2 hx3 hp4 hm4 hg4 HR2 ht
 go_wp2_with fail
 clear x0 x1 y0 y1
 refine HFT.out.mono ?_
 rintro e w5 ⟨rfl,hB5⟩
 have hB5:=mem_then HB4.out hB5
 have HB5:=ξ hB5
 obtain⟨hx1,hx2,hx3,_⟩:=HK.out w5 hB5
 cases hft:fitsP p M with
 | false =>
  have HE:Hid (R = .fail 14):=by show _=_;rw[←HR3.out];rw[if_pos hft]
  obtain⟨z0,z1,z2,z3,z4,z5⟩:=res_cells hx3
  have f0:=mem_free hx3 0
  have f1:=mem_free hx3 1
  have f2:=mem_free hx3 2
  have f3:=mem_free hx3 3
  have f4:=mem_free hx3 4
  have f5:=mem_free hx3 5
  obtain⟨E,hE⟩:∃ E:World,set6 w5 W2.heap.size (.slice none 0 0) (.slice none 0 0) (.slice none 0 0) (.int .i64 0) (.int .i64 0) (.int .i64 14)=E:=⟨_,rfl⟩
  have hf:=HFAIL.out 14 w5 hB5
  rw[hE] at hf
  unfold set6 at hE
  obtain⟨q0,q1,q2,q3,q4,q5⟩:=res_cells hf.1
  have HF:=ξ hf.2
  clear hft hB5 hx1 hx2 hx3 hf HFT
  go_wp2_with fail
  refine bodyPost_ret (v:=.agg #[.slice none 0 0,.slice none 0 0,.slice none 0 0,.int .i64 0,.int .i64 0,.int .i64 14]) (by simp[results,Tryz.results8,go_sem,q0,q1,q2,q3,q4,q5]) rfl ?_
  exact⟨none,0,none,0,none,0,by rw[HE.out];rfl,by rw[HE.out];exact fail_at,HF.out,by rw[HE.out];exact Nat.zero_le _,by rw[HE.out];exact fail_ty⟩
 | true =>
 have HFIT:=ξ hft
 have HR4:Hid (runR p i M ((p.tasks.getD i Tsk.none).body.ex F inp (jobS p i M))=R):=by
  show _=_;rw[←HR3.out];rw[if_neg (by rw[hft];decide)]
 have y0:=mem_cell hx2 0
 have y1:=mem_cell hx2 1
 simp only[List.getElem?_toArray,List.getElem?_cons_zero,List.getElem?_cons_succ] at y0 y1
 clear hft hB5 hx1 hx2 hx3 HR3 HFT HFAIL
 have HFP:=ξ (fit_of HFIT.out)
 obtain⟨_,_,_,_,hm5,_⟩:=HK.out w5 HB5.out
 have h9:=copyLists_any M.shared ms msc w5 hm5.2 (by have:=HFP.out.slen.1;omega) (fun l hl=>by have:=HFP.out.slen.2 l hl;omega)
 have H9:=ξ h9
 clear h9 hm5
 go_wp2_with fail
 clear y0 y1
 refine H9.out.mono ?_
 rintro e w6 ⟨sv,svs,rfl,hsv,hB6⟩
 obtain⟨sva,svc,rfl⟩:=own_val hsv.ro
 have HB6:=ξ (mem_then HB5.out hB6)
 obtain⟨RW,hRW⟩:∃ N:World,w6.alloc (resObj (.slice none 0 0) (.slice sva M.shared.length svc) (.slice none 0 0) 0 0 0)=N:=⟨_,rfl⟩
 have hBRW:Below w6.heap.size w6 RW:=by rw[←hRW];exact mem_alloc _ _
 have hXRW:RW.heap[w6.heap.size]? = some (resObj (.slice none 0 0) (.slice sva M.shared.length svc) (.slice none 0 0) 0 0 0):=by rw[←hRW];exact mem_new _ _
 have HBRW:Hid (Below W3.heap.size W3 RW):=mem_then HB6.out hBRW
 have HXRW:=ξ hXRW
 have HSV0:=ξ (hsv.keep hBRW)
 have HRWE:=ξ hRW
 have HW36:Hid (W3.heap.size≤w6.heap.size):=HB6.out.size
 have HRWW:Hid (W3.heap.size≤RW.heap.size):=HBRW.out.size
 obtain⟨hx1,hx2,_⟩:=HK.out RW HBRW.out
 have y0:=mem_cell hx2 0
 simp only[List.getElem?_toArray,List.getElem?_cons_zero] at y0
 obtain⟨i3,hi3,h30,h31,h32⟩:=info_parts cont_info
 clear H9 hsv hB6 hRW hBRW hXRW hx1 hx2
 go_upto_region 8 with fail
 rw[HRWE.out]
 go_wp2_with fail
 clear y0
 go_loopw [52] (fun iv wr=>∃ (j:Nat) (v:Value) (vs:List Value) (us:List (List Value)),j≤M.arrays.length∧iv = .int .i64 (j:Int)∧wr.heap[w6.heap.size]? = some (resObj v (.slice sva M.shared.length svc) (.slice none 0 0) 0 0 0)∧L3Own RW.heap.size wr v vs us (M.arrays.take j)∧LOwn w5.heap.size wr (.slice sva M.shared.length svc) svs M.shared∧Below W3.heap.size W3 wr∧RW.heap.size≤wr.heap.size) (fun iv _=>M.arrays.length-(intOf iv).toNat)
 case atStart=>exact⟨0,_,[],[],Nat.zero_le _,rfl,HXRW.out,by rw[List.take_zero];exact L3Own.nil,HSV0.out,HBRW.out,Nat.le_refl _⟩
 case round =>
  obtain⟨j,v,vs,us,hj,rfl,hrb,hown,hsv,hB,hrws⟩:=hrel
  have HRB:=ξ hrb
  have HOWN:=ξ hown
  have HSV:=ξ hsv
  have HBR:=ξ hB
  have hj0:(0:Int)≤(j:Int):=by omega
  obtain⟨va,vc,rfl⟩:=own_val hown.ro
  have htl:(M.arrays.take j).length=j:=by rw[List.length_take];omega
  have HTL:=ξ htl
  rw[htl] at HRB HOWN
  have HVR:Hid (wr.ownsRow RW.heap.size 27 1 (.slice va j vc) j vs):=by have h:=HOWN.out.ro;rw[HTL.out] at h;exact h
  have HRWS:=ξ hrws
  clear hrb hown hsv hB htl hrws
  by_cases hlt:j<M.arrays.length
  ·skip
   have hlt2:(j:Int)<(M.arrays.length:Int):=by omega
   obtain⟨r,hr⟩:∃ r,M.arrays[j]? = some r:=⟨_,List.getElem?_eq_getElem hlt⟩
   obtain⟨_,hrl,hrl2⟩:=HFP.out.task j r hr
   have hrl:r.length≤1000000:=by omega
   obtain⟨_,_,_,_,hmr,_⟩:=HK.out wr HBR.out
   obtain⟨mb,mo,rfl,ra,rc,hcell,_,hw⟩:=hmr.1.row hr
   have HWR:=ξ hw
   have hrf:=hw.fits
   have hbl:=World.block_lt_of_cell? _ _ hcell
   have HTK:Hid (M.arrays.take (j+1)=M.arrays.take j++[r]):=by show _=_;rw[List.take_add_one,hr];rfl
   have hml2:M.arrays.length≤8:=by have:=HFP.out.len;have:=(prgOk_le HFP.out.ok).2.1;omega
   clear hr hmr hw
   go_upto_region 11 with fail
   clear hcell
   have hD0:Below wr.heap.size wr (World.drew wr):=(Below.refl _ _).drew
   refine wp_region_held_drew (S:=fun w'=>Below W3.heap.size W3 w') (by kernel_rfl) (mem_then HBR.out hD0) (fun hHeld=>?_)
   generalize hwd:World.drew wr=v1 at hHeld hD0⊢
   clear hwd
   have HD0:=ξ hD0
   clear hD0
   refine hT 0 (.pointer (some ⟨w6.heap.size,0,none⟩)) rfl (hy:=?_) (h:=?_)
   ·intro w' hSw;go_simp
   (try simp only[Act.put,pZ])
   refine hT 1 (.pointer (some ⟨w6.heap.size,0,none⟩)) rfl (hy:=?_) (h:=?_)
   ·intro w' hSw;go_simp
   (try simp only[Act.put,pZ])
   refine hT 3 (.slice ra r.length rc) rfl (hy:=?_) (h:=?_)
   ·intro w' hSw;go_simp
   (try simp only[Act.put,pZ])
   refine wpAnyH_ready (rs:=[2,4]) (by kernel_rfl) (by simp) (AllReadyH.cons rfl (fun K hK=>?_) (AllReadyH.cons rfl (fun K hK=>?_) AllReadyH.nil))
   ·have z0:=mem_cell (mem_keep HRB.out (HD0.out)) 0
    simp only[List.getElem?_toArray,List.getElem?_cons_zero] at z0
    go_simp
    refine hK.out _ _ (mem_then HBR.out HD0.out) (fun hHeld=>?_)
    clear hK K
    rename_i hOld
    clear hOld
    (try simp only[Act.put,pZ])
    clear z0
    refine hR 4 rfl (fun K hK=>?_)
    go_simp
    have h9:=copyLists_any r ra rc v1 (HWR.out.below (HD0.out)) hrl (fun l hl=>by have:=hrl2 l hl;omega)
    have H9:=ξ h9
    have HBX:Hid (Below wr.heap.size wr v1):=HD0.out
    clear h9
    refine H9.out.mono ?_
    rintro e w7 ⟨u,uq,rfl,hu,hB7⟩
    obtain⟨ua,uc,rfl⟩:=own_val hu.ro
    have HU:=ξ hu
    have HB7:=ξ hB7
    clear hu hB7 H9
    refine hK.out _ _ (mem_then HBR.out (mem_then HBX.out HB7.out)) (fun hHeld=>?_)
    clear hK K
    rename_i hOld
    clear hOld
    (try simp only[Act.put,pZ])
    refine hR 5 rfl (fun K hK=>?_)
    go_simp
    refine hK.out _ _ (mem_then HBR.out (mem_then HBX.out (mem_then HB7.out (mem_alloc _ _)))) (fun hHeld=>?_)
    clear hK K
    rename_i hOld
    clear hOld
    (try simp only[Act.put,pZ])
    refine hR 6 rfl (fun K hK=>?_)
    refine step_append_src _ rfl (.tmp 58) (.tmp 61) 26 rfl RW.heap.size 27 i3 _ 1 24 Tryz.underlying26 hi3 h30 h31 h32 rfl (by decide) (.slice va j vc) j vs (by simp[Act.eval]) (own_below HVR.out (mem_then HBX.out (mem_then HB7.out (mem_alloc _ _)))) (some ⟨w7.heap.size,0,none⟩) 1 1 [.slice ua r.length uc] (by simp[Act.eval]) (src_new (mem_new _ _) rfl) (by simp[Value.oneCell']) (by unfold maxLen;omega) (by omega) (Nat.le_trans HRWS.out (mem_then HBX.out (mem_then HB7.out (mem_alloc _ _))).size) ?_
    intro r9 w9 hown hgrow _
    obtain⟨ra9,rc9,rfl⟩:=own_val hown
    have hV:=mem_then HBX.out (mem_then HB7.out (mem_alloc w7 (.cells #[.slice ua r.length uc] 27)))
    have hx9:=grown_other (own_below HVR.out hV) hgrow _ _ _ (mem_keep HRB.out hV) (by decide)
    have HL9:Hid (L3Own RW.heap.size (w9.setCell ⟨w6.heap.size,0,none⟩ (.slice ra9 (j+1) rc9)) (.slice ra9 (j+1) rc9) (vs++[.slice ua r.length uc]) (us++[uq]) (M.arrays.take (j+1))):=by
     show L3Own _ _ _ _ _ _
     rw[HTK.out]
     refine L3Own.move (T:=41) (HOWN.out.push hV ((HU.out.down HBX.out.size).keep (mem_alloc _ _)) HRWS.out ?_ ?_) (by decide) (by decide) (by decide) (set_other hx9)
     ·exact hgrow
     ·rw[HTL.out];exact hown
    have HS9:Hid (LOwn w5.heap.size (w9.setCell ⟨w6.heap.size,0,none⟩ (.slice ra9 (j+1) rc9)) (.slice sva M.shared.length svc) svs M.shared):=
     ((HSV.out.keep hV).move (T:=27) (by decide) (by decide) (grown_other (own_below HVR.out hV) hgrow)).move (T:=41) (by decide) (by decide) (set_other hx9)
    have HRB9:Hid ((w9.setCell ⟨w6.heap.size,0,none⟩ (.slice ra9 (j+1) rc9)).heap[w6.heap.size]? = some (resObj (.slice ra9 (j+1) rc9) (.slice sva M.shared.length svc) (.slice none 0 0) 0 0 0)):=by show _=_;rw[mem_set hx9];rfl
    have HB9':Hid (Below W3.heap.size W3 w9):=(mem_then HBR.out hV).grown hgrow (mem_then HBR.out hV).size (fun b hb=>by have:=(own_lt (own_below HVR.out hV) hb).1;have:=HRWW.out;omega)
    have HB9:Hid (Below W3.heap.size W3 (w9.setCell ⟨w6.heap.size,0,none⟩ (.slice ra9 (j+1) rc9))):=HB9'.out.setCell (p:=⟨w6.heap.size,0,none⟩) HW36.out _
    have HSZ9:Hid (RW.heap.size≤(w9.setCell ⟨w6.heap.size,0,none⟩ (.slice ra9 (j+1) rc9)).heap.size):=by have h1:=HRWS.out;have h2:=hV.size;have h3:=hgrow.size;show _≤_;simp at h2 h3 ⊢;omega
    have f9:=mem_free hx9 0
    have c9:=mem_cell hx9 0
    simp only[List.getElem?_toArray,List.getElem?_cons_zero] at c9
    clear hown hgrow hV hx9
    refine hK.out _ _ (HB9'.out) (fun hHeld=>?_)
    clear hK K
    rename_i hOld
    clear hOld
    (try simp only[Act.put,pZ])
    refine hT 7 (.pointer (some ⟨w6.heap.size,0,none⟩)) rfl (hy:=?_) (h:=?_)
    ·intro w' hSw;go_simp
    (try simp only[Act.put,pZ])
    refine hT 8 (.pointer (some ⟨w6.heap.size,0,none⟩)) rfl (hy:=?_) (h:=?_)
    ·intro w' hSw;go_simp
    (try simp only[Act.put,pZ])
    refine hR 9 rfl (fun K hK=>?_)
    go_simp
    refine hK.out _ _ (HB9.out) (fun hHeld=>?_)
    clear hK K
    rename_i hOld
    clear hOld
    (try simp only[Act.put,pZ])
    clear f9 c9 hHeld
    refine wpAnyH_done (by kernel_rfl) ?_ _
    go_wp2_with fail
    go_roundw
    case rel=>exact⟨j+1,.slice ra9 (j+1) rc9,_,_,by omega,by go_num,HRB9.out,HL9.out,HS9.out,HB9.out,HSZ9.out⟩
    case measure=>simp[intOf];omega
   ·go_simp
    have h9:=copyLists_any r ra rc v1 (HWR.out.below (HD0.out)) hrl (fun l hl=>by have:=hrl2 l hl;omega)
    have H9:=ξ h9
    have HBX:Hid (Below wr.heap.size wr v1):=HD0.out
    clear h9
    refine H9.out.mono ?_
    rintro e w7 ⟨u,uq,rfl,hu,hB7⟩
    obtain⟨ua,uc,rfl⟩:=own_val hu.ro
    have HU:=ξ hu
    have HB7:=ξ hB7
    clear hu hB7 H9
    refine hK.out _ _ (mem_then HBR.out (mem_then HBX.out HB7.out)) (fun hHeld=>?_)
    clear hK K
    rename_i hOld
    clear hOld
    (try simp only[Act.put,pZ])
    refine wpAnyH_ready (rs:=[2,5]) (by kernel_rfl) (by simp) (AllReadyH.cons rfl (fun K hK=>?_) (AllReadyH.cons rfl (fun K hK=>?_) AllReadyH.nil))
    ·have z0:=mem_cell (mem_keep HRB.out (mem_then HBX.out HB7.out)) 0
     simp only[List.getElem?_toArray,List.getElem?_cons_zero] at z0
     go_simp
     refine hK.out _ _ (mem_then HBR.out (mem_then HBX.out HB7.out)) (fun hHeld=>?_)
     clear hK K
     rename_i hOld
     clear hOld
     (try simp only[Act.put,pZ])
     clear z0
     refine hR 5 rfl (fun K hK=>?_)
     go_simp
     refine hK.out _ _ (mem_then HBR.out (mem_then HBX.out (mem_then HB7.out (mem_alloc _ _)))) (fun hHeld=>?_)
     clear hK K
     rename_i hOld
     clear hOld
     (try simp only[Act.put,pZ])
     refine hR 6 rfl (fun K hK=>?_)
     refine step_append_src _ rfl (.tmp 58) (.tmp 61) 26 rfl RW.heap.size 27 i3 _ 1 24 Tryz.underlying26 hi3 h30 h31 h32 rfl (by decide) (.slice va j vc) j vs (by simp[Act.eval]) (own_below HVR.out (mem_then HBX.out (mem_then HB7.out (mem_alloc _ _)))) (some ⟨w7.heap.size,0,none⟩) 1 1 [.slice ua r.length uc] (by simp[Act.eval]) (src_new (mem_new _ _) rfl) (by simp[Value.oneCell']) (by unfold maxLen;omega) (by omega) (Nat.le_trans HRWS.out (mem_then HBX.out (mem_then HB7.out (mem_alloc _ _))).size) ?_
     intro r9 w9 hown hgrow _
     obtain⟨ra9,rc9,rfl⟩:=own_val hown
     have hV:=mem_then HBX.out (mem_then HB7.out (mem_alloc w7 (.cells #[.slice ua r.length uc] 27)))
     have hx9:=grown_other (own_below HVR.out hV) hgrow _ _ _ (mem_keep HRB.out hV) (by decide)
     have HL9:Hid (L3Own RW.heap.size (w9.setCell ⟨w6.heap.size,0,none⟩ (.slice ra9 (j+1) rc9)) (.slice ra9 (j+1) rc9) (vs++[.slice ua r.length uc]) (us++[uq]) (M.arrays.take (j+1))):=by
      show L3Own _ _ _ _ _ _
      rw[HTK.out]
      refine L3Own.move (T:=41) (HOWN.out.push hV ((HU.out.down HBX.out.size).keep (mem_alloc _ _)) HRWS.out ?_ ?_) (by decide) (by decide) (by decide) (set_other hx9)
      ·exact hgrow
      ·rw[HTL.out];exact hown
     have HS9:Hid (LOwn w5.heap.size (w9.setCell ⟨w6.heap.size,0,none⟩ (.slice ra9 (j+1) rc9)) (.slice sva M.shared.length svc) svs M.shared):=
      ((HSV.out.keep hV).move (T:=27) (by decide) (by decide) (grown_other (own_below HVR.out hV) hgrow)).move (T:=41) (by decide) (by decide) (set_other hx9)
     have HRB9:Hid ((w9.setCell ⟨w6.heap.size,0,none⟩ (.slice ra9 (j+1) rc9)).heap[w6.heap.size]? = some (resObj (.slice ra9 (j+1) rc9) (.slice sva M.shared.length svc) (.slice none 0 0) 0 0 0)):=by show _=_;rw[mem_set hx9];rfl
     have HB9':Hid (Below W3.heap.size W3 w9):=(mem_then HBR.out hV).grown hgrow (mem_then HBR.out hV).size (fun b hb=>by have:=(own_lt (own_below HVR.out hV) hb).1;have:=HRWW.out;omega)
     have HB9:Hid (Below W3.heap.size W3 (w9.setCell ⟨w6.heap.size,0,none⟩ (.slice ra9 (j+1) rc9))):=HB9'.out.setCell (p:=⟨w6.heap.size,0,none⟩) HW36.out _
     have HSZ9:Hid (RW.heap.size≤(w9.setCell ⟨w6.heap.size,0,none⟩ (.slice ra9 (j+1) rc9)).heap.size):=by have h1:=HRWS.out;have h2:=hV.size;have h3:=hgrow.size;show _≤_;simp at h2 h3 ⊢;omega
     have f9:=mem_free hx9 0
     have c9:=mem_cell hx9 0
     simp only[List.getElem?_toArray,List.getElem?_cons_zero] at c9
     clear hown hgrow hV hx9
     refine hK.out _ _ (HB9'.out) (fun hHeld=>?_)
     clear hK K
     rename_i hOld
     clear hOld
     (try simp only[Act.put,pZ])
     refine hT 7 (.pointer (some ⟨w6.heap.size,0,none⟩)) rfl (hy:=?_) (h:=?_)
     ·intro w' hSw;go_simp
     (try simp only[Act.put,pZ])
     refine hT 8 (.pointer (some ⟨w6.heap.size,0,none⟩)) rfl (hy:=?_) (h:=?_)
     ·intro w' hSw;go_simp
     (try simp only[Act.put,pZ])
     refine hR 9 rfl (fun K hK=>?_)
     go_simp
     refine hK.out _ _ (HB9.out) (fun hHeld=>?_)
     clear hK K
     rename_i hOld
     clear hOld
     (try simp only[Act.put,pZ])
     clear f9 c9 hHeld
     refine wpAnyH_done (by kernel_rfl) ?_ _
     go_wp2_with fail
     go_roundw
     case rel=>exact⟨j+1,.slice ra9 (j+1) rc9,_,_,by omega,by go_num,HRB9.out,HL9.out,HS9.out,HB9.out,HSZ9.out⟩
     case measure=>simp[intOf];omega
    ·go_simp
     refine hK.out _ _ (mem_then HBR.out (mem_then HBX.out (mem_then HB7.out (mem_alloc _ _)))) (fun hHeld=>?_)
     clear hK K
     rename_i hOld
     clear hOld
     (try simp only[Act.put,pZ])
     have z0:=mem_cell (mem_keep HRB.out (mem_then HBX.out (mem_then HB7.out (mem_alloc w7 (.cells #[.slice ua r.length uc] 27))))) 0
     simp only[List.getElem?_toArray,List.getElem?_cons_zero] at z0
     refine hR 2 rfl (fun K hK=>?_)
     go_simp
     refine hK.out _ _ (mem_then HBR.out (mem_then HBX.out (mem_then HB7.out (mem_alloc _ _)))) (fun hHeld=>?_)
     clear hK K
     rename_i hOld
     clear hOld
     (try simp only[Act.put,pZ])
     clear z0
     refine hR 6 rfl (fun K hK=>?_)
     refine step_append_src _ rfl (.tmp 58) (.tmp 61) 26 rfl RW.heap.size 27 i3 _ 1 24 Tryz.underlying26 hi3 h30 h31 h32 rfl (by decide) (.slice va j vc) j vs (by simp[Act.eval]) (own_below HVR.out (mem_then HBX.out (mem_then HB7.out (mem_alloc _ _)))) (some ⟨w7.heap.size,0,none⟩) 1 1 [.slice ua r.length uc] (by simp[Act.eval]) (src_new (mem_new _ _) rfl) (by simp[Value.oneCell']) (by unfold maxLen;omega) (by omega) (Nat.le_trans HRWS.out (mem_then HBX.out (mem_then HB7.out (mem_alloc _ _))).size) ?_
     intro r9 w9 hown hgrow _
     obtain⟨ra9,rc9,rfl⟩:=own_val hown
     have hV:=mem_then HBX.out (mem_then HB7.out (mem_alloc w7 (.cells #[.slice ua r.length uc] 27)))
     have hx9:=grown_other (own_below HVR.out hV) hgrow _ _ _ (mem_keep HRB.out hV) (by decide)
     have HL9:Hid (L3Own RW.heap.size (w9.setCell ⟨w6.heap.size,0,none⟩ (.slice ra9 (j+1) rc9)) (.slice ra9 (j+1) rc9) (vs++[.slice ua r.length uc]) (us++[uq]) (M.arrays.take (j+1))):=by
      show L3Own _ _ _ _ _ _
      rw[HTK.out]
      refine L3Own.move (T:=41) (HOWN.out.push hV ((HU.out.down HBX.out.size).keep (mem_alloc _ _)) HRWS.out ?_ ?_) (by decide) (by decide) (by decide) (set_other hx9)
      ·exact hgrow
      ·rw[HTL.out];exact hown
     have HS9:Hid (LOwn w5.heap.size (w9.setCell ⟨w6.heap.size,0,none⟩ (.slice ra9 (j+1) rc9)) (.slice sva M.shared.length svc) svs M.shared):=
      ((HSV.out.keep hV).move (T:=27) (by decide) (by decide) (grown_other (own_below HVR.out hV) hgrow)).move (T:=41) (by decide) (by decide) (set_other hx9)
     have HRB9:Hid ((w9.setCell ⟨w6.heap.size,0,none⟩ (.slice ra9 (j+1) rc9)).heap[w6.heap.size]? = some (resObj (.slice ra9 (j+1) rc9) (.slice sva M.shared.length svc) (.slice none 0 0) 0 0 0)):=by show _=_;rw[mem_set hx9];rfl
     have HB9':Hid (Below W3.heap.size W3 w9):=(mem_then HBR.out hV).grown hgrow (mem_then HBR.out hV).size (fun b hb=>by have:=(own_lt (own_below HVR.out hV) hb).1;have:=HRWW.out;omega)
     have HB9:Hid (Below W3.heap.size W3 (w9.setCell ⟨w6.heap.size,0,none⟩ (.slice ra9 (j+1) rc9))):=HB9'.out.setCell (p:=⟨w6.heap.size,0,none⟩) HW36.out _
     have HSZ9:Hid (RW.heap.size≤(w9.setCell ⟨w6.heap.size,0,none⟩ (.slice ra9 (j+1) rc9)).heap.size):=by have h1:=HRWS.out;have h2:=hV.size;have h3:=hgrow.size;show _≤_;simp at h2 h3 ⊢;omega
     have f9:=mem_free hx9 0
     have c9:=mem_cell hx9 0
     simp only[List.getElem?_toArray,List.getElem?_cons_zero] at c9
     clear hown hgrow hV hx9
     refine hK.out _ _ (HB9'.out) (fun hHeld=>?_)
     clear hK K
     rename_i hOld
     clear hOld
     (try simp only[Act.put,pZ])
     refine hT 7 (.pointer (some ⟨w6.heap.size,0,none⟩)) rfl (hy:=?_) (h:=?_)
     ·intro w' hSw;go_simp
     (try simp only[Act.put,pZ])
     refine hT 8 (.pointer (some ⟨w6.heap.size,0,none⟩)) rfl (hy:=?_) (h:=?_)
     ·intro w' hSw;go_simp
     (try simp only[Act.put,pZ])
     refine hR 9 rfl (fun K hK=>?_)
     go_simp
     refine hK.out _ _ (HB9.out) (fun hHeld=>?_)
     clear hK K
     rename_i hOld
     clear hOld
     (try simp only[Act.put,pZ])
     clear f9 c9 hHeld
     refine wpAnyH_done (by kernel_rfl) ?_ _
     go_wp2_with fail
     go_roundw
     case rel=>exact⟨j+1,.slice ra9 (j+1) rc9,_,_,by omega,by go_num,HRB9.out,HL9.out,HS9.out,HB9.out,HSZ9.out⟩
     case measure=>simp[intOf];omega
  ·obtain rfl:j=M.arrays.length:=by omega
   have HOWN3:Hid (L3Own RW.heap.size wr (.slice va M.arrays.length vc) vs us M.arrays):=by have h:=HOWN.out;rw[List.take_length] at h;exact h
   obtain⟨wo,hwo⟩:∃ wo:World,wo=wr:=⟨_,rfl⟩
   subst hwo
   obtain⟨hx1,_,_,_,_,hir,_,_⟩:=HK.out wo HBR.out
   obtain⟨_,_,_,hpr,_,_,_,_⟩:=HK.out W3 (Below.refl _ _)
   have x1:=mem_cell hx1 1
   simp only[List.getElem?_toArray,List.getElem?_cons_zero,List.getElem?_cons_succ] at x1
   obtain⟨tb,tf,q,rfl,hc,hin3⟩:=hpr.2.2 i hil2
   obtain⟨t,ht⟩:∃ t,p.tasks.getD i Tsk.none=t:=⟨_,rfl⟩
   rw[ht] at hc hin3
   have HIN3:=ξ hin3
   have hin:=hin3.below HBR.out
   obtain⟨⟨g0,g1,g2,g3,g4,g5,g6,g7⟩,hbl⟩:=tsk_cells HBR.out hc
   have HT:=ξ ht
   have hi2:(i:Int)<(p.tasks.length:Int):=by omega
   have hi0:(0:Int)≤(i:Int):=by omega
   have hvl:=hin.vars.1
   have hal:=hin.arrays.1
   have hkl:=hin.body.fits.len
   obtain⟨A0,hA0⟩:∃ N:World,wo.alloc (tskObj t q)=N:=⟨_,rfl⟩
   have hB0:Below wo.heap.size wo A0:=by rw[←hA0];exact mem_alloc _ _
   have hX0:A0.heap[wo.heap.size]? = some (tskObj t q):=by rw[←hA0];exact mem_new _ _
   obtain⟨A1,hA1⟩:∃ N:World,A0.alloc (.map #[] 0)=N:=⟨_,rfl⟩
   have hB1:Below A0.heap.size A0 A1:=by rw[←hA1];exact mem_alloc _ _
   have hX1:FMap Tryz.prog StrK A1 A0.heap.size 0 (fun _=>none):=by rw[←hA1];exact FMap.made _ _ _
   obtain⟨A2,hA2⟩:∃ N:World,A1.alloc (.map #[] 0)=N:=⟨_,rfl⟩
   have hB2:Below A1.heap.size A1 A2:=by rw[←hA2];exact mem_alloc _ _
   have hX2:FMap Tryz.prog StrK A2 A1.heap.size 0 (fun _=>none):=by rw[←hA2];exact FMap.made _ _ _
   obtain⟨A3,hA3⟩:∃ N:World,A2.alloc (.cells #[.map (some A0.heap.size),.map (some A1.heap.size),.slice ia inp.length ic,.int .i64 F,.slice none 0 0,.int .i64 0,.int .i64 0] 71)=N:=⟨_,rfl⟩
   have hB3':Below A2.heap.size A2 A3:=by rw[←hA3];exact mem_alloc _ _
   have hX3:A3.heap[A2.heap.size]? = some (stObj A0.heap.size A1.heap.size ia inp.length ic F (.slice none 0 0) 0 0):=by rw[←hA3];exact mem_new _ _
   obtain⟨A4,hA4⟩:∃ N:World,A3.alloc (.cells #[.pointer (some ⟨A2.heap.size,0,none⟩)] 67)=N:=⟨_,rfl⟩
   have hB4':Below A3.heap.size A3 A4:=by rw[←hA4];exact mem_alloc _ _
   have hX4:A4.heap[A3.heap.size]? = some (.cells #[.pointer (some ⟨A2.heap.size,0,none⟩)] 67):=by rw[←hA4];exact mem_new _ _
   have HBA:Hid (Below wo.heap.size wo A4):=mem_then hB0 (mem_then hB1 (mem_then hB2 (mem_then hB3' hB4')))
   have HLA:Hid (wo.heap.size<A0.heap.size∧A0.heap.size<A1.heap.size∧A1.heap.size<A2.heap.size∧A2.heap.size<A3.heap.size∧A3.heap.size<A4.heap.size):=by
    have h1:=mem_lt hX0
    have h2:=hX1.lt
    have h3:=hX2.lt
    have h4:=mem_lt hX3
    have h5:=mem_lt hX4
    exact⟨h1,h2,h3,h4,h5⟩
   have HXT:=ξ (mem_keep hX0 (mem_then hB1 (mem_then hB2 (mem_then hB3' hB4'))))
   have HXV:=ξ (hX1.below (mem_then hB2 (mem_then hB3' hB4')))
   have HXA:=ξ (hX2.below (mem_then hB3' hB4'))
   have HXS:=ξ (mem_keep hX3 hB4')
   have HXP:=ξ hX4
   have HIN:=ξ hin
   have HIR:=ξ hir
   have hm4:=@run_makeMap Tryz.prog
   clear ht hc hin hin3 hpr hir hx1 hB0 hX0 hB1 hX1 hB2 hX2 hB3' hX3 hB4' hX4 hlt hj hj0
   go_upto_region 15 with fail
   clear hA0 hA1 hA2 hA3 hA4 g0 g1 g2 g3 g4 g5 g6 g7 x1 hm4
   have HKA:Hid (∀ (v:Nat) (w':World),(∀ (k:Nat) (o:Obj),A4.heap[k]? = some o→k≠v→w'.heap[k]? = some o)→v≠wo.heap.size→v≠A2.heap.size→v≠A3.heap.size→w'.heap[wo.heap.size]? = some (tskObj t q)∧w'.heap[A2.heap.size]? = some (stObj A0.heap.size A1.heap.size ia inp.length ic F (.slice none 0 0) 0 0)∧w'.heap[A3.heap.size]? = some (.cells #[.pointer (some ⟨A2.heap.size,0,none⟩)] 67)):=fun v w' h h1 h2 h3 =>
    ⟨h _ _ HXT.out (fun e=>h1 e.symm),h _ _ HXS.out (fun e=>h2 e.symm),h _ _ HXP.out (fun e=>h3 e.symm)⟩
   have x2:=mem_cell HXT.out 2
   simp only[Tsk.cells,List.getElem?_toArray,List.getElem?_cons_zero,List.getElem?_cons_succ] at x2
   have HB3A:Hid (Below W3.heap.size W3 A4):=mem_then HBR.out HBA.out
   have HTOK:=ξ (by have h:=(prgOk_le HFP.out.ok).2.2 i hil2;rw[HT.out] at h;exact h:tskOk t=true)
   have hvl12:t.vars.length≤12:=(tskOk_le HTOK.out).1
   go_wp2_with fail
   clear x2
   go_loopw [80] (fun iv w2=>∃ j:Nat,j≤t.vars.length∧iv = .int .i64 (j:Int)∧FMap Tryz.prog StrK w2 A0.heap.size j (intV (varsV (t.vars.take j)))∧(∀ (k:Nat) (o:Obj),A4.heap[k]? = some o→k≠A0.heap.size→w2.heap[k]? = some o)∧Below wo.heap.size wo w2∧A4.heap.size≤w2.heap.size) (fun iv _=>t.vars.length-(intOf iv).toNat)
   case atStart=>exact⟨0,Nat.zero_le _,rfl,by rw[List.take_zero];exact HXV.out,fun k o h _=>h,HBA.out,Nat.le_refl _⟩
   case round =>
    obtain⟨j,hj,rfl,hfm,hkp,hB2,hsz⟩:=hrel
    have HKP:=ξ hkp
    have HFM:=ξ hfm
    have HB2:=ξ hB2
    have HSZ2:=ξ hsz
    have hj0:(0:Int)≤(j:Int):=by omega
    obtain⟨hk1,hk2,hk3⟩:=HKA.out _ wr hkp (by have:=HLA.out;omega) (by have:=HLA.out;omega) (by have:=HLA.out;omega)
    clear hfm hkp hB2 hsz
    by_cases hlt:j<t.vars.length
    ·skip
     have hlt2:(j:Int)<(t.vars.length:Int):=by omega
     obtain⟨vb,vo,hva,hvc,hvs⟩:=HIN.out.vars.2 j hlt
     rw[hva]
     have htk:t.vars.take (j+1)=t.vars.take j++[t.vars.getD j ⟨#[]⟩]:=by rw[List.take_add_one,List.getD_eq_getElem?_getD,List.getElem?_eq_getElem hlt];rfl
     obtain⟨nm,hnm⟩:∃ nm,t.vars.getD j ⟨#[]⟩=nm:=⟨_,rfl⟩
     rw[hnm] at hvc hvs htk
     have HTK:=ξ htk
     have hvb:=World.block_lt_of_cell? _ _ hvc
     have hvc2:wr.cell? ⟨vb,vo+j,none⟩=some (.string nm):=cell_stay HB2.out hvc
     have p0:=mem_cell hk3 0
     have s0:=mem_cell hk2 0
     simp only[List.getElem?_toArray,List.getElem?_cons_zero,List.getElem?_cons_succ] at p0 s0
     obtain⟨w3,hrun,hf3,hg3⟩:=HFM.out.store (t:=68) strK Tryz.underlying68 (s:=nm) hvs (by unfold maxLen;omega) (.int .i32 0)
     have HF3:Hid (FMap Tryz.prog StrK w3 A0.heap.size (j+1) (intV (varsV (t.vars.take (j+1))))):=by
      show FMap _ _ _ _ _ _
      rw[HTK.out,varsV_snoc,←intV_upd]
      exact hf3
     have HK3:Hid (∀ (k:Nat) (o:Obj),A4.heap[k]? = some o→k≠A0.heap.size→w3.heap[k]? = some o):=fun k o hk hne =>
      (hg3.block k (mem_lt (HKP.out k o hk hne)) (fun e=>hne (Option.some.inj e))).trans (HKP.out k o hk hne)
     have HB3:Hid (Below wo.heap.size wo w3):=HB2.out.grown hg3 HB2.out.size (fun b hb=>by cases hb;have:=HLA.out;omega)
     have HSZ3:Hid (A4.heap.size≤w3.heap.size):=Nat.le_trans HSZ2.out hg3.size
     clear hk1 hk2 hk3 hvc hf3 hg3 hnm htk
     go_wp2_with fail
     go_roundw
     case rel=>exact⟨j+1,by omega,by go_num,HF3.out,HK3.out,HB3.out,HSZ3.out⟩
     case measure=>simp[intOf];omega
    ·obtain rfl:j=t.vars.length:=by omega
     have HFM2:Hid (FMap Tryz.prog StrK wr A0.heap.size t.vars.length (intV (varsV t.vars))):=by have h:=HFM.out;rw[List.take_length] at h;exact h
     clear HFM
     obtain⟨wv,hwv⟩:∃ wv:World,wv=wr:=⟨_,rfl⟩
     subst hwv
     obtain⟨esA,ckA,hmA⟩:=HXA.out.obj
     have hmA2:=HKP.out _ _ hmA (by have:=HLA.out;omega)
     have HXA2:Hid (FMap Tryz.prog StrK wv A1.heap.size 0 (fun _=>none)):=HXA.out.move (hmA2.trans hmA.symm)
     have HXT2:=ξ hk1
     have HXS2:=ξ hk2
     have HXP2:=ξ hk3
     have HRBW:Hid (wv.heap[w6.heap.size]? = some (resObj (.slice va M.arrays.length vc) (.slice sva M.shared.length svc) (.slice none 0 0) 0 0 0)):=mem_keep HRB.out HB2.out
     have HSVW:=ξ (HSV.out.keep HB2.out)
     have HOW:=ξ (HOWN3.out.keep HB2.out)
     have HBV:Hid (Below W3.heap.size W3 wv):=mem_then HBR.out HB2.out
     have hx1:=(HK.out wv HBV.out).1
     have x0:=mem_cell hx1 0
     simp only[List.getElem?_toArray,List.getElem?_cons_zero] at x0
     have HDL:Hid (p.shared.length=M.shared.length):=(matchP_parts HFP.out.shared).1
     have hsl4:=HFP.out.slen.1
     have hslf:p.shared.length≤9223372036854775807:=by have:=HDL.out;omega
     clear hmA hmA2 hk1 hk2 hk3 hx1 esA ckA HKP
     go_wp2_with fail
     clear x0
     have HST3:Hid (∀ wx,Still A1.heap.size wv wx→wx.heap[wo.heap.size]? = some (tskObj t q)∧wx.heap[A2.heap.size]? = some (stObj A0.heap.size A1.heap.size ia inp.length ic F (.slice none 0 0) 0 0)∧wx.heap[A3.heap.size]? = some (.cells #[.pointer (some ⟨A2.heap.size,0,none⟩)] 67)∧wx.heap[w6.heap.size]? = some (resObj (.slice va M.arrays.length vc) (.slice sva M.shared.length svc) (.slice none 0 0) 0 0 0)∧LOwn w5.heap.size wx (.slice sva M.shared.length svc) svs M.shared∧L3Own RW.heap.size wx (.slice va M.arrays.length vc) vs us M.arrays):=fun wx hs=>by
      obtain⟨es,ck,hm⟩:=HXA2.out.obj
      have hc:=hs.cells hm
      exact⟨hc _ _ _ HXT2.out,hc _ _ _ HXS2.out,hc _ _ _ HXP2.out,hc _ _ _ HRBW.out,HSVW.out.move (T:=71) (by decide) (by decide) (fun k arr t hk _=>hc k arr t hk),HOW.out.move (T:=71) (by decide) (by decide) (by decide) (fun k arr t hk _=>hc k arr t hk)⟩
     go_loopw [93] (fun iv wx=>∃ j:Nat,j≤p.shared.length∧iv = .int .i64 (j:Int)∧FMap Tryz.prog StrK wx A1.heap.size j (fP ((named p.shared svs).take j))∧Still A1.heap.size wv wx∧Below wo.heap.size wo wx∧wv.heap.size≤wx.heap.size) (fun iv _=>p.shared.length-(intOf iv).toNat)
     case atStart=>exact⟨0,Nat.zero_le _,rfl,by rw[List.take_zero];exact HXA2.out,Still.refl,HB2.out,Nat.le_refl _⟩
     case round =>
      obtain⟨j,hj,rfl,hfm,hkp,hB3,hsz⟩:=hrel
      have HKP:=ξ hkp
      have HFM:=ξ hfm
      have HB3:=ξ hB3
      have HSZ3:=ξ hsz
      have hj0:(0:Int)≤(j:Int):=by omega
      clear hfm hkp hB3 hsz
      by_cases hlt:j<p.shared.length
      ·skip
       have hlt2:(j:Int)<(p.shared.length:Int):=by omega
       have hlt3:(j:Int)<(M.shared.length:Int):=by have:=HDL.out;omega
       obtain⟨sb,so,rfl,n0,n1,nsz,n64⟩:=(HK.out wr (mem_then HBR.out HB3.out)).2.2.2.1.1.2 j hlt
       obtain⟨x,hx⟩:∃ x,p.shared.getD j Arr.none=x:=⟨_,rfl⟩
       have hxe:p.shared[j]? = some x:=by rw[←hx,List.getD_eq_getElem?_getD,List.getElem?_eq_getElem hlt];rfl
       rw[hx] at n0 n1 nsz n64
       obtain⟨r,hr⟩:∃ r,M.shared[j]? = some r:=⟨_,List.getElem?_eq_getElem (by have:=HDL.out;omega)⟩
       obtain⟨u,hu,hur⟩:=HSVW.out.ri j r hr
       obtain⟨sg,rfl,_⟩:=own_at HSVW.out.ro (by omega)
       have HTK:Hid ((named p.shared svs).take (j+1)=(named p.shared svs).take j++[(x.name,u)]):=take_at (named_at hxe hu)
       have HU:=ξ hu
       obtain⟨Z,hZ⟩:∃ Z,wr.alloc (.cells #[.string x.name,.int .i64 x.len] 73)=Z:=⟨_,rfl⟩
       have hBZ:Below wr.heap.size wr Z:=by rw[←hZ];exact mem_alloc _ _
       have hXZ:Z.heap[wr.heap.size]? = some (.cells #[.string x.name,.int .i64 x.len] 73):=by rw[←hZ];exact mem_new _ _
       have HS6:Hid (∀ w',Below Z.heap.size Z w'→C6 w' ⟨A3.heap.size,0,none⟩ ⟨A2.heap.size,1,none⟩ ⟨wr.heap.size,0,none⟩ ⟨w6.heap.size,1,none⟩ ⟨sg,j,none⟩ ⟨sg,j,none⟩ (.pointer (some ⟨A2.heap.size,0,none⟩)) (.map (some A1.heap.size)) (.string x.name) (.slice (some ⟨sg,0,none⟩) M.shared.length svc) u u):=fun w' hw=>by
        obtain⟨e1,e2,e3,e4,e5,e6⟩:=HST3.out w' ((HKP.out.below hBZ).below hw)
        exact⟨mem_cell e3 0,mem_cell e2 1,mem_cell (mem_keep hXZ hw) 0,mem_cell e4 1,own_get e5.ro HU.out,own_get e5.ro HU.out⟩
       have HBZ:=ξ hBZ
       have HZS:Hid (wr.heap.size<Z.heap.size):=mem_lt hXZ
       clear hx hxe hr hu hur hXZ hBZ
       go_upto_region 23 with fail
       try rw[hZ]
       clear hZ n0 n1
       have hD0:Below Z.heap.size Z (World.drew Z):=(Below.refl _ _).drew
       refine wp_region_held_drew (S:=fun w'=>C6 w' ⟨A3.heap.size,0,none⟩ ⟨A2.heap.size,1,none⟩ ⟨wr.heap.size,0,none⟩ ⟨w6.heap.size,1,none⟩ ⟨sg,j,none⟩ ⟨sg,j,none⟩ (.pointer (some ⟨A2.heap.size,0,none⟩)) (.map (some A1.heap.size)) (.string x.name) (.slice (some ⟨sg,0,none⟩) M.shared.length svc) u u) (by kernel_rfl) (HS6.out _ hD0) (fun hHeld=>?_)
       generalize hwd:World.drew Z=v1 at hHeld hD0⊢
       clear hwd
       have HD0:=ξ hD0
       clear hD0
       obtain⟨w3,hrun,hf3,hg3⟩:=(HFM.out.below (mem_then HBZ.out HD0.out)).store (t:=69) strK Tryz.underlying69 (s:=x.name) nsz (by unfold maxLen;omega) u
       have HF3:Hid (FMap Tryz.prog StrK w3 A1.heap.size (j+1) (fP ((named p.shared svs).take (j+1)))):=by
        show FMap _ _ _ _ _ _
        rw[HTK.out,fP_snoc]
        exact hf3
       have HK3:Hid (Still A1.heap.size wv w3):=((HKP.out.below HBZ.out).below HD0.out).grown hg3
       have HB3':Hid (Below wo.heap.size wo w3):=(mem_then HB3.out (mem_then HBZ.out HD0.out)).grown hg3 (mem_then HB3.out (mem_then HBZ.out HD0.out)).size (fun b hb=>by cases hb;have:=HLA.out;omega)
       have HSZ9:Hid (wv.heap.size≤w3.heap.size):=Nat.le_trans HSZ3.out (Nat.le_trans HBZ.out.size (Nat.le_trans HD0.out.size hg3.size))
       have HC3:Hid (C6 w3 ⟨A3.heap.size,0,none⟩ ⟨A2.heap.size,1,none⟩ ⟨wr.heap.size,0,none⟩ ⟨w6.heap.size,1,none⟩ ⟨sg,j,none⟩ ⟨sg,j,none⟩ (.pointer (some ⟨A2.heap.size,0,none⟩)) (.map (some A1.heap.size)) (.string x.name) (.slice (some ⟨sg,0,none⟩) M.shared.length svc) u u):=by
        obtain⟨es,ck,hm⟩:=(HFM.out.below (mem_then HBZ.out HD0.out)).obj
        exact (HS6.out _ HD0.out).move (grown_cells hg3 hm)
       clear hf3 hg3
       refine hT 0 (.pointer (some ⟨A2.heap.size,0,none⟩)) rfl (hy:=?_) (h:=?_)
       ·intro w' hSw;have z0:=hSw.c1;go_simp
       (try simp only[Act.put,pZ])
       refine hT 1 (.pointer (some ⟨A2.heap.size,0,none⟩)) rfl (hy:=?_) (h:=?_)
       ·intro w' hSw;go_simp
       (try simp only[Act.put,pZ])
       refine hT 2 (.pointer (some ⟨A2.heap.size,1,none⟩)) rfl (hy:=?_) (h:=?_)
       ·intro w' hSw;go_simp
       (try simp only[Act.put,pZ])
       refine hT 3 (.map (some A1.heap.size)) rfl (hy:=?_) (h:=?_)
       ·intro w' hSw;have z0:=hSw.c2;go_simp
       (try simp only[Act.put,pZ])
       refine hT 4 (.pointer (some ⟨wr.heap.size,0,none⟩)) rfl (hy:=?_) (h:=?_)
       ·intro w' hSw;go_simp
       (try simp only[Act.put,pZ])
       refine hT 5 (.string x.name) rfl (hy:=?_) (h:=?_)
       ·intro w' hSw;have z0:=hSw.c3;go_simp
       (try simp only[Act.put,pZ])
       refine hT 6 (.pointer (some ⟨w6.heap.size,0,none⟩)) rfl (hy:=?_) (h:=?_)
       ·intro w' hSw;go_simp
       (try simp only[Act.put,pZ])
       refine hT 7 (.pointer (some ⟨w6.heap.size,1,none⟩)) rfl (hy:=?_) (h:=?_)
       ·intro w' hSw;go_simp
       (try simp only[Act.put,pZ])
       refine hT 8 (.slice (some ⟨sg,0,none⟩) M.shared.length svc) rfl (hy:=?_) (h:=?_)
       ·intro w' hSw;have z0:=hSw.c4;go_simp
       (try simp only[Act.put,pZ])
       refine hT 9 (.int .i64 (j:Int)) rfl (hy:=?_) (h:=?_)
       ·intro w' hSw;go_simp
       (try simp only[Act.put,pZ])
       refine hT 10 (.pointer (some ⟨sg,j,none⟩)) rfl (hy:=?_) (h:=?_)
       ·intro w' hSw;go_simp
       (try simp only[Act.put,pZ])
       refine hT 11 (u) rfl (hy:=?_) (h:=?_)
       ·intro w' hSw;have z0:=hSw.c5;go_simp
       (try simp only[Act.put,pZ])
       refine hR 12 rfl (fun K hK=>?_)
       go_simp
       refine hK.out _ _ (HC3.out) (fun hHeld=>?_)
       clear hK K
       rename_i hOld
       clear hOld
       (try simp only[Act.put,pZ])
       clear hHeld
       refine wpAnyH_done (by kernel_rfl) ?_ _
       go_wp2_with fail
       go_roundw
       case rel=>exact⟨j+1,by omega,by go_num,HF3.out,HK3.out,HB3'.out,HSZ9.out⟩
       case measure=>simp[intOf];omega
      ·obtain rfl:j=p.shared.length:=by omega
       obtain⟨ws,hws⟩:∃ ws:World,ws=wr:=⟨_,rfl⟩
       subst hws
       have HFS:Hid (FMap Tryz.prog StrK ws A1.heap.size p.shared.length (fP (named p.shared svs))):=by
        have h:=HFM.out
        rw[List.take_of_length_le (by rw[named_len (by rw[HSVW.out.len];exact HDL.out)];exact Nat.le_refl _)] at h
        exact h
       clear HFM
       have HKS:=ξ HKP.out
       obtain⟨e1,_⟩:=HST3.out ws HKS.out
       have x3:=mem_cell e1 3
       simp only[Tsk.cells,List.getElem?_toArray,List.getElem?_cons_zero,List.getElem?_cons_succ] at x3
       obtain⟨ri,hri⟩:∃ r,M.arrays[i]? = some r:=⟨_,List.getElem?_eq_getElem (by have:=HFP.out.len;omega)⟩
       have HRI:=ξ hri
       have HDA:Hid (t.arrays.length=ri.length∧ri.length≤4∧∀ l∈ri,1≤l.length∧l.length≤32):=by
        obtain⟨k1,k2⟩:=HFP.out.task i ri hri
        rw[HT.out] at k1
        exact⟨(matchP_parts k1).1,k2⟩
       obtain⟨ui,uq,hvi,hui,hli⟩:=HOW.out.ri i ri hri
       obtain⟨ua,uc,rfl⟩:=own_val hli.ro
       have HVI:=ξ hvi
       have HUI:=ξ hui
       have hal4:t.arrays.length≤9223372036854775807:=by have:=HDA.out;omega
       have hil9:(i:Int)<(M.arrays.length:Int):=by have:=(List.getElem?_eq_some_iff.1 hri).1;omega
       have hrl4:=HDA.out.2.1
       clear e1 hri hvi hui hli
       go_wp2_with fail
       clear x3
       go_loopw [114] (fun iv wx=>∃ j:Nat,j≤t.arrays.length∧iv = .int .i64 (j:Int)∧FMap Tryz.prog StrK wx A1.heap.size (p.shared.length+j) (fP (named p.shared svs++(named t.arrays uq).take j))∧Still A1.heap.size wv wx∧Below wo.heap.size wo wx∧wv.heap.size≤wx.heap.size) (fun iv _=>t.arrays.length-(intOf iv).toNat)
       case atStart=>exact⟨0,Nat.zero_le _,rfl,by rw[List.take_zero,List.append_nil];exact HFS.out,HKS.out,HB3.out,HSZ3.out⟩
       case round =>
        obtain⟨j,hj,rfl,hfm,hkp,hB4,hsz⟩:=hrel
        have HKP4:=ξ hkp
        have HFM:=ξ hfm
        have HB4x:=ξ hB4
        have HSZ4:=ξ hsz
        have hj0:(0:Int)≤(j:Int):=by omega
        clear hfm hkp hB4 hsz
        by_cases hlt:j<t.arrays.length
        ·skip
         have hlt2:(j:Int)<(t.arrays.length:Int):=by omega
         have hlt3:(j:Int)<(ri.length:Int):=by have:=HDA.out.1;omega
         obtain⟨sb,so,hqa,n0,n1,nsz,n64⟩:=HIN.out.arrays.2 j hlt
         rw[hqa]
         obtain⟨x,hx⟩:∃ x,t.arrays.getD j Arr.none=x:=⟨_,rfl⟩
         have hxe:t.arrays[j]? = some x:=by rw[←hx,List.getD_eq_getElem?_getD,List.getElem?_eq_getElem hlt];rfl
         rw[hx] at n0 n1 nsz n64
         replace n0:=cell_stay HB4x.out n0
         replace n1:=cell_stay HB4x.out n1
         obtain⟨r,hr⟩:∃ r,ri[j]? = some r:=⟨_,List.getElem?_eq_getElem (by omega)⟩
         obtain⟨ui',uq',hv1,hu1,hl1⟩:=HOW.out.ri i ri HRI.out
         rw[HVI.out] at hv1
         rw[HUI.out] at hu1
         cases hv1
         cases hu1
         obtain⟨u,hu,hur⟩:=hl1.ri j r hr
         obtain⟨ug,rfl,_⟩:=own_at hl1.ro (by omega)
         obtain⟨vg,rfl,_⟩:=own_at HOW.out.ro (by omega)
         have HTK:Hid ((named t.arrays uq).take (j+1)=(named t.arrays uq).take j++[(x.name,u)]):=take_at (named_at hxe hu)
         have HU:=ξ hu
         obtain⟨Z,hZ⟩:∃ Z,wr.alloc (.cells #[.string x.name,.int .i64 x.len] 73)=Z:=⟨_,rfl⟩
         have hBZ:Below wr.heap.size wr Z:=by rw[←hZ];exact mem_alloc _ _
         have hXZ:Z.heap[wr.heap.size]? = some (.cells #[.string x.name,.int .i64 x.len] 73):=by rw[←hZ];exact mem_new _ _
         have HS6:Hid (∀ w',Below Z.heap.size Z w'→C6 w' ⟨A3.heap.size,0,none⟩ ⟨A2.heap.size,1,none⟩ ⟨wr.heap.size,0,none⟩ ⟨w6.heap.size,0,none⟩ ⟨vg,i,none⟩ ⟨ug,j,none⟩ (.pointer (some ⟨A2.heap.size,0,none⟩)) (.map (some A1.heap.size)) (.string x.name) (.slice (some ⟨vg,0,none⟩) M.arrays.length vc) (.slice (some ⟨ug,0,none⟩) ri.length uc) u):=fun w' hw=>by
          obtain⟨e1,e2,e3,e4,e5,e6⟩:=HST3.out w' ((HKP4.out.below hBZ).below hw)
          obtain⟨u',q',k1,k2,k3⟩:=e6.ri i ri HRI.out
          rw[HVI.out] at k1
          rw[HUI.out] at k2
          cases k1
          cases k2
          exact⟨mem_cell e3 0,mem_cell e2 1,mem_cell (mem_keep hXZ hw) 0,mem_cell e4 0,own_get e6.ro HVI.out,own_get k3.ro HU.out⟩
         have HBZ:=ξ hBZ
         have HZS:Hid (wr.heap.size<Z.heap.size):=mem_lt hXZ
         clear hx hxe hr hu hur hXZ hBZ hl1
         go_upto_region 28 with fail
         try rw[hZ]
         clear hZ n0 n1
         have hD0:Below Z.heap.size Z (World.drew Z):=(Below.refl _ _).drew
         refine wp_region_held_drew (S:=fun w'=>C6 w' ⟨A3.heap.size,0,none⟩ ⟨A2.heap.size,1,none⟩ ⟨wr.heap.size,0,none⟩ ⟨w6.heap.size,0,none⟩ ⟨vg,i,none⟩ ⟨ug,j,none⟩ (.pointer (some ⟨A2.heap.size,0,none⟩)) (.map (some A1.heap.size)) (.string x.name) (.slice (some ⟨vg,0,none⟩) M.arrays.length vc) (.slice (some ⟨ug,0,none⟩) ri.length uc) u) (by kernel_rfl) (HS6.out _ hD0) (fun hHeld=>?_)
         generalize hwd:World.drew Z=v1 at hHeld hD0⊢
         clear hwd
         have HD0:=ξ hD0
         clear hD0
         obtain⟨w3,hrun,hf3,hg3⟩:=(HFM.out.below (mem_then HBZ.out HD0.out)).store (t:=69) strK Tryz.underlying69 (s:=x.name) nsz (by have:=HDL.out;have:=HDA.out;unfold maxLen;omega) u
         have HF3:Hid (FMap Tryz.prog StrK w3 A1.heap.size (p.shared.length+(j+1)) (fP (named p.shared svs++(named t.arrays uq).take (j+1)))):=by
          show FMap _ _ _ _ _ _
          rw[HTK.out,←List.append_assoc,fP_snoc]
          exact hf3
         have HK3:Hid (Still A1.heap.size wv w3):=((HKP4.out.below HBZ.out).below HD0.out).grown hg3
         have HB3':Hid (Below wo.heap.size wo w3):=(mem_then HB4x.out (mem_then HBZ.out HD0.out)).grown hg3 (mem_then HB4x.out (mem_then HBZ.out HD0.out)).size (fun b hb=>by cases hb;have:=HLA.out;omega)
         have HSZ9:Hid (wv.heap.size≤w3.heap.size):=Nat.le_trans HSZ4.out (Nat.le_trans HBZ.out.size (Nat.le_trans HD0.out.size hg3.size))
         have HC3:Hid (C6 w3 ⟨A3.heap.size,0,none⟩ ⟨A2.heap.size,1,none⟩ ⟨wr.heap.size,0,none⟩ ⟨w6.heap.size,0,none⟩ ⟨vg,i,none⟩ ⟨ug,j,none⟩ (.pointer (some ⟨A2.heap.size,0,none⟩)) (.map (some A1.heap.size)) (.string x.name) (.slice (some ⟨vg,0,none⟩) M.arrays.length vc) (.slice (some ⟨ug,0,none⟩) ri.length uc) u):=by
          obtain⟨es,ck,hm⟩:=(HFM.out.below (mem_then HBZ.out HD0.out)).obj
          exact (HS6.out _ HD0.out).move (grown_cells hg3 hm)
         clear hf3 hg3
         refine hT 0 (.pointer (some ⟨A2.heap.size,0,none⟩)) rfl (hy:=?_) (h:=?_)
         ·intro w' hSw;have z0:=hSw.c1;go_simp
         (try simp only[Act.put,pZ])
         refine hT 1 (.pointer (some ⟨A2.heap.size,0,none⟩)) rfl (hy:=?_) (h:=?_)
         ·intro w' hSw;go_simp
         (try simp only[Act.put,pZ])
         refine hT 2 (.pointer (some ⟨A2.heap.size,1,none⟩)) rfl (hy:=?_) (h:=?_)
         ·intro w' hSw;go_simp
         (try simp only[Act.put,pZ])
         refine hT 3 (.map (some A1.heap.size)) rfl (hy:=?_) (h:=?_)
         ·intro w' hSw;have z0:=hSw.c2;go_simp
         (try simp only[Act.put,pZ])
         refine hT 4 (.pointer (some ⟨wr.heap.size,0,none⟩)) rfl (hy:=?_) (h:=?_)
         ·intro w' hSw;go_simp
         (try simp only[Act.put,pZ])
         refine hT 5 (.string x.name) rfl (hy:=?_) (h:=?_)
         ·intro w' hSw;have z0:=hSw.c3;go_simp
         (try simp only[Act.put,pZ])
         refine hT 6 (.pointer (some ⟨w6.heap.size,0,none⟩)) rfl (hy:=?_) (h:=?_)
         ·intro w' hSw;go_simp
         (try simp only[Act.put,pZ])
         refine hT 7 (.pointer (some ⟨w6.heap.size,0,none⟩)) rfl (hy:=?_) (h:=?_)
         ·intro w' hSw;go_simp
         (try simp only[Act.put,pZ])
         refine hT 8 (.slice (some ⟨vg,0,none⟩) M.arrays.length vc) rfl (hy:=?_) (h:=?_)
         ·intro w' hSw;have z0:=hSw.c4;go_simp
         (try simp only[Act.put,pZ])
         refine hT 9 (.int .i64 (i:Int)) rfl (hy:=?_) (h:=?_)
         ·intro w' hSw;go_simp
         (try simp only[Act.put,pZ])
         refine hT 10 (.pointer (some ⟨vg,i,none⟩)) rfl (hy:=?_) (h:=?_)
         ·intro w' hSw;go_simp
         (try simp only[Act.put,pZ])
         refine hT 11 (.slice (some ⟨ug,0,none⟩) ri.length uc) rfl (hy:=?_) (h:=?_)
         ·intro w' hSw;have z0:=hSw.c5;go_simp
         (try simp only[Act.put,pZ])
         refine hT 12 (.int .i64 (j:Int)) rfl (hy:=?_) (h:=?_)
         ·intro w' hSw;go_simp
         (try simp only[Act.put,pZ])
         refine hT 13 (.pointer (some ⟨ug,j,none⟩)) rfl (hy:=?_) (h:=?_)
         ·intro w' hSw;go_simp
         (try simp only[Act.put,pZ])
         refine hT 14 (u) rfl (hy:=?_) (h:=?_)
         ·intro w' hSw;have z0:=hSw.c6;go_simp
         (try simp only[Act.put,pZ])
         refine hR 15 rfl (fun K hK=>?_)
         go_simp
         refine hK.out _ _ (HC3.out) (fun hHeld=>?_)
         clear hK K
         rename_i hOld
         clear hOld
         (try simp only[Act.put,pZ])
         clear hHeld
         refine wpAnyH_done (by kernel_rfl) ?_ _
         go_wp2_with fail
         go_roundw
         case rel=>exact⟨j+1,by omega,by go_num,HF3.out,HK3.out,HB3'.out,HSZ9.out⟩
         case measure=>simp[intOf];omega
        ·obtain rfl:j=t.arrays.length:=by omega
         obtain⟨wz,hwz⟩:∃ wz:World,wz=wr:=⟨_,rfl⟩
         subst hwz
         obtain⟨ui',uq',hv1,hu1,hl1⟩:=(HST3.out wz HKP4.out).2.2.2.2.2.ri i ri HRI.out
         rw[HVI.out] at hv1
         rw[HUI.out] at hu1
         cases hv1
         cases hu1
         have HLI:=ξ hl1
         clear hl1
         have HFZ:Hid (FMap Tryz.prog StrK wz A1.heap.size (p.shared.length+t.arrays.length) (fP (named p.shared svs++named t.arrays uq))):=by
          have h:=HFM.out
          rw[List.take_of_length_le (by rw[named_len (by rw[HLI.out.len];exact HDA.out.1)];exact Nat.le_refl _)] at h
          exact h
         have HVZ:Hid (FMap Tryz.prog StrK wz A0.heap.size t.vars.length (intV (varsV t.vars))):=by
          obtain⟨es,ck,ho⟩:=HFM2.out.obj
          exact HFM2.out.move ((HKP4.out _ _ ho (by have:=HLA.out;omega)).trans ho.symm)
         have HSZ:Hid (_∧_∧_∧_∧_∧_):=HST3.out wz HKP4.out
         have HBZ:Hid (Below W3.heap.size W3 wz):=mem_then HBR.out HB4x.out
         have HZSZ:Hid (A4.heap.size≤wz.heap.size):=Nat.le_trans HSZ2.out HSZ4.out
         have HWOL:Hid (W3.heap.size≤wo.heap.size):=HBR.out.size
         have HS0:Hid (jobS p i M=⟨varsV t.vars,fP (named p.shared M.shared++named t.arrays ri),[],0,0⟩):=by
          show _=_
          unfold jobS
          rw[HT.out,List.getD_eq_getElem?_getD,HRI.out]
          rfl
         have HST:Hid (StAt W3.heap.size (12+2*F.toNat) ⟨A2.heap.size,A0.heap.size,A1.heap.size,p.shared.length+t.arrays.length,ia,ic,fP (named p.shared svs++named t.arrays uq)⟩ F inp wz (jobS p i M) (.slice none 0 0)):=by
          show StAt _ _ _ _ _ _ _ _
          rw[HS0.out]
          obtain⟨_,_,_,_,hm3,hi3,_⟩:=HK.out W3 (Below.refl _ _)
          have hsr:=start_rows HSZ.out.2.2.2.2.1 HLI.out (B:=W3.heap.size) (Nat.le_trans HB5.out.size (Nat.le_refl _)) HRWW.out HDL.out HDA.out.1 HFP.out.slen.2 HDA.out.2.2 (fun k k' z z' b hz hz' hb hb'=>by
           have h1:=(List.getElem?_eq_some_iff.1 hz).1
           obtain⟨u1,e1,e2⟩:=HSV0.out.ri k _ (List.getElem?_eq_getElem (show k<M.shared.length by have:=HSV0.out.len;omega))
           rw[hz] at e1
           cases e1
           have h2:=(own_lt e2 hb).2
           have h3:=(HSZ.out.2.2.2.2.2.inner HUI.out hz' hb').1
           omega)
          refine⟨HSZ.out.2.1,⟨t.vars.length,by show _+2*(F.toNat-0)≤_;omega,HVZ.out,Nat.zero_le _,Nat.zero_le _⟩,HFZ.out,hsr.1,hsr.2,World.ownsRow_nil _ _ _ _,(words_low hi3).low HBZ.out,by omega,fun nm v hv=>by rw[varsV_zero hv];exact⟨by omega,by omega⟩,start_fit (cont_words hm3.2) (cont3_words hm3.1 ri (List.mem_of_getElem? HRI.out)),hi3.words,Nat.zero_le _,?_⟩
          have:=HLA.out
          have:=HWOL.out
          exact⟨by show _≤A2.heap.size;omega,by show _≤A0.heap.size;omega,by show _≤A1.heap.size;omega,by show A1.heap.size≠A0.heap.size;omega⟩
         obtain⟨m,hm⟩:∃ m:IM,m=⟨A2.heap.size,A0.heap.size,A1.heap.size,p.shared.length+t.arrays.length,ia,ic,fP (named p.shared svs++named t.arrays uq)⟩:=⟨_,rfl⟩
         rw[←hm] at HST
         have HM:=ξ hm
         have hmsb:m.sb=A2.heap.size:=by rw[hm]
         obtain⟨WZ,hWZ⟩:∃ WZ,wz.alloc (.cells #[.int .i64 0] 39)=WZ:=⟨_,rfl⟩
         have hBE:Below wz.heap.size wz WZ:=by rw[←hWZ];exact mem_alloc _ _
         have hXE:WZ.heap[wz.heap.size]? = some (.cells #[.int .i64 0] 39):=by rw[←hWZ];exact mem_new _ _
         have HBE:=ξ hBE
         have HSTZ:=ξ (HST.out.keep hBE)
         have HNE:=ξ (row_no HST.out (Nat.le_refl wz.heap.size))
         have hbody:InB W3.heap.size WZ t.body q.ka:=(InB.low (HIN3.out.body.toIn) (mem_then HBZ.out hBE))
         have hj1:=job1_any W3.heap.size (12+2*F.toNat) m F inp t q WZ (jobS p i M) (.slice none 0 0) A3.heap.size wo.heap.size hF (by omega) (in_tskOk_body HTOK.out) hbody HSTZ.out (by rw[hmsb];exact mem_keep HSZ.out.2.2.1 hBE) (mem_keep HSZ.out.1 hBE)
         obtain⟨r,hr⟩:∃ r,t.body.ex F inp (jobS p i M)=r:=⟨_,rfl⟩
         rw[hr] at hj1
         have hgd:=guard_any 22 #[.pointer (some ⟨A3.heap.size,0,none⟩),.pointer (some ⟨wo.heap.size,0,none⟩)] (fun _ _=>rfl) r wz (fun w'=>∃ ov,StAt W3.heap.size (12+2*F.toNat) m F inp w' r.1 ov∧FrI W3.heap.size m WZ w') (by
          rw[hWZ]
          refine hj1.mono ?_
          rintro e w' ⟨he,ov,hs,hf⟩
          exact⟨he,hf.still _ _ hXE HNE.out.1 HNE.out.2.1 HNE.out.2.2 (by show 39≠64;decide),ov,hs,hf⟩)
         have HGD:=ξ hgd
         have HRE:Hid (R=runR p i M r):=by show _=_;rw[←HR4.out,HT.out,hr]
         have hx9:=HSZ.out.2.2.1
         clear hj1 hgd hbody hXE hBE hWZ hr hm hmsb
         go_wp2_with fail
         refine HGD.out.mono ?_
         rintro e we ⟨rfl,w9,⟨ov,hs,hf⟩,hbE,hke,hBe⟩
         clear HGD hx9
         obtain⟨oa,oc,rfl⟩:=own_val hs.out
         obtain⟨⟨s1,er⟩,rfl⟩:∃ r':SR,r'=r:=⟨_,rfl⟩
         replace hs:StAt W3.heap.size (12+2*F.toNat) m F inp w9 s1 (.slice oa s1.out.length oc):=hs
         have HS1:=ξ hs
         have HF1:=ξ hf
         have HFAR:Hid (∀ (k:Nat) (arr:Array Value) (t:TypeId),w9.heap[k]? = some (.cells arr t)→t≠39→we.heap[k]? = some (.cells arr t)):=fun k arr t hk ht =>
          (hke k (mem_lt hk) (fun e=>by rw[e,hbE] at hk;cases hk;exact ht rfl)).trans hk
         have HKEEP:Hid (∀ (k:Nat) (arr:Array Value) (t:TypeId),wz.heap[k]? = some (.cells arr t)→t≠71→t≠21→t≠64→t≠39→we.heap[k]? = some (.cells arr t)):=fun k arr t hk h1 h2 h3 h4 =>
          HFAR.out k arr t (HSTZ.out.far hf (mem_keep hk HBE.out) h1 h2 h3) h4
         have HXR:Hid (we.heap[w6.heap.size]? = some (resObj (.slice va M.arrays.length vc) (.slice sva M.shared.length svc) (.slice none 0 0) 0 0 0)):=HKEEP.out _ _ _ HSZ.out.2.2.2.1 (by decide) (by decide) (by decide) (by decide)
         have HXP9:Hid (we.heap[A3.heap.size]? = some (.cells #[.pointer (some ⟨A2.heap.size,0,none⟩)] 67)):=HKEEP.out _ _ _ HSZ.out.2.2.1 (by decide) (by decide) (by decide) (by decide)
         have HXS9:Hid (we.heap[A2.heap.size]? = some (stObj m.vb m.ab m.ina inp.length m.inc F (.slice oa s1.out.length oc) s1.rd s1.st)):=by
          have h:=hs.box
          rw[show m.sb=A2.heap.size by rw[HM.out]] at h
          exact HFAR.out _ _ _ h (by decide)
         have HXW:Hid (we.heap[W2.heap.size]? = some (resObj (.slice none 0 0) (.slice none 0 0) (.slice none 0 0) 0 0 0)):=HKEEP.out _ _ _ (HK.out wz HBZ.out).2.2.1 (by decide) (by decide) (by decide) (by decide)
         have HBWE:Hid (Below W3.heap.size W3 we):=((mem_then HBZ.out HBE.out).trans hf.low).trans (hBe.mono (by have:=HBZ.out.size;omega))
         have z5:=mem_cell HXR.out 5
         have f5:=mem_free HXR.out 5
         simp only[List.getElem?_toArray,List.getElem?_cons_zero,List.getElem?_cons_succ] at z5
         clear hs hf hbE hke hBe
         go_upto_region 31 with fail
         clear z5 f5
         obtain⟨R1,hR1⟩:∃ R1,we.setCell ⟨w6.heap.size,5,none⟩ (.int .i64 er)=R1:=⟨_,rfl⟩
         rw[hR1]
         have hAne:A2.heap.size≠w6.heap.size:=fun e=>by have:=HXS9.out;rw[e,HXR.out] at this;cases this
         have hPne:A3.heap.size≠w6.heap.size:=fun e=>by have:=HXP9.out;rw[e,HXR.out] at this;cases this
         have HAN:=ξ hAne
         have HPN:=ξ hPne
         have HRF:Hid (∀ k,k≠w6.heap.size→R1.heap[k]? = we.heap[k]?):=fun k hk=>by rw[←hR1];exact Below.heap_setCell _ _ _ _ hk
         have HR1X:Hid (R1.heap[w6.heap.size]? = some (resObj (.slice va M.arrays.length vc) (.slice sva M.shared.length svc) (.slice none 0 0) 0 0 er)):=by show _=_;rw[←hR1,mem_set HXR.out];rfl
         have HBR1:Hid (Below W3.heap.size W3 R1):=by show Below _ _ _;rw[←hR1];exact HBWE.out.setCell (p:=⟨w6.heap.size,5,none⟩) HW36.out _
         have hD0:Below R1.heap.size R1 (World.drew R1):=(Below.refl _ _).drew
         have HC:Hid (C6 R1 ⟨A3.heap.size,0,none⟩ ⟨A2.heap.size,4,none⟩ ⟨A2.heap.size,5,none⟩ ⟨A2.heap.size,6,none⟩ ⟨A2.heap.size,6,none⟩ ⟨A2.heap.size,6,none⟩ (.pointer (some ⟨A2.heap.size,0,none⟩)) (.slice oa s1.out.length oc) (.int .i64 (s1.rd:Int)) (.int .i64 (s1.st:Int)) (.int .i64 (s1.st:Int)) (.int .i64 (s1.st:Int))):=by
          have hp:=(HRF.out _ hPne).trans HXP9.out
          have hs:=(HRF.out _ hAne).trans HXS9.out
          exact⟨mem_cell hp 0,mem_cell hs 4,mem_cell hs 5,mem_cell hs 6,mem_cell hs 6,mem_cell hs 6⟩
         clear hR1 hAne hPne
         refine wp_region_held_drew (S:=fun w'=>C6 w' ⟨A3.heap.size,0,none⟩ ⟨A2.heap.size,4,none⟩ ⟨A2.heap.size,5,none⟩ ⟨A2.heap.size,6,none⟩ ⟨A2.heap.size,6,none⟩ ⟨A2.heap.size,6,none⟩ (.pointer (some ⟨A2.heap.size,0,none⟩)) (.slice oa s1.out.length oc) (.int .i64 (s1.rd:Int)) (.int .i64 (s1.st:Int)) (.int .i64 (s1.st:Int)) (.int .i64 (s1.st:Int))) (by kernel_rfl) (HC.out.move (fun p v h=>(hD0.cell (World.block_lt_of_cell? _ _ h)).trans h)) (fun hHeld=>?_)
         generalize hwd:World.drew R1=v1 at hHeld hD0⊢
         clear hwd
         have HV1X:Hid (v1.heap[w6.heap.size]? = some (resObj (.slice va M.arrays.length vc) (.slice sva M.shared.length svc) (.slice none 0 0) 0 0 er)):=mem_keep HR1X.out hD0
         have HC1:=ξ hHeld
         have HC2:Hid (C6 (v1.setCell ⟨w6.heap.size,2,none⟩ (.slice oa s1.out.length oc)) ⟨A3.heap.size,0,none⟩ ⟨A2.heap.size,4,none⟩ ⟨A2.heap.size,5,none⟩ ⟨A2.heap.size,6,none⟩ ⟨A2.heap.size,6,none⟩ ⟨A2.heap.size,6,none⟩ (.pointer (some ⟨A2.heap.size,0,none⟩)) (.slice oa s1.out.length oc) (.int .i64 (s1.rd:Int)) (.int .i64 (s1.st:Int)) (.int .i64 (s1.st:Int)) (.int .i64 (s1.st:Int))):=HC1.out.set HPN.out HAN.out HAN.out HAN.out HAN.out HAN.out
         have HC3:Hid (C6 ((v1.setCell ⟨w6.heap.size,2,none⟩ (.slice oa s1.out.length oc)).setCell ⟨w6.heap.size,3,none⟩ (.int .i64 (s1.rd:Int))) ⟨A3.heap.size,0,none⟩ ⟨A2.heap.size,4,none⟩ ⟨A2.heap.size,5,none⟩ ⟨A2.heap.size,6,none⟩ ⟨A2.heap.size,6,none⟩ ⟨A2.heap.size,6,none⟩ (.pointer (some ⟨A2.heap.size,0,none⟩)) (.slice oa s1.out.length oc) (.int .i64 (s1.rd:Int)) (.int .i64 (s1.st:Int)) (.int .i64 (s1.st:Int)) (.int .i64 (s1.st:Int))):=HC2.out.set HPN.out HAN.out HAN.out HAN.out HAN.out HAN.out
         have HC4:Hid (C6 (((v1.setCell ⟨w6.heap.size,2,none⟩ (.slice oa s1.out.length oc)).setCell ⟨w6.heap.size,3,none⟩ (.int .i64 (s1.rd:Int))).setCell ⟨w6.heap.size,4,none⟩ (.int .i64 (s1.st:Int))) ⟨A3.heap.size,0,none⟩ ⟨A2.heap.size,4,none⟩ ⟨A2.heap.size,5,none⟩ ⟨A2.heap.size,6,none⟩ ⟨A2.heap.size,6,none⟩ ⟨A2.heap.size,6,none⟩ (.pointer (some ⟨A2.heap.size,0,none⟩)) (.slice oa s1.out.length oc) (.int .i64 (s1.rd:Int)) (.int .i64 (s1.st:Int)) (.int .i64 (s1.st:Int)) (.int .i64 (s1.st:Int))):=HC3.out.set HPN.out HAN.out HAN.out HAN.out HAN.out HAN.out
         have HV1F:Hid (∀ k,k≠w6.heap.size→k<R1.heap.size→v1.heap[k]? = we.heap[k]?):=fun k hk hl=>(hD0.block k hl).trans (HRF.out k hk)
         have HBV1:Hid (Below W3.heap.size W3 v1):=mem_then HBR1.out hD0
         have HR1S:Hid (R1.heap.size≤v1.heap.size):=hD0.size
         have z2:=mem_cell HV1X.out 2
         have z3:=mem_cell HV1X.out 3
         have z4:=mem_cell HV1X.out 4
         have f2:=mem_free HV1X.out 2
         have f3:=mem_free HV1X.out 3
         have f4:=mem_free HV1X.out 4
         simp only[List.getElem?_toArray,List.getElem?_cons_zero,List.getElem?_cons_succ] at z2 z3 z4
         clear hD0
         refine hT 0 (.pointer (some ⟨A2.heap.size,0,none⟩)) rfl (hy:=?_) (h:=?_)
         ·intro w' hSw;have z0:=hSw.c1;go_simp
         (try simp only[Act.put,pZ])
         refine hT 1 (.pointer (some ⟨A2.heap.size,0,none⟩)) rfl (hy:=?_) (h:=?_)
         ·intro w' hSw;go_simp
         (try simp only[Act.put,pZ])
         refine hT 2 (.pointer (some ⟨A2.heap.size,4,none⟩)) rfl (hy:=?_) (h:=?_)
         ·intro w' hSw;go_simp
         (try simp only[Act.put,pZ])
         refine hT 3 (.slice oa s1.out.length oc) rfl (hy:=?_) (h:=?_)
         ·intro w' hSw;have z0:=hSw.c2;go_simp
         (try simp only[Act.put,pZ])
         refine hT 4 (.pointer (some ⟨A2.heap.size,0,none⟩)) rfl (hy:=?_) (h:=?_)
         ·intro w' hSw;have z0:=hSw.c1;go_simp
         (try simp only[Act.put,pZ])
         refine hT 5 (.pointer (some ⟨A2.heap.size,0,none⟩)) rfl (hy:=?_) (h:=?_)
         ·intro w' hSw;go_simp
         (try simp only[Act.put,pZ])
         refine hT 6 (.pointer (some ⟨A2.heap.size,5,none⟩)) rfl (hy:=?_) (h:=?_)
         ·intro w' hSw;go_simp
         (try simp only[Act.put,pZ])
         refine hT 7 (.int .i64 (s1.rd:Int)) rfl (hy:=?_) (h:=?_)
         ·intro w' hSw;have z0:=hSw.c3;go_simp
         (try simp only[Act.put,pZ])
         refine hT 8 (.pointer (some ⟨A2.heap.size,0,none⟩)) rfl (hy:=?_) (h:=?_)
         ·intro w' hSw;have z0:=hSw.c1;go_simp
         (try simp only[Act.put,pZ])
         refine hT 9 (.pointer (some ⟨A2.heap.size,0,none⟩)) rfl (hy:=?_) (h:=?_)
         ·intro w' hSw;go_simp
         (try simp only[Act.put,pZ])
         refine hT 10 (.pointer (some ⟨A2.heap.size,6,none⟩)) rfl (hy:=?_) (h:=?_)
         ·intro w' hSw;go_simp
         (try simp only[Act.put,pZ])
         refine hT 11 (.int .i64 (s1.st:Int)) rfl (hy:=?_) (h:=?_)
         ·intro w' hSw;have z0:=hSw.c4;go_simp
         (try simp only[Act.put,pZ])
         refine hT 12 (.pointer (some ⟨w6.heap.size,2,none⟩)) rfl (hy:=?_) (h:=?_)
         ·intro w' hSw;go_simp
         (try simp only[Act.put,pZ])
         refine hR 13 rfl (fun K hK=>?_)
         go_simp
         refine hK.out _ _ (HC2.out) (fun hHeld=>?_)
         clear hK K
         rename_i hOld
         clear hOld
         (try simp only[Act.put,pZ])
         refine hT 14 (.pointer (some ⟨w6.heap.size,3,none⟩)) rfl (hy:=?_) (h:=?_)
         ·intro w' hSw;go_simp
         (try simp only[Act.put,pZ])
         refine hR 15 rfl (fun K hK=>?_)
         go_simp
         refine hK.out _ _ (HC3.out) (fun hHeld=>?_)
         clear hK K
         rename_i hOld
         clear hOld
         (try simp only[Act.put,pZ])
         refine hT 16 (.pointer (some ⟨w6.heap.size,4,none⟩)) rfl (hy:=?_) (h:=?_)
         ·intro w' hSw;go_simp
         (try simp only[Act.put,pZ])
         refine hR 17 rfl (fun K hK=>?_)
         go_simp
         refine hK.out _ _ (HC4.out) (fun hHeld=>?_)
         clear hK K
         rename_i hOld
         clear hOld
         (try simp only[Act.put,pZ])
         clear hHeld
         refine wpAnyH_done (by kernel_rfl) ?_ _
         clear z2 z3 z4 f2 f3 f4
         obtain⟨E1,hE1⟩:∃ E1,(((v1.setCell ⟨w6.heap.size,2,none⟩ (.slice oa s1.out.length oc)).setCell ⟨w6.heap.size,3,none⟩ (.int .i64 (s1.rd:Int))).setCell ⟨w6.heap.size,4,none⟩ (.int .i64 (s1.st:Int)))=E1:=⟨_,rfl⟩
         rw[hE1]
         have HE1X:Hid (E1.heap[w6.heap.size]? = some (resObj (.slice va M.arrays.length vc) (.slice sva M.shared.length svc) (.slice oa s1.out.length oc) s1.rd s1.st er)):=by
          show _=_
          rw[←hE1,mem_set (mem_set (mem_set HV1X.out))]
          rfl
         have HWNE:Hid (W2.heap.size≠w6.heap.size):=by show _≠_;have:=HW36.out;have:=mem_lt HXW.out;have:=mem_lt (HK.out W3 (Below.refl _ _)).2.2.1;omega
         have HE1F:Hid (∀ (k:Nat) (arr:Array Value) (t:TypeId),we.heap[k]? = some (.cells arr t)→k≠w6.heap.size→E1.heap[k]? = some (.cells arr t)):=fun k arr t hk hne=>by
          rw[←hE1,Below.heap_setCell _ _ _ _ hne,Below.heap_setCell _ _ _ _ hne,Below.heap_setCell _ _ _ _ hne,HV1F.out k hne (mem_lt ((HRF.out k hne).trans hk))]
          exact hk
         have HBE1:Hid (Below W3.heap.size W3 E1):=by
          show Below _ _ _
          rw[←hE1]
          exact ((HBV1.out.setCell (p:=⟨w6.heap.size,2,none⟩) HW36.out _).setCell (p:=⟨w6.heap.size,3,none⟩) HW36.out _).setCell (p:=⟨w6.heap.size,4,none⟩) HW36.out _
         have HE1W:=ξ (HE1F.out _ _ _ HXW.out HWNE.out)
         obtain⟨z0,z1,z2,z3,z4,z5⟩:=res_cells HE1W.out
         obtain⟨y0,y1,y2,y3,y4,y5⟩:=res_cells HE1X.out
         have f0:=mem_free HE1W.out 0
         have f1:=mem_free HE1W.out 1
         have f2:=mem_free HE1W.out 2
         have f3:=mem_free HE1W.out 3
         have f4:=mem_free HE1W.out 4
         have f5:=mem_free HE1W.out 5
         obtain⟨E,hE⟩:∃ E:World,set6 E1 W2.heap.size (.slice va M.arrays.length vc) (.slice sva M.shared.length svc) (.slice oa s1.out.length oc) (.int .i64 (s1.rd:Int)) (.int .i64 (s1.st:Int)) (.int .i64 er)=E:=⟨_,rfl⟩
         have HEX:Hid (E.heap[W2.heap.size]? = some (resObj (.slice va M.arrays.length vc) (.slice sva M.shared.length svc) (.slice oa s1.out.length oc) s1.rd s1.st er)):=by show _=_;rw[←hE];exact set6_at HE1W.out
         have HEF:Hid (∀ (k:Nat) (arr:Array Value) (t:TypeId),we.heap[k]? = some (.cells arr t)→t≠41→E.heap[k]? = some (.cells arr t)):=fun k arr t hk ht=>by
          have h1:k≠w6.heap.size:=fun e=>by rw[e,HXR.out] at hk;cases hk;exact ht rfl
          have h2:k≠W2.heap.size:=fun e=>by rw[e,HXW.out] at hk;cases hk;exact ht rfl
          rw[←hE,set6_far h2]
          exact HE1F.out k arr t hk h1
         have HEB:Hid (Below w.heap.size w E):=by
          show Below _ _ _
          rw[←hE]
          exact set6_below (HK.out E1 HBE1.out).2.2.2.2.2.2.2 (by have:=HLT.out;omega)
         obtain⟨q0,q1,q2,q3,q4,q5⟩:=res_cells HEX.out
         unfold set6 at hE
         clear hE1
         go_wp2_with fail
         refine bodyPost_ret (v:=.agg #[.slice va M.arrays.length vc,.slice sva M.shared.length svc,.slice oa s1.out.length oc,.int .i64 (s1.rd:Int),.int .i64 (s1.st:Int),.int .i64 er]) (by simp[results,Tryz.results8,go_sem,q0,q1,q2,q3,q4,q5]) rfl ?_
         have hEA:∀ (k:Nat) (arr:Array Value) (t:TypeId),w9.heap[k]? = some (.cells arr t)→t≠39→t≠41→E.heap[k]? = some (.cells arr t):=fun k arr t hk h1 h2=>HEF.out k arr t (HFAR.out k arr t hk h1) h2
         have hEZ:∀ (k:Nat) (arr:Array Value) (t:TypeId),wz.heap[k]? = some (.cells arr t)→t≠71→t≠21→t≠64→t≠39→t≠41→E.heap[k]? = some (.cells arr t):=fun k arr t hk h1 h2 h3 h4 h5=>HEF.out k arr t (HKEEP.out k arr t hk h1 h2 h3 h4) h5
         have hG:m.G=fP (named p.shared svs++named t.arrays uq):=by rw[HM.out]
         have hrows:RowsI W3.heap.size E (fP (named p.shared svs++named t.arrays uq)) s1.A:=by
          rw[←hG]
          refine HS1.out.rows.move (fun nm g n c hg _=>?_)
          obtain⟨l,_,_,_,_,hr⟩:=HS1.out.rows.row hg
          obtain⟨cur,hc⟩:=row_obj hr
          exact (hEA _ _ _ hc (by decide) (by decide)).trans hc.symm
         have hnm:=(names_apart HOKK.out hil2).1
         rw[HT.out,←List.map_append] at hnm
         have hoth:∀ (k:Nat) (r:List (List Int)),k≠i→M.arrays[k]? = some r→∃ a c q,vs[k]? = some (.slice a r.length c)∧LOwn RW.heap.size E (.slice a r.length c) q r∧r.length≤1000000∧∀ l∈r,∀ x∈l,Wd.W x:=fun k r hne hr=>by
          obtain⟨u,qq,e1,e2,e3⟩:=HSZ.out.2.2.2.2.2.ri k r hr
          obtain⟨a,c,rfl⟩:=own_val e3.ro
          have hsm:=(HFP.out.task k r hr).2
          obtain⟨_,_,_,_,hm3,_⟩:=HK.out W3 (Below.refl _ _)
          refine⟨a,c,qq,e1,⟨e3.len,own_cells e3.ro (fun k arr _ hk=>hEZ k arr _ hk (by decide) (by decide) (by decide) (by decide) (by decide)),fun j l hj=>?_,e3.apart⟩,by omega,cont3_words hm3.1 r (List.mem_of_getElem? hr)⟩
          obtain⟨z,x1,x2⟩:=e3.ri j l hj
          refine⟨z,x1,own_cells x2 (fun b arr hb hk=>hEA b arr _ (HSTZ.out.far_row HF1.out (mem_keep hk HBE.out) (fun nm g n c hg e=>?_)) (by decide) (by decide))⟩
          rw[e] at hb
          rw[hG] at hg
          obtain⟨y,hy⟩:=fP_mem hg
          rcases List.mem_append.1 (List.mem_of_getElem? hy) with hm|hm
          ·obtain⟨y,hy⟩:=List.getElem?_of_mem hm
           obtain⟨_,_,_,e9⟩:=named_get hy
           have h1:=(List.getElem?_eq_some_iff.1 e9).1
           obtain⟨u1,k1,k2⟩:=HSV0.out.ri y _ (List.getElem?_eq_getElem (show y<M.shared.length by have:=HSV0.out.len;omega))
           rw[e9] at k1
           cases k1
           have h2:g<RW.heap.size:=(own_lt k2 rfl).2
           have h3:=(HSZ.out.2.2.2.2.2.inner e2 x1 hb).1
           omega
          ·obtain⟨y,hy⟩:=List.getElem?_of_mem hm
           obtain⟨_,_,_,e9⟩:=named_get hy
           exact hne (HSZ.out.2.2.2.2.2.apart k i qq uq j y z _ g e2 HUI.out x1 e9 hb rfl)
         have hmem:=end_mem (M:=M) (i:=i) (ri:=ri) (w:=E) (N4:=RW.heap.size) HRI.out HDL.out HDA.out.1 HSV0.out.len HLI.out.len (by omega) (by omega) (by have:=HFP.out.len;have:=(prgOk_le HFP.out.ok).2.1;omega) hnm hrows HS1.out.fitA
          (own_cells HSZ.out.2.2.2.2.1.ro (fun k arr _ hk=>hEZ k arr _ hk (by decide) (by decide) (by decide) (by decide) (by decide)))
          (own_cells HLI.out.ro (fun k arr _ hk=>hEZ k arr _ hk (by decide) (by decide) (by decide) (by decide) (by decide)))
          (own_cells HSZ.out.2.2.2.2.2.ro (fun k arr _ hk=>hEZ k arr _ hk (by decide) (by decide) (by decide) (by decide) (by decide)))
          HVI.out hoth
         have hty:=end_ty (M:=M) (i:=i) (ri:=ri) (w:=E) (N4:=RW.heap.size) (X:=getA s1.A t.arrays) (Y:=getA s1.A p.shared) HRI.out (by rw[getA_len];exact HDA.out.1) (by rw[getA_len];exact HDL.out)
          (own_cells HSZ.out.2.2.2.2.1.ro (fun k arr _ hk=>hEZ k arr _ hk (by decide) (by decide) (by decide) (by decide) (by decide)))
          (own_cells HLI.out.ro (fun k arr _ hk=>hEZ k arr _ hk (by decide) (by decide) (by decide) (by decide) (by decide)))
          (own_cells HSZ.out.2.2.2.2.2.ro (fun k arr _ hk=>hEZ k arr _ hk (by decide) (by decide) (by decide) (by decide) (by decide)))
          HVI.out hoth
         have hon:s1.out.length≤9223372036854775807:=by obtain⟨k,h1,_,_,h2⟩:=HS1.out.cnt;omega
         have hout:=(out_at (own_cells HS1.out.out (fun k arr _ hk=>hEA k arr _ hk (by decide) (by decide))) hon).2
         have hRE:R=⟨⟨M.arrays.set i (getA s1.A t.arrays),getA s1.A p.shared⟩,s1.out,s1.rd,s1.st,er⟩:=by
          rw[HRE.out]
          unfold runR
          rw[HT.out]
         refine⟨va,vc,sva,svc,oa,oc,?_,?_,HEB.out,?_,?_⟩
         ·rw[hRE]
          show Ending.returned (Value.agg #[.slice va M.arrays.length vc,.slice sva M.shared.length svc,_,_,_,_])=Ending.returned (Value.agg #[.slice va (M.arrays.set i _).length vc,.slice sva (getA s1.A p.shared).length svc,_,_,_,_])
          rw[List.length_set,getA_len,HDL.out]
         ·rw[hRE]
          exact⟨hmem,hout⟩
         ·rw[hRE]
          exact own_cap HS1.out.out
         ·rw[hRE]
          exact hty
