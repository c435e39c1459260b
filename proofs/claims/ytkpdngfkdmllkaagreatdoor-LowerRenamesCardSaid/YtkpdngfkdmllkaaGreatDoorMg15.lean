/- Part. -/
import Derived.Test.YtkpdngfkdmllkaaGreatDoorMg14
namespace Go.Proofs.YtkpdngfkdmllkaaGreatDoor
set_option linter.unusedVariables false
set_option linter.unusedSimpArgs false
open Go.RowKit Go.Maps
set_option maxRecDepth 100000
set_option maxHeartbeats 40000000
def recvR(inp:List Int)(t:Tree)(s:St):SR:=
 if (t.kid 0).kind=2 then (s.next.putV (t.kid 0).name (some (nxt inp s)),0)
 else runE (((t.kid 0).kid 0).ev s.V s.A) s fun i=>s.getA inp (t.kid 0).name i
theorem nxt_W{inp:List Int}{s:St}(h:∀ x∈inp,Wd.W x):Wd.W (nxt inp s):=by
 unfold nxt
 rw[List.getD_eq_getElem?_getD]
 cases hg:inp[s.rd]? with
 | none=>exact⟨by decide,by decide⟩
 | some x=>exact h x (List.mem_of_getElem? hg)
theorem in_receive_any(B K:Nat)(m:IM)(F:Int)(inp:List Int)(t:Tree)(w:World)(s:St)(ov:Value)(a:Option Addr)(c:Nat)(hv:t.vld 115=true)(h44:t.kind=44)(hr:InB B w t a)(h:StAt B K m F inp w s ov)(hKK:K≤90000000) :
 Calls Tryz.prog 56 #[.pointer (some ⟨m.sb,0,none⟩),t.val a c] w (SrQ B (K+2) m F inp w (recvR inp t s)):=by
 obtain⟨_,_,hlen,hkv⟩:=vldS hv
 rw[h44] at hlen hkv
 replace hlen:t.len=1:=hlen
 have hl0:0<t.len:=by omega
 have hl0i:(0:Int)<(t.len:Int):=by omega
 have hp:(t.kid 0).vld 112=true:=hkv 0 hl0
 obtain⟨kb,ko,rfl,hkb,pa,pc,hnp,hrp⟩:=kid_in hr hl0
 rw[Nat.zero_mul,Nat.add_zero] at hnp
 obtain⟨p,hpe⟩:∃ p,t.kid 0=p:=⟨_,rfl⟩
 have HR:Hid (recvR inp t s=if p.kind=2 then (s.next.putV p.name (some (nxt inp s)),0) else runE ((p.kid 0).ev s.V s.A) s fun i=>s.getA inp p.name i):=by
  show _=_;rw[←hpe];rfl
 rw[hpe] at hp hnp hrp
 have hpf:=hrp.fits
 have hps:=hrp.fits.name
 have hpl:=hrp.fits.len
 obtain⟨W,hW⟩:∃ W:World,w.alloc (ndObj t (some ⟨kb,ko,none⟩) c)=W:=⟨_,rfl⟩
 have hBW:Below w.heap.size w W:=by rw[←hW];exact mem_alloc _ _
 have hXW:W.heap[w.heap.size]? = some (ndObj t (some ⟨kb,ko,none⟩) c):=by rw[←hW];exact mem_new _ _
 obtain⟨W2,hW2⟩:∃ W2:World,W.alloc (ndObj p pa pc)=W2:=⟨_,rfl⟩
 have hBW2:Below W.heap.size W W2:=by rw[←hW2];exact mem_alloc _ _
 have hXW2:W2.heap[W.heap.size]? = some (ndObj p pa pc):=by rw[←hW2];exact mem_new _ _
 have HB2:Hid (Below w.heap.size w W2):=mem_then hBW hBW2
 have HS:=ξ h
 have HSZ:=ξ h.sz
 have HK:Hid (∀ w',Below W2.heap.size W2 w'→w'.heap[w.heap.size]? = some (ndObj t (some ⟨kb,ko,none⟩) c)∧w'.heap[W.heap.size]? = some (ndObj p pa pc)∧StAt B K m F inp w' s ov∧InB B w' p pa∧Below w.heap.size w w'):=fun w' hw=>by
  have hb:=mem_then HB2.out hw
  exact⟨mem_keep (mem_keep hXW hBW2) hw,mem_keep hXW2 hw,HS.out.keep hb,hrp.low (hb.mono HSZ.out.2.2.2),hb⟩
 have HS0:Hid (∀ w',Below W2.heap.size W2 w'→AsS B m W2 w.heap.size W.heap.size (ndObj t (some ⟨kb,ko,none⟩) c) (ndObj p pa pc) w'):=fun w' hw=>by
  have hk:=HK.out w' hw
  exact⟨hw.mono (Nat.le_trans HSZ.out.2.2.2 HB2.out.size),hk.1,hk.2.1,mem_cell hk.2.2.1.box 0⟩
 have hWge:w.heap.size≤W.heap.size:=hBW.size
 have HS1:Hid (∀ v w' K' s' ov,Below W2.heap.size W2 v→FrI B m v w'→StAt B K' m F inp w' s' ov→AsS B m W2 w.heap.size W.heap.size (ndObj t (some ⟨kb,ko,none⟩) c) (ndObj p pa pc) w'):=fun v w' K' s' ov hv hf hs=>by
  have hk:=HK.out v hv
  obtain⟨n1,n2,n3⟩:=row_no HS.out (Nat.le_refl _)
  obtain⟨n4,n5,n6⟩:=row_no HS.out hWge
  exact⟨(hv.mono (Nat.le_trans HSZ.out.2.2.2 HB2.out.size)).trans hf.low,hf.still _ _ hk.1 n1 n2 n3 (by show 47≠64;decide),hf.still _ _ hk.2.1 n4 n5 n6 (by show 47≠64;decide),mem_cell hs.box 0⟩
 have hsb:m.sb<W2.heap.size:=Nat.lt_of_lt_of_le h.sz.1 HB2.out.size
 obtain⟨_,_,_,t3⟩:=nd_cells hXW
 obtain⟨p0,p1,p2,p3⟩:=nd_cells hXW2
 have hnpW:=hnp.below hBW hnp.lt
 have n0:=hnpW.kind
 have n1:=hnpW.num
 have n2:=hnpW.name
 have n3:=hnpW.kids
 have HPV:=ξ hp
 have HFI:=ξ h.fitI
 clear hv h44 hr h hlen hkv hp hnp hrp hpe hpf hBW hXW hBW2 hXW2 hnpW
 by_cases hpk:p.kind=2
 ·have hpb:(p.kind == 2)=true:=by simp[hpk]
  have HE:Hid (recvR inp t s=(s.next.putV p.name (some (nxt inp s)),0)):=by show _=_;rw[HR.out,if_pos hpk]
  clear hpk
  go_enter Tryz.func56,Tryz.ntmps56
  go_wp2_with fail
  clear hW hW2 t3 p0 p1 p2 p3 n0 n1 n2 n3
  have hD0:Below W2.heap.size W2 (World.drew W2):=(Below.refl _ _).drew
  refine wp_region_held_drew (S:=AsS B m W2 w.heap.size W.heap.size (ndObj t (some ⟨kb,ko,none⟩) c) (ndObj p pa pc)) (by kernel_rfl) (HS0.out _ hD0) (fun hHeld=>?_)
  generalize hwd:World.drew W2=v1 at hHeld hD0⊢
  clear hwd
  refine hT 0 (.pointer (some ⟨m.sb,0,none⟩)) rfl (hy:=?_) (h:=?_)
  ·intro w' hSw;go_simp
  (try simp only[Act.put,pZ])
  refine hT 1 (.pointer (some ⟨m.sb,0,none⟩)) rfl (hy:=?_) (h:=?_)
  ·intro w' hSw;go_simp
  (try simp only[Act.put,pZ])
  refine hT 2 (.pointer (some ⟨m.sb,0,none⟩)) rfl (hy:=?_) (h:=?_)
  ·intro w' hSw;go_simp
  (try simp only[Act.put,pZ])
  refine hT 3 (.map (some m.vb)) rfl (hy:=?_) (h:=?_)
  ·intro w' hSw;have z0:=hSw.c0;go_simp
  (try simp only[Act.put,pZ])
  refine hT 4 (.pointer (some ⟨W.heap.size,2,none⟩)) rfl (hy:=?_) (h:=?_)
  ·intro w' hSw;go_simp
  (try simp only[Act.put,pZ])
  refine hT 5 (.string p.name) rfl (hy:=?_) (h:=?_)
  ·intro w' hSw;obtain⟨_,_,z0,_⟩:=nd_cells hSw.x2;go_simp
  (try simp only[Act.put,pZ])
  refine hT 6 (.pointer (some ⟨m.sb,0,none⟩)) rfl (hy:=?_) (h:=?_)
  ·intro w' hSw;go_simp
  (try simp only[Act.put,pZ])
  have h9:=next_any B K m F inp v1 s ov (HK.out v1 hD0).2.2.1 (by omega)
  have H9:=ξ h9
  have HB1:=ξ hD0
  clear h9 hD0
  refine hR 7 rfl (fun K hK=>?_)
  go_simp
  refine H9.out.mono ?_
  rintro e w2 ⟨rfl,hst,hfr⟩
  have HS2:=ξ (HS1.out _ _ _ _ _ HB1.out hfr hst)
  obtain⟨w3,hrun,hst3,hfr3⟩:=hst.store hps (nxt_W (s:=s) HFI.out) (by omega)
  have HS3:=ξ (HS1.out _ _ _ _ _ HB1.out (hfr.trans hfr3) hst3)
  have HST:=ξ hst3
  have HFR:Hid (FrI B m w w3):=(FrI.of (HK.out _ HB1.out).2.2.2.2 HSZ.out.2.2.2).trans (hfr.trans hfr3)
  have HRUN:=ξ hrun
  clear hst hfr hst3 hfr3 hrun H9
  refine hK.out _ _ (HS2.out) (fun hHeld=>?_)
  clear hK K
  rename_i hOld
  clear hOld
  (try simp only[Act.put,pZ])
  have hrun:=HRUN.out
  refine hR 8 rfl (fun K hK=>?_)
  go_simp
  refine hK.out _ _ (HS3.out) (fun hHeld=>?_)
  clear hK K
  rename_i hOld
  clear hOld
  (try simp only[Act.put,pZ])
  clear hrun
  refine wpAnyH_done (by kernel_rfl) ?_ _
  go_wp2_with fail
  go_end0
  exact⟨by rw[HE.out];exact srE_ok,ov,by rw[HE.out];exact HST.out,HFR.out⟩
 ·have hpb:(p.kind == 2)=false:=by simp[hpk]
  obtain⟨hpl1,hpx⟩:p.len=1∧(p.kid 0).vld 101=true:=by
   rcases vldP HPV.out with h|h
   ·exact absurd h hpk
   ·exact h.2
  have hpl0:0<p.len:=by omega
  have hpl0i:(0:Int)<(p.len:Int):=by omega
  obtain⟨y,hye⟩:∃ y,p.kid 0=y:=⟨_,rfl⟩
  have HE:Hid (recvR inp t s=runE (y.ev s.V s.A) s fun i=>s.getA inp p.name i):=by show _=_;rw[HR.out,if_neg hpk,hye]
  obtain⟨qb,qo,rfl,hqb,ya,yc,hny,hry⟩:=kid_in (HK.out W2 (Below.refl _ _)).2.2.2.1 hpl0
  rw[Nat.zero_mul,Nat.add_zero,hye] at hny
  rw[hye] at hry hpx
  have HNY:Hid (∀ w',Below B W2 w'→NodeAt w' qb qo y ya yc):=fun w' hw=>hny.below hw hqb
  have HRY:=ξ hry
  have HYV:=ξ hpx
  clear hpk hpl1 hpx hye hny hry
  go_enter Tryz.func56,Tryz.ntmps56
  go_wp2_with fail
  clear hW hW2 t3 p0 p1 p2 p3 n0 n1 n2 n3
  have hD0:Below W2.heap.size W2 (World.drew W2):=(Below.refl _ _).drew
  refine wp_region_held_drew (S:=AsS B m W2 w.heap.size W.heap.size (ndObj t (some ⟨kb,ko,none⟩) c) (ndObj p (some ⟨qb,qo,none⟩) pc)) (by kernel_rfl) (HS0.out _ hD0) (fun hHeld=>?_)
  generalize hwd:World.drew W2=v1 at hHeld hD0⊢
  clear hwd
  refine hT 0 (.pointer (some ⟨m.sb,0,none⟩)) rfl (hy:=?_) (h:=?_)
  ·intro w' hSw;go_simp
  (try simp only[Act.put,pZ])
  refine hT 1 (.pointer (some ⟨W.heap.size,2,none⟩)) rfl (hy:=?_) (h:=?_)
  ·intro w' hSw;go_simp
  (try simp only[Act.put,pZ])
  refine hT 2 (.string p.name) rfl (hy:=?_) (h:=?_)
  ·intro w' hSw;obtain⟨_,_,z0,_⟩:=nd_cells hSw.x2;go_simp
  (try simp only[Act.put,pZ])
  refine hT 3 (.pointer (some ⟨m.sb,0,none⟩)) rfl (hy:=?_) (h:=?_)
  ·intro w' hSw;go_simp
  (try simp only[Act.put,pZ])
  refine hT 4 (.pointer (some ⟨W.heap.size,3,none⟩)) rfl (hy:=?_) (h:=?_)
  ·intro w' hSw;go_simp
  (try simp only[Act.put,pZ])
  refine hT 5 (.slice (some ⟨qb,qo,none⟩) p.len pc) rfl (hy:=?_) (h:=?_)
  ·intro w' hSw;obtain⟨_,_,_,z0⟩:=nd_cells hSw.x2;go_simp
  (try simp only[Act.put,pZ])
  refine hT 6 (.pointer (some ⟨qb,qo,none⟩)) rfl (hy:=?_) (h:=?_)
  ·intro w' hSw;go_simp
  (try simp only[Act.put,pZ])
  refine hT 7 (y.val ya yc) rfl (hy:=?_) (h:=?_)
  ·intro w' hSw;have zn:=HNY.out _ hSw.low;have z0:=zn.kind;have z1:=zn.num;have z2:=zn.name;have z3:=zn.kids;go_simp
  (try simp only[Act.put,pZ])
  obtain⟨k,hrd⟩:=(HK.out v1 hD0).2.2.1.rd
  have h9:=expr_any m.sb m.vb m.ab k m.na m.G s.V s.A y HYV.out v1 ya yc (HRY.out.low (hD0.mono (Nat.le_trans HSZ.out.2.2.2 HB2.out.size))).rep hrd
  have H9:=ξ h9
  have HB1:=ξ hD0
  clear h9 hrd hD0
  refine hR 8 rfl (fun K hK=>?_)
  go_simp
  refine H9.out.mono ?_
  rintro e w2 ⟨he,hB2⟩
  have HB3:=ξ (mem_then HB1.out hB2)
  clear hB2 H9
  cases hv0:y.ev s.V s.A with
  | er k =>
   rw[hv0] at he
   have he:e = .panicked (failC k):=he
   subst he
   exact panic_end rfl ⟨by rw[HE.out,hv0];exact srE_er (ev_er _ _ _ _ hv0),ov,by rw[HE.out,hv0];exact (HK.out _ HB3.out).2.2.1.mono (by omega),FrI.of (HK.out _ HB3.out).2.2.2.2 HSZ.out.2.2.2⟩
  | ok i =>
   rw[hv0] at he
   obtain⟨rfl,hWi⟩:=he
   have HV0:=ξ hv0
   have hWi2 : -2147483648≤i∧i≤2147483647:=hWi
   have HE2:Hid (recvR inp t s=s.getA inp p.name i):=by show _=_;rw[HE.out,hv0];rfl
   have hst:=(HK.out w2 HB3.out).2.2.1
   have c1:=mem_cell hst.box 1
   simp only[List.getElem?_toArray,List.getElem?_cons_zero,List.getElem?_cons_succ] at c1
   have HST:=ξ hst
   have HARR:=ξ hst.arrs
   have HBB:=ξ (HK.out _ HB3.out).2.2.2.2
   by_cases hin:∃ l,s.A p.name=some l∧0≤i∧i<(l.length:Int)
   ·obtain⟨l,hA,hi0,hil⟩:=hin
    obtain⟨g,rc,hG,_,hgl,hll,hrow⟩:=hst.rows.lt hA
    have HG:Hid ((m.G p.name).getD (.slice none 0 0) = .slice (some ⟨g,0,none⟩) l.length rc):=by show _=_;rw[hG];rfl
    have hin2:i.toNat<l.length:=by omega
    have HIN2:=ξ hin2
    have HA:=ξ hA
    have HGG:=ξ hG
    have HE3:Hid (recvR inp t s=({ s.next with A:=upd s.next.A p.name (some (l.set i.toNat (nxt inp s))) },0)):=by
     show _=_;rw[HE2.out];unfold St.getA;rw[hA];show (if _ then _ else _)=_;rw[if_pos ⟨hi0,hil⟩]
     unfold St.putA
     have hA2:s.next.A p.name=some l:=hA
     rw[hA2];show (if _ then _ else _)=_;rw[if_pos ⟨hi0,hil⟩]
    have h9:=element_ok p.name i w2 m.sb m.ab m.na l.length rc g 0 m.G c1 HARR.out HG.out hps hi0 hil hll
    have H9:=ξ h9
    clear hv0 hWi hst hA hi0 hil hG hrow h9 c1 hin2
    refine hK.out _ _ (HS0.out _ HB3.out) (fun hHeld=>?_)
    clear hK K
    rename_i hOld
    clear hOld
    (try simp only[Act.put,pZ])
    refine hR 9 rfl (fun K hK=>?_)
    go_simp
    refine H9.out.mono ?_
    rintro e w' ⟨rfl,rfl⟩
    rw[Nat.zero_add]
    clear H9
    refine hK.out _ _ (HS0.out _ HB3.out) (fun hHeld=>?_)
    clear hK K
    rename_i hOld
    clear hOld
    (try simp only[Act.put,pZ])
    refine hR 10 rfl (fun K hK=>?_)
    go_simp
    refine hK.out _ _ (HS0.out _ HB3.out) (fun hHeld=>?_)
    clear hK K
    rename_i hOld
    clear hOld
    (try simp only[Act.put,pZ])
    refine wpAnyH_done (by kernel_rfl) ?_ _
    have h9:=next_any B K m F inp w2 s ov HST.out (by omega)
    have H9:=ξ h9
    clear h9 hHeld
    go_wp2_with fail
    refine H9.out.mono ?_
    rintro e w3 ⟨rfl,hst3,hfr3⟩
    have hA3:s.next.A p.name=some l:=HA.out
    obtain⟨g',rc',hG',_,_,_,hrow⟩:=hst3.rows.lt hA3
    rw[HGG.out] at hG'
    cases hG'
    have HP:=ξ (hst3.put hA3 HGG.out HIN2.out (nxt_W (s:=s) HFI.out))
    have HFR3:=ξ hfr3
    have hcell:∃ u,w3.cell? ⟨g,i.toNat,none⟩=some u:=⟨_,own_get hrow (by rw[List.getElem?_map,List.getElem?_eq_getElem HIN2.out];rfl)⟩
    obtain⟨u,hcell⟩:=hcell
    have hfz:=in_row_free hrow i.toNat
    clear hst3 hfr3 hA3 hrow H9
    go_wp2_with fail
    go_end0
    exact⟨by rw[HE3.out];exact srE_ok,ov,by rw[HE3.out];exact HP.out.1.mono (Nat.le_succ _),(FrI.of HBB.out HSZ.out.2.2.2).trans (HFR3.out.trans HP.out.2)⟩
   ·have HE3:Hid (recvR inp t s=(s,11)):=by
     show _=_;rw[HE2.out];unfold St.getA
     cases hA:s.A p.name with
     | none=>rfl
     | some l=>show (if _ then _ else _)=_;rw[if_neg (fun h=>hin ⟨l,hA,h⟩)]
    obtain⟨ga,gn,gc,hG,hgi,hgn⟩:∃ ga gn gc,(m.G p.name).getD (.slice none 0 0) = .slice ga gn gc∧(i<0∨(gn:Int)≤i)∧gn≤1000000:=by
     cases hA:s.A p.name with
     | none =>
      have h1:=hst.rows p.name
      rw[hA] at h1
      have h1:m.G p.name=none:=h1
      exact⟨none,0,0,by rw[h1];rfl,by omega,by omega⟩
     | some l =>
      obtain⟨g,rc,hG,_,hgl,hll,hrow⟩:=hst.rows.lt hA
      refine⟨_,l.length,rc,by rw[hG];rfl,?_,hll⟩
      have:¬ (0≤i∧i<(l.length:Int)):=fun h=>hin ⟨l,hA,h⟩
      omega
    have h9:=element_er p.name i w2 m.sb m.ab m.na gn gc ga m.G c1 HARR.out hG hps hgi hWi2 hgn
    have H9:=ξ h9
    clear hv0 hWi hst hin hG hgi h9 c1
    refine hK.out _ _ (HS0.out _ HB3.out) (fun hHeld=>?_)
    clear hK K
    rename_i hOld
    clear hOld
    (try simp only[Act.put,pZ])
    refine hR 9 rfl (fun K hK=>?_)
    go_simp
    refine H9.out.mono ?_
    rintro e w' ⟨rfl,rfl⟩
    exact panic_end rfl ⟨by rw[HE3.out];exact srE_er (by decide),ov,by rw[HE3.out];exact HST.out.mono (by omega),FrI.of HBB.out HSZ.out.2.2.2⟩
def StmtOk(B:Nat)(m:IM)(F:Int)(inp:List Int)(t:Tree):Prop:=∀ (K:Nat) (w:World) (s:St) (ov:Value) (a:Option Addr) (c:Nat),K≤80000000→t.vld 115=true→InB B w t a→StAt B K m F inp w s ov →
 Calls Tryz.prog 34 #[.pointer (some ⟨m.sb,0,none⟩),t.val a c] w (SrQ B K m F inp w (t.ex F inp s))
def BlkOk(B:Nat)(m:IM)(F:Int)(inp:List Int)(t:Tree):Prop:=∀ (K:Nat) (w:World) (s:St) (ov:Value) (a:Option Addr) (c:Nat),K≤80000000→t.vld 98=true→InB B w t a→StAt B K m F inp w s ov →
 Calls Tryz.prog 23 #[.pointer (some ⟨m.sb,0,none⟩),t.val a c] w (SrQ B K m F inp w (t.ex F inp s))
theorem seqTo_next{f:Nat→St→SR}{j:Nat}{s s1:St}(h:seqTo f j s=(s1,0)):seqTo f (j+1) s=f j s1:=by
 show (seqTo f j s).then (f j)=_
 rw[h]
 exact SR.then_ok rfl
theorem seqTo_er {f : Nat → St → SR} {s : St} {r : SR} : ∀ {n j : Nat}, seqTo f j s = r → r.2 ≠ 0 → j ≤ n → seqTo f n s = r := by
  intro n
  induction n with
  | zero => intro j h hr hj; obtain rfl : j = 0 := by omega
            exact h
  | succ n ih =>
    intro j h hr hj
    by_cases e : j = n + 1
    · subst e; exact h
    · show (seqTo f n s).then (f n) = _
      rw [ih h hr (by omega)]
      exact SR.then_er hr
theorem pair_eq{r:SR}{e:Int}(h:r.2=e):r=(r.1,e):=by rw[←h]
theorem block_of(B:Nat)(m:IM)(F:Int)(inp:List Int)(t:Tree)(hk:∀ i,i<t.len→StmtOk B m F inp (t.kid i)):BlkOk B m F inp t:=by
 intro K w s ov a c hKK hv hr h
 obtain⟨h47,hkv⟩:=vldB hv
 have HEX:Hid (t.ex F inp s=seqTo (kidX F inp t) t.len s):=by show _=_;rw[Tree.ex_eq,if_pos h47]
 have HKO:=ξ hk
 have HKV:=ξ hkv
 have hnl:=hr.fits.len
 obtain⟨W,hW⟩:∃ W:World,w.alloc (ndObj t a c)=W:=⟨_,rfl⟩
 have HBW:Hid (Below w.heap.size w W):=by show Below _ _ _;rw[←hW];exact mem_alloc _ _
 have hXW:W.heap[w.heap.size]? = some (ndObj t a c):=by rw[←hW];exact mem_new _ _
 have HS:=ξ h
 have HSZ:=ξ h.sz
 have HR:=ξ hr
 obtain⟨_,_,_,t3⟩:=nd_cells hXW
 have hsb:m.sb<W.heap.size:=Nat.lt_of_lt_of_le h.sz.1 HBW.out.size
 clear hk hv hr h h47 hkv hXW
 go_enter Tryz.func23,Tryz.ntmps23
 go_wp2_with fail
 clear hW t3
 go_loopw [9] (fun iv wr=>∃ (j:Nat) (s1:St) (ov1:Value),j≤t.len∧iv = .int .i64 (j:Int)∧seqTo (kidX F inp t) j s=(s1,0)∧StAt B K m F inp wr s1 ov1∧FrI B m W wr) (fun iv _=>t.len-(intOf iv).toNat)
 case atStart=>exact⟨0,s,ov,Nat.zero_le _,rfl,rfl,HS.out.keep HBW.out,FrI.refl⟩
 case round =>
  obtain⟨j,s1,ov1,hj,rfl,hseq,hst,hfr⟩:=hrel
  have HSEQ:=ξ hseq
  have HST:=ξ hst
  have HFR:Hid (FrI B m w wr):=(FrI.of HBW.out HSZ.out.2.2.2).trans hfr
  have HFW:=ξ hfr
  have hj0:(0:Int)≤(j:Int):=by omega
  clear hseq hst hfr
  by_cases hlt:j<t.len
  ·have hlt2:(j:Int)<(t.len:Int):=by omega
   obtain⟨kb,ko,rfl,hkb,ai,ci,hn,hri⟩:=kid_in HR.out hlt
   have hn1:=hn.below HFR.out.low hkb
   have n0:=hn1.kind
   have n1:=hn1.num
   have n2:=hn1.name
   have n3:=hn1.kids
   obtain⟨u,hu⟩:∃ u,t.kid j=u:=⟨_,rfl⟩
   rw[hu] at n0 n1 n2 n3 hri
   obtain⟨V,hV⟩:∃ V:World,wr.alloc (ndObj u ai ci)=V:=⟨_,rfl⟩
   have hBV:Below wr.heap.size wr V:=by rw[←hV];exact mem_alloc _ _
   have hXV:V.heap[wr.heap.size]? = some (ndObj u ai ci):=by rw[←hV];exact mem_new _ _
   obtain⟨v0,v1,v2,v3⟩:=nd_cells hXV
   have h9:=HKO.out j hlt K V s1 ov1 ai ci hKK (HKV.out j hlt)
   rw[hu] at h9
   have h9:=h9 (hri.low (HFR.out.low.trans (hBV.mono HST.out.sz.2.2.2))) (HST.out.keep hBV)
   have H9:=ξ h9
   have HBV:Hid (FrI B m W V):=HFW.out.trans (FrI.of hBV HST.out.sz.2.2.2)
   have HNX:Hid (seqTo (kidX F inp t) (j+1) s=u.ex F inp s1):=by
    show _=_;rw[seqTo_next HSEQ.out];unfold kidX;rw[if_pos hlt,hu]
   clear hn hn1 hri hu hBV hXV h9
   go_wp2_with fail
   clear hV n0 n1 n2 n3 v0 v1 v2 v3
   refine H9.out.mono ?_
   rintro e w2 ⟨he,ov2,hst2,hfr2⟩
   clear H9
   by_cases h0:(u.ex F inp s1).2=0
   ·unfold SrE at he
    rw[if_pos h0] at he
    subst he
    have HE:=ξ (HNX.out.trans (pair_eq h0))
    have HST2:=ξ hst2
    have HFR2:=ξ (HBV.out.trans hfr2)
    clear h0 hst2 hfr2
    go_wp2_with fail
    go_roundw
    case rel=>exact⟨j+1,_,ov2,by omega,by go_num,HE.out,HST2.out,HFR2.out⟩
    case measure=>simp[intOf];omega
   ·have he2:e = .panicked (failC (u.ex F inp s1).2):=by unfold SrE at he;rw[if_neg h0] at he;exact he
    have hall:t.ex F inp s=u.ex F inp s1:=by rw[HEX.out];exact seqTo_er HNX.out h0 (by omega)
    subst he2
    exact panic_end (P:=Tryz.prog) (fn:=Tryz.f23) rfl ⟨by rw[hall];exact he,ov2,by rw[hall];exact hst2,(FrI.of HBW.out HSZ.out.2.2.2).trans (HBV.out.trans hfr2)⟩
  ·obtain rfl:j=t.len:=by omega
   go_wp2_with fail
   go_end0
   exact⟨by rw[HEX.out,HSEQ.out];exact srE_ok,ov1,by rw[HEX.out,HSEQ.out];exact HST.out,HFR.out⟩
theorem stp_lt{F:Int}{s:St}(h:(s.st:Int)<F):stp F s=({ s with st:=s.st+1 },0):=if_neg (by omega)
theorem stp_ge{F:Int}{s:St}(h:F≤(s.st:Int)):stp F s=(s,13):=if_pos h
theorem whl_eq(F:Int)(c:St→EV)(b:St→SR)(k:Nat)(s:St):whl F c b k s=(stp F s).then fun s1=>runE (c s1) s1 fun x=>if x=0 then (s1,0) else if k=0 then (s1,11) else (b s1).then (whl F c b (k-1)):=by
 cases k with
 | zero=>rfl
 | succ k=>rfl
theorem while_of(B:Nat)(m:IM)(F:Int)(inp:List Int)(t:Tree)(hF:F≤10000000)(hb:BlkOk B m F inp (t.kid 1))(K:Nat)(w:World)(s:St)(ov:Value)(a:Option Addr)(c:Nat)(hKK:K≤80000000)(hv:t.vld 115=true)(h43:t.kind=43)(hr:InB B w t a)(h:StAt B K m F inp w s ov) :
 Calls Tryz.prog 55 #[.pointer (some ⟨m.sb,0,none⟩),t.val a c] w (SrQ B K m F inp w (whl F (kidE t 0) (kidX F inp t 1) t.num.toNat s)):=by
 obtain⟨_,hnum,hlen,hkv⟩:=vldS hv
 rw[h43] at hlen hkv hnum
 replace hlen:t.len=2:=hlen
 replace hnum:(1:Int)≤t.num∧t.num≤1000:=hnum
 obtain⟨n,hn⟩:∃ n:Nat,t.num=(n:Int):=⟨t.num.toNat,by omega⟩
 have hnn:t.num.toNat=n:=by omega
 rw[hnn]
 have HN:=ξ hn
 have hn1000:n≤1000:=by omega
 have hl0:0<t.len:=by omega
 have hl1:1<t.len:=by omega
 have hl0i:(0:Int)<(t.len:Int):=by omega
 have hl1i:(1:Int)<(t.len:Int):=by omega
 have hcv:(t.kid 0).vld 101=true:=hkv 0 hl0
 have hbv:(t.kid 1).vld 98=true:=hkv 1 hl1
 obtain⟨kb,ko,rfl,hkb,xa,xc,hnx,hrx⟩:=kid_in hr hl0
 obtain⟨kb',ko',hsame,_,ya,yc,hny,hry⟩:=kid_in hr hl1
 cases hsame
 rw[Nat.zero_mul,Nat.add_zero] at hnx
 rw[Nat.one_mul] at hny
 obtain⟨x,hxe⟩:∃ x,t.kid 0=x:=⟨_,rfl⟩
 obtain⟨y,hye⟩:∃ y,t.kid 1=y:=⟨_,rfl⟩
 rw[hxe] at hcv hnx hrx
 rw[hye] at hbv hny hry hb
 have HC:Hid (∀ s1,kidE t 0 s1=x.ev s1.V s1.A):=fun s1=>by unfold kidE;rw[if_pos hl0,hxe]
 have HY:Hid (∀ s1,kidX F inp t 1 s1=y.ex F inp s1):=fun s1=>by unfold kidX;rw[if_pos hl1,hye]
 obtain⟨R,hR⟩:∃ R,whl F (kidE t 0) (kidX F inp t 1) n s=R:=⟨_,rfl⟩
 rw[hR]
 have HRR:=ξ hR
 have HCV:=ξ hcv
 have HBV:=ξ hbv
 have HBO:=ξ hb
 obtain⟨W,hW⟩:∃ W:World,w.alloc (ndObj t (some ⟨kb,ko,none⟩) c)=W:=⟨_,rfl⟩
 have HBW:Hid (Below w.heap.size w W):=by show Below _ _ _;rw[←hW];exact mem_alloc _ _
 have HXW:Hid (W.heap[w.heap.size]? = some (ndObj t (some ⟨kb,ko,none⟩) c)):=by show _=_;rw[←hW];exact mem_new _ _
 have HS:=ξ h
 have HSZ:=ξ h.sz
 have HK:Hid (∀ w',FrI B m W w'→w'.heap[w.heap.size]? = some (ndObj t (some ⟨kb,ko,none⟩) c)∧NodeAt w' kb ko x xa xc∧NodeAt w' kb (ko+4) y ya yc∧InB B w' x xa∧InB B w' y ya∧FrI B m w w'):=fun w' hf=>by
  obtain⟨n1,n2,n3⟩:=row_no HS.out (Nat.le_refl _)
  have hl:FrI B m w w':=(FrI.of HBW.out HSZ.out.2.2.2).trans hf
  exact⟨hf.still _ _ HXW.out n1 n2 n3 (by show 47≠64;decide),hnx.below hl.low hkb,hny.below hl.low hkb,hrx.low hl.low,hry.low hl.low,hl⟩
 have hsb:m.sb<W.heap.size:=Nat.lt_of_lt_of_le h.sz.1 HBW.out.size
 clear hv h43 hr h hlen hkv hcv hbv hnx hrx hny hry hxe hye hb hR hnum hnn hn
 go_enter Tryz.func55,Tryz.ntmps55
 go_wp2_with fail
 clear hW
 go_loopw [4] (fun iv wr=>∃ (j:Nat) (s1:St) (ov1:Value),j≤n∧iv = .int .i64 (j:Int)∧whl F (kidE t 0) (kidX F inp t 1) (n-j) s1=R∧StAt B K m F inp wr s1 ov1∧FrI B m W wr) (fun iv _=>n+1-(intOf iv).toNat)
 case atStart=>exact⟨0,s,ov,Nat.zero_le _,rfl,HRR.out,HS.out.keep HBW.out,FrI.refl⟩
 case round =>
  obtain⟨j,s1,ov1,hj,rfl,hseq,hst,hfr⟩:=hrel
  have hj0:(0:Int)≤(j:Int):=by omega
  rw[whl_eq] at hseq
  have HSEQ:=ξ hseq
  have HST:=ξ hst
  have HFW:=ξ hfr
  have hbox:=hst.box
  clear hseq hst hfr
  by_cases hlt:(s1.st:Int)<F
  ·have h9:=step_ok wr m.sb m.vb m.ab inp.length m.inc s1.rd s1.st m.ina F ov1 hbox hlt (by omega)
   have H9:=ξ h9
   have HLT:=ξ hlt
   clear hbox h9 hlt
   go_wp2_with fail
   refine H9.out.mono ?_
   rintro e w2 ⟨rfl,hb2,ho2,hB2⟩
   obtain⟨hst2,hK2,hfr2⟩:=HST.out.stepped HLT.out hb2 ho2 hB2
   obtain⟨s2,hs2⟩:∃ s2,({ s1 with st:=s1.st+1 }:St)=s2:=⟨_,rfl⟩
   rw[hs2] at hst2
   have HSEQ2:Hid ((runE (kidE t 0 s2) s2 fun x=>if x=0 then (s2,0) else if n-j=0 then (s2,11) else (kidX F inp t 1 s2).then (whl F (kidE t 0) (kidX F inp t 1) (n-j-1)))=R):=by
    have h1:=HSEQ.out
    rw[stp_lt HLT.out,hs2] at h1
    exact h1
   have HST2:=ξ hst2
   have HFR2:=ξ (HFW.out.trans hfr2)
   obtain⟨k,hrd⟩:=hst2.rd
   obtain⟨hbx,hnx,_,hrx,_,_⟩:=HK.out w2 (HFW.out.trans hfr2)
   have h9:=expr_any m.sb m.vb m.ab k m.na m.G s2.V s2.A x HCV.out w2 xa xc hrx.rep hrd
   have H10:=ξ h9
   obtain⟨_,_,_,t3⟩:=nd_cells hbx
   have n0:=hnx.kind
   have n1:=hnx.num
   have n2:=hnx.name
   have n3:=hnx.kids
   clear H9 hb2 ho2 hB2 hs2 hst2 hfr2 hrd hbx hnx hrx h9 HSEQ
   go_wp2_with fail
   clear t3 n0 n1 n2 n3
   refine H10.out.mono ?_
   rintro e w3 ⟨he,hB3⟩
   have HB3:=ξ hB3
   have HFR3:Hid (FrI B m W w3):=HFR2.out.trans (FrI.of hB3 HST2.out.sz.2.2.2)
   have HST3:=ξ (HST2.out.keep hB3)
   clear hB3 H10
   cases hv0:x.ev s2.V s2.A with
   | er k =>
    rw[hv0] at he
    have he:e = .panicked (failC k):=he
    have hRE:R=(s2,k):=by
     have h1:=HSEQ2.out
     rw[HC.out,hv0] at h1
     exact h1.symm
    subst he
    exact panic_end (P:=Tryz.prog) (fn:=Tryz.f55) rfl ⟨by rw[hRE];exact srE_er (ev_er _ _ _ _ hv0),ov1,by rw[hRE];exact HST3.out.mono (by omega),(HK.out _ HFR3.out).2.2.2.2.2⟩
   | ok v =>
    rw[hv0] at he
    obtain⟨rfl,_⟩:=he
    have HSEQ3:Hid ((if v=0 then (s2,0) else if n-j=0 then (s2,11) else (kidX F inp t 1 s2).then (whl F (kidE t 0) (kidX F inp t 1) (n-j-1)))=R):=by
     have h1:=HSEQ2.out
     rw[HC.out,hv0] at h1
     exact h1
    clear hv0 HSEQ2
    by_cases h0:v=0
    ·have hb:(v == 0)=true:=by simp[h0]
     have HRE:Hid (R=(s2,0)):=by have h1:=HSEQ3.out;rw[if_pos h0] at h1;exact h1.symm
     clear h0
     go_wp2_with fail
     refine bodyPost_ret (results_none rfl _ _ _) rfl ?_
     exact⟨by rw[HRE.out];exact srE_ok,ov1,by rw[HRE.out];exact HST3.out.mono (by omega),(HK.out _ HFR3.out).2.2.2.2.2⟩
    ·have hb:(v == 0)=false:=by simp[h0]
     obtain⟨hbx,_,hny,_,hry,_⟩:=HK.out w3 HFR3.out
     obtain⟨_,t1,_,t3⟩:=nd_cells hbx
     by_cases hjn:j=n
     ·have hc:((j:Int) == t.num)=true:=by rw[HN.out,hjn];simp
      have HRE:Hid (R=(s2,11)):=by have h1:=HSEQ3.out;rw[if_neg h0,if_pos (by omega)] at h1;exact h1.symm
      clear h0 hjn hbx hny hry
      go_wp2_with fail
      refine (fail_any 11 w3).mono ?_
      rintro e w4 ⟨rfl,rfl⟩
      exact panic_end (P:=Tryz.prog) (fn:=Tryz.f55) rfl ⟨by rw[HRE.out];exact srE_er (by decide),ov1,by rw[HRE.out];exact HST3.out.mono (by omega),(HK.out _ HFR3.out).2.2.2.2.2⟩
     ·have hc:((j:Int) == t.num)=false:=by rw[HN.out,beq_eq_false_iff_ne];omega
      have hjl:j<n:=by omega
      have HSEQ4:Hid ((y.ex F inp s2).then (whl F (kidE t 0) (kidX F inp t 1) (n-(j+1)))=R):=by
       have h1:=HSEQ3.out
       rw[if_neg h0,if_neg (by omega),HY.out,show n-j-1=n-(j+1) by omega] at h1
       exact h1
      have n0:=hny.kind
      have n1:=hny.num
      have n2:=hny.name
      have n3:=hny.kids
      have h9:=HBO.out (K-2) w3 s2 ov1 ya yc (by omega) HBV.out hry HST3.out
      have H9:=ξ h9
      clear h0 hjn hbx hny hry h9 HSEQ3
      go_wp2_with fail
      clear t1 t3 n0 n1 n2 n3
      refine H9.out.mono ?_
      rintro e w4 ⟨he,ov4,hst4,hfr4⟩
      clear H9
      have HST4:=ξ (hst4.mono (show K-2≤K by omega))
      have HFR4:=ξ (HFR3.out.trans hfr4)
      clear hst4 hfr4
      by_cases h0:(y.ex F inp s2).2=0
      ·unfold SrE at he
       rw[if_pos h0] at he
       subst he
       have HE:Hid (whl F (kidE t 0) (kidX F inp t 1) (n-(j+1)) (y.ex F inp s2).1=R):=by
        have h1:=HSEQ4.out
        rw[SR.then_ok h0] at h1
        exact h1
       clear h0
       go_wp2_with fail
       go_roundw
       case rel=>exact⟨j+1,_,ov4,by omega,by go_num,HE.out,HST4.out,HFR4.out⟩
       case measure=>simp[intOf];omega
      ·have he2:e = .panicked (failC (y.ex F inp s2).2):=by unfold SrE at he;rw[if_neg h0] at he;exact he
       have hall:R=y.ex F inp s2:=by rw[←HSEQ4.out];exact SR.then_er h0
       subst he2
       exact panic_end (P:=Tryz.prog) (fn:=Tryz.f55) rfl ⟨by rw[hall];exact he,ov4,by rw[hall];exact HST4.out,(HK.out _ HFR4.out).2.2.2.2.2⟩
  ·have hge:F≤(s1.st:Int):=by omega
   have h9:=step_er wr m.sb m.vb m.ab inp.length m.inc s1.rd s1.st m.ina F ov1 hbox hge
   have H9:=ξ h9
   have HRE:Hid (R=(s1,13)):=by
    have h1:=HSEQ.out
    rw[stp_ge hge] at h1
    exact h1.symm
   clear hbox h9 hlt hge
   go_wp2_with fail
   refine H9.out.mono ?_
   rintro e w2 ⟨rfl,ho2,hB2⟩
   exact panic_end (P:=Tryz.prog) (fn:=Tryz.f55) rfl ⟨by rw[HRE.out];exact srE_er (by decide),ov1,by rw[HRE.out];exact HST.out.keep hB2,(HK.out wr HFW.out).2.2.2.2.2.trans (FrI.of hB2 HST.out.sz.2.2.2)⟩
