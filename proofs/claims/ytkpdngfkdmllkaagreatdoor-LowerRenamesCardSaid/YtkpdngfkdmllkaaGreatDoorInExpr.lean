/- Part. -/
import Derived.Test.YtkpdngfkdmllkaaGreatDoorMg12
import Derived.Deep.RegionHeld
import Derived.OrdersHeld
import Derived.Deep.Cut
import Derived.Deep.CutRange
import Derived.Deep.DeepCutAuto
import Derived.Deep.CutBlock
namespace Go.Proofs.YtkpdngfkdmllkaaGreatDoor
set_option linter.unusedVariables false
set_option linter.unusedSimpArgs false
open Go.RowKit Go.Maps
set_option maxRecDepth 100000
set_option maxHeartbeats 40000000
def EvE:EV→Ending→Prop
 | .ok x,e=>e = .returned (.int .i32 x)∧Wd.W x
 | .er k,e=>e = .panicked (failC k)
def EvQ(v:EV)(w:World)(e:Ending)(w':World):Prop:=EvE v e∧Below w.heap.size w w'
theorem panic_end{P:Program}{fn:Func}{R:Ending→World→Prop}{chain:List PanicEntry}{a:Act}{w:World}(hd:a.defers = [])(h:R (.panicked chain) w):bodyPost P fn R (.panic chain) a w:=⟨hd,h⟩
theorem uerr_in{k:Int}(h:k=4∨k=5):Wd.uerr k=0:=if_pos h
theorem expr_any(sb vb ab nv na:Nat)(G:ByteArray→Option Value)(V:VF)(A:AF):∀ t:Tree,t.vld 101=true→∀ (w:World) (a:Option Addr) (c:Nat),Rep w t a→RdAt w sb vb ab nv na G V A →
 Calls Tryz.prog 54 #[.pointer (some ⟨sb,0,none⟩),t.val a c] w (EvQ (t.ev V A) w):=by
 intro t
 induction t using Tree.ind with
 | h t ih =>
  intro hv w a c hr hrd
  obtain⟨⟨hk1,hk2⟩,hlen,hkids,hnum⟩:=vldE hv
  have hfit:=hr.fits
  have hnl:=hr.fits.len
  have hns:=hr.fits.name
  obtain⟨W,hW⟩:∃ W:World,w.alloc (ndObj t a c)=W:=⟨_,rfl⟩
  have HBW:Hid (Below w.heap.size w W):=by show Below _ _ _;rw[←hW];exact mem_alloc _ _
  have HX:Hid (W.heap[w.heap.size]? = some (ndObj t a c)):=by show _=_;rw[←hW];exact mem_new _ _
  have HK:Hid (∀ w',Below W.heap.size W w'→w'.heap[w.heap.size]? = some (ndObj t a c)∧RdAt w' sb vb ab nv na G V A∧Rep w' t a∧Below w.heap.size w w'):=fun w' h =>
   ⟨mem_keep HX.out h,hrd.below (mem_then HBW.out h),hr.below (mem_then HBW.out h),mem_then HBW.out h⟩
  have hsb:sb<W.heap.size:=Nat.lt_of_lt_of_le (World.block_lt_of_cell? w _ hrd.c0) HBW.out.size
  obtain⟨x0,x1,x2,x3⟩:=nd_cells HX.out
  have HEV:=ξ (Tree.ev_eq V A t)
  have HVLD:=ξ hv
  have HIH:Hid (∀ i,i<t.len→∀ (w:World) (a:Option Addr) (c:Nat),Rep w (t.kid i) a→RdAt w sb vb ab nv na G V A→Calls Tryz.prog 54 #[.pointer (some ⟨sb,0,none⟩),(t.kid i).val a c] w (EvQ ((t.kid i).ev V A) w)):=fun i hi=>ih i hi (hkids i hi)
  have HLEN:=ξ hlen
  have HNUM:=ξ hnum
  have HRD:=ξ hrd
  clear ih hv hkids hr hrd hlen hfit hnum
  by_cases k1:t.kind=1
  ·have hk:t.kind=1:=k1
   have b1:(t.kind == 1)=true:=by simp[hk]
   have HE:Hid (t.ev V A = .ok (wrap32 t.num)):=by show _=_;rw[HEV.out];unfold evB;rw[if_pos hk]
   have HN:=ξ (HNUM.out hk)
   clear k1 hk HEV
   go_enter Tryz.func54,Tryz.ntmps54
   go_wp2_with fail
   go_ret
   exact⟨by rw[HE.out];exact⟨rfl,Wd.W_wrap _⟩,HBW.out⟩
  by_cases k2:t.kind=2
  ·have hk:t.kind=2:=k2
   have b1:(t.kind == 1)=false:=by simp[hk]
   have b2:(t.kind == 2)=true:=by simp[hk]
   have HE:Hid (t.ev V A=optV (V t.name)):=by show _=_;rw[HEV.out];unfold evB;rw[if_neg (by omega),if_pos hk]
   clear k1 k2 hk HEV
   obtain⟨x,hx⟩:∃ x,(V t.name).getD 0=x:=⟨_,rfl⟩
   obtain⟨ok,hok⟩:∃ ok,(V t.name).isSome=ok:=⟨_,rfl⟩
   have HGD:Hid ((intV V t.name).getD (.int .i32 0) = .int .i32 x):=by show _=_;rw[←hx];unfold intV;cases V t.name <;> rfl
   have HOK:Hid ((intV V t.name).isSome=ok):=by show _=_;rw[←hok];unfold intV;cases V t.name <;> rfl
   have HX0:=ξ hx
   have HOK0:=ξ hok
   clear hx hok
   go_enter Tryz.func54,Tryz.ntmps54
   go_wp2_with fail
   clear hW x0 x1 x2 x3
   refine wp_region_held_drew (S:=fun w'=>Below W.heap.size W w') (by kernel_rfl) ((Below.refl _ _).drew) (fun hHeld=>?_)
   generalize hwd:World.drew _=v0 at hHeld⊢
   clear hwd
   refine hT 0 (.pointer (some ⟨sb,0,none⟩)) rfl (hy:=?_) (h:=?_)
   ·intro w' hSw;go_simp
   (try simp only[Act.put,pZ])
   refine hT 1 (.pointer (some ⟨sb,0,none⟩)) rfl (hy:=?_) (h:=?_)
   ·intro w' hSw;go_simp
   (try simp only[Act.put,pZ])
   refine hT 2 (.pointer (some ⟨sb,0,none⟩)) rfl (hy:=?_) (h:=?_)
   ·intro w' hSw;go_simp
   (try simp only[Act.put,pZ])
   refine hT 3 (.map (some vb)) rfl (hy:=?_) (h:=?_)
   ·intro w' hSw;have z0:=(HK.out _ hSw).2.1.c0;go_simp
   (try simp only[Act.put,pZ])
   refine hT 4 (.pointer (some ⟨w.heap.size,2,none⟩)) rfl (hy:=?_) (h:=?_)
   ·intro w' hSw;go_simp
   (try simp only[Act.put,pZ])
   refine hT 5 (.string t.name) rfl (hy:=?_) (h:=?_)
   ·intro w' hSw;obtain⟨_,_,z0,_⟩:=nd_cells (HK.out _ hSw).1;go_simp
   (try simp only[Act.put,pZ])
   refine hT 6 (.tuple #[.int .i32 x,.bool ok]) rfl (hy:=?_) (h:=?_)
   ·intro w' hSw;have z0:=(HK.out _ hSw).2.1.vars.run_ok (t:=68) strK Tryz.underlying68 (zero_i32 _) hns;rw[HGD.out,HOK.out] at z0;go_simp
   (try simp only[Act.put,pZ])
   refine hT 7 (.tuple #[.int .i32 x,.bool ok]) rfl (hy:=?_) (h:=?_)
   ·intro w' hSw;go_simp
   (try simp only[Act.put,pZ])
   refine hT 8 (.int .i32 x) rfl (hy:=?_) (h:=?_)
   ·intro w' hSw;go_simp
   (try simp only[Act.put,pZ])
   refine hT 9 (.bool ok) rfl (hy:=?_) (h:=?_)
   ·intro w' hSw;go_simp
   (try simp only[Act.put,pZ])
   refine hT 10 (.int .i32 x) rfl (hy:=?_) (h:=?_)
   ·intro w' hSw;go_simp
   (try simp only[Act.put,pZ])
   refine hT 11 (.bool ok) rfl (hy:=?_) (h:=?_)
   ·intro w' hSw;go_simp
   (try simp only[Act.put,pZ])
   refine wpAnyH_done (by kernel_rfl) ?_ _
   have HB0:=ξ (HK.out v0 hHeld).2.2.2
   clear hHeld
   cases ok with
   | false =>
    have HN:Hid (V t.name=none):=Option.isNone_iff_eq_none.1 (by have:=HOK0.out;cases hV:V t.name with | none=>rfl | some y=>rw[hV] at this;cases this)
    go_wp2_with fail
    refine (fail_any 6 v0).mono ?_
    rintro e w' ⟨rfl,rfl⟩
    exact panic_end rfl ⟨by rw[HE.out,HN.out];rfl,HB0.out⟩
   | true =>
    have HN:Hid (V t.name=some x):=by
     have h1:=HOK0.out
     have h2:=HX0.out
     show _=_
     cases hV:V t.name with
     | none=>rw[hV] at h1;cases h1
     | some y=>rw[hV] at h2;rw[←h2];rfl
    go_wp2_with fail
    go_ret
    exact⟨by rw[HE.out,HN.out];exact⟨rfl,HRD.out.fitV _ _ HN.out⟩,HB0.out⟩
  by_cases k3:t.kind=3
  ·have hk:t.kind=3:=k3
   have b1:(t.kind == 1)=false:=by simp[hk]
   have b2:(t.kind == 2)=false:=by simp[hk]
   have b3:(t.kind == 3)=true:=by simp[hk]
   have hl1:t.len=1:=by rw[HLEN.out,hk];rfl
   have hl0:0<t.len:=by omega
   have hl0i:(0:Int)<(t.len:Int):=by omega
   have HE:Hid (t.ev V A=match A t.name with | none=>.er 6 | some l=>((t.kid 0).ev V A).bind (elemV l)):=by
    show _=_;rw[HEV.out];unfold evB;rw[if_neg (by omega),if_neg (by omega),if_pos hk,if_pos hl0];cases A t.name <;> rfl
   clear k1 k2 k3 hk HEV hl1
   obtain⟨kb,ko,rfl,ai,ci,hnd,hrk⟩:=kid_at (HK.out W (Below.refl _ _)).2.2.1 hl0
   rw[Nat.zero_mul,Nat.add_zero] at hnd
   have HND:=ξ hnd
   have HRK:=ξ hrk
   clear hnd hrk
   obtain⟨u,hu⟩:∃ u,(G t.name).getD (.slice none 0 0)=u:=⟨_,rfl⟩
   obtain⟨ok,hok⟩:∃ ok,(G t.name).isSome=ok:=⟨_,rfl⟩
   have HGD:=ξ hu
   have HOK:=ξ hok
   clear hu hok
   go_enter Tryz.func54,Tryz.ntmps54
   go_wp2_with fail
   clear hW x0 x1 x2 x3
   refine wp_region_held_drew (S:=fun w'=>Below W.heap.size W w') (by kernel_rfl) ((Below.refl _ _).drew) (fun hHeld=>?_)
   generalize hwd:World.drew _=v0 at hHeld⊢
   clear hwd
   refine hT 0 (.pointer (some ⟨sb,0,none⟩)) rfl (hy:=?_) (h:=?_)
   ·intro w' hSw;go_simp
   (try simp only[Act.put,pZ])
   refine hT 1 (.pointer (some ⟨sb,0,none⟩)) rfl (hy:=?_) (h:=?_)
   ·intro w' hSw;go_simp
   (try simp only[Act.put,pZ])
   refine hT 2 (.pointer (some ⟨sb,1,none⟩)) rfl (hy:=?_) (h:=?_)
   ·intro w' hSw;go_simp
   (try simp only[Act.put,pZ])
   refine hT 3 (.map (some ab)) rfl (hy:=?_) (h:=?_)
   ·intro w' hSw;have z0:=(HK.out _ hSw).2.1.c1;go_simp
   (try simp only[Act.put,pZ])
   refine hT 4 (.pointer (some ⟨w.heap.size,2,none⟩)) rfl (hy:=?_) (h:=?_)
   ·intro w' hSw;go_simp
   (try simp only[Act.put,pZ])
   refine hT 5 (.string t.name) rfl (hy:=?_) (h:=?_)
   ·intro w' hSw;obtain⟨_,_,z0,_⟩:=nd_cells (HK.out _ hSw).1;go_simp
   (try simp only[Act.put,pZ])
   refine hT 6 (.tuple #[u,.bool ok]) rfl (hy:=?_) (h:=?_)
   ·intro w' hSw;have z0:=(HK.out _ hSw).2.1.arrs.run_ok (t:=69) strK Tryz.underlying69 (zero_row _) hns;rw[HGD.out,HOK.out] at z0;go_simp
   (try simp only[Act.put,pZ])
   refine hT 7 (.tuple #[u,.bool ok]) rfl (hy:=?_) (h:=?_)
   ·intro w' hSw;go_simp
   (try simp only[Act.put,pZ])
   refine hT 8 (u) rfl (hy:=?_) (h:=?_)
   ·intro w' hSw;go_simp
   (try simp only[Act.put,pZ])
   refine hT 9 (.bool ok) rfl (hy:=?_) (h:=?_)
   ·intro w' hSw;go_simp
   (try simp only[Act.put,pZ])
   refine hT 10 (u) rfl (hy:=?_) (h:=?_)
   ·intro w' hSw;go_simp
   (try simp only[Act.put,pZ])
   refine hT 11 (.bool ok) rfl (hy:=?_) (h:=?_)
   ·intro w' hSw;go_simp
   (try simp only[Act.put,pZ])
   refine wpAnyH_done (by kernel_rfl) ?_ _
   have HB0:=ξ hHeld
   clear hHeld
   have hrow:=HRD.out.rows t.name
   cases hA:A t.name with
   | none =>
    rw[hA] at hrow
    have hrow:G t.name=none:=hrow
    have HN:=ξ hA
    have hok:ok=false:=by rw[←HOK.out,hrow];rfl
    subst hok
    clear hrow hA
    go_wp2_with fail
    refine (fail_any 6 v0).mono ?_
    rintro e w' ⟨rfl,rfl⟩
    exact panic_end rfl ⟨by rw[HE.out,HN.out];rfl,(HK.out _ HB0.out).2.2.2⟩
   | some l =>
    rw[hA] at hrow
    obtain⟨ra,rc,hG,hll,hcells⟩:=hrow
    have hok:ok=true:=by rw[←HOK.out,hG];rfl
    subst hok
    have HN:=ξ hA
    have HG:Hid ((G t.name).getD (.slice none 0 0) = .slice ra l.length rc):=by show _=_;rw[hG];rfl
    have HCELLS:Hid (∀ w',Below w.heap.size w w'→∀ i,i<l.length→∃ b o,ra=some ⟨b,o,none⟩∧w'.cell? ⟨b,o+i,none⟩=some (.int .i32 (l.getD i 0))):=fun w' hB i hi=>by
     obtain⟨b,o,h1,h2⟩:=hcells i hi
     exact⟨b,o,h1,cell_keep h2 hB⟩
    clear hA hG hcells HGD HOK
    go_wp2_with fail
    refine wp_region_held_drew (S:=fun w'=>Below W.heap.size W w') (by kernel_rfl) (HB0.out.drew) (fun hHeld=>?_)
    generalize hwd:World.drew _=v1 at hHeld⊢
    clear hwd
    refine hT 0 (.pointer (some ⟨sb,0,none⟩)) rfl (hy:=?_) (h:=?_)
    ·intro w' hSw;go_simp
    (try simp only[Act.put,pZ])
    refine hT 1 (.pointer (some ⟨w.heap.size,2,none⟩)) rfl (hy:=?_) (h:=?_)
    ·intro w' hSw;go_simp
    (try simp only[Act.put,pZ])
    refine hT 2 (.string t.name) rfl (hy:=?_) (h:=?_)
    ·intro w' hSw;obtain⟨_,_,z0,_⟩:=nd_cells (HK.out _ hSw).1;go_simp
    (try simp only[Act.put,pZ])
    refine hT 3 (.pointer (some ⟨sb,0,none⟩)) rfl (hy:=?_) (h:=?_)
    ·intro w' hSw;go_simp
    (try simp only[Act.put,pZ])
    refine hT 4 (.pointer (some ⟨w.heap.size,3,none⟩)) rfl (hy:=?_) (h:=?_)
    ·intro w' hSw;go_simp
    (try simp only[Act.put,pZ])
    refine hT 5 (.slice (some ⟨kb,ko,none⟩) t.len c) rfl (hy:=?_) (h:=?_)
    ·intro w' hSw;obtain⟨_,_,_,z0⟩:=nd_cells (HK.out _ hSw).1;go_simp
    (try simp only[Act.put,pZ])
    refine hT 6 (.pointer (some ⟨kb,ko,none⟩)) rfl (hy:=?_) (h:=?_)
    ·intro w' hSw;go_simp
    (try simp only[Act.put,pZ])
    refine hT 7 ((t.kid 0).val ai ci) rfl (hy:=?_) (h:=?_)
    ·intro w' hSw;have zn:=HND.out.below hSw HND.out.lt;have z0:=zn.kind;have z1:=zn.num;have z2:=zn.name;have z3:=zn.kids;go_simp
    (try simp only[Act.put,pZ])
    have h9:=HIH.out 0 hl0 v1 ai ci (HRK.out.below hHeld) (HK.out v1 hHeld).2.1
    have H9:=ξ h9
    have HB1:=ξ hHeld
    clear h9
    refine hR 8 rfl (fun K hK=>?_)
    go_simp
    refine H9.out.mono ?_
    rintro e w2 ⟨he,hB2⟩
    have HB2:=ξ (mem_then HB1.out hB2)
    clear hB2 H9
    cases hv0:(t.kid 0).ev V A with
    | er k =>
     rw[hv0] at he
     have he:e = .panicked (failC k):=he
     subst he
     exact panic_end rfl ⟨by rw[HE.out,HN.out,hv0];rfl,(HK.out _ HB2.out).2.2.2⟩
    | ok i =>
     rw[hv0] at he
     obtain⟨rfl,hWi⟩:=he
     have HV0:=ξ hv0
     have HWI:=ξ hWi
     have hWi2 : -2147483648≤i∧i≤2147483647:=hWi
     clear hv0 hWi
     refine hK.out _ _ (HB2.out) (fun hHeld=>?_)
     clear hK K
     rename_i hOld
     clear hOld
     (try simp only[Act.put,pZ])
     refine hR 9 rfl (fun K hK=>?_)
     go_simp
     by_cases hin:0≤i∧i<(l.length:Int)
     ·have HEL:Hid (t.ev V A = .ok (l.getD i.toNat 0)):=by show _=_;rw[HE.out,HN.out,HV0.out];show elemV l i=_;unfold elemV;rw[if_pos hin]
      obtain⟨b,o,rfl,hcell⟩:=HCELLS.out w2 (HK.out _ HB2.out).2.2.2 i.toNat (by omega)
      have HC:=ξ hcell
      have HMEM:Hid (l.getD i.toNat 0∈l):=by
       have hj:i.toNat<l.length:=by omega
       show _∈_
       rw[List.getD_eq_getElem?_getD,List.getElem?_eq_getElem hj]
       exact List.getElem_mem hj
      have h9:=element_ok t.name i w2 sb ab na l.length rc b o G (HK.out _ HB2.out).2.1.c1 (HK.out _ HB2.out).2.1.arrs HG.out hns hin.1 hin.2 hll
      clear hcell hin
      refine h9.mono ?_
      rintro e w' ⟨rfl,rfl⟩
      clear h9
      refine hK.out _ _ (HB2.out) (fun hHeld=>?_)
      clear hK K
      rename_i hOld
      clear hOld
      (try simp only[Act.put,pZ])
      have z0:=HC.out
      refine hR 10 rfl (fun K hK=>?_)
      go_simp
      refine hK.out _ _ (HB2.out) (fun hHeld=>?_)
      clear hK K
      rename_i hOld
      clear hOld
      (try simp only[Act.put,pZ])
      refine hR 11 rfl (fun K hK=>?_)
      go_simp
      refine hK.out _ _ (HB2.out) (fun hHeld=>?_)
      clear hK K
      rename_i hOld
      clear hOld
      (try simp only[Act.put,pZ])
      refine hR 12 rfl (fun K hK=>?_)
      go_simp
      refine hK.out _ _ (HB2.out) (fun hHeld=>?_)
      clear hK K
      rename_i hOld
      clear hOld
      (try simp only[Act.put,pZ])
      refine wpAnyH_done (by kernel_rfl) ?_ _
      clear z0
      go_wp2_with fail
      go_ret
      exact⟨by rw[HEL.out];exact⟨rfl,HRD.out.fitA _ _ HN.out _ HMEM.out⟩,(HK.out _ HB2.out).2.2.2⟩
     ·have HEL:Hid (t.ev V A = .er 11):=by show _=_;rw[HE.out,HN.out,HV0.out];show elemV l i=_;unfold elemV;rw[if_neg hin]
      have h9:=element_er t.name i w2 sb ab na l.length rc ra G (HK.out _ HB2.out).2.1.c1 (HK.out _ HB2.out).2.1.arrs HG.out hns (by omega) hWi2 hll
      refine h9.mono ?_
      rintro e w' ⟨rfl,rfl⟩
      exact panic_end rfl ⟨by rw[HEL.out];rfl,(HK.out _ HB2.out).2.2.2⟩
  by_cases k45:t.kind=4∨t.kind=5
  ·have hk:=k45
   have b1:(t.kind == 1)=false:=by rw[beq_eq_false_iff_ne];omega
   have b2:(t.kind == 2)=false:=by rw[beq_eq_false_iff_ne];omega
   have b3:(t.kind == 3)=false:=by rw[beq_eq_false_iff_ne];omega
   have hl1:t.len=1:=by rw[HLEN.out];rcases hk with hk | hk <;> rw[hk] <;> rfl
   have hl0:0<t.len:=by omega
   have hl0i:(0:Int)<(t.len:Int):=by omega
   have HE:Hid (t.ev V A=((t.kid 0).ev V A).bind fun x=>.ok (Wd.unary t.kind x)):=by
    show _=_;rw[HEV.out];unfold evB;rw[if_neg (by omega),if_neg (by omega),if_neg (by omega),if_pos hk,if_pos hl0]
   have HUE:=ξ (uerr_in hk)
   have hk8:0≤t.kind∧t.kind≤255:=by omega
   have hpick:(t.kind == 4)=true∨((t.kind == 4)=false∧(t.kind == 5)=true):=by
    rcases hk with hk|hk
    ·exact .inl (by simp[hk])
    ·exact .inr ⟨by simp[hk],by simp[hk]⟩
   clear k1 k2 k3 k45 hk HEV hl1
   obtain⟨kb,ko,rfl,ai,ci,hnd,hrk⟩:=kid_at (HK.out W (Below.refl _ _)).2.2.1 hl0
   rw[Nat.zero_mul,Nat.add_zero] at hnd
   have HND:=ξ hnd
   have HRK:=ξ hrk
   clear hnd hrk
   rcases hpick with hp|⟨hp,hp5⟩
   all_goals
    go_enter Tryz.func54,Tryz.ntmps54
    go_wp2_with fail
    clear hW x0 x1 x2 x3
    refine wp_region_held_drew (S:=fun w'=>Below W.heap.size W w') (by kernel_rfl) ((Below.refl _ _).drew) (fun hHeld=>?_)
    generalize hwd:World.drew _=v1 at hHeld⊢
    clear hwd
    refine hT 0 (.pointer (some ⟨w.heap.size,0,none⟩)) rfl (hy:=?_) (h:=?_)
    ·intro w' hSw;go_simp
    (try simp only[Act.put,pZ])
    refine hT 1 (.int .u8 t.kind) rfl (hy:=?_) (h:=?_)
    ·intro w' hSw;obtain⟨z0,_,_,_⟩:=nd_cells (HK.out _ hSw).1;go_simp
    (try simp only[Act.put,pZ])
    refine hT 2 (.pointer (some ⟨sb,0,none⟩)) rfl (hy:=?_) (h:=?_)
    ·intro w' hSw;go_simp
    (try simp only[Act.put,pZ])
    refine hT 3 (.pointer (some ⟨w.heap.size,3,none⟩)) rfl (hy:=?_) (h:=?_)
    ·intro w' hSw;go_simp
    (try simp only[Act.put,pZ])
    refine hT 4 (.slice (some ⟨kb,ko,none⟩) t.len c) rfl (hy:=?_) (h:=?_)
    ·intro w' hSw;obtain⟨_,_,_,z0⟩:=nd_cells (HK.out _ hSw).1;go_simp
    (try simp only[Act.put,pZ])
    refine hT 5 (.pointer (some ⟨kb,ko,none⟩)) rfl (hy:=?_) (h:=?_)
    ·intro w' hSw;go_simp
    (try simp only[Act.put,pZ])
    refine hT 6 ((t.kid 0).val ai ci) rfl (hy:=?_) (h:=?_)
    ·intro w' hSw;have zn:=HND.out.below hSw HND.out.lt;have z0:=zn.kind;have z1:=zn.num;have z2:=zn.name;have z3:=zn.kids;go_simp
    (try simp only[Act.put,pZ])
    have h9:=HIH.out 0 hl0 v1 ai ci (HRK.out.below hHeld) (HK.out v1 hHeld).2.1
    have H9:=ξ h9
    have HB1:=ξ hHeld
    clear h9
    refine hR 7 rfl (fun K hK=>?_)
    go_simp
    refine H9.out.mono ?_
    rintro e w2 ⟨he,hB2⟩
    have HB2:=ξ (mem_then HB1.out hB2)
    clear hB2 H9
    cases hv0:(t.kid 0).ev V A with
    | er k =>
     rw[hv0] at he
     have he:e = .panicked (failC k):=he
     subst he
     exact panic_end rfl ⟨by rw[HE.out,hv0];rfl,(HK.out _ HB2.out).2.2.2⟩
    | ok x =>
     rw[hv0] at he
     obtain⟨rfl,hWx⟩:=he
     have HEL:Hid (t.ev V A = .ok (Wd.unary t.kind x)):=by show _=_;rw[HE.out,hv0];rfl
     have h9:=unary_any t.kind x hk8 hWx w2
     rw[HUE.out] at h9
     have H9:=ξ h9
     have HWX:=ξ hWx
     clear hv0 hWx h9
     refine hK.out _ _ (HB2.out) (fun hHeld=>?_)
     clear hK K
     rename_i hOld
     clear hOld
     (try simp only[Act.put,pZ])
     refine hR 8 rfl (fun K hK=>?_)
     go_simp
     refine H9.out.mono ?_
     rintro e w' ⟨rfl,rfl⟩
     clear H9
     refine hK.out _ _ (HB2.out) (fun hHeld=>?_)
     clear hK K
     rename_i hOld
     clear hOld
     (try simp only[Act.put,pZ])
     refine hT 9 (.tuple #[.int .i32 (Wd.unary t.kind x),.int .i64 0]) rfl (hy:=?_) (h:=?_)
     ·intro w' hSw;go_simp
     (try simp only[Act.put,pZ])
     refine hT 10 (.int .i32 (Wd.unary t.kind x)) rfl (hy:=?_) (h:=?_)
     ·intro w' hSw;go_simp
     (try simp only[Act.put,pZ])
     refine hT 11 (.int .i64 0) rfl (hy:=?_) (h:=?_)
     ·intro w' hSw;go_simp
     (try simp only[Act.put,pZ])
     refine hR 12 rfl (fun K hK=>?_)
     go_simp
     refine hK.out _ _ (HB2.out) (fun hHeld=>?_)
     clear hK K
     rename_i hOld
     clear hOld
     (try simp only[Act.put,pZ])
     refine hR 13 rfl (fun K hK=>?_)
     go_simp
     refine hK.out _ _ (HB2.out) (fun hHeld=>?_)
     clear hK K
     rename_i hOld
     clear hOld
     (try simp only[Act.put,pZ])
     refine wpAnyH_done (by kernel_rfl) ?_ _
     go_wp2_with fail
     go_ret
     exact⟨by rw[HEL.out];exact⟨rfl,Wd.W_unary _ _⟩,(HK.out _ HB2.out).2.2.2⟩
  have hk:6≤t.kind:=by omega
  have b1:(t.kind == 1)=false:=by rw[beq_eq_false_iff_ne];omega
  have b2:(t.kind == 2)=false:=by rw[beq_eq_false_iff_ne];omega
  have b3:(t.kind == 3)=false:=by rw[beq_eq_false_iff_ne];omega
  have b4:(t.kind == 4)=false:=by rw[beq_eq_false_iff_ne];omega
  have b5:(t.kind == 5)=false:=by rw[beq_eq_false_iff_ne];omega
  have hl2:t.len=2:=by rw[HLEN.out];unfold Fm.kids;rw[Fm.row_else t.kind (by omega)];rfl
  have hl0:0<t.len:=by omega
  have hl1:1<t.len:=by omega
  have hl1i:(1:Int)<(t.len:Int):=by omega
  have hl0i:(0:Int)<(t.len:Int):=by omega
  have HE:Hid (t.ev V A=((t.kid 0).ev V A).bind fun x=>((t.kid 1).ev V A).bind fun y=>if Wd.err t.kind y=0 then .ok (Wd.apply t.kind x y) else .er (Wd.err t.kind y)):=by
   show _=_;rw[HEV.out];unfold evB;rw[if_neg k1,if_neg k2,if_neg k3,if_neg k45,if_pos hl0,if_pos hl1]
  have hk8:0≤t.kind∧t.kind≤255:=by omega
  clear k1 k2 k3 k45 hk HEV hl2
  obtain⟨kb,ko,rfl,ai,ci,hnd,hrk⟩:=kid_at (HK.out W (Below.refl _ _)).2.2.1 hl0
  obtain⟨kb',ko',hsame,aj,cj,hnd1,hrk1⟩:=kid_at (HK.out W (Below.refl _ _)).2.2.1 hl1
  cases hsame
  rw[Nat.zero_mul,Nat.add_zero] at hnd
  rw[Nat.one_mul] at hnd1
  have HND:=ξ hnd
  have HRK:=ξ hrk
  have HND1:=ξ hnd1
  have HRK1:=ξ hrk1
  have h9:=HIH.out 0 hl0 W ai ci hrk (HK.out W (Below.refl _ _)).2.1
  have H9:=ξ h9
  have y0:=hnd.kind
  have y1:=hnd.num
  have y2:=hnd.name
  have y3:=hnd.kids
  clear hnd hrk hnd1 hrk1 h9
  go_enter Tryz.func54,Tryz.ntmps54
  go_wp2_with fail
  clear hW x0 x1 x2 x3 y0 y1 y2 y3
  refine H9.out.mono ?_
  rintro e w2 ⟨he,hB2⟩
  have HB2:=ξ hB2
  clear hB2 H9
  cases hv0:(t.kid 0).ev V A with
  | er k =>
   rw[hv0] at he
   have he:e = .panicked (failC k):=he
   subst he
   exact panic_end rfl ⟨by rw[HE.out,hv0];rfl,(HK.out _ HB2.out).2.2.2⟩
  | ok x =>
   rw[hv0] at he
   obtain⟨rfl,hWx⟩:=he
   have HV0:=ξ hv0
   have HWX:=ξ hWx
   clear hv0 hWx
   obtain⟨_,_,_,x3⟩:=nd_cells (HK.out w2 HB2.out).1
   have hn:=HND1.out.below HB2.out HND1.out.lt
   have y0:=hn.kind
   have y1:=hn.num
   have y2:=hn.name
   have y3:=hn.kids
   have h9:=HIH.out 1 hl1 w2 aj cj (HRK1.out.below HB2.out) (HK.out w2 HB2.out).2.1
   have H9:=ξ h9
   clear hn h9
   go_wp2_with fail
   clear x3 y0 y1 y2 y3
   refine H9.out.mono ?_
   rintro e w3 ⟨he,hB3⟩
   have HB3:=ξ (mem_then HB2.out hB3)
   clear hB3 H9
   cases hv1:(t.kid 1).ev V A with
   | er k =>
    rw[hv1] at he
    have he:e = .panicked (failC k):=he
    subst he
    exact panic_end rfl ⟨by rw[HE.out,HV0.out,hv1];rfl,(HK.out _ HB3.out).2.2.2⟩
   | ok y =>
    rw[hv1] at he
    obtain⟨rfl,hWy⟩:=he
    have HV1:=ξ hv1
    have h9:=apply_any t.kind x y hk8 HWX.out hWy w3
    have H9:=ξ h9
    obtain⟨x0,_,_,_⟩:=nd_cells (HK.out w3 HB3.out).1
    have HWR:=ξ (Wd.W_apply t.kind HWX.out hWy)
    clear hv1 hWy h9
    obtain⟨er,her⟩:∃ er,Wd.err t.kind y=er:=⟨_,rfl⟩
    have HER:=ξ her
    rw[her] at H9
    clear her
    go_wp2_with fail
    clear x0
    refine H9.out.mono ?_
    rintro e w' ⟨rfl,rfl⟩
    clear H9
    by_cases h0:er=0
    ·have hb:(er != 0)=false:=by simp[h0]
     have HEL:Hid (t.ev V A = .ok (Wd.apply t.kind x y)):=by show _=_;rw[HE.out,HV0.out,HV1.out];show (if Wd.err t.kind y=0 then _ else _)=_;rw[HER.out,if_pos h0]
     clear h0
     go_wp2_with fail
     go_ret
     exact⟨by rw[HEL.out];exact⟨rfl,HWR.out⟩,(HK.out _ HB3.out).2.2.2⟩
    ·have hb:(er != 0)=true:=by simp[h0]
     have HEL:Hid (t.ev V A = .er er):=by show _=_;rw[HE.out,HV0.out,HV1.out];show (if Wd.err t.kind y=0 then _ else _)=_;rw[HER.out,if_neg h0]
     clear h0
     go_wp2_with fail
     refine (fail_any er w3).mono ?_
     rintro e w' ⟨rfl,rfl⟩
     exact panic_end rfl ⟨by rw[HEL.out];rfl,(HK.out _ HB3.out).2.2.2⟩
