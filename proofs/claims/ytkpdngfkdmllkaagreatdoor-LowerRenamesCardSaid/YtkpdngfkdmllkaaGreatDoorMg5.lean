/- Part. -/
import Derived.Test.YtkpdngfkdmllkaaGreatDoorChkTask2
import Derived.WalkSpells
import Derived.Laws.Rows
import Derived.Below
namespace Go.Proofs.YtkpdngfkdmllkaaGreatDoor
set_option linter.unusedVariables false
set_option linter.unusedSimpArgs false
open Go.RowKit
set_option maxRecDepth 100000
set_option maxHeartbeats 8000000
structure FrK(N kb:Nat)(w w':World):Prop where
 low:Below N w w'
 still:∀ (k:Nat) (o:Obj),k≠kb→w.heap[k]? = some o→Still15 o→w'.heap[k]? = some o
section
variable {N kb:Nat} {w w' w'':World} {v:Value}
theorem FrK.refl:FrK N kb w w:=⟨Below.refl _ _,fun _ _ _ h _=>h⟩
theorem FrK.trans(h:FrK N kb w w')(h':FrK N kb w' w''):FrK N kb w w'':=⟨h.low.trans h'.low,fun k o hn hk hs=>h'.still k o hn (h.still k o hn hk hs) hs⟩
theorem FrK.of(h:FrT N w w'):FrK N kb w w':=⟨h.low,fun k o _ hk hs=>h.still k o hk hs⟩
theorem FrK.cells{b:Nat}{arr:Array Value}{t:TypeId}(h:FrK N kb w w')(hb:w.heap[b]? = some (.cells arr t))(hn:b≠kb)(h1:t≠116)(h2:t≠85):w'.heap[b]? = some (.cells arr t):=h.still b _ hn hb ⟨h1,h2⟩
theorem FrK.set{b n:Nat}{S:List ByteArray}(h:FrK N kb w w')(hs:SetS w b n S)(hn:b≠kb):SetS w' b n S:=by
 obtain⟨D,⟨es,clock,h1,h2⟩,h3⟩:=hs
 exact⟨D,⟨es,clock,h.still b _ hn h1 trivial,h2⟩,h3⟩
end
theorem FB.map {N kb fb n : Nat} {w w2 : World} {v : Value} {L : List FltP} {S : List ByteArray} (h : FB N w fb v L) (hN : N ≤ kb) (hs : SetS w kb n S) (hg : w.grownBy w2 (some kb)) : FB N w2 fb v L ∧ FrK N kb w w2 := by
  have hmap : ∃ es clock, w.heap[kb]? = some (.map es clock) := by
    obtain ⟨D, ⟨es, clock, h1, _⟩, _⟩ := hs
    exact ⟨es, clock, h1⟩
  obtain ⟨es, clock, hm⟩ := hmap
  have ne : ∀ {e : TypeId} {size m B : Nat} {z : Value} {xs : List Value}, w.ownsRow B e size z m xs → z.ownBlock ≠ some kb := fun {e size m B z xs} hr he => by
    rcases hr.2 with ⟨rfl, _⟩ | ⟨g, cap, cur, rfl, _, hc, _⟩
    · cases he
    · have he : g = kb := by injection he
      subst he
      rw [hm] at hc
      cases hc
  have keep : ∀ {e : TypeId} {size m B : Nat} {z : Value} {xs : List Value}, w.ownsRow B e size z m xs → w2.ownsRow B e size z m xs := fun {e size m B z xs} hr => own_keep hr (fun k hk hl => hg.block k hl (fun e9 => ne hr (by rw [hk, e9])))
  have hfk : fb ≠ kb := by
    rintro rfl
    have := h.box
    rw [hm] at this
    cases this
  refine ⟨⟨(hg.block fb (mem_lt h.box) (fun e => hfk (by injection e))).trans h.box, ⟨keep h.row.ro, fun f hf => keep (h.row.ri f hf)⟩, h.up⟩, ⟨⟨hg.os, hg.tape, hg.output, hg.size, fun k hk => ?_⟩, fun k o hn hk _ => (hg.block k (mem_lt hk) (fun e => hn (by injection e))).trans hk⟩⟩
  by_cases hl : k < w.heap.size
  · exact hg.block k hl (fun e => by have e : k = kb := by injection e
                                     omega)
  · have := mem_lt hm
    omega
def declOne(ix:Int)(b:Bool)(s:ByteArray):List FltP:=if b then [⟨ix,⟨[],8,s⟩,.slice none 0 0⟩] else []
theorem decl_any(N db fb ib sb cb ab:Nat)(ix:Int)(d:Nms)(s:ByteArray)(kb n:Nat)(S:List ByteArray)(w:World)(v:Value)(L:List FltP)(hN:N≤w.heap.size)(hs:s.size≤maxLen)(hn:n<maxLen)(hL:L.length≤1000000)(hkb:N≤kb)
 (hd:w.heap[db]? = some (.cells #[.map (some sb),.map (some cb),.map (some ab)] 131)) (hi:w.heap[ib]? = some (.cells #[.int .i64 ix] 3)) (hnm:NmsAt w sb cb ab d) (hset:SetS w kb n S) (hfb:FB N w fb v L) :
 Calls Tryz.prog 63 #[.string s,.map (some kb),.pointer (some ⟨db,0,none⟩),.pointer (some ⟨fb,0,none⟩),.pointer (some ⟨ib,0,none⟩)] w fun e w' =>
  e = .returned (.tuple #[])∧∃ v',FB N w' fb v' (L++declOne ix (memB d.shared s || memB d.scalars s || memB d.arrays s) s)∧SetS w' kb (n+1) (S++[s])∧FrK N kb w w':=by
 obtain⟨ti,hti,hz0,hz1,hz2⟩:=info_parts FltP.info
 obtain⟨⟨ns,h1⟩,⟨nc,h2⟩,⟨na,h3⟩⟩:=hnm
 have g1:=sset_get h1 hs
 have g2:=sset_get h2 hs
 have g3:=sset_get h3 hs
 obtain⟨va,vc,rfl⟩:=own_val hfb.row.ro
 have HFB:=ξ hfb
 have HSET:=ξ hset
 have d0:w.cell? ⟨db,0,none⟩=some (.map (some sb)):=mem_cell hd 0
 have d1:w.cell? ⟨db,1,none⟩=some (.map (some cb)):=mem_cell hd 1
 have d2:w.cell? ⟨db,2,none⟩=some (.map (some ab)):=mem_cell hd 2
 have i0:w.cell? ⟨ib,0,none⟩=some (.int .i64 ix):=mem_cell hi 0
 have f0:w.cell? ⟨fb,0,none⟩=some (.slice va L.length vc):=mem_cell hfb.box 0
 have z0:w.frozen? ⟨fb,0,none⟩=false:=mem_free hfb.box 0
 have HFX:=ξ hfb.box
 obtain⟨b1,hb1⟩:∃ b,memB d.shared s=b:=⟨_,rfl⟩
 obtain⟨b2,hb2⟩:∃ b,memB d.scalars s=b:=⟨_,rfl⟩
 obtain⟨b3,hb3⟩:∃ b,memB d.arrays s=b:=⟨_,rfl⟩
 rw[hb1] at g1⊢
 rw[hb2] at g2⊢
 rw[hb3] at g3⊢
 clear hb1 hb2 hb3 h1 h2 h3 hd hi hset hfb
 by_cases hb:(b1 || b2 || b3)=true
 ·have HB:=ξ hb
  obtain⟨D,hD⟩:∃ D:World,w.alloc (.cells #[.int .i64 ix,.slice none 0 0,.int .i64 8,.string s] 116)=D:=⟨_,rfl⟩
  have HBD:Hid (Below w.heap.size w D):=by show Below _ _ _;rw[←hD];exact mem_alloc _ _
  have HLIT:Hid (∀ (k:Nat) (u:Value),(FltP.mk ix ⟨[],8,s⟩ (.slice none 0 0)).cells[k]? = some u→D.cell? ((⟨w.heap.size,0,none⟩:Addr).add k)=some u):=by
   show ∀ _ _,_
   rw[←hD]
   exact one_newF w ⟨ix,⟨[],8,s⟩,.slice none 0 0⟩
  have hthree:(b1=true)∨(b1=false∧b2=true)∨(b1=false∧b2=false∧b3=true):=by revert hb;cases b1 <;> cases b2 <;> cases b3 <;> simp
  clear hb
  rcases hthree with rfl|⟨rfl,rfl⟩|⟨rfl,rfl,rfl⟩
  all_goals
   go_enter Tryz.func63,Tryz.ntmps63
   go_wp2_with (at_builtin;refine wpList_append_row _ rfl (.tmp 23) (.tmp 27) 85 rfl N 116 ti _ 4 56 Tryz.underlying85 hti hz0 hz1 hz2 rfl (by decide) (.slice va L.length vc) L.length (L.flatMap FltP.cells) rfl (HFB.out.keep HBD.out).row.ro ⟨w.heap.size,0,none⟩ 1 1 (FltP.mk ix ⟨[],8,s⟩ (.slice none 0 0)).cells rfl rfl HLIT.out (FltP.one _ rfl) (by decide) (by unfold maxLen;omega) (by omega) (Nat.le_trans hN HBD.out.size) ?_)
   intro gb cap w2 hown2 hgrow2 _
   obtain⟨hfg,hbx⟩:=HFB.out.grow hN HBD.out hgrow2
   have hpush:=HFB.out.push (f:=⟨ix,⟨[],8,s⟩,.slice none 0 0⟩) hN HBD.out (World.ownsRow_nil _ _ _ _) hgrow2 hown2
   have q0:w2.frozen? ⟨fb,0,none⟩=false:=mem_free hbx 0
   have q1:w2.cell? ⟨fb,0,none⟩=some (.slice va L.length vc):=mem_cell hbx 0
   obtain⟨wS,hS⟩:∃ wS:World,w2.setCell ⟨fb,0,none⟩ (.slice (some ⟨gb,0,none⟩) (L.length+1) cap)=wS:=⟨_,rfl⟩
   rw[hS] at hpush
   have HPU:=ξ hpush
   have HSE:=ξ (hpush.2.set HSET.out)
   clear hown2 hgrow2 hpush hbx hD hfg d0 d1 d2 i0 f0 z0 g1 g2 g3
   go_wp2_with (at_mapUpdate;refine wpList_store_str _ rfl _ _ _ 93 rfl 9 4 Tryz.underlying9 Tryz.underlying4 Tryz.underlying93 kb n S rfl HSE.out s rfl rfl hs hn ?_)
   intro w3 h3 hg3
   obtain⟨hf3,hk3⟩:=HPU.out.1.map hkb HSE.out hg3
   have HF3:=ξ hf3
   have HK3:=ξ hk3
   have HS3:=ξ h3
   clear h3 hg3 hf3 hk3 hS q0 q1
   go_wp2_with fail
   go_end0
   exact⟨rfl,_,by unfold declOne;rw[if_pos HB.out];exact HF3.out,HS3.out,(FrK.of HPU.out.2).trans HK3.out⟩
 ·have HB:=ξ hb
  have hall:b1=false∧b2=false∧b3=false:=by revert hb;cases b1 <;> cases b2 <;> cases b3 <;> simp
  obtain⟨rfl,rfl,rfl⟩:=hall
  clear hb
  go_enter Tryz.func63,Tryz.ntmps63
  go_wp2_with (at_mapUpdate;refine wpList_store_str _ rfl _ _ _ 93 rfl 9 4 Tryz.underlying9 Tryz.underlying4 Tryz.underlying93 kb n S rfl HSET.out s rfl rfl hs hn ?_)
  intro w3 h3 hg3
  obtain⟨hf3,hk3⟩:=HFB.out.map hkb HSET.out hg3
  have HF3:=ξ hf3
  have HK3:=ξ hk3
  have HS3:=ξ h3
  clear h3 hg3 hf3 hk3
  go_wp2_with fail
  go_end0
  exact⟨rfl,_,by unfold declOne;rw[if_neg HB.out,List.append_nil];exact HF3.out,HS3.out,HK3.out⟩
theorem Lx.run_drop(p:Int→Bool)(s:ByteArray)(j:Nat)(h:j<s.size)(hp:p s[j].toNat=true):Lx.run p (s.toList.drop j)=1+Lx.run p (s.toList.drop (j+1)):=by
 have e:s.toList.drop j=s[j]::s.toList.drop (j+1):=by
  rw[List.drop_eq_getElem_cons (by simpa[ByteArray.toList_eq] using h)]
  congr 1
  simp[ByteArray.toList_eq];rfl
 rw[e,Lx.run,if_pos hp]
theorem Lx.run_stop(p:Int→Bool)(s:ByteArray)(j:Nat)(h:j<s.size)(hp:p s[j].toNat=false):Lx.run p (s.toList.drop j)=0:=by
 have e:s.toList.drop j=s[j]::s.toList.drop (j+1):=by
  rw[List.drop_eq_getElem_cons (by simpa[ByteArray.toList_eq] using h)]
  congr 1
  simp[ByteArray.toList_eq];rfl
 rw[e,Lx.run,if_neg (by simp[hp])]
set_option maxHeartbeats 1000000 in
theorem countInner(b:Nat)(s:ByteArray)(w:World)(hs:s.size≤9223372036854775807)(h1:1≤s.size)(hc:w.cell? ⟨b,0,none⟩=some (.string s)) :
 Calls Tryz.prog 85 #[.func (.func 87) #[] #[],.pointer (some ⟨b,0,none⟩)] w fun e w'=>e = .returned (.int .i64 ((1+Lx.run Lx.inner (s.toList.drop 1):Nat):Int))∧w=w':=by
 obtain⟨N,hN⟩:∃ N:Nat,1+Lx.run Lx.inner (s.toList.drop 1)=N:=⟨_,rfl⟩
 rw[hN]
 have HN:=ξ hN
 clear hN
 go_enter Tryz.func85,Tryz.ntmps85
 go_wp2_with fail
 go_loop [4] (fun n=>∃ j:Nat,1≤j∧j≤s.size∧n = .int .i64 j∧j+Lx.run Lx.inner (s.toList.drop j)=N) (fun n=>s.size-(intOf n).toNat)
 case atStart=>exact⟨1,Nat.le_refl _,h1,rfl,HN.out⟩
 case round =>
  obtain⟨j,hj1,hj,rfl,hrun⟩:=hrel
  have HR:=ξ hrun
  clear hrun
  by_cases hlt:j<s.size
  ·cases hp:Lx.inner s[j].toNat with
   | true =>
    have HS:=ξ (Lx.run_drop Lx.inner s j hlt hp)
    go_wp2_with (go_at_call 87;refine (isInner_any _ _).mono ?_;rintro e w1 ⟨rfl,rfl⟩)
    go_round
    case rel=>exact⟨j+1,by omega,by omega,by go_num,by have:=HR.out;have:=HS.out;omega⟩
    case measure=>simp[intOf];omega
   | false =>
    have HS:=ξ (Lx.run_stop Lx.inner s j hlt hp)
    go_wp2_with (go_at_call 87;refine (isInner_any _ _).mono ?_;rintro e w1 ⟨rfl,rfl⟩)
    go_ret
    exact⟨congrArg (fun n:Nat=>Ending.returned (.int .i64 (n:Int))) (by have:=HR.out;have:=HS.out;omega),rfl⟩
  ·have e0:Hid (Lx.run Lx.inner (s.toList.drop j)=0):=by
    show _=_
    rw[List.drop_eq_nil_of_le (by simp[ByteArray.toList_eq];omega)];rfl
   go_wp2_with fail
   go_ret
   exact⟨congrArg (fun n:Nat=>Ending.returned (.int .i64 (n:Int))) (by have:=HR.out;have:=e0.out;omega),rfl⟩
set_option maxHeartbeats 1000000 in
theorem countDigit(b:Nat)(s:ByteArray)(w:World)(hs:s.size≤9223372036854775807)(h1:1≤s.size)(hc:w.cell? ⟨b,0,none⟩=some (.string s)) :
 Calls Tryz.prog 85 #[.func (.func 88) #[] #[],.pointer (some ⟨b,0,none⟩)] w fun e w'=>e = .returned (.int .i64 ((1+Lx.run Lx.digit (s.toList.drop 1):Nat):Int))∧w=w':=by
 obtain⟨N,hN⟩:∃ N:Nat,1+Lx.run Lx.digit (s.toList.drop 1)=N:=⟨_,rfl⟩
 rw[hN]
 have HN:=ξ hN
 clear hN
 go_enter Tryz.func85,Tryz.ntmps85
 go_wp2_with fail
 go_loop [4] (fun n=>∃ j:Nat,1≤j∧j≤s.size∧n = .int .i64 j∧j+Lx.run Lx.digit (s.toList.drop j)=N) (fun n=>s.size-(intOf n).toNat)
 case atStart=>exact⟨1,Nat.le_refl _,h1,rfl,HN.out⟩
 case round =>
  obtain⟨j,hj1,hj,rfl,hrun⟩:=hrel
  have HR:=ξ hrun
  clear hrun
  by_cases hlt:j<s.size
  ·cases hp:Lx.digit s[j].toNat with
   | true =>
    have HS:=ξ (Lx.run_drop Lx.digit s j hlt hp)
    go_wp2_with (go_at_call 88;refine (isDigit_any _ _).mono ?_;rintro e w1 ⟨rfl,rfl⟩)
    go_round
    case rel=>exact⟨j+1,by omega,by omega,by go_num,by have:=HR.out;have:=HS.out;omega⟩
    case measure=>simp[intOf];omega
   | false =>
    have HS:=ξ (Lx.run_stop Lx.digit s j hlt hp)
    go_wp2_with (go_at_call 88;refine (isDigit_any _ _).mono ?_;rintro e w1 ⟨rfl,rfl⟩)
    go_ret
    exact⟨congrArg (fun n:Nat=>Ending.returned (.int .i64 (n:Int))) (by have:=HR.out;have:=HS.out;omega),rfl⟩
  ·have e0:Hid (Lx.run Lx.digit (s.toList.drop j)=0):=by
    show _=_
    rw[List.drop_eq_nil_of_le (by simp[ByteArray.toList_eq];omega)];rfl
   go_wp2_with fail
   go_ret
   exact⟨congrArg (fun n:Nat=>Ending.returned (.int .i64 (n:Int))) (by have:=HR.out;have:=e0.out;omega),rfl⟩
set_option maxHeartbeats 1000000 in
theorem countSpace(b:Nat)(s:ByteArray)(w:World)(hs:s.size≤9223372036854775807)(h1:1≤s.size)(hc:w.cell? ⟨b,0,none⟩=some (.string s)) :
 Calls Tryz.prog 85 #[.func (.func 89) #[] #[],.pointer (some ⟨b,0,none⟩)] w fun e w'=>e = .returned (.int .i64 ((1+Lx.run Lx.space (s.toList.drop 1):Nat):Int))∧w=w':=by
 obtain⟨N,hN⟩:∃ N:Nat,1+Lx.run Lx.space (s.toList.drop 1)=N:=⟨_,rfl⟩
 rw[hN]
 have HN:=ξ hN
 clear hN
 go_enter Tryz.func85,Tryz.ntmps85
 go_wp2_with fail
 go_loop [4] (fun n=>∃ j:Nat,1≤j∧j≤s.size∧n = .int .i64 j∧j+Lx.run Lx.space (s.toList.drop j)=N) (fun n=>s.size-(intOf n).toNat)
 case atStart=>exact⟨1,Nat.le_refl _,h1,rfl,HN.out⟩
 case round =>
  obtain⟨j,hj1,hj,rfl,hrun⟩:=hrel
  have HR:=ξ hrun
  clear hrun
  by_cases hlt:j<s.size
  ·cases hp:Lx.space s[j].toNat with
   | true =>
    have HS:=ξ (Lx.run_drop Lx.space s j hlt hp)
    go_wp2_with (go_at_call 89;refine (isSpace_any _ _).mono ?_;rintro e w1 ⟨rfl,rfl⟩)
    go_round
    case rel=>exact⟨j+1,by omega,by omega,by go_num,by have:=HR.out;have:=HS.out;omega⟩
    case measure=>simp[intOf];omega
   | false =>
    have HS:=ξ (Lx.run_stop Lx.space s j hlt hp)
    go_wp2_with (go_at_call 89;refine (isSpace_any _ _).mono ?_;rintro e w1 ⟨rfl,rfl⟩)
    go_ret
    exact⟨congrArg (fun n:Nat=>Ending.returned (.int .i64 (n:Int))) (by have:=HR.out;have:=HS.out;omega),rfl⟩
  ·have e0:Hid (Lx.run Lx.space (s.toList.drop j)=0):=by
    show _=_
    rw[List.drop_eq_nil_of_le (by simp[ByteArray.toList_eq];omega)];rfl
   go_wp2_with fail
   go_ret
   exact⟨congrArg (fun n:Nat=>Ending.returned (.int .i64 (n:Int))) (by have:=HR.out;have:=e0.out;omega),rfl⟩
set_option maxHeartbeats 1000000 in
theorem countOther(b:Nat)(s:ByteArray)(w:World)(hs:s.size≤9223372036854775807)(h1:1≤s.size)(hc:w.cell? ⟨b,0,none⟩=some (.string s)) :
 Calls Tryz.prog 85 #[.func (.func 90) #[] #[],.pointer (some ⟨b,0,none⟩)] w fun e w'=>e = .returned (.int .i64 ((1+Lx.run Lx.other (s.toList.drop 1):Nat):Int))∧w=w':=by
 obtain⟨N,hN⟩:∃ N:Nat,1+Lx.run Lx.other (s.toList.drop 1)=N:=⟨_,rfl⟩
 rw[hN]
 have HN:=ξ hN
 clear hN
 go_enter Tryz.func85,Tryz.ntmps85
 go_wp2_with fail
 go_loop [4] (fun n=>∃ j:Nat,1≤j∧j≤s.size∧n = .int .i64 j∧j+Lx.run Lx.other (s.toList.drop j)=N) (fun n=>s.size-(intOf n).toNat)
 case atStart=>exact⟨1,Nat.le_refl _,h1,rfl,HN.out⟩
 case round =>
  obtain⟨j,hj1,hj,rfl,hrun⟩:=hrel
  have HR:=ξ hrun
  clear hrun
  by_cases hlt:j<s.size
  ·cases hp:Lx.other s[j].toNat with
   | true =>
    have HS:=ξ (Lx.run_drop Lx.other s j hlt hp)
    go_wp2_with (go_at_call 90;refine (isOther_any _ _).mono ?_;rintro e w1 ⟨rfl,rfl⟩)
    go_round
    case rel=>exact⟨j+1,by omega,by omega,by go_num,by have:=HR.out;have:=HS.out;omega⟩
    case measure=>simp[intOf];omega
   | false =>
    have HS:=ξ (Lx.run_stop Lx.other s j hlt hp)
    go_wp2_with (go_at_call 90;refine (isOther_any _ _).mono ?_;rintro e w1 ⟨rfl,rfl⟩)
    go_ret
    exact⟨congrArg (fun n:Nat=>Ending.returned (.int .i64 (n:Int))) (by have:=HR.out;have:=HS.out;omega),rfl⟩
  ·have e0:Hid (Lx.run Lx.other (s.toList.drop j)=0):=by
    show _=_
    rw[List.drop_eq_nil_of_le (by simp[ByteArray.toList_eq];omega)];rfl
   go_wp2_with fail
   go_ret
   exact⟨congrArg (fun n:Nat=>Ending.returned (.int .i64 (n:Int))) (by have:=HR.out;have:=e0.out;omega),rfl⟩
def SomeBool(w:World)(e:Ending)(w':World):Prop:=∃ b:Bool,e = .returned (.bool b)∧w=w'
theorem hasPrefix0_any(s p:ByteArray)(w:World)(_hs:s.size≤9223372036854775807)(_hp:p.size≤9223372036854775807) :
 Calls Tryz.prog 108 #[.string s,.string p] w (SomeBool w):=by
 by_cases h:p.size≤s.size
 all_goals
  go_enter Tryz.func108,Tryz.ntmps108
  go_wp2_with fail
  go_ret
  exact⟨_,rfl,rfl⟩
theorem hasPrefix_any(s p:ByteArray)(w:World)(hs:s.size≤9223372036854775807)(hp:p.size≤9223372036854775807) :
 Calls Tryz.prog 91 #[.string s,.string p] w (SomeBool w):=by
 go_enter Tryz.func91,Tryz.ntmps91
 go_wp2_with fail
 refine (hasPrefix0_any _ _ _ hs hp).mono ?_
 rintro e w1 ⟨b,rfl,rfl⟩
 go_wp2_with fail
 go_ret
 exact⟨_,rfl,rfl⟩
def signTab:List ByteArray:=[⟨#[60,60]⟩,⟨#[62,62]⟩,⟨#[60,61]⟩,⟨#[62,61]⟩,⟨#[61,61]⟩,⟨#[33,61]⟩,⟨#[38,38]⟩,⟨#[124,124]⟩,⟨#[43]⟩,⟨#[45]⟩,⟨#[42]⟩,⟨#[47]⟩,⟨#[37]⟩,⟨#[38]⟩,⟨#[124]⟩,⟨#[94]⟩,⟨#[60]⟩,⟨#[62]⟩,⟨#[33]⟩,⟨#[61]⟩,⟨#[91]⟩,⟨#[93]⟩,⟨#[123]⟩,⟨#[125]⟩,⟨#[40]⟩,⟨#[41]⟩,⟨#[59]⟩,⟨#[44]⟩]
def SG:Array Value:=#[.string ⟨#[60,60]⟩,.string ⟨#[62,62]⟩,.string ⟨#[60,61]⟩,.string ⟨#[62,61]⟩,.string ⟨#[61,61]⟩,.string ⟨#[33,61]⟩,.string ⟨#[38,38]⟩,.string ⟨#[124,124]⟩,.string ⟨#[43]⟩,.string ⟨#[45]⟩,.string ⟨#[42]⟩,.string ⟨#[47]⟩,.string ⟨#[37]⟩,.string ⟨#[38]⟩,.string ⟨#[124]⟩,.string ⟨#[94]⟩,.string ⟨#[60]⟩,.string ⟨#[62]⟩,.string ⟨#[33]⟩,.string ⟨#[61]⟩,.string ⟨#[91]⟩,.string ⟨#[93]⟩,.string ⟨#[123]⟩,.string ⟨#[125]⟩,.string ⟨#[40]⟩,.string ⟨#[41]⟩,.string ⟨#[59]⟩,.string ⟨#[44]⟩]
def signAt(j:Nat):ByteArray:=signTab.getD j ⟨#[]⟩
theorem sign_size(j:Nat):(signAt j).size≤2:=by
 by_cases h:j<28
 ·have:∀ j,j<28→(signAt j).size≤2:=by decide
  exact this j h
 ·unfold signAt;rw[List.getD_eq_getElem?_getD,List.getElem?_eq_none (by simp[signTab];omega)];decide
def SignsIn(w:World):Prop:=∃ t fr,w.heap[0]? = some (.cells SG t fr)
theorem SignsIn.below{w w':World}(h:SignsIn w)(hb:Below w.heap.size w w'):SignsIn w':=by
 obtain⟨t,fr,h⟩:=h
 exact⟨t,fr,(hb.block _ (Array.getElem?_eq_some_iff.1 h).1).trans h⟩
theorem sign_index0(w:World):(Instr.index 156 (.agg SG) (.int .i64 ((0:Nat):Int))).run Tryz.prog w = .ok (.string (signAt 0)) w:=by kernel_rfl
theorem sign_index1(w:World):(Instr.index 156 (.agg SG) (.int .i64 ((1:Nat):Int))).run Tryz.prog w = .ok (.string (signAt 1)) w:=by kernel_rfl
theorem sign_index2(w:World):(Instr.index 156 (.agg SG) (.int .i64 ((2:Nat):Int))).run Tryz.prog w = .ok (.string (signAt 2)) w:=by kernel_rfl
theorem sign_index3(w:World):(Instr.index 156 (.agg SG) (.int .i64 ((3:Nat):Int))).run Tryz.prog w = .ok (.string (signAt 3)) w:=by kernel_rfl
theorem sign_index4(w:World):(Instr.index 156 (.agg SG) (.int .i64 ((4:Nat):Int))).run Tryz.prog w = .ok (.string (signAt 4)) w:=by kernel_rfl
theorem sign_index5(w:World):(Instr.index 156 (.agg SG) (.int .i64 ((5:Nat):Int))).run Tryz.prog w = .ok (.string (signAt 5)) w:=by kernel_rfl
theorem sign_index6(w:World):(Instr.index 156 (.agg SG) (.int .i64 ((6:Nat):Int))).run Tryz.prog w = .ok (.string (signAt 6)) w:=by kernel_rfl
theorem sign_index7(w:World):(Instr.index 156 (.agg SG) (.int .i64 ((7:Nat):Int))).run Tryz.prog w = .ok (.string (signAt 7)) w:=by kernel_rfl
theorem sign_index8(w:World):(Instr.index 156 (.agg SG) (.int .i64 ((8:Nat):Int))).run Tryz.prog w = .ok (.string (signAt 8)) w:=by kernel_rfl
theorem sign_index9(w:World):(Instr.index 156 (.agg SG) (.int .i64 ((9:Nat):Int))).run Tryz.prog w = .ok (.string (signAt 9)) w:=by kernel_rfl
theorem sign_index10(w:World):(Instr.index 156 (.agg SG) (.int .i64 ((10:Nat):Int))).run Tryz.prog w = .ok (.string (signAt 10)) w:=by kernel_rfl
theorem sign_index11(w:World):(Instr.index 156 (.agg SG) (.int .i64 ((11:Nat):Int))).run Tryz.prog w = .ok (.string (signAt 11)) w:=by kernel_rfl
theorem sign_index12(w:World):(Instr.index 156 (.agg SG) (.int .i64 ((12:Nat):Int))).run Tryz.prog w = .ok (.string (signAt 12)) w:=by kernel_rfl
theorem sign_index13(w:World):(Instr.index 156 (.agg SG) (.int .i64 ((13:Nat):Int))).run Tryz.prog w = .ok (.string (signAt 13)) w:=by kernel_rfl
theorem sign_index14(w:World):(Instr.index 156 (.agg SG) (.int .i64 ((14:Nat):Int))).run Tryz.prog w = .ok (.string (signAt 14)) w:=by kernel_rfl
theorem sign_index15(w:World):(Instr.index 156 (.agg SG) (.int .i64 ((15:Nat):Int))).run Tryz.prog w = .ok (.string (signAt 15)) w:=by kernel_rfl
theorem sign_index16(w:World):(Instr.index 156 (.agg SG) (.int .i64 ((16:Nat):Int))).run Tryz.prog w = .ok (.string (signAt 16)) w:=by kernel_rfl
theorem sign_index17(w:World):(Instr.index 156 (.agg SG) (.int .i64 ((17:Nat):Int))).run Tryz.prog w = .ok (.string (signAt 17)) w:=by kernel_rfl
theorem sign_index18(w:World):(Instr.index 156 (.agg SG) (.int .i64 ((18:Nat):Int))).run Tryz.prog w = .ok (.string (signAt 18)) w:=by kernel_rfl
theorem sign_index19(w:World):(Instr.index 156 (.agg SG) (.int .i64 ((19:Nat):Int))).run Tryz.prog w = .ok (.string (signAt 19)) w:=by kernel_rfl
theorem sign_index20(w:World):(Instr.index 156 (.agg SG) (.int .i64 ((20:Nat):Int))).run Tryz.prog w = .ok (.string (signAt 20)) w:=by kernel_rfl
theorem sign_index21(w:World):(Instr.index 156 (.agg SG) (.int .i64 ((21:Nat):Int))).run Tryz.prog w = .ok (.string (signAt 21)) w:=by kernel_rfl
theorem sign_index22(w:World):(Instr.index 156 (.agg SG) (.int .i64 ((22:Nat):Int))).run Tryz.prog w = .ok (.string (signAt 22)) w:=by kernel_rfl
theorem sign_index23(w:World):(Instr.index 156 (.agg SG) (.int .i64 ((23:Nat):Int))).run Tryz.prog w = .ok (.string (signAt 23)) w:=by kernel_rfl
theorem sign_index24(w:World):(Instr.index 156 (.agg SG) (.int .i64 ((24:Nat):Int))).run Tryz.prog w = .ok (.string (signAt 24)) w:=by kernel_rfl
theorem sign_index25(w:World):(Instr.index 156 (.agg SG) (.int .i64 ((25:Nat):Int))).run Tryz.prog w = .ok (.string (signAt 25)) w:=by kernel_rfl
theorem sign_index26(w:World):(Instr.index 156 (.agg SG) (.int .i64 ((26:Nat):Int))).run Tryz.prog w = .ok (.string (signAt 26)) w:=by kernel_rfl
theorem sign_index27(w:World):(Instr.index 156 (.agg SG) (.int .i64 ((27:Nat):Int))).run Tryz.prog w = .ok (.string (signAt 27)) w:=by kernel_rfl
theorem sign_index:∀ j,j<28→∀ w:World,(Instr.index 156 (.agg SG) (.int .i64 (j:Nat))).run Tryz.prog w = .ok (.string (signAt j)) w:=by
 intro j hj w
 have hc:j=0∨j=1∨j=2∨j=3∨j=4∨j=5∨j=6∨j=7∨j=8∨j=9∨j=10∨j=11∨j=12∨j=13∨j=14∨j=15∨j=16∨j=17∨j=18∨j=19∨j=20∨j=21∨j=22∨j=23∨j=24∨j=25∨j=26∨j=27:=by omega
 rcases hc with rfl|rfl|rfl|rfl|rfl|rfl|rfl|rfl|rfl|rfl|rfl|rfl|rfl|rfl|rfl|rfl|rfl|rfl|rfl|rfl|rfl|rfl|rfl|rfl|rfl|rfl|rfl|rfl
 ·exact sign_index0 w
 ·exact sign_index1 w
 ·exact sign_index2 w
 ·exact sign_index3 w
 ·exact sign_index4 w
 ·exact sign_index5 w
 ·exact sign_index6 w
 ·exact sign_index7 w
 ·exact sign_index8 w
 ·exact sign_index9 w
 ·exact sign_index10 w
 ·exact sign_index11 w
 ·exact sign_index12 w
 ·exact sign_index13 w
 ·exact sign_index14 w
 ·exact sign_index15 w
 ·exact sign_index16 w
 ·exact sign_index17 w
 ·exact sign_index18 w
 ·exact sign_index19 w
 ·exact sign_index20 w
 ·exact sign_index21 w
 ·exact sign_index22 w
 ·exact sign_index23 w
 ·exact sign_index24 w
 ·exact sign_index25 w
 ·exact sign_index26 w
 ·exact sign_index27 w
theorem Tryz.signsInfo:(Tryz.prog.info? 156).map (·.size)=some SG.size:=by kernel_rfl
set_option maxHeartbeats 1000000 in
theorem first_letter(s:ByteArray)(w:World)(hs:s.size≤9223372036854775807)(h1:0<s.size)(hl:Lx.letter s[0].toNat=true) :
 Calls Tryz.prog 70 #[.string s] w fun e w'=>e = .returned (.tuple #[.int .u8 1,.int .i64 ((1+Lx.run Lx.inner (s.toList.drop 1):Nat):Int)])∧Below w.heap.size w w':=by
 obtain⟨N,hN⟩:∃ N:Nat,1+Lx.run Lx.inner (s.toList.drop 1)=N:=⟨_,rfl⟩
 rw[hN]
 have HN:=ξ hN
 clear hN
 go_enter Tryz.func70,Tryz.ntmps70
 go_wp2_with (go_at_call 86;refine (isLetter_any _ _).mono ?_;rintro e w1 ⟨rfl,rfl⟩)
 refine (countInner _ s _ hs h1 (by go_simp)).mono ?_
 rintro e w1 ⟨rfl,rfl⟩
 rw[HN.out]
 go_wp2_with fail
 go_ret2
 exact⟨rfl,(Below.refl _ _).alloc (Nat.le_refl _) _⟩
def NoWord(w:World)(e:Ending)(w':World):Prop:=∃ (k n:Int),e = .returned (.tuple #[.int .u8 k,.int .i64 n])∧(k == 1)=false∧Below w.heap.size w w'
set_option maxHeartbeats 1000000 in
theorem first_other(s:ByteArray)(w:World)(hs:s.size≤9223372036854775807)(h1:0<s.size)(hl:Lx.letter s[0].toNat=false)(hg:SignsIn w) :
 Calls Tryz.prog 70 #[.string s] w (NoWord w):=by
 have hB0:Below w.heap.size w (w.alloc (.cells #[.string s] 9)):=(Below.refl _ _).alloc (Nat.le_refl _) _
 obtain⟨t,fr,hgg⟩:=hg.below hB0
 have HG:=ξ hgg
 clear hgg hg
 cases hd:Lx.digit s[0].toNat with
 | true =>
  go_enter Tryz.func70,Tryz.ntmps70
  go_wp2_with (first | (go_at_call 86;refine (isLetter_any _ _).mono ?_;rintro e w1 ⟨rfl,rfl⟩) | (go_at_call 88;refine (isDigit_any _ _).mono ?_;rintro e w1 ⟨rfl,rfl⟩))
  refine (countDigit _ s _ hs h1 (by go_simp)).mono ?_
  rintro e w1 ⟨rfl,rfl⟩
  go_wp2_with fail
  go_ret2
  exact⟨_,_,rfl,rfl,hB0⟩
 | false =>
  cases hsp:Lx.space s[0].toNat with
  | true =>
   go_enter Tryz.func70,Tryz.ntmps70
   go_wp2_with (first | (go_at_call 86;refine (isLetter_any _ _).mono ?_;rintro e w1 ⟨rfl,rfl⟩) | (go_at_call 88;refine (isDigit_any _ _).mono ?_;rintro e w1 ⟨rfl,rfl⟩) | (go_at_call 89;refine (isSpace_any _ _).mono ?_;rintro e w1 ⟨rfl,rfl⟩))
   refine (countSpace _ s _ hs h1 (by go_simp)).mono ?_
   rintro e w1 ⟨rfl,rfl⟩
   go_wp2_with fail
   go_ret2
   exact⟨_,_,rfl,rfl,hB0⟩
  | false =>
   cases hh:((s[0].toNat:Int) == 35) with
   | true =>
    go_enter Tryz.func70,Tryz.ntmps70
    go_wp2_with (first | (go_at_call 86;refine (isLetter_any _ _).mono ?_;rintro e w1 ⟨rfl,rfl⟩) | (go_at_call 88;refine (isDigit_any _ _).mono ?_;rintro e w1 ⟨rfl,rfl⟩) | (go_at_call 89;refine (isSpace_any _ _).mono ?_;rintro e w1 ⟨rfl,rfl⟩))
    refine (countOther _ s _ hs h1 (by go_simp)).mono ?_
    rintro e w1 ⟨rfl,rfl⟩
    go_wp2_with fail
    go_ret2
    exact⟨_,_,rfl,rfl,hB0⟩
   | false =>
    have hcell:(w.alloc (.cells #[.string s] 9)).cell? ⟨w.heap.size,0,none⟩=some (.string s):=by go_simp
    go_enter Tryz.func70,Tryz.ntmps70
    go_wp2_with (first | (go_at_call 86;refine (isLetter_any _ _).mono ?_;rintro e w1 ⟨rfl,rfl⟩) | (go_at_call 88;refine (isDigit_any _ _).mono ?_;rintro e w1 ⟨rfl,rfl⟩) | (go_at_call 89;refine (isSpace_any _ _).mono ?_;rintro e w1 ⟨rfl,rfl⟩) | (with_reducible refine wpList_load_row rfl 156 _ rfl 0 rfl t SG fr _ HG.out Tryz.underlying156 rfl Tryz.signsInfo ?_))
    go_loop [32] (fun i=>∃ j:Nat,j≤28∧i = .int .i64 j) (fun i=>28-(intOf i).toNat)
    case atStart=>exact⟨0,by omega,rfl⟩
    case round =>
     obtain⟨j,hj,rfl⟩:=hrel
     by_cases hlt:j<28
     ·have hix:=sign_index j hlt
      have hsz:=sign_size j
      go_wp2_with fail
      refine (hasPrefix_any _ _ _ hs (by omega)).mono ?_
      rintro e w1 ⟨b,rfl,rfl⟩
      cases b with
      | true =>
       go_wp2_with fail
       go_ret2
       exact⟨_,_,rfl,rfl,hB0⟩
      | false =>
       go_wp2_with fail
       go_round
       case rel=>exact⟨j+1,by omega,by go_num⟩
       case measure=>simp[intOf];omega
     ·go_wp2_with fail
      go_ret2
      exact⟨_,_,rfl,rfl,hB0⟩
theorem toList_cons(s:ByteArray)(h:0<s.size):s.toList=s[0]::s.toList.drop 1:=by
 have e:s.toList.drop 0=s[0]::s.toList.drop (0+1):=by
  rw[List.drop_eq_getElem_cons (by simpa[ByteArray.toList_eq] using h)]
  congr 1
  simp[ByteArray.toList_eq];rfl
 simpa using e
theorem toList_len(s:ByteArray):s.toList.length=s.size:=by simp[ByteArray.toList_eq]
set_option maxHeartbeats 1000000 in
theorem name_any(s:ByteArray)(w:World)(hs:s.size≤9223372036854775807)(hg:SignsIn w) :
 Calls Tryz.prog 48 #[.string s] w fun e w'=>e = .returned (.bool (Lx.name s.toList))∧Below w.heap.size w w':=by
 have HG:=ξ hg
 clear hg
 by_cases h0:s.size=0
 ·have e:s=⟨#[]⟩:=bytes_eq (by have:=toList_len s;rw[h0] at this;exact List.length_eq_zero_iff.1 this)
  subst e
  clear h0
  go_enter Tryz.func48,Tryz.ntmps48
  go_wp2_with fail
  go_ret
  exact⟨ret_bool' (by simp[ByteArray.toList_eq,Lx.name,Lx.startOk]),Below.refl _ _⟩
 ·have h1:0<s.size:=by omega
  have hE:=toList_cons s h1
  have hL:=toList_len s
  have n1:s.toList.isEmpty=false:=by rw[hE];rfl
  have n2:(s.toList == [])=false:=by rw[hE];rfl
  have n3:¬ s.toList = []:=by rw[hE];simp
  have HV:Hid (Lx.name s.toList=(decide (s.size≤12) && !Lx.keyword s.toList && (Lx.letter s[0].toNat && (s.toList.drop 1).all (fun c=>Lx.inner c.toNat)))):=by
   show _=_
   rw[←hL]
   unfold Lx.name
   have:Lx.startOk s.toList=(Lx.letter s[0].toNat && (s.toList.drop 1).all (fun c=>Lx.inner c.toNat)):=by
    conv=>lhs;rw[hE]
    rfl
   rw[this]
  clear hE h0
  have HL:=ξ hL
  clear hL
  by_cases h12:s.size≤12
  ·have d12:decide ((12:Int)<(s.size:Int))=false:=by simp;omega
   cases hk:Lx.keyword s.toList with
   | true =>
    go_enter Tryz.func48,Tryz.ntmps48
    go_wp2_with (go_at_call 69;refine (keyword_any _ _).mono ?_;rintro e w1 ⟨rfl,rfl⟩)
    go_ret
    exact⟨ret_bool' (by rw[HV.out,hk];simp),Below.refl _ _⟩
   | false =>
    cases hl:Lx.letter s[0].toNat with
    | true =>
     have HR:=ξ (Lx.run_all Lx.inner (s.toList.drop 1))
     have HD:Hid ((s.toList.drop 1).length=s.size-1):=by show _=_;rw[List.length_drop,HL.out]
     by_cases hr:1+Lx.run Lx.inner (s.toList.drop 1)=s.size
     ·have HA:Hid ((s.toList.drop 1).all (fun c=>Lx.inner c.toNat)=true):=HR.out.1 (by rw[HD.out];omega)
      obtain⟨N,hN⟩:∃ N:Nat,1+Lx.run Lx.inner (s.toList.drop 1)=N:=⟨_,rfl⟩
      have HN:=ξ hN
      rw[hN] at hr
      have q:((N:Int) == (s.size:Int))=true:=by rw[hr];simp
      clear hN
      have HQ:=ξ hr
      clear hr
      go_enter Tryz.func48,Tryz.ntmps48
      go_wp2_with (go_at_call 69;refine (keyword_any _ _).mono ?_;rintro e w1 ⟨rfl,rfl⟩)
      refine (first_letter s _ hs h1 hl).mono ?_
      rintro e w1 ⟨rfl,hB⟩
      rw[HN.out]
      go_wp2_with fail
      go_ret
      exact⟨ret_bool' (by rw[HV.out,hk,hl,HA.out];simp[h12]),hB⟩
     ·have HA:Hid ((s.toList.drop 1).all (fun c=>Lx.inner c.toNat)=false):=by
       show _=_
       cases e:(s.toList.drop 1).all (fun c=>Lx.inner c.toNat) with
       | false=>rfl
       | true=>have:=HR.out.2 e;rw[HD.out] at this;omega
      obtain⟨N,hN⟩:∃ N:Nat,1+Lx.run Lx.inner (s.toList.drop 1)=N:=⟨_,rfl⟩
      have HN:=ξ hN
      rw[hN] at hr
      have q:((N:Int) == (s.size:Int))=false:=by simp;omega
      clear hN hr
      go_enter Tryz.func48,Tryz.ntmps48
      go_wp2_with (go_at_call 69;refine (keyword_any _ _).mono ?_;rintro e w1 ⟨rfl,rfl⟩)
      refine (first_letter s _ hs h1 hl).mono ?_
      rintro e w1 ⟨rfl,hB⟩
      rw[HN.out]
      go_wp2_with fail
      go_ret
      exact⟨ret_bool' (by rw[HV.out,hk,hl,HA.out];simp),hB⟩
    | false =>
     go_enter Tryz.func48,Tryz.ntmps48
     go_wp2_with (go_at_call 69;refine (keyword_any _ _).mono ?_;rintro e w1 ⟨rfl,rfl⟩)
     refine (first_other s _ hs h1 hl HG.out).mono ?_
     rintro e w1 ⟨k,n,rfl,hk1,hB⟩
     go_wp2_with fail
     go_ret
     exact⟨ret_bool' (by rw[HV.out,hk,hl];simp),hB⟩
  ·have d:decide ((12:Int)<(s.size:Int))=true:=by simp;omega
   go_enter Tryz.func48,Tryz.ntmps48
   go_wp2_with fail
   go_ret
   exact⟨ret_bool' (by rw[HV.out];simp[h12]),Below.refl _ _⟩
