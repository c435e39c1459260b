/- This text proves that ontimelaw18.LowerRenames returns true for every input and leaves its arguments as they were: renaming a scalar variable does not change the outcome of a task. Its condition: package lexer's table 'signs' holds what the program's own text lays there (the card ties that to the text). -/
import Derived.Test.YtkpdngfkdmllkaaGreatDoorCards
import Derived.Test.YtkpdngfkdmllkaaGreatDoorTie
import Derived.Test.YtkpdngfkdmllkaaGreatDoorLowRenames
import Derived.Test.YtkpdngfkdmllkaaGreatDoorMg49
import Derived.WalkKit
import Derived.ProofKit
import Derived.OpenShut
import Derived.Deep.DeepHandedRow
import Derived.Lib.LaidTab
namespace Go.Proofs.YtkpdngfkdmllkaaGreatDoor.lowerRenames
set_option linter.unusedVariables false
set_option linter.unusedSimpArgs false
open Go.ChangeShapes Go.WideShapes Go.ChangeAt Go.RowKit
theorem own:ownKnob Tryz.prog.godebug=none:=by kernel_rfl
theorem laidOut:laidOutB Tryz.prog=true:=by kernel_rfl
theorem reads_int:Tryz.prog.readableRec 3=true∧3<Tryz.prog.types.size:=⟨by kernel_rfl,by decide +kernel⟩
theorem reads_mem:Tryz.prog.readableRec 29=true∧29<Tryz.prog.types.size:=⟨by kernel_rfl,by decide +kernel⟩
theorem reads_prog:Tryz.prog.readableRec 25=true∧25<Tryz.prog.types.size:=⟨by kernel_rfl,by decide +kernel⟩
theorem reads_u8:Tryz.prog.readableRec 5=true∧5<Tryz.prog.types.size:=⟨by kernel_rfl,by decide +kernel⟩
theorem reads_words:Tryz.prog.readableRec 30=true∧30<Tryz.prog.types.size:=⟨by kernel_rfl,by decide +kernel⟩
theorem readable:∀ t∈Tryz.f4.params.toList,Tryz.prog.readableRec t=true∧t<Tryz.prog.types.size:=by
 rw[Tryz.params4]
 intro t ht
 simp only[List.mem_cons,List.not_mem_nil,or_false] at ht
 rcases ht with rfl|rfl|rfl|rfl|rfl
 ·exact reads_prog
 ·exact reads_int
 ·exact reads_u8
 ·exact reads_mem
 ·exact reads_words
set_option maxRecDepth 100000 in
theorem contract(H:Type)(enc:TypeId×Value→H)(W:World)(base:Nat)(args:Array Value)(ds gs:List (DataW H))(before:List MemPlace)
 (hval:∀ (j:Nat) t v,Tryz.f4.params[j]? = some t→args[j]? = some v→Value.okWide Tryz.prog W .any base t v)
 (hW:DataW.Whole enc Tryz.prog Tryz.f4.params.toList Rows.lowerRenamesSpec.vars false W args.toList ds gs before) (hL:laidMetH Tryz.prog Rows.lowerRenamesRow.laid W) :
 Calls Tryz.prog 4 args W fun e W'=>∃ v,e = .returned v∧Rows.lowerRenamesSpec.post enc Tryz.prog Tryz.f4 false true false false W args v W':=by
 have hW':=hW
 obtain⟨p,q,hA0,hV,rfl,hfz,hnd⟩:=hW
 have hA:DataW.TrodAll enc Tryz.prog W 0 (fun _=>true) true Tryz.f4.params.toList args.toList ds p:=hA0
 rw[Tryz.params4] at hA hval
 obtain⟨v0,vs0,d0,ds0,p0,q0,hargs0,hds0,hp0,h0,r0⟩:=trodAll_cons hA
 obtain⟨v1,vs1,d1,ds1,p1,q1,hargs1,hds1,hp1,h1,r1⟩:=trodAll_cons r0
 obtain⟨v2,vs2,d2,ds2,p2,q2,hargs2,hds2,hp2,h2,r2⟩:=trodAll_cons r1
 obtain⟨v3,vs3,d3,ds3,p3,q3,hargs3,hds3,hp3,h3,r3⟩:=trodAll_cons r2
 obtain⟨v4,vs4,d4,ds4,p4,q4,hargs4,hds4,hp4,h4,r4⟩:=trodAll_cons r3
 obtain⟨hv,hd,hq⟩:=trodAll_nil r4
 subst hv hd hq
 subst hds4
 subst hds3
 subst hds2
 subst hds1
 subst hds0
 obtain rfl:args = #[v0,v1,v2,v3,v4]:=by
  apply Array.toList_inj.1;simp only[hargs0,hargs1,hargs2,hargs3,hargs4]
 clear hA hA0
 obtain⟨pr0,sa0,sc0,ta0,tc0,rfl,hr0⟩:=open_prog (hval 0 25 v0 rfl rfl) h0
 obtain⟨a1,rfl,rfl,rfl,w1⟩:=open_int Tryz.underlying3 (hval 1 3 v1 rfl rfl) h1
 have b1:isI64 a1:=by unfold isI64;simpa[Lit.wf,IntKind.min,IntKind.max,IntKind.signed,IntKind.bits] using w1
 obtain⟨a2,rfl,rfl,rfl,w2⟩:=open_int Tryz.underlying5 (hval 2 5 v2 rfl rfl) h2
 have b2:0≤a2∧a2≤255:=by simpa[Lit.wf,IntKind.min,IntKind.max,IntKind.signed,IntKind.bits] using w2
 obtain⟨me3,ma3,mac3,ms3,msc3,rfl,hr3⟩:=open_mem (hval 3 29 v3 rfl rfl) h3
 obtain⟨wa4,wl4,wc4,rfl,_,hr4⟩:=open_words (hval 4 30 v4 rfl rfl) h4
 refine (lowerRenames_any pr0 _ _ me3 wl4 W sa0 ta0 sc0 tc0 ma3 ms3 mac3 msc3 wa4 wc4 hr0 hr3 hr4 (signs_of_laid hL) b1 b2).mono fun e W' ⟨he,hB⟩=>?_
 subst he
 exact⟨_,rfl,law_post laidOut readable rfl rfl Tryz.underlying4 rfl hW' hB⟩
noncomputable def laidWorld (os:Os):World:=
 { World.holding Tryz.prog os ⟨#[],#[],[]⟩ with heap:=(World.holding Tryz.prog os ⟨#[],#[],[]⟩).heap.modify 0 fun
  | .cells _ t frozen=>.cells SG t frozen
  | o=>o }
theorem laid_met(os:Os):laidMet Tryz.prog Rows.lowerRenamesRow.laid ((laidWorld os).forCall (fun _ _=>0) ⟨#[],#[.agg #[.slice none 0 0,.slice none 0 0],.int .i64 0,.int .u8 0,.agg #[.slice none 0 0,.slice none 0 0],.slice none 0 0],[]⟩).memory:=
 laidMet_of_run' 8 (by kernel_rfl) (by kernel_rfl)
theorem reads(os:Os){H:Type}(enc:TypeId×Value→H):∃ places,DataW.whole enc Tryz.prog ((laidWorld os).forCall (fun _ _=>0) ⟨#[],#[.agg #[.slice none 0 0,.slice none 0 0],.int .i64 0,.int .u8 0,.agg #[.slice none 0 0,.slice none 0 0],.slice none 0 0],[]⟩).memory Tryz.f4.params.toList Rows.lowerRenamesSpec.vars false (#[.agg #[.slice none 0 0,.slice none 0 0],.int .i64 0,.int .u8 0,.agg #[.slice none 0 0,.slice none 0 0],.slice none 0 0]:Array Value).toList 8=some ([.agg [.nil,.nil],.lit (.int .i64 0),.lit (.int .u8 0),.agg [.nil,.nil],.nil],[],places):=
 ⟨[],by kernel_rfl⟩
set_option maxRecDepth 100000 in
theorem lifted(os:Os)(started:os.Started)(H:Type)(enc:TypeId×Value→H)(F:Stop.Interp) :
 ReturnsInHanded {} Tryz.checked os 4 .any ((OpenSpec.ofChange Rows.lowerRenamesSpec).preRow enc Tryz.prog Tryz.f4 Rows.lowerRenamesRow.domain false Rows.lowerRenamesRow.laid) (((OpenSpec.ofChange Rows.lowerRenamesSpec).at F).post enc Tryz.prog Tryz.f4 false true false false):=by
 obtain⟨places,hx⟩:=reads os enc
 refine returnsInHanded_of_row (C:=Tryz.checked) (s:=OpenSpec.ofChange Rows.lowerRenamesSpec) own started (by kernel_rfl) Tryz.func4
  (witness_row_at (enc:=enc) (C:=Tryz.checked) false (laidWorld os) #[.agg #[.slice none 0 0,.slice none 0 0],.int .i64 0,.int .u8 0,.agg #[.slice none 0 0,.slice none 0 0],.slice none 0 0] rfl (by kernel_rfl) (by kernel_rfl) (by kernel_rfl)
   (OpenSpec.preRow_of_cond 8 hx (by kernel_rfl) (fun k hk=>by cases hk) (by kernel_rfl) (laid_met os))) ?_
 intro W base args ds gs before hval hW _ _ _ hL _ _
 exact contract H enc W base args ds gs before hval hW hL
theorem said:Rows.LowerRenamesSaid:=
 OpenClaim.holds_of_cond 4 Tryz.f4 rfl rfl rfl rfl rfl rfl rfl ⟨rfl,rfl,rfl,rfl,rfl⟩ rfl rfl rfl rfl rfl (by kernel_rfl) Tryz.func4 (by kernel_rfl)
  (of_decide_eq_true (by kernel_rfl)) (by unfold Func.isWrapper;first | (rw[if_pos (by decide +kernel)];kernel_rfl) | (rw[if_neg (by decide +kernel)];exact⟨rfl,rfl⟩))
  (fun os started H enc _ F=>by rw[OpenClaim.pre_eq_preRow];exact lifted os started H enc F)
theorem plain (f : FuncId) (fn : Func) (hf : Tryz.pinned.checked.prog.funcNamed "ontime/ontimelaw18.LowerRenames" = some f) (hfn : Tryz.pinned.checked.prog.funcs[f]? = some fn) :
 true=Tryz.pinned.checked.prog.looks []∧∀ (j:Nat) t,fn.params[j]? = some t→Tryz.pinned.checked.prog.wantsStandIn t=false:=by
 obtain rfl : f = 4 := Option.some.inj ((show Tryz.prog.funcNamed "ontime/ontimelaw18.LowerRenames" = some 4 by kernel_rfl).symm.trans hf) |>.symm
 obtain rfl:fn=Tryz.f4:=(Option.some.inj (Tryz.func4.symm.trans hfn)).symm
 refine⟨by kernel_rfl,fun j t ht=>?_⟩
 rw[Tryz.params4] at ht
 have hm:=Array.mem_of_getElem? ht
 simp only[List.mem_toArray,List.mem_cons,List.not_mem_nil,or_false] at hm
 rcases hm with rfl|rfl|rfl|rfl|rfl
 ·exact (show Tryz.prog.wantsStandIn 25=false by kernel_rfl)
 ·exact (show Tryz.prog.wantsStandIn 3=false by kernel_rfl)
 ·exact (show Tryz.prog.wantsStandIn 5=false by kernel_rfl)
 ·exact (show Tryz.prog.wantsStandIn 29=false by kernel_rfl)
 ·exact (show Tryz.prog.wantsStandIn 30=false by kernel_rfl)
theorem card:Rows.LowerRenamesCardSaid:=
 Claim7.holds_tied_plain_at .later [] _ _ _ _ said (fun _ h=>by cases h) (by kernel_rfl) (fun _ h=>by cases h) lowerRenames_row_tie rfl ⟨rfl,rfl⟩ (by kernel_rfl) rfl plain (by kernel_rfl)
#print axioms card
end Go.Proofs.YtkpdngfkdmllkaaGreatDoor.lowerRenames
