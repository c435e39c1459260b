/- Part. -/
import Derived.Test.YtkpdngfkdmllkaaGreatDoorMg41
import Derived.Test.YtkpdngfkdmllkaaGreatDoorMg39
namespace Go.Proofs.YtkpdngfkdmllkaaGreatDoor
set_option linter.unusedVariables false
set_option linter.unusedSimpArgs false
open Go.RowKit
set_option maxRecDepth 100000
def BrOk(R:Nat)(b:Blk):Prop:=(b.kind=1→b.x=0∧b.els=0)∧(b.kind=2→0≤b.x∧b.x<(R:Nat))
theorem BrOk.mono{R R':Nat}{b:Blk}(h:BrOk R b)(hR:R≤R'):BrOk R' b:=⟨h.1,fun h2=>by have:=h.2 h2;omega⟩
section
variable {E:LEnv} {ns:List (ByteArray×Bool)} {D:Nms}
end
theorem declV{known:ByteArray→Bool}:∀ (l so:List ByteArray),declF known so l = []→(∀ x∈l,known x=false∧x∉so)∧l.Nodup:=by
 intro l
 induction l with
 | nil=>intro so _;exact⟨fun x hx=>(by cases hx),List.nodup_nil⟩
 | cons x l ih =>
  intro so h
  rw[declF,List.append_eq_nil_iff] at h
  obtain⟨h1,h2⟩:=h
  obtain⟨a1,a2⟩:=ih _ h2
  have hx:known x=false∧x∉so:=by
   by_cases hc:(known x || memB so x)=true
   ·rw[if_pos hc] at h1;cases h1
   ·rw[Bool.not_eq_true,Bool.or_eq_false_iff] at hc
    refine⟨hc.1,fun hm=>?_⟩
    have:=memB_iff.2 hm
    rw[hc.2] at this
    cases this
  refine⟨fun y hy=>?_,List.nodup_cons.2 ⟨fun hm=>(a1 x hm).2 (List.mem_append_right _ (List.mem_singleton.2 rfl)),a2⟩⟩
  rcases List.mem_cons.1 hy with rfl|hy
  ·exact hx
  ·exact⟨(a1 y hy).1,fun hm=>(a1 y hy).2 (List.mem_append_left _ hm)⟩
