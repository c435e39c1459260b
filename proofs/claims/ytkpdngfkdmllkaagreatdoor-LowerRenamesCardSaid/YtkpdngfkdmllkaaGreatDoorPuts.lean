/- Part. -/
import Derived.Deep.RegionHeld
import Derived.Lib.Hide
namespace Go.Proofs.YtkpdngfkdmllkaaGreatDoor
open Go
theorem pA{α:Type}{xs:List α}{i:Nat}(h:i<xs.toArray.size):xs.toArray[i]=xs[i]'(by simpa using h):=List.getElem_toArray h
theorem pB{α:Type}(a:α)(as:List α)(h:0<(a::as).length):(a::as)[0]=a:=rfl
theorem pC{α:Type}(a:α)(as:List α)(i:Nat)(h:i+1<(a::as).length):(a::as)[i+1]=as[i]'(by simpa using h):=rfl
theorem pD{α:Type}(l:List α)(i:Nat)(a:α):l.toArray.setIfInBounds i a=(l.set i a).toArray:=List.setIfInBounds_toArray l i a
theorem pE{α:Type}{x a:α}{xs:List α}:(x::xs).set 0 a=a::xs:=rfl
theorem pF{α:Type}{x a:α}{xs:List α}{i:Nat}:(x::xs).set (i+1) a=x::xs.set i a:=rfl
section
variable {P:Program} {ops:Array Oper} {Q:Exit→Act→World→Prop} {md:Region.Mode} {S:World→Prop}
theorem hT{fuel:Nat}{listed:Array Bool}{a:Act}{w:World}(i:Nat)(v:Value){oi:Oper}(hi:ops[i]? = some oi)(hs:Region.noSelect ops=true:=by kernel_rfl)(hf:Region.free md ops listed i=true:=by kernel_rfl)
 (hr:(Region.ready md ops listed).contains i=true:=by kernel_rfl) (hQ:∀ c a w,Q (.panic c) (a.put oi.dst v) w→Q (.panic c) a w:=by exact fun _ _ _ h=>h) (hw:Region.wanted oi (yielded ops a.tmps)=true:=by rfl) (hS:S w:=by assumption)
 (hy:∀ w,S w→(execOp a.eval oi).run P w = .ok (.value v) w) (h:wpAnyH P md ops Q S fuel (listed.setIfInBounds i true) (a.put oi.dst v) w):wpAnyH P md ops Q S (fuel+1) listed a w:=
 wpAnyH_take hi hs hf hr hQ (Or.inl ⟨hw,hy⟩) hS h
theorem hR{fuel:Nat}{listed:Array Bool}{a:Act}{w:World}(i:Nat){o:Oper}(ho:ops[i]? = some o)
 (h:∀ K':Act→World→Prop,Shut (∀ a w,S w→(S w→wpAnyH P md ops Q S fuel (listed.setIfInBounds i true) a w)→K' a w)→if Region.wanted o (yielded ops a.tmps)=true then Oper.wp P o a w K' Q else K' (a.put o.dst undef) w)
 (hr:Region.ready md ops listed = [i]:=by kernel_rfl):wpAnyH P md ops Q S (fuel+1) listed a w:=wpAnyH_ready hr (by simp) (AllReadyH.cons ho h AllReadyH.nil)
end
theorem pZ {α : Type} : (∀ (xs : List α) (i : Nat) (h : i < xs.toArray.size), xs.toArray[i] = xs[i]'(by simpa using h)) ∧ (∀ (a : α) (as : List α) (h : 0 < (a :: as).length), (a :: as)[0] = a) ∧ (∀ (a : α) (as : List α) (i : Nat) (h : i + 1 < (a :: as).length), (a :: as)[i + 1] = as[i]'(by simpa using h)) ∧ (∀ (l : List α) (i : Nat) (a : α), l.toArray.setIfInBounds i a = (l.set i a).toArray) ∧ (∀ (x a : α) (xs : List α), (x :: xs).set 0 a = a :: xs) ∧ (∀ (x a : α) (xs : List α) (i : Nat), (x :: xs).set (i + 1) a = x :: xs.set i a) :=
  ⟨fun _ _ h => List.getElem_toArray h, fun _ _ _ => rfl, fun _ _ _ _ => rfl, fun l i a => List.setIfInBounds_toArray l i a, fun _ _ _ => rfl, fun _ _ _ _ => rfl⟩
theorem ξ {p : Prop} (h : p) : RowKit.Hid p := h
