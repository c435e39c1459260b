/- Part. -/
import Derived.Test.YtkpdngfkdmllkaaGreatDoorInExpr
namespace Go.Proofs.YtkpdngfkdmllkaaGreatDoor
set_option linter.unusedVariables false
set_option linter.unusedSimpArgs false
open Go.RowKit Go.Maps
set_option maxRecDepth 100000
set_option maxHeartbeats 4000000
structure IM where
 sb:Nat
 vb:Nat
 ab:Nat
 na:Nat
 ina:Option Addr
 inc:Nat
 G:ByteArray→Option Value
def outCells(l:List (Int×Int)):List Value:=l.flatMap fun p=>[.int .i64 p.1,.int .i32 p.2]
theorem outCells_snoc(l:List (Int×Int))(p:Int×Int):outCells (l++[p])=outCells l++[.int .i64 p.1,.int .i32 p.2]:=by unfold outCells;simp
def RowsI(B:Nat)(w:World)(G:ByteArray→Option Value)(A:AF):Prop:=∀ nm,match A nm with
 | none=>G nm=none
 | some l=>∃ g c,G nm=some (.slice (some ⟨g,0,none⟩) l.length c)∧l.length≤1000000∧w.ownsRow B 21 1 (.slice (some ⟨g,0,none⟩) l.length c) l.length (l.map (Value.int .i32))
def Apart(G:ByteArray→Option Value):Prop:=∀ nm nm' g n c n' c',G nm=some (.slice (some ⟨g,0,none⟩) n c)→G nm'=some (.slice (some ⟨g,0,none⟩) n' c')→nm=nm'
def I32R(B:Nat)(w:World)(a:Option Addr)(l:List Int):Prop:=∀ i,i<l.length→∃ b o,a=some ⟨b,o,none⟩∧b<B∧w.cell? ⟨b,o+i,none⟩=some (.int .i32 (l.getD i 0))
structure StAt(B K:Nat)(m:IM)(F:Int)(inp:List Int)(w:World)(s:St)(ov:Value):Prop where
 box:w.heap[m.sb]? = some (stObj m.vb m.ab m.ina inp.length m.inc F ov s.rd s.st)
 cnt:∃ k,k+2*(F.toNat-s.st)≤K∧FMap Tryz.prog StrK w m.vb k (intV s.V)∧s.rd≤k∧s.out.length≤k
 arrs:FMap Tryz.prog StrK w m.ab m.na m.G
 rows:RowsI B w m.G s.A
 apart:Apart m.G
 out:w.ownsRow B 64 2 ov s.out.length (outCells s.out)
 inr:I32R B w m.ina inp
 inl:inp.length≤1000000
 fitV:∀ nm v,s.V nm=some v→Wd.W v
 fitA:∀ nm l,s.A nm=some l→∀ x∈l,Wd.W x
 fitI:∀ x∈inp,Wd.W x
 stF:s.st≤F.toNat
 up:B≤m.sb∧B≤m.vb∧B≤m.ab∧m.ab≠m.vb
def NotOut:Obj→Prop
 | .cells _ t _=>t≠64
 | _=>True
def NoRow(G:ByteArray→Option Value)(k:Nat):Prop:=∀ nm g n c,G nm=some (.slice (some ⟨g,0,none⟩) n c)→k≠g
structure FrI(B:Nat)(m:IM)(w w':World):Prop where
 low:Below B w w'
 still:∀ k o,w.heap[k]? = some o→k≠m.sb→k≠m.vb→NoRow m.G k→NotOut o→w'.heap[k]? = some o
section
variable {B K:Nat} {m:IM} {F:Int} {inp:List Int} {w w' w'':World} {s:St} {ov:Value}
theorem FrI.refl:FrI B m w w:=⟨Below.refl _ _,fun _ _ h _ _ _ _=>h⟩
theorem FrI.trans(h:FrI B m w w')(h':FrI B m w' w''):FrI B m w w'':=⟨h.low.trans h'.low,fun k o h1 h2 h3 h4 h5=>h'.still k o (h.still k o h1 h2 h3 h4 h5) h2 h3 h4 h5⟩
theorem FrI.of(h:Below w.heap.size w w')(hB:B≤w.heap.size):FrI B m w w':=⟨h.mono hB,fun _ _ hk _ _ _ _=>mem_keep hk h⟩
theorem I32R.low{a:Option Addr}{l:List Int}(h:I32R B w a l)(hB:Below B w w'):I32R B w' a l:=fun i hi=>by
 obtain⟨b,o,h1,h2,h3⟩:=h i hi
 exact⟨b,o,h1,h2,(hB.cell (p:=⟨b,o+i,none⟩) h2).trans h3⟩
theorem RowsI.move{G:ByteArray→Option Value}{A:AF}(h:RowsI B w G A)(hm:∀ nm g n c,G nm=some (.slice (some ⟨g,0,none⟩) n c)→g<w.heap.size→w'.heap[g]? = w.heap[g]?):RowsI B w' G A:=fun nm=>by
 have h1:=h nm
 cases hA:A nm with
 | none=>rw[hA] at h1;exact h1
 | some l =>
  rw[hA] at h1
  obtain⟨g,c,h2,h3,h4⟩:=h1
  refine⟨g,c,h2,h3,own_keep h4 (fun k hk hl=>?_)⟩
  have hk:g=k:=Option.some.inj hk
  subst hk
  exact hm nm g _ _ h2 hl
theorem RowsI.lt{G:ByteArray→Option Value}{A:AF}(h:RowsI B w G A){nm:ByteArray}{l:List Int}(hA:A nm=some l):∃ g c,G nm=some (.slice (some ⟨g,0,none⟩) l.length c)∧B≤g∧g<w.heap.size∧l.length≤1000000∧w.ownsRow B 21 1 (.slice (some ⟨g,0,none⟩) l.length c) l.length (l.map (Value.int .i32)):=by
 have h1:=h nm
 rw[hA] at h1
 obtain⟨g,c,h2,h3,h4⟩:=h1
 exact⟨g,c,h2,(own_lt h4 rfl).1,(own_lt h4 rfl).2,h3,h4⟩
theorem RowsI.row{G:ByteArray→Option Value}{A:AF}(h:RowsI B w G A){nm:ByteArray}{g n c:Nat}(hG:G nm=some (.slice (some ⟨g,0,none⟩) n c)):∃ l,A nm=some l∧l.length=n∧B≤g∧g<w.heap.size∧w.ownsRow B 21 1 (.slice (some ⟨g,0,none⟩) l.length c) l.length (l.map (Value.int .i32)):=by
 have h1:=h nm
 cases hA:A nm with
 | none=>rw[hA] at h1;have h1:G nm=none:=h1;rw[hG] at h1;cases h1
 | some l =>
  rw[hA] at h1
  obtain⟨g',c',h2,h3,h4⟩:=h1
  rw[hG] at h2
  cases h2
  exact⟨l,rfl,rfl,(own_lt h4 rfl).1,(own_lt h4 rfl).2,h4⟩
theorem StAt.sz(h:StAt B K m F inp w s ov):m.sb<w.heap.size∧m.vb<w.heap.size∧m.ab<w.heap.size∧B≤w.heap.size:=by
 obtain⟨k,_,h1,_⟩:=h.cnt
 have:=mem_lt h.box
 have:=h.up.1
 exact⟨mem_lt h.box,h1.lt,h.arrs.lt,by omega⟩
theorem StAt.mono{K':Nat}(h:StAt B K m F inp w s ov)(hK:K≤K'):StAt B K' m F inp w s ov:=
 { h with cnt:=by obtain⟨k,h1,h2⟩:=h.cnt;exact⟨k,by omega,h2⟩ }
theorem StAt.keep(h:StAt B K m F inp w s ov)(hB:Below w.heap.size w w'):StAt B K m F inp w' s ov:=
 { h with
  box:=mem_keep h.box hB
  cnt:=by obtain⟨k,h1,h2,h3⟩:=h.cnt;exact⟨k,h1,h2.below hB,h3⟩
  arrs:=h.arrs.below hB
  rows:=h.rows.move (fun _ g _ _ _ hg=>hB.block g hg)
  out:=own_below h.out hB
  inr:=h.inr.low (hB.mono h.sz.2.2.2) }
theorem StAt.rd(h:StAt B K m F inp w s ov):∃ k,RdAt w m.sb m.vb m.ab k m.na m.G s.V s.A:=by
 obtain⟨k,_,h2,_⟩:=h.cnt
 refine⟨k,mem_cell h.box 0,mem_cell h.box 1,h2,h.arrs,fun nm=>?_,h.fitV,h.fitA⟩
 have h1:=h.rows nm
 cases hA:s.A nm with
 | none=>rw[hA] at h1;exact h1
 | some l =>
  rw[hA] at h1
  obtain⟨g,c,h2,h3,h4⟩:=h1
  refine⟨_,c,h2,h3,fun i hi=>⟨g,0,rfl,?_⟩⟩
  rw[Nat.zero_add]
  exact own_get h4 (by simp[hi])
theorem StAt.turn{K':Nat}{s':St}(h:StAt B K m F inp w s ov)(hb:w'.heap[m.sb]? = some (stObj m.vb m.ab m.ina inp.length m.inc F ov s'.rd s'.st))(ho:∀ k,k≠m.sb→w'.heap[k]? = w.heap[k]?)(hB:Below m.sb w w')
 (hV:s'.V=s.V) (hA:s'.A=s.A) (hO:s'.out=s.out) (hst:s'.st≤F.toNat) (hc:∀ k,k+2*(F.toNat-s.st)≤K→s.rd≤k→s.out.length≤k→∃ k',k≤k'∧k'+2*(F.toNat-s'.st)≤K'∧s'.rd≤k'):StAt B K' m F inp w' s' ov∧FrI B m w w':=by
 have hmv:∀ {t:TypeId} {size n:Nat} {v:Value} {xs:List Value},t≠71→w.ownsRow B t size v n xs→w'.ownsRow B t size v n xs:=fun ht hr =>
  own_keep hr (fun k hk _=>ho k (by rintro rfl;exact own_other hr h.box (fun e=>ht e.symm) hk))
 obtain⟨k,h1,h2,h3,h4⟩:=h.cnt
 obtain⟨k',h5,h6,h7⟩:=hc k h1 h3 h4
 obtain⟨es,ck,hm1⟩:=h2.obj
 obtain⟨es2,ck2,hm2⟩:=h.arrs.obj
 have hv:m.vb≠m.sb:=fun e=>by rw[e,h.box] at hm1;cases hm1
 have ha:m.ab≠m.sb:=fun e=>by rw[e,h.box] at hm2;cases hm2
 have hlow:Below B w w':=hB.mono h.up.1
 refine⟨⟨hb,⟨k',h6,?_,h7,?_⟩,h.arrs.move (ho _ ha),?_,h.apart,?_,h.inr.low hlow,h.inl,?_,?_,h.fitI,hst,h.up⟩,⟨hlow,fun k o hk hs _ _ _=>(ho k hs).trans hk⟩⟩
 ·rw[hV];exact (h2.move (ho _ hv)).mono h5
 ·rw[hO];omega
 ·rw[hA]
  refine h.rows.move (fun nm g n c hG _=>ho g ?_)
  rintro rfl
  obtain⟨l,_,_,_,_,hr⟩:=h.rows.row hG
  exact own_other hr h.box (by decide) rfl
 ·rw[hO];exact hmv (by decide) h.out
 ·rw[hV];exact h.fitV
 ·rw[hA];exact h.fitA
theorem StAt.stepped(h:StAt B K m F inp w s ov)(hlt:(s.st:Int)<F)(hb:w'.heap[m.sb]? = some (stObj m.vb m.ab m.ina inp.length m.inc F ov s.rd (s.st+1)))(ho:∀ k,k≠m.sb→w'.heap[k]? = w.heap[k]?)(hB:Below m.sb w w') :
 StAt B (K-2) m F inp w' { s with st:=s.st+1 } ov∧2≤K∧FrI B m w w':=by
 obtain⟨k,h1,_⟩:=h.cnt
 obtain⟨r1,r2⟩:=h.turn (K':=K-2) (s':={ s with st:=s.st+1 }) hb ho hB rfl rfl rfl (by show s.st+1≤_;omega) (fun k h1 h2 _=>⟨k,Nat.le_refl _,by show k+2*(F.toNat-(s.st+1))≤_;omega,h2⟩)
 exact⟨r1,by omega,r2⟩
theorem upd_fit{α:Type}{p:α→Prop}{f:ByteArray→Option α}{nm:ByteArray}{u:Option α}(h:∀ n v,f n=some v→p v)(hu:∀ v,u=some v→p v):∀ n v,upd f nm u n=some v→p v:=fun n v hn=>by
 by_cases e:n=nm
 ·subst e;rw[upd_same] at hn;exact hu v hn
 ·rw[upd_other _ _ e] at hn;exact h n v hn
theorem intV_upd(V:VF)(nm:ByteArray)(u:Option Int):upd (intV V) nm (u.map (Value.int .i32))=intV (upd V nm u):=by
 funext n
 unfold intV upd
 by_cases e:n=nm
 ·simp[e]
 ·simp[e]
theorem StAt.vturn{K':Nat}{nm:ByteArray}{u:Option Int}(h:StAt B K m F inp w s ov)(hg:w.grownBy w' (some m.vb))(hu:∀ v,u=some v→Wd.W v)
 (hc:∃ k,k+2*(F.toNat-s.st)≤K'∧FMap Tryz.prog StrK w' m.vb k (intV (upd s.V nm u))∧s.rd≤k∧s.out.length≤k):StAt B K' m F inp w' (s.putV nm u) ov∧FrI B m w w':=by
 obtain⟨k,_,h2,_⟩:=h.cnt
 obtain⟨es,ck,hm1⟩:=h2.obj
 have hne:∀ {b:Nat} {arr:Array Value} {t:TypeId},w.heap[b]? = some (.cells arr t)→w'.heap[b]? = w.heap[b]?:=fun {b arr t} hb=>hg.block b (mem_lt hb) (fun e=>by
  have e:b=m.vb:=Option.some.inj e
  rw[e,hm1] at hb;cases hb)
 have hmv:∀ {t:TypeId} {size n:Nat} {v:Value} {xs:List Value},w.ownsRow B t size v n xs→w'.ownsRow B t size v n xs:=fun hr =>
  own_keep hr (fun k hk hl=>by
   rcases hr.2 with⟨rfl,_⟩|⟨g,cap,cur,rfl,_,hc,_⟩
   ·cases hk
   ·have hk:g=k:=Option.some.inj hk
    subst hk
    exact hne hc)
 have hlow:Below B w w':=(Below.refl B w).grown hg h.sz.2.2.2 (fun k hk=>by cases hk;exact h.up.2.1)
 refine⟨⟨(hne h.box).trans h.box,hc,h.arrs.move (hg.block _ h.sz.2.2.1 (fun e=>h.up.2.2.2 (Option.some.inj e))),?_,h.apart,hmv h.out,h.inr.low hlow,h.inl,upd_fit h.fitV hu,h.fitA,h.fitI,h.stF,h.up⟩,⟨hlow,fun k o hk _ hv _ _=>(hg.block k (mem_lt hk) (fun e=>hv (Option.some.inj e))).trans hk⟩⟩
 intro nm'
 have h1:=h.rows nm'
 show match s.A nm' with | none=>m.G nm'=none | some l=>_
 cases hA:s.A nm' with
 | none=>rw[hA] at h1;exact h1
 | some l =>
  rw[hA] at h1
  obtain⟨g,c,h2,h3,h4⟩:=h1
  exact⟨g,c,h2,h3,hmv h4⟩
theorem StAt.store{nm:ByteArray}{v:Int}(h:StAt B K m F inp w s ov)(hnm:nm.size≤maxLen)(hv:Wd.W v)(hK:K≤100000000) :
 ∃ w',(Instr.mapUpdate 68 (.map (some m.vb)) (.string nm) (.int .i32 v)).run Tryz.prog w = .ok () w'∧StAt B (K+1) m F inp w' (s.putV nm (some v)) ov∧FrI B m w w':=by
 obtain⟨k,h1,h2,h3,h4⟩:=h.cnt
 obtain⟨w',r1,r2,r3⟩:=h2.store (t:=68) strK Tryz.underlying68 hnm (by unfold maxLen;omega) (.int .i32 v)
 refine⟨w',r1,h.vturn r3 (fun x hx=>by cases hx;exact hv) ⟨k+1,by omega,?_,by omega,by omega⟩⟩
 rw[←intV_upd]
 exact r2
theorem StAt.drop{nm:ByteArray}(h:StAt B K m F inp w s ov)(hnm:nm.size≤maxLen)(ty:TypeId) :
 ∃ w',(Builtin.delete_ #[68,9] ty #[.map (some m.vb),.string nm]).run Tryz.prog w = .ok (.tuple #[]) w'∧StAt B K m F inp w' (s.putV nm none) ov∧FrI B m w w':=by
 obtain⟨k,h1,h2,h3,h4⟩:=h.cnt
 obtain⟨w',r1,r2,r3⟩:=h2.drop (t:=68) strK Tryz.underlying68 hnm ty
 refine⟨w',r1,h.vturn r3 (fun x hx=>by cases hx) ⟨k,h1,?_,h3,h4⟩⟩
 rw[←intV_upd]
 exact r2
theorem in_row_free{e:TypeId}{size n g c:Nat}{xs:List Value}(h:w.ownsRow B e size (.slice (some ⟨g,0,none⟩) n c) n xs)(j:Nat):w.frozen? ⟨g,j,none⟩=false:=by
 rcases h.2 with⟨h1,_⟩|⟨g',cap,cur,h1,_,hc,_⟩
 ·cases h1
 ·cases h1;exact mem_free hc j
theorem row_obj{e:TypeId}{size n g c:Nat}{xs:List Value}(h:w.ownsRow B e size (.slice (some ⟨g,0,none⟩) n c) n xs):∃ cur,w.heap[g]? = some (.cells cur e):=by
 rcases h.2 with⟨h1,_⟩|⟨g',cap,cur,h1,_,hc,_⟩
 ·cases h1
 ·cases h1;exact⟨cur,hc⟩
theorem StAt.put{nm:ByteArray}{l:List Int}{g c i:Nat}{v:Int}(h:StAt B K m F inp w s ov)(hA:s.A nm=some l)(hG:m.G nm=some (.slice (some ⟨g,0,none⟩) l.length c))(hi:i<l.length)(hv:Wd.W v) :
 StAt B K m F inp (w.setCell ⟨g,i,none⟩ (.int .i32 v)) { s with A:=upd s.A nm (some (l.set i v)) } ov∧FrI B m w (w.setCell ⟨g,i,none⟩ (.int .i32 v)):=by
 obtain⟨l',hl',hlen,hgB,hgl,hrow⟩:=h.rows.row hG
 rw[hA] at hl'
 cases hl'
 obtain⟨cur,hcur⟩:=row_obj hrow
 have hfar:∀ k,k≠g→(w.setCell ⟨g,i,none⟩ (.int .i32 v)).heap[k]? = w.heap[k]?:=fun k hk=>Below.heap_setCell _ _ _ _ hk
 have hlow:Below B w (w.setCell ⟨g,i,none⟩ (.int .i32 v)):=(Below.refl _ _).setCell (p:=⟨g,i,none⟩) hgB _
 obtain⟨k,h1,h2,h3⟩:=h.cnt
 obtain⟨es,ck,hm1⟩:=h2.obj
 obtain⟨es2,ck2,hm2⟩:=h.arrs.obj
 have hvg:m.vb≠g:=fun e=>by rw[e,hcur] at hm1;cases hm1
 have hag:m.ab≠g:=fun e=>by rw[e,hcur] at hm2;cases hm2
 have hsg:m.sb≠g:=fun e=>by have:=h.box;rw[e,hcur] at this;cases this
 refine⟨⟨(hfar _ hsg).trans h.box,⟨k,h1,h2.move (hfar _ hvg),h3⟩,h.arrs.move (hfar _ hag),?_,h.apart,own_keep h.out (fun k hk _=>hfar k ?_),h.inr.low hlow,h.inl,h.fitV,?_,h.fitI,h.stF,h.up⟩,⟨hlow,fun k o hk _ _ hn _=>(hfar k (hn _ _ _ _ hG)).trans hk⟩⟩
 ·intro nm'
  show match upd s.A nm (some (l.set i v)) nm' with | none=>m.G nm'=none | some l=>_
  by_cases e:nm'=nm
  ·subst e
   rw[upd_same]
   have hr:=ownsRow_set (u:=.int .i32 v) hrow (show i<l.length*1 by omega)
   rw[←List.map_set] at hr
   refine⟨g,c,by rw[List.length_set];exact hG,by rw[List.length_set];have:=h.rows.lt hA;obtain⟨_,_,_,_,_,h9,_⟩:=this;exact h9,?_⟩
   rw[List.length_set]
   have h9:=h.rows nm'
   rw[hA] at h9
   obtain⟨g9,c9,e9,_,_⟩:=h9
   rw[hG] at e9
   cases e9
   exact hr
  ·rw[upd_other _ _ e]
   have h9:=h.rows nm'
   cases hA':s.A nm' with
   | none=>rw[hA'] at h9;exact h9
   | some l' =>
    rw[hA'] at h9
    obtain⟨g',c',e1,e2,e3⟩:=h9
    refine⟨g',c',e1,e2,own_keep e3 (fun k hk _=>hfar k ?_)⟩
    have hk:g'=k:=Option.some.inj hk
    subst hk
    rintro rfl
    exact e (h.apart _ _ _ _ _ _ _ e1 hG)
 ·rintro rfl
  exact own_other h.out hcur (by decide) hk
 ·refine upd_fit (p:=fun l=>∀ x∈l,Wd.W x) h.fitA (fun l2 hl2=>?_)
  cases hl2
  intro x hx
  rcases List.mem_or_eq_of_mem_set hx with hx|hx
  ·exact h.fitA nm l hA x hx
  ·rw[hx];exact hv
end
set_option maxHeartbeats 40000000
theorem next_any(B K:Nat)(m:IM)(F:Int)(inp:List Int)(w:World)(s:St)(ov:Value)(h:StAt B K m F inp w s ov)(hK:K≤100000000) :
 Calls Tryz.prog 75 #[.pointer (some ⟨m.sb,0,none⟩)] w fun e w'=>e = .returned (.int .i32 (nxt inp s))∧StAt B (K+1) m F inp w' s.next ov∧FrI B m w w':=by
 have H:=ξ h
 have c2:=mem_cell h.box 2
 have c5:=mem_cell h.box 5
 simp only[List.getElem?_toArray,List.getElem?_cons_zero,List.getElem?_cons_succ] at c2 c5
 have hil:=h.inl
 obtain⟨k,hk1,_,hk2,_⟩:=h.cnt
 have hrd:s.rd≤100000000:=by omega
 have hrd2:(s.rd:Int)≤100000000:=by omega
 have hrd0:(0:Int)≤(s.rd:Int):=by omega
 have HEND:Hid (∀ wq:World,Below w.heap.size w wq→(wq.setCell ⟨m.sb,5,none⟩ (.int .i64 ((s.rd+1:Nat):Int))).heap[m.sb]? = some (stObj m.vb m.ab m.ina inp.length m.inc F ov (s.rd+1) s.st)∧StAt B (K+1) m F inp (wq.setCell ⟨m.sb,5,none⟩ (.int .i64 ((s.rd+1:Nat):Int))) s.next ov∧FrI B m w (wq.setCell ⟨m.sb,5,none⟩ (.int .i64 ((s.rd+1:Nat):Int)))):=fun wq hq=>by
  have h1:=H.out.keep hq
  have hb:(wq.setCell ⟨m.sb,5,none⟩ (.int .i64 ((s.rd+1:Nat):Int))).heap[m.sb]? = some (stObj m.vb m.ab m.ina inp.length m.inc F ov (s.rd+1) s.st):=by rw[mem_set h1.box];rfl
  obtain⟨r1,r2⟩:=h1.turn (K':=K+1) (s':=s.next) hb (fun k hk=>Below.heap_setCell _ _ _ _ hk) ((Below.refl _ _).setCell (p:=⟨m.sb,5,none⟩) (Nat.le_refl _) _) rfl rfl rfl h1.stF (fun k h1 h2 _=>⟨k+1,by omega,by show k+1+2*(F.toNat-s.st)≤_;omega,by show s.rd+1≤_;omega⟩)
  exact⟨hb,r1,(FrI.of hq H.out.sz.2.2.2).trans r2⟩
 have HIN:=ξ h.inr
 have hsb:=h.sz.1
 clear h hk1 hk2
 by_cases hlt:s.rd<inp.length
 ·have hlt2:(s.rd:Int)<(inp.length:Int):=by omega
  have hd:decide ((s.rd:Int)<(inp.length:Int))=true:=by simpa using hlt
  have hd2:decide (s.rd<inp.length)=true:=by simpa using hlt
  obtain⟨b,o,hia,_,hc⟩:=HIN.out s.rd hlt
  rw[hia] at c2
  obtain⟨x,hx⟩:∃ x,inp.getD s.rd 0=x:=⟨_,rfl⟩
  rw[hx] at hc
  have HC:=ξ hc
  have hbl:=World.block_lt_of_cell? _ _ hc
  have HX:Hid (nxt inp s=x):=hx
  clear hc hia hx
  go_enter Tryz.func75,Tryz.ntmps75
  go_wp2_with fail
  go_quiet (fail)
  generalize hwq:World.drewN w _=wq
  have HQ:Hid (Below w.heap.size w wq):=mem_drawn (Below.refl _ _) hwq
  have c2:=cell_keep c2 HQ.out
  have c5:=cell_keep c5 HQ.out
  have z0:=cell_keep HC.out HQ.out
  clear hwq
  go_wp2_with fail
  go_quiet (fail)
  generalize hwq:World.drewN wq _=wr
  have HR:Hid (Below w.heap.size w wr):=mem_then HQ.out (mem_drawn (Below.refl _ _) hwq)
  have hb5:=(H.out.keep HR.out).box
  have c5:=mem_cell hb5 5
  have f5:=mem_free hb5 5
  simp only[List.getElem?_toArray,List.getElem?_cons_zero,List.getElem?_cons_succ] at c5
  clear hwq c2 z0 hb5
  go_wp2_with fail
  go_ret
  exact⟨by rw[HX.out];rfl,(HEND.out wr HR.out).2⟩
 ·have hlt2:¬ (s.rd:Int)<(inp.length:Int):=by omega
  have hd:decide ((s.rd:Int)<(inp.length:Int))=false:=by simpa using hlt
  have hd2:decide (s.rd<inp.length)=false:=by simpa using hlt
  have HX:Hid (nxt inp s=0):=by show inp.getD s.rd 0=0;rw[List.getD_eq_getElem?_getD,List.getElem?_eq_none (by omega)];rfl
  go_enter Tryz.func75,Tryz.ntmps75
  go_wp2_with fail
  go_quiet (fail)
  generalize hwq:World.drewN w _=wr
  have HR:Hid (Below w.heap.size w wr):=mem_drawn (Below.refl _ _) hwq
  have hb5:=(H.out.keep HR.out).box
  have c5:=mem_cell hb5 5
  have f5:=mem_free hb5 5
  simp only[List.getElem?_toArray,List.getElem?_cons_zero,List.getElem?_cons_succ] at c5
  clear hwq c2 hb5
  go_wp2_with fail
  go_ret
  exact⟨by rw[HX.out];rfl,(HEND.out wr HR.out).2⟩
def SrE(r:SR)(e:Ending):Prop:=if r.2=0 then e = .returned (.tuple #[]) else e = .panicked (failC r.2)
def SrQ(B K:Nat)(m:IM)(F:Int)(inp:List Int)(w:World)(r:SR)(e:Ending)(w':World):Prop:=SrE r e∧∃ ov,StAt B K m F inp w' r.1 ov∧FrI B m w w'
theorem srE_ok{s:St}:SrE (s,0) (.returned (.tuple #[])):=by unfold SrE;rw[if_pos rfl]
theorem srE_er{s:St}{k:Int}(hk:k≠0):SrE (s,k) (.panicked (failC k)):=by unfold SrE;rw[if_neg hk]
theorem ev_er(V:VF)(A:AF):∀ (t:Tree) (k:Int),t.ev V A = .er k→k≠0:=by
 intro t
 induction t using Tree.ind with
 | h t ih =>
  intro k h
  rw[Tree.ev_eq] at h
  have h0:∀ k,(if 0<t.len then (t.kid 0).ev V A else .ok 0) = .er k→k≠0:=fun k hk=>by
   by_cases hl:0<t.len
   ·rw[if_pos hl] at hk;exact ih 0 hl k hk
   ·rw[if_neg hl] at hk;cases hk
  have h1:∀ k,(if 1<t.len then (t.kid 1).ev V A else .ok 0) = .er k→k≠0:=fun k hk=>by
   by_cases hl:1<t.len
   ·rw[if_pos hl] at hk;exact ih 1 hl k hk
   ·rw[if_neg hl] at hk;cases hk
  generalize (if 0<t.len then (t.kid 0).ev V A else EV.ok 0)=e0 at h h0
  generalize (if 1<t.len then (t.kid 1).ev V A else EV.ok 0)=e1 at h h1
  unfold evB at h
  by_cases k1:t.kind=1
  ·rw[if_pos k1] at h;cases h
  rw[if_neg k1] at h
  by_cases k2:t.kind=2
  ·rw[if_pos k2] at h
   cases hV:V t.name with
   | none=>rw[hV] at h;cases h;decide
   | some v=>rw[hV] at h;cases h
  rw[if_neg k2] at h
  by_cases k3:t.kind=3
  ·rw[if_pos k3] at h
   cases hA:A t.name with
   | none=>rw[hA] at h;cases h;decide
   | some l =>
    rw[hA] at h
    cases e0 with
    | er j=>cases h;exact h0 _ rfl
    | ok i =>
     have h:elemV l i = .er k:=h
     unfold elemV at h
     split at h
     ·cases h
     ·cases h;decide
  rw[if_neg k3] at h
  by_cases k4:t.kind=4∨t.kind=5
  ·rw[if_pos k4] at h
   cases e0 with
   | er j=>cases h;exact h0 _ rfl
   | ok i=>cases h
  rw[if_neg k4] at h
  cases e0 with
  | er j=>cases h;exact h0 _ rfl
  | ok x =>
   cases e1 with
   | er j=>cases h;exact h1 _ rfl
   | ok y =>
    have h:(if Wd.err t.kind y=0 then EV.ok (Wd.apply t.kind x y) else .er (Wd.err t.kind y)) = .er k:=h
    split at h
    ·cases h
    ·rename_i hne;cases h;exact hne
def asgR(t:Tree)(s:St):SR:=
 if (t.kid 0).kind=2 then runE ((t.kid 1).ev s.V s.A) s fun v=>(s.putV (t.kid 0).name (some v),0)
 else runE (((t.kid 0).kid 0).ev s.V s.A) s fun i=>runE ((t.kid 1).ev s.V s.A) s fun v=>s.putA (t.kid 0).name i v
structure AsS(B:Nat)(m:IM)(W:World)(b1 b2:Nat)(o1 o2:Obj)(w':World):Prop where
 low:Below B W w'
 x1:w'.heap[b1]? = some o1
 x2:w'.heap[b2]? = some o2
 c0:w'.cell? ⟨m.sb,0,none⟩=some (.map (some m.vb))
theorem row_no{B K:Nat}{m:IM}{F:Int}{inp:List Int}{w:World}{s:St}{ov:Value}(h:StAt B K m F inp w s ov){k:Nat}(hk:w.heap.size≤k):k≠m.sb∧k≠m.vb∧NoRow m.G k:=by
 have hz:=h.sz
 refine⟨by omega,by omega,fun nm g n c hG=>?_⟩
 obtain⟨_,_,_,_,hl,_⟩:=h.rows.row hG
 omega
theorem in_assign_any(B K:Nat)(m:IM)(F:Int)(inp:List Int)(t:Tree)(w:World)(s:St)(ov:Value)(a:Option Addr)(c:Nat)(hv:t.vld 115=true)(h40:t.kind=40)(hr:InB B w t a)(h:StAt B K m F inp w s ov)(hKK:K≤100000000) :
 Calls Tryz.prog 53 #[.pointer (some ⟨m.sb,0,none⟩),t.val a c] w (SrQ B (K+1) m F inp w (asgR t s)):=by
 obtain⟨_,_,hlen,hkv⟩:=vldS hv
 rw[h40] at hlen hkv
 replace hlen:t.len=2:=hlen
 have hl0:0<t.len:=by omega
 have hl1:1<t.len:=by omega
 have hl0i:(0:Int)<(t.len:Int):=by omega
 have hl1i:(1:Int)<(t.len:Int):=by omega
 have hp:(t.kid 0).vld 112=true:=hkv 0 hl0
 have hx:(t.kid 1).vld 101=true:=hkv 1 hl1
 obtain⟨kb,ko,rfl,hkb,pa,pc,hnp,hrp⟩:=kid_in hr hl0
 obtain⟨kb',ko',hsame,_,xa,xc,hnx,hrx⟩:=kid_in hr hl1
 cases hsame
 rw[Nat.zero_mul,Nat.add_zero] at hnp
 rw[Nat.one_mul] at hnx
 obtain⟨p,hpe⟩:∃ p,t.kid 0=p:=⟨_,rfl⟩
 obtain⟨x,hxe⟩:∃ x,t.kid 1=x:=⟨_,rfl⟩
 have HR:Hid (asgR t s=if p.kind=2 then runE (x.ev s.V s.A) s fun v=>(s.putV p.name (some v),0) else runE ((p.kid 0).ev s.V s.A) s fun i=>runE (x.ev s.V s.A) s fun v=>s.putA p.name i v):=by
  show _=_;rw[←hpe,←hxe];rfl
 rw[hpe] at hp hnp hrp
 rw[hxe] at hx hnx hrx
 have hpf:=hrp.fits
 have hps:=hrp.fits.name
 have hpl:=hrp.fits.len
 obtain⟨W,hW⟩:∃ W:World,w.alloc (ndObj t (some ⟨kb,ko,none⟩) c)=W:=⟨_,rfl⟩
 have hBW:Below w.heap.size w W:=by rw[←hW];exact mem_alloc _ _
 have hXW:W.heap[w.heap.size]? = some (ndObj t (some ⟨kb,ko,none⟩) c):=by rw[←hW];exact mem_new _ _
 obtain⟨W2,hW2⟩:∃ W2:World,W.alloc (ndObj p pa pc)=W2:=⟨_,rfl⟩
 have hBW2:Below W.heap.size W W2:=by rw[←hW2];exact mem_alloc _ _
 have hXW2:W2.heap[W.heap.size]? = some (ndObj p pa pc):=by rw[←hW2];exact mem_new _ _
 have HB2:Hid (Below w.heap.size w W2):=mem_then hBW hBW2
 have HS:=ξ h
 have HSZ:=ξ h.sz
 have HK:Hid (∀ w',Below W2.heap.size W2 w'→w'.heap[w.heap.size]? = some (ndObj t (some ⟨kb,ko,none⟩) c)∧w'.heap[W.heap.size]? = some (ndObj p pa pc)∧StAt B K m F inp w' s ov∧NodeAt w' kb (ko+4) x xa xc∧InB B w' x xa∧InB B w' p pa∧Below w.heap.size w w'):=fun w' hw=>by
  have hb:=mem_then HB2.out hw
  exact⟨mem_keep (mem_keep hXW hBW2) hw,mem_keep hXW2 hw,HS.out.keep hb,hnx.below hb hnx.lt,hrx.low (hb.mono HSZ.out.2.2.2),hrp.low (hb.mono HSZ.out.2.2.2),hb⟩
 have HNX:Hid (∀ w',Below B W2 w'→NodeAt w' kb (ko+4) x xa xc):=fun w' hw=>(hnx.below HB2.out hnx.lt).below hw hkb
 have HS0:Hid (∀ w',Below W2.heap.size W2 w'→AsS B m W2 w.heap.size W.heap.size (ndObj t (some ⟨kb,ko,none⟩) c) (ndObj p pa pc) w'):=fun w' hw=>by
  have hk:=HK.out w' hw
  exact⟨hw.mono (Nat.le_trans HSZ.out.2.2.2 HB2.out.size),hk.1,hk.2.1,mem_cell hk.2.2.1.box 0⟩
 have hWge:w.heap.size≤W.heap.size:=hBW.size
 have HS1:Hid (∀ v w' K' s',Below W2.heap.size W2 v→FrI B m v w'→StAt B K' m F inp w' s' ov→AsS B m W2 w.heap.size W.heap.size (ndObj t (some ⟨kb,ko,none⟩) c) (ndObj p pa pc) w'):=fun v w' K' s' hv hf hs=>by
  have hk:=HK.out v hv
  obtain⟨n1,n2,n3⟩:=row_no HS.out (Nat.le_refl _)
  obtain⟨n4,n5,n6⟩:=row_no HS.out hWge
  exact⟨(hv.mono (Nat.le_trans HSZ.out.2.2.2 HB2.out.size)).trans hf.low,hf.still _ _ hk.1 n1 n2 n3 (by show 47≠64;decide),hf.still _ _ hk.2.1 n4 n5 n6 (by show 47≠64;decide),mem_cell hs.box 0⟩
 have hsb:m.sb<W2.heap.size:=Nat.lt_of_lt_of_le h.sz.1 HB2.out.size
 obtain⟨_,_,_,t3⟩:=nd_cells hXW
 obtain⟨p0,p1,p2,p3⟩:=nd_cells hXW2
 have hnpW:=hnp.below hBW hnp.lt
 have n0:=hnpW.kind
 have n1:=hnpW.num
 have n2:=hnpW.name
 have n3:=hnpW.kids
 have HXV:=ξ hx
 have HPV:=ξ hp
 clear hv h40 hr h hlen hkv hp hx hnp hrp hnx hrx hpe hxe hpf hBW hXW hBW2 hXW2 hnpW
 by_cases hpk:p.kind=2
 ·have hpb:(p.kind == 2)=true:=by simp[hpk]
  have HE:Hid (asgR t s=runE (x.ev s.V s.A) s fun v=>(s.putV p.name (some v),0)):=by show _=_;rw[HR.out,if_pos hpk]
  clear hpk
  go_enter Tryz.func53,Tryz.ntmps53
  go_wp2_with fail
  clear hW hW2 t3 p0 p1 p2 p3 n0 n1 n2 n3
  have hD0:Below W2.heap.size W2 (World.drew W2):=(Below.refl _ _).drew
  refine wp_region_held_drew (S:=AsS B m W2 w.heap.size W.heap.size (ndObj t (some ⟨kb,ko,none⟩) c) (ndObj p pa pc)) (by kernel_rfl) (HS0.out _ hD0) (fun hHeld=>?_)
  generalize hwd:World.drew W2=v1 at hHeld hD0⊢
  clear hwd
  refine hT 0 (.pointer (some ⟨m.sb,0,none⟩)) rfl (hy:=?_) (h:=?_)
  ·intro w' hSw;go_simp
  (try simp only[Act.put,pZ])
  refine hT 1 (.pointer (some ⟨m.sb,0,none⟩)) rfl (hy:=?_) (h:=?_)
  ·intro w' hSw;go_simp
  (try simp only[Act.put,pZ])
  refine hT 2 (.pointer (some ⟨m.sb,0,none⟩)) rfl (hy:=?_) (h:=?_)
  ·intro w' hSw;go_simp
  (try simp only[Act.put,pZ])
  refine hT 3 (.map (some m.vb)) rfl (hy:=?_) (h:=?_)
  ·intro w' hSw;have z0:=hSw.c0;go_simp
  (try simp only[Act.put,pZ])
  refine hT 4 (.pointer (some ⟨W.heap.size,2,none⟩)) rfl (hy:=?_) (h:=?_)
  ·intro w' hSw;go_simp
  (try simp only[Act.put,pZ])
  refine hT 5 (.string p.name) rfl (hy:=?_) (h:=?_)
  ·intro w' hSw;obtain⟨_,_,z0,_⟩:=nd_cells hSw.x2;go_simp
  (try simp only[Act.put,pZ])
  refine hT 6 (.pointer (some ⟨m.sb,0,none⟩)) rfl (hy:=?_) (h:=?_)
  ·intro w' hSw;go_simp
  (try simp only[Act.put,pZ])
  refine hT 7 (.pointer (some ⟨w.heap.size,3,none⟩)) rfl (hy:=?_) (h:=?_)
  ·intro w' hSw;go_simp
  (try simp only[Act.put,pZ])
  refine hT 8 (.slice (some ⟨kb,ko,none⟩) t.len c) rfl (hy:=?_) (h:=?_)
  ·intro w' hSw;obtain⟨_,_,_,z0⟩:=nd_cells hSw.x1;go_simp
  (try simp only[Act.put,pZ])
  refine hT 9 (.pointer (some ⟨kb,ko+4,none⟩)) rfl (hy:=?_) (h:=?_)
  ·intro w' hSw;go_simp
  (try simp only[Act.put,pZ])
  refine hT 10 (x.val xa xc) rfl (hy:=?_) (h:=?_)
  ·intro w' hSw;have zn:=HNX.out _ hSw.low;have z0:=zn.kind;have z1:=zn.num;have z2:=zn.name;have z3:=zn.kids;go_simp
  (try simp only[Act.put,pZ])
  obtain⟨k,hrd⟩:=(HK.out v1 hD0).2.2.1.rd
  have h9:=expr_any m.sb m.vb m.ab k m.na m.G s.V s.A x HXV.out v1 xa xc (HK.out v1 hD0).2.2.2.2.1.rep hrd
  have H9:=ξ h9
  have HB1:=ξ hD0
  clear h9 hrd hD0
  refine hR 11 rfl (fun K hK=>?_)
  go_simp
  refine H9.out.mono ?_
  rintro e w2 ⟨he,hB2⟩
  have HBB:=ξ (mem_then HB1.out hB2)
  clear hB2 H9
  cases hv0:x.ev s.V s.A with
  | er k =>
   rw[hv0] at he
   have he:e = .panicked (failC k):=he
   subst he
   exact panic_end rfl ⟨by rw[HE.out,hv0];exact srE_er (ev_er _ _ _ _ hv0),ov,by rw[HE.out,hv0];exact (HK.out _ HBB.out).2.2.1.mono (Nat.le_succ _),FrI.of (HK.out _ HBB.out).2.2.2.2.2.2 HSZ.out.2.2.2⟩
  | ok v =>
   rw[hv0] at he
   obtain⟨rfl,hWv⟩:=he
   have HE2:Hid (asgR t s=(s.putV p.name (some v),0)):=by show _=_;rw[HE.out,hv0];rfl
   obtain⟨w3,hrun,hst,hfr⟩:=(HK.out _ HBB.out).2.2.1.store hps hWv hKK
   have HST:=ξ hst
   have HFR:Hid (FrI B m w w3):=(FrI.of (HK.out _ HBB.out).2.2.2.2.2.2 HSZ.out.2.2.2).trans hfr
   have HRUN:=ξ hrun
   clear hv0 hWv hrun
   refine hK.out _ _ (HS0.out _ HBB.out) (fun hHeld=>?_)
   clear hK K
   rename_i hOld
   clear hOld
   (try simp only[Act.put,pZ])
   have HS3:=ξ (HS1.out _ _ _ _ HBB.out hfr hst)
   clear hst hfr
   have hrun:=HRUN.out
   refine hR 12 rfl (fun K hK=>?_)
   go_simp
   refine hK.out _ _ (HS3.out) (fun hHeld=>?_)
   clear hK K
   rename_i hOld
   clear hOld
   (try simp only[Act.put,pZ])
   clear hrun
   refine wpAnyH_done (by kernel_rfl) ?_ _
   go_wp2_with fail
   go_end0
   exact⟨by rw[HE2.out];exact srE_ok,ov,by rw[HE2.out];exact HST.out,HFR.out⟩
 ·have hpb:(p.kind == 2)=false:=by simp[hpk]
  obtain⟨hpl1,hpx⟩:p.len=1∧(p.kid 0).vld 101=true:=by
   rcases vldP HPV.out with h|h
   ·exact absurd h hpk
   ·exact h.2
  have hpl0:0<p.len:=by omega
  have hpl0i:(0:Int)<(p.len:Int):=by omega
  obtain⟨y,hye⟩:∃ y,p.kid 0=y:=⟨_,rfl⟩
  have HE:Hid (asgR t s=runE (y.ev s.V s.A) s fun i=>runE (x.ev s.V s.A) s fun v=>s.putA p.name i v):=by show _=_;rw[HR.out,if_neg hpk,hye]
  obtain⟨qb,qo,rfl,hqb,ya,yc,hny,hry⟩:=kid_in (HK.out W2 (Below.refl _ _)).2.2.2.2.2.1 hpl0
  rw[Nat.zero_mul,Nat.add_zero,hye] at hny
  rw[hye] at hry hpx
  have HNY:=ξ hny
  have HRY:=ξ hry
  have HYV:=ξ hpx
  have m0:=hny.kind
  have m1:=hny.num
  have m2:=hny.name
  have m3:=hny.kids
  obtain⟨k,hrd⟩:=(HK.out W2 (Below.refl _ _)).2.2.1.rd
  have h9:=expr_any m.sb m.vb m.ab k m.na m.G s.V s.A y hpx W2 ya yc hry.rep hrd
  have H9:=ξ h9
  clear hpk hpl1 hpx hye hny hry h9 hrd
  go_enter Tryz.func53,Tryz.ntmps53
  go_wp2_with fail
  clear hW hW2 t3 p0 p1 p2 p3 n0 n1 n2 n3 m0 m1 m2 m3
  refine H9.out.mono ?_
  rintro e w2 ⟨he,hB2⟩
  have HB2':=ξ hB2
  clear hB2 H9
  cases hv0:y.ev s.V s.A with
  | er k =>
   rw[hv0] at he
   have he:e = .panicked (failC k):=he
   subst he
   exact panic_end rfl ⟨by rw[HE.out,hv0];exact srE_er (ev_er _ _ _ _ hv0),ov,by rw[HE.out,hv0];exact (HK.out _ HB2'.out).2.2.1.mono (Nat.le_succ _),FrI.of (HK.out _ HB2'.out).2.2.2.2.2.2 HSZ.out.2.2.2⟩
  | ok i =>
   rw[hv0] at he
   obtain⟨rfl,hWi⟩:=he
   have HV0:=ξ hv0
   have hWi2 : -2147483648≤i∧i≤2147483647:=hWi
   obtain⟨k,hrd⟩:=(HK.out w2 HB2'.out).2.2.1.rd
   have h9:=expr_any m.sb m.vb m.ab k m.na m.G s.V s.A x HXV.out w2 xa xc (HK.out w2 HB2'.out).2.2.2.2.1.rep hrd
   have H9:=ξ h9
   have hnx:=(HK.out w2 HB2'.out).2.2.2.1
   have m0:=hnx.kind
   have m1:=hnx.num
   have m2:=hnx.name
   have m3:=hnx.kids
   obtain⟨_,_,_,t3⟩:=nd_cells (HK.out w2 HB2'.out).1
   clear hv0 hWi h9 hrd hnx
   go_wp2_with fail
   clear t3 m0 m1 m2 m3
   refine H9.out.mono ?_
   rintro e w3 ⟨he,hB3⟩
   have HB3:=ξ (mem_then HB2'.out hB3)
   clear hB3 H9
   cases hv1:x.ev s.V s.A with
   | er k =>
    rw[hv1] at he
    have he:e = .panicked (failC k):=he
    subst he
    exact panic_end rfl ⟨by rw[HE.out,HV0.out,hv1];exact srE_er (ev_er _ _ _ _ hv1),ov,by rw[HE.out,HV0.out,hv1];exact (HK.out _ HB3.out).2.2.1.mono (Nat.le_succ _),FrI.of (HK.out _ HB3.out).2.2.2.2.2.2 HSZ.out.2.2.2⟩
   | ok v =>
    rw[hv1] at he
    obtain⟨rfl,hWv⟩:=he
    have HE2:Hid (asgR t s=s.putA p.name i v):=by show _=_;rw[HE.out,HV0.out,hv1];rfl
    have HWV:=ξ hWv
    obtain⟨_,_,p2,_⟩:=nd_cells (HK.out w3 HB3.out).2.1
    have hst:=(HK.out w3 HB3.out).2.2.1
    have c1:=mem_cell hst.box 1
    simp only[List.getElem?_toArray,List.getElem?_cons_zero,List.getElem?_cons_succ] at c1
    have HST:=ξ hst
    have HARR:=ξ hst.arrs
    have HBB:=ξ (HK.out _ HB3.out).2.2.2.2.2.2
    by_cases hin:∃ l,s.A p.name=some l∧0≤i∧i<(l.length:Int)
    ·obtain⟨l,hA,hi0,hil⟩:=hin
     obtain⟨g,rc,hG,_,hgl,hll,hrow⟩:=hst.rows.lt hA
     have HG:Hid ((m.G p.name).getD (.slice none 0 0) = .slice (some ⟨g,0,none⟩) l.length rc):=by show _=_;rw[hG];rfl
     have hin2:i.toNat<l.length:=by omega
     have HP:=ξ (hst.put hA hG hin2 hWv)
     have HE3:Hid (asgR t s=({ s with A:=upd s.A p.name (some (l.set i.toNat v)) },0)):=by
      show _=_;rw[HE2.out];unfold St.putA;rw[hA];show (if _ then _ else _)=_;rw[if_pos ⟨hi0,hil⟩]
     have hcell:∃ u,w3.cell? ⟨g,i.toNat,none⟩=some u:=⟨_,own_get hrow (by rw[List.getElem?_map,List.getElem?_eq_getElem hin2];rfl)⟩
     obtain⟨u,hcell⟩:=hcell
     have hfz:=in_row_free hrow i.toNat
     have h9:=element_ok p.name i w3 m.sb m.ab m.na l.length rc g 0 m.G c1 HARR.out HG.out hps hi0 hil hll
     have H9:=ξ h9
     have HC:=ξ hcell
     have HF:=ξ hfz
     clear hv1 hWv hst hA hi0 hil hG hrow hcell hfz h9 c1 hin2
     go_wp2_with fail
     clear p2
     refine H9.out.mono ?_
     rintro e w' ⟨rfl,rfl⟩
     have hcell:=HC.out
     have hfz:=HF.out
     rw[Nat.zero_add]
     clear H9
     go_wp2_with fail
     go_end0
     exact⟨by rw[HE3.out];exact srE_ok,ov,by rw[HE3.out];exact HP.out.1.mono (Nat.le_succ _),(FrI.of HBB.out HSZ.out.2.2.2).trans HP.out.2⟩
    ·have HE3:Hid (asgR t s=(s,11)):=by
      show _=_;rw[HE2.out];unfold St.putA
      cases hA:s.A p.name with
      | none=>rfl
      | some l=>show (if _ then _ else _)=_;rw[if_neg (fun h=>hin ⟨l,hA,h⟩)]
     obtain⟨ga,gn,gc,hG,hgi,hgn⟩:∃ ga gn gc,(m.G p.name).getD (.slice none 0 0) = .slice ga gn gc∧(i<0∨(gn:Int)≤i)∧gn≤1000000:=by
      cases hA:s.A p.name with
      | none =>
       have h1:=hst.rows p.name
       rw[hA] at h1
       have h1:m.G p.name=none:=h1
       exact⟨none,0,0,by rw[h1];rfl,by omega,by omega⟩
      | some l =>
       obtain⟨g,rc,hG,_,hgl,hll,hrow⟩:=hst.rows.lt hA
       refine⟨_,l.length,rc,by rw[hG];rfl,?_,hll⟩
       have:¬ (0≤i∧i<(l.length:Int)):=fun h=>hin ⟨l,hA,h⟩
       omega
     have h9:=element_er p.name i w3 m.sb m.ab m.na gn gc ga m.G c1 HARR.out hG hps hgi hWi2 hgn
     have H9:=ξ h9
     clear hv1 hWv hst hin hG hgi h9 c1
     go_wp2_with fail
     refine H9.out.mono ?_
     rintro e w' ⟨rfl,rfl⟩
     exact panic_end rfl ⟨by rw[HE3.out];exact srE_er (by decide),ov,by rw[HE3.out];exact HST.out.mono (Nat.le_succ _),FrI.of HBB.out HSZ.out.2.2.2⟩
