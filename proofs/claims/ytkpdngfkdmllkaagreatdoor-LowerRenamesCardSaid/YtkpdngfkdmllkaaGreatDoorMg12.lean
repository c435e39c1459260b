/- Part. -/
import Derived.Test.YtkpdngfkdmllkaaGreatDoorProg
import Derived.WalkKit
import Derived.Outline
import Derived.Lib.Hide
import Derived.WalkLawsBesides
import Derived.Deep.QuietTactic
import Derived.BigQuiet
import Derived.Test.YtkpdngfkdmllkaaGreatDoorMg3
namespace Go.Proofs.YtkpdngfkdmllkaaGreatDoor
set_option linter.unusedVariables false
set_option linter.unusedSimpArgs false
open Go.RowKit
set_option maxRecDepth 100000
theorem ret2_int{k j:IntKind}{a b c d:Int}(h:a=c)(g:b=d):Ending.returned (.tuple #[.int k a,.int j b]) = .returned (.tuple #[.int k c,.int j d]):=by rw[h,g]
theorem truth_any(b:Bool)(w:World):Calls Tryz.prog 76 #[.bool b] w fun e w'=>e = .returned (.int .i32 (Wd.tr b))∧w=w':=by
 cases b
 all_goals
  go_enter Tryz.func76,Tryz.ntmps76
  go_wp2
  go_ret
  exact⟨rfl,rfl⟩
set_option maxHeartbeats 400000 in
theorem ap6(x y:Int)(hx:Wd.W x)(hy:Wd.W y)(w:World) :
 Calls Tryz.prog 60 #[.int .u8 6,.int .i32 x,.int .i32 y] w fun e w'=>e = .returned (.tuple #[.int .i32 (wrap32 (x+y)),.int .i64 0])∧w=w':=by
 unfold Wd.W at hx hy
 go_enter Tryz.func60,Tryz.ntmps60
 go_wp2_with (fail)
 go_ret2
 exact⟨ret2_int rfl rfl,rfl⟩
set_option maxHeartbeats 400000 in
theorem ap7(x y:Int)(hx:Wd.W x)(hy:Wd.W y)(w:World) :
 Calls Tryz.prog 60 #[.int .u8 7,.int .i32 x,.int .i32 y] w fun e w'=>e = .returned (.tuple #[.int .i32 (wrap32 (x-y)),.int .i64 0])∧w=w':=by
 unfold Wd.W at hx hy
 go_enter Tryz.func60,Tryz.ntmps60
 go_wp2_with (fail)
 go_ret2
 exact⟨ret2_int rfl rfl,rfl⟩
set_option maxHeartbeats 400000 in
theorem ap8(x y:Int)(hx:Wd.W x)(hy:Wd.W y)(w:World) :
 Calls Tryz.prog 60 #[.int .u8 8,.int .i32 x,.int .i32 y] w fun e w'=>e = .returned (.tuple #[.int .i32 (wrap32 (x*y)),.int .i64 0])∧w=w':=by
 unfold Wd.W at hx hy
 go_enter Tryz.func60,Tryz.ntmps60
 go_wp2_with (fail)
 go_ret2
 exact⟨ret2_int rfl rfl,rfl⟩
set_option maxHeartbeats 400000 in
theorem ap9(x y:Int)(hx:Wd.W x)(hy:Wd.W y)(h0:(y == 0)=false)(h1:¬ y=0)(w:World) :
 Calls Tryz.prog 60 #[.int .u8 9,.int .i32 x,.int .i32 y] w fun e w'=>e = .returned (.tuple #[.int .i32 (wrap32 (x.tdiv y)),.int .i64 0])∧w=w':=by
 unfold Wd.W at hx hy
 go_enter Tryz.func60,Tryz.ntmps60
 go_wp2_with (fail)
 go_ret2
 exact⟨ret2_int rfl rfl,rfl⟩
set_option maxHeartbeats 400000 in
theorem ap9z(x y:Int)(hx:Wd.W x)(hy:Wd.W y)(h0:(y == 0)=true)(w:World) :
 Calls Tryz.prog 60 #[.int .u8 9,.int .i32 x,.int .i32 y] w fun e w'=>e = .returned (.tuple #[.int .i32 (0),.int .i64 9])∧w=w':=by
 unfold Wd.W at hx hy
 go_enter Tryz.func60,Tryz.ntmps60
 go_wp2_with (fail)
 go_ret2
 exact⟨ret2_int rfl rfl,rfl⟩
set_option maxHeartbeats 400000 in
theorem ap10(x y:Int)(hx:Wd.W x)(hy:Wd.W y)(h0:(y == 0)=false)(h1:¬ y=0)(w:World) :
 Calls Tryz.prog 60 #[.int .u8 10,.int .i32 x,.int .i32 y] w fun e w'=>e = .returned (.tuple #[.int .i32 (x.tmod y),.int .i64 0])∧w=w':=by
 unfold Wd.W at hx hy
 go_enter Tryz.func60,Tryz.ntmps60
 go_wp2_with (fail)
 go_ret2
 exact⟨ret2_int rfl rfl,rfl⟩
set_option maxHeartbeats 400000 in
theorem ap10z(x y:Int)(hx:Wd.W x)(hy:Wd.W y)(h0:(y == 0)=true)(w:World) :
 Calls Tryz.prog 60 #[.int .u8 10,.int .i32 x,.int .i32 y] w fun e w'=>e = .returned (.tuple #[.int .i32 (0),.int .i64 9])∧w=w':=by
 unfold Wd.W at hx hy
 go_enter Tryz.func60,Tryz.ntmps60
 go_wp2_with (fail)
 go_ret2
 exact⟨ret2_int rfl rfl,rfl⟩
set_option maxHeartbeats 400000 in
theorem ap11(x y:Int)(hx:Wd.W x)(hy:Wd.W y)(w:World) :
 Calls Tryz.prog 60 #[.int .u8 11,.int .i32 x,.int .i32 y] w fun e w'=>e = .returned (.tuple #[.int .i32 (bits .and .i32 x y),.int .i64 0])∧w=w':=by
 unfold Wd.W at hx hy
 go_enter Tryz.func60,Tryz.ntmps60
 go_wp2_with (fail)
 go_ret2
 exact⟨ret2_int rfl rfl,rfl⟩
set_option maxHeartbeats 400000 in
theorem ap12(x y:Int)(hx:Wd.W x)(hy:Wd.W y)(w:World) :
 Calls Tryz.prog 60 #[.int .u8 12,.int .i32 x,.int .i32 y] w fun e w'=>e = .returned (.tuple #[.int .i32 (bits .or .i32 x y),.int .i64 0])∧w=w':=by
 unfold Wd.W at hx hy
 go_enter Tryz.func60,Tryz.ntmps60
 go_wp2_with (fail)
 go_ret2
 exact⟨ret2_int rfl rfl,rfl⟩
set_option maxHeartbeats 400000 in
theorem ap13(x y:Int)(hx:Wd.W x)(hy:Wd.W y)(w:World) :
 Calls Tryz.prog 60 #[.int .u8 13,.int .i32 x,.int .i32 y] w fun e w'=>e = .returned (.tuple #[.int .i32 (bits .xor .i32 x y),.int .i64 0])∧w=w':=by
 unfold Wd.W at hx hy
 go_enter Tryz.func60,Tryz.ntmps60
 go_wp2_with (fail)
 go_ret2
 exact⟨ret2_int rfl rfl,rfl⟩
set_option maxHeartbeats 400000 in
theorem ap14(x y:Int)(hx:Wd.W x)(hy:Wd.W y)(w:World) :
 Calls Tryz.prog 60 #[.int .u8 14,.int .i32 x,.int .i32 y] w fun e w'=>e = .returned (.tuple #[.int .i32 (wrap32 (x*2 ^ (y % 32).toNat)),.int .i64 0])∧w=w':=by
 unfold Wd.W at hx hy
 go_enter Tryz.func60,Tryz.ntmps60
 go_wp2_with (fail)
 go_ret2
 exact⟨ret2_int rfl rfl,rfl⟩
set_option maxHeartbeats 400000 in
theorem ap15(x y:Int)(hx:Wd.W x)(hy:Wd.W y)(w:World) :
 Calls Tryz.prog 60 #[.int .u8 15,.int .i32 x,.int .i32 y] w fun e w'=>e = .returned (.tuple #[.int .i32 (x / 2 ^ (y % 32).toNat),.int .i64 0])∧w=w':=by
 unfold Wd.W at hx hy
 go_enter Tryz.func60,Tryz.ntmps60
 go_wp2_with (fail)
 go_ret2
 exact⟨ret2_int rfl rfl,rfl⟩
set_option maxHeartbeats 400000 in
theorem ap16(x y:Int)(hx:Wd.W x)(hy:Wd.W y)(w:World) :
 Calls Tryz.prog 60 #[.int .u8 16,.int .i32 x,.int .i32 y] w fun e w'=>e = .returned (.tuple #[.int .i32 (Wd.tr (x == y)),.int .i64 0])∧w=w':=by
 unfold Wd.W at hx hy
 go_enter Tryz.func60,Tryz.ntmps60
 go_wp2_with (go_at_call 76;refine (truth_any _ _).mono ?_;rintro e w1 ⟨rfl,rfl⟩)
 go_ret2
 exact⟨ret2_int rfl rfl,rfl⟩
set_option maxHeartbeats 400000 in
theorem ap17(x y:Int)(hx:Wd.W x)(hy:Wd.W y)(w:World) :
 Calls Tryz.prog 60 #[.int .u8 17,.int .i32 x,.int .i32 y] w fun e w'=>e = .returned (.tuple #[.int .i32 (Wd.tr (x != y)),.int .i64 0])∧w=w':=by
 unfold Wd.W at hx hy
 go_enter Tryz.func60,Tryz.ntmps60
 go_wp2_with (go_at_call 76;refine (truth_any _ _).mono ?_;rintro e w1 ⟨rfl,rfl⟩)
 go_ret2
 exact⟨ret2_int rfl rfl,rfl⟩
set_option maxHeartbeats 400000 in
theorem ap18(x y:Int)(hx:Wd.W x)(hy:Wd.W y)(w:World) :
 Calls Tryz.prog 60 #[.int .u8 18,.int .i32 x,.int .i32 y] w fun e w'=>e = .returned (.tuple #[.int .i32 (Wd.tr (decide (x<y))),.int .i64 0])∧w=w':=by
 unfold Wd.W at hx hy
 go_enter Tryz.func60,Tryz.ntmps60
 go_wp2_with (go_at_call 76;refine (truth_any _ _).mono ?_;rintro e w1 ⟨rfl,rfl⟩)
 go_ret2
 exact⟨ret2_int rfl rfl,rfl⟩
set_option maxHeartbeats 400000 in
theorem ap19(x y:Int)(hx:Wd.W x)(hy:Wd.W y)(w:World) :
 Calls Tryz.prog 60 #[.int .u8 19,.int .i32 x,.int .i32 y] w fun e w'=>e = .returned (.tuple #[.int .i32 (Wd.tr (decide (x≤y))),.int .i64 0])∧w=w':=by
 unfold Wd.W at hx hy
 go_enter Tryz.func60,Tryz.ntmps60
 go_wp2_with (go_at_call 76;refine (truth_any _ _).mono ?_;rintro e w1 ⟨rfl,rfl⟩)
 go_ret2
 exact⟨ret2_int rfl rfl,rfl⟩
set_option maxHeartbeats 400000 in
theorem ap20(x y:Int)(hx:Wd.W x)(hy:Wd.W y)(w:World) :
 Calls Tryz.prog 60 #[.int .u8 20,.int .i32 x,.int .i32 y] w fun e w'=>e = .returned (.tuple #[.int .i32 (Wd.tr (decide (y<x))),.int .i64 0])∧w=w':=by
 unfold Wd.W at hx hy
 go_enter Tryz.func60,Tryz.ntmps60
 go_wp2_with (go_at_call 76;refine (truth_any _ _).mono ?_;rintro e w1 ⟨rfl,rfl⟩)
 go_ret2
 exact⟨ret2_int rfl rfl,rfl⟩
set_option maxHeartbeats 400000 in
theorem ap21(x y:Int)(hx:Wd.W x)(hy:Wd.W y)(w:World) :
 Calls Tryz.prog 60 #[.int .u8 21,.int .i32 x,.int .i32 y] w fun e w'=>e = .returned (.tuple #[.int .i32 (Wd.tr (decide (y≤x))),.int .i64 0])∧w=w':=by
 unfold Wd.W at hx hy
 go_enter Tryz.func60,Tryz.ntmps60
 go_wp2_with (go_at_call 76;refine (truth_any _ _).mono ?_;rintro e w1 ⟨rfl,rfl⟩)
 go_ret2
 exact⟨ret2_int rfl rfl,rfl⟩
set_option maxHeartbeats 400000 in
theorem ap22(x y:Int)(hx:Wd.W x)(hy:Wd.W y)(w:World) :
 Calls Tryz.prog 60 #[.int .u8 22,.int .i32 x,.int .i32 y] w fun e w'=>e = .returned (.tuple #[.int .i32 (Wd.tr (x != 0 && y != 0)),.int .i64 0])∧w=w':=by
 unfold Wd.W at hx hy
 have key:∀ b:Bool,b=(x != 0 && y != 0)→Calls Tryz.prog 60 #[.int .u8 22,.int .i32 x,.int .i32 y] w fun e w'=>e = .returned (.tuple #[.int .i32 (Wd.tr b),.int .i64 0])∧w=w':=by
  intro b hb
  have HB:=ξ hb
  clear hb
  by_cases hx0:x=0
  ·subst hx0
   by_cases hy0:y=0
   ·subst hy0
    go_enter Tryz.func60,Tryz.ntmps60
    go_wp2_with (go_at_call 76;refine (truth_any _ _).mono ?_;rintro e w1 ⟨rfl,rfl⟩)
    go_ret2
    exact⟨ret2_int (congrArg Wd.tr (by rw[HB.out];simp)) rfl,rfl⟩
   ·have hy1:(y != 0)=true:=by simpa using hy0
    go_enter Tryz.func60,Tryz.ntmps60
    go_wp2_with (go_at_call 76;refine (truth_any _ _).mono ?_;rintro e w1 ⟨rfl,rfl⟩)
    go_ret2
    exact⟨ret2_int (congrArg Wd.tr (by rw[HB.out];simp[hy0])) rfl,rfl⟩
  ·have hx1:(x != 0)=true:=by simpa using hx0
   by_cases hy0:y=0
   ·subst hy0
    go_enter Tryz.func60,Tryz.ntmps60
    go_wp2_with (go_at_call 76;refine (truth_any _ _).mono ?_;rintro e w1 ⟨rfl,rfl⟩)
    go_ret2
    exact⟨ret2_int (congrArg Wd.tr (by rw[HB.out];simp[hx0])) rfl,rfl⟩
   ·have hy1:(y != 0)=true:=by simpa using hy0
    go_enter Tryz.func60,Tryz.ntmps60
    go_wp2_with (go_at_call 76;refine (truth_any _ _).mono ?_;rintro e w1 ⟨rfl,rfl⟩)
    go_ret2
    exact⟨ret2_int (congrArg Wd.tr (by rw[HB.out];simp[hx0,hy0])) rfl,rfl⟩
 exact key _ rfl
set_option maxHeartbeats 400000 in
theorem ap23(x y:Int)(hx:Wd.W x)(hy:Wd.W y)(w:World) :
 Calls Tryz.prog 60 #[.int .u8 23,.int .i32 x,.int .i32 y] w fun e w'=>e = .returned (.tuple #[.int .i32 (Wd.tr (x != 0 || y != 0)),.int .i64 0])∧w=w':=by
 unfold Wd.W at hx hy
 have key:∀ b:Bool,b=(x != 0 || y != 0)→Calls Tryz.prog 60 #[.int .u8 23,.int .i32 x,.int .i32 y] w fun e w'=>e = .returned (.tuple #[.int .i32 (Wd.tr b),.int .i64 0])∧w=w':=by
  intro b hb
  have HB:=ξ hb
  clear hb
  by_cases hx0:x=0
  ·subst hx0
   by_cases hy0:y=0
   ·subst hy0
    go_enter Tryz.func60,Tryz.ntmps60
    go_wp2_with (go_at_call 76;refine (truth_any _ _).mono ?_;rintro e w1 ⟨rfl,rfl⟩)
    go_ret2
    exact⟨ret2_int (congrArg Wd.tr (by rw[HB.out];simp)) rfl,rfl⟩
   ·have hy1:(y != 0)=true:=by simpa using hy0
    go_enter Tryz.func60,Tryz.ntmps60
    go_wp2_with (go_at_call 76;refine (truth_any _ _).mono ?_;rintro e w1 ⟨rfl,rfl⟩)
    go_ret2
    exact⟨ret2_int (congrArg Wd.tr (by rw[HB.out];simp[hy0])) rfl,rfl⟩
  ·have hx1:(x != 0)=true:=by simpa using hx0
   by_cases hy0:y=0
   ·subst hy0
    go_enter Tryz.func60,Tryz.ntmps60
    go_wp2_with (go_at_call 76;refine (truth_any _ _).mono ?_;rintro e w1 ⟨rfl,rfl⟩)
    go_ret2
    exact⟨ret2_int (congrArg Wd.tr (by rw[HB.out];simp[hx0])) rfl,rfl⟩
   ·have hy1:(y != 0)=true:=by simpa using hy0
    go_enter Tryz.func60,Tryz.ntmps60
    go_wp2_with (go_at_call 76;refine (truth_any _ _).mono ?_;rintro e w1 ⟨rfl,rfl⟩)
    go_ret2
    exact⟨ret2_int (congrArg Wd.tr (by rw[HB.out];simp[hx0,hy0])) rfl,rfl⟩
 exact key _ rfl
set_option maxHeartbeats 400000 in
theorem apElse(k x y:Int)(hk:0≤k∧k≤255)(h:k<6∨23<k)(hx:Wd.W x)(hy:Wd.W y)(w:World) :
 Calls Tryz.prog 60 #[.int .u8 k,.int .i32 x,.int .i32 y] w fun e w'=>e = .returned (.tuple #[.int .i32 0,.int .i64 1])∧w=w':=by
 unfold Wd.W at hx hy
 rcases h with h|h
 all_goals
  go_enter Tryz.func60,Tryz.ntmps60
  go_wp2_with fail
  go_ret2
  exact⟨rfl,rfl⟩
theorem apply_any(k x y:Int)(hk:0≤k∧k≤255)(hx:Wd.W x)(hy:Wd.W y)(w:World) :
 Calls Tryz.prog 60 #[.int .u8 k,.int .i32 x,.int .i32 y] w fun e w'=>e = .returned (.tuple #[.int .i32 (Wd.apply k x y),.int .i64 (Wd.err k y)])∧w=w':=by
 by_cases h:k<6∨23<k
 ·rw[Wd.aelse k x y h,Wd.eelse k y h];exact apElse k x y hk h hx hy w
 ·have hc:k=6∨k=7∨k=8∨k=9∨k=10∨k=11∨k=12∨k=13∨k=14∨k=15∨k=16∨k=17∨k=18∨k=19∨k=20∨k=21∨k=22∨k=23:=by omega
  by_cases h2:(k=9∨k=10)∧y=0
  ·obtain⟨h2,rfl⟩:=h2
   rcases h2 with rfl|rfl
   ·exact ap9z x 0 hx hy rfl w
   ·exact ap10z x 0 hx hy rfl w
  ·rw[Wd.e0 k y (by omega) h2]
   rcases hc with rfl|rfl|rfl|rfl|rfl|rfl|rfl|rfl|rfl|rfl|rfl|rfl|rfl|rfl|rfl|rfl|rfl|rfl
   ·exact ap6 x y hx hy w
   ·exact ap7 x y hx hy w
   ·exact ap8 x y hx hy w
   ·have hy0:¬ y=0:=fun h=>h2 ⟨by omega,h⟩
    rw[Wd.a9,if_neg hy0]
    exact ap9 x y hx hy (by simpa using hy0) hy0 w
   ·have hy0:¬ y=0:=fun h=>h2 ⟨by omega,h⟩
    rw[Wd.a10,if_neg hy0]
    exact ap10 x y hx hy (by simpa using hy0) hy0 w
   ·exact ap11 x y hx hy w
   ·exact ap12 x y hx hy w
   ·exact ap13 x y hx hy w
   ·exact ap14 x y hx hy w
   ·exact ap15 x y hx hy w
   ·exact ap16 x y hx hy w
   ·exact ap17 x y hx hy w
   ·exact ap18 x y hx hy w
   ·exact ap19 x y hx hy w
   ·exact ap20 x y hx hy w
   ·exact ap21 x y hx hy w
   ·exact ap22 x y hx hy w
   ·exact ap23 x y hx hy w
open Go.RowKit Go.Maps
set_option maxHeartbeats 4000000
abbrev failC(e:Int):List PanicEntry:=[{ v:=.iface 91 (.agg #[.int .i64 e]),recovered:=false }]
theorem fail_any(e:Int)(w:World):Calls Tryz.prog 72 #[.int .i64 e] w fun en w'=>en = .panicked (failC e)∧w=w':=by
 go_enter Tryz.func72,Tryz.ntmps72
 go_wp2_with fail
 exact⟨rfl,rfl,rfl⟩
def RowsR(w:World)(G:ByteArray→Option Value)(A:AF):Prop:=∀ nm,match A nm with
 | none=>G nm=none
 | some l=>∃ a c,G nm=some (.slice a l.length c)∧l.length≤1000000∧∀ i,i<l.length→∃ b o,a=some ⟨b,o,none⟩∧w.cell? ⟨b,o+i,none⟩=some (.int .i32 (l.getD i 0))
def intV(V:VF):ByteArray→Option Value:=fun nm=>(V nm).map (Value.int .i32)
abbrev StrK:TypeId:=9
structure RdAt(w:World)(sb vb ab nv na:Nat)(G:ByteArray→Option Value)(V:VF)(A:AF):Prop where
 c0:w.cell? ⟨sb,0,none⟩=some (.map (some vb))
 c1:w.cell? ⟨sb,1,none⟩=some (.map (some ab))
 vars:FMap Tryz.prog StrK w vb nv (intV V)
 arrs:FMap Tryz.prog StrK w ab na G
 rows:RowsR w G A
 fitV:∀ nm v,V nm=some v→Wd.W v
 fitA:∀ nm l,A nm=some l→∀ x∈l,Wd.W x
theorem cell_keep{w w':World}{a:Addr}{v:Value}(h:w.cell? a=some v)(hB:Below w.heap.size w w'):w'.cell? a=some v:=
 (hB.cell (World.block_lt_of_cell? w _ h)).trans h
theorem RowsR.below{w w':World}{G:ByteArray→Option Value}{A:AF}(h:RowsR w G A)(hB:Below w.heap.size w w'):RowsR w' G A:=fun nm=>by
 have h1:=h nm
 cases hA:A nm with
 | none=>rw[hA] at h1;exact h1
 | some l =>
  rw[hA] at h1
  obtain⟨a,c,h2,h3,h4⟩:=h1
  refine⟨a,c,h2,h3,fun i hi=>?_⟩
  obtain⟨b,o,h5,h6⟩:=h4 i hi
  exact⟨b,o,h5,cell_keep h6 hB⟩
theorem RdAt.below{w w':World}{sb vb ab nv na:Nat}{G:ByteArray→Option Value}{V:VF}{A:AF}(h:RdAt w sb vb ab nv na G V A)(hB:Below w.heap.size w w'):RdAt w' sb vb ab nv na G V A:=
 ⟨cell_keep h.c0 hB,cell_keep h.c1 hB,h.vars.below hB,h.arrs.below hB,h.rows.below hB,h.fitV,h.fitA⟩
theorem strK:Tryz.prog.underlying StrK=some .string:=Tryz.underlying9
theorem zero_i32(w:World):(zeroValue 21).run Tryz.prog w = .ok (.int .i32 0) w:=by kernel_rfl
theorem zero_row(w:World):(zeroValue 30).run Tryz.prog w = .ok (.slice none 0 0) w:=by kernel_rfl
theorem element_ok(nm:ByteArray)(i:Int)(w:World)(sb ab na n c b o:Nat)(G:ByteArray→Option Value)(c1:w.cell? ⟨sb,1,none⟩=some (.map (some ab)))(hG:FMap Tryz.prog StrK w ab na G)
 (hg:(G nm).getD (.slice none 0 0) = .slice (some ⟨b,o,none⟩) n c) (hnm:nm.size≤maxLen) (h0:0≤i) (hi:i<(n:Int)) (hn:n≤1000000) :
 Calls Tryz.prog 73 #[.pointer (some ⟨sb,0,none⟩),.string nm,.int .i32 i] w fun e w'=>e = .returned (.pointer (some ⟨b,o+i.toNat,none⟩))∧w=w':=by
 have hrun:=hG.run (t:=69) strK Tryz.underlying69 (zero_row w) hnm
 rw[hg] at hrun
 have h0d:decide (i<0)=false:=by simpa using h0
 have hid:decide ((n:Int)≤i)=false:=by simpa using hi
 have hsb:=World.block_lt_of_cell? w _ c1
 have hi32 : -2147483648≤i∧i≤2147483647:=by omega
 clear hG hg
 go_enter Tryz.func73,Tryz.ntmps73
 go_wp2_with fail
 go_ret
 exact⟨rfl,rfl⟩
theorem element_er(nm:ByteArray)(i:Int)(w:World)(sb ab na n c:Nat)(a:Option Addr)(G:ByteArray→Option Value)(c1:w.cell? ⟨sb,1,none⟩=some (.map (some ab)))(hG:FMap Tryz.prog StrK w ab na G)
 (hg:(G nm).getD (.slice none 0 0) = .slice a n c) (hnm:nm.size≤maxLen) (hi:i<0∨(n:Int)≤i) (hi32 : -2147483648≤i∧i≤2147483647) (hn:n≤1000000) :
 Calls Tryz.prog 73 #[.pointer (some ⟨sb,0,none⟩),.string nm,.int .i32 i] w fun e w'=>e = .panicked (failC 11)∧w=w':=by
 have hrun:=hG.run (t:=69) strK Tryz.underlying69 (zero_row w) hnm
 rw[hg] at hrun
 have hsb:=World.block_lt_of_cell? w _ c1
 clear hG hg
 by_cases h0:i<0
 ·have h0d:decide (i<0)=true:=by simpa using h0
  clear hi
  go_enter Tryz.func73,Tryz.ntmps73
  go_wp2_with fail
  refine (fail_any 11 w).mono ?_
  rintro e w' ⟨rfl,rfl⟩
  exact⟨rfl,rfl,rfl⟩
 ·have hid:decide ((n:Int)≤i)=true:=by simp;omega
  have h0d:decide (i<0)=false:=by simpa using h0
  clear h0
  go_enter Tryz.func73,Tryz.ntmps73
  go_wp2_with fail
  refine (fail_any 11 w).mono ?_
  rintro e w' ⟨rfl,rfl⟩
  exact⟨rfl,rfl,rfl⟩
abbrev stObj(vb ab:Nat)(ina:Option Addr)(inl inc:Nat)(F:Int)(ov:Value)(rd st:Nat):Obj:=.cells #[.map (some vb),.map (some ab),.slice ina inl inc,.int .i64 F,ov,.int .i64 (rd:Int),.int .i64 (st:Int)] 71
theorem step_ok(w:World)(sb vb ab inl inc rd st:Nat)(ina:Option Addr)(F:Int)(ov:Value)(h:w.heap[sb]? = some (stObj vb ab ina inl inc F ov rd st))(hst:(st:Int)<F)(hF:F≤9223372036854775807) :
 Calls Tryz.prog 52 #[.pointer (some ⟨sb,0,none⟩)] w fun e w'=>e = .returned (.tuple #[])∧w'.heap[sb]? = some (stObj vb ab ina inl inc F ov rd (st+1))∧(∀ k,k≠sb→w'.heap[k]? = w.heap[k]?)∧Below sb w w':=by
 have h3:=mem_cell h 3
 have h6:=mem_cell h 6
 have f6:=mem_free h 6
 simp only[List.getElem?_toArray,List.getElem?_cons_zero,List.getElem?_cons_succ] at h3 h6
 have hd:decide (F≤(st:Int))=false:=by simpa using hst
 have H:=ξ h
 have hsb:=mem_lt h
 clear h
 go_enter Tryz.func52,Tryz.ntmps52
 go_wp2_with fail
 go_quiet (fail)
 generalize hwq:World.drewN w _=wq
 have hb:wq.heap[sb]? = some (stObj vb ab ina inl inc F ov rd st):=by rw[←hwq];exact H.out
 have HB:=ξ hb
 have HE:Hid (∀ k:Nat,wq.heap[k]? = w.heap[k]?):=fun k=>by rw[←hwq];rfl
 have HL:Hid (Below w.heap.size w wq):=mem_drawn (Below.refl _ _) hwq
 have hsb:=mem_lt hb
 have h6:=mem_cell hb 6
 have f6:=mem_free hb 6
 simp only[List.getElem?_toArray,List.getElem?_cons_zero,List.getElem?_cons_succ] at h6
 clear hwq hb H
 go_wp2_with fail
 go_end0
 refine⟨rfl,?_,fun k hk=>?_,?_⟩
 ·rw[mem_set HB.out];rfl
 ·rw[Below.heap_setCell _ _ _ _ hk];exact HE.out k
 ·exact (HL.out.mono (show sb≤w.heap.size by omega)).setCell (p:=⟨sb,6,none⟩) (Nat.le_refl _) _
theorem step_er(w:World)(sb vb ab inl inc rd st:Nat)(ina:Option Addr)(F:Int)(ov:Value)(h:w.heap[sb]? = some (stObj vb ab ina inl inc F ov rd st))(hst:F≤(st:Int)) :
 Calls Tryz.prog 52 #[.pointer (some ⟨sb,0,none⟩)] w fun e w'=>e = .panicked (failC 13)∧(∀ k:Nat,w'.heap[k]? = w.heap[k]?)∧Below w.heap.size w w':=by
 have h3:=mem_cell h 3
 have h6:=mem_cell h 6
 simp only[List.getElem?_toArray,List.getElem?_cons_zero,List.getElem?_cons_succ] at h3 h6
 have hd:decide (F≤(st:Int))=true:=by simpa using hst
 have hsb:=mem_lt h
 clear h
 go_enter Tryz.func52,Tryz.ntmps52
 go_wp2_with fail
 go_quiet (fail)
 generalize hwq:World.drewN w _=wq
 have HE:Hid (∀ k:Nat,wq.heap[k]? = w.heap[k]?):=fun k=>by rw[←hwq];rfl
 have HL:Hid (Below w.heap.size w wq):=mem_drawn (Below.refl _ _) hwq
 clear hwq
 go_wp2_with fail
 refine (fail_any 13 wq).mono ?_
 rintro e w' ⟨rfl,rfl⟩
 exact⟨rfl,rfl,HE.out,HL.out⟩
abbrev ndObj(t:Tree)(a:Option Addr)(c:Nat):Obj:=.cells #[.int .u8 t.kind,.int .i64 t.num,.string t.name,.slice a t.len c] 47
theorem nd_cells{w:World}{b:Nat}{x0 x1 x2 x3:Value}{T:TypeId}(h:w.heap[b]? = some (.cells #[x0,x1,x2,x3] T)) :
 w.cell? ⟨b,0,none⟩=some x0∧w.cell? ⟨b,1,none⟩=some x1∧w.cell? ⟨b,2,none⟩=some x2∧w.cell? ⟨b,3,none⟩=some x3:=
 ⟨mem_cell h 0,mem_cell h 1,mem_cell h 2,mem_cell h 3⟩
theorem kid_at{w:World}{t:Tree}{a:Option Addr}(h:Rep w t a){i:Nat}(hi:i<t.len):∃ b off,a=some ⟨b,off,none⟩∧∃ ai ci,NodeAt w b (off+i*4) (t.kid i) ai ci∧Rep w (t.kid i) ai:=by
 rcases h.kids with h0|⟨b,off,ha,hk⟩
 ·omega
 ·exact⟨b,off,ha,hk i hi⟩
theorem vldE{t:Tree}(h:t.vld 101=true):(1≤t.kind∧t.kind≤23)∧t.len=(Fm.kids t.kind).length∧(∀ i,i<t.len→(t.kid i).vld 101=true)∧(t.kind=1→0≤t.num∧t.num≤2147483647):=by
 rw[Tree.vld_eq,Bool.and_eq_true] at h
 obtain⟨h1,h2⟩:=h
 have hk:1≤t.kind∧t.kind≤23:=by
  unfold Fm.belongs at h1
  simpa using h1
 rw[if_neg (by omega)] at h2
 simp only[Bool.and_eq_true,decide_eq_true_eq] at h2
 obtain⟨⟨⟨⟨h3,h4⟩,h5⟩,h6⟩,h7⟩:=h2
 refine⟨hk,h5,fun i hi=>?_,fun h1=>?_⟩
 ·have h8:=Tree.allTo_iff.1 h7 i hi
  have h9:((Fm.kids t.kind).getD i 0).toNat=101:=by
   have hi2:i<(Fm.kids t.kind).length:=by omega
   revert hi2
   unfold Fm.kids
   by_cases hc:t.kind=1∨t.kind=2∨t.kind=3∨t.kind=4∨t.kind=5
   ·rcases hc with e|e|e|e|e <;> rw[e]
    ·intro h;exact absurd h (by show ¬ i<0;omega)
    ·intro h;exact absurd h (by show ¬ i<0;omega)
    all_goals
     intro h
     have h:i<1:=h
     obtain rfl:i=0:=by omega
     rfl
   ·rw[Fm.row_else t.kind (by omega)]
    intro h
    have h:i<2:=h
    match i,h with
    | 0,_=>rfl
    | 1,_=>rfl
  rw[h9] at h8
  exact h8
 ·have e1:Fm.lo t.kind=0:=by rw[h1];rfl
  have e2:Fm.hi t.kind=2147483647:=by rw[h1];rfl
  omega
theorem vldS{t:Tree}(h:t.vld 115=true):(40≤t.kind∧t.kind<47)∧(Fm.lo t.kind≤t.num∧t.num≤Fm.hi t.kind)∧t.len=(Fm.kids t.kind).length∧∀ i,i<t.len→(t.kid i).vld (((Fm.kids t.kind).getD i 0).toNat)=true:=by
 rw[Tree.vld_eq,Bool.and_eq_true] at h
 obtain⟨h1,h2⟩:=h
 have hk:40≤t.kind∧t.kind<47:=by
  unfold Fm.belongs at h1
  simpa using h1
 rw[if_neg (by omega)] at h2
 simp only[Bool.and_eq_true,decide_eq_true_eq] at h2
 obtain⟨⟨⟨⟨h3,h4⟩,h5⟩,h6⟩,h7⟩:=h2
 exact⟨hk,⟨h3,h4⟩,h5,Tree.allTo_iff.1 h7⟩
theorem vldP{p:Tree}(h:p.vld 112=true):p.kind=2∨(p.kind=3∧p.len=1∧(p.kid 0).vld 101=true):=by
 rw[Tree.vld_eq,Bool.and_eq_true] at h
 obtain⟨h1,h2⟩:=h
 have hk:p.kind=2∨p.kind=3:=by
  unfold Fm.belongs at h1
  simpa using h1
 rcases hk with hk|hk
 ·exact .inl hk
 ·rw[if_neg (by omega)] at h2
  simp only[Bool.and_eq_true,decide_eq_true_eq] at h2
  obtain⟨⟨⟨⟨h3,h4⟩,h5⟩,h6⟩,h7⟩:=h2
  rw[hk] at h5 h7
  have h5:p.len=1:=h5
  exact .inr ⟨hk,h5,Tree.allTo_iff.1 h7 0 (by omega)⟩
theorem vldB{t:Tree}(h:t.vld 98=true):t.kind=47∧∀ i,i<t.len→(t.kid i).vld 115=true:=by
 rw[Tree.vld_eq,Bool.and_eq_true] at h
 obtain⟨h1,h2⟩:=h
 have hk:t.kind=47:=by
  unfold Fm.belongs at h1
  simpa using h1
 rw[if_pos hk] at h2
 simp only[Bool.and_eq_true] at h2
 exact⟨hk,Tree.allTo_iff.1 h2.2⟩
abbrev InB(B:Nat)(w:World)(t:Tree)(a:Option Addr):Prop:=RepIn (fun k=>k<B) w t a
theorem InB.low{B:Nat}{w w':World}{t:Tree}{a:Option Addr}(h:InB B w t a)(hB:Below B w w'):InB B w' t a:=h.move (fun k hk _=>hB.block k hk) (fun _ hk _=>hk)
theorem kid_in{B:Nat}{w:World}{t:Tree}{a:Option Addr}(h:InB B w t a){i:Nat}(hi:i<t.len):∃ b off,a=some ⟨b,off,none⟩∧b<B∧∃ ai ci,NodeAt w b (off+i*4) (t.kid i) ai ci∧InB B w (t.kid i) ai:=by
 rcases h.kids with h0|⟨b,off,ha,hb,hk⟩
 ·omega
 ·exact⟨b,off,ha,hb,hk i hi⟩
theorem un4(x:Int)(hx:Wd.W x)(w:World) :
 Calls Tryz.prog 74 #[.int .u8 4,.int .i32 x] w fun e w'=>e = .returned (.tuple #[.int .i32 (wrap32 (-x)),.int .i64 0])∧w=w':=by
 unfold Wd.W at hx
 go_enter Tryz.func74,Tryz.ntmps74
 go_wp2_with fail
 go_ret2
 exact⟨ret2_int rfl rfl,rfl⟩
theorem un5(x:Int)(hx:Wd.W x)(w:World) :
 Calls Tryz.prog 74 #[.int .u8 5,.int .i32 x] w fun e w'=>e = .returned (.tuple #[.int .i32 (Wd.tr (x == 0)),.int .i64 0])∧w=w':=by
 unfold Wd.W at hx
 go_enter Tryz.func74,Tryz.ntmps74
 go_wp2_with (go_at_call 76;refine (truth_any _ _).mono ?_;rintro e w1 ⟨rfl,rfl⟩)
 go_ret2
 exact⟨ret2_int rfl rfl,rfl⟩
theorem unElse(k x:Int)(hk:0≤k∧k≤255)(h:k<4∨5<k)(hx:Wd.W x)(w:World) :
 Calls Tryz.prog 74 #[.int .u8 k,.int .i32 x] w fun e w'=>e = .returned (.tuple #[.int .i32 0,.int .i64 1])∧w=w':=by
 unfold Wd.W at hx
 rcases h with h|h
 all_goals
  go_enter Tryz.func74,Tryz.ntmps74
  go_wp2_with fail
  go_ret2
  exact⟨rfl,rfl⟩
theorem unary_any(k x:Int)(hk:0≤k∧k≤255)(hx:Wd.W x)(w:World) :
 Calls Tryz.prog 74 #[.int .u8 k,.int .i32 x] w fun e w'=>e = .returned (.tuple #[.int .i32 (Wd.unary k x),.int .i64 (Wd.uerr k)])∧w=w':=by
 by_cases h4:k=4
 ·subst h4;exact un4 x hx w
 ·by_cases h5:k=5
  ·subst h5;exact un5 x hx w
  ·have e1:Wd.unary k x=0:=by unfold Wd.unary;rw[if_neg h4,if_neg h5]
   have e2:Wd.uerr k=1:=by unfold Wd.uerr;rw[if_neg (by omega)]
   rw[e1,e2]
   exact unElse k x hk (by omega) hx w
