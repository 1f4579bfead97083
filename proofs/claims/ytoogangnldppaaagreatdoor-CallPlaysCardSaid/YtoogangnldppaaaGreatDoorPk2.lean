/- Texts joined: Ob, BytesOk, Set, PathLaw, MayOk, DirLaw, NodeOk, NamesOk, BelowLaw, BelowOk, MapLaw, ApartOk, DirOk, ReachLaw, ReachOk, NameOk, RefOk, RefMayOk, CopyOk, SpanOk, RefsOk. -/
import Derived.Test.YtoogangnldppaaaGreatDoorMSoundC
import Derived.Test.YtoogangnldppaaaGreatDoorPk1
import Derived.Lib.SplitLaws
import Derived.Lib.Join
import Derived.KernelRfl
set_option linter.unusedVariables false
/- What the executor asks of these functions, written out. (Printed by wip/tools/gen.py.) -/
set_option maxRecDepth 100000
set_option linter.unusedVariables false
namespace Go.Proofs.YtoogangnldppaaaGreatDoor
open Go
variable [DrK]
def BB (a0_0:Sl) (a1:Int) (a2:Int) (a3:Int) (a4:Sl) (V:View) (Q:Value→View→Prop):Prop:=
 ∀(b b:Nat),af Tryz.prog 70 ⟨[.agg ⟨[.slice a0_0.a a0_0.n a0_0.c]⟩,.int .i64 a2]⟩ V fun r V=>∃x:Bool,r= .bool x∧br (bif !x then true else decide (a3<0)) (Q (Value.tuple ⟨[.agg ⟨[.slice none 0 0]⟩,.slice none 0 0,.int .i64 1]⟩) V) (br (decide ((a4.n:Int)=0)) (af Tryz.prog 38 ⟨[.agg ⟨[.slice a0_0.a a0_0.n a0_0.c]⟩]⟩ V fun r V=>∃x:Sl,r= .agg ⟨[.slice x.a x.n x.c]⟩∧Q (Value.tuple ⟨[.agg ⟨[.slice x.a x.n x.c]⟩,.slice none 0 0,.int .i64 0]⟩) V) (af Tryz.prog 92 ⟨[.int .i64 a3,.int .i64 (a4.n:Int)]⟩ V fun r V=>∃x:Bool,r= .bool x∧br (!x) (Q (Value.tuple ⟨[.agg ⟨[.slice none 0 0]⟩,.slice none 0 0,.int .i64 16]⟩) V) (True∧∃S:View,S.Le V∧0≤a2∧a2<(a0_0.n:Int)∧∃ad:Addr,a0_0.a=some ad∧∃x x_1 x_2:Int,∃x_3 x_4:Sl,aq S (ad.add (a2.toNat*5)) [.int .i64 x,.int .i64 x_1,.int .i64 x_2,.slice x_3.a x_3.n x_3.c,.slice x_4.a x_4.n x_4.c]∧af Tryz.prog 110 ⟨[.agg ⟨[.slice a0_0.a a0_0.n a0_0.c]⟩]⟩ V fun r V=>∃x_5:Int,r= .int .i64 x_5∧S.Le V∧af Tryz.prog 154 ⟨[.agg ⟨[.int .i64 x,.int .i64 x_1,.int .i64 x_2,.slice x_3.a x_3.n x_3.c,.slice x_4.a x_4.n x_4.c]⟩,.int .i64 a3,.int .i64 (a4.n:Int)]⟩ V fun r V=>∃x:Int,r= .int .i64 x∧inI .i64 (x_5+x)∧br (decide (a1<x_5+x)) (Q (Value.tuple ⟨[.agg ⟨[.slice none 0 0]⟩,.slice none 0 0,.int .i64 13]⟩) V) (af Tryz.prog 38 ⟨[.agg ⟨[.slice a0_0.a a0_0.n a0_0.c]⟩]⟩ V fun r V=>∃x:Sl,r= .agg ⟨[.slice x.a x.n x.c]⟩∧∀(b:Nat),0≤a2∧a2<(x.n:Int)∧∃ad:Addr,x.a=some ad∧∃a:Addr,some (ad.add (a2.toNat*5))=some a∧∃x_6:Int,V.cell? (a.add (2:Nat))=some (.int .i64 x_6)∧inI .i64 (a3+(a4.n:Int))∧∃a:Addr,some (ad.add (a2.toNat*5))=some a∧ay V (a.add (2:Nat)) (nat_lit 1)∧af Tryz.prog 57 ⟨[.int .i64 a3,.int .i64 (a4.n:Int)]⟩ (V.sets (a.add (2:Nat)) [.int .i64 (if a3+(a4.n:Int)>x_6 then a3+(a4.n:Int)else x_6)]) fun r V=>∃x_7:Sl,r= .slice x_7.a x_7.n x_7.c∧aG [K.sl,K.sl,K.int .i64] (fun(x_8 x_9:Sl) (x_10:Int) (V:View) (J:c7 [K.sl,K.sl,K.int .i64])=>br (decide (x_10<(x_7.n:Int))) (0≤x_10∧x_10<(x_7.n:Int)∧∃ad_1:Addr,x_7.a=some ad_1∧∃x x_11 x_12:Int,aq V (ad_1.add (x_10.toNat*3)) [.int .i64 x,.int .i64 x_11,.int .i64 x_12]∧∀(b:Nat),True∧∃S:View,S.Le V∧∃a:Addr,some (ad.add (a2.toNat*5))=some a∧∃x_13:Sl,S.cell? (a.add (3:Nat))=some (.slice x_13.a x_13.n x_13.c)∧0≤x∧x<(x_13.n:Int)∧∃ad:Addr,x_13.a=some ad∧∃x_14:Int,S.cell? (ad.add (x.toNat*1))=some (.int .i64 x_14)∧(0:Int)≤0∧0≤x_12∧x_12≤(↑x_8.c:Int)∧af Tryz.prog 155 ⟨[.slice (if x_8.c=(0:Nat)then x_8.a else Option.map (fun(x:Addr)=>x.add (0:Nat)) x_8.a) (x_12.toNat-(0:Nat)) (x_8.c-(0:Nat))]⟩ V fun r V=>∃x_15:Sl,r= .slice x_15.a x_15.n x_15.c∧S.Le V∧b7 V (Obj.cells (Array.mk (bD [.int .i64 0,.int .i64 0,.int .i64 0,.int .i64 0,.int .i64 0,.slice none 0 0] (0:Nat) [.int .i64 a2,.int .i64 x,.int .i64 x_14,.int .i64 16,.int .i64 x_11,.slice x_15.a x_15.n x_15.c])) (77:Nat)) fun r V=>apV V (77:Nat) (6:Nat) (64:Nat) [.int .i64 0,.int .i64 0,.int .i64 0,.int .i64 0,.int .i64 0,.slice none 0 0] (Sl.mk x_9.a x_9.n x_9.c) (.slice (some (Addr.mk r 0 none)) (1:Nat) (1:Nat)) fun s V=>0≤x_12∧x_12≤(x_8.n:Int)∧(x_8.n:Int)≤(↑x_8.c:Int)∧inI .i64 (x_10+1)∧J (Sl.mk (if x_8.c=x_12.toNat then x_8.a else Option.map (fun(x:Addr)=>x.add (x_12.toNat*1)) x_8.a) (Int.toNat (x_8.n:Int)-x_12.toNat) (x_8.c-x_12.toNat)) (Sl.mk s.a s.n s.c) (x_10+1) V) (Q (Value.tuple ⟨[.agg ⟨[.slice x.a x.n x.c]⟩,.slice x_9.a x_9.n x_9.c,.int .i64 0]⟩) V)) (Sl.mk a4.a a4.n a4.c,Sl.mk none (0:Nat) (0:Nat),(0:Int),()) V))))
def Eb:AC:=(.seq qd (.seq (.block none (.seq qd (.cond none (.seq qd .leaf) (.seq qd (.cond none (.seq qd .leaf) (.seq qd (.cond none (.seq qd .leaf) (.seq (.reg ⟨(.fl 0 (.fl 2 (.fl 3 (.fl 4 (.fl 5 (.fl 6 (.fl 7 (.fl 8 (.fl 9 (.fl 12 (.alt 1 true false (.alt 10 false false (.fl 11 (.fl 13 (.fl 14 .done))) .no) .no))))))))))),true,[],[],none⟩) (.cond none (.seq qd .leaf) .leaf))))))))) (.seq qd (.seq qd (.seq qd (.seq qd (.seq (.seq qd (.block none (.loop ⟨([17]++rg 81 30),[(4,.sl),(15,.sl),(80,.int .i64)],[]⟩ (.seq qd (.seq (.cond none .leaf .leaf) (.seq (.block none (.seq qd (.seq (.reg ⟨(.fl 0 (.fl 1 (.fl 2 (.fl 3 (.fl 4 (.fl 5 (.fl 6 (.fl 7 (.fl 8 (.fl 9 (.fl 10 (.fl 11 (.fl 12 (.fl 13 (.fl 14 (.fl 15 (.fl 16 (.fl 17 (.alt 18 true false (.fl 19 (.alt 20 false false (.alt 21 false false (.fl 22 .done) .no) .no)) .no))))))))))))))))))),true,[],[],none⟩) qd))) qd)))))) (.seq qd .leaf))))))))
theorem JS {a0_0:Sl} {a1:Int} {a2:Int} {a3:Int} {a4:Sl} {V:View} {Q:Value→View→Prop} (h:BB a0_0 a1 a2 a3 a4 V Q):af Tryz.prog 107 ⟨[(.agg ⟨[(.slice a0_0.a a0_0.n a0_0.c)]⟩),(.int .i64 a1),(.int .i64 a2),(.int .i64 a3),(.slice a4.a a4.n a4.c)]⟩ V Q:=
 obx false Tryz.f107 Eb (by kernel_rfl) (by kernel_rfl) (by kernel_rfl) (by kernel_rfl) h
def BC (a0_0:Sl) (a1:Int) (a2:Int) (V:View) (Q:Value→View→Prop):Prop:=
 ∀(b b:Nat),af Tryz.prog 70 ⟨[.agg ⟨[.slice a0_0.a a0_0.n a0_0.c]⟩,.int .i64 a1]⟩ V fun r V=>∃x:Bool,r= .bool x∧br (bif !x then true else decide (a2<0)) (Q (Value.tuple ⟨[.agg ⟨[.slice none 0 0]⟩,.slice none 0 0,.int .i64 1]⟩) V) (br (decide (80<a2)) (Q (Value.tuple ⟨[.agg ⟨[.slice none 0 0]⟩,.slice none 0 0,.int .i64 16]⟩) V) (af Tryz.prog 38 ⟨[.agg ⟨[.slice a0_0.a a0_0.n a0_0.c]⟩]⟩ V fun r V=>∃x:Sl,r= .agg ⟨[.slice x.a x.n x.c]⟩∧∀(b:Nat),0≤a1∧a1<(x.n:Int)∧∃ad:Addr,x.a=some ad∧(16:Int)≠0∧inI .i64 (Int.tdiv a2 (16:Int))∧(16:Int)≠0∧aA [K.bool] (fun J=>∃a:Addr,some (ad.add (a1.toNat*5))=some a∧∃x:Int,V.cell? (a.add (2:Nat))=some (.int .i64 x)∧br (bif decide (a2<x)then decide (0<Int.tmod a2 (16:Int))else false) (∃a:Addr,some (ad.add (a1.toNat*5))=some a∧∃x:Sl,V.cell? (a.add (3:Nat))=some (.slice x.a x.n x.c)∧0≤Int.tdiv a2 (16:Int)∧Int.tdiv a2 16<(x.n:Int)∧∃ad:Addr,x.a=some ad∧∃x:Int,V.cell? (ad.add (Int.toNat (Int.tdiv a2 (16:Int))*1))=some (.int .i64 x)∧J (!decide (x=0)) V) (J false V)) fun x_1 V=>aA [K.sl] (fun J=>br x_1 (∃a:Addr,some (ad.add (a1.toNat*5))=some a∧∃x:Sl,V.cell? (a.add (3:Nat))=some (.slice x.a x.n x.c)∧0≤Int.tdiv a2 (16:Int)∧Int.tdiv a2 16<(x.n:Int)∧∃ad:Addr,x.a=some ad∧∃x:Int,V.cell? (ad.add (Int.toNat (Int.tdiv a2 (16:Int))*1))=some (.int .i64 x)∧b7 V (Obj.cells (Array.mk (bD [.int .i64 0,.int .i64 0,.int .i64 0,.int .i64 0,.int .i64 0,.slice none 0 0] (0:Nat) [.int .i64 a1,.int .i64 (Int.tdiv a2 (16:Int)),.int .i64 x,.int .i64 (Int.tmod a2 (16:Int)),.int .i64 0,.slice none 0 0])) (77:Nat)) fun r V=>J (Sl.mk (some (Addr.mk r 0 none)) (1:Nat) (1:Nat)) V) (J (Sl.mk none (0:Nat) (0:Nat)) V)) fun x_2 V=>∃a:Addr,some (ad.add (a1.toNat*5))=some a∧ay V (a.add (2:Nat)) (nat_lit 1)∧af Tryz.prog 156 ⟨[.int .i64 a2]⟩ (V.sets (a.add (2:Nat)) [.int .i64 a2]) fun r V=>∃x_3:Int,r= .int .i64 x_3∧aG [K.int .i64] (fun(x_4:Int) V J=>br (decide (x_4<5)) (∃a:Addr,some (ad.add (a1.toNat*5))=some a∧∃x:Sl,V.cell? (a.add (3:Nat))=some (.slice x.a x.n x.c)∧0≤x_4∧x_4<(x.n:Int)∧∃ad:Addr,x.a=some ad∧ay V (ad.add (x_4.toNat*1)) (1:Nat)∧inI .i64 (x_4+1)∧J (x_4+1) (V.sets (ad.add (x_4.toNat*1)) [.int .i64 0])) (Q (Value.tuple ⟨[.agg ⟨[.slice x.a x.n x.c]⟩,.slice x_2.a x_2.n x_2.c,.int .i64 0]⟩) V)) (x_3,()) V))
def Ec:AC:=(.seq qd (.seq (.block none (.seq qd (.cond none (.seq qd .leaf) (.seq qd (.cond none (.seq qd .leaf) .leaf))))) (.seq qd (.seq qd (.seq qd (.seq qd (.seq (.seq (.reg ⟨.done,false,[],[],(some ⟨(rg 39 19),[(58,.bool)],[]⟩)⟩) (.cond (some ⟨(rg 59 12),[(11,.sl)],[]⟩) qd .leaf)) (.seq qd (.seq (.seq qd (.block none (.loop ⟨(rg 77 10),[(14,.int .i64)],[]⟩ (.seq (.seq qd (.cond none .leaf .leaf)) (.seq (.block none qd) qd))))) (.seq qd .leaf))))))))))
theorem JT {a0_0:Sl} {a1:Int} {a2:Int} {V:View} {Q:Value→View→Prop} (h:BC a0_0 a1 a2 V Q):af Tryz.prog 108 ⟨[(.agg ⟨[(.slice a0_0.a a0_0.n a0_0.c)]⟩),(.int .i64 a1),(.int .i64 a2)]⟩ V Q:=
 obx false Tryz.f108 Ec (by kernel_rfl) (by kernel_rfl) (by kernel_rfl) (by kernel_rfl) h
def BD (a0_0:Sl) (a1:Int) (a2:Int) (a3:Int) (V:View) (Q:Value→View→Prop):Prop:=
 ∀(b:Nat),af Tryz.prog 70 ⟨[.agg ⟨[.slice a0_0.a a0_0.n a0_0.c]⟩,.int .i64 a1]⟩ V fun r V=>∃x:Bool,r= .bool x∧br (bif bif !x then true else decide (a2<0)then true else decide (a3<0)) (Q (Value.tuple ⟨[.slice none 0 0,.int .i64 1]⟩) V) (0≤a1∧a1<(a0_0.n:Int)∧∃ad:Addr,a0_0.a=some ad∧∃x:Int,V.cell? (Addr.add (ad.add (a1.toNat*5)) (2:Nat))=some (.int .i64 x)∧af Tryz.prog 157 ⟨[.int .i64 x,.int .i64 a2,.int .i64 a3]⟩ V fun r V=>∃x:Int,r= .int .i64 x∧af Tryz.prog 57 ⟨[.int .i64 a2,.int .i64 x]⟩ V fun r V=>∃x:Sl,r= .slice x.a x.n x.c∧Q (Value.tuple ⟨[.slice x.a x.n x.c,.int .i64 0]⟩) V)
def Ed:AC:=(.seq qd (.seq (.seq qd (.cond none (.seq qd .leaf) .leaf)) (.seq qd .leaf)))
theorem JU {a0_0:Sl} {a1:Int} {a2:Int} {a3:Int} {V:View} {Q:Value→View→Prop} (h:BD a0_0 a1 a2 a3 V Q):af Tryz.prog 109 ⟨[(.agg ⟨[(.slice a0_0.a a0_0.n a0_0.c)]⟩),(.int .i64 a1),(.int .i64 a2),(.int .i64 a3)]⟩ V Q:=
 obx false Tryz.f109 Ed (by kernel_rfl) (by kernel_rfl) (by kernel_rfl) (by kernel_rfl) h
def BE (a0_0:Sl) (V:View) (Q:Value→View→Prop):Prop:=
 ∀(b:Nat),af Tryz.prog 111 ⟨[.agg ⟨[.slice a0_0.a a0_0.n a0_0.c]⟩]⟩ V fun r V=>∃x:Bool,r= .bool x∧br x (Q (.int .i64 0) V) (aG [K.int .i64,K.int .i64] (fun(x x_1:Int) (V:View) (J:c7 [K.int .i64,K.int .i64])=>br (decide (x_1<(a0_0.n:Int))) (0≤x_1∧x_1<(a0_0.n:Int)∧∃ad:Addr,a0_0.a=some ad∧∃x_2 x_3 x_4:Int,∃x_5 x_6:Sl,aq V (ad.add (x_1.toNat*5)) [.int .i64 x_2,.int .i64 x_3,.int .i64 x_4,.slice x_5.a x_5.n x_5.c,.slice x_6.a x_6.n x_6.c]∧∀(b:Nat),af Tryz.prog 158 ⟨[.agg ⟨[.int .i64 x_2,.int .i64 x_3,.int .i64 x_4,.slice x_5.a x_5.n x_5.c,.slice x_6.a x_6.n x_6.c]⟩]⟩ V fun r V=>∃x_7:Int,r= .int .i64 x_7∧inI .i64 (x+x_7)∧inI .i64 (x_1+1)∧J (x+x_7) (x_1+1) V) (Q (.int .i64 x) V)) ((0:Int),(0:Int),()) V)
def Ee:AC:=(.seq qd (.seq (.seq qd (.cond none (.seq qd .leaf) .leaf)) (.seq qd (.seq (.seq qd (.block none (.loop ⟨([5]++rg 12 8),[(3,.int .i64),(11,.int .i64)],[]⟩ (.seq qd (.seq (.cond none .leaf .leaf) (.seq (.block none (.seq qd qd)) qd)))))) (.seq qd .leaf)))))
theorem JV {a0_0:Sl} {V:View} {Q:Value→View→Prop} (h:BE a0_0 V Q):af Tryz.prog 110 ⟨[(.agg ⟨[(.slice a0_0.a a0_0.n a0_0.c)]⟩)]⟩ V Q:=
 obx false Tryz.f110 Ee (by kernel_rfl) (by kernel_rfl) (by kernel_rfl) (by kernel_rfl) h
def BF (a0_0:Sl) (V:View) (Q:Value→View→Prop):Prop:=
 ∀(b:Nat),aA [K.bool] (fun J=>br (!decide ((a0_0.n:Int)=12)) (J true V) (af Tryz.prog 112 ⟨[.slice a0_0.a a0_0.n a0_0.c,Value.func (Fn.func (159:Nat)) ⟨[]⟩ ⟨[]⟩]⟩ V fun r V=>∃x:Bool,r= .bool x∧J x V)) fun x V=>Q (.bool x) V
def Ef:AC:=(.seq qd (.seq (.reg ⟨.done,false,[],[],(some ⟨(rg 3 9),[(2,.bool)],[]⟩)⟩) .leaf))
theorem JW {a0_0:Sl} {V:View} {Q:Value→View→Prop} (h:BF a0_0 V Q):af Tryz.prog 111 ⟨[(.agg ⟨[(.slice a0_0.a a0_0.n a0_0.c)]⟩)]⟩ V Q:=
 obx false Tryz.f111 Ef (by kernel_rfl) (by kernel_rfl) (by kernel_rfl) (by kernel_rfl) h
def BG (a0:Sl) (g1:FuncId) (x1:List Value) (y1:List Value) (V:View) (Q:Value→View→Prop):Prop:=
 af Tryz.prog 160 ⟨[.slice a0.a a0.n a0.c,Value.func (Fn.func g1) (Array.mk x1) (Array.mk y1)]⟩ V fun r V=>∃x:Int,r= .int .i64 x∧Q (.bool (decide (0≤x))) V
def Eg:AC:=(.seq qd (.seq qd .leaf))
theorem JX {a0:Sl} {g1:FuncId} {x1:List Value} {y1:List Value} {V:View} {Q:Value→View→Prop} (h:BG a0 g1 x1 y1 V Q):af Tryz.prog 112 ⟨[(.slice a0.a a0.n a0.c),(.func (.func g1) ⟨x1⟩ ⟨y1⟩)]⟩ V Q:=
 obx false Tryz.f112 Eg (by kernel_rfl) (by kernel_rfl) (by kernel_rfl) (by kernel_rfl) h
def BH (a0_0:Int) (a0_1:Int) (a0_2:Int) (a0_3:Sl) (a0_4:Sl) (V:View) (Q:Value→View→Prop):Prop:=
 ∀(b:Nat),af Tryz.prog 114 ⟨[.agg ⟨[.int .i64 a0_0,.int .i64 a0_1,.int .i64 a0_2,.slice a0_3.a a0_3.n a0_3.c,.slice a0_4.a a0_4.n a0_4.c]⟩]⟩ V fun r V=>∃x:Bool,r= .bool x∧Q (.bool !x) V
def Eh:AC:=(.seq qd (.seq qd .leaf))
theorem JY {a0_0:Int} {a0_1:Int} {a0_2:Int} {a0_3:Sl} {a0_4:Sl} {V:View} {Q:Value→View→Prop} (h:BH a0_0 a0_1 a0_2 a0_3 a0_4 V Q):af Tryz.prog 113 ⟨[(.agg ⟨[(.int .i64 a0_0),(.int .i64 a0_1),(.int .i64 a0_2),(.slice a0_3.a a0_3.n a0_3.c),(.slice a0_4.a a0_4.n a0_4.c)]⟩)]⟩ V Q:=
 obx false Tryz.f113 Eh (by kernel_rfl) (by kernel_rfl) (by kernel_rfl) (by kernel_rfl) h
def BJ (a0_0:Int) (a0_1:Int) (a0_2:Int) (a0_3:Sl) (a0_4:Sl) (V:View) (Q:Value→View→Prop):Prop:=
 ∀(b:Nat),br (decide (a0_0=0)) (Q (.bool (bif bif bif decide (a0_1=0)then decide (a0_2=0)else false then decide ((a0_3.n:Int)=0)else false then decide ((a0_4.n:Int)=0)else false)) V) (br (decide (a0_0=1)) (af Tryz.prog 161 ⟨[.agg ⟨[.int .i64 a0_0,.int .i64 a0_1,.int .i64 a0_2,.slice a0_3.a a0_3.n a0_3.c,.slice a0_4.a a0_4.n a0_4.c]⟩]⟩ V fun r V=>∃x:Bool,r= .bool x∧Q (.bool x) V) (br (decide (a0_0=2)) (aA [K.bool] (fun J=>br (bif bif decide (a0_1=1)then decide (a0_2=0)else false then decide ((a0_3.n:Int)=0)else false) (af Tryz.prog 162 ⟨[.slice a0_4.a a0_4.n a0_4.c]⟩ V fun r V=>∃x:Bool,r= .bool x∧J x V) (J false V)) fun x V=>Q (.bool x) V) (Q (.bool false) V)))
def Ei:AC:=(.seq qd (.seq (.seq qd (.block none (.seq qd (.cond none (.seq qd .leaf) (.seq qd (.cond none (.seq qd .leaf) (.seq qd (.cond none (.seq (.reg ⟨.done,false,[],[],(some ⟨(rg 33 19),[(2,.bool)],[]⟩)⟩) .leaf) .leaf)))))))) (.seq qd .leaf)))
theorem JZ {a0_0:Int} {a0_1:Int} {a0_2:Int} {a0_3:Sl} {a0_4:Sl} {V:View} {Q:Value→View→Prop} (h:BJ a0_0 a0_1 a0_2 a0_3 a0_4 V Q):af Tryz.prog 114 ⟨[(.agg ⟨[(.int .i64 a0_0),(.int .i64 a0_1),(.int .i64 a0_2),(.slice a0_3.a a0_3.n a0_3.c),(.slice a0_4.a a0_4.n a0_4.c)]⟩)]⟩ V Q:=
 obx false Tryz.f114 Ei (by kernel_rfl) (by kernel_rfl) (by kernel_rfl) (by kernel_rfl) h
def BK (a0_0:Sl) (V:View) (Q:Value→View→Prop):Prop:=
 ∀(b:Nat),0≤(a0_0.n:Int)∧(a0_0.n:Int)≤(a0_0.n:Int)∧(a0_0.n:Int)*(↑(TypeInfo.bytes (Tables.types (Program.toTables Tryz.prog))[(3:Nat)]):Int)≤140737488355328∧(a0_0.n:Int)≤140737488355328∧b7 V (Obj.cells (Array.mk (List.flatten (List.replicate (Int.toNat (a0_0.n:Int)) [.int .i64 0]))) (3:Nat)) fun r V=>aG [K.int .i64] (fun(x:Int) V J=>br (decide (x<(a0_0.n:Int))) (0≤x∧x<(a0_0.n:Int)∧∃ad:Addr,a0_0.a=some ad∧∃x_1 x_2 x_3:Int,∃x_4 x_5:Sl,aq V (ad.add (x.toNat*5)) [.int .i64 x_1,.int .i64 x_2,.int .i64 x_3,.slice x_4.a x_4.n x_4.c,.slice x_5.a x_5.n x_5.c]∧∀(b:Nat),aG [K.int .i64] (fun(x_6:Int) V J_1=>br (decide (x_6<(x_5.n:Int))) (0≤x_6∧x_6<(x_5.n:Int)∧∃ad:Addr,x_5.a=some ad∧∃x:ByteArray,∃x_7:Int,aq V (ad.add (x_6.toNat*2)) [.string x,.int .i64 x_7]∧∀(b:Nat),aA [] (fun J=>br (bif decide (0≤x_7)then decide (x_7<(↑(Int.toNat (a0_0.n:Int)):Int))else false) (0≤x_7∧x_7<(↑(Int.toNat (a0_0.n:Int)):Int)∧∃ad:Addr,some (Addr.mk r 0 none)=some ad∧∃x:Int,V.cell? (ad.add (x_7.toNat*1))=some (.int .i64 x)∧inI .i64 (x+1)∧0≤x_7∧x_7<(↑(Int.toNat (a0_0.n:Int)):Int)∧∃ad:Addr,some (Addr.mk r 0 none)=some ad∧ay V (ad.add (x_7.toNat*1)) (nat_lit 1)∧J (V.sets (ad.add (x_7.toNat*1)) [.int .i64 (x+1)])) (J V)) fun(V:View)=>inI .i64 (x_6+1)∧J_1 (x_6+1) V) (inI .i64 (x+1)∧J (x+1) V)) ((0:Int),()) V) (Q (.slice (some (Addr.mk r 0 none)) (Int.toNat (a0_0.n:Int)) (Int.toNat (a0_0.n:Int))) V)) ((0:Int),()) V
def Ej:AC:=(.seq qd (.seq qd (.seq (.seq qd (.block none (.loop ⟨([5,7]++rg 16 29),[(15,.int .i64)],[]⟩ (.seq qd (.seq (.cond none .leaf .leaf) (.seq (.block none (.seq qd (.seq qd (.block none (.loop ⟨([7]++rg 23 21),[(22,.int .i64)],[]⟩ (.seq qd (.seq (.cond none .leaf .leaf) (.seq (.block none (.seq qd (.seq qd (.cond (some ⟨(rg 36 7),[],[]⟩) qd .leaf)))) qd)))))))) qd)))))) (.seq qd .leaf))))
theorem J0 {a0_0:Sl} {V:View} {Q:Value→View→Prop} (h:BK a0_0 V Q):af Tryz.prog 115 ⟨[(.agg ⟨[(.slice a0_0.a a0_0.n a0_0.c)]⟩)]⟩ V Q:=
 obx false Tryz.f115 Ej (by kernel_rfl) (by kernel_rfl) (by kernel_rfl) (by kernel_rfl) h
def BL (a0_0:Sl) (a1:Int) (V:View) (Q:Value→View→Prop):Prop:=
 ∀(b:Nat),0≤(a0_0.n:Int)∧(a0_0.n:Int)≤(a0_0.n:Int)∧(a0_0.n:Int)*(↑(TypeInfo.bytes (Tables.types (Program.toTables Tryz.prog))[(4:Nat)]):Int)≤140737488355328∧(a0_0.n:Int)≤140737488355328∧b7 V (Obj.cells (Array.mk (List.flatten (List.replicate (Int.toNat (a0_0.n:Int)) [.bool false]))) (4:Nat)) fun r V=>b7 V (Obj.cells (Array.mk (bD [.int .i64 0] (0:Nat) [.int .i64 a1])) (3:Nat)) fun r_1 V=>0≤a1∧a1<(↑(Int.toNat (a0_0.n:Int)):Int)∧∃ad:Addr,some (Addr.mk r 0 none)=some ad∧ay V (ad.add (a1.toNat*1)) (1:Nat)∧aG [K.sl] (fun x V J=>br (decide (0<(x.n:Int))) (inI .i64 ((x.n:Int)-1)∧0≤(x.n:Int)-1∧(x.n:Int)-1<(x.n:Int)∧∃ad:Addr,x.a=some ad∧∃x_1:Int,V.cell? (ad.add (Int.toNat ((x.n:Int)-1)*1))=some (.int .i64 x_1)∧inI .i64 ((x.n:Int)-1)∧(0:Int)≤0∧0≤(x.n:Int)-1∧(x.n:Int)-1≤(↑x.c:Int)∧0≤x_1∧x_1<(a0_0.n:Int)∧∃ad:Addr,a0_0.a=some ad∧∃x_2:Sl,V.cell? (Addr.add (ad.add (x_1.toNat*5)) (4:Nat))=some (.slice x_2.a x_2.n x_2.c)∧aG [K.sl,K.int .i64] (fun(x:Sl) (x_3:Int) (V:View) (J_1:c7 [K.sl,K.int .i64])=>br (decide (x_3<(x_2.n:Int))) (0≤x_3∧x_3<(x_2.n:Int)∧∃ad:Addr,x_2.a=some ad∧∃x_4:ByteArray,∃x_5:Int,aq V (ad.add (x_3.toNat*2)) [.string x_4,.int .i64 x_5]∧∀(b:Nat),0≤x_5∧x_5<(↑(Int.toNat (a0_0.n:Int)):Int)∧∃ad:Addr,some (Addr.mk r 0 none)=some ad∧∃x_6:Bool,V.cell? (ad.add (x_5.toNat*1))=some (.bool x_6)∧aA [K.sl] (fun J=>br (!x_6) (0≤x_5∧x_5<(↑(Int.toNat (a0_0.n:Int)):Int)∧∃ad:Addr,some (Addr.mk r 0 none)=some ad∧ay V (ad.add (x_5.toNat*1)) (1:Nat)∧b7 (V.sets (ad.add (x_5.toNat*1)) [.bool true]) (Obj.cells (Array.mk (bD [.int .i64 0] (0:Nat) [.int .i64 x_5])) (3:Nat)) fun r V=>apV V (3:Nat) (1:Nat) (8:Nat) [.int .i64 0] (Sl.mk x.a x.n x.c) (.slice (some (Addr.mk r 0 none)) (1:Nat) (1:Nat)) fun s V=>J (Sl.mk s.a s.n s.c) V) (J (Sl.mk x.a x.n x.c) V)) fun x V=>inI .i64 (x_3+1)∧J_1 (Sl.mk x.a x.n x.c) (x_3+1) V) (J (Sl.mk x.a x.n x.c) V)) (Sl.mk (if x.c=(0:Nat)then x.a else Option.map (fun(x:Addr)=>x.add (0:Nat)) x.a) (Int.toNat ((x.n:Int)-1)-(0:Nat)) (x.c-(0:Nat)),(0:Int),()) V) (Q (.slice (some (Addr.mk r 0 none)) (Int.toNat (a0_0.n:Int)) (Int.toNat (a0_0.n:Int))) V)) (Sl.mk (some (Addr.mk r_1 0 none)) (1:Nat) (1:Nat),()) (V.sets (ad.add (a1.toNat*1)) [.bool true])
def Ek:AC:=(.seq qd (.seq qd (.seq qd (.seq qd (.seq (.block none (.loop ⟨([7,9]++rg 19 41),[(6,.sl)],[]⟩ (.seq (.seq qd (.cond none .leaf .leaf)) (.block none (.seq qd (.seq qd (.seq qd (.block none (.loop ⟨([9]++rg 41 19),[(6,.sl),(40,.int .i64)],[]⟩ (.seq qd (.seq (.cond none .leaf .leaf) (.seq (.block none (.seq qd (.seq qd (.cond (some ⟨(rg 50 9),[(6,.sl)],[]⟩) (.seq qd qd) .leaf)))) qd)))))))))))) (.seq qd .leaf))))))
theorem J1 {a0_0:Sl} {a1:Int} {V:View} {Q:Value→View→Prop} (h:BL a0_0 a1 V Q):af Tryz.prog 116 ⟨[(.agg ⟨[(.slice a0_0.a a0_0.n a0_0.c)]⟩),(.int .i64 a1)]⟩ V Q:=
 obx false Tryz.f116 Ek (by kernel_rfl) (by kernel_rfl) (by kernel_rfl) (by kernel_rfl) h
def BM (a0_0:Int) (a0_1:Int) (a0_2:Int) (a0_3:Sl) (a0_4:Sl) (a1:Int) (a2:Int) (a3:Bool) (V:View) (Q:Value→View→Prop):Prop:=
 ∀(b:Nat),br (decide (a0_0=2)) (Q (.bool (bif a3 then bif decide (a1=0)then true else decide (a2=1)else false)) V) (br (decide (a0_0=1)) (Q (.bool (decide (a0_1=a2))) V) (Q (.bool (decide (a2=0))) V))
def El:AC:=(.seq qd (.seq (.seq qd (.block none (.seq qd (.cond none (.seq qd .leaf) (.seq qd (.cond none (.seq qd .leaf) .leaf)))))) (.seq qd .leaf)))
theorem J2 {a0_0:Int} {a0_1:Int} {a0_2:Int} {a0_3:Sl} {a0_4:Sl} {a1:Int} {a2:Int} {a3:Bool} {V:View} {Q:Value→View→Prop} (h:BM a0_0 a0_1 a0_2 a0_3 a0_4 a1 a2 a3 V Q):af Tryz.prog 117 ⟨[(.agg ⟨[(.int .i64 a0_0),(.int .i64 a0_1),(.int .i64 a0_2),(.slice a0_3.a a0_3.n a0_3.c),(.slice a0_4.a a0_4.n a0_4.c)]⟩),(.int .i64 a1),(.int .i64 a2),(.bool a3)]⟩ V Q:=
 obx false Tryz.f117 El (by kernel_rfl) (by kernel_rfl) (by kernel_rfl) (by kernel_rfl) h
def BN (a0_0:Sl) (V:View) (Q:Value→View→Prop):Prop:=
 ∀(b:Nat),b7 V (Obj.map ⟨[]⟩ (0:Nat)) fun r V=>aG [K.int .i64] (fun(x:Int) V J=>br (decide (x<(a0_0.n:Int))) (0≤x∧x<(a0_0.n:Int)∧∃ad:Addr,a0_0.a=some ad∧∃x_1 x_2 x_3:Int,∃x_4 x_5:Sl,aq V (ad.add (x.toNat*5)) [.int .i64 x_1,.int .i64 x_2,.int .i64 x_3,.slice x_4.a x_4.n x_4.c,.slice x_5.a x_5.n x_5.c]∧∀(b:Nat),aG [K.int .i64] (fun(x_6:Int) V J_1=>br (decide (x_6<(x_4.n:Int))) (0≤x_6∧x_6<(x_4.n:Int)∧∃ad:Addr,x_4.a=some ad∧∃x:Int,V.cell? (ad.add (x_6.toNat*1))=some (.int .i64 x)∧True∧AP V (some r) (.int .i64 x) fun(f:Option (Nat×Value))=>∃x_7:Int,found (.int .i64 0) f= .int .i64 x_7∧inI .i64 (x_7+1)∧True∧AQ V (some r) (.int .i64 x) fun(r_1:Nat) (es:Array MapEntry) (cl:Nat) (f:Option (Nat×Value))=>aA [K.bool] (fun J=>br (!decide (x=0)) (True∧AP (V.put r_1 (j8 es cl f (.int .i64 x) (.int .i64 (x_7+1)))) (some r) (.int .i64 x) fun(f_1:Option (Nat×Value))=>∃x_8:Int,found (.int .i64 0) f_1= .int .i64 x_8∧J (decide (1<x_8)) (V.put r_1 (j8 es cl f (.int .i64 x) (.int .i64 (x_7+1))))) (J false (V.put r_1 (j8 es cl f (.int .i64 x) (.int .i64 (x_7+1)))))) fun x V=>br x (Q (.bool false) V) (inI .i64 (x_6+1)∧J_1 (x_6+1) V)) (inI .i64 (x+1)∧J (x+1) V)) ((0:Int),()) V) (Q (.bool true) V)) ((0:Int),()) V
def Em:AC:=(.seq qd (.seq qd (.seq (.seq qd (.block none (.loop ⟨([5,7]++rg 13 24),[(12,.int .i64)],[]⟩ (.seq qd (.seq (.cond none .leaf .leaf) (.seq (.block none (.seq qd (.seq qd (.block none (.loop ⟨([7]++rg 20 16),[(19,.int .i64)],[]⟩ (.seq qd (.seq (.cond none .leaf .leaf) (.seq (.block none (.seq qd (.seq qd (.seq (.reg ⟨.done,false,[],[],(some ⟨(rg 27 7),[(34,.bool)],[]⟩)⟩) (.cond none (.seq qd .leaf) .leaf))))) qd)))))))) qd)))))) (.seq qd .leaf))))
theorem J3 {a0_0:Sl} {V:View} {Q:Value→View→Prop} (h:BN a0_0 V Q):af Tryz.prog 118 ⟨[(.agg ⟨[(.slice a0_0.a a0_0.n a0_0.c)]⟩)]⟩ V Q:=
 obx false Tryz.f118 Em (by kernel_rfl) (by kernel_rfl) (by kernel_rfl) (by kernel_rfl) h
def BO (a0:Sl) (V:View) (Q:Value→View→Prop):Prop:=
 br (Option.isNone a0.a) (Q (.slice none 0 0) V) (b7 V (Obj.cells ⟨[]⟩ (85:Nat)) fun r V=>apV V (85:Nat) (2:Nat) (24:Nat) [.string ⟨#[]⟩,.int .i64 0] (Sl.mk (some (Addr.mk r 0 none)) (0:Nat) (0:Nat)) (.slice a0.a a0.n a0.c) fun s V=>Q (.slice s.a s.n s.c) V)
def En:AC:=(.seq qd (.seq (.seq qd (.cond none (.seq qd .leaf) .leaf)) (.seq qd .leaf)))
theorem J4 {a0:Sl} {V:View} {Q:Value→View→Prop} (h:BO a0 V Q):af Tryz.prog 119 ⟨[(.slice a0.a a0.n a0.c)]⟩ V Q:=
 obx false Tryz.f119 En (by kernel_rfl) (by kernel_rfl) (by kernel_rfl) (by kernel_rfl) h
def BP (a0:Sl) (a1:Sl) (V:View) (Q:Value→View→Prop):Prop:=
 br (!decide ((a0.n:Int)=(a1.n:Int))) (Q (.bool false) V) (aG [K.int .i64] (fun(x:Int) V J=>br (decide (x<(a0.n:Int))) (True∧∃S:View,S.Le V∧0≤x∧x<(a0.n:Int)∧∃ad:Addr,a0.a=some ad∧∃x_1:Int,S.cell? (ad.add (x.toNat*1))=some (.int .i64 x_1)∧0≤x∧x<(a1.n:Int)∧∃ad:Addr,a1.a=some ad∧∃x_2:Int,S.cell? (ad.add (x.toNat*1))=some (.int .i64 x_2)∧br (!decide (x_1=x_2)) (Q (.bool false) V) (inI .i64 (x+1)∧J (x+1) V)) (Q (.bool true) V)) ((0:Int),()) V)
def Eo:AC:=(.seq qd (.seq (.seq qd (.cond none (.seq qd .leaf) .leaf)) (.seq (.seq qd (.block none (.loop ⟨([5]++rg 14 12),[(13,.int .i64)],[]⟩ (.seq qd (.seq (.cond none .leaf .leaf) (.seq (.block none (.seq qd (.seq (.reg ⟨(.fl 0 (.fl 1 (.fl 2 (.fl 3 (.fl 4 (.fl 5 (.fl 6 (.fl 7 (.fl 8 .done))))))))),true,[],[],none⟩) (.cond none (.seq qd .leaf) .leaf)))) qd)))))) (.seq qd .leaf))))
theorem J5 {a0:Sl} {a1:Sl} {V:View} {Q:Value→View→Prop} (h:BP a0 a1 V Q):af Tryz.prog 120 ⟨[(.slice a0.a a0.n a0.c),(.slice a1.a a1.n a1.c)]⟩ V Q:=
 obx false Tryz.f120 Eo (by kernel_rfl) (by kernel_rfl) (by kernel_rfl) (by kernel_rfl) h
def BQ (a0:Sl) (a1:Sl) (V:View) (Q:Value→View→Prop):Prop:=
 br (!decide ((a0.n:Int)=(a1.n:Int))) (Q (.bool false) V) (aG [K.int .i64] (fun(x:Int) V J=>br (decide (x<(a0.n:Int))) (True∧∃S:View,S.Le V∧0≤x∧x<(a0.n:Int)∧∃ad:Addr,a0.a=some ad∧∃x_1:ByteArray,∃x_2:Int,aq S (ad.add (x.toNat*2)) [.string x_1,.int .i64 x_2]∧0≤x∧x<(a1.n:Int)∧∃ad:Addr,a1.a=some ad∧∃x_3:ByteArray,∃x_4:Int,aq S (ad.add (x.toNat*2)) [.string x_3,.int .i64 x_4]∧True∧br (!(decide (x_1=x_3)&&(decide (x_2=x_4)&&true))) (Q (.bool false) V) (inI .i64 (x+1)∧J (x+1) V)) (Q (.bool true) V)) ((0:Int),()) V)
def Ep:AC:=(.seq qd (.seq (.seq qd (.cond none (.seq qd .leaf) .leaf)) (.seq (.seq qd (.block none (.loop ⟨([5]++rg 14 12),[(13,.int .i64)],[]⟩ (.seq qd (.seq (.cond none .leaf .leaf) (.seq (.block none (.seq qd (.seq (.reg ⟨(.fl 0 (.fl 1 (.fl 2 (.fl 3 (.fl 4 (.fl 5 (.fl 6 (.fl 7 (.fl 8 .done))))))))),true,[],[],none⟩) (.cond none (.seq qd .leaf) .leaf)))) qd)))))) (.seq qd .leaf))))
theorem J6 {a0:Sl} {a1:Sl} {V:View} {Q:Value→View→Prop} (h:BQ a0 a1 V Q):af Tryz.prog 121 ⟨[(.slice a0.a a0.n a0.c),(.slice a1.a a1.n a1.c)]⟩ V Q:=
 obx false Tryz.f121 Ep (by kernel_rfl) (by kernel_rfl) (by kernel_rfl) (by kernel_rfl) h
def BR (a0:ByteArray) (V:View) (Q:Value→View→Prop):Prop:=
 br (bif bif bif decide ((↑(ByteArray.size a0):Int)<1)then true else decide (8<(↑(ByteArray.size a0):Int))then true else decide (a0=ByteArray.mk #[46])then true else decide (a0=ByteArray.mk #[46,46])) (Q (.bool false) V) (aG [K.int .i64] (fun(x:Int) V J=>br (decide (x<(↑(ByteArray.size a0):Int))) (0≤x∧x<(↑(ByteArray.size a0):Int)∧br (bif bif bif bif bif decide ((↑(UInt8.toNat (List.getD (Array.toList (ByteArray.data a0)) (x.toNat) 0)):Int)<97)then true else decide (122<(↑(UInt8.toNat (List.getD (Array.toList (ByteArray.data a0)) (x.toNat) 0)):Int))then bif decide ((↑(UInt8.toNat (List.getD (Array.toList (ByteArray.data a0)) (x.toNat) 0)):Int)<48)then true else decide (57<(↑(UInt8.toNat (List.getD (Array.toList (ByteArray.data a0)) (x.toNat) 0)):Int))else false then !decide ((↑(UInt8.toNat (List.getD (Array.toList (ByteArray.data a0)) (x.toNat) 0)):Int)=46)else false then !decide ((↑(UInt8.toNat (List.getD (Array.toList (ByteArray.data a0)) (x.toNat) 0)):Int)=95)else false then !decide ((↑(UInt8.toNat (List.getD (Array.toList (ByteArray.data a0)) (x.toNat) 0)):Int)=45)else false) (Q (.bool false) V) (inI .i64 (x+1)∧J (x+1) V)) (Q (.bool true) V)) ((0:Int),()) V)
def Er:AC:=(.seq qd (.seq (.seq qd (.cond none (.seq qd .leaf) .leaf)) (.seq (.seq qd (.block none (.loop ⟨([3,4]++rg 24 32),[(23,.int .i64)],[]⟩ (.seq qd (.seq (.cond none .leaf .leaf) (.seq (.block none (.seq qd (.seq qd (.seq qd (.cond none (.seq qd .leaf) .leaf))))) qd)))))) (.seq qd .leaf))))
theorem J7 {a0:ByteArray} {V:View} {Q:Value→View→Prop} (h:BR a0 V Q):af Tryz.prog 122 ⟨[(.string a0)]⟩ V Q:=
 obx false Tryz.f122 Er (by kernel_rfl) (by kernel_rfl) (by kernel_rfl) (by kernel_rfl) h
def xN (a0_0:Int) (a0_1:Int) (a0_2:Int) (a0_3:Sl) (a0_4:Sl) (V:View) (Q:Value→View→Prop):Prop:=
 ∀(b b:Nat),True∧∃S:View,S.Le V∧apV V (3:Nat) (1:Nat) (8:Nat) [.int .i64 0] (Sl.mk none (0:Nat) (0:Nat)) (.slice a0_3.a a0_3.n a0_3.c) fun s V=>S.Le V∧apV V (85:Nat) (2:Nat) (24:Nat) [.string ⟨#[]⟩,.int .i64 0] (Sl.mk none (0:Nat) (0:Nat)) (.slice a0_4.a a0_4.n a0_4.c) fun s_1 V=>Q (.agg ⟨[.int .i64 a0_0,.int .i64 a0_1,.int .i64 a0_2,.slice s.a s.n s.c,.slice s_1.a s_1.n s_1.c]⟩) V
def Es:AC:=(.seq qd (.seq (.reg ⟨(.fl 0 (.fl 1 (.fl 3 (.fl 4 (.alt 2 true false (.fl 6 (.alt 5 false false (.alt 7 false false (.fl 8 (.alt 9 false false .done .no)) .no) .no)) .no))))),true,[],[],none⟩) (.seq qd .leaf)))
theorem BS {a0_0:Int} {a0_1:Int} {a0_2:Int} {a0_3:Sl} {a0_4:Sl} {V:View} {Q:Value→View→Prop} (h:xN a0_0 a0_1 a0_2 a0_3 a0_4 V Q):af Tryz.prog 123 ⟨[(.agg ⟨[(.int .i64 a0_0),(.int .i64 a0_1),(.int .i64 a0_2),(.slice a0_3.a a0_3.n a0_3.c),(.slice a0_4.a a0_4.n a0_4.c)]⟩)]⟩ V Q:=
 obx false Tryz.f123 Es (by kernel_rfl) (by kernel_rfl) (by kernel_rfl) (by kernel_rfl) h
def BT (a0_0:Sl) (a1:ByteArray) (a2:Int) (V:View) (Q:Value→View→Prop):Prop:=
 ∀(b b:Nat),af Tryz.prog 125 ⟨[.agg ⟨[.slice a0_0.a a0_0.n a0_0.c]⟩,.string a1]⟩ V fun r V=>∃x:Int,∃x_1:ByteArray,∃x_2:Int,r=Value.tuple ⟨[.int .i64 x,.string x_1,.int .i64 x_2]⟩∧br (!decide (x_2=0)) (Q (Value.tuple ⟨[.agg ⟨[.slice none 0 0]⟩,.int .i64 x_2]⟩) V) (0≤x∧x<(a0_0.n:Int)∧∃ad:Addr,a0_0.a=some ad∧∃x_3:Sl,V.cell? (Addr.add (ad.add (x.toNat*5)) (4:Nat))=some (.slice x_3.a x_3.n x_3.c)∧af Tryz.prog 126 ⟨[.slice x_3.a x_3.n x_3.c,.string x_1]⟩ V fun r V=>∃x_4:Int,r= .int .i64 x_4∧br (decide (0≤x_4)) (Q (Value.tuple ⟨[.agg ⟨[.slice none 0 0]⟩,.int .i64 9]⟩) V) (af Tryz.prog 163 ⟨[.agg ⟨[.slice a0_0.a a0_0.n a0_0.c]⟩]⟩ V fun r V=>∃x_5:Int,r= .int .i64 x_5∧aA [K.bool] (fun J=>br (decide (x_5<0)) (J true V) (0≤x∧x<(a0_0.n:Int)∧∃ad:Addr,a0_0.a=some ad∧∃x_6:Sl,V.cell? (Addr.add (ad.add (x.toNat*5)) (4:Nat))=some (.slice x_6.a x_6.n x_6.c)∧J (decide (10≤(x_6.n:Int))) V)) fun x_6 V=>br x_6 (Q (Value.tuple ⟨[.agg ⟨[.slice none 0 0]⟩,.int .i64 14]⟩) V) (af Tryz.prog 77 ⟨[.agg ⟨[.slice a0_0.a a0_0.n a0_0.c]⟩]⟩ V fun r V=>∃x_7:Sl,r= .agg ⟨[.slice x_7.a x_7.n x_7.c]⟩∧∀(b:Nat),True∧∃S:View,S.Le V∧af Tryz.prog 75 ⟨[.int .i64 a2]⟩ V fun r V=>∃x_8 x_9 x_10:Int,∃x_11 x_12:Sl,r= .agg ⟨[.int .i64 x_8,.int .i64 x_9,.int .i64 x_10,.slice x_11.a x_11.n x_11.c,.slice x_12.a x_12.n x_12.c]⟩∧S.Le V∧0≤x_5∧x_5<(x_7.n:Int)∧∃ad:Addr,x_7.a=some ad∧ay V (ad.add (x_5.toNat*5)) (Nat.succ (Nat.succ (Nat.succ (Nat.succ (nat_lit 1)))))∧True∧∃S:View,S.Le (V.sets (ad.add (x_5.toNat*5)) [.int .i64 x_8,.int .i64 x_9,.int .i64 x_10,.slice x_11.a x_11.n x_11.c,.slice x_12.a x_12.n x_12.c])∧0≤x∧x<(a0_0.n:Int)∧∃ad_1:Addr,a0_0.a=some ad_1∧∃x_13:Sl,S.cell? (Addr.add (ad_1.add (x.toNat*5)) (4:Nat))=some (.slice x_13.a x_13.n x_13.c)∧af Tryz.prog 130 ⟨[.slice x_13.a x_13.n x_13.c,.string x_1,.int .i64 x_5]⟩ (V.sets (ad.add (x_5.toNat*5)) [.int .i64 x_8,.int .i64 x_9,.int .i64 x_10,.slice x_11.a x_11.n x_11.c,.slice x_12.a x_12.n x_12.c]) fun r V=>∃x_14:Sl,∃x_15:Int,r=Value.tuple ⟨[.slice x_14.a x_14.n x_14.c,.int .i64 x_15]⟩∧S.Le V∧0≤x∧x<(x_7.n:Int)∧∃ad:Addr,x_7.a=some ad∧ay V (Addr.add (ad.add (x.toNat*5)) (4:Nat)) (nat_lit 1)∧Q (Value.tuple ⟨[.agg ⟨[.slice x_7.a x_7.n x_7.c]⟩,.int .i64 0]⟩) (V.sets (Addr.add (ad.add (x.toNat*5)) (4:Nat)) [.slice x_14.a x_14.n x_14.c]))))
def Et:AC:=(.seq qd (.seq qd (.seq (.seq qd (.cond none (.seq qd .leaf) .leaf)) (.seq (.seq qd (.cond none (.seq qd .leaf) .leaf)) (.seq qd (.seq (.seq (.reg ⟨.done,false,[],[],(some ⟨(rg 36 11),[(47,.bool)],[]⟩)⟩) (.cond none (.seq qd .leaf) .leaf)) (.seq qd (.seq (.reg ⟨(.fl 0 (.fl 1 (.fl 2 (.fl 3 (.alt 4 true false (.fl 5 (.alt 6 false false .done .no)) .no))))),true,[],[],none⟩) (.seq (.reg ⟨(.fl 0 (.fl 1 (.fl 2 (.fl 3 (.fl 4 (.fl 5 (.fl 6 (.fl 7 (.fl 8 (.fl 9 (.fl 10 (.alt 11 true false (.fl 12 (.fl 13 (.fl 14 (.fl 15 (.fl 16 (.alt 17 false false .done .no)))))) .no)))))))))))),true,[],[],none⟩) (.seq qd .leaf))))))))))
theorem J8 {a0_0:Sl} {a1:ByteArray} {a2:Int} {V:View} {Q:Value→View→Prop} (h:BT a0_0 a1 a2 V Q):af Tryz.prog 124 ⟨[(.agg ⟨[(.slice a0_0.a a0_0.n a0_0.c)]⟩),(.string a1),(.int .i64 a2)]⟩ V Q:=
 obx false Tryz.f124 Et (by kernel_rfl) (by kernel_rfl) (by kernel_rfl) (by kernel_rfl) h
def BU (a0_0:Sl) (a1:ByteArray) (V:View) (Q:Value→View→Prop):Prop:=
 ∀(b:Nat),af Tryz.prog 18 ⟨[.agg ⟨[.slice a0_0.a a0_0.n a0_0.c]⟩]⟩ V fun r V=>∃x:Bool,r= .bool x∧br (!x) (Q (Value.tuple ⟨[.int .i64 0,.string ⟨#[]⟩,.int .i64 1]⟩) V) (af Tryz.prog 164 ⟨[.string a1]⟩ V fun r V=>∃x x_1:ByteArray,∃x_2:Int,r=Value.tuple ⟨[.string x,.string x_1,.int .i64 x_2]⟩∧br (!decide (x_2=0)) (Q (Value.tuple ⟨[.int .i64 0,.string ⟨#[]⟩,.int .i64 x_2]⟩) V) (af Tryz.prog 131 ⟨[.string x]⟩ V fun r V=>∃x:Sl,∃x_3:Int,r=Value.tuple ⟨[.slice x.a x.n x.c,.int .i64 x_3]⟩∧af Tryz.prog 132 ⟨[.agg ⟨[.slice a0_0.a a0_0.n a0_0.c]⟩,.slice x.a x.n x.c]⟩ V fun r V=>∃x x_4:Int,r=Value.tuple ⟨[.int .i64 x,.int .i64 x_4]⟩∧br (!decide (x_4=0)) (Q (Value.tuple ⟨[.int .i64 0,.string ⟨#[]⟩,.int .i64 x_4]⟩) V) (0≤x∧x<(a0_0.n:Int)∧∃ad:Addr,a0_0.a=some ad∧∃x_5:Int,V.cell? (Addr.add (ad.add (x.toNat*5)) (0:Nat))=some (.int .i64 x_5)∧br (!decide (x_5=2)) (Q (Value.tuple ⟨[.int .i64 0,.string ⟨#[]⟩,.int .i64 11]⟩) V) (Q (Value.tuple ⟨[.int .i64 x,.string x_1,.int .i64 0]⟩) V))))
def Eu:AC:=(.seq qd (.seq (.seq qd (.cond none (.seq qd .leaf) .leaf)) (.seq qd (.seq (.seq qd (.cond none (.seq qd .leaf) .leaf)) (.seq qd (.seq qd (.seq (.seq qd (.cond none (.seq qd .leaf) .leaf)) (.seq (.seq qd (.cond none (.seq qd .leaf) .leaf)) (.seq qd .leaf)))))))))
theorem J9 {a0_0:Sl} {a1:ByteArray} {V:View} {Q:Value→View→Prop} (h:BU a0_0 a1 V Q):af Tryz.prog 125 ⟨[(.agg ⟨[(.slice a0_0.a a0_0.n a0_0.c)]⟩),(.string a1)]⟩ V Q:=
 obx false Tryz.f125 Eu (by kernel_rfl) (by kernel_rfl) (by kernel_rfl) (by kernel_rfl) h
def BV (a0:Sl) (a1:ByteArray) (V:View) (Q:Value→View→Prop):Prop:=
 aG [K.int .i64] (fun(x:Int) V J=>br (decide (x<(a0.n:Int))) (0≤x∧x<(a0.n:Int)∧∃ad:Addr,a0.a=some ad∧∃x_1:ByteArray,∃x_2:Int,aq V (ad.add (x.toNat*2)) [.string x_1,.int .i64 x_2]∧∀(b:Nat),br (decide (x_1=a1)) (Q (.int .i64 x_2) V) (inI .i64 (x+1)∧J (x+1) V)) (Q (.int .i64 (-1)) V)) ((0:Int),()) V
def Ev:AC:=(.seq qd (.seq (.seq qd (.block none (.loop ⟨([6]++rg 10 7++ [19]),[(9,.int .i64)],[]⟩ (.seq qd (.seq (.cond none .leaf .leaf) (.seq (.block none (.seq qd (.seq qd (.cond none (.seq qd .leaf) .leaf)))) qd)))))) (.seq qd .leaf)))
theorem Ka {a0:Sl} {a1:ByteArray} {V:View} {Q:Value→View→Prop} (h:BV a0 a1 V Q):af Tryz.prog 126 ⟨[(.slice a0.a a0.n a0.c),(.string a1)]⟩ V Q:=
 obx false Tryz.f126 Ev (by kernel_rfl) (by kernel_rfl) (by kernel_rfl) (by kernel_rfl) h
def BW (a0:Sl) (a1:ByteArray) (V:View) (Q:Value→View→Prop):Prop:=
 af Tryz.prog 74 ⟨[.slice a0.a a0.n a0.c]⟩ V fun r V=>∃x:Bool,r= .bool x∧br (!x) (Q (Value.tuple ⟨[.slice none 0 0,.int .i64 1]⟩) V) (af Tryz.prog 126 ⟨[.slice a0.a a0.n a0.c,.string a1]⟩ V fun r V=>∃x:Int,r= .int .i64 x∧br (decide (x<0)) (Q (Value.tuple ⟨[.slice none 0 0,.int .i64 8]⟩) V) (aG [K.sl,K.int .i64] (fun(x:Sl) (x_1:Int) (V:View) (J:c7 [K.sl,K.int .i64])=>br (decide (x_1<(a0.n:Int))) (0≤x_1∧x_1<(a0.n:Int)∧∃ad:Addr,a0.a=some ad∧∃x_2:ByteArray,∃x_3:Int,aq V (ad.add (x_1.toNat*2)) [.string x_2,.int .i64 x_3]∧∀(b:Nat),aA [K.sl] (fun J=>br (!decide (x_2=a1)) (b7 V (Obj.cells (Array.mk (bD [.string ⟨#[]⟩,.int .i64 0] (0:Nat) [.string x_2,.int .i64 x_3])) (85:Nat)) fun r V=>apV V (85:Nat) (2:Nat) (24:Nat) [.string ⟨#[]⟩,.int .i64 0] (Sl.mk x.a x.n x.c) (.slice (some (Addr.mk r 0 none)) (1:Nat) (1:Nat)) fun s V=>J (Sl.mk s.a s.n s.c) V) (J (Sl.mk x.a x.n x.c) V)) fun x V=>inI .i64 (x_1+1)∧J (Sl.mk x.a x.n x.c) (x_1+1) V) (Q (Value.tuple ⟨[.slice x.a x.n x.c,.int .i64 0]⟩) V)) (Sl.mk none (0:Nat) (0:Nat),(0:Int),()) V))
def Ew:AC:=(.seq qd (.seq (.seq qd (.cond none (.seq qd .leaf) .leaf)) (.seq (.seq qd (.cond none (.seq qd .leaf) .leaf)) (.seq qd (.seq (.seq qd (.block none (.loop ⟨([8]++rg 19 12),[(6,.sl),(18,.int .i64)],[]⟩ (.seq qd (.seq (.cond none .leaf .leaf) (.seq (.block none (.seq qd (.seq qd (.cond (some ⟨(rg 26 4),[(6,.sl)],[]⟩) qd .leaf)))) qd)))))) (.seq qd .leaf))))))
theorem Kb {a0:Sl} {a1:ByteArray} {V:View} {Q:Value→View→Prop} (h:BW a0 a1 V Q):af Tryz.prog 127 ⟨[(.slice a0.a a0.n a0.c),(.string a1)]⟩ V Q:=
 obx false Tryz.f127 Ew (by kernel_rfl) (by kernel_rfl) (by kernel_rfl) (by kernel_rfl) h
def BX (a0_0:Sl) (a1:Int) (a2:Sl) (V:View) (Q:Value→View→Prop):Prop:=
 ∀(b:Nat),0≤a1∧a1<(a0_0.n:Int)∧∃ad:Addr,a0_0.a=some ad∧∃x:Int,V.cell? (Addr.add (ad.add (a1.toNat*5)) (1:Nat))=some (.int .i64 x)∧inI .i64 (x-1)∧0≤a1∧a1<(a0_0.n:Int)∧∃ad:Addr,a0_0.a=some ad∧ay V (Addr.add (ad.add (a1.toNat*5)) (1:Nat)) (nat_lit 1)∧aA [K.bool] (fun J=>0≤a1∧a1<(a0_0.n:Int)∧∃ad_1:Addr,a0_0.a=some ad_1∧∃x_1:Int,View.cell? (V.sets (Addr.add (ad.add (a1.toNat*5)) (1:Nat)) [.int .i64 (x-1)]) (Addr.add (ad_1.add (a1.toNat*5)) (1:Nat))=some (.int .i64 x_1)∧br (decide (x_1=0)) (af Tryz.prog 165 ⟨[.slice a2.a a2.n a2.c,.int .i64 a1]⟩ (V.sets (Addr.add (ad.add (a1.toNat*5)) (1:Nat)) [.int .i64 (x-1)]) fun r V=>∃x:Bool,r= .bool x∧J (!x) V) (J false (V.sets (Addr.add (ad.add (a1.toNat*5)) (1:Nat)) [.int .i64 (x-1)]))) fun x V=>aA [] (fun J=>br x (0≤a1∧a1<(a0_0.n:Int)∧∃ad:Addr,a0_0.a=some ad∧ay V (ad.add (a1.toNat*5)) (5:Nat)∧J (V.sets (ad.add (a1.toNat*5)) [.int .i64 0,.int .i64 0,.int .i64 0,.slice none 0 0,.slice none 0 0])) (J V)) fun(V:View)=>Q (Value.tuple ⟨[]⟩) V
def Ey:AC:=(.seq qd (.seq qd (.seq (.reg ⟨.done,false,[],[],(some ⟨(rg 15 12),[(27,.bool)],[]⟩)⟩) (.cond (some ⟨(rg 28 5),[],[]⟩) qd .leaf))))
theorem Kc {a0_0:Sl} {a1:Int} {a2:Sl} {V:View} {Q:Value→View→Prop} (h:BX a0_0 a1 a2 V Q):af Tryz.prog 128 ⟨[(.agg ⟨[(.slice a0_0.a a0_0.n a0_0.c)]⟩),(.int .i64 a1),(.slice a2.a a2.n a2.c)]⟩ V Q:=
 obx false Tryz.f128 Ey (by kernel_rfl) (by kernel_rfl) (by kernel_rfl) (by kernel_rfl) h
def BY (a0_0:Sl) (a1:Int) (a2:Int) (V:View) (Q:Value→View→Prop):Prop:=
 ∀(b:Nat),af Tryz.prog 18 ⟨[.agg ⟨[.slice a0_0.a a0_0.n a0_0.c]⟩]⟩ V fun r V=>∃x:Bool,r= .bool x∧br (bif bif !x then true else decide (a2<0)then true else decide ((a0_0.n:Int)≤a2)) (Q (.bool false) V) (af Tryz.prog 41 ⟨[.agg ⟨[.slice a0_0.a a0_0.n a0_0.c]⟩,.int .i64 a1]⟩ V fun r V=>∃x:Sl,r= .slice x.a x.n x.c∧0≤a2∧a2<(x.n:Int)∧∃ad:Addr,x.a=some ad∧∃x_1:Bool,V.cell? (ad.add (a2.toNat*1))=some (.bool x_1)∧br x_1 (Q (.bool true) V) (aG [K.int .i64] (fun(x_2:Int) V J=>br (decide (x_2<(a0_0.n:Int))) (0≤x_2∧x_2<(a0_0.n:Int)∧∃ad:Addr,a0_0.a=some ad∧∃x_3 x_4 x_5:Int,∃x_6 x_7:Sl,aq V (ad.add (x_2.toNat*5)) [.int .i64 x_3,.int .i64 x_4,.int .i64 x_5,.slice x_6.a x_6.n x_6.c,.slice x_7.a x_7.n x_7.c]∧∀(b:Nat),aG [K.int .i64] (fun(x_8:Int) V J_1=>br (decide (x_8<(x_7.n:Int))) (0≤x_8∧x_8<(x_7.n:Int)∧∃ad:Addr,x_7.a=some ad∧∃x_9:ByteArray,∃x_10:Int,aq V (ad.add (x_8.toNat*2)) [.string x_9,.int .i64 x_10]∧∀(b:Nat),0≤x_2∧x_2<(x.n:Int)∧∃ad:Addr,x.a=some ad∧∃x:Bool,V.cell? (ad.add (x_2.toNat*1))=some (.bool x)∧br (bif x then decide (x_10=a2)else false) (Q (.bool true) V) (inI .i64 (x_8+1)∧J_1 (x_8+1) V)) (inI .i64 (x_2+1)∧J (x_2+1) V)) ((0:Int),()) V) (Q (.bool false) V)) ((0:Int),()) V))
def Ez:AC:=(.seq qd (.seq (.seq qd (.cond none (.seq qd .leaf) .leaf)) (.seq qd (.seq (.seq qd (.cond none (.seq qd .leaf) .leaf)) (.seq (.seq qd (.block none (.loop ⟨([8,9,11]++rg 37 23),[(36,.int .i64)],[]⟩ (.seq qd (.seq (.cond none .leaf .leaf) (.seq (.block none (.seq qd (.seq qd (.block none (.loop ⟨([11]++rg 45 14),[(44,.int .i64)],[]⟩ (.seq qd (.seq (.cond none .leaf .leaf) (.seq (.block none (.seq qd (.seq qd (.cond none (.seq qd .leaf) .leaf)))) qd)))))))) qd)))))) (.seq qd .leaf))))))
theorem Kd {a0_0:Sl} {a1:Int} {a2:Int} {V:View} {Q:Value→View→Prop} (h:BY a0_0 a1 a2 V Q):af Tryz.prog 129 ⟨[(.agg ⟨[(.slice a0_0.a a0_0.n a0_0.c)]⟩),(.int .i64 a1),(.int .i64 a2)]⟩ V Q:=
 obx false Tryz.f129 Ez (by kernel_rfl) (by kernel_rfl) (by kernel_rfl) (by kernel_rfl) h
def BZ (a0:Sl) (a1:ByteArray) (a2:Int) (V:View) (Q:Value→View→Prop):Prop:=
 aA [K.bool] (fun J=>af Tryz.prog 74 ⟨[.slice a0.a a0.n a0.c]⟩ V fun r V=>∃x:Bool,r= .bool x∧br (!x) (J true V) (af Tryz.prog 122 ⟨[.string a1]⟩ V fun r V=>∃x:Bool,r= .bool x∧J (bif bif !x then true else decide (a2<1)then true else decide (12≤a2)) V)) fun x V=>br x (Q (Value.tuple ⟨[.slice none 0 0,.int .i64 1]⟩) V) (af Tryz.prog 126 ⟨[.slice a0.a a0.n a0.c,.string a1]⟩ V fun r V=>∃x:Int,r= .int .i64 x∧br (decide (0≤x)) (Q (Value.tuple ⟨[.slice none 0 0,.int .i64 9]⟩) V) (br (decide (10≤(a0.n:Int))) (Q (Value.tuple ⟨[.slice none 0 0,.int .i64 14]⟩) V) (aG [K.int .i64] (fun(x:Int) V J=>aA [K.bool] (fun J=>br (decide (x<(a0.n:Int))) (0≤x∧x<(a0.n:Int)∧∃ad:Addr,a0.a=some ad∧∃x_1:ByteArray,V.cell? (Addr.add (ad.add (x.toNat*2)) (0:Nat))=some (.string x_1)∧J (bf x_1 a1) V) (J false V)) fun x_1 V=>br x_1 (inI .i64 (x+1)∧J (x+1) V) (aA [K.sl,K.int .i64] (fun J=>True∧(0:Int)≤0∧0≤x∧x≤(↑a0.c:Int)∧0≤x∧x≤(a0.n:Int)∧(a0.n:Int)≤(↑a0.c:Int)∧(apV V (85:Nat) (2:Nat) (24:Nat) [.string ⟨#[]⟩,.int .i64 0] (Sl.mk none (0:Nat) (0:Nat)) (.slice (if a0.c=(0:Nat)then a0.a else Option.map (fun(x:Addr)=>x.add (0:Nat)) a0.a) (x.toNat-(0:Nat)) (a0.c-(0:Nat))) fun s V=>b7 V (Obj.cells (Array.mk (bD [.string ⟨#[]⟩,.int .i64 0] (0:Nat) [.string a1,.int .i64 a2])) (85:Nat)) fun r V=>apV V (85:Nat) (2:Nat) (24:Nat) [.string ⟨#[]⟩,.int .i64 0] (Sl.mk s.a s.n s.c) (.slice (some (Addr.mk r 0 none)) (1:Nat) (1:Nat)) fun s V=>apV V (85:Nat) (2:Nat) (24:Nat) [.string ⟨#[]⟩,.int .i64 0] (Sl.mk s.a s.n s.c) (.slice (if a0.c=x.toNat then a0.a else Option.map (fun(x_2:Addr)=>x_2.add (x.toNat*2)) a0.a) (Int.toNat (a0.n:Int)-x.toNat) (a0.c-x.toNat)) fun s V=>J (Sl.mk s.a s.n s.c) (0:Int) V)∧b7 V (Obj.cells (Array.mk (bD [.string ⟨#[]⟩,.int .i64 0] (0:Nat) [.string a1,.int .i64 a2])) (85:Nat)) fun r V=>apV V (85:Nat) (2:Nat) (24:Nat) [.string ⟨#[]⟩,.int .i64 0] (Sl.mk none (0:Nat) (0:Nat)) (.slice (if a0.c=(0:Nat)then a0.a else Option.map (fun(x:Addr)=>x.add (0:Nat)) a0.a) (x.toNat-(0:Nat)) (a0.c-(0:Nat))) fun s V=>apV V (85:Nat) (2:Nat) (24:Nat) [.string ⟨#[]⟩,.int .i64 0] (Sl.mk s.a s.n s.c) (.slice (some (Addr.mk r 0 none)) (1:Nat) (1:Nat)) fun s V=>apV V (85:Nat) (2:Nat) (24:Nat) [.string ⟨#[]⟩,.int .i64 0] (Sl.mk s.a s.n s.c) (.slice (if a0.c=x.toNat then a0.a else Option.map (fun(x_2:Addr)=>x_2.add (x.toNat*2)) a0.a) (Int.toNat (a0.n:Int)-x.toNat) (a0.c-x.toNat)) fun s V=>J (Sl.mk s.a s.n s.c) (0:Int) V) fun(x:Sl) (x_2:Int) (V:View)=>Q (Value.tuple ⟨[.slice x.a x.n x.c,.int .i64 x_2]⟩) V)) ((0:Int),()) V)))
def EA:AC:=(.seq qd (.seq (.block none (.seq (.reg ⟨.done,false,[],[],(some ⟨(rg 10 16),[(9,.bool)],[]⟩)⟩) (.cond none (.seq qd .leaf) (.seq qd (.cond none (.seq qd .leaf) (.seq qd (.cond none (.seq qd .leaf) .leaf))))))) (.seq qd (.seq (.block none (.loop ⟨(rg 35 15),[(8,.int .i64)],[]⟩ (.seq (.seq (.reg ⟨.done,false,[],[],(some ⟨(rg 35 12),[(47,.bool)],[]⟩)⟩) (.cond none .leaf .leaf)) (.block none qd)))) (.seq (.reg ⟨(.fl 0 (.fl 1 (.fl 2 (.fl 4 (.fl 5 (.fl 6 (.fl 9 (.fl 10 (.fl 11 (.alt 3 false false (.alt 7 false false (.alt 8 false false (.alt 12 false false (.fl 13 (.fl 14 .done)) .no) .no) .no) (.alt 7 false false (.alt 3 false false (.alt 8 false false (.alt 12 false false (.fl 13 (.fl 14 .done)) .no) .no) .no) .no))))))))))),false,[],[],(some ⟨(rg 50 13),[(6,.sl),(7,.int .i64)],[]⟩)⟩) .leaf)))))
theorem Ke {a0:Sl} {a1:ByteArray} {a2:Int} {V:View} {Q:Value→View→Prop} (h:BZ a0 a1 a2 V Q):af Tryz.prog 130 ⟨[(.slice a0.a a0.n a0.c),(.string a1),(.int .i64 a2)]⟩ V Q:=
 obx false Tryz.f130 EA (by kernel_rfl) (by kernel_rfl) (by kernel_rfl) (by kernel_rfl) h
def B0 (a0:ByteArray) (V:View) (Q:Value→View→Prop):Prop:=
 aA [K.bool] (fun J=>br (bif decide (60<(↑(ByteArray.size a0):Int))then true else decide ((↑(ByteArray.size a0):Int)<1)) (J true V) ((0:Int)≤0∧0<(↑(ByteArray.size a0):Int)∧J (!decide ((↑(UInt8.toNat (List.getD (Array.toList (ByteArray.data a0)) (Int.toNat (0:Int)) 0)):Int)=47)) V)) fun x V=>br x (Q (Value.tuple ⟨[.slice none 0 0,.int .i64 7]⟩) V) (br (decide (a0=ByteArray.mk #[47])) (Q (Value.tuple ⟨[.slice none 0 0,.int .i64 0]⟩) V) (aG [K.sl,K.int .i64,K.int .i64] (fun(x:Sl) (x_1 x_2:Int) (V:View) (J:c7 [K.sl,K.int .i64,K.int .i64])=>br (decide (x_2≤(↑(ByteArray.size a0):Int))) (aA [K.sl,K.int .i64] (fun J=>aA [K.bool] (fun J=>br (decide (x_2<(↑(ByteArray.size a0):Int))) (0≤x_2∧x_2<(↑(ByteArray.size a0):Int)∧J (!decide ((↑(UInt8.toNat (List.getD (Array.toList (ByteArray.data a0)) (x_2.toNat) 0)):Int)=47)) V) (J false V)) fun x_3 V=>br x_3 (J (Sl.mk x.a x.n x.c) x_1 V) (0≤x_1∧x_1≤x_2∧x_2≤(↑(ByteArray.size a0):Int)∧af Tryz.prog 122 ⟨[.string (ByteArray.extract a0 (x_1.toNat) (x_2.toNat))]⟩ V fun r V=>∃x_4:Bool,r= .bool x_4∧br (!x_4) (Q (Value.tuple ⟨[.slice none 0 0,.int .i64 7]⟩) V) (0≤x_1∧x_1≤x_2∧x_2≤(↑(ByteArray.size a0):Int)∧b7 V (Obj.cells (Array.mk (bD [.string ⟨#[]⟩] (0:Nat) [.string (ByteArray.extract a0 (x_1.toNat) (x_2.toNat))])) (9:Nat)) fun r V=>apV V (9:Nat) (1:Nat) (16:Nat) [.string ⟨#[]⟩] (Sl.mk x.a x.n x.c) (.slice (some (Addr.mk r 0 none)) (1:Nat) (1:Nat)) fun s V=>inI .i64 (x_2+1)∧J (Sl.mk s.a s.n s.c) (x_2+1) V))) fun(x:Sl) (x_3:Int) (V:View)=>inI .i64 (x_2+1)∧J (Sl.mk x.a x.n x.c) x_3 (x_2+1) V) (Q (Value.tuple ⟨[.slice x.a x.n x.c,.int .i64 0]⟩) V)) (Sl.mk none (0:Nat) (0:Nat),(1:Int),(1:Int),()) V))
def EB:AC:=(.seq qd (.seq (.seq (.reg ⟨.done,false,[],[],(some ⟨(rg 7 12),[(19,.bool)],[]⟩)⟩) (.cond none (.seq qd .leaf) .leaf)) (.seq qd (.seq (.seq qd (.cond none (.seq qd .leaf) .leaf)) (.seq qd (.seq (.seq qd (.block none (.loop ⟨(rg 22 31),[(4,.sl),(5,.int .i64),(6,.int .i64)],[]⟩ (.seq (.seq qd (.cond none .leaf .leaf)) (.seq (.block (some ⟨(rg 28 25),[(4,.sl),(5,.int .i64)],[]⟩) (.seq (.seq (.reg ⟨.done,false,[],[],(some ⟨(rg 28 9),[(37,.bool)],[]⟩)⟩) (.cond none .leaf .leaf)) (.seq (.seq qd (.cond none (.seq qd .leaf) .leaf)) (.seq qd qd)))) qd))))) (.seq qd .leaf)))))))
theorem Kf {a0:ByteArray} {V:View} {Q:Value→View→Prop} (h:B0 a0 V Q):af Tryz.prog 131 ⟨[(.string a0)]⟩ V Q:=
 obx false Tryz.f131 EB (by kernel_rfl) (by kernel_rfl) (by kernel_rfl) (by kernel_rfl) h
def B1 (a0_0:Sl) (a1:Sl) (V:View) (Q:Value→View→Prop):Prop:=
 ∀(b:Nat),aG [K.int .i64,K.int .i64] (fun(x x_1:Int) (V:View) (J:c7 [K.int .i64,K.int .i64])=>br (decide (x_1<(a1.n:Int))) (0≤x_1∧x_1<(a1.n:Int)∧∃ad:Addr,a1.a=some ad∧∃x_2:ByteArray,V.cell? (ad.add (x_1.toNat*1))=some (.string x_2)∧0≤x∧x<(a0_0.n:Int)∧∃ad:Addr,a0_0.a=some ad∧∃x_3:Int,V.cell? (Addr.add (ad.add (x.toNat*5)) (0:Nat))=some (.int .i64 x_3)∧br (!decide (x_3=2)) (Q (Value.tuple ⟨[.int .i64 0,.int .i64 11]⟩) V) (0≤x∧x<(a0_0.n:Int)∧∃ad:Addr,a0_0.a=some ad∧∃x_4:Sl,V.cell? (Addr.add (ad.add (x.toNat*5)) (4:Nat))=some (.slice x_4.a x_4.n x_4.c)∧af Tryz.prog 126 ⟨[.slice x_4.a x_4.n x_4.c,.string x_2]⟩ V fun r V=>∃x:Int,r= .int .i64 x∧br (decide (x<0)) (Q (Value.tuple ⟨[.int .i64 0,.int .i64 8]⟩) V) (inI .i64 (x_1+1)∧J x (x_1+1) V))) (Q (Value.tuple ⟨[.int .i64 x,.int .i64 0]⟩) V)) ((0:Int),(0:Int),()) V
def EC:AC:=(.seq qd (.seq qd (.seq (.seq qd (.block none (.loop ⟨([8]++rg 12 21),[(6,.int .i64),(11,.int .i64)],[]⟩ (.seq qd (.seq (.cond none .leaf .leaf) (.seq (.block none (.seq qd (.seq (.seq qd (.cond none (.seq qd .leaf) .leaf)) (.seq qd (.seq qd (.cond none (.seq qd .leaf) .leaf)))))) qd)))))) (.seq qd .leaf))))
theorem Kg {a0_0:Sl} {a1:Sl} {V:View} {Q:Value→View→Prop} (h:B1 a0_0 a1 V Q):af Tryz.prog 132 ⟨[(.agg ⟨[(.slice a0_0.a a0_0.n a0_0.c)]⟩),(.slice a1.a a1.n a1.c)]⟩ V Q:=
 obx false Tryz.f132 EC (by kernel_rfl) (by kernel_rfl) (by kernel_rfl) (by kernel_rfl) h
def B2 (a0_0:Sl) (a1:Int) (V:View) (Q:Value→View→Prop):Prop:=
 ∀(b:Nat),aA [K.bool] (fun J=>af Tryz.prog 18 ⟨[.agg ⟨[.slice a0_0.a a0_0.n a0_0.c]⟩]⟩ V fun r V=>∃x:Bool,r= .bool x∧br (bif bif x then decide (0≤a1)else false then decide (a1<(a0_0.n:Int))else false) (0≤a1∧a1<(a0_0.n:Int)∧∃ad:Addr,a0_0.a=some ad∧∃x:Int,V.cell? (Addr.add (ad.add (a1.toNat*5)) (0:Nat))=some (.int .i64 x)∧J (decide (x=1)) V) (J false V)) fun x V=>Q (.bool x) V
def ED:AC:=(.seq qd (.seq (.reg ⟨.done,false,[],[],(some ⟨(rg 5 22),[(4,.bool)],[]⟩)⟩) .leaf))
theorem Kh {a0_0:Sl} {a1:Int} {V:View} {Q:Value→View→Prop} (h:B2 a0_0 a1 V Q):af Tryz.prog 133 ⟨[(.agg ⟨[(.slice a0_0.a a0_0.n a0_0.c)]⟩),(.int .i64 a1)]⟩ V Q:=
 obx false Tryz.f133 ED (by kernel_rfl) (by kernel_rfl) (by kernel_rfl) (by kernel_rfl) h
def B3 (a0:Int) (a1:Int) (V:View) (Q:Value→View→Prop):Prop:=
 af Tryz.prog 136 ⟨[.int .i64 a0,.int .i64 a1]⟩ V fun r V=>∃x:Bool,r= .bool x∧br (!x) (Q (.slice none 0 0) V) (aG [K.int .i64,K.int .i64,K.sl] (fun(x x_1:Int) (x_2:Sl) (V:View) (J:c7 [K.int .i64,K.int .i64,K.sl])=>br (decide (0<x_1)) ((16:Int)≠0∧inI .i64 ((16:Int)-Int.tmod x (16:Int))∧(16:Int)≠0∧inI .i64 (Int.tdiv x (16:Int))∧b7 V (Obj.cells (Array.mk (bD [.int .i64 0,.int .i64 0,.int .i64 0] (0:Nat) [.int .i64 (Int.tdiv x (16:Int)),.int .i64 (Int.tmod x (16:Int)),.int .i64 (if(16:Int)-Int.tmod x 16<x_1 then(16:Int)-Int.tmod x (16:Int)else x_1)])) (98:Nat)) fun r V=>apV V (98:Nat) (3:Nat) (24:Nat) [.int .i64 0,.int .i64 0,.int .i64 0] (Sl.mk x_2.a x_2.n x_2.c) (.slice (some (Addr.mk r 0 none)) (1:Nat) (1:Nat)) fun s V=>inI .i64 (x+if(16:Int)-Int.tmod x 16<x_1 then(16:Int)-Int.tmod x (16:Int)else x_1)∧inI .i64 (x_1-if(16:Int)-Int.tmod x 16<x_1 then(16:Int)-Int.tmod x (16:Int)else x_1)∧J (x+if(16:Int)-Int.tmod x 16<x_1 then(16:Int)-Int.tmod x (16:Int)else x_1) (x_1-if(16:Int)-Int.tmod x 16<x_1 then(16:Int)-Int.tmod x (16:Int)else x_1) (Sl.mk s.a s.n s.c) V) (Q (.slice x_2.a x_2.n x_2.c) V)) (a0,a1,Sl.mk none (0:Nat) (0:Nat),()) V)
def EE:AC:=(.seq qd (.seq qd (.seq (.seq qd (.cond none (.seq qd .leaf) .leaf)) (.seq (.block none (.loop ⟨([6,7]++rg 12 22),[(0,.int .i64),(1,.int .i64),(5,.sl)],[]⟩ (.seq (.seq qd (.cond none .leaf .leaf)) (.block none (.seq qd (.seq qd (.seq qd qd))))))) (.seq qd .leaf)))))
theorem Ki {a0:Int} {a1:Int} {V:View} {Q:Value→View→Prop} (h:B3 a0 a1 V Q):af Tryz.prog 134 ⟨[(.int .i64 a0),(.int .i64 a1)]⟩ V Q:=
 obx false Tryz.f134 EE (by kernel_rfl) (by kernel_rfl) (by kernel_rfl) (by kernel_rfl) h
def B4 (a0:Int) (a1:Int) (a2:Int) (V:View) (Q:Value→View→Prop):Prop:=
 br (bif bif decide (a1<0)then true else decide (a2<0)then true else decide (a0≤a1)) (Q (.int .i64 0) V) (inI .i64 (a0-a1)∧Q (.int .i64 (if a0-a1<a2 then a0-a1 else a2)) V)
def EF:AC:=(.seq qd (.seq (.seq qd (.cond none (.seq qd .leaf) .leaf)) (.seq qd .leaf)))
theorem Kj {a0:Int} {a1:Int} {a2:Int} {V:View} {Q:Value→View→Prop} (h:B4 a0 a1 a2 V Q):af Tryz.prog 135 ⟨[(.int .i64 a0),(.int .i64 a1),(.int .i64 a2)]⟩ V Q:=
 obx false Tryz.f135 EF (by kernel_rfl) (by kernel_rfl) (by kernel_rfl) (by kernel_rfl) h
def B5 (a0:Int) (a1:Int) (V:View) (Q:Value→View→Prop):Prop:=
 aA [K.bool] (fun J=>br (bif bif decide (0≤a0)then decide (0≤a1)else false then decide (a0≤80)else false) (inI .i64 ((80:Int)-a0)∧J (decide (a1≤80-a0)) V) (J false V)) fun x V=>Q (.bool x) V
def EG:AC:=(.seq qd (.seq (.reg ⟨.done,false,[],[],(some ⟨(rg 5 16),[(4,.bool)],[]⟩)⟩) .leaf))
theorem Kk {a0:Int} {a1:Int} {V:View} {Q:Value→View→Prop} (h:B5 a0 a1 V Q):af Tryz.prog 136 ⟨[(.int .i64 a0),(.int .i64 a1)]⟩ V Q:=
 obx false Tryz.f136 EG (by kernel_rfl) (by kernel_rfl) (by kernel_rfl) (by kernel_rfl) h
def B6 (a0_0:Int) (a0_1:Int) (a0_2:Int) (a0_3:Sl) (a0_4:Sl) (a1:Int) (a2:Int) (V:View) (Q:Value→View→Prop):Prop:=
 ∀(b:Nat),aA [K.bool] (fun J=>br (!decide (a0_0=1)) (J true V) (af Tryz.prog 40 ⟨[.agg ⟨[.int .i64 a0_0,.int .i64 a0_1,.int .i64 a0_2,.slice a0_3.a a0_3.n a0_3.c,.slice a0_4.a a0_4.n a0_4.c]⟩]⟩ V fun r V=>∃x:Bool,r= .bool x∧J (!x) V)) fun x V=>br x (Q (.int .i64 0) V) (af Tryz.prog 134 ⟨[.int .i64 a1,.int .i64 a2]⟩ V fun r V=>∃x:Sl,r= .slice x.a x.n x.c∧aG [K.int .i64,K.int .i64] (fun(x_1 x_2:Int) (V:View) (J:c7 [K.int .i64,K.int .i64])=>br (decide (x_2<(x.n:Int))) (0≤x_2∧x_2<(x.n:Int)∧∃ad:Addr,x.a=some ad∧∃x x_3 x_4:Int,aq V (ad.add (x_2.toNat*3)) [.int .i64 x,.int .i64 x_3,.int .i64 x_4]∧∀(b:Nat),0≤x∧x<(a0_3.n:Int)∧∃ad:Addr,a0_3.a=some ad∧∃x_5:Int,V.cell? (ad.add (x.toNat*1))=some (.int .i64 x_5)∧aA [K.int .i64] (fun J=>br (decide (x_5=0)) (inI .i64 (x_1+1)∧J (x_1+1) V) (J x_1 V)) fun(x:Int) V=>inI .i64 (x_2+1)∧J x (x_2+1) V) (Q (.int .i64 x_1) V)) ((0:Int),(0:Int),()) V)
def EH:AC:=(.seq qd (.seq qd (.seq (.seq (.reg ⟨.done,false,[],[],(some ⟨(rg 10 7),[(17,.bool)],[]⟩)⟩) (.cond none (.seq qd .leaf) .leaf)) (.seq (.seq qd (.block none (.loop ⟨([9]++rg 23 13),[(7,.int .i64),(22,.int .i64)],[]⟩ (.seq qd (.seq (.cond none .leaf .leaf) (.seq (.block none (.seq qd (.seq qd (.cond (some ⟨[33,34],[(7,.int .i64)],[]⟩) qd .leaf)))) qd)))))) (.seq qd .leaf)))))
theorem Kl {a0_0:Int} {a0_1:Int} {a0_2:Int} {a0_3:Sl} {a0_4:Sl} {a1:Int} {a2:Int} {V:View} {Q:Value→View→Prop} (h:B6 a0_0 a0_1 a0_2 a0_3 a0_4 a1 a2 V Q):af Tryz.prog 137 ⟨[(.agg ⟨[(.int .i64 a0_0),(.int .i64 a0_1),(.int .i64 a0_2),(.slice a0_3.a a0_3.n a0_3.c),(.slice a0_4.a a0_4.n a0_4.c)]⟩),(.int .i64 a1),(.int .i64 a2)]⟩ V Q:=
 obx false Tryz.f137 EH (by kernel_rfl) (by kernel_rfl) (by kernel_rfl) (by kernel_rfl) h
def B7 (a0:Sl) (a1_0:Int) (a1_1:Int) (a1_2:Int) (a1_3:Int) (a1_4:Int) (a1_5:Sl) (V:View) (Q:Value→View→Prop):Prop:=
 ∀(b:Nat),(0:Int)≤16∧(16:Int)≤16∧(16:Int)*(↑(TypeInfo.bytes (Tables.types (Program.toTables Tryz.prog))[(5:Nat)]):Int)≤140737488355328∧(16:Int)≤140737488355328∧b7 V (Obj.cells (Array.mk (List.flatten (List.replicate (16:Nat) [.int .u8 0]))) (5:Nat)) fun r V=>aG [K.int .i64] (fun(x:Int) V J=>br (decide (x<if 16<(a0.n:Int)then(16:Int)else(a0.n:Int))) (aA [] (fun J=>br (decide (x<a1_3)) (0≤x∧x<(a0.n:Int)∧∃ad:Addr,a0.a=some ad∧∃x_1:Int,V.cell? (ad.add (x.toNat*1))=some (.int .u8 x_1)∧0≤x∧x<(↑(Int.toNat (16:Int)):Int)∧∃ad:Addr,some (Addr.mk r 0 none)=some ad∧ay V (ad.add (x.toNat*1)) (nat_lit 1)∧J (V.sets (ad.add (x.toNat*1)) [.int .u8 x_1])) (J V)) fun(V:View)=>inI .i64 (x+1)∧J (x+1) V) (aA [] (fun J=>aG [K.int .i64] (fun(x:Int) V J_1=>br (decide (x<(a1_5.n:Int))) (0≤x∧x<(a1_5.n:Int)∧∃ad:Addr,a1_5.a=some ad∧∃x_1:Int,V.cell? (ad.add (x.toNat*1))=some (.int .u8 x_1)∧aA [K.bool] (fun J=>br (decide (16<a1_4)) (J true V) (inI .i64 ((0:Int)-(a1_5.n:Int))∧J (decide (a1_4<0-(a1_5.n:Int))) V)) fun x_2 V=>br x_2 (J V) (inI .i64 (a1_4+x)∧aA [] (fun J=>br (bif decide (0≤a1_4+x)then decide (a1_4+x<16)else false) (0≤a1_4+x∧a1_4+x<(↑(Int.toNat (16:Int)):Int)∧∃ad:Addr,some (Addr.mk r 0 none)=some ad∧ay V (ad.add (Int.toNat (a1_4+x)*1)) (nat_lit 1)∧J (V.sets (ad.add (Int.toNat (a1_4+x)*1)) [.int .u8 x_1])) (J V)) fun(V:View)=>inI .i64 (x+1)∧J_1 (x+1) V)) (J V)) ((0:Int),()) V) fun(V:View)=>Q (.slice (some (Addr.mk r 0 none)) (16:Nat) (16:Nat)) V)) ((0:Int),()) V
def EI:AC:=(.seq qd (.seq qd (.seq (.seq qd (.block none (.loop ⟨([6]++rg 15 14),[(14,.int .i64)],[]⟩ (.seq qd (.seq (.cond none .leaf .leaf) (.seq (.block none (.seq qd (.seq qd (.cond (some ⟨(rg 21 7),[],[]⟩) qd .leaf)))) qd)))))) (.seq (.seq qd (.block (some ⟨([7,8,9]++rg 32 32),[],[]⟩) (.loop ⟨([7,8,9]++rg 33 31),[(32,.int .i64)],[]⟩ (.seq qd (.seq (.cond none .leaf .leaf) (.seq (.block none (.seq qd (.seq (.seq (.reg ⟨.done,false,[],[],(some ⟨(rg 37 11),[(48,.bool)],[]⟩)⟩) (.cond none .leaf .leaf)) (.seq qd (.seq qd (.cond (some ⟨(rg 59 4),[],[]⟩) qd .leaf)))))) qd)))))) (.seq qd .leaf)))))
theorem Km {a0:Sl} {a1_0:Int} {a1_1:Int} {a1_2:Int} {a1_3:Int} {a1_4:Int} {a1_5:Sl} {V:View} {Q:Value→View→Prop} (h:B7 a0 a1_0 a1_1 a1_2 a1_3 a1_4 a1_5 V Q):af Tryz.prog 138 ⟨[(.slice a0.a a0.n a0.c),(.agg ⟨[(.int .i64 a1_0),(.int .i64 a1_1),(.int .i64 a1_2),(.int .i64 a1_3),(.int .i64 a1_4),(.slice a1_5.a a1_5.n a1_5.c)]⟩)]⟩ V Q:=
 obx false Tryz.f138 EI (by kernel_rfl) (by kernel_rfl) (by kernel_rfl) (by kernel_rfl) h
def B9 (a0_0:Sl) (a1:Sl) (a2:Sl) (V:View) (Q:Value→View→Prop):Prop:=
 ∀(b b:Nat),af Tryz.prog 18 ⟨[.agg ⟨[.slice a0_0.a a0_0.n a0_0.c]⟩]⟩ V fun r V=>∃x:Bool,r= .bool x∧br (bif !x then true else !decide ((a2.n:Int)=(a1.n:Int))) (Q (Value.tuple ⟨[.agg ⟨[.slice none 0 0]⟩,.int .i64 1]⟩) V) (af Tryz.prog 77 ⟨[.agg ⟨[.slice a0_0.a a0_0.n a0_0.c]⟩]⟩ V fun r V=>∃x:Sl,r= .agg ⟨[.slice x.a x.n x.c]⟩∧∀(b:Nat),aG [K.int .i64] (fun(x_1:Int) V J=>br (decide (x_1<(a1.n:Int))) (0≤x_1∧x_1<(a1.n:Int)∧∃ad:Addr,a1.a=some ad∧∃x_2 x_3 x_4 x_5 x_6:Int,∃x_7:Sl,aq V (ad.add (x_1.toNat*6)) [.int .i64 x_2,.int .i64 x_3,.int .i64 x_4,.int .i64 x_5,.int .i64 x_6,.slice x_7.a x_7.n x_7.c]∧∀(b:Nat),aA [K.bool] (fun J=>af Tryz.prog 133 ⟨[.agg ⟨[.slice a0_0.a a0_0.n a0_0.c]⟩,.int .i64 x_2]⟩ V fun r V=>∃x:Bool,r= .bool x∧br (bif bif !x then true else decide (x_3<0)then true else decide (5≤x_3)) (J true V) (0≤x_1∧x_1<(a2.n:Int)∧∃ad:Addr,a2.a=some ad∧∃x:Int,V.cell? (ad.add (x_1.toNat*1))=some (.int .i64 x)∧br (decide (x<1)) (J true V) (0≤x_1∧x_1<(a2.n:Int)∧∃ad:Addr,a2.a=some ad∧∃x:Int,V.cell? (ad.add (x_1.toNat*1))=some (.int .i64 x)∧J (decide (1099511627776<x)) V))) fun x_8 V=>br x_8 (Q (Value.tuple ⟨[.agg ⟨[.slice none 0 0]⟩,.int .i64 1]⟩) V) (True∧∃S:View,S.Le V∧0≤x_2∧x_2<(x.n:Int)∧∃ad:Addr,x.a=some ad∧∃x:Sl,S.cell? (Addr.add (ad.add (x_2.toNat*5)) (3:Nat))=some (.slice x.a x.n x.c)∧0≤x_1∧x_1<(a2.n:Int)∧∃ad:Addr,a2.a=some ad∧∃x_9:Int,S.cell? (ad.add (x_1.toNat*1))=some (.int .i64 x_9)∧0≤x_3∧x_3<(x.n:Int)∧∃ad:Addr,x.a=some ad∧ay V (ad.add (x_3.toNat*1)) (nat_lit 1)∧inI .i64 (x_1+1)∧J (x_1+1) (V.sets (ad.add (x_3.toNat*1)) [.int .i64 x_9]))) (af Tryz.prog 18 ⟨[.agg ⟨[.slice x.a x.n x.c]⟩]⟩ V fun r V=>∃x_2:Bool,r= .bool x_2∧br (!x_2) (Q (Value.tuple ⟨[.agg ⟨[.slice none 0 0]⟩,.int .i64 18]⟩) V) (Q (Value.tuple ⟨[.agg ⟨[.slice x.a x.n x.c]⟩,.int .i64 0]⟩) V))) ((0:Int),()) V)
def EJ:AC:=(.seq qd (.seq (.seq qd (.cond none (.seq qd .leaf) .leaf)) (.seq qd (.seq (.seq qd (.block none (.loop ⟨([9,10]++rg 27 33++rg 61 15),[(26,.int .i64)],[]⟩ (.seq qd (.seq (.cond none .leaf .leaf) (.seq (.block none (.seq qd (.seq (.seq (.reg ⟨.done,false,[],[],(some ⟨(rg 31 28),[(59,.bool)],[]⟩)⟩) (.cond none (.seq qd .leaf) .leaf)) (.reg ⟨(.fl 0 (.fl 1 (.fl 2 (.fl 3 (.fl 4 (.fl 5 (.fl 6 (.fl 7 (.fl 8 (.fl 9 (.fl 10 (.fl 11 (.fl 12 (.fl 13 (.alt 14 false false .done .no))))))))))))))),true,[],[],none⟩)))) qd)))))) (.seq (.seq qd (.cond none (.seq qd .leaf) .leaf)) (.seq qd .leaf))))))
theorem Kn {a0_0:Sl} {a1:Sl} {a2:Sl} {V:View} {Q:Value→View→Prop} (h:B9 a0_0 a1 a2 V Q):af Tryz.prog 139 ⟨[(.agg ⟨[(.slice a0_0.a a0_0.n a0_0.c)]⟩),(.slice a1.a a1.n a1.c),(.slice a2.a a2.n a2.c)]⟩ V Q:=
 obx false Tryz.f139 EJ (by kernel_rfl) (by kernel_rfl) (by kernel_rfl) (by kernel_rfl) h
def Ca (a0:Int) (a1:Int) (V:View) (Q:Value→View→Prop):Prop:=
 (0:Int)≤32∧(0:Int)≤32∧(0:Int)≤32∧(0:Int)≤32∧(0:Int)≤32∧Q (Value.tuple ⟨[.int .u64 (IntKind.wrap IntKind.u64 (IntKind.wrap IntKind.u64 (IntKind.wrap IntKind.u64 (Int.fdiv a0 ((2:Int) ^ min (Int.toNat (32:Int)) (IntKind.bits IntKind.u64))*Int.fdiv a1 ((2:Int) ^ min (Int.toNat (32:Int)) (IntKind.bits IntKind.u64)))+Int.fdiv (IntKind.wrap IntKind.u64 (IntKind.wrap IntKind.u64 (Int.fdiv a0 ((2:Int) ^ min (Int.toNat (32:Int)) (IntKind.bits IntKind.u64))*ig BinOp.and IntKind.u64 a1 (4294967295:Int))+Int.fdiv (IntKind.wrap IntKind.u64 (ig BinOp.and IntKind.u64 a0 (4294967295:Int)*ig BinOp.and IntKind.u64 a1 (4294967295:Int))) ((2:Int) ^ min (Int.toNat (32:Int)) (IntKind.bits IntKind.u64)))) ((2:Int) ^ min (Int.toNat (32:Int)) (IntKind.bits IntKind.u64)))+Int.fdiv (IntKind.wrap IntKind.u64 (ig BinOp.and IntKind.u64 (IntKind.wrap IntKind.u64 (IntKind.wrap IntKind.u64 (Int.fdiv a0 ((2:Int) ^ min (Int.toNat (32:Int)) (IntKind.bits IntKind.u64))*ig BinOp.and IntKind.u64 a1 (4294967295:Int))+Int.fdiv (IntKind.wrap IntKind.u64 (ig BinOp.and IntKind.u64 a0 (4294967295:Int)*ig BinOp.and IntKind.u64 a1 (4294967295:Int))) ((2:Int) ^ min (Int.toNat (32:Int)) (IntKind.bits IntKind.u64)))) 4294967295+IntKind.wrap IntKind.u64 (ig BinOp.and IntKind.u64 a0 (4294967295:Int)*Int.fdiv a1 ((2:Int) ^ min (Int.toNat (32:Int)) (IntKind.bits IntKind.u64))))) ((2:Int) ^ min (Int.toNat (32:Int)) (IntKind.bits IntKind.u64)))),.int .u64 (IntKind.wrap IntKind.u64 (a0*a1))]⟩) V
def EK:AC:=(.seq qd (.seq qd (.seq qd (.seq qd (.seq qd (.seq qd (.seq qd (.seq qd (.seq qd (.seq qd (.seq qd (.seq qd .leaf))))))))))))
theorem Ko {a0:Int} {a1:Int} {V:View} {Q:Value→View→Prop} (h:Ca a0 a1 V Q):af Tryz.prog 141 ⟨[(.int .u64 a0),(.int .u64 a1)]⟩ V Q:=
 obx false Tryz.f141 EK (by kernel_rfl) (by kernel_rfl) (by kernel_rfl) (by kernel_rfl) h
def Cb (a0:Sl) (V:View) (Q:Value→View→Prop):Prop:=
 aA [K.bool] (fun J=>br (!decide ((a0.n:Int)=4)) (J true V) (af Tryz.prog 166 ⟨[.slice a0.a a0.n a0.c,Value.func (Fn.func (167:Nat)) ⟨[]⟩ ⟨[]⟩]⟩ V fun r V=>∃x:Bool,r= .bool x∧J x V)) fun x V=>Q (.bool x) V
def EL:AC:=(.seq qd (.seq (.reg ⟨.done,false,[],[],(some ⟨(rg 3 7),[(2,.bool)],[]⟩)⟩) .leaf))
theorem Kp {a0:Sl} {V:View} {Q:Value→View→Prop} (h:Cb a0 V Q):af Tryz.prog 142 ⟨[(.slice a0.a a0.n a0.c)]⟩ V Q:=
 obx false Tryz.f142 EL (by kernel_rfl) (by kernel_rfl) (by kernel_rfl) (by kernel_rfl) h
def Cc (a0_0:Sl) (a1:ByteArray) (a2:Int) (V:View) (Q:Value→View→Prop):Prop:=
 ∀(b b:Nat),af Tryz.prog 147 ⟨[.agg ⟨[.slice a0_0.a a0_0.n a0_0.c]⟩,.string a1]⟩ V fun r V=>∃x:Int,∃x_1:ByteArray,∃x_2 x_3:Int,r=Value.tuple ⟨[.agg ⟨[.int .i64 x,.string x_1,.int .i64 x_2]⟩,.int .i64 x_3]⟩∧∀(b:Nat),br (!decide (x_3=0)) (af Tryz.prog 76 ⟨[.int .i64 x_3]⟩ V fun r V=>∃x:Sl,∃x_4:Int,r=Value.tuple ⟨[.agg ⟨[.slice x.a x.n x.c]⟩,.int .i64 x_4]⟩∧Q (Value.tuple ⟨[.agg ⟨[.slice x.a x.n x.c]⟩,.int .i64 x_4]⟩) V) (br (decide (0≤x_2)) (af Tryz.prog 76 ⟨[.int .i64 9]⟩ V fun r V=>∃x:Sl,∃x_4:Int,r=Value.tuple ⟨[.agg ⟨[.slice x.a x.n x.c]⟩,.int .i64 x_4]⟩∧Q (Value.tuple ⟨[.agg ⟨[.slice x.a x.n x.c]⟩,.int .i64 x_4]⟩) V) (af Tryz.prog 168 ⟨[.agg ⟨[.slice a0_0.a a0_0.n a0_0.c]⟩]⟩ V fun r V=>∃x_4:Int,r= .int .i64 x_4∧br (decide (x_4<0)) (af Tryz.prog 76 ⟨[.int .i64 14]⟩ V fun r V=>∃x:Sl,∃x_5:Int,r=Value.tuple ⟨[.agg ⟨[.slice x.a x.n x.c]⟩,.int .i64 x_5]⟩∧Q (Value.tuple ⟨[.agg ⟨[.slice x.a x.n x.c]⟩,.int .i64 x_5]⟩) V) (af Tryz.prog 38 ⟨[.agg ⟨[.slice a0_0.a a0_0.n a0_0.c]⟩]⟩ V fun r V=>∃x_5:Sl,r= .agg ⟨[.slice x_5.a x_5.n x_5.c]⟩∧∀(b:Nat),V.see b=none→ay (V.put b (Obj.cells ⟨[.slice none 0 0]⟩ (40:Nat))) (Addr.mk b 0 none) (nat_lit 1)∧af Tryz.prog 150 ⟨[.pointer (some (Addr.mk b 0 none)),.agg ⟨[.int .i64 x,.string x_1,.int .i64 x_2]⟩,.int .i64 x_4]⟩ (View.sets (V.put b (Obj.cells ⟨[.slice none 0 0]⟩ (40:Nat))) (Addr.mk b 0 none) [.slice x_5.a x_5.n x_5.c]) fun r V=>∃x:Int,r= .int .i64 x∧br (!decide (x=0)) (af Tryz.prog 76 ⟨[.int .i64 x]⟩ V fun r V=>∃x:Sl,∃x_6:Int,r=Value.tuple ⟨[.agg ⟨[.slice x.a x.n x.c]⟩,.int .i64 x_6]⟩∧Q (Value.tuple ⟨[.agg ⟨[.slice x.a x.n x.c]⟩,.int .i64 x_6]⟩) V) (True∧∃S:View,S.Le V∧∃x:Sl,S.cell? (Addr.mk b 0 none)=some (.slice x.a x.n x.c)∧af Tryz.prog 61 ⟨[.int .i64 a2]⟩ V fun r V=>∃x_6 x_7 x_8:Int,∃x_9 x_10:Sl,r= .agg ⟨[.int .i64 x_6,.int .i64 x_7,.int .i64 x_8,.slice x_9.a x_9.n x_9.c,.slice x_10.a x_10.n x_10.c]⟩∧S.Le V∧0≤x_4∧x_4<(x.n:Int)∧∃ad:Addr,x.a=some ad∧ay V (ad.add (x_4.toNat*5)) (Nat.succ (Nat.succ (Nat.succ (Nat.succ (nat_lit 1)))))∧∃x:Sl,aq (V.sets (ad.add (x_4.toNat*5)) [.int .i64 x_6,.int .i64 x_7,.int .i64 x_8,.slice x_9.a x_9.n x_9.c,.slice x_10.a x_10.n x_10.c]) (Addr.mk b 0 none) [.slice x.a x.n x.c]∧Q (Value.tuple ⟨[.agg ⟨[.slice x.a x.n x.c]⟩,.int .i64 0]⟩) (V.sets (ad.add (x_4.toNat*5)) [.int .i64 x_6,.int .i64 x_7,.int .i64 x_8,.slice x_9.a x_9.n x_9.c,.slice x_10.a x_10.n x_10.c])))))
def EM:AC:=(.seq qd (.seq qd (.seq (.seq qd (.cond none (.seq qd .leaf) .leaf)) (.seq (.seq qd (.cond none (.seq qd .leaf) .leaf)) (.seq qd (.seq (.seq qd (.cond none (.seq qd .leaf) .leaf)) (.seq (.reg ⟨.done,false,[(3,3)],[],none⟩) (.seq (.seq qd (.seq qd (.cond none (.seq qd .leaf) .leaf))) (.seq (.reg ⟨(.fl 0 (.fl 1 (.fl 2 (.fl 3 (.alt 4 true false (.fl 5 (.alt 6 false false .done .no)) .no))))),true,[],[],none⟩) (.seq qd .leaf))))))))))
theorem Kq {a0_0:Sl} {a1:ByteArray} {a2:Int} {V:View} {Q:Value→View→Prop} (h:Cc a0_0 a1 a2 V Q):af Tryz.prog 143 ⟨[(.agg ⟨[(.slice a0_0.a a0_0.n a0_0.c)]⟩),(.string a1),(.int .i64 a2)]⟩ V Q:=
 obx false Tryz.f143 EM (by kernel_rfl) (by kernel_rfl) (by kernel_rfl) (by kernel_rfl) h
def Cd (a0_0:Sl) (a1:ByteArray) (V:View) (Q:Value→View→Prop):Prop:=
 ∀(b b:Nat),af Tryz.prog 147 ⟨[.agg ⟨[.slice a0_0.a a0_0.n a0_0.c]⟩,.string a1]⟩ V fun r V=>∃x:Int,∃x_1:ByteArray,∃x_2 x_3:Int,r=Value.tuple ⟨[.agg ⟨[.int .i64 x,.string x_1,.int .i64 x_2]⟩,.int .i64 x_3]⟩∧∀(b:Nat),aA [K.int .i64] (fun J=>br (bif decide (x_3=0)then decide (x_2<0)else false) (J (8:Int) V) (J x_3 V)) fun(x_4:Int) V=>Q (Value.tuple ⟨[.agg ⟨[.int .i64 x,.string x_1,.int .i64 x_2]⟩,.int .i64 x_4]⟩) V
def EN:AC:=(.seq qd (.seq qd (.seq (.seq qd (.cond (some ⟨[],[(7,.int .i64)],[]⟩) qd .leaf)) (.seq qd .leaf))))
theorem Kr {a0_0:Sl} {a1:ByteArray} {V:View} {Q:Value→View→Prop} (h:Cd a0_0 a1 V Q):af Tryz.prog 144 ⟨[(.agg ⟨[(.slice a0_0.a a0_0.n a0_0.c)]⟩),(.string a1)]⟩ V Q:=
 obx false Tryz.f144 EN (by kernel_rfl) (by kernel_rfl) (by kernel_rfl) (by kernel_rfl) h
def Ce (a0:Option Addr) (a1_0:Int) (a1_1:ByteArray) (a1_2:Int) (V:View) (Q:Value→View→Prop):Prop:=
 ∀(b:Nat),True∧∃S:View,S.Le V∧∃a:Addr,a0=some a∧∃x:Sl,S.cell? (a.add (0:Nat))=some (.slice x.a x.n x.c)∧∃a:Addr,a0=some a∧∃x_1:Sl,S.cell? (a.add (0:Nat))=some (.slice x_1.a x_1.n x_1.c)∧0≤a1_0∧a1_0<(x_1.n:Int)∧∃ad:Addr,x_1.a=some ad∧∃x_2:Sl,S.cell? (Addr.add (ad.add (a1_0.toNat*5)) (4:Nat))=some (.slice x_2.a x_2.n x_2.c)∧af Tryz.prog 169 ⟨[.slice x_2.a x_2.n x_2.c,.string a1_1]⟩ V fun r V=>∃x_3:Sl,∃x_4:Int,r=Value.tuple ⟨[.slice x_3.a x_3.n x_3.c,.int .i64 x_4]⟩∧S.Le V∧0≤a1_0∧a1_0<(x.n:Int)∧∃ad:Addr,x.a=some ad∧ay V (Addr.add (ad.add (a1_0.toNat*5)) (4:Nat)) (nat_lit 1)∧Q (Value.tuple ⟨[]⟩) (V.sets (Addr.add (ad.add (a1_0.toNat*5)) (4:Nat)) [.slice x_3.a x_3.n x_3.c])
def EO:AC:=(.seq qd (.reg ⟨(.fl 0 (.fl 1 (.fl 2 (.fl 3 (.fl 4 (.fl 5 (.fl 6 (.fl 7 (.fl 8 (.fl 9 (.fl 10 (.fl 11 (.fl 12 (.fl 13 (.fl 14 (.fl 15 (.fl 16 (.alt 17 true false (.fl 18 (.fl 19 (.fl 20 (.fl 21 (.fl 22 (.alt 23 false false .done .no)))))) .no)))))))))))))))))),true,[],[],none⟩))
theorem Ks {a0:Option Addr} {a1_0:Int} {a1_1:ByteArray} {a1_2:Int} {V:View} {Q:Value→View→Prop} (h:Ce a0 a1_0 a1_1 a1_2 V Q):af Tryz.prog 145 ⟨[(.pointer a0),(.agg ⟨[(.int .i64 a1_0),(.string a1_1),(.int .i64 a1_2)]⟩)]⟩ V Q:=
 obx false Tryz.f145 EO (by kernel_rfl) (by kernel_rfl) (by kernel_rfl) (by kernel_rfl) h
def Cf (a0:Option Addr) (a1:Int) (a2:Sl) (V:View) (Q:Value→View→Prop):Prop:=
 ∃a:Addr,a0=some a∧∃x:Sl,V.cell? (a.add (0:Nat))=some (.slice x.a x.n x.c)∧0≤a1∧a1<(x.n:Int)∧∃ad:Addr,x.a=some ad∧∃a:Addr,some (ad.add (a1.toNat*5))=some a∧∃x:Int,V.cell? (a.add (0:Nat))=some (.int .i64 x)∧aA [] (fun J=>br (decide (x=1)) (∃a:Addr,some (ad.add (a1.toNat*5))=some a∧∃x:Int,V.cell? (a.add (1:Nat))=some (.int .i64 x)∧inI .i64 (x-1)∧∃a:Addr,some (ad.add (a1.toNat*5))=some a∧ay V (a.add (1:Nat)) (nat_lit 1)∧aA [K.bool] (fun J=>∃a_1:Addr,some (ad.add (a1.toNat*5))=some a_1∧∃x_1:Int,View.cell? (V.sets (a.add (1:Nat)) [.int .i64 (x-1)]) (a_1.add (1:Nat))=some (.int .i64 x_1)∧br (decide (0<x_1)) (J true (V.sets (a.add (1:Nat)) [.int .i64 (x-1)])) (br (decide (a1<(a2.n:Int))) (0≤a1∧a1<(a2.n:Int)∧∃ad:Addr,a2.a=some ad∧∃x_2:Bool,View.cell? (V.sets (a.add (1:Nat)) [.int .i64 (x-1)]) (ad.add (a1.toNat*1))=some (.bool x_2)∧J x_2 (V.sets (a.add (1:Nat)) [.int .i64 (x-1)])) (J false (V.sets (a.add (1:Nat)) [.int .i64 (x-1)])))) fun x V=>br x (Q (Value.tuple ⟨[]⟩) V) (J V)) (J V)) fun(V:View)=>∃a:Addr,some (ad.add (a1.toNat*5))=some a∧ay V a (5:Nat)∧Q (Value.tuple ⟨[]⟩) (V.sets a [.int .i64 0,.int .i64 0,.int .i64 0,.slice none 0 0,.slice none 0 0])
def EP:AC:=(.seq qd (.seq (.seq qd (.cond (some ⟨(rg 18 24),[],[]⟩) (.seq qd (.seq (.reg ⟨.done,false,[],[],(some ⟨(rg 25 16),[(41,.bool)],[]⟩)⟩) (.cond none .leaf .leaf))) .leaf)) qd))
theorem Kt {a0:Option Addr} {a1:Int} {a2:Sl} {V:View} {Q:Value→View→Prop} (h:Cf a0 a1 a2 V Q):af Tryz.prog 146 ⟨[(.pointer a0),(.int .i64 a1),(.slice a2.a a2.n a2.c)]⟩ V Q:=
 obx false Tryz.f146 EP (by kernel_rfl) (by kernel_rfl) (by kernel_rfl) (by kernel_rfl) h
def Cg (a0_0:Sl) (a1:ByteArray) (V:View) (Q:Value→View→Prop):Prop:=
 ∀(b b:Nat),af Tryz.prog 170 ⟨[.agg ⟨[.slice a0_0.a a0_0.n a0_0.c]⟩,.string a1]⟩ V fun r V=>∃x:Int,∃x_1:ByteArray,∃x_2:Int,r=Value.tuple ⟨[.int .i64 x,.string x_1,.int .i64 x_2]⟩∧br (!decide (x_2=0)) (Q (Value.tuple ⟨[.agg ⟨[.int .i64 0,.string ⟨#[]⟩,.int .i64 0]⟩,.int .i64 x_2]⟩) V) (0≤x∧x<(a0_0.n:Int)∧∃ad:Addr,a0_0.a=some ad∧∃x_3:Sl,V.cell? (Addr.add (ad.add (x.toNat*5)) (4:Nat))=some (.slice x_3.a x_3.n x_3.c)∧af Tryz.prog 171 ⟨[.slice x_3.a x_3.n x_3.c,.string x_1]⟩ V fun r V=>∃x_4:Int,r= .int .i64 x_4∧Q (Value.tuple ⟨[.agg ⟨[.int .i64 x,.string x_1,.int .i64 x_4]⟩,.int .i64 0]⟩) V)
def ER:AC:=(.seq qd (.seq qd (.seq (.seq qd (.cond none (.seq qd .leaf) .leaf)) (.seq qd .leaf))))
theorem Ku {a0_0:Sl} {a1:ByteArray} {V:View} {Q:Value→View→Prop} (h:Cg a0_0 a1 V Q):af Tryz.prog 147 ⟨[(.agg ⟨[(.slice a0_0.a a0_0.n a0_0.c)]⟩),(.string a1)]⟩ V Q:=
 obx false Tryz.f147 ER (by kernel_rfl) (by kernel_rfl) (by kernel_rfl) (by kernel_rfl) h
def Ch (a0_0:Sl) (a1:Int) (a2:Int) (V:View) (Q:Value→View→Prop):Prop:=
 ∀(b:Nat),V.see b=none→aA [K.bool] (fun J=>∃x:Sl,aq (V.put b (Obj.cells ⟨[.slice a0_0.a a0_0.n a0_0.c]⟩ (40:Nat))) (Addr.mk b 0 none) [.slice x.a x.n x.c]∧af Tryz.prog 69 ⟨[.agg ⟨[.slice x.a x.n x.c]⟩]⟩ (V.put b (Obj.cells ⟨[.slice a0_0.a a0_0.n a0_0.c]⟩ (40:Nat))) fun r V=>∃x:Bool,r= .bool x∧br x (af Tryz.prog 172 ⟨[.int .i64 a1,.pointer (some (Addr.mk b 0 none))]⟩ V fun r V=>∃x:Bool,r= .bool x∧br x (af Tryz.prog 172 ⟨[.int .i64 a2,.pointer (some (Addr.mk b 0 none))]⟩ V fun r V=>∃x:Bool,r= .bool x∧br x (∃x:Sl,V.cell? (Addr.mk b 0 none)=some (.slice x.a x.n x.c)∧0≤a1∧a1<(x.n:Int)∧∃ad:Addr,x.a=some ad∧∃x:Int,V.cell? (Addr.add (ad.add (a1.toNat*5)) (0:Nat))=some (.int .i64 x)∧br (decide (x=2)) (∃x:Sl,aq V (Addr.mk b 0 none) [.slice x.a x.n x.c]∧af Tryz.prog 116 ⟨[.agg ⟨[.slice x.a x.n x.c]⟩,.int .i64 a1]⟩ V fun r V=>∃x:Sl,r= .slice x.a x.n x.c∧0≤a2∧a2<(x.n:Int)∧∃ad:Addr,x.a=some ad∧∃x:Bool,V.cell? (ad.add (a2.toNat*1))=some (.bool x)∧J x V) (J false V)) (J false V)) (J false V)) (J false V)) fun x V=>Q (.bool x) V
def ES:AC:=(.seq (.reg ⟨.done,false,[(1,0)],[],none⟩) (.seq qd (.seq (.reg ⟨.done,false,[],[],(some ⟨(rg 9 29),[(6,.bool)],[]⟩)⟩) .leaf)))
theorem Kv {a0_0:Sl} {a1:Int} {a2:Int} {V:View} {Q:Value→View→Prop} (h:Ch a0_0 a1 a2 V Q):af Tryz.prog 148 ⟨[(.agg ⟨[(.slice a0_0.a a0_0.n a0_0.c)]⟩),(.int .i64 a1),(.int .i64 a2)]⟩ V Q:=
 obx false Tryz.f148 ES (by kernel_rfl) (by kernel_rfl) (by kernel_rfl) (by kernel_rfl) h
def Ci (a0_0:Int) (a0_1:Int) (a0_2:Int) (a0_3:Sl) (a0_4:Sl) (a1_0:Int) (a1_1:Int) (a1_2:Int) (a1_3:Sl) (a1_4:Sl) (V:View) (Q:Value→View→Prop):Prop:=
 ∀(b b:Nat),br (bif decide (a0_0=2)then !decide (a1_0=2)else false) (Q (.int .i64 11) V) (br (bif !decide (a0_0=2)then decide (a1_0=2)else false) (Q (.int .i64 10) V) (br (decide (0<(a1_4.n:Int))) (Q (.int .i64 12) V) (Q (.int .i64 0) V)))
def ET:AC:=(.seq qd (.seq (.block none (.seq qd (.cond none (.seq qd .leaf) (.seq qd (.cond none (.seq qd .leaf) (.seq qd (.cond none (.seq qd .leaf) .leaf))))))) (.seq qd .leaf)))
theorem Kw {a0_0:Int} {a0_1:Int} {a0_2:Int} {a0_3:Sl} {a0_4:Sl} {a1_0:Int} {a1_1:Int} {a1_2:Int} {a1_3:Sl} {a1_4:Sl} {V:View} {Q:Value→View→Prop} (h:Ci a0_0 a0_1 a0_2 a0_3 a0_4 a1_0 a1_1 a1_2 a1_3 a1_4 V Q):af Tryz.prog 149 ⟨[(.agg ⟨[(.int .i64 a0_0),(.int .i64 a0_1),(.int .i64 a0_2),(.slice a0_3.a a0_3.n a0_3.c),(.slice a0_4.a a0_4.n a0_4.c)]⟩),(.agg ⟨[(.int .i64 a1_0),(.int .i64 a1_1),(.int .i64 a1_2),(.slice a1_3.a a1_3.n a1_3.c),(.slice a1_4.a a1_4.n a1_4.c)]⟩)]⟩ V Q:=
 obx false Tryz.f149 ET (by kernel_rfl) (by kernel_rfl) (by kernel_rfl) (by kernel_rfl) h
def Cj (a0:Option Addr) (a1_0:Int) (a1_1:ByteArray) (a1_2:Int) (a2:Int) (V:View) (Q:Value→View→Prop):Prop:=
 ∀(b:Nat),True∧∃S:View,S.Le V∧∃a:Addr,a0=some a∧∃x:Sl,S.cell? (a.add (0:Nat))=some (.slice x.a x.n x.c)∧0≤a1_0∧a1_0<(x.n:Int)∧∃ad:Addr,x.a=some ad∧∃x:Sl,S.cell? (Addr.add (ad.add (a1_0.toNat*5)) (4:Nat))=some (.slice x.a x.n x.c)∧af Tryz.prog 173 ⟨[.slice x.a x.n x.c,.string a1_1,.int .i64 a2]⟩ V fun r V=>∃x:Sl,∃x_1:Int,r=Value.tuple ⟨[.slice x.a x.n x.c,.int .i64 x_1]⟩∧aA [] (fun J=>br (decide (x_1=0)) (True∧∃S:View,S.Le V∧∃a:Addr,a0=some a∧∃x_2:Sl,S.cell? (a.add (0:Nat))=some (.slice x_2.a x_2.n x_2.c)∧0≤a1_0∧a1_0<(x_2.n:Int)∧∃ad:Addr,x_2.a=some ad∧ay V (Addr.add (ad.add (a1_0.toNat*5)) (4:Nat)) (nat_lit 1)∧J (V.sets (Addr.add (ad.add (a1_0.toNat*5)) (4:Nat)) [.slice x.a x.n x.c])) (J V)) fun(V:View)=>Q (.int .i64 x_1) V
def EU:AC:=(.seq qd (.seq (.reg ⟨(.fl 0 (.fl 1 (.fl 2 (.fl 3 (.fl 4 (.fl 5 (.fl 6 (.fl 7 (.fl 8 (.fl 9 (.fl 10 (.fl 11 (.alt 12 false false (.fl 13 (.fl 14 (.fl 15 (.fl 16 (.fl 17 .done))))) .no))))))))))))),true,[],[],none⟩) (.seq (.seq qd (.cond (some ⟨(rg 27 9),[],[]⟩) (.reg ⟨(.fl 0 (.fl 1 (.fl 2 (.fl 3 (.fl 4 (.fl 5 (.fl 6 (.fl 7 (.fl 8 (.alt 9 false false .done .no)))))))))),true,[],[],none⟩) .leaf)) (.seq qd .leaf))))
theorem Kx {a0:Option Addr} {a1_0:Int} {a1_1:ByteArray} {a1_2:Int} {a2:Int} {V:View} {Q:Value→View→Prop} (h:Cj a0 a1_0 a1_1 a1_2 a2 V Q):af Tryz.prog 150 ⟨[(.pointer a0),(.agg ⟨[(.int .i64 a1_0),(.string a1_1),(.int .i64 a1_2)]⟩),(.int .i64 a2)]⟩ V Q:=
 obx false Tryz.f150 EU (by kernel_rfl) (by kernel_rfl) (by kernel_rfl) (by kernel_rfl) h
def Ck (a0:ByteArray) (V:View) (Q:Value→View→Prop):Prop:=
 af Tryz.prog 174 ⟨[.string a0,.string ⟨#[47]⟩]⟩ V fun r V=>∃x:ByteArray,∃x_1:Bool,r=Value.tuple ⟨[.string x,.bool x_1]⟩∧br (bif !x_1 then true else decide (60<(↑(ByteArray.size a0):Int))) (Q (Value.tuple ⟨[.slice none 0 0,.int .i64 7]⟩) V) (br (decide (x=ByteArray.mk #[])) (Q (Value.tuple ⟨[.slice none 0 0,.int .i64 0]⟩) V) (af Tryz.prog 175 ⟨[.string x,.string ⟨#[47]⟩]⟩ V fun r V=>∃x:Sl,r= .slice x.a x.n x.c∧af Tryz.prog 176 ⟨[.slice x.a x.n x.c,Value.func (Fn.func (177:Nat)) ⟨[]⟩ ⟨[]⟩]⟩ V fun r V=>∃x_2:Bool,r= .bool x_2∧br x_2 (Q (Value.tuple ⟨[.slice none 0 0,.int .i64 7]⟩) V) (Q (Value.tuple ⟨[.slice x.a x.n x.c,.int .i64 0]⟩) V)))
def EV:AC:=(.seq qd (.seq qd (.seq (.seq qd (.cond none (.seq qd .leaf) .leaf)) (.seq (.seq qd (.cond none (.seq qd .leaf) .leaf)) (.seq qd (.seq (.seq qd (.cond none (.seq qd .leaf) .leaf)) (.seq qd .leaf)))))))
theorem Ky {a0:ByteArray} {V:View} {Q:Value→View→Prop} (h:Ck a0 V Q):af Tryz.prog 151 ⟨[(.string a0)]⟩ V Q:=
 obx false Tryz.f151 EV (by kernel_rfl) (by kernel_rfl) (by kernel_rfl) (by kernel_rfl) h
def Cl (a0_0:Sl) (a1:Sl) (V:View) (Q:Value→View→Prop):Prop:=
 ∀(b:Nat),aG [K.int .i64,K.int .i64] (fun(x x_1:Int) (V:View) (J:c7 [K.int .i64,K.int .i64])=>br (decide (x_1<(a1.n:Int))) (0≤x_1∧x_1<(a1.n:Int)∧∃ad:Addr,a1.a=some ad∧∃x_2:ByteArray,V.cell? (ad.add (x_1.toNat*1))=some (.string x_2)∧0≤x∧x<(a0_0.n:Int)∧∃ad:Addr,a0_0.a=some ad∧∃x_3:Int,V.cell? (Addr.add (ad.add (x.toNat*5)) (0:Nat))=some (.int .i64 x_3)∧br (!decide (x_3=2)) (Q (Value.tuple ⟨[.int .i64 0,.int .i64 11]⟩) V) (0≤x∧x<(a0_0.n:Int)∧∃ad:Addr,a0_0.a=some ad∧∃x_4:Sl,V.cell? (Addr.add (ad.add (x.toNat*5)) (4:Nat))=some (.slice x_4.a x_4.n x_4.c)∧af Tryz.prog 171 ⟨[.slice x_4.a x_4.n x_4.c,.string x_2]⟩ V fun r V=>∃x:Int,r= .int .i64 x∧br (decide (x<0)) (Q (Value.tuple ⟨[.int .i64 0,.int .i64 8]⟩) V) (inI .i64 (x_1+1)∧J x (x_1+1) V))) (Q (Value.tuple ⟨[.int .i64 x,.int .i64 0]⟩) V)) ((0:Int),(0:Int),()) V
def EW:AC:=(.seq qd (.seq qd (.seq (.seq qd (.block none (.loop ⟨([8]++rg 12 21),[(6,.int .i64),(11,.int .i64)],[]⟩ (.seq qd (.seq (.cond none .leaf .leaf) (.seq (.block none (.seq qd (.seq (.seq qd (.cond none (.seq qd .leaf) .leaf)) (.seq qd (.seq qd (.cond none (.seq qd .leaf) .leaf)))))) qd)))))) (.seq qd .leaf))))
theorem Kz {a0_0:Sl} {a1:Sl} {V:View} {Q:Value→View→Prop} (h:Cl a0_0 a1 V Q):af Tryz.prog 152 ⟨[(.agg ⟨[(.slice a0_0.a a0_0.n a0_0.c)]⟩),(.slice a1.a a1.n a1.c)]⟩ V Q:=
 obx false Tryz.f152 EW (by kernel_rfl) (by kernel_rfl) (by kernel_rfl) (by kernel_rfl) h
def Cm (a0:Sl) (a1:Int) (V:View) (Q:Value→View→Prop):Prop:=
 aG [K.int .i64] (fun(x:Int) V J=>br (decide (x<(a0.n:Int))) (0≤x∧x<(a0.n:Int)∧∃ad:Addr,a0.a=some ad∧∃x_1:Int,V.cell? (ad.add (x.toNat*1))=some (.int .i64 x_1)∧br (decide (a1=x_1)) (Q (.int .i64 x) V) (inI .i64 (x+1)∧J (x+1) V)) (Q (.int .i64 (-1)) V)) ((0:Int),()) V
def EX:AC:=(.seq qd (.seq (.seq qd (.block none (.loop ⟨([5]++rg 9 8++ [18]),[(8,.int .i64)],[]⟩ (.seq qd (.seq (.cond none .leaf .leaf) (.seq (.block none (.seq qd (.seq qd (.cond none (.seq qd .leaf) .leaf)))) qd)))))) (.seq qd .leaf)))
theorem KA {a0:Sl} {a1:Int} {V:View} {Q:Value→View→Prop} (h:Cm a0 a1 V Q):af Tryz.prog 153 ⟨[(.slice a0.a a0.n a0.c),(.int .i64 a1)]⟩ V Q:=
 obx false Tryz.f153 EX (by kernel_rfl) (by kernel_rfl) (by kernel_rfl) (by kernel_rfl) h
def Cn (a0_0:Int) (a0_1:Int) (a0_2:Int) (a0_3:Sl) (a0_4:Sl) (a1:Int) (a2:Int) (V:View) (Q:Value→View→Prop):Prop:=
 ∀(b:Nat),aA [K.bool] (fun J=>br (!decide (a0_0=1)) (J true V) (af Tryz.prog 114 ⟨[.agg ⟨[.int .i64 a0_0,.int .i64 a0_1,.int .i64 a0_2,.slice a0_3.a a0_3.n a0_3.c,.slice a0_4.a a0_4.n a0_4.c]⟩]⟩ V fun r V=>∃x:Bool,r= .bool x∧J (!x) V)) fun x V=>br x (Q (.int .i64 0) V) (af Tryz.prog 57 ⟨[.int .i64 a1,.int .i64 a2]⟩ V fun r V=>∃x:Sl,r= .slice x.a x.n x.c∧aG [K.int .i64,K.int .i64] (fun(x_1 x_2:Int) (V:View) (J:c7 [K.int .i64,K.int .i64])=>br (decide (x_2<(x.n:Int))) (0≤x_2∧x_2<(x.n:Int)∧∃ad:Addr,x.a=some ad∧∃x x_3 x_4:Int,aq V (ad.add (x_2.toNat*3)) [.int .i64 x,.int .i64 x_3,.int .i64 x_4]∧∀(b:Nat),0≤x∧x<(a0_3.n:Int)∧∃ad:Addr,a0_3.a=some ad∧∃x_5:Int,V.cell? (ad.add (x.toNat*1))=some (.int .i64 x_5)∧aA [K.int .i64] (fun J=>br (decide (x_5=0)) (inI .i64 (x_1+1)∧J (x_1+1) V) (J x_1 V)) fun(x:Int) V=>inI .i64 (x_2+1)∧J x (x_2+1) V) (Q (.int .i64 x_1) V)) ((0:Int),(0:Int),()) V)
def EY:AC:=(.seq qd (.seq (.seq (.reg ⟨.done,false,[],[],(some ⟨(rg 10 7),[(17,.bool)],[]⟩)⟩) (.cond none (.seq qd .leaf) .leaf)) (.seq qd (.seq (.seq qd (.block none (.loop ⟨([9]++rg 23 13),[(7,.int .i64),(22,.int .i64)],[]⟩ (.seq qd (.seq (.cond none .leaf .leaf) (.seq (.block none (.seq qd (.seq qd (.cond (some ⟨[33,34],[(7,.int .i64)],[]⟩) qd .leaf)))) qd)))))) (.seq qd .leaf)))))
theorem KB {a0_0:Int} {a0_1:Int} {a0_2:Int} {a0_3:Sl} {a0_4:Sl} {a1:Int} {a2:Int} {V:View} {Q:Value→View→Prop} (h:Cn a0_0 a0_1 a0_2 a0_3 a0_4 a1 a2 V Q):af Tryz.prog 154 ⟨[(.agg ⟨[(.int .i64 a0_0),(.int .i64 a0_1),(.int .i64 a0_2),(.slice a0_3.a a0_3.n a0_3.c),(.slice a0_4.a a0_4.n a0_4.c)]⟩),(.int .i64 a1),(.int .i64 a2)]⟩ V Q:=
 obx false Tryz.f154 EY (by kernel_rfl) (by kernel_rfl) (by kernel_rfl) (by kernel_rfl) h
def Co (a0:Sl) (V:View) (Q:Value→View→Prop):Prop:=
 br (Option.isNone a0.a) (Q (.slice none 0 0) V) (b7 V (Obj.cells ⟨[]⟩ (5:Nat)) fun r V=>apV V (5:Nat) (1:Nat) (1:Nat) [.int .u8 0] (Sl.mk (some (Addr.mk r 0 none)) (0:Nat) (0:Nat)) (.slice a0.a a0.n a0.c) fun s V=>Q (.slice s.a s.n s.c) V)
def EZ:AC:=(.seq qd (.seq (.seq qd (.cond none (.seq qd .leaf) .leaf)) (.seq qd .leaf)))
theorem KC {a0:Sl} {V:View} {Q:Value→View→Prop} (h:Co a0 V Q):af Tryz.prog 155 ⟨[(.slice a0.a a0.n a0.c)]⟩ V Q:=
 obx false Tryz.f155 EZ (by kernel_rfl) (by kernel_rfl) (by kernel_rfl) (by kernel_rfl) h
def Cp (a0:Int) (V:View) (Q:Value→View→Prop):Prop:=
 inI .i64 ((if 80<if(0:Int)>a0 then(0:Int)else a0 then(80:Int)else if(0:Int)>a0 then(0:Int)else a0)+16)∧inI .i64 ((if 80<if(0:Int)>a0 then(0:Int)else a0 then(80:Int)else if(0:Int)>a0 then(0:Int)else a0)+16-(1:Int))∧(16:Int)≠0∧inI .i64 (Int.tdiv ((if 80<if(0:Int)>a0 then(0:Int)else a0 then(80:Int)else if(0:Int)>a0 then(0:Int)else a0)+16-(1:Int)) (16:Int))∧Q (.int .i64 (Int.tdiv ((if 80<if(0:Int)>a0 then(0:Int)else a0 then(80:Int)else if(0:Int)>a0 then(0:Int)else a0)+16-(1:Int)) (16:Int))) V
def E0:AC:=(.seq qd (.seq qd .leaf))
theorem KD {a0:Int} {V:View} {Q:Value→View→Prop} (h:Cp a0 V Q):af Tryz.prog 156 ⟨[(.int .i64 a0)]⟩ V Q:=
 obx false Tryz.f156 E0 (by kernel_rfl) (by kernel_rfl) (by kernel_rfl) (by kernel_rfl) h
def Cq (a0:Int) (a1:Int) (a2:Int) (V:View) (Q:Value→View→Prop):Prop:=
 br (bif bif decide (a1<0)then true else decide (a2<0)then true else decide (a0≤a1)) (Q (.int .i64 0) V) (inI .i64 (a0-a1)∧Q (.int .i64 (if a0-a1<a2 then a0-a1 else a2)) V)
def E2:AC:=(.seq qd (.seq (.seq qd (.cond none (.seq qd .leaf) .leaf)) (.seq qd .leaf)))
theorem KE {a0:Int} {a1:Int} {a2:Int} {V:View} {Q:Value→View→Prop} (h:Cq a0 a1 a2 V Q):af Tryz.prog 157 ⟨[(.int .i64 a0),(.int .i64 a1),(.int .i64 a2)]⟩ V Q:=
 obx false Tryz.f157 E2 (by kernel_rfl) (by kernel_rfl) (by kernel_rfl) (by kernel_rfl) h
def Cr (a0_0:Int) (a0_1:Int) (a0_2:Int) (a0_3:Sl) (a0_4:Sl) (V:View) (Q:Value→View→Prop):Prop:=
 ∀(b:Nat),af Tryz.prog 179 ⟨[.int .i64 0,.agg ⟨[.int .i64 a0_0,.int .i64 a0_1,.int .i64 a0_2,.slice a0_3.a a0_3.n a0_3.c,.slice a0_4.a a0_4.n a0_4.c]⟩]⟩ V fun r V=>∃x:Sl,r= .slice x.a x.n x.c∧Q (.int .i64 (x.n:Int)) V
def E3:AC:=(.seq qd (.seq qd .leaf))
theorem KF {a0_0:Int} {a0_1:Int} {a0_2:Int} {a0_3:Sl} {a0_4:Sl} {V:View} {Q:Value→View→Prop} (h:Cr a0_0 a0_1 a0_2 a0_3 a0_4 V Q):af Tryz.prog 158 ⟨[(.agg ⟨[(.int .i64 a0_0),(.int .i64 a0_1),(.int .i64 a0_2),(.slice a0_3.a a0_3.n a0_3.c),(.slice a0_4.a a0_4.n a0_4.c)]⟩)]⟩ V Q:=
 obx false Tryz.f158 E3 (by kernel_rfl) (by kernel_rfl) (by kernel_rfl) (by kernel_rfl) h
def Cs (a0_0:Int) (a0_1:Int) (a0_2:Int) (a0_3:Sl) (a0_4:Sl) (V:View) (Q:Value→View→Prop):Prop:=
 ∀(b:Nat),af Tryz.prog 114 ⟨[.agg ⟨[.int .i64 a0_0,.int .i64 a0_1,.int .i64 a0_2,.slice a0_3.a a0_3.n a0_3.c,.slice a0_4.a a0_4.n a0_4.c]⟩]⟩ V fun r V=>∃x:Bool,r= .bool x∧Q (.bool !x) V
def E4:AC:=(.seq qd (.seq qd .leaf))
theorem KG {a0_0:Int} {a0_1:Int} {a0_2:Int} {a0_3:Sl} {a0_4:Sl} {V:View} {Q:Value→View→Prop} (h:Cs a0_0 a0_1 a0_2 a0_3 a0_4 V Q):af Tryz.prog 159 ⟨[(.agg ⟨[(.int .i64 a0_0),(.int .i64 a0_1),(.int .i64 a0_2),(.slice a0_3.a a0_3.n a0_3.c),(.slice a0_4.a a0_4.n a0_4.c)]⟩)]⟩ V Q:=
 obx false Tryz.f159 E4 (by kernel_rfl) (by kernel_rfl) (by kernel_rfl) (by kernel_rfl) h
def Ct (a0:Sl) (g1:FuncId) (x1:List Value) (y1:List Value) (V:View) (Q:Value→View→Prop):Prop:=
 aG [K.int .i64] (fun(x:Int) V J=>br (decide (x<(a0.n:Int))) (0≤x∧x<(a0.n:Int)∧∃ad:Addr,a0.a=some ad∧∃x_1 x_2 x_3:Int,∃x_4 x_5:Sl,aq V (ad.add (x.toNat*5)) [.int .i64 x_1,.int .i64 x_2,.int .i64 x_3,.slice x_4.a x_4.n x_4.c,.slice x_5.a x_5.n x_5.c]∧af Tryz.prog g1 (Array.mk (Array.toList (Array.mk x1)++ [.agg ⟨[.int .i64 x_1,.int .i64 x_2,.int .i64 x_3,.slice x_4.a x_4.n x_4.c,.slice x_5.a x_5.n x_5.c]⟩]++Array.toList (Array.mk y1))) V fun r V=>∃x_6:Bool,r= .bool x_6∧br x_6 (Q (.int .i64 x) V) (inI .i64 (x+1)∧J (x+1) V)) (Q (.int .i64 (-1)) V)) ((0:Int),()) V
def E5:AC:=(.seq qd (.seq (.seq qd (.block none (.loop ⟨([5]++rg 9 8++ [18]),[(8,.int .i64)],[]⟩ (.seq qd (.seq (.cond none .leaf .leaf) (.seq (.block none (.seq qd (.seq qd (.cond none (.seq qd .leaf) .leaf)))) qd)))))) (.seq qd .leaf)))
theorem KH {a0:Sl} {g1:FuncId} {x1:List Value} {y1:List Value} {V:View} {Q:Value→View→Prop} (h:Ct a0 g1 x1 y1 V Q):af Tryz.prog 160 ⟨[(.slice a0.a a0.n a0.c),(.func (.func g1) ⟨x1⟩ ⟨y1⟩)]⟩ V Q:=
 obx false Tryz.f160 E5 (by kernel_rfl) (by kernel_rfl) (by kernel_rfl) (by kernel_rfl) h
def Cu (a0_0:Int) (a0_1:Int) (a0_2:Int) (a0_3:Sl) (a0_4:Sl) (V:View) (Q:Value→View→Prop):Prop:=
 ∀(b:Nat),aA [K.bool] (fun J=>af Tryz.prog 180 ⟨[.int .i64 a0_1,.int .i64 120]⟩ V fun r V=>∃x:Bool,r= .bool x∧br (!x) (J true V) (af Tryz.prog 180 ⟨[.int .i64 a0_2,.int .i64 80]⟩ V fun r V=>∃x:Bool,r= .bool x∧J (bif bif !x then true else !decide ((a0_3.n:Int)=5)then true else decide (0<(a0_4.n:Int))) V)) fun x V=>br x (Q (.bool false) V) (aG [K.int .i64] (fun(x:Int) V J=>br (decide (x<(a0_3.n:Int))) (0≤x∧x<(a0_3.n:Int)∧∃ad:Addr,a0_3.a=some ad∧∃x_1:Int,V.cell? (ad.add (x.toNat*1))=some (.int .i64 x_1)∧aA [K.bool] (fun J=>af Tryz.prog 180 ⟨[.int .i64 x_1,.int .i64 1099511627776]⟩ V fun r V=>∃x_2:Bool,r= .bool x_2∧br (!x_2) (J true V) (inI .i64 (x*16)∧J (bif decide (a0_2≤x*16)then !decide (x_1=0)else false) V)) fun x_2 V=>br x_2 (Q (.bool false) V) (inI .i64 (x+1)∧J (x+1) V)) (Q (.bool true) V)) ((0:Int),()) V)
def E6:AC:=(.seq qd (.seq (.seq (.reg ⟨.done,false,[],[],(some ⟨(rg 5 21),[(26,.bool)],[]⟩)⟩) (.cond none (.seq qd .leaf) .leaf)) (.seq (.seq qd (.block none (.loop ⟨([3,4]++rg 31 19),[(30,.int .i64)],[]⟩ (.seq qd (.seq (.cond none .leaf .leaf) (.seq (.block none (.seq qd (.seq (.reg ⟨.done,false,[],[],(some ⟨(rg 35 13),[(48,.bool)],[]⟩)⟩) (.cond none (.seq qd .leaf) .leaf)))) qd)))))) (.seq qd .leaf))))
theorem KI {a0_0:Int} {a0_1:Int} {a0_2:Int} {a0_3:Sl} {a0_4:Sl} {V:View} {Q:Value→View→Prop} (h:Cu a0_0 a0_1 a0_2 a0_3 a0_4 V Q):af Tryz.prog 161 ⟨[(.agg ⟨[(.int .i64 a0_0),(.int .i64 a0_1),(.int .i64 a0_2),(.slice a0_3.a a0_3.n a0_3.c),(.slice a0_4.a a0_4.n a0_4.c)]⟩)]⟩ V Q:=
 obx false Tryz.f161 E6 (by kernel_rfl) (by kernel_rfl) (by kernel_rfl) (by kernel_rfl) h
def Cv (a0:Sl) (V:View) (Q:Value→View→Prop):Prop:=
 aG [K.int .i64] (fun(x:Int) V J=>br (decide (x<(a0.n:Int))) (0≤x∧x<(a0.n:Int)∧∃ad:Addr,a0.a=some ad∧∃x_1:ByteArray,∃x_2:Int,aq V (ad.add (x.toNat*2)) [.string x_1,.int .i64 x_2]∧∀(b:Nat),aA [K.bool] (fun J=>True∧∃S:View,S.Le V∧af Tryz.prog 181 ⟨[.agg ⟨[.string x_1,.int .i64 x_2]⟩]⟩ V fun r V=>∃x_3:Bool,r= .bool x_3∧S.Le V∧∃S' :View,S.Le S' ∧S'.Le V∧br (!x_3) (J true V) (br (decide (0<x)) (inI .i64 (x-1)∧0≤x-1∧x-1<(a0.n:Int)∧∃ad:Addr,a0.a=some ad∧∃x_4:ByteArray,S'.cell? (Addr.add (ad.add (Int.toNat (x-1)*2)) (0:Nat))=some (.string x_4)∧J (!bf x_4 x_1) V) (J false V))) fun x_3 V=>br x_3 (Q (.bool false) V) (inI .i64 (x+1)∧J (x+1) V)) (Q (.bool (decide ((a0.n:Int)≤10))) V)) ((0:Int),()) V
def E7:AC:=(.seq qd (.seq (.seq qd (.block none (.loop ⟨([3,4]++rg 8 23),[(7,.int .i64)],[]⟩ (.seq qd (.seq (.cond none .leaf .leaf) (.seq (.block none (.seq qd (.seq (.reg ⟨(.fl 0 (.alt 1 true true (.fl 2 (.fl 3 (.fl 4 (.fl 5 (.fl 6 (.fl 7 (.fl 8 (.fl 9 (.fl 10 (.fl 11 (.fl 12 (.fl 13 (.fl 14 (.fl 15 (.fl 16 (.fl 17 .done)))))))))))))))) .no)),true,[],[],(some ⟨(rg 12 17),[(29,.bool)],[]⟩)⟩) (.cond none (.seq qd .leaf) .leaf)))) qd)))))) (.seq qd .leaf)))
theorem KJ {a0:Sl} {V:View} {Q:Value→View→Prop} (h:Cv a0 V Q):af Tryz.prog 162 ⟨[(.slice a0.a a0.n a0.c)]⟩ V Q:=
 obx false Tryz.f162 E7 (by kernel_rfl) (by kernel_rfl) (by kernel_rfl) (by kernel_rfl) h
def Cw (a0_0:Sl) (V:View) (Q:Value→View→Prop):Prop:=
 ∀(b:Nat),af Tryz.prog 18 ⟨[.agg ⟨[.slice a0_0.a a0_0.n a0_0.c]⟩]⟩ V fun r V=>∃x:Bool,r= .bool x∧br (!x) (Q (.int .i64 (-1)) V) (aG [K.int .i64] (fun(x:Int) V J=>br (decide (x<(a0_0.n:Int))) (0≤x∧x<(a0_0.n:Int)∧∃ad:Addr,a0_0.a=some ad∧∃x_1 x_2 x_3:Int,∃x_4 x_5:Sl,aq V (ad.add (x.toNat*5)) [.int .i64 x_1,.int .i64 x_2,.int .i64 x_3,.slice x_4.a x_4.n x_4.c,.slice x_5.a x_5.n x_5.c]∧∀(b:Nat),br (decide (x_1=0)) (Q (.int .i64 x) V) (inI .i64 (x+1)∧J (x+1) V)) (Q (.int .i64 (-1)) V)) ((0:Int),()) V)
def E8:AC:=(.seq qd (.seq (.seq qd (.cond none (.seq qd .leaf) .leaf)) (.seq (.seq qd (.block none (.loop ⟨([3,4]++rg 12 7++ [20]),[(11,.int .i64)],[]⟩ (.seq qd (.seq (.cond none .leaf .leaf) (.seq (.block none (.seq qd (.seq qd (.cond none (.seq qd .leaf) .leaf)))) qd)))))) (.seq qd .leaf))))
theorem KK {a0_0:Sl} {V:View} {Q:Value→View→Prop} (h:Cw a0_0 V Q):af Tryz.prog 163 ⟨[(.agg ⟨[(.slice a0_0.a a0_0.n a0_0.c)]⟩)]⟩ V Q:=
 obx false Tryz.f163 E8 (by kernel_rfl) (by kernel_rfl) (by kernel_rfl) (by kernel_rfl) h
def Cx (a0:ByteArray) (V:View) (Q:Value→View→Prop):Prop:=
 af Tryz.prog 131 ⟨[.string a0]⟩ V fun r V=>∃x:Sl,∃x_1:Int,r=Value.tuple ⟨[.slice x.a x.n x.c,.int .i64 x_1]⟩∧br (!decide (x_1=0)) (Q (Value.tuple ⟨[.string ⟨#[]⟩,.string ⟨#[]⟩,.int .i64 x_1]⟩) V) (br (decide ((x.n:Int)=0)) (Q (Value.tuple ⟨[.string ⟨#[]⟩,.string ⟨#[]⟩,.int .i64 18]⟩) V) (True∧∃S:View,S.Le V∧inI .i64 ((x.n:Int)-1)∧(0:Int)≤0∧0≤(x.n:Int)-1∧(x.n:Int)-1≤(↑x.c:Int)∧inI .i64 ((x.n:Int)-1)∧0≤(x.n:Int)-1∧(x.n:Int)-1<(x.n:Int)∧∃ad:Addr,x.a=some ad∧∃x_2:ByteArray,S.cell? (ad.add (Int.toNat ((x.n:Int)-1)*1))=some (.string x_2)∧af Tryz.prog 182 ⟨[.slice (if x.c=(0:Nat)then x.a else Option.map (fun(x:Addr)=>x.add (0:Nat)) x.a) (Int.toNat ((x.n:Int)-1)-(0:Nat)) (x.c-(0:Nat))]⟩ V fun r V=>∃x:ByteArray,r= .string x∧S.Le V∧Q (Value.tuple ⟨[.string x,.string x_2,.int .i64 0]⟩) V))
def E9:AC:=(.seq qd (.seq qd (.seq (.seq qd (.cond none (.seq qd .leaf) .leaf)) (.seq (.seq qd (.cond none (.seq qd .leaf) .leaf)) (.seq (.reg ⟨(.fl 0 (.fl 1 (.fl 2 (.fl 3 (.fl 4 (.fl 6 (.fl 7 (.fl 8 (.fl 9 (.fl 10 (.fl 11 (.alt 5 true false (.fl 12 (.fl 13 (.fl 14 .done))) .no)))))))))))),true,[],[],none⟩) .leaf)))))
theorem KL {a0:ByteArray} {V:View} {Q:Value→View→Prop} (h:Cx a0 V Q):af Tryz.prog 164 ⟨[(.string a0)]⟩ V Q:=
 obx false Tryz.f164 E9 (by kernel_rfl) (by kernel_rfl) (by kernel_rfl) (by kernel_rfl) h
def Cy (a0:Sl) (a1:Int) (V:View) (Q:Value→View→Prop):Prop:=
 aA [K.bool] (fun J=>br (bif decide (0≤a1)then decide (a1<(a0.n:Int))else false) (0≤a1∧a1<(a0.n:Int)∧∃ad:Addr,a0.a=some ad∧∃x:Bool,V.cell? (ad.add (a1.toNat*1))=some (.bool x)∧J x V) (J false V)) fun x V=>Q (.bool x) V
def Fa:AC:=(.seq qd (.seq (.reg ⟨.done,false,[],[],(some ⟨(rg 5 14),[(4,.bool)],[]⟩)⟩) .leaf))
theorem KM {a0:Sl} {a1:Int} {V:View} {Q:Value→View→Prop} (h:Cy a0 a1 V Q):af Tryz.prog 165 ⟨[(.slice a0.a a0.n a0.c),(.int .i64 a1)]⟩ V Q:=
 obx false Tryz.f165 Fa (by kernel_rfl) (by kernel_rfl) (by kernel_rfl) (by kernel_rfl) h
def Cz (a0:Sl) (g1:FuncId) (x1:List Value) (y1:List Value) (V:View) (Q:Value→View→Prop):Prop:=
 af Tryz.prog 183 ⟨[.slice a0.a a0.n a0.c,Value.func (Fn.func g1) (Array.mk x1) (Array.mk y1)]⟩ V fun r V=>∃x:Int,r= .int .i64 x∧Q (.bool (decide (0≤x))) V
def Fb:AC:=(.seq qd (.seq qd .leaf))
theorem KN {a0:Sl} {g1:FuncId} {x1:List Value} {y1:List Value} {V:View} {Q:Value→View→Prop} (h:Cz a0 g1 x1 y1 V Q):af Tryz.prog 166 ⟨[(.slice a0.a a0.n a0.c),(.func (.func g1) ⟨x1⟩ ⟨y1⟩)]⟩ V Q:=
 obx false Tryz.f166 Fb (by kernel_rfl) (by kernel_rfl) (by kernel_rfl) (by kernel_rfl) h
def CA (a0:Int) (V:View) (Q:Value→View→Prop):Prop:=
 Q (.bool (bif decide (a0<(-1:Int))then true else decide (12≤a0))) V
def Fc:AC:=(.seq qd (.seq qd .leaf))
theorem KO {a0:Int} {V:View} {Q:Value→View→Prop} (h:CA a0 V Q):af Tryz.prog 167 ⟨[(.int .i64 a0)]⟩ V Q:=
 obx false Tryz.f167 Fc (by kernel_rfl) (by kernel_rfl) (by kernel_rfl) (by kernel_rfl) h
def CB (a0_0:Sl) (V:View) (Q:Value→View→Prop):Prop:=
 ∀(b:Nat),af Tryz.prog 69 ⟨[.agg ⟨[.slice a0_0.a a0_0.n a0_0.c]⟩]⟩ V fun r V=>∃x:Bool,r= .bool x∧br (!x) (Q (.int .i64 (-1)) V) (af Tryz.prog 160 ⟨[.slice a0_0.a a0_0.n a0_0.c,Value.func (Fn.func (184:Nat)) ⟨[]⟩ ⟨[]⟩]⟩ V fun r V=>∃x:Int,r= .int .i64 x∧Q (.int .i64 x) V)
def Fe:AC:=(.seq qd (.seq (.seq qd (.cond none (.seq qd .leaf) .leaf)) (.seq qd .leaf)))
theorem KP {a0_0:Sl} {V:View} {Q:Value→View→Prop} (h:CB a0_0 V Q):af Tryz.prog 168 ⟨[(.agg ⟨[(.slice a0_0.a a0_0.n a0_0.c)]⟩)]⟩ V Q:=
 obx false Tryz.f168 Fe (by kernel_rfl) (by kernel_rfl) (by kernel_rfl) (by kernel_rfl) h
def CC (a0:Sl) (a1:ByteArray) (V:View) (Q:Value→View→Prop):Prop:=
 af Tryz.prog 162 ⟨[.slice a0.a a0.n a0.c]⟩ V fun r V=>∃x:Bool,r= .bool x∧br (!x) (Q (Value.tuple ⟨[.slice none 0 0,.int .i64 1]⟩) V) (af Tryz.prog 185 ⟨[.slice a0.a a0.n a0.c,.string a1]⟩ V fun r V=>∃x:Int,r= .int .i64 x∧br (decide (x<0)) (Q (Value.tuple ⟨[.slice none 0 0,.int .i64 8]⟩) V) (True∧(0:Int)≤0∧0≤x∧x≤(↑a0.c:Int)∧inI .i64 (x+1)∧0≤x+1∧x+1≤(a0.n:Int)∧(a0.n:Int)≤(↑a0.c:Int)∧b7 V (Obj.cells (Array.mk (bD (bD [.slice none 0 0,.slice none 0 0] (0:Nat) [.slice (if a0.c=(0:Nat)then a0.a else Option.map (fun(x:Addr)=>x.add (0:Nat)) a0.a) (x.toNat-(0:Nat)) (a0.c-(0:Nat))]) (1:Nat) [.slice (if a0.c=Int.toNat (x+1)then a0.a else Option.map (fun(x_1:Addr)=>x_1.add (Int.toNat (x+1)*2)) a0.a) (Int.toNat (a0.n:Int)-Int.toNat (x+1)) (a0.c-Int.toNat (x+1))])) (61:Nat)) fun r V=>af Tryz.prog 186 ⟨[.slice (some (Addr.mk r 0 none)) (2:Nat) (2:Nat)]⟩ V fun r V=>∃x:Sl,r= .slice x.a x.n x.c∧Q (Value.tuple ⟨[.slice x.a x.n x.c,.int .i64 0]⟩) V))
def Ff:AC:=(.seq qd (.seq (.seq qd (.cond none (.seq qd .leaf) .leaf)) (.seq qd (.seq (.seq qd (.cond none (.seq qd .leaf) .leaf)) (.seq (.reg ⟨(.fl 0 (.fl 1 (.fl 2 (.fl 3 (.fl 4 (.fl 5 (.fl 6 (.alt 7 false false (.alt 8 false false (.fl 9 (.fl 10 .done)) .no) .no)))))))),false,[],[],none⟩) .leaf)))))
theorem KQ {a0:Sl} {a1:ByteArray} {V:View} {Q:Value→View→Prop} (h:CC a0 a1 V Q):af Tryz.prog 169 ⟨[(.slice a0.a a0.n a0.c),(.string a1)]⟩ V Q:=
 obx false Tryz.f169 Ff (by kernel_rfl) (by kernel_rfl) (by kernel_rfl) (by kernel_rfl) h
def CD (a0_0:Sl) (a1:ByteArray) (V:View) (Q:Value→View→Prop):Prop:=
 ∀(b:Nat),af Tryz.prog 69 ⟨[.agg ⟨[.slice a0_0.a a0_0.n a0_0.c]⟩]⟩ V fun r V=>∃x:Bool,r= .bool x∧br (!x) (Q (Value.tuple ⟨[.int .i64 0,.string ⟨#[]⟩,.int .i64 1]⟩) V) (af Tryz.prog 187 ⟨[.string a1]⟩ V fun r V=>∃x x_1:ByteArray,∃x_2:Int,r=Value.tuple ⟨[.string x,.string x_1,.int .i64 x_2]⟩∧br (!decide (x_2=0)) (Q (Value.tuple ⟨[.int .i64 0,.string ⟨#[]⟩,.int .i64 x_2]⟩) V) (af Tryz.prog 102 ⟨[.agg ⟨[.slice a0_0.a a0_0.n a0_0.c]⟩,.string x]⟩ V fun r V=>∃x x_3:Int,r=Value.tuple ⟨[.int .i64 x,.int .i64 x_3]⟩∧br (!decide (x_3=0)) (Q (Value.tuple ⟨[.int .i64 0,.string ⟨#[]⟩,.int .i64 x_3]⟩) V) (0≤x∧x<(a0_0.n:Int)∧∃ad:Addr,a0_0.a=some ad∧∃x_4:Int,V.cell? (Addr.add (ad.add (x.toNat*5)) (0:Nat))=some (.int .i64 x_4)∧br (!decide (x_4=2)) (Q (Value.tuple ⟨[.int .i64 0,.string ⟨#[]⟩,.int .i64 11]⟩) V) (Q (Value.tuple ⟨[.int .i64 x,.string x_1,.int .i64 0]⟩) V))))
def Fg:AC:=(.seq qd (.seq (.seq qd (.cond none (.seq qd .leaf) .leaf)) (.seq qd (.seq (.seq qd (.cond none (.seq qd .leaf) .leaf)) (.seq qd (.seq (.block none (.seq qd (.cond none (.seq qd .leaf) (.seq qd (.cond none (.seq qd .leaf) .leaf))))) (.seq qd .leaf)))))))
theorem KR {a0_0:Sl} {a1:ByteArray} {V:View} {Q:Value→View→Prop} (h:CD a0_0 a1 V Q):af Tryz.prog 170 ⟨[(.agg ⟨[(.slice a0_0.a a0_0.n a0_0.c)]⟩),(.string a1)]⟩ V Q:=
 obx false Tryz.f170 Fg (by kernel_rfl) (by kernel_rfl) (by kernel_rfl) (by kernel_rfl) h
def CE (a0:Sl) (a1:ByteArray) (V:View) (Q:Value→View→Prop):Prop:=
 af Tryz.prog 185 ⟨[.slice a0.a a0.n a0.c,.string a1]⟩ V fun r V=>∃x:Int,r= .int .i64 x∧br (decide (x<0)) (Q (.int .i64 (-1)) V) (0≤x∧x<(a0.n:Int)∧∃ad:Addr,a0.a=some ad∧∃x_1:Int,V.cell? (Addr.add (ad.add (x.toNat*2)) (1:Nat))=some (.int .i64 x_1)∧Q (.int .i64 x_1) V)
def Fh:AC:=(.seq qd (.seq qd (.seq (.seq qd (.cond none (.seq qd .leaf) .leaf)) (.seq qd .leaf))))
theorem KS {a0:Sl} {a1:ByteArray} {V:View} {Q:Value→View→Prop} (h:CE a0 a1 V Q):af Tryz.prog 171 ⟨[(.slice a0.a a0.n a0.c),(.string a1)]⟩ V Q:=
 obx false Tryz.f171 Fh (by kernel_rfl) (by kernel_rfl) (by kernel_rfl) (by kernel_rfl) h
def CF (a0:Int) (z0:Addr) (V:View) (Q:Value→View→Prop):Prop:=
 aA [K.bool] (fun J=>br (decide (0≤a0)) (∃x:Sl,V.cell? (z0.add (0:Nat))=some (.slice x.a x.n x.c)∧J (decide (a0<(x.n:Int))) V) (J false V)) fun x V=>Q (.bool x) V
def Fi:AC:=(.seq qd (.seq (.reg ⟨.done,false,[],[],(some ⟨(rg 4 9),[(3,.bool)],[]⟩)⟩) .leaf))
theorem KT {a0:Int} {z0:Addr} {V:View} {Q:Value→View→Prop} (h:CF a0 z0 V Q):af Tryz.prog 172 ⟨[(.int .i64 a0),(.pointer (some z0))]⟩ V Q:=
 obx false Tryz.f172 Fi (by kernel_rfl) (by kernel_rfl) (by kernel_rfl) (by kernel_rfl) h
def CG (a0:Sl) (a1:ByteArray) (a2:Int) (V:View) (Q:Value→View→Prop):Prop:=
 ∀(b:Nat),aA [K.bool] (fun J=>af Tryz.prog 162 ⟨[.slice a0.a a0.n a0.c]⟩ V fun r V=>∃x:Bool,r= .bool x∧br (!x) (J true V) (af Tryz.prog 181 ⟨[.agg ⟨[.string a1,.int .i64 a2]⟩]⟩ V fun r V=>∃x:Bool,r= .bool x∧J (!x) V)) fun x V=>br x (Q (Value.tuple ⟨[.slice none 0 0,.int .i64 1]⟩) V) (af Tryz.prog 185 ⟨[.slice a0.a a0.n a0.c,.string a1]⟩ V fun r V=>∃x:Int,r= .int .i64 x∧br (decide (0≤x)) (Q (Value.tuple ⟨[.slice none 0 0,.int .i64 9]⟩) V) (br (decide (10≤(a0.n:Int))) (Q (Value.tuple ⟨[.slice none 0 0,.int .i64 14]⟩) V) (aG [K.int .i64] (fun(x:Int) V J=>aA [K.bool] (fun J=>br (decide (x<(a0.n:Int))) (0≤x∧x<(a0.n:Int)∧∃ad:Addr,a0.a=some ad∧∃x_1:ByteArray,V.cell? (Addr.add (ad.add (x.toNat*2)) (0:Nat))=some (.string x_1)∧J (bf x_1 a1) V) (J false V)) fun x_1 V=>br x_1 (inI .i64 (x+1)∧J (x+1) V) (True∧(0:Int)≤0∧0≤x∧x≤(↑a0.c:Int)∧0≤x∧x≤(a0.n:Int)∧(a0.n:Int)≤(↑a0.c:Int)∧b7 V (Obj.cells (Array.mk (bD [.string ⟨#[]⟩,.int .i64 0] (0:Nat) [.string a1,.int .i64 a2])) (85:Nat)) fun r V=>b7 V (Obj.cells (Array.mk (bD (bD (bD [.slice none 0 0,.slice none 0 0,.slice none 0 0] (0:Nat) [.slice (if a0.c=(0:Nat)then a0.a else Option.map (fun(x:Addr)=>x.add (0:Nat)) a0.a) (x.toNat-(0:Nat)) (a0.c-(0:Nat))]) (1:Nat) [.slice (some (Addr.mk r 0 none)) (1:Nat) (1:Nat)]) (2:Nat) [.slice (if a0.c=x.toNat then a0.a else Option.map (fun(x_2:Addr)=>x_2.add (x.toNat*2)) a0.a) (Int.toNat (a0.n:Int)-x.toNat) (a0.c-x.toNat)])) (61:Nat)) fun r V=>af Tryz.prog 186 ⟨[.slice (some (Addr.mk r 0 none)) (3:Nat) (3:Nat)]⟩ V fun r V=>∃x:Sl,r= .slice x.a x.n x.c∧Q (Value.tuple ⟨[.slice x.a x.n x.c,.int .i64 0]⟩) V)) ((0:Int),()) V)))
def Fj:AC:=(.seq qd (.seq qd (.seq (.block none (.seq (.reg ⟨.done,false,[],[],(some ⟨(rg 14 8),[(13,.bool)],[]⟩)⟩) (.cond none (.seq qd .leaf) (.seq qd (.cond none (.seq qd .leaf) (.seq qd (.cond none (.seq qd .leaf) .leaf))))))) (.seq qd (.seq (.block none (.loop ⟨(rg 31 15),[(9,.int .i64)],[]⟩ (.seq (.seq (.reg ⟨.done,false,[],[],(some ⟨(rg 31 12),[(43,.bool)],[]⟩)⟩) (.cond none .leaf .leaf)) (.block none qd)))) (.seq (.reg ⟨(.fl 0 (.fl 1 (.fl 2 (.fl 3 (.fl 5 (.fl 6 (.fl 7 (.alt 4 false false (.alt 8 false false (.alt 9 false false (.fl 10 (.fl 11 .done)) .no) .no) .no)))))))),false,[],[],none⟩) .leaf))))))
theorem KU {a0:Sl} {a1:ByteArray} {a2:Int} {V:View} {Q:Value→View→Prop} (h:CG a0 a1 a2 V Q):af Tryz.prog 173 ⟨[(.slice a0.a a0.n a0.c),(.string a1),(.int .i64 a2)]⟩ V Q:=
 obx false Tryz.f173 Fj (by kernel_rfl) (by kernel_rfl) (by kernel_rfl) (by kernel_rfl) h
def CH (a0:Sl) (g1:FuncId) (x1:List Value) (y1:List Value) (V:View) (Q:Value→View→Prop):Prop:=
 af Tryz.prog 190 ⟨[.slice a0.a a0.n a0.c,Value.func (Fn.func g1) (Array.mk x1) (Array.mk y1)]⟩ V fun r V=>∃x:Int,r= .int .i64 x∧Q (.bool (decide (0≤x))) V
def Fk:AC:=(.seq qd (.seq qd .leaf))
theorem KV {a0:Sl} {g1:FuncId} {x1:List Value} {y1:List Value} {V:View} {Q:Value→View→Prop} (h:CH a0 g1 x1 y1 V Q):af Tryz.prog 176 ⟨[(.slice a0.a a0.n a0.c),(.func (.func g1) ⟨x1⟩ ⟨y1⟩)]⟩ V Q:=
 obx false Tryz.f176 Fk (by kernel_rfl) (by kernel_rfl) (by kernel_rfl) (by kernel_rfl) h
def CI (a0:ByteArray) (V:View) (Q:Value→View→Prop):Prop:=
 af Tryz.prog 178 ⟨[.string a0]⟩ V fun r V=>∃x:Bool,r= .bool x∧Q (.bool !x) V
def Fl:AC:=(.seq qd (.seq qd .leaf))
theorem KW {a0:ByteArray} {V:View} {Q:Value→View→Prop} (h:CI a0 V Q):af Tryz.prog 177 ⟨[(.string a0)]⟩ V Q:=
 obx false Tryz.f177 Fl (by kernel_rfl) (by kernel_rfl) (by kernel_rfl) (by kernel_rfl) h
def CJ (a0:ByteArray) (V:View) (Q:Value→View→Prop):Prop:=
 aG [K.int .i64] (fun(x:Int) V J=>br (decide (x<(↑(ByteArray.size a0):Int))) (0≤x∧x<(↑(ByteArray.size a0):Int)∧br (!bif bif bif bif bif decide (97≤(↑(UInt8.toNat (List.getD (Array.toList (ByteArray.data a0)) (x.toNat) 0)):Int))then decide ((↑(UInt8.toNat (List.getD (Array.toList (ByteArray.data a0)) (x.toNat) 0)):Int)≤122)else false then true else bif decide (48≤(↑(UInt8.toNat (List.getD (Array.toList (ByteArray.data a0)) (x.toNat) 0)):Int))then decide ((↑(UInt8.toNat (List.getD (Array.toList (ByteArray.data a0)) (x.toNat) 0)):Int)≤57)else false then true else decide ((↑(UInt8.toNat (List.getD (Array.toList (ByteArray.data a0)) (x.toNat) 0)):Int)=46)then true else decide ((↑(UInt8.toNat (List.getD (Array.toList (ByteArray.data a0)) (x.toNat) 0)):Int)=95)then true else decide ((↑(UInt8.toNat (List.getD (Array.toList (ByteArray.data a0)) (x.toNat) 0)):Int)=45)) (Q (.bool false) V) (inI .i64 (x+1)∧J (x+1) V)) (Q (.bool (bif bif bif decide (1≤(↑(ByteArray.size a0):Int))then decide ((↑(ByteArray.size a0):Int)≤8)else false then !decide (a0=ByteArray.mk #[46])else false then !decide (a0=ByteArray.mk #[46,46])else false)) V)) ((0:Int),()) V
def Fm:AC:=(.seq qd (.seq (.seq qd (.block none (.loop ⟨([3,4]++rg 8 33),[(7,.int .i64)],[]⟩ (.seq qd (.seq (.cond none .leaf .leaf) (.seq (.block none (.seq qd (.seq qd (.seq qd (.cond none (.seq qd .leaf) .leaf))))) qd)))))) (.seq qd .leaf)))
theorem KX {a0:ByteArray} {V:View} {Q:Value→View→Prop} (h:CJ a0 V Q):af Tryz.prog 178 ⟨[(.string a0)]⟩ V Q:=
 obx false Tryz.f178 Fm (by kernel_rfl) (by kernel_rfl) (by kernel_rfl) (by kernel_rfl) h
def CK (a0:Int) (a1_0:Int) (a1_1:Int) (a1_2:Int) (a1_3:Sl) (a1_4:Sl) (V:View) (Q:Value→View→Prop):Prop:=
 ∀(b:Nat),aA [K.bool] (fun J=>br (!decide (a1_0=1)) (J true V) (af Tryz.prog 114 ⟨[.agg ⟨[.int .i64 a1_0,.int .i64 a1_1,.int .i64 a1_2,.slice a1_3.a a1_3.n a1_3.c,.slice a1_4.a a1_4.n a1_4.c]⟩]⟩ V fun r V=>∃x:Bool,r= .bool x∧br (!x) (J true V) (af Tryz.prog 180 ⟨[.int .i64 a0,.int .i64 11]⟩ V fun r V=>∃x:Bool,r= .bool x∧J (!x) V))) fun x V=>br x (Q (.slice none 0 0) V) (aG [K.sl,K.int .i64] (fun(x:Sl) (x_1:Int) (V:View) (J:c7 [K.sl,K.int .i64])=>br (decide (x_1<(a1_3.n:Int))) (0≤x_1∧x_1<(a1_3.n:Int)∧∃ad:Addr,a1_3.a=some ad∧∃x_2:Int,V.cell? (ad.add (x_1.toNat*1))=some (.int .i64 x_2)∧aA [K.sl] (fun J=>br (!decide (x_2=0)) (inI .i64 (a0*5)∧inI .i64 (1+a0*5)∧inI .i64 (1+a0*5+x_1)∧b7 V (Obj.cells (Array.mk (bD [.int .i64 0,.int .i64 0] (0:Nat) [.int .i64 (1+a0*5+x_1),.int .i64 x_2])) (190:Nat)) fun r V=>apV V (190:Nat) (2:Nat) (16:Nat) [.int .i64 0,.int .i64 0] (Sl.mk x.a x.n x.c) (.slice (some (Addr.mk r 0 none)) (1:Nat) (1:Nat)) fun s V=>J (Sl.mk s.a s.n s.c) V) (J (Sl.mk x.a x.n x.c) V)) fun x V=>inI .i64 (x_1+1)∧J (Sl.mk x.a x.n x.c) (x_1+1) V) (Q (.slice x.a x.n x.c) V)) (Sl.mk none (0:Nat) (0:Nat),(0:Int),()) V)
def Fo:AC:=(.seq qd (.seq (.seq (.reg ⟨.done,false,[],[],(some ⟨(rg 8 12),[(20,.bool)],[]⟩)⟩) (.cond none (.seq qd .leaf) .leaf)) (.seq qd (.seq (.seq qd (.block none (.loop ⟨([6,7]++rg 25 17),[(5,.sl),(24,.int .i64)],[]⟩ (.seq qd (.seq (.cond none .leaf .leaf) (.seq (.block none (.seq qd (.seq qd (.cond (some ⟨(rg 31 10),[(5,.sl)],[]⟩) qd .leaf)))) qd)))))) (.seq qd .leaf)))))
theorem KY {a0:Int} {a1_0:Int} {a1_1:Int} {a1_2:Int} {a1_3:Sl} {a1_4:Sl} {V:View} {Q:Value→View→Prop} (h:CK a0 a1_0 a1_1 a1_2 a1_3 a1_4 V Q):af Tryz.prog 179 ⟨[(.int .i64 a0),(.agg ⟨[(.int .i64 a1_0),(.int .i64 a1_1),(.int .i64 a1_2),(.slice a1_3.a a1_3.n a1_3.c),(.slice a1_4.a a1_4.n a1_4.c)]⟩)]⟩ V Q:=
 obx false Tryz.f179 Fo (by kernel_rfl) (by kernel_rfl) (by kernel_rfl) (by kernel_rfl) h
def CL (a0:Int) (a1:Int) (V:View) (Q:Value→View→Prop):Prop:=
 Q (.bool (bif decide (0≤a0)then decide (a0≤a1)else false)) V
def Fp:AC:=(.seq qd (.seq qd .leaf))
theorem KZ {a0:Int} {a1:Int} {V:View} {Q:Value→View→Prop} (h:CL a0 a1 V Q):af Tryz.prog 180 ⟨[(.int .i64 a0),(.int .i64 a1)]⟩ V Q:=
 obx false Tryz.f180 Fp (by kernel_rfl) (by kernel_rfl) (by kernel_rfl) (by kernel_rfl) h
def CM (a0_0:ByteArray) (a0_1:Int) (V:View) (Q:Value→View→Prop):Prop:=
 ∀(b:Nat),af Tryz.prog 178 ⟨[.string a0_0]⟩ V fun r V=>∃x:Bool,r= .bool x∧Q (.bool (bif bif x then decide (1≤a0_1)else false then decide (a0_1<12)else false)) V
def Fq:AC:=(.seq qd (.seq qd .leaf))
theorem K0 {a0_0:ByteArray} {a0_1:Int} {V:View} {Q:Value→View→Prop} (h:CM a0_0 a0_1 V Q):af Tryz.prog 181 ⟨[(.agg ⟨[(.string a0_0),(.int .i64 a0_1)]⟩)]⟩ V Q:=
 obx false Tryz.f181 Fq (by kernel_rfl) (by kernel_rfl) (by kernel_rfl) (by kernel_rfl) h
def CN (a0:Sl) (V:View) (Q:Value→View→Prop):Prop:=
 br (decide ((a0.n:Int)=0)) (Q (.string ⟨#[47]⟩) V) (aG [K.str,K.int .i64] (fun(x:ByteArray) (x_1:Int) (V:View) (J:c7 [K.str,K.int .i64])=>br (decide (x_1<(a0.n:Int))) (0≤x_1∧x_1<(a0.n:Int)∧∃ad:Addr,a0.a=some ad∧∃x_2:ByteArray,V.cell? (ad.add (x_1.toNat*1))=some (.string x_2)∧af Tryz.prog 122 ⟨[.string x_2]⟩ V fun r V=>∃x_3:Bool,r= .bool x_3∧br (bif !x_3 then true else decide (60<x_1)) (Q (.string ⟨#[]⟩) V) ((1:Nat)+ByteArray.size x_2≤(9223372036854775807:Nat)∧ByteArray.size x+ByteArray.size (ByteArray.mk #[47]++x_2)≤(9223372036854775807:Nat)∧inI .i64 (x_1+1)∧J (x++(ByteArray.mk #[47]++x_2)) (x_1+1) V)) (br (decide (60<(↑(ByteArray.size x):Int))) (Q (.string ⟨#[]⟩) V) (Q (.string x) V))) (ByteArray.mk #[],(0:Int),()) V)
def Fs:AC:=(.seq qd (.seq (.seq qd (.cond none (.seq qd .leaf) .leaf)) (.seq qd (.seq (.seq qd (.block none (.loop ⟨([4,5]++rg 12 16),[(3,.str),(11,.int .i64)],[]⟩ (.seq qd (.seq (.cond none .leaf .leaf) (.seq (.block none (.seq qd (.seq (.seq qd (.cond none (.seq qd .leaf) .leaf)) qd))) qd)))))) (.seq (.seq qd (.cond none (.seq qd .leaf) .leaf)) (.seq qd .leaf))))))
theorem K1 {a0:Sl} {V:View} {Q:Value→View→Prop} (h:CN a0 V Q):af Tryz.prog 182 ⟨[(.slice a0.a a0.n a0.c)]⟩ V Q:=
 obx false Tryz.f182 Fs (by kernel_rfl) (by kernel_rfl) (by kernel_rfl) (by kernel_rfl) h
def CO (a0:Sl) (g1:FuncId) (x1:List Value) (y1:List Value) (V:View) (Q:Value→View→Prop):Prop:=
 aG [K.int .i64] (fun(x:Int) V J=>br (decide (x<(a0.n:Int))) (0≤x∧x<(a0.n:Int)∧∃ad:Addr,a0.a=some ad∧∃x_1:Int,V.cell? (ad.add (x.toNat*1))=some (.int .i64 x_1)∧af Tryz.prog g1 (Array.mk (Array.toList (Array.mk x1)++ [.int .i64 x_1]++Array.toList (Array.mk y1))) V fun r V=>∃x_2:Bool,r= .bool x_2∧br x_2 (Q (.int .i64 x) V) (inI .i64 (x+1)∧J (x+1) V)) (Q (.int .i64 (-1)) V)) ((0:Int),()) V
def Ft:AC:=(.seq qd (.seq (.seq qd (.block none (.loop ⟨([5]++rg 9 8++ [18]),[(8,.int .i64)],[]⟩ (.seq qd (.seq (.cond none .leaf .leaf) (.seq (.block none (.seq qd (.seq qd (.cond none (.seq qd .leaf) .leaf)))) qd)))))) (.seq qd .leaf)))
theorem K2 {a0:Sl} {g1:FuncId} {x1:List Value} {y1:List Value} {V:View} {Q:Value→View→Prop} (h:CO a0 g1 x1 y1 V Q):af Tryz.prog 183 ⟨[(.slice a0.a a0.n a0.c),(.func (.func g1) ⟨x1⟩ ⟨y1⟩)]⟩ V Q:=
 obx false Tryz.f183 Ft (by kernel_rfl) (by kernel_rfl) (by kernel_rfl) (by kernel_rfl) h
def CP (a0_0:Int) (a0_1:Int) (a0_2:Int) (a0_3:Sl) (a0_4:Sl) (V:View) (Q:Value→View→Prop):Prop:=
 ∀(b:Nat),Q (.bool (decide (a0_0=0))) V
def Fu:AC:=(.seq qd (.seq qd .leaf))
theorem K3 {a0_0:Int} {a0_1:Int} {a0_2:Int} {a0_3:Sl} {a0_4:Sl} {V:View} {Q:Value→View→Prop} (h:CP a0_0 a0_1 a0_2 a0_3 a0_4 V Q):af Tryz.prog 184 ⟨[(.agg ⟨[(.int .i64 a0_0),(.int .i64 a0_1),(.int .i64 a0_2),(.slice a0_3.a a0_3.n a0_3.c),(.slice a0_4.a a0_4.n a0_4.c)]⟩)]⟩ V Q:=
 obx false Tryz.f184 Fu (by kernel_rfl) (by kernel_rfl) (by kernel_rfl) (by kernel_rfl) h
def CQ (a0:Sl) (a1:ByteArray) (V:View) (Q:Value→View→Prop):Prop:=
 ∀(b:Nat),V.see b=none→af Tryz.prog 191 ⟨[.slice a0.a a0.n a0.c,Value.func (Fn.func (192:Nat)) ⟨[]⟩ ⟨[.pointer (some (Addr.mk b 0 none))]⟩]⟩ (V.put b (Obj.cells ⟨[.string a1]⟩ (9:Nat))) fun r V=>∃x:Int,r= .int .i64 x∧Q (.int .i64 x) V
def Fv:AC:=(.seq (.reg ⟨.done,false,[(1,0)],[],none⟩) (.seq qd .leaf))
theorem K4 {a0:Sl} {a1:ByteArray} {V:View} {Q:Value→View→Prop} (h:CQ a0 a1 V Q):af Tryz.prog 185 ⟨[(.slice a0.a a0.n a0.c),(.string a1)]⟩ V Q:=
 obx false Tryz.f185 Fv (by kernel_rfl) (by kernel_rfl) (by kernel_rfl) (by kernel_rfl) h
def CR (a0:Sl) (V:View) (Q:Value→View→Prop):Prop:=
 aG [K.int .i64,K.int .i64] (fun(x x_1:Int) (V:View) (J:c7 [K.int .i64,K.int .i64])=>br (decide (x_1<(a0.n:Int))) (0≤x_1∧x_1<(a0.n:Int)∧∃ad:Addr,a0.a=some ad∧∃x_2:Sl,V.cell? (ad.add (x_1.toNat*1))=some (.slice x_2.a x_2.n x_2.c)∧inI .i64 (x+(x_2.n:Int))∧aA [] (fun J=>br (decide (x+(x_2.n:Int)<0)) False (J V)) fun(V:View)=>inI .i64 (x_1+1)∧J (x+(x_2.n:Int)) (x_1+1) V) (af Tryz.prog 193 ⟨[.slice none 0 0,.int .i64 x]⟩ V fun r V=>∃x:Sl,r= .slice x.a x.n x.c∧aG [K.sl,K.int .i64] (fun(x:Sl) (x_2:Int) (V:View) (J:c7 [K.sl,K.int .i64])=>br (decide (x_2<(a0.n:Int))) (0≤x_2∧x_2<(a0.n:Int)∧∃ad:Addr,a0.a=some ad∧∃x_3:Sl,V.cell? (ad.add (x_2.toNat*1))=some (.slice x_3.a x_3.n x_3.c)∧apV V (85:Nat) (2:Nat) (24:Nat) [.string ⟨#[]⟩,.int .i64 0] (Sl.mk x.a x.n x.c) (.slice x_3.a x_3.n x_3.c) fun s V=>inI .i64 (x_2+1)∧J (Sl.mk s.a s.n s.c) (x_2+1) V) (Q (.slice x.a x.n x.c) V)) (Sl.mk x.a x.n x.c,(0:Int),()) V)) ((0:Int),(0:Int),()) V
def Fw:AC:=(.seq qd (.seq qd (.seq (.seq qd (.block none (.loop ⟨([5]++rg 12 11),[(3,.int .i64),(11,.int .i64)],[]⟩ (.seq qd (.seq (.cond none .leaf .leaf) (.seq (.block none (.seq qd (.seq qd (.seq qd (.cond (some ⟨[21],[],[]⟩) qd .leaf))))) qd)))))) (.seq qd (.seq (.seq qd (.block none (.loop ⟨([8]++rg 28 7),[(6,.sl),(27,.int .i64)],[]⟩ (.seq qd (.seq (.cond none .leaf .leaf) (.seq (.block none (.seq qd qd)) qd)))))) (.seq qd .leaf))))))
theorem K5 {a0:Sl} {V:View} {Q:Value→View→Prop} (h:CR a0 V Q):af Tryz.prog 186 ⟨[(.slice a0.a a0.n a0.c)]⟩ V Q:=
 obx false Tryz.f186 Fw (by kernel_rfl) (by kernel_rfl) (by kernel_rfl) (by kernel_rfl) h
def CS (a0:ByteArray) (V:View) (Q:Value→View→Prop):Prop:=
 af Tryz.prog 151 ⟨[.string a0]⟩ V fun r V=>∃x:Sl,∃x_1:Int,r=Value.tuple ⟨[.slice x.a x.n x.c,.int .i64 x_1]⟩∧br (!decide (x_1=0)) (Q (Value.tuple ⟨[.string ⟨#[]⟩,.string ⟨#[]⟩,.int .i64 x_1]⟩) V) (br (decide ((x.n:Int)=0)) (Q (Value.tuple ⟨[.string ⟨#[]⟩,.string ⟨#[]⟩,.int .i64 18]⟩) V) (inI .i64 ((x.n:Int)-1)∧True∧∃S:View,S.Le V∧(0:Int)≤0∧0≤(x.n:Int)-1∧(x.n:Int)-1≤(↑x.c:Int)∧0≤(x.n:Int)-1∧(x.n:Int)-1<(x.n:Int)∧∃ad:Addr,x.a=some ad∧∃x_2:ByteArray,S.cell? (ad.add (Int.toNat ((x.n:Int)-1)*1))=some (.string x_2)∧af Tryz.prog 194 ⟨[.slice (if x.c=(0:Nat)then x.a else Option.map (fun(x:Addr)=>x.add (0:Nat)) x.a) (Int.toNat ((x.n:Int)-1)-(0:Nat)) (x.c-(0:Nat))]⟩ V fun r V=>∃x:ByteArray,r= .string x∧S.Le V∧Q (Value.tuple ⟨[.string x,.string x_2,.int .i64 0]⟩) V))
def Fx:AC:=(.seq qd (.seq qd (.seq (.block none (.seq qd (.cond none (.seq qd .leaf) (.seq qd (.cond none (.seq qd .leaf) .leaf))))) (.seq qd (.seq (.reg ⟨(.fl 0 (.fl 1 (.fl 2 (.fl 4 (.fl 5 (.fl 6 (.fl 7 (.alt 3 true false (.fl 8 (.fl 9 (.fl 10 .done))) .no)))))))),true,[],[],none⟩) .leaf)))))
theorem K6 {a0:ByteArray} {V:View} {Q:Value→View→Prop} (h:CS a0 V Q):af Tryz.prog 187 ⟨[(.string a0)]⟩ V Q:=
 obx false Tryz.f187 Fx (by kernel_rfl) (by kernel_rfl) (by kernel_rfl) (by kernel_rfl) h
def CT (a0:Sl) (g1:FuncId) (x1:List Value) (y1:List Value) (V:View) (Q:Value→View→Prop):Prop:=
 aG [K.int .i64] (fun(x:Int) V J=>br (decide (x<(a0.n:Int))) (0≤x∧x<(a0.n:Int)∧∃ad:Addr,a0.a=some ad∧∃x_1:ByteArray,V.cell? (ad.add (x.toNat*1))=some (.string x_1)∧af Tryz.prog g1 (Array.mk (Array.toList (Array.mk x1)++ [.string x_1]++Array.toList (Array.mk y1))) V fun r V=>∃x_2:Bool,r= .bool x_2∧br x_2 (Q (.int .i64 x) V) (inI .i64 (x+1)∧J (x+1) V)) (Q (.int .i64 (-1)) V)) ((0:Int),()) V
def Fy:AC:=(.seq qd (.seq (.seq qd (.block none (.loop ⟨([5]++rg 9 8++ [18]),[(8,.int .i64)],[]⟩ (.seq qd (.seq (.cond none .leaf .leaf) (.seq (.block none (.seq qd (.seq qd (.cond none (.seq qd .leaf) .leaf)))) qd)))))) (.seq qd .leaf)))
theorem K7 {a0:Sl} {g1:FuncId} {x1:List Value} {y1:List Value} {V:View} {Q:Value→View→Prop} (h:CT a0 g1 x1 y1 V Q):af Tryz.prog 190 ⟨[(.slice a0.a a0.n a0.c),(.func (.func g1) ⟨x1⟩ ⟨y1⟩)]⟩ V Q:=
 obx false Tryz.f190 Fy (by kernel_rfl) (by kernel_rfl) (by kernel_rfl) (by kernel_rfl) h
def CU (a0:Sl) (g1:FuncId) (x1:List Value) (y1:List Value) (V:View) (Q:Value→View→Prop):Prop:=
 aG [K.int .i64] (fun(x:Int) V J=>br (decide (x<(a0.n:Int))) (0≤x∧x<(a0.n:Int)∧∃ad:Addr,a0.a=some ad∧∃x_1:ByteArray,∃x_2:Int,aq V (ad.add (x.toNat*2)) [.string x_1,.int .i64 x_2]∧af Tryz.prog g1 (Array.mk (Array.toList (Array.mk x1)++ [.agg ⟨[.string x_1,.int .i64 x_2]⟩]++Array.toList (Array.mk y1))) V fun r V=>∃x_3:Bool,r= .bool x_3∧br x_3 (Q (.int .i64 x) V) (inI .i64 (x+1)∧J (x+1) V)) (Q (.int .i64 (-1)) V)) ((0:Int),()) V
def Fz:AC:=(.seq qd (.seq (.seq qd (.block none (.loop ⟨([5]++rg 9 8++ [18]),[(8,.int .i64)],[]⟩ (.seq qd (.seq (.cond none .leaf .leaf) (.seq (.block none (.seq qd (.seq qd (.cond none (.seq qd .leaf) .leaf)))) qd)))))) (.seq qd .leaf)))
theorem K8 {a0:Sl} {g1:FuncId} {x1:List Value} {y1:List Value} {V:View} {Q:Value→View→Prop} (h:CU a0 g1 x1 y1 V Q):af Tryz.prog 191 ⟨[(.slice a0.a a0.n a0.c),(.func (.func g1) ⟨x1⟩ ⟨y1⟩)]⟩ V Q:=
 obx false Tryz.f191 Fz (by kernel_rfl) (by kernel_rfl) (by kernel_rfl) (by kernel_rfl) h
def CV (a0_0:ByteArray) (a0_1:Int) (z0:Addr) (V:View) (Q:Value→View→Prop):Prop:=
 ∀(b:Nat),∃x:ByteArray,V.cell? z0=some (.string x)∧Q (.bool (decide (a0_0=x))) V
def FA:AC:=(.seq qd (.seq qd .leaf))
theorem K9 {a0_0:ByteArray} {a0_1:Int} {z0:Addr} {V:View} {Q:Value→View→Prop} (h:CV a0_0 a0_1 z0 V Q):af Tryz.prog 192 ⟨[(.agg ⟨[(.string a0_0),(.int .i64 a0_1)]⟩),(.pointer (some z0))]⟩ V Q:=
 obx false Tryz.f192 FA (by kernel_rfl) (by kernel_rfl) (by kernel_rfl) (by kernel_rfl) h
def CW (a0:Sl) (a1:Int) (V:View) (Q:Value→View→Prop):Prop:=
 aA [] (fun J=>br (decide (a1<0)) False (J V)) fun(V:View)=>inI .i64 ((↑a0.c:Int)-(a0.n:Int))∧inI .i64 (a1-((↑a0.c:Int)-(a0.n:Int)))∧aA [K.sl] (fun J=>br (decide (0<a1-((↑a0.c:Int)-(a0.n:Int)))) ((0:Int)≤0∧0≤(↑a0.c:Int)∧(↑a0.c:Int)≤(↑a0.c:Int)∧apV V (85:Nat) (2:Nat) (24:Nat) [.string ⟨#[]⟩,.int .i64 0] (Sl.mk (if a0.c=(0:Nat)then a0.a else Option.map (fun(x:Addr)=>x.add (0:Nat)) a0.a) (Int.toNat (↑a0.c:Int)-(0:Nat)) (a0.c-(0:Nat))) (.int .i64 (a1-((↑a0.c:Int)-(a0.n:Int)))) fun s V=>(0:Int)≤0∧0≤(a0.n:Int)∧(a0.n:Int)≤(↑s.c:Int)∧J (Sl.mk (if s.c=(0:Nat)then s.a else Option.map (fun(x:Addr)=>x.add (0:Nat)) s.a) (Int.toNat (a0.n:Int)-(0:Nat)) (s.c-(0:Nat))) V) (J (Sl.mk a0.a a0.n a0.c) V)) fun x V=>Q (.slice x.a x.n x.c) V
def FB:AC:=(.seq qd (.seq (.seq qd (.cond (some ⟨[7],[],[]⟩) qd .leaf)) (.seq (.seq qd (.seq qd (.cond (some ⟨(rg 17 9),[(0,.sl)],[]⟩) qd .leaf))) (.seq qd .leaf))))
theorem La {a0:Sl} {a1:Int} {V:View} {Q:Value→View→Prop} (h:CW a0 a1 V Q):af Tryz.prog 193 ⟨[(.slice a0.a a0.n a0.c),(.int .i64 a1)]⟩ V Q:=
 obx false Tryz.f193 FB (by kernel_rfl) (by kernel_rfl) (by kernel_rfl) (by kernel_rfl) h
def CX (a0:Sl) (V:View) (Q:Value→View→Prop):Prop:=
 af Tryz.prog 199 ⟨[.slice a0.a a0.n a0.c,.string ⟨#[47]⟩]⟩ V fun r V=>∃x:ByteArray,r= .string x∧(1:Nat)+ByteArray.size x≤(9223372036854775807:Nat)∧af Tryz.prog 151 ⟨[.string (ByteArray.mk #[47]++x)]⟩ V fun r V=>∃x_1:Sl,∃x_2:Int,r=Value.tuple ⟨[.slice x_1.a x_1.n x_1.c,.int .i64 x_2]⟩∧aA [K.bool] (fun J=>br (!decide (x_2=0)) (J true V) (af Tryz.prog 200 ⟨[.slice x_1.a x_1.n x_1.c,.slice a0.a a0.n a0.c]⟩ V fun r V=>∃x:Bool,r= .bool x∧J (!x) V)) fun x_3 V=>br x_3 (Q (.string ⟨#[]⟩) V) (Q (.string (ByteArray.mk #[47]++x)) V)
def FC:AC:=(.seq qd (.seq qd (.seq qd (.seq (.seq (.reg ⟨.done,false,[],[],(some ⟨(rg 14 7),[(21,.bool)],[]⟩)⟩) (.cond none (.seq qd .leaf) .leaf)) (.seq qd .leaf)))))
theorem Lb {a0:Sl} {V:View} {Q:Value→View→Prop} (h:CX a0 V Q):af Tryz.prog 194 ⟨[(.slice a0.a a0.n a0.c)]⟩ V Q:=
 obx false Tryz.f194 FC (by kernel_rfl) (by kernel_rfl) (by kernel_rfl) (by kernel_rfl) h
def CY (a0:Sl) (a1:Sl) (V:View) (Q:Value→View→Prop):Prop:=
 br (!decide ((a0.n:Int)=(a1.n:Int))) (Q (.bool false) V) (aG [K.int .i64] (fun(x:Int) V J=>br (decide (x<(a0.n:Int))) (True∧∃S:View,S.Le V∧0≤x∧x<(a0.n:Int)∧∃ad:Addr,a0.a=some ad∧∃x_1:ByteArray,S.cell? (ad.add (x.toNat*1))=some (.string x_1)∧0≤x∧x<(a1.n:Int)∧∃ad:Addr,a1.a=some ad∧∃x_2:ByteArray,S.cell? (ad.add (x.toNat*1))=some (.string x_2)∧br (!decide (x_1=x_2)) (Q (.bool false) V) (inI .i64 (x+1)∧J (x+1) V)) (Q (.bool true) V)) ((0:Int),()) V)
def FD:AC:=(.seq qd (.seq (.seq qd (.cond none (.seq qd .leaf) .leaf)) (.seq (.seq qd (.block none (.loop ⟨([5]++rg 14 12),[(13,.int .i64)],[]⟩ (.seq qd (.seq (.cond none .leaf .leaf) (.seq (.block none (.seq qd (.seq (.reg ⟨(.fl 0 (.fl 1 (.fl 2 (.fl 3 (.fl 4 (.fl 5 (.fl 6 (.fl 7 (.fl 8 .done))))))))),true,[],[],none⟩) (.cond none (.seq qd .leaf) .leaf)))) qd)))))) (.seq qd .leaf))))
theorem Lc {a0:Sl} {a1:Sl} {V:View} {Q:Value→View→Prop} (h:CY a0 a1 V Q):af Tryz.prog 200 ⟨[(.slice a0.a a0.n a0.c),(.slice a1.a a1.n a1.c)]⟩ V Q:=
 obx false Tryz.f200 FD (by kernel_rfl) (by kernel_rfl) (by kernel_rfl) (by kernel_rfl) h
end Go.Proofs.YtoogangnldppaaaGreatDoor
/- Contracts of package bytes. -/
namespace Go.Proofs.YtoogangnldppaaaGreatDoor
open Go
def u8s (l:List UInt8):List Value:=l.map fun b=> .int .u8 b.toNat
theorem eW (l:List UInt8):(u8s l).length=l.length:=List.length_map _
theorem uj (l:List UInt8):(u8s l).all Value.oneCell' =true:=by
 rw[List.all_eq_true]
 intro v hv
 obtain⟨b,_,rfl⟩:=List.mem_map.1 hv
 rfl
theorem cV {W:View} :∀l:List UInt8,aR W (u8s l) l
 | []=>rfl
 | b::l=>⟨[.int .u8 b.toNat],u8s l,rfl,rfl,cV l⟩
theorem jM {W:View} :∀ {cs:List Value} {l:List UInt8},aR W cs l→cs=u8s l
 | _,[],h=>h
 | _,b::l,⟨vs,us,e,h1,h2⟩=>by
   have h1:vs= [Value.int .u8 b.toNat]:=h1
   rw[e,h1,jM h2];rfl
theorem SlR.FE {V:View} {s:Sl} {l:List UInt8} (h:SlR V s l):rowAt V s.a (s.n*1) (u8s l):=by
 obtain⟨cs,h1,h2⟩:=h.row
 rw[jM h2]at h1
 exact h1
structure qk (V V' :View) (x:Sl) (l:List UInt8):Prop where
 buf:Buf V' x 5 1 (u8s l)
 le:V.Le (V'.minus x)
theorem qk.slR {V V' :View} {x:Sl} {l:List UInt8} (h:qk V V' x l):SlR V' x l:=h.buf.slR (W:=V) (cV l) (h.le.trans (View.aj _ _))
theorem qk.vle {V V' :View} {x:Sl} {l:List UInt8} (h:qk V V' x l):V.Le V' :=h.le.trans (View.aj _ _)
theorem zY {s:Sl} {l:List UInt8} {V:View} (h:SlR V s l) (hl:l.length≤140737488355328):af Tryz.prog 155 ⟨[.slice s.a s.n s.c]⟩ V fun r V' =>∃x:Sl,r= .slice x.a x.n x.c∧qk V V' x l:=by
 refine KC ?_
 unfold Co
 have hn:=h.n
 refine aa (fun hnil=> ?_) (fun _=> ?_)
 ·have ha:s.a=none:=Option.isNone_iff_eq_none.1 hnil
  have hl0:l= []:=by
   cases l with
   | nil=>rfl
   | cons b l=>obtain⟨ad,vs,h1,_⟩:=h.get 0 (by simp);rw[ha]at h1;cases h1
  subst hl0
  exact⟨⟨none,0,0⟩,rfl,Buf.nil _ _ _,View.Le.refl V⟩
 ·intro r hr
  have hfr:V.see r=none:=View.ax hr
  refine jL (cs:= []) (src:=u8s l) (m:=s.n) rfl ⟨rfl,Nat.le_refl _,Nat.zero_le _,.inr ⟨r,[],rfl,View.ah _ _ _,rfl,rfl⟩⟩ ?_ (by rw[eW,hn];omega) (uj l) (by simp;omega) (by simp;omega) ?_
  ·exact⟨rfl,(h.mono (View.bB hfr)).FE⟩
  ·intro x V' hb _ hle
   refine⟨x,rfl,hb,View.Le.trans ?_ hle⟩
   refine⟨Nat.le_max_left _ _,fun i o ho=> ?_,rfl⟩
   have hne:i≠r:=fun e=>by rw[e,hfr]at ho;cases ho
   show(if i=r then none else View.see (V.put r _) i)=some o
   rw[if_neg hne,View.aF V _ hne];exact ho
theorem aR.set {α:Type} [Rep α] {W:View} {d:α} {ds:List Value} (hd:Rep.rep W ds d):∀ {cs:List Value} {l:List α} {i:Nat},aR W cs l→i<l.length→aR W (bD cs (i*Rep.sz α) ds) (l.set i d)
 | _,[],i,_,hi=>absurd hi (by simp)
 | _,x::l,0,⟨vs,us,e,h1,h2⟩,_=>by
   have hv:=Rep.len h1;have hdl:=Rep.len hd
   refine⟨ds,us, ?_,hd,h2⟩
   rw[Nat.zero_mul,gv _ _ _ (by rw[e,List.length_append];omega),e,List.take_zero,List.nil_append,Nat.zero_add,List.drop_append_of_le_length (by omega),List.drop_of_length_le (by omega),List.nil_append]
 | _,x::l,i+1,⟨vs,us,e,h1,h2⟩,hi=>by
   have hv:=Rep.len h1;have hdl:=Rep.len hd;have hul:=h2.len
   have hi' :i<l.length:=by simpa using hi
   have hle:=Nat.mul_le_mul_right (Rep.sz α) (show i+1≤l.length from hi')
   rw[Nat.add_mul]at hle
   refine⟨vs,bD us (i*Rep.sz α) ds, ?_,h1,aR.set hd h2 hi'⟩
   rw[gv _ _ _ (by rw[e,List.length_append,Nat.add_mul];omega),gv _ _ _ (by omega),e,Nat.add_mul]
   rw[show i*Rep.sz α+1*Rep.sz α=vs.length+i*Rep.sz α by omega,List.take_append,List.drop_append]
   rw[List.take_of_length_le (show vs.length≤vs.length+i*Rep.sz α by omega),List.drop_of_length_le (show vs.length≤vs.length+i*Rep.sz α+ds.length by omega)]
   rw[show vs.length+i*Rep.sz α-vs.length=i*Rep.sz α by omega,show vs.length+i*Rep.sz α+ds.length-vs.length=i*Rep.sz α+ds.length by omega]
   simp [List.append_assoc]
theorem sK:∀(vs cs:List Value) (off m:Nat),(bD cs off vs).take m=bD (cs.take m) off vs
 | [],_,_,_=>rfl
 | v::vs,cs,off,m=>by rw[bD,bD,sK vs,List.take_set]
theorem Buf.set {V:View} {x:Sl} {e:TypeId} {sz:Nat} {cs vs:List Value} (h:Buf V x e sz cs) {off:Nat} (hk:off+vs.length≤x.n*sz) (hv:0<vs.length) {ad:Addr} (ha:x.a=some ad):
  ay V (ad.add off) vs.length∧Buf (V.sets (ad.add off) vs) x e sz (bD cs off vs)∧(V.minus x).Le ((V.sets (ad.add off) vs).minus x):=by
 rcases h.own with ⟨h1,_⟩ | ⟨r,all,h1,h2,h3,h4⟩
 ·rw[h1]at ha;cases ha
 ·rw[h1]at ha;cases ha
  have hle:=Nat.mul_le_mul_right sz h.le
  have e0:(⟨r,0,none⟩:Addr).add off=⟨r,off,none⟩:=by rw[aW];simp
  have hlen:=h.len
  rw[e0,bn h2]
  refine⟨bJ h2 (by omega),⟨?_,h.le,h.lim,.inr ⟨r,_,h1,View.ah _ _ _, ?_, ?_⟩⟩, ?_⟩
  ·rw[gv _ _ _ (by omega)];simp;omega
  ·rw[gv _ _ _ (by omega)];simp;omega
  ·rw[sK,h4]
  ·unfold View.minus;rw[h1];exact aU r _
theorem Buf.FF {α:Type} [Rep α] {V:View} {x:Sl} {e:TypeId} {cs vs:List Value} {l:List α} {d:α} (h:Buf V x e (Rep.sz α) cs) (hr:aR (V.minus x) cs l) (hd:Rep.rep (V.minus x) vs d) {i:Nat} (hi:i<l.length):
  ∃ad,x.a=some ad∧ay V (ad.add (i*Rep.sz α)) vs.length∧Buf (V.sets (ad.add (i*Rep.sz α)) vs) x e (Rep.sz α) (bD cs (i*Rep.sz α) vs)∧aR ((V.sets (ad.add (i*Rep.sz α)) vs).minus x) (bD cs (i*Rep.sz α) vs) (l.set i d)∧(V.minus x).Le ((V.sets (ad.add (i*Rep.sz α)) vs).minus x):=by
 have hn:x.n=l.length:=Nat.eq_of_mul_eq_mul_right (Rep.pos (α:=α)) (h.len.symm.trans hr.len)
 have hv:=Rep.len hd
 have hle:=Nat.mul_le_mul_right (Rep.sz α) (show i+1≤x.n by omega)
 rw[Nat.add_mul]at hle
 have hp:=Rep.pos (α:=α)
 rcases h.own with ⟨h1,h2⟩ | ⟨r,all,h1,_⟩
 ·have:=h.le;omega
 ·obtain⟨a,b,c⟩:=h.set (off:=i*Rep.sz α) (vs:=vs) (by omega) (by omega) h1
  exact⟨_,h1,a,b,(hr.mono c).set (Rep.mono c hd) hi,c⟩
theorem CZ {cs vs:List Value} {off j:Nat} {v:Value} (h:∀j v,vs[j]? =some v→cs[off+j]? =some v) (hj:j<vs.length) (hl:off+vs.length≤cs.length):bD cs off (vs.set j v)=bD cs (off+j) [v]:=by
 rw[gv _ _ _ (by simpa using hl)]
 show _=cs.set (off+j) v
 apply List.ext_getElem?
 intro k
 rw[List.length_set]
 by_cases h1:k<off
 ·rw[List.append_assoc,List.getElem?_append_left (by simp;omega),List.getElem?_take,if_pos h1,List.getElem?_set_ne (by omega)]
 ·by_cases h2:k<off+vs.length
  ·rw[List.append_assoc,List.getElem?_append_right (by simp;omega),List.getElem?_append_left (by simp;omega),List.length_take,Nat.min_eq_left (by omega)]
   by_cases h3:k=off+j
   ·subst h3
    rw[show off+j-off=j by omega,List.getElem?_set_self hj,List.getElem?_set_self (by omega)]
   ·rw[List.getElem?_set_ne (by omega),List.getElem?_set_ne (by omega)]
    have h4:k-off<vs.length:=by omega
    have:=h (k-off) _ (List.getElem?_eq_getElem h4)
    rw[show off+(k-off)=k by omega]at this
    rw[this,List.getElem?_eq_getElem h4]
  ·rw[List.getElem?_append_right (by simp;omega),List.getElem?_drop,List.getElem?_set_ne (by omega)]
   congr 1
   simp;omega
theorem Buf.ji {α:Type} [Rep α] {V:View} {x:Sl} {e:TypeId} {cs:List Value} {l:List α} (h:Buf V x e (Rep.sz α) cs) (hr:aR (V.minus x) cs l) {i:Nat} (hi:i<l.length):
  ∃ad vs,x.a=some ad∧aq V (ad.add (i*Rep.sz α)) vs∧Rep.rep (V.minus x) vs l[i]∧∀j v d,j<Rep.sz α→Rep.rep (V.minus x) (vs.set j v) d→
   ay V ((ad.add (i*Rep.sz α)).add j) 1∧Buf (V.sets ((ad.add (i*Rep.sz α)).add j) [v]) x e (Rep.sz α) (bD cs (i*Rep.sz α+j) [v])∧aR ((V.sets ((ad.add (i*Rep.sz α)).add j) [v]).minus x) (bD cs (i*Rep.sz α+j) [v]) (l.set i d)∧(V.minus x).Le ((V.sets ((ad.add (i*Rep.sz α)).add j) [v]).minus x):=by
 have hn:x.n=l.length:=Nat.eq_of_mul_eq_mul_right (Rep.pos (α:=α)) (h.len.symm.trans hr.len)
 obtain⟨vs,hv,hg⟩:=hr.get i hi
 have hvl:=Rep.len hv
 have hle:=Nat.mul_le_mul_right (Rep.sz α) (show i+1≤x.n by omega)
 rw[Nat.add_mul]at hle
 have hcl:=h.len
 rcases h.own with ⟨h1,h2⟩ | ⟨r,all,h1,h2,h3,h4⟩
 ·have:=h.le;omega
 ·refine⟨_,vs,h1, ?_,hv,fun j v d hj hd=> ?_⟩
  ·rw[aW]
   refine cQ h2 fun j v hj=> ?_
   have:=hg j v hj
   rw[←h4,List.getElem?_take]at this
   split at this
   ·simpa using this
   ·cases this
  ·rw[Addr.add_add]
   obtain⟨a,b,c⟩:=h.set (off:=i*Rep.sz α+j) (vs:= [v]) (by simp;omega) (by simp) h1
   refine⟨a,b, ?_,c⟩
   rw[←CZ hg (by omega) (by omega)]
   exact(hr.mono c).set (Rep.mono c hd) hi
theorem pn {α:Type} [Rep α] {V V0:View} {r:Nat} {x:Sl} {e:TypeId} {bytes:Nat} {zero:List Value} {cs vs:List Value} {l:List α} {d:α} {C:Sl→View→Prop} {ob:Obj} {te:TypeId}
  (hz:zero.length=Rep.sz α) (hb:Buf V x e (Rep.sz α) cs) (hr:aR (V.minus x) cs l) (hd:Rep.rep (V.minus x) vs d) (hle:V0.Le (V.minus x)) (hnew:V.size≤r) (hob:ob= .cells ⟨vs⟩ te (0,0))
  (hm:(x.n+1)*bytes≤140737488355328) (hm2:x.n+1≤140737488355328)
  (hC:∀s V' cs',Buf V' s e (Rep.sz α) cs' →aR (V'.minus s) cs' (l++ [d])→V0.Le (V'.minus s)→C s V'):
  apV (V.put r ob) e (Rep.sz α) bytes zero x (.slice (some ⟨r,0,none⟩) 1 1) C:=by
 subst hob
 have hfr:V.see r=none:=View.ax hnew
 have hvl:vs.length=Rep.sz α:=Rep.len hd
 refine jL hz (hb.put hfr) (src:=vs) (m:=1) ⟨rfl,dx (View.ah _ _ _) (by rw[Nat.one_mul];exact hvl)⟩ (by rw[Nat.one_mul];exact hvl) (Rep.one hd) hm hm2 fun s V' hb' _ hle' => ?_
 have h1:(V.minus x).Le (V'.minus s):=(bz hfr).trans hle'
 exact hC s V' _ hb' ((hr.mono h1).snoc (Rep.mono h1 hd)) (hle.trans h1)
theorem oP {α:Type} [Rep α] {V V0:View} {x y:Sl} {e e' :TypeId} {bytes sz' :Nat} {zero:List Value} {cs vs ds:List Value} {l:List α} {d:α} {C:Sl→View→Prop} {r:Nat}
  (hz:zero.length=Rep.sz α) (hb:Buf V x e (Rep.sz α) cs) (hy:Buf (V.minus x) y e' sz' ds) (hr:aR V0 cs l) (hd:Rep.rep V0 vs d) (hle:V0.Le ((V.minus x).minus y)) (hrow:rowAt V (some ⟨r,0,none⟩) (1*Rep.sz α) vs)
  (hm:(l.length+1)*bytes≤140737488355328) (hm2:l.length+1≤140737488355328)
  (hC:∀s V',Buf V' s e (Rep.sz α) (cs++vs)→Buf (V'.minus s) y e' sz' ds→aR V0 (cs++vs) (l++ [d])→V0.Le ((V'.minus s).minus y)→C s V'):
  apV V e (Rep.sz α) bytes zero x (.slice (some ⟨r,0,none⟩) 1 1) C:=by
 have hvl:vs.length=Rep.sz α:=Rep.len hd
 have hn:x.n=l.length:=Nat.eq_of_mul_eq_mul_right (Rep.pos (α:=α)) (hb.len.symm.trans hr.len)
 refine jL hz hb (src:=vs) (m:=1) ⟨rfl,hrow⟩ (by rw[Nat.one_mul];exact hvl) (Rep.one hd) (by rw[hn];exact hm) (by rw[hn];exact hm2) fun s V' hb' _ hle' => ?_
 exact hC s V' hb' (hy.mono hle') (hr.snoc hd) (hle.trans (aN hle' y))
theorem ew {α:Type} [Rep α] {V V0:View} {x y:Sl} {e:TypeId} {bytes:Nat} {zero:List Value} {cs:List Value} {l m:List α} {C:Sl→View→Prop}
  (hz:zero.length=Rep.sz α) (hb:Buf V x e (Rep.sz α) cs) (hr:aR (V.minus x) cs l) (hy:SlR (V.minus x) y m) (hle:V0.Le (V.minus x))
  (hm:(l.length+m.length)*bytes≤140737488355328) (hm2:l.length+m.length≤140737488355328)
  (hC:∀s V' cs',Buf V' s e (Rep.sz α) cs' →aR (V'.minus s) cs' (l++m)→V0.Le (V'.minus s)→C s V'):
  apV V e (Rep.sz α) bytes zero x (.slice y.a y.n y.c) C:=by
 obtain⟨cy,hrow,hcy⟩:=hy.row
 have hyn:=hy.n
 have hn:x.n=l.length:=Nat.eq_of_mul_eq_mul_right (Rep.pos (α:=α)) (hb.len.symm.trans hr.len)
 have hrow' :rowAt V y.a (y.n*Rep.sz α) cy:=by
  cases ha:y.a with
  | none=>rw[ha]at hrow;exact hrow
  | some a=>rw[ha]at hrow;exact⟨hrow.1,aV (View.aj _ _) hrow.2⟩
 refine jL hz hb (src:=cy) (m:=y.n) ⟨rfl,hrow'⟩ (by rw[hcy.len,hyn]) hcy.one (by rw[hn,hyn];exact hm) (by rw[hn,hyn];exact hm2) fun s V' hb' _ hle' => ?_
 exact hC s V' _ hb' ((hr.mono hle').append (hcy.mono hle')) (hle.trans hle')
abbrev bl (s:ByteArray):List UInt8:=s.data.toList
def ba (l:List UInt8):ByteArray:=⟨⟨l⟩⟩
@[simp] theorem M0 (l : List UInt8) : bl (ba l) = l := rfl
@[simp] theorem HM (s : ByteArray) : ba (bl s) = s := rfl
theorem ql {s t:ByteArray} (h:bl s=bl t):s=t:=by rw[←HM s,h,HM]
theorem lX (s:ByteArray):(bl s).length=s.size:=by simp [bl]
theorem n7 (s t:ByteArray):bl (s++t)=bl s++bl t:=by
 show(s++t).data.toList=_
 rw[ByteArray.data_append,Array.toList_append]
theorem eX (l:List UInt8):(ba l).size=l.length:=rfl
theorem zZ (l m:List UInt8):ba l++ba m=ba (l++m):=ql (by rw[n7];rfl)
theorem sL (l:List ByteArray):(l.map bl).map ba=l:=by simp [Function.comp_def]
theorem z1 (l:List (List UInt8)):(l.map ba).map bl=l:=by simp [Function.comp_def]
def okB (b:Nat):Bool:=(97≤b&&b≤122) ||(48≤b&&b≤57) ||b==46 ||b==95 ||b==45
def cG (s:ByteArray):Bool:=(bl s).all (fun b=>okB b.toNat)&&(1≤s.size&&s.size≤8&& !decide (s=ByteArray.mk #[46])&& !decide (s=ByteArray.mk #[46,46]))
def aP:List UInt8→List (List UInt8)
 | []=> [[]]
 | c::s=>if c=47 then []::aP s else match aP s with
   | h::t=>(c::h)::t
   | []=> [[c]]
theorem k5:∀s,aP s≠ []
 | []=>by simp [aP]
 | c::s=>by
   unfold aP
   split
   ·simp
   ·split<;>simp
theorem fm:∀ {s:List UInt8},47∉s→aP s= [s]
 | [],_=>rfl
 | c::s,h=>by
   have h1:c≠47:=fun e=>h (by simp [e])
   have h2:47∉s:=fun e=>h (by simp [e])
   unfold aP
   rw[if_neg h1,fm h2]
theorem iu (b:List UInt8):∀a:List UInt8,aP (a++47::b)=aP a++aP b
 | []=>by simp [aP]
 | c::a=>by
   simp only [List.cons_append]
   by_cases h:c=47
   ·rw[aP,aP,if_pos h,if_pos h,iu b a];rfl
   ·rw[aP,aP,if_neg h,if_neg h,iu b a]
    cases hs:aP a with
    | nil=>exact absurd hs (k5 a)
    | cons x y=>rfl
theorem lY (x y:List UInt8) (l:List (List UInt8)):Lib.join (x::y::l) [47]=x++47::Lib.join (y::l) [47]:=by
 rw[Lib.join_cons,Lib.join_cons]
 simp [Lib.joinTail]
theorem qm:∀s:List UInt8,Lib.join (aP s) [47]=s
 | []=>by simp [aP,Lib.join_one]
 | c::s=>by
   have ih:=qm s
   unfold aP
   split
   ·rename_i h
    cases hs:aP s with
    | nil=>exact absurd hs (k5 s)
    | cons x y=>rw[lY, ←hs,ih,h];rfl
   ·cases hs:aP s with
    | nil=>exact absurd hs (k5 s)
    | cons x y=>
      rw[hs]at ih
      show Lib.join ((c::x)::y) [47]=_
      rw[Lib.join_cons]at ih ⊢
      rw[List.cons_append,ih]
theorem qn:∀l:List (List UInt8),l≠ []→(∀x∈l,47∉x)→aP (Lib.join l [47])=l
 | [],h,_=>absurd rfl h
 | [x],_,h=>by rw[Lib.join_one,fm (h x (by simp))]
 | x::y::l,_,h=>by
   rw[lY,iu,fm (h x (by simp)),qn (y::l) (by simp) (fun z hz=>h z (by simp [hz]))]
   rfl
theorem FG {s:ByteArray} (h:cG s=true):47∉bl s:=fun hm=>by
 unfold cG at h
 rw[Bool.and_eq_true,List.all_eq_true]at h
 have:=h.1 47 hm
 revert this
 decide
theorem k6 {s:ByteArray} (h:cG s=true):1≤s.size∧s.size≤8:=by
 unfold cG at h
 simp only [Bool.and_eq_true,decide_eq_true_eq]at h
 exact⟨h.2.1.1.1,h.2.1.1.2⟩
def bF (s:ByteArray):Option (List ByteArray):=
 match bl s with
 | []=>none
 | c::r=>if c=47∧s.size≤60 then(if r= []then some []else if((aP r).map ba).all cG then some ((aP r).map ba)else none)else none
theorem dF {s:ByteArray} {l:List ByteArray} (h:bF s=some l):s.size≤60∧l.all cG=true∧bl s=47::Lib.join (l.map bl) [47]:=by
 unfold bF at h
 split at h
 ·cases h
 ·rename_i c r hs
  split at h
  ·rename_i hc
   obtain⟨rfl,hl⟩:=hc
   split at h
   ·rename_i hr;cases h;exact⟨hl,rfl,by rw[hs,hr];rfl⟩
   ·split at h
    ·rename_i hm;cases h;exact⟨hl,hm,by rw[hs,z1,qm]⟩
    ·cases h
  ·cases h
theorem oQ {l:List ByteArray} (h:l.all cG=true) (hs:(Lib.join (l.map bl) [47]).length≤59):bF (ba (47::Lib.join (l.map bl) [47]))=some l:=by
 unfold bF
 simp only [M0]
 rw[if_pos ⟨trivial,by rw[eX];simp;omega⟩]
 cases l with
 | nil=>simp [Lib.join_nil]
 | cons x l=>
   have hno:∀y∈(x::l).map bl,47∉y:=fun y hy=>by
    obtain⟨z,hz,rfl⟩:=List.mem_map.1 hy
    exact FG (List.all_eq_true.1 h z hz)
   have hx:1≤(bl x).length:=by rw[lX];exact(k6 (List.all_eq_true.1 h x (by simp))).1
   rw[qn _ (by simp) hno,sL,if_neg,if_pos h]
   intro e
   rw[List.map_cons,Lib.join_cons]at e
   simp only [List.append_eq_nil_iff]at e
   rw[e.1]at hx
   simp at hx
def iw (l:List ByteArray):ByteArray:=if bF (ba (47::Lib.join (l.map bl) [47]))=some l then ba (47::Lib.join (l.map bl) [47])else ba []
def dX (s:ByteArray):ByteArray×ByteArray×Int:=
 match bF s with
 | none=>(ba [],ba [],7)
 | some l=>if h:l= []then(ba [],ba [],18)else(iw l.dropLast,l.getLast h,0)
theorem qo (l:List ByteArray) (n:ByteArray) (hl:l≠ []):Lib.join ((l++ [n]).map bl) [47]=Lib.join (l.map bl) [47]++47::bl n:=by
 cases l with
 | nil=>exact absurd rfl hl
 | cons x l=>
   simp only [List.cons_append,List.map_cons,Lib.join_cons,List.map_append,List.map_nil]
   simp [Lib.joinTail]
theorem HN:∀ {t:List UInt8},47∈t→∃a b,t=a++47::b∧47∉a
 | [],h=>by simp at h
 | c::t,h=>by
   by_cases hc:c=47
   ·exact⟨[],t,by rw[hc];rfl,by simp⟩
   ·obtain⟨a,b,e,hn⟩:=HN (t:=t) (by
     rcases List.mem_cons.1 h with h | h
     ·exact absurd h.symm hc
     ·exact h)
    exact⟨c::a,b,by rw[e];rfl,fun h=>by
     rcases List.mem_cons.1 h with h | h
     ·exact hc h.symm
     ·exact hn h⟩
theorem HO {t:List UInt8} {j:Nat} (h:∀c,t[j]? =some c→c≠47):Lib.occAt t [47] j=false:=by
 unfold Lib.occAt
 cases hd:t.drop j with
 | nil=>rfl
 | cons c r=>
   have h5:t[j]? =some c:=by
    have:=List.getElem?_drop (xs:=t) (i:=j) (j:=0)
    rw[hd]at this;simpa using this.symm
   have hc:=h c h5
   simp [List.isPrefixOf,Ne.symm hc]
theorem M1 {a b:List UInt8} (h:47∉a):Lib.index (a++47::b) [47]=a.length:=by
 refine Lib.index_first (by simp) ?_ fun _ hj=>HO fun _ hc=> ?_
 ·simp [Lib.occAt,List.isPrefixOf]
 ·rw[List.getElem?_append_left hj]at hc
  exact fun e=>h (e▸List.mem_of_getElem? hc)
theorem xO {t:List UInt8} (h:47∉t):Lib.index t [47]= -1:=
 Lib.index_none fun _ _=>HO fun _ hc e=>h (e▸List.mem_of_getElem? hc)
theorem sM:∀(k:Nat) (t:List UInt8),t.count 47≤k→Lib.splitK [47] 0 k t=aP t
 | 0,t,ht=>by
   have:47∉t:=fun hm=>by
    have:=List.count_pos_iff.2 hm
    omega
   rw[fm this];rfl
 | k+1,t,ht=>by
   by_cases hm:47∈t
   ·obtain⟨a,b,rfl,hn⟩:=HN hm
    have ih:=sM k b (by simp at ht;omega)
    unfold Lib.splitK
    rw[M1 hn,if_neg (by rw[beq_iff_eq];omega),iu,fm hn]
    have e1:(a++47::b).take (((a.length:Nat):Int).toNat+0)=a:=by simp
    have e2:(a++47::b).drop (((a.length:Nat):Int).toNat+ [(47:UInt8)].length)=b:=by simp
    rw[e1,e2,ih];rfl
   ·unfold Lib.splitK
    rw[xO hm,if_pos (by rfl),fm hm]
theorem z6 (s:ByteArray):Lib.splitB (ba [47]) 0 (Lib.countB s (ba [47])) s=(aP (bl s)).map ba:=by
 have h1:=Lib.splitB_data (ba [47]) 0 (Lib.countB s (ba [47])) s
 have h2:Lib.countB s (ba [47])=(bl s).count 47:=Lib.count_one 47 (bl s)
 have h3:(Lib.splitB (ba [47]) 0 (Lib.countB s (ba [47])) s).map bl=aP (bl s):=by
  show(Lib.splitB (ba [47]) 0 (Lib.countB s (ba [47])) s).map (·.data.toList)=_
  rw[h1]
  exact sM _ _ (by rw[h2];exact Nat.le_refl _)
 rw[←h3,sL]
theorem qp {s:ByteArray} {V:View} (hs:s.size≤9223372036854775807):af Tryz.prog 178 ⟨[.string s]⟩ V fun r V' =>r= .bool (cG s)∧V' =V:=by
 refine KX ?_
 unfold CJ
 refine bh (k:= .int .i64) (fun(x:Int) V' =>V' =V∧0≤x∧x≤s.size∧(s.data.toList.take x.toNat).all (fun b=>okB b.toNat)=true) (fun(x:Int) _=>s.size-x.toNat) ⟨rfl,by omega,by omega,rfl⟩ ?_
 rintro(x:Int) V' ⟨rfl,h0,h1,h2⟩
 have hsz:s.data.toList.length=s.size:=by simp
 refine aa (fun hlt=> ?_) (fun hge=> ?_)
 ·have hlt:x<s.size:=by simpa using hlt
  have hx:x.toNat<s.data.toList.length:=by omega
  have hg:s.data.toList.getD x.toNat 0=s.data.toList[x.toNat]:=by rw[List.getD_eq_getElem?_getD,List.getElem?_eq_getElem hx];rfl
  refine⟨h0,hlt, ?_⟩
  rw[hg]
  generalize hb:s.data.toList[x.toNat]=b
  refine aa (fun hn=>⟨?_,rfl⟩) (fun hn=>⟨au (by omega) (by omega),⟨rfl,by omega,by omega, ?_⟩,by omega⟩)
  ·have hk:okB b.toNat=false:=by
    unfold okB
    simp at hn ⊢
    omega
   unfold cG
   have:(s.data.toList.all fun b=>okB b.toNat)=false:=by
    rw[List.all_eq_false]
    exact⟨b,hb▸List.getElem_mem hx,by simp [hk]⟩
   rw[show bl s=s.data.toList from rfl,this];rfl
  ·have hk:okB b.toNat=true:=by
    unfold okB
    simp at hn ⊢
    omega
   rw[show(x+1).toNat=x.toNat+1 by omega,List.take_add_one,List.all_append,h2,List.getElem?_eq_getElem hx,hb]
   simp [hk]
 ·have hge:¬x<s.size:=by simpa using hge
  rw[List.take_of_length_le (by omega)]at h2
  refine⟨?_,rfl⟩
  unfold cG
  rw[show bl s=s.data.toList from rfl,h2]
  congr 1
  rw[Bool.eq_iff_iff]
  simp
  omega
theorem aB {α:Type} [Inhabited α] {l:List α} {i:Nat} (h:i<l.length):l.getD i default=l[i]:=by
 rw[List.getD_eq_getElem?_getD,List.getElem?_eq_getElem h];rfl
theorem bY {l:List Int} {i:Nat} (h:i<l.length):l.getD i 0=l[i]:=by
 rw[List.getD_eq_getElem?_getD,List.getElem?_eq_getElem h];rfl
def dG (x:Ent):Bool:=cG x.name&&decide (1≤x.node)&&decide (x.node<12)
def okE (l:List Ent) (i:Nat):Bool:=dG (l.getD i default)&&(decide (i=0) ||bf (l.getD (i-1) default).name (l.getD i default).name)
def bZ (l:List Ent):Bool:=(List.range l.length).all (okE l)&&decide (l.length≤10)
def within (n m:Int):Bool:=decide (0≤n)&&decide (n≤m)
def okS (size:Int) (l:List Int) (i:Nat):Bool:=within (l.getD i 0) 1099511627776&& !(decide (size≤i*16)&& !decide (l.getD i 0=0))
def fG (n:Nod):Bool:=within n.links 120&&within n.size 80&&decide (n.an.length=5)&&decide (n.az.length=0)&&(List.range n.an.length).all (okS n.size n.an)
def bA (n:Nod):Bool:=
 if n.kind=0 then decide (n.links=0)&&decide (n.size=0)&&decide (n.an.length=0)&&decide (n.az.length=0)
 else if n.kind=1 then fG n
 else if n.kind=2 then decide (n.links=1)&&decide (n.size=0)&&decide (n.an.length=0)&&bZ n.az
 else false
def cnt (n:Nat) (es:List Ent):List Int:=(List.range n).map fun(j:Nat)=>((es.countP (fun(x:Ent)=>decide (x.node=(j:Int))):Nat):Int)
def dh (t:Tre):List Ent:=t.flatMap Nod.az
inductive Reach (t:Tre) (a:Nat):Nat→Prop where
 | refl:Reach t a a
 | step {i:Nat} {x:Ent} (h:Reach t a i) (hx:x∈(t.getD i default).az):Reach t a x.node.toNat
open Classical in
noncomputable def iV (t:Tre) (a j:Nat):Bool:=decide (Reach t a j)
theorem fH {t:Tre} {a j:Nat} :iV t a j=true↔Reach t a j:=by simp [iV]
def gB (n:Nod) (i named:Int) (met:Bool):Bool:=
 if n.kind=2 then met&&(decide (i=0) ||decide (named=1))else if n.kind=1 then decide (n.links=named)else decide (named=0)
def b6 (l:List Int):Bool:=decide ((l.filter fun s=>decide (s≠0)).Nodup)
def bC (t:Tre):List Int:=t.flatMap Nod.an
noncomputable def aY (t:Tre):Bool:=
 decide (t.length=12)&&t.all bA&&decide ((t.getD 0 default).kind=2)&&(List.range 12).all (fun i=>gB (t.getD i default) i ((cnt 12 (dh t)).getD i 0) (iV t 0 i))&&b6 (bC t)
theorem ey {l:List Ent} (h:bZ l=true):l.length≤10:=by
 unfold bZ at h;simp at h;exact h.2
theorem fo {l:List Ent} (h:bZ l=true) {x:Ent} (hx:x∈l):1≤x.node∧x.node<12∧cG x.name=true:=by
 unfold bZ at h
 simp only [Bool.and_eq_true,List.all_eq_true,List.mem_range]at h
 obtain⟨i,hi,rfl⟩:=List.getElem_of_mem hx
 have:=h.1 i hi
 unfold okE dG at this
 rw[List.getD_eq_getElem?_getD,List.getElem?_eq_getElem hi]at this
 simp at this
 exact⟨this.1.1.2,this.1.2,this.1.1.1⟩
theorem bV {n:Nod} (h:bA n=true):bZ n.az=true:=by
 have nil:n.az.length=0→bZ n.az=true:=fun h=>by
  rw[List.length_eq_zero_iff]at h
  rw[h];rfl
 unfold bA at h
 split at h
 ·simp at h;exact nil (by simp [h])
 ·split at h
  ·unfold fG at h;simp at h;exact nil (by simp [h])
  ·split at h
   ·simp at h;exact h.2
   ·cases h
theorem gw {p q:Prop} [Decidable p] [Decidable q] (h:p↔¬q):decide p= !decide q:=by
 by_cases hq:q<;>simp [h,hq]
theorem aM {b:Bool} (h:(!b)=true):b=false:=by cases b<;>simp_all
theorem aD {b:Bool} (h:(!b)=false):b=true:=by cases b<;>simp_all
theorem SlR.lZ {V:View} {s:Sl} {l:List Ent} (h:SlR V s l) {i:Nat} (hi:i<l.length):
  ∃ad,s.a=some ad∧aq V (ad.add (i*2)) [.string (l.getD i default).name,.int .i64 (l.getD i default).node]∧(l.getD i default).name.size≤9223372036854775807∧inI .i64 (l.getD i default).node:=by
 obtain⟨ad,hx,ha,hc,h1,h2⟩:=h.ent (x:=(i:Int)) (by omega) (by have:=h.n;omega)
 rw[aB hi]
 exact⟨ad,ha,hc,h1,h2⟩
theorem SlR.fD {V:View} {s:Sl} {l:List Int} (h:SlR V s l) {i:Nat} (hi:i<l.length):
  ∃ad,s.a=some ad∧V.cell? (ad.add (i*1))=some (.int .i64 (l.getD i 0))∧inI .i64 (l.getD i 0):=by
 obtain⟨ad,hx,ha,hc,h1⟩:=h.int (x:=(i:Int)) (by omega) (by have:=h.n;omega)
 rw[bY hi]
 exact⟨ad,ha,hc,h1⟩
theorem SlR.bO {V:View} {s:Sl} {l:List Nod} (h:SlR V s l) {i:Nat} (hi:i<l.length):
  ∃ad sq en,s.a=some ad∧aq V (ad.add (i*5)) [.int .i64 (l.getD i default).kind,.int .i64 (l.getD i default).links,.int .i64 (l.getD i default).size,.slice sq.a sq.n sq.c,.slice en.a en.n en.c]∧dJ V sq en (l.getD i default):=by
 obtain⟨ad,sq,en,hx,ha,hc,h1⟩:=h.nod (x:=(i:Int)) (by omega) (by have:=h.n;omega)
 rw[aB hi]
 exact⟨ad,sq,en,ha,hc,h1⟩
theorem iy {P:Nat→Bool} {i:Nat} (h:(List.range i).all P=true) (hp:P i=true):(List.range (i+1)).all P=true:=by
 rw[List.range_succ,List.all_append,h];simp [hp]
theorem iz {P:Nat→Bool} {i n:Nat} (h:i<n) (hp:P i=false):(List.range n).all P=false:=by
 rw[List.all_eq_false]
 exact⟨i,List.mem_range.2 h,by simp [hp]⟩
def eN (n:Nod) (s e:Sl):Value:= .agg ⟨[.int .i64 n.kind,.int .i64 n.links,.int .i64 n.size,.slice s.a s.n s.c,.slice e.a e.n e.c]⟩
def Ld (x:Ent):Value:= .agg ⟨[.string x.name,.int .i64 x.node]⟩
def aZ (s:Sl):Value:= .agg ⟨[.slice s.a s.n s.c]⟩
theorem k7 {a b:Int} {V:View} :af Tryz.prog 180 ⟨[.int .i64 a,.int .i64 b]⟩ V fun r V' =>r= .bool (within a b)∧V' =V:=by
 refine KZ ?_
 unfold CL
 refine⟨?_,rfl⟩
 unfold within
 cases decide (0≤a)<;>rfl
theorem zk {x:Ent} {V:View} (hx:x.name.size≤9223372036854775807):af Tryz.prog 181 ⟨[Ld x]⟩ V fun r V' =>r= .bool (dG x)∧V' =V:=by
 refine K0 ?_
 unfold CM
 refine fun _=>(qp hx).mono ?_
 rintro r V' ⟨rfl,rfl⟩
 refine⟨_,rfl, ?_,rfl⟩
 unfold dG
 cases cG x.name<;>cases decide (1≤x.node)<;>rfl
theorem uk {s:Sl} {l:List Ent} {V:View} (h:SlR V s l):af Tryz.prog 162 ⟨[.slice s.a s.n s.c]⟩ V fun r V' =>r= .bool (bZ l)∧V' =V:=by
 refine KJ ?_
 unfold Cv
 have hn:=h.n;have hc:=h.c;have hm:=h.lim
 refine bh (k:= .int .i64) (fun(x:Int) V' =>V' =V∧∃i:Nat,x=i∧i≤l.length∧(List.range i).all (okE l)=true) (fun(x:Int) _=>s.n-x.toNat) ⟨rfl,0,rfl,by omega,rfl⟩ ?_
 rintro(x:Int) V' ⟨rfl,i,rfl,hi,hall⟩
 refine aa (fun hlt=> ?_) (fun hge=> ?_)
 ·have hlt:i<l.length:=by have:=of_decide_eq_true hlt;omega
  obtain⟨ad,ha,hcell,hsz,hin⟩:=h.lZ hlt
  refine⟨by omega,by omega,ad,ha,_,_,hcell,fun _=> ?_⟩
  refine ai (fun q V1=>q.1=(!okE l i)∧V1=V') ⟨trivial,V',View.Le.refl _,(zk (x:=l.getD i default) hsz).mono ?_⟩ ?_
  ·rintro r V1 ⟨rfl,rfl⟩
   refine⟨_,rfl,View.Le.refl _,V1,View.Le.refl _,View.Le.refl _,aa (fun hs=>⟨?_,rfl⟩) (fun hs=>aa (fun h0=> ?_) (fun h0=>⟨?_,rfl⟩))⟩
   ·have hs:dG (l.getD i default)=false:=by simpa using hs
    unfold okE;rw[hs];rfl
   ·have h0:0<i:=by have:=of_decide_eq_true h0;omega
    have hs:dG (l.getD i default)=true:=by simpa using hs
    obtain⟨j,rfl⟩:∃j,i=j+1:=⟨i-1,by omega⟩
    obtain⟨ad2,ha2,hcell2,_,_⟩:=h.lZ (i:=j) (by omega)
    have e1:(((j+1:Nat):Int)-1).toNat=j:=by omega
    refine⟨au (by omega) (by omega),by omega,by omega,ad2,ha2,(l.getD j default).name, ?_, ?_,rfl⟩
    ·rw[e1];exact av hcell2 0 rfl
    ·unfold okE;rw[hs];simp
   ·have h0:i=0:=by have:=of_decide_eq_false h0;omega
    have hs:dG (l.getD i default)=true:=by simpa using hs
    unfold okE;rw[hs,h0];rfl
  ·rintro⟨q,⟨⟩⟩ V1 ⟨h1,hV⟩
   simp only at h1 hV
   subst h1 hV
   dsimp only [unc]
   refine aa (fun hb=>⟨?_,rfl⟩) (fun hb=>⟨au (by omega) (by omega),⟨rfl,i+1,by omega,by omega,iy hall (by simpa using hb)⟩,by omega⟩)
   unfold bZ
   rw[iz hlt (by simpa using hb)];rfl
 ·have hge:i=l.length:=by have:=of_decide_eq_false hge;omega
  subst hge
  refine⟨?_,rfl⟩
  unfold bZ
  rw[hall,hn,Bool.true_and]
  congr 1
  exact decide_eq_decide.2 (by omega)
theorem C0 {n:Nod} {s e:Sl} {V:View} (h:dJ V s e n):af Tryz.prog 161 ⟨[eN n s e]⟩ V fun r V' =>r= .bool (fG n)∧V' =V:=by
 refine KI ?_
 unfold Cu
 have hsn:=h.an.n;have hen:=h.az.n
 refine fun _=>ai (fun q V1=>q.1= !(within n.links 120&&within n.size 80&&decide (n.an.length=5)&&decide (n.az.length=0))∧V1=V) (k7.mono ?_) ?_
 ·rintro r V1 ⟨rfl,rfl⟩
  refine⟨_,rfl,aa (fun h1=>⟨?_,rfl⟩) (fun h1=>k7.mono ?_)⟩
  ·have h1:within n.links 120=false:=by simpa using h1
   rw[h1];rfl
  ·have h1:within n.links 120=true:=by simpa using h1
   rintro r V2 ⟨rfl,rfl⟩
   refine⟨_,rfl, ?_,rfl⟩
   rw[h1,hsn,hen]
   have e1:decide (((n.an.length:Nat):Int)=5)=decide (n.an.length=5):=decide_eq_decide.2 (by omega)
   have e2:decide ((0:Int)<((n.az.length:Nat):Int))= !decide (n.az.length=0):=gw (by omega)
   rw[e1,e2]
   cases within n.size 80<;>cases decide (n.an.length=5)<;>cases decide (n.az.length=0)<;>rfl
 ·rintro⟨q,⟨⟩⟩ V1 ⟨h1,hV⟩
  simp only at h1 hV
  subst h1 hV
  dsimp only [unc]
  refine aa (fun hb=>⟨?_,rfl⟩) (fun hb=> ?_)
  ·have hb:(within n.links 120&&within n.size 80&&decide (n.an.length=5)&&decide (n.az.length=0))=false:=aM hb
   unfold fG;rw[hb];rfl
  ·have hb:(within n.links 120&&within n.size 80&&decide (n.an.length=5)&&decide (n.az.length=0))=true:=aD hb
   have h5:n.an.length=5:=by simp at hb;exact hb.1.2
   refine bh (k:= .int .i64) (fun(x:Int) V' =>V' =V1∧∃i:Nat,x=i∧i≤n.an.length∧(List.range i).all (okS n.size n.an)=true) (fun(x:Int) _=>s.n-x.toNat) ⟨rfl,0,rfl,by omega,rfl⟩ ?_
   rintro(x:Int) V' ⟨rfl,i,rfl,hi,hall⟩
   refine aa (fun hlt=> ?_) (fun hge=> ?_)
   ·have hlt:i<n.an.length:=by have:=of_decide_eq_true hlt;omega
    obtain⟨ad,ha,hcell,hin⟩:=h.an.fD hlt
    refine⟨by omega,by omega,ad,ha,_,hcell, ?_⟩
    refine ai (fun q V1=>q.1=(!okS n.size n.an i)∧V1=V') (k7.mono ?_) ?_
    ·rintro r V2 ⟨rfl,rfl⟩
     refine⟨_,rfl,aa (fun h1=>⟨?_,rfl⟩) (fun h1=>⟨au (by omega) (by omega), ?_,rfl⟩)⟩
     ·have h1:within (n.an.getD i 0) 1099511627776=false:=by simpa using h1
      unfold okS;rw[h1];rfl
     ·have h1:within (n.an.getD i 0) 1099511627776=true:=by simpa using h1
      unfold okS;rw[h1]
      cases decide (n.size≤(i:Int)*16)<;>cases decide (n.an.getD i 0=0)<;>rfl
    ·rintro⟨q,⟨⟩⟩ V2 ⟨h1,hV⟩
     simp only at h1 hV
     subst h1 hV
     dsimp only [unc]
     refine aa (fun hq=>⟨?_,rfl⟩) (fun hq=>⟨au (by omega) (by omega),⟨rfl,i+1,by omega,by omega,iy hall (by simpa using hq)⟩,by omega⟩)
     unfold fG
     rw[iz hlt (by simpa using hq),Bool.and_false]
   ·have hge:i=n.an.length:=by have:=of_decide_eq_false hge;omega
    subst hge
    refine⟨?_,rfl⟩
    unfold fG;rw[hb,hall];rfl
theorem pJ {n:Nod} {s e:Sl} {V:View} (h:dJ V s e n):af Tryz.prog 114 ⟨[eN n s e]⟩ V fun r V' =>r= .bool (bA n)∧V' =V:=by
 refine JZ ?_
 unfold BJ
 have hsn:=h.an.n;have hen:=h.az.n
 have e1:decide (((s.n:Nat):Int)=0)=decide (n.an.length=0):=decide_eq_decide.2 (by omega)
 have e2:decide (((e.n:Nat):Int)=0)=decide (n.az.length=0):=decide_eq_decide.2 (by omega)
 rw[e1,e2]
 refine fun _=>aa (fun h0=>⟨?_,rfl⟩) (fun h0=>aa (fun h1=>(C0 h).mono ?_) (fun h1=>aa (fun h2=> ?_) (fun h2=>⟨?_,rfl⟩)))
 ·have h0:n.kind=0:=of_decide_eq_true h0
  unfold bA;rw[if_pos h0]
  cases decide (n.links=0)<;>cases decide (n.size=0)<;>cases decide (n.an.length=0)<;>rfl
 ·have h0:¬n.kind=0:=of_decide_eq_false h0
  have h1:n.kind=1:=of_decide_eq_true h1
  rintro r V1 ⟨rfl,rfl⟩
  refine⟨_,rfl, ?_,rfl⟩
  unfold bA;rw[if_neg h0,if_pos h1]
 ·have h0:¬n.kind=0:=of_decide_eq_false h0
  have h1:¬n.kind=1:=of_decide_eq_false h1
  have h2:n.kind=2:=of_decide_eq_true h2
  have hm:bA n=(decide (n.links=1)&&decide (n.size=0)&&decide (n.an.length=0)&&bZ n.az):=by unfold bA;rw[if_neg h0,if_neg h1,if_pos h2]
  refine ai (fun q V1=>q.1=bA n∧V1=V) (aa (fun hb=>(uk h.az).mono ?_) (fun hb=>⟨?_,rfl⟩)) ?_
  ·rintro r V1 ⟨rfl,rfl⟩
   refine⟨_,rfl, ?_,rfl⟩
   rw[hm]
   cases hA:decide (n.links=1)<;>cases hB:decide (n.size=0)<;>cases hC:decide (n.an.length=0)<;>simp_all
  ·rw[hm]
   cases hA:decide (n.links=1)<;>cases hB:decide (n.size=0)<;>cases hC:decide (n.an.length=0)<;>simp_all
  ·rintro⟨q,⟨⟩⟩ V1 ⟨h1,hV⟩
   simp only at h1 hV
   subst h1 hV
   exact⟨rfl,rfl⟩
 ·have h0:¬n.kind=0:=of_decide_eq_false h0
  have h1:¬n.kind=1:=of_decide_eq_false h1
  have h2:¬n.kind=2:=of_decide_eq_false h2
  unfold bA;rw[if_neg h0,if_neg h1,if_neg h2]
theorem lM {p:Nod→Bool} {s:Sl} {l:List Nod} {V:View} {g:FuncId} {xs ys:List Value} (h:SlR V s l)
  (hp:∀n∈l,∀a b,dJ V a b n→af Tryz.prog g ⟨xs++ [eN n a b]++ys⟩ V fun r V' =>r= .bool (p n)∧V' =V):
  af Tryz.prog 160 ⟨[.slice s.a s.n s.c,.func (.func g) ⟨xs⟩ ⟨ys⟩]⟩ V fun r V' =>r= .int .i64 (eR p l)∧V' =V:=by
 refine KH ?_
 unfold Ct
 have hn:=h.n;have hlim:=h.lim
 refine bh (k:= .int .i64) (fun(x:Int) V' =>V' =V∧0≤x∧x≤s.n∧∀j (hj:j<l.length),(j:Int)<x→p l[j]=false) (fun(x:Int) _=>s.n-x.toNat) ⟨rfl,by omega,by omega,fun j _ hj=>by omega⟩ ?_
 rintro(x:Int) V' ⟨rfl,h0,h1,h2⟩
 refine aa (fun hlt=> ?_) (fun hge=> ?_)
 ·have hlt:x<s.n:=by simpa using hlt
  obtain⟨ad,sq,en,hx,ha,hc,hN⟩:=h.nod h0 hlt
  refine⟨h0,hlt,ad,ha,_,_,_,sq,en,hc,(hp _ (List.getElem_mem hx) _ _ hN).mono ?_⟩
  rintro r V1 ⟨rfl,rfl⟩
  refine⟨_,rfl,aa (fun hb=>⟨?_,rfl⟩) (fun hb=>⟨au (by omega) (by omega),⟨rfl,by omega,by omega,fun j hj hjx=> ?_⟩,by omega⟩)⟩
  ·rw[eu p l x.toNat hx (fun j hj=>h2 j (by omega) (by omega)) hb]
   congr 1;omega
  ·by_cases e:(j:Int)<x
   ·exact h2 j hj e
   ·have:j=x.toNat:=by omega
    subst this;exact hb
 ·have hge:¬x<s.n:=by simpa using hge
  refine⟨?_,rfl⟩
  rw[fk p l fun y hy=> ?_]
  obtain⟨j,hj,rfl⟩:=List.getElem_of_mem hy
  exact h2 j hj (by omega)
theorem jk {p:Nod→Bool} {s:Sl} {l:List Nod} {V:View} {g:FuncId} {xs ys:List Value} (h:SlR V s l)
  (hp:∀n∈l,∀a b,dJ V a b n→af Tryz.prog g ⟨xs++ [eN n a b]++ys⟩ V fun r V' =>r= .bool (p n)∧V' =V):
  af Tryz.prog 112 ⟨[.slice s.a s.n s.c,.func (.func g) ⟨xs⟩ ⟨ys⟩]⟩ V fun r V' =>r= .bool (l.any p)∧V' =V:=by
 refine JX ?_
 unfold BG
 refine(lM h hp).mono ?_
 rintro r V' ⟨rfl,rfl⟩
 refine⟨_,rfl, ?_,rfl⟩
 congr 1
 rcases gh p l with ⟨h1,h2⟩ | ⟨h1,h2,h3⟩
 ·rw[h1,h2];rfl
 ·rw[h3];simpa using h1
theorem FH {n:Nod} {s e:Sl} {V:View} (h:dJ V s e n):af Tryz.prog 113 ⟨[eN n s e]⟩ V fun r V' =>r= .bool (!bA n)∧V' =V:=by
 refine JY ?_
 unfold BH
 refine fun _=>(pJ h).mono ?_
 rintro r V' ⟨rfl,rfl⟩
 exact⟨_,rfl,rfl,rfl⟩
theorem C1 {n:Nod} {s e:Sl} {i named:Int} {met:Bool} {V:View} :af Tryz.prog 117 ⟨[eN n s e,.int .i64 i,.int .i64 named,.bool met]⟩ V fun r V' =>r= .bool (gB n i named met)∧V' =V:=by
 refine J2 ?_
 unfold BM
 refine fun _=>aa (fun h2=>⟨?_,rfl⟩) (fun h2=>aa (fun h1=>⟨?_,rfl⟩) (fun h1=>⟨?_,rfl⟩))
 ·have h2:n.kind=2:=of_decide_eq_true h2
  unfold gB;rw[if_pos h2]
  cases met<;>cases decide (i=0)<;>rfl
 ·have h2:¬n.kind=2:=of_decide_eq_false h2
  have h1:n.kind=1:=of_decide_eq_true h1
  unfold gB;rw[if_neg h2,if_pos h1]
 ·have h2:¬n.kind=2:=of_decide_eq_false h2
  have h1:¬n.kind=1:=of_decide_eq_false h1
  unfold gB;rw[if_neg h2,if_neg h1]
def dY (l:List Int):List Value:=l.map fun n=> .int .i64 n
def cB (l:List Bool):List Value:=l.map fun b=> .bool b
theorem kB (cs:List Value) (i:Nat) (v:Value):bD cs i [v]=cs.set i v:=rfl
theorem z7 (l:List Int) (i:Nat) (n:Int):(dY l).set i (.int .i64 n)=dY (l.set i n):=by unfold dY;rw[List.map_set]
theorem l5 (l:List Bool) (i:Nat) (n:Bool):(cB l).set i (.bool n)=cB (l.set i n):=by unfold cB;rw[List.map_set]
theorem nc {W:View} :∀ {l:List Int},(∀n∈l,inI .i64 n)→aR W (dY l) l
 | [],_=>rfl
 | n::l,h=>⟨[.int .i64 n],dY l,rfl,⟨rfl,h n (by simp)⟩,nc fun m hm=>h m (by simp [hm])⟩
theorem jl {W:View} :∀ {l:List Bool},aR W (cB l) l
 | []=>rfl
 | n::l=>⟨[.bool n],cB l,rfl,rfl,jl⟩
theorem bK {α:Type} [Rep α] {V W:View} {r:Nat} {cs:List Value} {te:TypeId} {l:List α} (h:V.see r=some (.cells ⟨cs⟩ te (0,0))) (hr:aR W cs l) (hW:W.Le V) (hl:l.length≤140737488355328):SlR V ⟨some ⟨r,0,none⟩,l.length,l.length⟩ l:=by
 have hlen:=hr.len
 exact Buf.slR (e:=te) (cs:=cs) ⟨hlen,Nat.le_refl _,hl,.inr ⟨r,cs,rfl,h,hlen,by rw[List.take_of_length_le (by rw[hlen];exact Nat.le_refl _)]⟩⟩ hr hW
theorem iH (n:Nat) (es:List Ent):(cnt n es).length=n:=by simp [cnt]
theorem k8 (n:Nat) (es:List Ent) {j:Nat} (h:j<n):(cnt n es).getD j 0=((es.countP (fun(x:Ent)=>decide (x.node=(j:Int))):Nat):Int):=by
 rw[List.getD_eq_getElem?_getD];simp [cnt,h]
theorem qq (n:Nat) (es:List Ent) {j:Nat} (h:j<n):(cnt n es)[j]? =some ((es.countP (fun(x:Ent)=>decide (x.node=(j:Int))):Nat):Int):=by
 simp [cnt,h]
theorem FI {n:Nat} {es:List Ent} {x:Ent} (h:¬(0≤x.node∧x.node<n)):cnt n (es++ [x])=cnt n es:=by
 unfold cnt
 apply List.map_congr_left
 intro j hj
 have hj:=List.mem_range.1 hj
 rw[List.countP_append]
 have:decide (x.node=(j:Int))=false:=decide_eq_false (by omega)
 simp [this]
theorem Lf {n:Nat} {es:List Ent} {x:Ent} {k:Nat} (h:x.node=k) (hk:k<n):cnt n (es++ [x])=(cnt n es).set k ((cnt n es).getD k 0+1):=by
 apply List.ext_getElem?
 intro j
 by_cases hj:j<n
 ·rw[qq n _ hj,List.getElem?_set]
  by_cases e:k=j
  ·subst e
   rw[if_pos rfl,if_pos (by rw[iH];exact hk),k8 n es hk,List.countP_append]
   simp [h]
  ·rw[if_neg e,qq n es hj,List.countP_append]
   have:decide (x.node=(j:Int))=false:=decide_eq_false (by omega)
   simp [this]
 ·rw[List.getElem?_eq_none (by rw[iH];omega),List.getElem?_eq_none (by rw[List.length_set,iH];omega)]
theorem sN {t:Tre} {i:Nat} (h:i<t.length):dh (t.take (i+1))=dh (t.take i)++(t.getD i default).az:=by
 unfold dh
 rw[List.take_add_one,List.getElem?_eq_getElem h,List.flatMap_append,aB h]
 simp
theorem kC:∀ {t:Tre} {m:Nat},(∀n∈t,n.az.length≤m)→(dh t).length≤m*t.length
 | [],_,_=>by simp [dh]
 | n::t,m,h=>by
   have h1:=kC (t:=t) (m:=m) fun k hk=>h k (by simp [hk])
   have h2:=h n (by simp)
   have e:dh (n::t)=n.az++dh t:=by simp [dh]
   rw[e,List.length_append,List.length_cons,Nat.mul_add]
   omega
theorem C2 {s:Sl} {t:Tre} {V:View} (h:SlR V s t) (h12:t.length=12) (he:∀n∈t,n.az.length≤10):af Tryz.prog 115 ⟨[aZ s]⟩ V fun r V' =>∃x:Sl,r= .slice x.a x.n x.c∧SlR V' x (cnt 12 (dh t))∧V.Le V' :=by
 refine J0 ?_
 unfold BK
 have hn:s.n=12:=by rw[h.n,h12]
 rw[hn]
 refine fun _=>⟨by decide,by decide,by decide,by decide,fun r hr=> ?_⟩
 have hfr:V.see r=none:=View.ax hr
 refine bh (k:= .int .i64) (fun(x:Int) V' =>∃i:Nat,x=i∧i≤12∧V'.see r=some (.cells ⟨dY (cnt 12 (dh (t.take i)))⟩ 3 (0,0))∧V.Le (V'.bt r)) (fun(x:Int) _=>12-x.toNat) ⟨0,rfl,by omega,View.ah _ _ _,aT hfr (View.Le.refl _)⟩ ?_
 rintro(x:Int) V1 ⟨i,rfl,hi,hs1,hV1⟩
 have hV1' :V.Le V1:=hV1.trans (View.c6 _ _)
 refine aa (fun hlt=> ?_) (fun hge=> ?_)
 ·have hlt:i<12:=by have:=of_decide_eq_true hlt;omega
  obtain⟨ad,sq,en,ha,hc,hN⟩:=h.bO (i:=i) (by omega)
  have hmem:t.getD i default∈t:=by rw[aB (by omega)];exact List.getElem_mem _
  have hle:=he _ hmem
  have htk:(dh (t.take i)).length≤10*12:=Nat.le_trans (kC fun n hn=>he n (List.mem_of_mem_take hn)) (Nat.mul_le_mul_left _ (by simp;omega))
  refine⟨by omega,by omega,ad,ha,_,_,_,sq,en,aV hV1' hc,fun _=> ?_⟩
  generalize hnd:t.getD i default=nd at*
  have hen:=hN.az.n
  refine bh (k:= .int .i64) (fun(x:Int) V' =>∃k:Nat,x=k∧k≤nd.az.length∧V'.see r=some (.cells ⟨dY (cnt 12 (dh (t.take i)++nd.az.take k))⟩ 3 (0,0))∧V.Le (V'.bt r)) (fun(x:Int) _=>nd.az.length-x.toNat) ⟨0,rfl,by omega,by simpa using hs1,hV1⟩ ?_
  rintro(x:Int) V2 ⟨k,rfl,hk,hs2,hV2⟩
  have hV2' :V.Le V2:=hV2.trans (View.c6 _ _)
  refine aa (fun hlt=> ?_) (fun hge=> ?_)
  ·have hlt:k<nd.az.length:=by have:=of_decide_eq_true hlt;omega
   obtain⟨ad,ha,hc,hsz,hin⟩:=(hN.az.mono hV2').lZ hlt
   refine⟨by omega,by omega,ad,ha,_,_,hc,fun _=> ?_⟩
   have etk:nd.az.take (k+1)=nd.az.take k++ [nd.az.getD k default]:=by rw[List.take_add_one,List.getElem?_eq_getElem hlt,aB hlt];rfl
   generalize hx:nd.az.getD k default=x at*
   refine ai (fun _ V3=>V3.see r=some (.cells ⟨dY (cnt 12 (dh (t.take i)++nd.az.take (k+1)))⟩ 3 (0,0))∧V.Le (V3.bt r)) (aa (fun hb=> ?_) (fun hb=> ?_)) ?_
   ·have hb:0≤x.node∧x.node<12:=by
     cases h1:decide (0≤x.node)<;>rw[h1]at hb
     ·cases hb
     ·exact⟨of_decide_eq_true h1,by have:=of_decide_eq_true hb;omega⟩
    obtain⟨q,hq⟩:∃q:Nat,x.node=q:=⟨x.node.toNat,by omega⟩
    have hq12:q<12:=by omega
    have hqs:(cnt 12 (dh (t.take i)++nd.az.take k)).getD q 0≤130∧0≤(cnt 12 (dh (t.take i)++nd.az.take k)).getD q 0:=by
     rw[k8 12 _ hq12]
     have:=List.countP_le_length (p:=fun(x:Ent)=>decide (x.node=(q:Int))) (l:=dh (t.take i)++nd.az.take k)
     simp only [List.length_append,List.length_take]at this
     omega
    have eset:=Lf (es:=dh (t.take i)++nd.az.take k) hq hq12
    rw[List.append_assoc, ←etk]at eset
    have hgc:V2.cell? (Addr.add ⟨r,0,none⟩ (x.node.toNat*1))=some (.int .i64 ((cnt 12 (dh (t.take i)++nd.az.take k)).getD q 0)):=by
     rw[hq,aW]
     refine bX hs2 ?_
     rw[k8 12 _ hq12]
     simp [dY,qq 12 _ hq12]
    refine⟨hb.1,by omega,_,rfl,_,hgc,au (by omega) (by omega),hb.1,by omega,_,rfl, ?_, ?_, ?_⟩
    ·rw[hq,aW]
     exact bJ hs2 (show 0+q*1+1≤_ by simp [dY,iH];omega)
    ·rw[hq,aW,bn hs2,kB,View.ah]
     simp only [Int.toNat_natCast,Nat.zero_add,Nat.mul_one]
     rw[z7, ←eset]
    ·rw[hq,aW,bn hs2]
     exact hV2.trans (aU r _)
   ·have hb:¬(0≤x.node∧x.node<12):=by
     rintro⟨h1,h2⟩
     rw[decide_eq_true h1]at hb
     have:=of_decide_eq_false hb
     omega
    refine⟨?_,hV2⟩
    rw[etk, ←List.append_assoc,FI hb];exact hs2
   ·rintro⟨⟩ V3 ⟨hs3,hV3⟩
    exact⟨au (by omega) (by omega),⟨k+1,by omega,by omega,hs3,hV3⟩,by omega⟩
  ·have hge:k=nd.az.length:=by have:=of_decide_eq_false hge;omega
   subst hge
   rw[List.take_length]at hs2
   refine⟨au (by omega) (by omega),⟨i+1,by omega,by omega, ?_,hV2⟩,by omega⟩
   rw[sN (by omega),hnd];exact hs2
 ·have hge:i=12:=by have:=of_decide_eq_false hge;omega
  subst hge
  rw[List.take_of_length_le (by omega)]at hs1
  refine⟨⟨some ⟨r,0,none⟩,12,12⟩,rfl, ?_,hV1'⟩
  have:=bK (W:=V1) hs1 (nc fun n hn=> ?_) (View.Le.refl _) (by rw[iH];omega)
  ·rw[iH]at this;exact this
  ·unfold cnt at hn
   obtain⟨j,_,rfl⟩:=List.mem_map.1 hn
   have h1:=List.countP_le_length (p:=fun(x:Ent)=>decide (x.node=(j:Int))) (l:=dh t)
   have h2:=kC he
   exact au (by omega) (by omega)
structure DI (t:Tre) (a:Nat) (lim:Nat→Nat) (met:List Bool) (l:List Int):Prop where
 len:met.length=12
 start:met.getD a false=true
 sound:∀j,met.getD j false=true→Reach t a j
 stack:∀y∈l,0≤y∧y<12∧met.getD y.toNat false=true
 done:∀i,met.getD i false=true→(i:Int)∈l∨∀e∈(t.getD i default).az.take (lim i),met.getD e.node.toNat false=true
 room:l.length+met.countP (fun b=> !b)≤12
def full (t:Tre) (i:Nat):Nat:=(t.getD i default).az.length
def upto (t:Tre) (c k i:Nat):Nat:=if i=c then k else full t i
theorem dS (met:List Bool) (q j:Nat) (h:q<met.length):(met.set q true).getD j false=if j=q then true else met.getD j false:=by
 rw[List.getD_eq_getElem?_getD,List.getD_eq_getElem?_getD,List.getElem?_set]
 by_cases e:q=j
 ·rw[if_pos e,if_pos e.symm,if_pos h];rfl
 ·rw[if_neg e,if_neg (fun h=>e h.symm)]
theorem countP_set:∀(met:List Bool) (q:Nat),q<met.length→met.getD q false=false→(met.set q true).countP (fun b=> !b)+1=met.countP (fun b=> !b)
 | b::met,0,_,h=>by
   have h:b=false:=by simpa using h
   subst h
   simp
 | b::met,q+1,hq,h=>by
   have:=countP_set met q (by simpa using hq) (by simpa using h)
   simp only [List.set_cons_succ,List.countP_cons]
   omega
theorem DI.first {t:Tre} {a:Nat} (ha:a<12):DI t a (full t) ((List.replicate 12 false).set a true) [(a:Int)]:=by
 have hl:a<(List.replicate 12 false).length:=by simpa using ha
 have hg:=fun j=>dS (List.replicate 12 false) a j hl
 have hr:∀j,(List.replicate 12 false).getD j false=false:=fun j=>by
  rw[List.getD_eq_getElem?_getD,List.getElem?_replicate];split<;>rfl
 have hc:=countP_set _ a hl (hr a)
 have hc2:(List.replicate 12 false).countP (fun b=> !b)=12:=rfl
 refine⟨by simp,by rw[hg,if_pos rfl],fun j hj=> ?_,fun y hy=> ?_,fun i hi=> ?_,by simp only [List.length_cons,List.length_nil];omega⟩
 ·rw[hg,hr]at hj
  split at hj
  ·rename_i e;subst e;exact .refl
  ·cases hj
 ·have hy:y=a:=by simpa using hy
  subst hy
  exact⟨by omega,by omega,by rw[Int.toNat_natCast,hg,if_pos rfl]⟩
 ·rw[hg,hr]at hi
  split at hi
  ·rename_i e;subst e;left;simp
  ·cases hi
theorem DI.pop {t:Tre} {a:Nat} {met:List Bool} {l:List Int} {c:Nat} (h:DI t a (full t) met (l++ [(c:Int)])):DI t a (upto t c 0) met l:=by
 refine⟨h.len,h.start,h.sound,fun y hy=>h.stack y (by simp [hy]),fun i hi=> ?_,by have:=h.room;simp at this;omega⟩
 unfold upto
 by_cases e:i=c
 ·right;rw[if_pos e];simp
 ·rw[if_neg e]
  rcases h.done i hi with h1 | h1
  ·left
   rcases List.mem_append.1 h1 with h2 | h2
   ·exact h2
   ·exact absurd (Int.ofNat.inj (by simpa using h2)) e
  ·exact .inr h1
theorem DI.old {t:Tre} {a:Nat} {met:List Bool} {l:List Int} {c k:Nat} (h:DI t a (upto t c k) met l) (hk:k<full t c) (hm:met.getD ((t.getD c default).az.getD k default).node.toNat false=true):DI t a (upto t c (k+1)) met l:=by
 refine⟨h.len,h.start,h.sound,h.stack,fun i hi=> ?_,h.room⟩
 rcases h.done i hi with h1 | h1
 ·exact .inl h1
 ·right
  unfold upto at h1 ⊢
  by_cases e:i=c
  ·subst e
   rw[if_pos rfl]at h1 ⊢
   rw[List.take_add_one,List.getElem?_eq_getElem hk]
   intro x hx
   rcases List.mem_append.1 hx with h2 | h2
   ·exact h1 x h2
   ·have h2:x=(t.getD i default).az[k]:=by simpa using h2
    rw[aB hk]at hm
    rw[h2];exact hm
  ·rw[if_neg e]at h1 ⊢;exact h1
theorem DI.new {t:Tre} {a:Nat} {met:List Bool} {l:List Int} {c k q:Nat} (h:DI t a (upto t c k) met l) (hk:k<full t c) (hq:((t.getD c default).az.getD k default).node=q) (hq12:q<12) (hc:met.getD c false=true) (hm:met.getD q false=false):
  DI t a (upto t c (k+1)) (met.set q true) (l++ [(q:Int)])∧(met.set q true).countP (fun b=> !b)+1=met.countP (fun b=> !b):=by
 have hl:q<met.length:=by rw[h.len];exact hq12
 have hg:=fun j=>dS met q j hl
 have hcp:=countP_set met q hl hm
 have up:∀j,met.getD j false=true→(met.set q true).getD j false=true:=fun j hj=>by rw[hg,hj];simp
 have hreach:Reach t a q:=by
  have hx:(t.getD c default).az.getD k default∈(t.getD c default).az:=by
   rw[aB hk];exact List.getElem_mem hk
  have:=Reach.step (h.sound c hc) hx
  rw[hq,Int.toNat_natCast]at this
  exact this
 refine⟨⟨by simp [h.len],up _ h.start,fun j hj=> ?_,fun y hy=> ?_,fun i hi=> ?_,by have:=h.room;simp;omega⟩,hcp⟩
 ·rw[hg]at hj
  split at hj
  ·rename_i e;subst e;exact hreach
  ·exact h.sound j hj
 ·rcases List.mem_append.1 hy with h1 | h1
  ·obtain⟨y1,y2,y3⟩:=h.stack y h1
   exact⟨y1,y2,up _ y3⟩
  ·have h1:y=q:=by simpa using h1
   subst h1
   exact⟨by omega,by omega,by rw[Int.toNat_natCast,hg,if_pos rfl]⟩
 ·rw[hg]at hi
  by_cases e:i=q
  ·left;subst e;simp
  ·rw[if_neg e]at hi
   rcases h.done i hi with h1 | h1
   ·left;simp [h1]
   ·right
    unfold upto at h1 ⊢
    by_cases e:i=c
    ·subst e
     rw[if_pos rfl]at h1 ⊢
     rw[List.take_add_one,List.getElem?_eq_getElem hk]
     intro x hx
     rcases List.mem_append.1 hx with h2 | h2
     ·exact up _ (h1 x h2)
     ·have h2:x=(t.getD i default).az[k]:=by simpa using h2
      rw[aB hk]at hq
      rw[h2,hq,Int.toNat_natCast,hg,if_pos rfl]
    ·rw[if_neg e]at h1 ⊢
     exact fun x hx=>up _ (h1 x hx)
theorem DI.close {t:Tre} {a:Nat} {met:List Bool} {l:List Int} {c:Nat} (h:DI t a (upto t c (full t c)) met l):DI t a (full t) met l:=by
 have e:upto t c (full t c)=full t:=by
  funext i
  unfold upto
  by_cases e:i=c
  ·rw[if_pos e,e]
  ·rw[if_neg e]
 rw[e]at h;exact h
theorem DI.end {t:Tre} {a:Nat} {met:List Bool} (h:DI t a (full t) met []):met=(List.range 12).map (iV t a):=by
 have hall:∀j,Reach t a j→met.getD j false=true:=by
  intro j hj
  induction hj with
  | refl=>exact h.start
  | step hi hx ih=>
    rcases h.done _ ih with h1 | h1
    ·cases h1
    ·exact h1 _ (by unfold full;rw[List.take_length];exact hx)
 apply List.ext_getElem (by simp [h.len])
 intro j h1 h2
 have e:met.getD j false=met[j]:=by rw[List.getD_eq_getElem?_getD,List.getElem?_eq_getElem h1];rfl
 rw[List.getElem_map,List.getElem_range,Bool.eq_iff_iff,fH, ←e]
 exact⟨h.sound j,hall j⟩
def isF:Value→Bool
 | .bool b=> !b
 | _=>false
def unm:Option Obj→Nat
 | some (.cells c _ _)=>c.toList.countP isF
 | _=>0
theorem sO (met:List Bool) (e:TypeId) (f:Nat×Nat):unm (some (.cells ⟨cB met⟩ e f))=met.countP (fun b=> !b):=by
 show(cB met).countP isF=_
 unfold cB
 rw[List.countP_map]
 rfl
structure BI (V V' :View) (r:Nat) (x:Sl) (met:List Bool) (l:List Int):Prop where
 marks:V'.see r=some (.cells ⟨cB met⟩ 4 (0,0))
 stack:Buf (V'.bt r) x 3 1 (dY l)
 le:V.Le ((V'.bt r).minus x)
theorem z8 (l:List Int):(dY l).length=l.length:=by simp [dY]
theorem l7 (l:List Bool):(cB l).length=l.length:=by simp [cB]
theorem BI.n {V V' :View} {r:Nat} {x:Sl} {met:List Bool} {l:List Int} (h:BI V V' r x met l):x.n=l.length:=by
 have:=h.stack.len;rw[z8,Nat.mul_one]at this;exact this.symm
theorem BI.vle {V V' :View} {r:Nat} {x:Sl} {met:List Bool} {l:List Int} (h:BI V V' r x met l):V.Le V' :=h.le.trans ((View.aj _ _).trans (View.c6 _ _))
theorem vH {s:Sl} {t:Tre} {a:Nat} {V:View} (h:SlR V s t) (h12:t.length=12) (ha:a<12) (hnode:∀n∈t,∀e∈n.az,0≤e.node∧e.node<12):
  af Tryz.prog 116 ⟨[aZ s,.int .i64 a]⟩ V fun r V' =>∃x:Sl,r= .slice x.a x.n x.c∧SlR V' x ((List.range 12).map (iV t a))∧V.Le V' :=by
 refine J1 ?_
 unfold BL
 have hn:s.n=12:=by rw[h.n,h12]
 rw[hn]
 refine fun _=>⟨by decide,by decide,by decide,by decide,fun r hr r1 hr1=> ?_⟩
 have hfr:V.see r=none:=View.ax hr
 have hfr1:=View.ax hr1
 have hne:r≠r1:=fun e=>by rw[←e,View.ah]at hfr1;cases hfr1
 generalize hU:(V.put r _)=U at*
 have hUr:U.see r=some (.cells ⟨cB (List.replicate 12 false)⟩ 4 (0,0)):=by rw[←hU,View.ah];rfl
 have hVU:V.Le (U.bt r):=by rw[←hU];exact aT hfr (View.Le.refl _)
 generalize hU1:(U.put r1 _)=U1
 have hU1r:U1.see r=some (.cells ⟨cB (List.replicate 12 false)⟩ 4 (0,0)):=by rw[←hU1,View.aF _ _ hne];exact hUr
 have hU1s:U1.see r1=some (.cells ⟨[.int .i64 a]⟩ 3 (0,0)):=by rw[←hU1,View.ah];rfl
 have hVU1:V.Le ((U1.bt r).bt r1):=by
  refine hVU.trans ?_
  rw[←hU1]
  refine⟨Nat.le_max_left _ _,fun i o ho=> ?_,rfl⟩
  rw[aO]at ho
  split at ho
  ·cases ho
  ·rename_i hi
   have hi1:i≠r1:=fun e=>by rw[e,hfr1]at ho;cases ho
   rw[aO,if_neg hi1,aO,if_neg hi,View.aF _ _ hi1];exact ho
 refine⟨by omega,by omega,_,rfl, ?_, ?_⟩
 ·rw[aW];exact bJ hU1r (show 0+((a:Int)).toNat*1+1≤_ by rw[l7];simp;omega)
 have hst:U1.sets ((⟨r,0,none⟩:Addr).add ((a:Int).toNat*1)) [.bool true]=U1.put r (.cells ⟨cB ((List.replicate 12 false).set a true)⟩ 4 (0,0)):=by
  rw[aW,bn hU1r,kB]
  simp only [Int.toNat_natCast,Nat.zero_add,Nat.mul_one]
  rw[l5]
 rw[hst]
 refine bh (k:= .sl) (fun(x:Sl) V' =>∃met l,BI V V' r x met l∧DI t a (full t) met l) (fun(x:Sl) V' =>2*unm (V'.see r)+x.n) ⟨_,[(a:Int)],⟨View.ah _ _ _,⟨rfl,Nat.le_refl _,(by decide:1≤140737488355328),.inr ⟨r1,[.int .i64 a],rfl, ?_,rfl,rfl⟩⟩, ?_⟩,DI.first ha⟩ ?_
 ·rw[aO,if_neg (fun e=>hne e.symm),View.aF _ _ (fun e=>hne e.symm)];exact hU1s
 ·refine hVU1.trans ?_
  show((U1.bt r).bt r1).Le (((U1.put r _).bt r).bt r1)
  exact jh (aU r _) r1
 rintro(x:Sl) V1 ⟨met,l,hB,hD⟩
 have hxn:=hB.n
 have hxc:=hB.stack.le
 have hroom:=hD.room
 have hxl:x.n≤140737488355328:=hB.stack.lim
 have hV1:=hB.vle
 refine aa (fun hlt=> ?_) (fun hge=> ?_)
 ·have hlt:0<x.n:=by have:=of_decide_eq_true hlt;omega
  obtain⟨l',y,rfl⟩:∃l' y,l=l' ++ [y]:=by
   rcases List.eq_nil_or_concat l with h1 | ⟨l',y,h1⟩
   ·rw[h1]at hxn;simp at hxn;omega
   ·exact⟨l',y,by simpa using h1⟩
  obtain⟨y1,y2,y3⟩:=hD.stack y (by simp)
  obtain⟨c,rfl⟩:∃c:Nat,y=c:=⟨y.toNat,by omega⟩
  rw[Int.toNat_natCast]at y3
  simp only [List.length_append,List.length_cons,List.length_nil]at hxn hroom
  have hrow:=hB.stack.row
  cases hxa:x.a with
  | none=>rw[hxa]at hrow;simp [rowAt,dY]at hrow
  | some ad=>
    rw[hxa]at hrow
    have hcell:V1.cell? (ad.add (((x.n:Int)-1).toNat*1))=some (.int .i64 c):=by
     have e1:(((x.n:Int)-1).toNat*1)=l'.length:=by omega
     rw[e1]
     have:=hrow.2 l'.length (.int .i64 c) (by simp [dY])
     exact(View.c6 V1 r).cell this
    obtain⟨ad2,sq,en,ha2,hc2,hN⟩:=h.bO (i:=c) (by omega)
    have hmem:t.getD c default∈t:=by rw[aB (by omega)];exact List.getElem_mem _
    have hnd:=hnode _ hmem
    have hc24:=av (aV hV1 hc2) 4 rfl
    refine⟨au (by omega) (by omega),by omega,by omega,ad,rfl,_,hcell,au (by omega) (by omega),by omega,by omega,by omega,by omega,by omega,ad2,ha2,en,hc24, ?_⟩
    have e2:(if x.c=0 then some ad else Option.map (fun(x:Addr)=>x.add 0) (some ad))=some ad:=by rw[cu];simp
    rw[e2,Nat.sub_zero,Nat.sub_zero]
    have hen:=hN.az.n
    have helim:=hN.az.lim
    have hfl:full t c=en.n:=hen.symm
    have hbuf' :Buf (V1.bt r) ⟨some ad,((x.n:Int)-1).toNat,x.c⟩ 3 1 (dY l'):=by
     have:=hB.stack.cut (k:=((x.n:Int)-1).toNat) (by omega)
     rw[hxa]at this
     have e3:(dY (l' ++ [(c:Int)])).take ((((x.n:Int)-1).toNat)*1)=dY l' :=by
      have e1:(((x.n:Int)-1).toNat*1)=l'.length:=by omega
      rw[e1];unfold dY;rw[List.map_append,List.take_left' (by simp)]
     rw[e3]at this
     exact this
    have hle' :V.Le ((V1.bt r).minus ⟨some ad,((x.n:Int)-1).toNat,x.c⟩):=by
     have:=hB.le
     unfold View.minus at this ⊢
     rw[hxa]at this
     exact this
    have hmeas:2*unm (V1.see r)+x.n=2*met.countP (fun b=> !b)+l'.length+1:=by rw[hB.marks,sO];omega
    rw[hmeas]
    generalize hM:2*met.countP (fun b=> !b)+l'.length+1=M
    refine di (k:= .sl) (l:= .int .i64) (fun(x:Sl) (i:Int) V' =>∃(k:Nat) (met:List Bool) (l:List Int),i=k∧k≤full t c∧BI V V' r x met l∧DI t a (upto t c k) met l∧met.getD c false=true∧2*met.countP (fun b=> !b)+l.length+1≤M) (fun _ (i:Int) _=>full t c-i.toNat)
     ⟨0,met,l',rfl,Nat.zero_le _,⟨hB.marks,hbuf',hle'⟩,hD.pop,y3,by omega⟩ ?_
    rintro(z:Sl) (i:Int) V2 ⟨k,met2,l2,rfl,hk,hB2,hD2,hc',hM2⟩
    have hV2:=hB2.vle
    have hzn:=hB2.n
    have hroom2:=hD2.room
    refine aa (fun hlt=> ?_) (fun hge=> ?_)
    ·have hlt:k<full t c:=by have:=of_decide_eq_true hlt;omega
     obtain⟨ad3,ha3,hc3,_,_⟩:=(hN.az.mono hV2).lZ (i:=k) hlt
     have hxm:(t.getD c default).az.getD k default∈(t.getD c default).az:=by rw[aB hlt];exact List.getElem_mem _
     have hq:=hnd _ hxm
     obtain⟨q,hqe⟩:∃q:Nat,((t.getD c default).az.getD k default).node=q:=⟨((t.getD c default).az.getD k default).node.toNat,by omega⟩
     have hq12:q<12:=by omega
     have hcm:V2.cell? (Addr.add ⟨r,0,none⟩ (((t.getD c default).az.getD k default).node.toNat*1))=some (.bool (met2.getD q false)):=by
      rw[hqe,aW]
      refine bX hB2.marks ?_
      have hql:q<met2.length:=by rw[hD2.len];exact hq12
      rw[List.getD_eq_getElem?_getD,List.getElem?_eq_getElem hql]
      show(cB met2)[0+((q:Int)).toNat*1]? =_
      unfold cB
      rw[Int.toNat_natCast,Nat.zero_add,Nat.mul_one,List.getElem?_map,List.getElem?_eq_getElem hql]
      rfl
     refine⟨by omega,by omega,ad3,ha3,_,_,hc3,fun _=>⟨hq.1,by omega,_,rfl,_,hcm, ?_⟩⟩
     refine ai (fun w V3=>∃met l,BI V V3 r w.1 met l∧DI t a (upto t c (k+1)) met l∧met.getD c false=true∧2*met.countP (fun b=> !b)+l.length+1≤M) (aa (fun hb=> ?_) (fun hb=> ?_)) ?_
     ·have hb:met2.getD q false=false:=aM hb
      obtain⟨hD3,hcp⟩:=hD2.new hlt hqe hq12 hc' hb
      have hup:(met2.set q true).getD c false=true:=by rw[dS _ _ _ (by rw[hD2.len];exact hq12),hc'];simp
      have hset:V2.sets ((⟨r,0,none⟩:Addr).add (((t.getD c default).az.getD k default).node.toNat*1)) [.bool true]=V2.put r (.cells ⟨cB (met2.set q true)⟩ 4 (0,0)):=by
       rw[hqe,aW,bn hB2.marks,kB]
       simp only [Int.toNat_natCast,Nat.zero_add,Nat.mul_one]
       rw[l5]
      refine⟨hq.1,by omega,_,rfl, ?_, ?_⟩
      ·rw[hqe,aW];exact bJ hB2.marks (show 0+((q:Int)).toNat*1+1≤_ by rw[l7,hD2.len];simp;omega)
      ·rw[hset]
       intro r2 hr2
       have hfr2:=View.ax hr2
       have hne2:r≠r2:=fun e=>by rw[←e,View.ah]at hfr2;cases hfr2
       have hbuf2:Buf ((V2.put r (.cells ⟨cB (met2.set q true)⟩ 4 (0,0))).bt r) z 3 1 (dY l2):=hB2.stack.mono (aU r _)
       have hle2:V.Le (((V2.put r (.cells ⟨cB (met2.set q true)⟩ 4 (0,0))).bt r).minus z):=hB2.le.trans (aN (aU r _) z)
       have hsee2:(V2.put r (.cells ⟨cB (met2.set q true)⟩ 4 (0,0))).see r=some (.cells ⟨cB (met2.set q true)⟩ 4 (0,0)):=View.ah _ _ _
       generalize (V2.put r (.cells ⟨cB (met2.set q true)⟩ 4 (0,0)))=W at*
       have hW:=View.bB (o:= .cells ⟨bD [.int .i64 0] 0 [.int .i64 ((t.getD c default).az.getD k default).node]⟩ 3 (0,0)) hfr2
       refine xM (V0:=V) (p:=r) (cs:=dY l2) (src:= [.int .i64 q]) (m:=1) rfl (hW.see _ _ hsee2) (hbuf2.mono (jh hW r)) (hle2.trans (aN (jh hW r) z)) ⟨rfl,dx (by rw[View.ah,hqe];rfl) rfl⟩ rfl rfl (by show(z.n+1)*8≤_;omega) (by show z.n+1≤_;omega) ?_
       intro s3 V3 hsee3 hbuf3 hle3 _
       have e4:dY l2++ [.int .i64 (q:Int)]=dY (l2++ [(q:Int)]):=by simp [dY]
       rw[e4]at hbuf3
       exact⟨_,_,⟨hsee3,hbuf3,hle3⟩,hD3,hup,by simp;omega⟩
     ·have hb:met2.getD q false=true:=aD hb
      exact⟨met2,l2,⟨hB2.marks,hB2.stack,hB2.le⟩,hD2.old hlt (by rw[hqe,Int.toNat_natCast];exact hb),hc',hM2⟩
     ·rintro⟨w,⟨⟩⟩ V3 ⟨met3,l3,hB3,hD3,hc3,hM3⟩
      exact⟨au (by omega) (by omega),⟨k+1,met3,l3,by omega,by omega,hB3,hD3,hc3,hM3⟩,by omega⟩
    ·have hge:k=full t c:=by have:=of_decide_eq_false hge;omega
     subst hge
     refine⟨⟨met2,l2,⟨hB2.marks,hB2.stack,hB2.le⟩,hD2.close⟩, ?_⟩
     rw[hB2.marks,sO]
     show 2*_+z.n<_
     omega
 ·have hge:l= []:=List.eq_nil_of_length_eq_zero (by have:=of_decide_eq_false hge;omega)
  subst hge
  refine⟨⟨some ⟨r,0,none⟩,12,12⟩,rfl, ?_,hV1⟩
  have:=bK (W:=V1) hB.marks jl (View.Le.refl _) (by rw[hD.len];omega)
  rw[hD.len,hD.end]at this
  exact this
def qt (e:MapEntry):Int:=match e.key with
 | .int _ n=>n
 | _=>0
def rQ (es:List MapEntry):Prop:=∀e∈es,∃n,e.key= .int .i64 n
def vlk (k:Int):List MapEntry→Option Value
 | []=>none
 | e::es=>if qt e=k then some e.val else vlk k es
theorem n8 {k:Int} :∀ {es:List MapEntry} (_:rQ es) (i:Nat),∃f,ei (.int .i64 k) es i=some f∧
  ((f=none∧vlk k es=none)∨∃j v,f=some (i+j,v)∧vlk k es=some v∧j<es.length∧∀(u:MapEntry→MapEntry) (w:Value),(∀e,qt e=k→qt (u e)=k∧(u e).val=w∧∃n,(u e).key= .int .i64 n)→rQ (es.modify j u)∧∀k',vlk k' (es.modify j u)=if k' =k then some w else vlk k' es)
 | [],_,i=>⟨none,rfl,.inl ⟨rfl,rfl⟩⟩
 | e::es,h,i=>by
   obtain⟨n,hn⟩:=h e (by simp)
   have hk:qt e=n:=by unfold qt;rw[hn]
   have h' :rQ es:=fun e he=>h e (by simp [he])
   have hq:ja (.int .i64 k) (.int .i64 n)=some (decide (k=n)):=rfl
   by_cases hkn:k=n
   ·subst hkn
    refine⟨some (i,e.val), ?_,.inr ⟨0,e.val,rfl,by unfold vlk;rw[if_pos hk],by simp,fun u w hu=>⟨?_,fun k' => ?_⟩⟩⟩
    ·unfold ei;rw[hn,hq,decide_eq_true rfl]
    ·intro e' he'
     rw[List.modify_zero_cons]at he'
     rcases List.mem_cons.1 he' with h1 | h1
     ·rw[h1];exact(hu e hk).2.2
     ·exact h' e' h1
    ·rw[List.modify_zero_cons]
     unfold vlk
     rw[(hu e hk).1,(hu e hk).2.1,hk]
     by_cases e1:k=k'
     ·rw[if_pos e1,if_pos e1.symm]
     ·rw[if_neg e1,if_neg (fun h=>e1 h.symm),if_neg e1]
   ·have hne:¬qt e=k:=fun e=>hkn (by rw[←e,hk])
    obtain⟨f,hf,hr⟩:=n8 (k:=k) h' (i+1)
    refine⟨f,by unfold ei;rw[hn,hq,decide_eq_false hkn];exact hf, ?_⟩
    rcases hr with ⟨h1,h2⟩ | ⟨j,v,h1,h2,h3,h4⟩
    ·exact .inl ⟨h1,by unfold vlk;rw[if_neg hne];exact h2⟩
    ·refine .inr ⟨j+1,v,by rw[h1];congr 2;omega,by unfold vlk;rw[if_neg hne];exact h2,by simpa using h3,fun u w hu=> ?_⟩
     obtain⟨h5,h6⟩:=h4 u w hu
     rw[List.modify_succ_cons]
     refine⟨fun e' he' => ?_,fun k' => ?_⟩
     ·rcases List.mem_cons.1 he' with h7 | h7
      ·rw[h7];exact⟨n,hn⟩
      ·exact h5 e' h7
     ·unfold vlk
      by_cases e1:qt e=k'
      ·rw[if_pos e1,if_pos e1,if_neg (fun h=>hne (by rw[e1,h]))]
      ·rw[if_neg e1,if_neg e1];exact h6 k'
theorem qu (k:Int):∀(es ds:List MapEntry),vlk k (es++ds)=(vlk k es).or (vlk k ds)
 | [],ds=>by simp [vlk]
 | e::es,ds=>by
   show(if qt e=k then some e.val else vlk k (es++ds))=(if qt e=k then some e.val else vlk k es).or (vlk k ds)
   split
   ·rfl
   ·exact qu k es ds
theorem qv {es:Array MapEntry} {cl:Nat} {k:Int} {v:Value} (h:rQ es.toList):
  ∃f,ei (.int .i64 k) es.toList 0=some f∧(∀z,found z f=(vlk k es.toList).getD z)∧∃es' cl',j8 es cl f (.int .i64 k) v= .map es' cl' ∧rQ es'.toList∧∀k',vlk k' es'.toList=if k' =k then some v else vlk k' es.toList:=by
 obtain⟨f,hf,hr⟩:=n8 (k:=k) h 0
 refine⟨f,hf, ?_, ?_⟩
 ·intro z
  rcases hr with ⟨rfl,h2⟩ | ⟨j,w,rfl,h2,_⟩
  ·rw[h2];rfl
  ·rw[h2];rfl
 ·rcases hr with ⟨rfl,h2⟩ | ⟨j,w,rfl,h2,h3,h4⟩
  ·refine⟨_,_,rfl, ?_,fun k' => ?_⟩
   ·intro e he
    rw[Array.toList_push]at he
    rcases List.mem_append.1 he with h5 | h5
    ·exact h e h5
    ·rw[List.mem_singleton.1 h5];exact⟨k,rfl⟩
   ·rw[Array.toList_push,qu]
    by_cases e1:k' =k
    ·rw[if_pos e1,e1,h2];simp [vlk,qt]
    ·rw[if_neg e1]
     have e2:¬k=k' :=fun h=>e1 h.symm
     have:vlk k' [{ key:= .int .i64 k,val:=v,born:=cl }]=none:=by simp [vlk,qt,e2]
     rw[this];simp
  ·obtain⟨h5,h6⟩:=h4 (fun e=> { e with key:= .int .i64 k,val:=v }) v (fun e _=>⟨rfl,rfl,k,rfl⟩)
   refine⟨_,_,rfl, ?_,fun k' => ?_⟩
   ·rw[Array.toList_modify,Nat.zero_add];exact h5
   ·rw[Array.toList_modify,Nat.zero_add];exact h6 k'
def l8 (V:View) (r:Nat) (l:List Int):Prop:=∃es cl,V.see r=some (.map es cl)∧rQ es.toList∧∀k,(vlk k es.toList).getD (.int .i64 0)= .int .i64 (l.count k)
theorem l9 (l:List Int) (x k:Int):(l++ [x]).count k=l.count k+if k=x then 1 else 0:=by
 rw[List.count_append]
 by_cases e:k=x
 ·subst e;simp
 ·rw[if_neg e];simp [Ne.symm e]
theorem l8.bump {V:View} {r:Nat} {l:List Int} (h:l8 V r l) (x:Int):∃es cl f,V.see r=some (.map es cl)∧ei (.int .i64 x) es.toList 0=some f∧found (.int .i64 0) f= .int .i64 (l.count x)∧l8 (V.put r (j8 es cl f (.int .i64 x) (.int .i64 ((l.count x:Int)+1)))) r (l++ [x]):=by
 obtain⟨es,cl,hs,hk,hv⟩:=h
 obtain⟨f,hf,hfd,es',cl',hm,hk',hv'⟩:=qv (cl:=cl) (k:=x) (v:= .int .i64 ((l.count x:Int)+1)) hk
 refine⟨es,cl,f,hs,hf,by rw[hfd,hv],es',cl',by rw[View.ah,hm],hk',fun k=> ?_⟩
 rw[hv',l9]
 by_cases e:k=x
 ·rw[if_pos e,if_pos e,e];rfl
 ·rw[if_neg e,if_neg e,hv];simp
theorem l8.look {V:View} {r:Nat} {l:List Int} (h:l8 V r l) (x:Int):∃es cl f,V.see r=some (.map es cl)∧ei (.int .i64 x) es.toList 0=some f∧found (.int .i64 0) f= .int .i64 (l.count x):=by
 obtain⟨es,cl,f,h1,h2,h3,_⟩:=h.bump x
 exact⟨es,cl,f,h1,h2,h3⟩
theorem jm {t:Tre} {i:Nat} (h:i<t.length):bC (t.take (i+1))=bC (t.take i)++(t.getD i default).an:=by
 unfold bC
 rw[List.take_add_one,List.getElem?_eq_getElem h,List.flatMap_append,aB h]
 simp
theorem vI:∀ {t:Tre} {m:Nat},(∀n∈t,n.an.length≤m)→(bC t).length≤m*t.length
 | [],_,_=>by simp [bC]
 | n::t,m,h=>by
   have h1:=vI (t:=t) (m:=m) fun k hk=>h k (by simp [hk])
   have h2:=h n (by simp)
   have e:bC (n::t)=n.an++bC t:=by simp [bC]
   rw[e,List.length_append,List.length_cons,Nat.mul_add]
   omega
theorem oR (t:Tre) (i:Nat):bC (t.take i)<+:bC t:=by
 have:bC t=bC (t.take i)++bC (t.drop i):=by unfold bC;rw[←List.flatMap_append,List.take_append_drop]
 rw[this];exact List.prefix_append _ _
theorem ng {l m:List Int} (h:l<+:m) (ha:b6 l=false):b6 m=false:=by
 unfold b6 at*
 rw[decide_eq_false_iff_not]at*
 exact fun hm=>ha (hm.sublist (h.sublist.filter _))
theorem mc {l:List Int} {x:Int} (h:b6 l=true):b6 (l++ [x])= !(!decide (x=0)&&decide (1<(l++ [x]).count x)):=by
 unfold b6 at*
 have h:=of_decide_eq_true h
 rw[List.filter_append,l9,if_pos rfl]
 by_cases hx:x=0
 ·subst hx;simpa using h
 ·have e1: [x].filter (fun s=>decide (s≠0))= [x]:=by simp [hx]
  rw[e1]
  by_cases hm:x∈l
  ·have hc:=List.count_pos_iff.2 hm
   have:¬(l.filter (fun s=>decide (s≠0))++ [x]).Nodup:=by
    rw[List.nodup_append]
    intro hn
    exact hn.2.2 x (by simp [hm,hx]) x (by simp) rfl
   rw[decide_eq_false this,decide_eq_true (show 1<l.count x+1 by omega)]
   simp [hx]
  ·have hc:=List.count_eq_zero.2 hm
   have:(l.filter (fun s=>decide (s≠0))++ [x]).Nodup:=by
    rw[List.nodup_append]
    refine⟨h,by simp,fun a ha b hb hab=> ?_⟩
    have hb:b=x:=by simpa using hb
    rw[hab,hb]at ha
    exact hm ((List.mem_filter.1 ha).1)
   rw[decide_eq_true this,hc]
   simp
theorem C3 {s:Sl} {t:Tre} {V:View} (h:SlR V s t) (h12:t.length=12) (h5:∀n∈t,n.an.length≤5):af Tryz.prog 118 ⟨[aZ s]⟩ V fun r V' =>r= .bool (b6 (bC t))∧V.Le V' :=by
 refine J3 ?_
 unfold BN
 have hn:s.n=12:=by rw[h.n,h12]
 rw[hn]
 refine fun _ r hr=> ?_
 have hfr:V.see r=none:=View.ax hr
 refine bh (k:= .int .i64) (fun(x:Int) V' =>∃i:Nat,x=i∧i≤12∧l8 V' r (bC (t.take i))∧b6 (bC (t.take i))=true∧V.Le (V'.bt r)) (fun(x:Int) _=>12-x.toNat) ⟨0,rfl,by omega,⟨_,_,View.ah _ _ _,fun e he=>(by cases he),fun k=>rfl⟩,rfl,aT hfr (View.Le.refl _)⟩ ?_
 rintro(x:Int) V1 ⟨i,rfl,hi,hs1,hp1,hV1⟩
 have hV1' :V.Le V1:=hV1.trans (View.c6 _ _)
 refine aa (fun hlt=> ?_) (fun hge=> ?_)
 ·have hlt:i<12:=by have:=of_decide_eq_true hlt;omega
  obtain⟨ad,sq,en,ha,hc,hN⟩:=h.bO (i:=i) (by omega)
  have hmem:t.getD i default∈t:=by rw[aB (by omega)];exact List.getElem_mem _
  have hle:=h5 _ hmem
  have htk:(bC (t.take i)).length≤5*12:=Nat.le_trans (vI fun n hn=>h5 n (List.mem_of_mem_take hn)) (Nat.mul_le_mul_left _ (by simp;omega))
  have hpre:=oR t (i+1)
  rw[jm (by omega)]at hpre
  refine⟨by omega,by omega,ad,ha,_,_,_,sq,en,aV hV1' hc,fun _=> ?_⟩
  generalize hnd:t.getD i default=nd at*
  have hsn:=hN.an.n
  refine bh (k:= .int .i64) (fun(x:Int) V' =>∃k:Nat,x=k∧k≤nd.an.length∧l8 V' r (bC (t.take i)++nd.an.take k)∧b6 (bC (t.take i)++nd.an.take k)=true∧V.Le (V'.bt r)) (fun(x:Int) _=>nd.an.length-x.toNat) ⟨0,rfl,by omega,by simpa using hs1,by simpa using hp1,hV1⟩ ?_
  rintro(x:Int) V2 ⟨k,rfl,hk,hs2,hp2,hV2⟩
  have hV2' :V.Le V2:=hV2.trans (View.c6 _ _)
  refine aa (fun hlt=> ?_) (fun hge=> ?_)
  ·have hlt:k<nd.an.length:=by have:=of_decide_eq_true hlt;omega
   obtain⟨ad,ha,hc,hin⟩:=(hN.an.mono hV2').fD hlt
   refine⟨by omega,by omega,ad,ha,_,hc, ?_⟩
   have etk:nd.an.take (k+1)=nd.an.take k++ [nd.an.getD k 0]:=by rw[List.take_add_one,List.getElem?_eq_getElem hlt,bY hlt];rfl
   have hpre2:bC (t.take i)++nd.an.take (k+1)<+:bC t:=by
    refine List.IsPrefix.trans ?_ hpre
    rw[List.prefix_append_right_inj]
    exact List.take_prefix _ _
   rw[etk, ←List.append_assoc]at hpre2
   generalize hx:nd.an.getD k 0=x at*
   obtain⟨es,cl,f,hse,hmf,hfd,hbump⟩:=hs2.bump x
   have hcl:(bC (t.take i)++nd.an.take k).count x≤65:=by
    refine Nat.le_trans List.count_le_length ?_
    simp only [List.length_append,List.length_take];omega
   refine⟨trivial,es,cl,f,hse,hmf,_,hfd,au (by omega) (by omega),trivial,r,es,cl,f,rfl,hse,hmf, ?_⟩
   dsimp only
   have hV3:V.Le ((V2.put r (j8 es cl f (.int .i64 x) (.int .i64 (((bC (t.take i)++nd.an.take k).count x:Int)+1)))).bt r):=hV2.trans (aU r _)
   generalize (V2.put r (j8 es cl f (.int .i64 x) (.int .i64 (((bC (t.take i)++nd.an.take k).count x:Int)+1))))=V3 at*
   refine ai (fun q V' =>q.1= !b6 (bC (t.take i)++nd.an.take k++ [x])∧V' =V3) (aa (fun hx0=> ?_) (fun hx0=>⟨?_,rfl⟩)) ?_
   ·obtain⟨es,cl,f,h1,h2,h3⟩:=hbump.look x
    refine⟨trivial,es,cl,f,h1,h2,_,h3, ?_,rfl⟩
    rw[mc hp2,hx0]
    simp only [Bool.true_and,Bool.not_not]
    exact decide_eq_decide.2 (by omega)
   ·rw[mc hp2,hx0];rfl
   ·rintro⟨q,⟨⟩⟩ V4 ⟨h1,hV⟩
    simp only at h1 hV
    subst h1 hV
    dsimp only [unc]
    refine aa (fun hb=>⟨?_,hV3.trans (View.c6 _ _)⟩) (fun hb=>⟨au (by omega) (by omega),⟨k+1,by omega,by omega, ?_, ?_,hV3⟩,by omega⟩)
    ·rw[ng hpre2 (aM hb)]
    ·rw[etk, ←List.append_assoc];exact hbump
    ·rw[etk, ←List.append_assoc];exact aD hb
  ·have hge:k=nd.an.length:=by have:=of_decide_eq_false hge;omega
   subst hge
   rw[List.take_length]at hs2 hp2
   refine⟨au (by omega) (by omega),⟨i+1,by omega,by omega, ?_, ?_,hV2⟩,by omega⟩
   ·rw[jm (by omega),hnd];exact hs2
   ·rw[jm (by omega),hnd];exact hp2
 ·have hge:i=12:=by have:=of_decide_eq_false hge;omega
  subst hge
  rw[List.take_of_length_le (by omega)]at hp1
  exact⟨by rw[hp1],hV1'⟩
theorem gZ {n:Nod} (h:bA n=true):n.an.length≤5:=by
 unfold bA at h
 split at h
 ·simp at h;rw[h.1.2];simp
 ·split at h
  ·unfold fG at h;simp at h;omega
  ·split at h
   ·simp at h;rw[h.1.2];simp
   ·cases h
theorem iI {s:Sl} {t:Tre} {V:View} (h:SlR V s t):af Tryz.prog 69 ⟨[aZ s]⟩ V fun r V' =>r= .bool (aY t)∧V.Le V' :=by
 refine Mw ?_
 unfold Hf
 have hn:=h.n
 refine fun _=>ai (fun q V' =>q.1=(!(decide (t.length=12)&&t.all bA&&decide ((t.getD 0 default).kind=2)))∧V' =V) (aa (fun hb=>⟨?_,rfl⟩) (fun hb=> ?_)) ?_
 ·have hb:¬t.length=12:=by have:=of_decide_eq_false (aM hb);omega
  rw[decide_eq_false hb];rfl
 ·have hb:t.length=12:=by have:=of_decide_eq_true (aD hb);omega
  refine(jk (p:=fun n=> !bA n) h fun n _ a b hN=> ?_).mono ?_
  ·exact FH hN
  ·rintro r V' ⟨rfl,rfl⟩
   have e1:(t.any fun n=> !bA n)= !t.all bA:=by rw[List.any_eq_not_all_not];simp
   refine⟨_,rfl,aa (fun h1=>⟨?_,rfl⟩) (fun h1=> ?_)⟩
   ·rw[e1]at h1
    rw[aM h1,Bool.and_false];rfl
   ·rw[e1]at h1
    obtain⟨ad,sq,en,ha,hc,hN⟩:=h.bO (i:=0) (by omega)
    refine⟨by omega,by omega,ad,ha,_,av hc 0 rfl, ?_,rfl⟩
    rw[decide_eq_true hb,aD h1];rfl
 ·rintro⟨q,⟨⟩⟩ V1 ⟨h1,hV⟩
  simp only at h1 hV
  subst h1 hV
  dsimp only [unc]
  refine aa (fun hb=>⟨?_,View.Le.refl _⟩) (fun hb=> ?_)
  ·have hb:=aM hb
   unfold aY
   have:(decide (t.length=12)&&t.all bA&&decide ((t.getD 0 default).kind=2))=false:=by simpa using hb
   rw[this];rfl
  ·have hb:=aD hb
   have h3:(decide (t.length=12)&&t.all bA&&decide ((t.getD 0 default).kind=2))=true:=hb
   have hM:aY t=((List.range 12).all (fun i=>gB (t.getD i default) i ((cnt 12 (dh t)).getD i 0) (iV t 0 i))&&b6 (bC t)):=by
    unfold aY;rw[h3,Bool.true_and]
   rw[hM]
   simp only [Bool.and_eq_true,decide_eq_true_eq,List.all_eq_true]at h3
   obtain⟨⟨h12,hall⟩,_⟩:=h3
   have hE:∀n∈t,n.az.length≤10:=fun n hn=>ey (bV (hall n hn))
   have hnode:∀n∈t,∀e∈n.az,0≤e.node∧e.node<12:=fun n hn e he=>by
    have:=fo (bV (hall n hn)) he;omega
   refine⟨trivial,V1,View.Le.refl _,(C2 h h12 hE).mono ?_⟩
   rintro r V2 ⟨x,rfl,hx,hV2⟩
   refine⟨x,rfl,hV2,(vH (a:=0) (h.mono hV2) h12 (by decide) hnode).mono ?_⟩
   rintro r V3 ⟨y,rfl,hy,hV3⟩
   refine⟨y,rfl, ?_⟩
   have hx3:=hx.mono hV3
   refine bh (k:= .int .i64) (fun(x:Int) V' =>V' =V3∧∃i:Nat,x=i∧i≤12∧(List.range i).all (fun i=>gB (t.getD i default) i ((cnt 12 (dh t)).getD i 0) (iV t 0 i))=true) (fun(x:Int) _=>12-x.toNat) ⟨rfl,0,rfl,by omega,rfl⟩ ?_
   rintro(i:Int) V4 ⟨rfl,i,rfl,hi,hP⟩
   have hV14:=hV2.trans hV3
   refine aa (fun hlt=> ?_) (fun hge=> ?_)
   ·have hlt:i<12:=by have:=of_decide_eq_true hlt;omega
    obtain⟨ad,sq,en,ha,hc,hN⟩:=(h.mono hV14).bO (i:=i) (by omega)
    obtain⟨ad2,ha2,hc2,_⟩:=hx3.fD (i:=i) (by rw[iH];exact hlt)
    obtain⟨ad3,hx',ha3,hc3⟩:=hy.bool (x:=(i:Int)) (by omega) (by have:=hy.n;simp at this;omega)
    have e3:((List.range 12).map (iV t 0))[((i:Int)).toNat]=iV t 0 i:=by simp
    rw[e3]at hc3
    have hxn:=hx3.n
    rw[iH]at hxn
    have hyn:=hy.n
    simp only [List.length_map,List.length_range]at hyn
    refine⟨by omega,by omega,ad,ha,_,_,_,sq,en,hc,fun _=>⟨trivial,V4,View.Le.refl _,by omega,by omega,ad2,ha2,_,hc2,by omega,by omega,ad3,ha3,_,hc3,C1.mono ?_⟩⟩
    rintro r V5 ⟨rfl,rfl⟩
    refine⟨_,rfl,aa (fun hb=>⟨?_,hV14⟩) (fun hb=>⟨au (by omega) (by omega),⟨rfl,i+1,by omega,by omega,iy hP (aD hb)⟩,by omega⟩)⟩
    rw[iz hlt (aM hb)];rfl
   ·have hge:i=12:=by have:=of_decide_eq_false hge;omega
    subst hge
    refine(C3 (h.mono hV14) h12 fun n hn=>gZ (hall n hn)).mono ?_
    rintro r V5 ⟨rfl,hV5⟩
    refine⟨_,rfl, ?_,hV14.trans hV5⟩
    rw[hP,Bool.true_and]
abbrev ak (t:Tre) (j:Nat):Int:=(t.getD j default).kind
abbrev ag (t:Tre) (j:Nat):List Ent:=(t.getD j default).az
structure RI (t:Tre) (a:Nat) (on:List Bool):Prop where
 len:on.length=12
 start:on.getD a false=true
 sound:∀j,on.getD j false=true→Reach t a j∧ak t j=2
def Clo (t:Tre) (on0 on:List Bool) (i:Nat):Prop:=∀j,j<i→on0.getD j false=true→∀e∈ag t j,ak t e.node.toNat=2→on.getD e.node.toNat false=true
def M3 (a b:List Bool):Prop:=∀j,a.getD j false=true→b.getD j false=true
structure PI (t:Tre) (a:Nat) (on0 on:List Bool) (i:Nat):Prop where
 ri:RI t a on
 sub:M3 on0 on
 clo:Clo t on0 on i
 stay:Clo t on0 on0 12→on=on0
def jo (on:List Bool):Nat:=on.countP fun b=>b
theorem sP:∀(a b:List Bool),a.length=b.length→M3 a b→jo a≤jo b∧(jo a=jo b→a=b)
 | [],[],_,_=>⟨Nat.le_refl _,fun _=>rfl⟩
 | x::a,y::b,hl,hs=>by
   obtain⟨h1,h2⟩:=sP a b (by simpa using hl) fun j hj=>by have:=hs (j+1) (by simpa using hj);simpa using this
   have h0:x=true→y=true:=fun h=>by have:=hs 0 (by simpa using h);simpa using this
   unfold jo at*
   simp only [List.countP_cons]
   cases x<;>cases y<;>simp at h0 ⊢
   ·exact⟨h1,h2⟩
   ·exact⟨by omega,fun h=>by omega⟩
   ·exact⟨h1,h2⟩
theorem C4 (on:List Bool):jo on≤on.length:=List.countP_le_length
theorem PI.start {t:Tre} {a:Nat} {on:List Bool} (h:RI t a on):PI t a on on 0:=⟨h,fun _ h=>h,fun _ hj=>absurd hj (Nat.not_lt_zero _),fun _=>rfl⟩
theorem PI.skip {t:Tre} {a:Nat} {on0 on:List Bool} {i:Nat} (h:PI t a on0 on i) (hi:on.getD i false=false):PI t a on0 on (i+1):=
 ⟨h.ri,h.sub,fun j hj h0 e he hk=>by
   by_cases hji:j=i
   ·subst hji;have:=h.sub _ h0;rw[hi]at this;cases this
   ·exact h.clo j (by omega) h0 e he hk,h.stay⟩
theorem PI.next {t:Tre} {a:Nat} {on0 on:List Bool} {i:Nat} (h:PI t a on0 on i) (hi:∀e∈ag t i,ak t e.node.toNat=2→on.getD e.node.toNat false=true):PI t a on0 on (i+1):=
 ⟨h.ri,h.sub,fun j hj h0 e he hk=>by
   by_cases hji:j=i
   ·subst hji;exact hi e he hk
   ·exact h.clo j (by omega) h0 e he hk,h.stay⟩
theorem C5 {on:List Bool} {q:Nat} (h:on.getD q false=true):on.set q true=on:=by
 apply List.ext_getElem?
 intro j
 rw[List.getElem?_set]
 by_cases e:q=j
 ·subst e
  rw[List.getD_eq_getElem?_getD]at h
  cases ho:on[q]? with
  | none=>rw[ho]at h;cases h
  | some b=>
    rw[ho]at h
    have hb:b=true:=h
    rw[if_pos rfl,if_pos (List.getElem?_eq_some_iff.1 ho).1,hb]
 ·rw[if_neg e]
theorem PI.mark {t:Tre} {a:Nat} {on0 on:List Bool} {i q:Nat} {e:Ent} (h:PI t a on0 on i) (hi12:i<12) (hi:on.getD i false=true) (he:e∈ag t i) (hq:e.node=q) (hq12:q<12) (hk:ak t q=2):PI t a on0 (on.set q true) i:=by
 have hl:q<on.length:=by rw[h.ri.len];exact hq12
 have hg:=fun j=>dS on q j hl
 have up:∀j,on.getD j false=true→(on.set q true).getD j false=true:=fun j hj=>by rw[hg,hj];simp
 refine⟨⟨by simp [h.ri.len],up _ h.ri.start,fun j hj=> ?_⟩,fun j hj=>up _ (h.sub j hj),fun j hj h0 e he hk=>up _ (h.clo j hj h0 e he hk),fun hc=> ?_⟩
 ·rw[hg]at hj
  split at hj
  ·rename_i e1
   subst e1
   have:=Reach.step (h.ri.sound i hi).1 he
   rw[hq,Int.toNat_natCast]at this
   exact⟨this,hk⟩
  ·exact h.ri.sound j hj
 ·have hs:=h.stay hc
  have h0:on0.getD i false=true:=by rw[←hs];exact hi
  have:=hc i hi12 h0 e he (by rw[hq,Int.toNat_natCast];exact hk)
  rw[hq,Int.toNat_natCast, ←hs]at this
  rw[C5 this];exact hs
theorem PI.round {t:Tre} {a:Nat} {on0 on:List Bool} {k:Nat} (h0:RI t a on0) (h:PI t a on0 on 12) (hk:Clo t on0 on0 12∨k+1≤jo on0):Clo t on on 12∨k+2≤jo on:=by
 obtain⟨c1,c2⟩:=sP on0 on (by rw[h0.len,h.ri.len]) h.sub
 rcases hk with hk | hk
 ·left
  have:=h.stay hk
  rw[this];exact hk
 ·by_cases e:jo on0=jo on
  ·left
   have:=c2 e
   subst this
   exact h.clo
  ·right;omega
theorem RI.end {t:Tre} {a:Nat} {on:List Bool} (h:RI t a on) (hk:Clo t on on 12∨13≤jo on) (h12:t.length=12) (hall:∀n∈t,bA n=true):on=(List.range 12).map fun j=>iV t a j&&decide (ak t j=2):=by
 have hc:Clo t on on 12:=by
  rcases hk with hk | hk
  ·exact hk
  ·have:=C4 on;rw[h.len]at this;omega
 have hdir:∀i,i<12→ag t i≠ []→ak t i=2:=fun i hi hne=>by
  have hm:bA (t.getD i default)=true:=hall _ (by rw[aB (by omega)];exact List.getElem_mem _)
  unfold bA at hm
  split at hm
  ·simp at hm;exact absurd hm.2 hne
  ·split at hm
   ·unfold fG at hm;simp at hm;exact absurd hm.1.2 hne
   ·split at hm
    ·rename_i hk;exact hk
    ·cases hm
 have hlt:∀i,ag t i≠ []→i<12:=fun i hne=>by
  apply Classical.byContradiction
  intro hi
  apply hne
  show(t.getD i default).az= []
  rw[List.getD_eq_getElem?_getD,List.getElem?_eq_none (by omega)];rfl
 have hcomp:∀j,Reach t a j→ak t j=2→on.getD j false=true:=by
  intro j hj
  induction hj with
  | refl=>exact fun _=>h.start
  | @step i x hi hx ih=>
    intro hk
    have hne:ag t i≠ []:=fun e=>by
     have:x∈ag t i:=hx
     rw[e]at this;cases this
    have hi12:=hlt i hne
    exact hc i hi12 (ih (hdir i hi12 hne)) x hx hk
 apply List.ext_getElem (by simp [h.len])
 intro j h1 h2
 have e:on.getD j false=on[j]:=by rw[List.getD_eq_getElem?_getD,List.getElem?_eq_getElem h1];rfl
 rw[List.getElem_map,List.getElem_range,Bool.eq_iff_iff,Bool.and_eq_true,fH,decide_eq_true_eq, ←e]
 exact⟨h.sound j,fun⟨a,b⟩=>hcomp j a b⟩
structure MI (V V' :View) (r:Nat) (on:List Bool):Prop where
 marks:V'.see r=some (.cells ⟨cB on⟩ 4 (0,0))
 le:V.Le (V'.bt r)
theorem MI.vle {V V' :View} {r:Nat} {on:List Bool} (h:MI V V' r on):V.Le V' :=h.le.trans (View.c6 _ _)
theorem MI.get {V V' :View} {r:Nat} {on:List Bool} (h:MI V V' r on) {q:Nat} (hq:q<on.length):V'.cell? ((⟨r,0,none⟩:Addr).add (q*1))=some (.bool (on.getD q false)):=by
 rw[aW]
 refine bX h.marks ?_
 rw[List.getD_eq_getElem?_getD,List.getElem?_eq_getElem hq]
 show(cB on)[0+q*1]? =_
 unfold cB
 rw[Nat.zero_add,Nat.mul_one,List.getElem?_map,List.getElem?_eq_getElem hq]
 rfl
theorem MI.set {V V' :View} {r:Nat} {on:List Bool} (h:MI V V' r on) {q:Nat} (hq:q<on.length):ay V' ((⟨r,0,none⟩:Addr).add (q*1)) 1∧MI V (V'.sets ((⟨r,0,none⟩:Addr).add (q*1)) [.bool true]) r (on.set q true):=by
 rw[aW]
 refine⟨bJ h.marks (show 0+q*1+1≤_ by rw[l7];omega), ?_, ?_⟩
 ·rw[bn h.marks,View.ah,kB,Nat.zero_add,Nat.mul_one,l5]
 ·rw[bn h.marks]
  exact h.le.trans (aU r _)
theorem qw {s:Sl} {t:Tre} {a:Nat} {V:View} (h:SlR V s t) (h12:t.length=12) (hall:∀n∈t,bA n=true) (ha12:a<12) (h2:ak t a=2):
  af Tryz.prog 41 ⟨[aZ s,.int .i64 (a:Nat)]⟩ V fun r V' =>∃x:Sl,r= .slice x.a x.n x.c∧SlR V' x ((List.range 12).map fun j=>iV t a j&&decide (ak t j=2))∧V.Le V' :=by
 refine L7 ?_
 unfold GL
 have hn:s.n=12:=by rw[h.n,h12]
 rw[hn]
 refine fun _=>⟨by decide,by decide,by decide,by decide,fun r hr=> ?_⟩
 have hfr:V.see r=none:=View.ax hr
 have hM0:MI V (V.put r (.cells ⟨(List.replicate (((12:Nat):Int).toNat) [Value.bool false]).flatten⟩ 4 (0,0))) r (List.replicate 12 false):=⟨View.ah _ _ _,aT hfr (View.Le.refl _)⟩
 generalize (V.put r (.cells ⟨(List.replicate (((12:Nat):Int).toNat) [Value.bool false]).flatten⟩ 4 (0,0)))=V1 at*
 refine ai (fun q V' =>q.1=false∧V' =V1) (aa (fun hb=>absurd hb (by rw[decide_eq_false (by omega),decide_eq_false (by omega)];decide)) (fun _=> ?_)) ?_
 ·obtain⟨ad,sq,en,ha,hc,hN⟩:=(h.mono hM0.vle).bO (i:=a) (by omega)
  refine⟨by omega,by omega,ad,ha,_,av hc 0 rfl, ?_,rfl⟩
  rw[decide_eq_true (show(t.getD a default).kind=2 from h2)];rfl
 rintro⟨q,⟨⟩⟩ V2 ⟨h1,hV⟩
 simp only at h1 hV
 subst h1 hV
 dsimp only [unc]
 refine aa (fun hb=>absurd hb (by decide)) (fun _=> ?_)
 obtain⟨hs1,hM1⟩:=hM0.set (q:=a) (by simp;omega)
 refine⟨by omega,by omega,_,rfl,hs1, ?_⟩
 have hR1:RI t a ((List.replicate 12 false).set a true):=by
  have hg:=fun j=>dS (List.replicate 12 false) a j (by simp;omega)
  refine⟨by simp,by rw[hg,if_pos rfl],fun j hj=> ?_⟩
  rw[hg]at hj
  split at hj
  ·rename_i e;subst e;exact⟨.refl,h2⟩
  ·rw[List.getD_eq_getElem?_getD,List.getElem?_replicate]at hj
   split at hj<;>cases hj
 have hlim:=h.lim
 refine bh (k:= .int .i64) (fun(x:Int) V' =>∃(k:Nat) (on:List Bool),x=k∧k≤12∧MI V V' r on∧RI t a on∧(Clo t on on 12∨k+1≤jo on)) (fun(x:Int) _=>12-x.toNat) ⟨0,_,rfl,by omega,hM1,hR1,.inr (by
  have:((List.replicate 12 false).set a true).getD a false=true:=hR1.start
  unfold jo
  show 0+1≤_
  refine List.countP_pos_iff.2 ⟨true, ?_,rfl⟩
  exact List.mem_set (by simp;omega) _)⟩ ?_
 rintro(x:Int) V3 ⟨k,on0,rfl,hk,hM3,hR3,hC3⟩
 refine aa (fun hlt=> ?_) (fun hge=> ?_)
 ·have hlt:k<12:=by have:=of_decide_eq_true hlt;omega
  refine bh (k:= .int .i64) (fun(x:Int) V' =>∃(i:Nat) (on:List Bool),x=i∧i≤12∧MI V V' r on∧PI t a on0 on i) (fun(x:Int) _=>12-x.toNat) ⟨0,on0,rfl,by omega,hM3,.start hR3⟩ ?_
  rintro(x:Int) V4 ⟨i,on,rfl,hi,hM4,hP4⟩
  refine aa (fun hlt=> ?_) (fun hge=> ?_)
  ·have hlt:i<12:=by have:=of_decide_eq_true hlt;omega
   have hlti:=hlt
   obtain⟨ad,sq,en,ha,hc,hN⟩:=h.bO (i:=i) (by omega)
   have hmem:t.getD i default∈t:=by rw[aB (by omega)];exact List.getElem_mem _
   have hnode:=bV (hall _ hmem)
   have hil:i<on.length:=by rw[hP4.ri.len];exact hlt
   refine ai (fun _ V' =>∃on,MI V V' r on∧PI t a on0 on (i+1)) ⟨by omega,by omega,ad,ha,_,_,_,sq,en,aV hM4.vle hc,fun _=>⟨by omega,by omega,_,rfl,_,hM4.get hil,aa (fun hb=> ?_) (fun hb=> ?_)⟩⟩ ?_
   ·exact⟨on,hM4,hP4.skip (aM hb)⟩
   ·have hon:=aD hb
    have hen:=hN.az.n
    have helim:=hN.az.lim
    have hle0:(ag t i).length=(t.getD i default).az.length:=rfl
    refine bh (k:= .int .i64) (fun(x:Int) V' =>∃(m:Nat) (on:List Bool),x=m∧m≤(ag t i).length∧MI V V' r on∧PI t a on0 on i∧on.getD i false=true∧∀e∈(ag t i).take m,ak t e.node.toNat=2→on.getD e.node.toNat false=true) (fun(x:Int) _=>(ag t i).length-x.toNat) ⟨0,on,rfl,by omega,hM4,hP4,hon,fun e he=>by simp at he⟩ ?_
    rintro(x:Int) V5 ⟨m,on5,rfl,hm,hM5,hP5,hon5,hdone⟩
    refine aa (fun hlt=> ?_) (fun hge=> ?_)
    ·have hltm:m<(ag t i).length:=by have:=of_decide_eq_true hlt;omega
     obtain⟨ad3,ha3,hc3,_,_⟩:=(hN.az.mono hM5.vle).lZ (i:=m) hltm
     have hxm:(t.getD i default).az.getD m default∈(t.getD i default).az:=by rw[aB hltm];exact List.getElem_mem _
     have hq:=fo hnode hxm
     have etk:(ag t i).take (m+1)=(ag t i).take m++ [(t.getD i default).az.getD m default]:=by rw[List.take_add_one,List.getElem?_eq_getElem hltm,aB hltm];rfl
     obtain⟨q,hqe⟩:∃q:Nat,((t.getD i default).az.getD m default).node=q:=⟨((t.getD i default).az.getD m default).node.toNat,by omega⟩
     have hq12:q<12:=by omega
     refine⟨by omega,by omega,ad3,ha3,_,_,hc3,fun _=> ?_⟩
     rw[hqe]
     generalize hxx:(t.getD i default).az.getD m default=e at*
     refine ai (fun g V' =>g.1=decide (ak t q=2)∧V' =V5) (aa (fun _=> ?_) (fun hb=> ?_)) ?_
     ·obtain⟨ad4,sq4,en4,ha4,hc4,_⟩:=h.bO (i:=q) (by omega)
      exact⟨by omega,by omega,ad4,ha4,_,av (aV hM5.vle hc4) 0 rfl,rfl,rfl⟩
     ·exfalso
      rw[decide_eq_true (show(0:Int)≤(q:Int) by omega)]at hb
      have:=of_decide_eq_false hb
      omega
     ·rintro⟨g,⟨⟩⟩ V6 ⟨h1,hV⟩
      simp only at h1 hV
      subst h1 hV
      dsimp only [unc]
      have hql:q<on5.length:=by rw[hP5.ri.len];exact hq12
      refine ai (fun _ V' =>∃on,MI V V' r on∧PI t a on0 on i∧on.getD i false=true∧∀e∈(ag t i).take (m+1),ak t e.node.toNat=2→on.getD e.node.toNat false=true) (aa (fun hb=> ?_) (fun hb=> ?_)) ?_
      ·have hkq:=of_decide_eq_true hb
       obtain⟨hs6,hM6⟩:=hM5.set hql
       have hg:=fun j=>dS on5 q j hql
       refine⟨by omega,by omega,_,rfl,hs6,_,hM6,hP5.mark hlti hon5 hxm hqe hq12 hkq,by rw[hg,hon5];simp,fun e' he' hk' => ?_⟩
       rw[etk]at he'
       rw[hg]
       rcases List.mem_append.1 he' with h7 | h7
       ·rw[hdone e' h7 hk'];simp
       ·rw[List.mem_singleton.1 h7,hqe,Int.toNat_natCast,if_pos rfl]
      ·have hkq:=of_decide_eq_false hb
       refine⟨on5,hM5,hP5,hon5,fun e' he' hk' => ?_⟩
       rw[etk]at he'
       rcases List.mem_append.1 he' with h7 | h7
       ·exact hdone e' h7 hk'
       ·rw[List.mem_singleton.1 h7,hqe,Int.toNat_natCast]at hk'
        exact absurd hk' hkq
      ·rintro⟨⟩ V7 ⟨on7,hM7,hP7,hon7,hd7⟩
       exact⟨au (by omega) (by omega),⟨m+1,on7,by omega,by omega,hM7,hP7,hon7,hd7⟩,by omega⟩
    ·have hge:m=(ag t i).length:=by have:=of_decide_eq_false hge;omega
     subst hge
     rw[List.take_length]at hdone
     exact⟨on5,hM5,hP5.next hdone⟩
   ·rintro⟨⟩ V5 ⟨on5,hM5,hP5⟩
    exact⟨au (by omega) (by omega),⟨i+1,on5,by omega,by omega,hM5,hP5⟩,by omega⟩
  ·have hge:i=12:=by have:=of_decide_eq_false hge;omega
   subst hge
   exact⟨au (by omega) (by omega),⟨k+1,on,by omega,by omega,hM4,hP4.ri,hP4.round hR3 hC3⟩,by omega⟩
 ·have hge:k=12:=by have:=of_decide_eq_false hge;omega
  subst hge
  refine⟨⟨some ⟨r,0,none⟩,12,12⟩,rfl, ?_,hM3.vle⟩
  have:=bK (W:=V3) hM3.marks jl (View.Le.refl _) (by rw[hR3.len];omega)
  rw[hR3.len,hR3.end hC3 h12 hall]at this
  exact this
theorem C6 {s:Sl} {t:Tre} {a:Int} {V:View} (h:SlR V s t) (h12:t.length=12) (he:∀n∈t,n.az.length≤10):
  af Tryz.prog 42 ⟨[aZ s,.int .i64 a]⟩ V fun r V' =>r= .int .i64 ((dh t).countP (fun(x:Ent)=>decide (x.node=a)):Nat)∧V' =V:=by
 refine L8 ?_
 unfold GM
 have hn:=h.n
 refine fun _=> ?_
 refine di (k:= .int .i64) (l:= .int .i64) (fun(x:Int) (j:Int) V' =>V' =V∧∃i:Nat,j=i∧i≤12∧x=((dh (t.take i)).countP (fun(x:Ent)=>decide (x.node=a)):Nat)) (fun _ (j:Int) _=>12-j.toNat) ⟨rfl,0,rfl,by omega,rfl⟩ ?_
 rintro(x:Int) (j:Int) V1 ⟨rfl,i,rfl,hi,rfl⟩
 refine aa (fun hlt=> ?_) (fun hge=> ?_)
 ·have hlt:i<12:=by have:=of_decide_eq_true hlt;omega
  obtain⟨ad,sq,en,ha,hc,hN⟩:=h.bO (i:=i) (by omega)
  have hmem:t.getD i default∈t:=by rw[aB (by omega)];exact List.getElem_mem _
  have hle:=he _ hmem
  have hti:=sN (t:=t) (i:=i) (by omega)
  have htk:(dh (t.take i)).length≤10*12:=Nat.le_trans (kC fun n hn=>he n (List.mem_of_mem_take hn)) (Nat.mul_le_mul_left _ (by simp;omega))
  have hen:=hN.az.n
  refine⟨by omega,by omega,ad,ha,_,_,_,sq,en,hc,fun _=> ?_⟩
  generalize t.getD i default=nd at*
  refine di (k:= .int .i64) (l:= .int .i64) (fun(x:Int) (j:Int) V' =>V' =V1∧∃k:Nat,j=k∧k≤nd.az.length∧x=((dh (t.take i)++nd.az.take k).countP (fun(x:Ent)=>decide (x.node=a)):Nat)) (fun _ (j:Int) _=>nd.az.length-j.toNat) ⟨rfl,0,rfl,by omega,by simp⟩ ?_
  rintro(x:Int) (j:Int) V2 ⟨rfl,k,rfl,hk,rfl⟩
  have hcl:=List.countP_le_length (p:=fun(x:Ent)=>decide (x.node=a)) (l:=dh (t.take i)++nd.az.take k)
  simp only [List.length_append,List.length_take]at hcl
  refine aa (fun hlt=> ?_) (fun hge=> ?_)
  ·have hlt:k<nd.az.length:=by have:=of_decide_eq_true hlt;omega
   obtain⟨ad,ha,hc,_,_⟩:=hN.az.lZ hlt
   have etk:nd.az.take (k+1)=nd.az.take k++ [nd.az.getD k default]:=by rw[List.take_add_one,List.getElem?_eq_getElem hlt,aB hlt];rfl
   refine⟨by omega,by omega,ad,ha,_,_,hc,fun _=> ?_⟩
   generalize nd.az.getD k default=e at*
   have hst:(dh (t.take i)++nd.az.take (k+1)).countP (fun(x:Ent)=>decide (x.node=a))=(dh (t.take i)++nd.az.take k).countP (fun(x:Ent)=>decide (x.node=a))+if e.node=a then 1 else 0:=by
    rw[etk, ←List.append_assoc,List.countP_append]
    congr 1
    by_cases h1:e.node=a<;>simp [h1]
   refine ai (fun g V' =>g.1=((dh (t.take i)++nd.az.take (k+1)).countP (fun(x:Ent)=>decide (x.node=a)):Nat)∧V' =V2) (aa (fun h1=>⟨au (by omega) (by omega), ?_,rfl⟩) (fun h1=>⟨?_,rfl⟩)) ?_
   ·rw[hst,if_pos (of_decide_eq_true h1)];rfl
   ·rw[hst,if_neg (of_decide_eq_false h1)];rfl
   ·rintro⟨g,⟨⟩⟩ V3 ⟨h1,hV⟩
    simp only at h1 hV
    subst h1 hV
    exact⟨au (by omega) (by omega),⟨rfl,k+1,by omega,by omega,rfl⟩,by omega⟩
  ·have hge:k=nd.az.length:=by have:=of_decide_eq_false hge;omega
   subst hge
   rw[List.take_length]at*
   exact⟨au (by omega) (by omega),⟨rfl,i+1,by omega,by omega,by rw[hti]⟩,by omega⟩
 ·have hge:i=12:=by have:=of_decide_eq_false hge;omega
  subst hge
  rw[List.take_of_length_le (by omega)]
  exact⟨rfl,rfl⟩
theorem jN {s:ByteArray} {V:View} (hs:s.size≤9223372036854775807):af Tryz.prog 122 ⟨[.string s]⟩ V fun r V' =>r= .bool (cG s)∧V' =V:=by
 refine J7 ?_
 unfold BR
 refine aa (fun h=>⟨?_,rfl⟩) (fun h=> ?_)
 ·congr 1
  symm
  unfold cG
  rw[Bool.and_eq_false_iff]
  right
  rw[Bool.eq_false_iff]
  intro h2
  simp at h h2
  simp [h2]at h
  omega
 have hpre:(1≤s.size&&s.size≤8&& !decide (s=ByteArray.mk #[46])&& !decide (s=ByteArray.mk #[46,46]))=true:=by
  simp at h ⊢
  refine⟨⟨by omega,h.1.2⟩,h.2⟩
 refine bh (k:= .int .i64) (fun(x:Int) V' =>V' =V∧0≤x∧x≤s.size∧(s.data.toList.take x.toNat).all (fun b=>okB b.toNat)=true) (fun(x:Int) _=>s.size-x.toNat) ⟨rfl,by omega,by omega,rfl⟩ ?_
 rintro(x:Int) V' ⟨rfl,h0,h1,h2⟩
 have hsz:s.data.toList.length=s.size:=by simp
 refine aa (fun hlt=> ?_) (fun hge=> ?_)
 ·have hlt:x<s.size:=by simpa using hlt
  have hx:x.toNat<s.data.toList.length:=by omega
  have hg:s.data.toList.getD x.toNat 0=s.data.toList[x.toNat]:=by rw[List.getD_eq_getElem?_getD,List.getElem?_eq_getElem hx];rfl
  refine⟨h0,hlt, ?_⟩
  rw[hg]
  generalize hb:s.data.toList[x.toNat]=b
  refine aa (fun hn=>⟨?_,rfl⟩) (fun hn=>⟨au (by omega) (by omega),⟨rfl,by omega,by omega, ?_⟩,by omega⟩)
  ·have hk:okB b.toNat=false:=by
    unfold okB
    simp at hn ⊢
    omega
   unfold cG
   have:(s.data.toList.all fun b=>okB b.toNat)=false:=by
    rw[List.all_eq_false]
    exact⟨b,hb▸List.getElem_mem hx,by simp [hk]⟩
   rw[show bl s=s.data.toList from rfl,this];rfl
  ·have hk:okB b.toNat=true:=by
    unfold okB
    simp at hn ⊢
    omega
   rw[show(x+1).toNat=x.toNat+1 by omega,List.take_add_one,List.all_append,h2,List.getElem?_eq_getElem hx,hb]
   simp [hk]
 ·have hge:¬x<s.size:=by simpa using hge
  rw[List.take_of_length_le (by omega)]at h2
  refine⟨?_,rfl⟩
  unfold cG
  rw[show bl s=s.data.toList from rfl,h2,hpre];rfl
theorem um {s:Sl} {l:List Ent} {V:View} (h:SlR V s l):af Tryz.prog 74 ⟨[.slice s.a s.n s.c]⟩ V fun r V' =>r= .bool (bZ l)∧V' =V:=by
 refine MA ?_
 unfold Hl
 have hn:=h.n;have hc:=h.c;have hm:=h.lim
 refine aa (fun h10=>⟨?_,rfl⟩) (fun h10=> ?_)
 ·have h10:=of_decide_eq_true h10
  unfold bZ
  rw[decide_eq_false (show ¬l.length≤10 by omega),Bool.and_false]
 have h10:=of_decide_eq_false h10
 have e10:bZ l=(List.range l.length).all (okE l):=by
  unfold bZ
  rw[decide_eq_true (show l.length≤10 by omega),Bool.and_true]
 rw[e10]
 refine bh (k:= .int .i64) (fun(x:Int) V' =>V' =V∧∃i:Nat,x=i∧i≤l.length∧(List.range i).all (okE l)=true) (fun(x:Int) _=>s.n-x.toNat) ⟨rfl,0,rfl,by omega,rfl⟩ ?_
 rintro(x:Int) V' ⟨rfl,i,rfl,hi,hall⟩
 refine aa (fun hlt=> ?_) (fun hge=> ?_)
 ·have hlt:i<l.length:=by have:=of_decide_eq_true hlt;omega
  obtain⟨ad,ha,hcell,hsz,hin⟩:=h.lZ hlt
  refine⟨by omega,by omega,ad,ha,_,_,hcell,fun _=> ?_⟩
  refine ai (fun q V1=>q.1=(!okE l i)∧V1=V') ⟨trivial,V',View.Le.refl _,(jN hsz).mono ?_⟩ ?_
  ·rintro r V1 ⟨rfl,rfl⟩
   have d1:decide ((l.getD i default).node<1)= !decide (1≤(l.getD i default).node):=gw (by omega)
   have d2:decide ((12:Int)≤(l.getD i default).node)= !decide ((l.getD i default).node<12):=gw (by omega)
   rw[d1,d2]
   refine⟨_,rfl,View.Le.refl _,V1,View.Le.refl _,View.Le.refl _,aa (fun hs=>⟨?_,rfl⟩) (fun hs=>aa (fun h0=> ?_) (fun h0=>⟨?_,rfl⟩))⟩
   ·unfold okE dG;rw[aM hs];rfl
   ·have h0:0<i:=by have:=of_decide_eq_true h0;omega
    obtain⟨j,rfl⟩:∃j,i=j+1:=⟨i-1,by omega⟩
    obtain⟨ad2,ha2,hcell2,_,_⟩:=h.lZ (i:=j) (by omega)
    have e1:(((j+1:Nat):Int)-1).toNat=j:=by omega
    refine⟨au (by omega) (by omega),by omega,by omega,ad2,ha2,(l.getD j default).name, ?_, ?_,rfl⟩
    ·rw[e1];exact av hcell2 0 rfl
    ·unfold okE dG
     rw[aD hs,decide_eq_false (show ¬j+1=0 by omega),Nat.add_sub_cancel]
     generalize bf (l.getD j default).name (l.getD (j+1) default).name=g1
     cases decide (1≤(l.getD (j+1) default).node)<;>cases decide ((l.getD (j+1) default).node<12)<;>cases g1<;>rfl
   ·have h0:i=0:=by have:=of_decide_eq_false h0;omega
    subst h0
    unfold okE dG
    rw[aD hs]
    cases decide (1≤(l.getD 0 default).node)<;>cases decide ((l.getD 0 default).node<12)<;>rfl
  ·rintro⟨q,⟨⟩⟩ V1 ⟨h1,hV⟩
   simp only at h1 hV
   subst h1 hV
   dsimp only [unc]
   refine aa (fun hb=>⟨?_,rfl⟩) (fun hb=>⟨au (by omega) (by omega),⟨rfl,i+1,by omega,by omega,iy hall (by simpa using hb)⟩,by omega⟩)
   rw[iz hlt (by simpa using hb)]
 ·have hge:i=l.length:=by have:=of_decide_eq_false hge;omega
  subst hge
  exact⟨by rw[hall],rfl⟩
theorem pK {n:Nod} {s e:Sl} {V:View} (h:dJ V s e n):af Tryz.prog 40 ⟨[eN n s e]⟩ V fun r V' =>r= .bool (bA n)∧V' =V:=by
 refine L6 ?_
 unfold GK
 have hsn:=h.an.n;have hen:=h.az.n
 have e1:decide (((s.n:Nat):Int)=0)=decide (n.an.length=0):=decide_eq_decide.2 (by omega)
 have e2:decide (((e.n:Nat):Int)=0)=decide (n.az.length=0):=decide_eq_decide.2 (by omega)
 have e3:decide (((s.n:Nat):Int)=5)=decide (n.an.length=5):=decide_eq_decide.2 (by omega)
 rw[e1,e2,e3]
 refine fun _=>aa (fun h0=>⟨?_,rfl⟩) (fun h0=>aa (fun h2=> ?_) (fun h2=>aa (fun h1=> ?_) (fun h1=>⟨?_,rfl⟩)))
 ·have h0:n.kind=0:=of_decide_eq_true h0
  unfold bA;rw[if_pos h0]
  cases decide (n.links=0)<;>cases decide (n.size=0)<;>cases decide (n.an.length=0)<;>rfl
 ·have h0:¬n.kind=0:=of_decide_eq_false h0
  have h2:n.kind=2:=of_decide_eq_true h2
  have h1:¬n.kind=1:=by omega
  have hm:bA n=(decide (n.links=1)&&decide (n.size=0)&&decide (n.an.length=0)&&bZ n.az):=by unfold bA;rw[if_neg h0,if_neg h1,if_pos h2]
  refine ai (fun q V1=>q.1=bA n∧V1=V) (aa (fun hb=>(um h.az).mono ?_) (fun hb=>⟨?_,rfl⟩)) ?_
  ·rintro r V1 ⟨rfl,rfl⟩
   refine⟨_,rfl, ?_,rfl⟩
   rw[hm]
   cases hA:decide (n.links=1)<;>cases hB:decide (n.size=0)<;>cases hC:decide (n.an.length=0)<;>simp_all
  ·rw[hm]
   cases hA:decide (n.links=1)<;>cases hB:decide (n.size=0)<;>cases hC:decide (n.an.length=0)<;>simp_all
  ·rintro⟨q,⟨⟩⟩ V1 ⟨h1,hV⟩
   simp only at h1 hV
   subst h1 hV
   exact⟨rfl,rfl⟩
 ·have h0:¬n.kind=0:=of_decide_eq_false h0
  have h1:n.kind=1:=of_decide_eq_true h1
  have hm:bA n=fG n:=by unfold bA;rw[if_neg h0,if_pos h1]
  rw[hm]
  have d1:decide (n.links<0)= !decide (0≤n.links):=gw (by omega)
  have d2:decide ((120:Int)<n.links)= !decide (n.links≤120):=gw (by omega)
  have d3:decide (n.size<0)= !decide (0≤n.size):=gw (by omega)
  have d4:decide ((80:Int)<n.size)= !decide (n.size≤80):=gw (by omega)
  rw[d1,d2,d3,d4]
  have hcond:(bif bif bif bif bif !decide (0≤n.links)then true else !decide (n.links≤120)then true else !decide (0≤n.size)then true else !decide (n.size≤80)then true else !decide (n.an.length=5)then true else !decide (n.az.length=0))= !(within n.links 120&&within n.size 80&&decide (n.an.length=5)&&decide (n.az.length=0)):=by
   unfold within
   cases decide (0≤n.links)<;>cases decide (n.links≤120)<;>cases decide (0≤n.size)<;>cases decide (n.size≤80)<;>cases decide (n.an.length=5)<;>cases decide (n.az.length=0)<;>rfl
  rw[hcond]
  refine aa (fun hb=>⟨?_,rfl⟩) (fun hb=> ?_)
  ·have hb:=aM hb
   unfold fG;rw[hb];rfl
  ·have hb:=aD hb
   have h5:n.an.length=5:=by simp at hb;exact hb.1.2
   refine bh (k:= .int .i64) (fun(x:Int) V' =>V' =V∧∃i:Nat,x=i∧i≤n.an.length∧(List.range i).all (okS n.size n.an)=true) (fun(x:Int) _=>s.n-x.toNat) ⟨rfl,0,rfl,by omega,rfl⟩ ?_
   rintro(x:Int) V' ⟨rfl,i,rfl,hi,hall⟩
   refine aa (fun hlt=> ?_) (fun hge=> ?_)
   ·have hlt:i<n.an.length:=by have:=of_decide_eq_true hlt;omega
    obtain⟨ad,ha,hcell,hin⟩:=h.an.fD hlt
    refine⟨by omega,by omega,ad,ha,_,hcell, ?_⟩
    have d5:decide (n.an.getD i 0<0)= !decide (0≤n.an.getD i 0):=gw (by omega)
    have d6:decide ((1099511627776:Int)<n.an.getD i 0)= !decide (n.an.getD i 0≤1099511627776):=gw (by omega)
    rw[d5,d6]
    have hok:okS n.size n.an i=((decide (0≤n.an.getD i 0)&&decide (n.an.getD i 0≤1099511627776))&& !(decide (n.size≤(i:Int)*16)&& !decide (n.an.getD i 0=0))):=rfl
    refine ai (fun q V1=>q.1=(!okS n.size n.an i)∧V1=V') (aa (fun hc=>⟨?_,rfl⟩) (fun hc=>aa (fun hz=>⟨au (by omega) (by omega), ?_,rfl⟩) (fun hz=>⟨?_,rfl⟩))) ?_
    ·rw[hok]
     cases hA:decide (0≤n.an.getD i 0)<;>cases hB:decide (n.an.getD i 0≤1099511627776)<;>rw[hA,hB]at hc<;>first | rfl | cases hc
    ·rw[hok,aM hz]
     cases hA:decide (0≤n.an.getD i 0)<;>cases hB:decide (n.an.getD i 0≤1099511627776)<;>rw[hA,hB]at hc<;>first | (cases decide (n.size≤(i:Int)*16)<;>rfl) | cases hc
    ·rw[hok,aD hz]
     cases hA:decide (0≤n.an.getD i 0)<;>cases hB:decide (n.an.getD i 0≤1099511627776)<;>rw[hA,hB]at hc<;>first | (cases decide (n.size≤(i:Int)*16)<;>rfl) | cases hc
    ·rintro⟨q,⟨⟩⟩ V2 ⟨h1,hV⟩
     simp only at h1 hV
     subst h1 hV
     dsimp only [unc]
     refine aa (fun hq=>⟨?_,rfl⟩) (fun hq=>⟨au (by omega) (by omega),⟨rfl,i+1,by omega,by omega,iy hall (by simpa using hq)⟩,by omega⟩)
     unfold fG
     rw[iz hlt (by simpa using hq),Bool.and_false]
   ·have hge:i=n.an.length:=by have:=of_decide_eq_false hge;omega
    subst hge
    refine⟨?_,rfl⟩
    unfold fG;rw[hb,hall];rfl
 ·have h0:¬n.kind=0:=of_decide_eq_false h0
  have h1:¬n.kind=1:=of_decide_eq_false h1
  have h2:¬n.kind=2:=of_decide_eq_false h2
  unfold bA;rw[if_neg h0,if_neg h1,if_neg h2]
theorem xP {n:Int} (h:inI .i64 n):IntKind.wrap .i64 n=n:=by
 have h:=fj.1 h
 unfold IntKind.wrap
 simp [IntKind.signed,IntKind.bits]
 omega
def nh (t:Tre) (i:Nat):Bool:=bA (t.getD i default)&&(ag t i).all fun e=> !decide (ak t e.node.toNat=0)
abbrev aL (t:Tre) (a:Int):Nat:=(dh t).countP (fun(x:Ent)=>decide (x.node=a))
noncomputable def onT (t:Tre) (i:Nat):Bool:=iV t 0 i&&decide (ak t i=2)
noncomputable def nj (t:Tre) (i:Nat):Bool:=
 if ak t i=2 then onT t i&&(decide (i=0) ||decide (((aL t i:Nat):Int)=1))else if ak t i=1 then decide ((t.getD i default).links=(aL t i:Nat))else true
noncomputable def iA (t:Tre):Bool:=decide (t.length=12)&&decide (ak t 0=2)&&(List.range 12).all (nh t)&&b6 (bC t)&&(List.range 12).all (nj t)
theorem fI {n:Nod} (h:bA n=true):n.kind=0∨n.kind=1∨n.kind=2:=by
 unfold bA at h
 split at h
 ·rename_i hk;exact .inl hk
 ·split at h
  ·rename_i hk;exact .inr (.inl hk)
  ·split at h
   ·rename_i hk;exact .inr (.inr hk)
   ·cases h
theorem Aa (t:Tre):iA t=aY t:=by
 by_cases h12:t.length=12
 rotate_left
 ·unfold iA aY;rw[decide_eq_false h12];rfl
 by_cases hk:ak t 0=2
 rotate_left
 ·unfold iA aY;rw[decide_eq_false hk];simp
 by_cases hall:t.all bA=true
 rotate_left
 ·unfold iA aY
  have h1:t.all bA=false:=by simpa using hall
  have h2:(List.range 12).all (nh t)=false:=by
   rw[List.all_eq_false]at h1 ⊢
   obtain⟨n,hn,hm⟩:=h1
   obtain⟨i,hi,rfl⟩:=List.getElem_of_mem hn
   refine⟨i,List.mem_range.2 (by omega), ?_⟩
   unfold nh
   rw[aB hi]
   simp [hm]
  rw[h1,h2];simp
 have hall' :∀n∈t,bA n=true:=List.all_eq_true.1 hall
 have hmem:∀i,i<12→t.getD i default∈t:=fun i hi=>by rw[aB (by omega)];exact List.getElem_mem _
 have hmn:∀i,i<12→bA (t.getD i default)=true:=fun i hi=>hall' _ (hmem i hi)
 unfold iA aY
 rw[decide_eq_true h12,decide_eq_true hk,hall]
 simp only [Bool.true_and,Bool.and_true]
 have hcnt:∀i,i<12→(cnt 12 (dh t)).getD i 0=(aL t i:Nat):=fun i hi=>k8 12 _ hi
 have hin:∀(i:Nat) (e:Ent),i<12→e∈ag t i→e∈dh t:=fun i e hi he=>List.mem_flatMap.2 ⟨_,hmem i hi,he⟩
 rw[Bool.eq_iff_iff]
 simp only [Bool.and_eq_true,List.all_eq_true,List.mem_range]
 constructor
 ·rintro⟨⟨hN,hA⟩,hH⟩
  refine⟨fun i hi=> ?_,hA⟩
  have h2:=hH i hi
  rw[hcnt i hi]
  unfold nj at h2
  unfold gB
  split at h2
  ·rename_i hk2
   rw[if_pos hk2]
   unfold onT at h2
   simp only [Bool.and_eq_true]at h2
   rw[h2.1.1,Bool.true_and, ←h2.2]
   congr 1
   exact decide_eq_decide.2 (by omega)
  ·rename_i hk2
   rw[if_neg hk2]
   split at h2
   ·rename_i hk1;rw[if_pos hk1];exact h2
   ·rename_i hk1
    rw[if_neg hk1]
    have hk0:ak t i=0:=by
     rcases fI (hmn i hi)with h | h | h
     ·exact h
     ·exact absurd h hk1
     ·exact absurd h hk2
    apply decide_eq_true
    have:aL t i=0:=by
     rw[List.countP_eq_zero]
     intro e he hd
     have hd:=of_decide_eq_true hd
     obtain⟨n,hn,hen⟩:=List.mem_flatMap.1 he
     obtain⟨j,hj,rfl⟩:=List.getElem_of_mem hn
     have hj12:j<12:=by omega
     have h3:=hN j hj12
     unfold nh at h3
     simp only [Bool.and_eq_true,List.all_eq_true]at h3
     have h4:=h3.2 e (by show e∈(t.getD j default).az;rw[aB hj];exact hen)
     rw[hd,Int.toNat_natCast]at h4
     simp [hk0]at h4
    omega
 ·rintro⟨hH,hA⟩
  have hB:∀i,i<12→gB (t.getD i default) i (aL t i:Nat) (iV t 0 i)=true:=fun i hi=>by rw[←hcnt i hi];exact hH i hi
  refine⟨⟨fun i hi=> ?_,hA⟩,fun i hi=> ?_⟩
  ·unfold nh
   rw[hmn i hi,Bool.true_and,List.all_eq_true]
   intro e he
   have hnode:=fo (bV (hmn i hi)) he
   obtain⟨q,hq⟩:∃q:Nat,e.node=q:=⟨e.node.toNat,by omega⟩
   rw[hq,Int.toNat_natCast]
   have hb:=hB q (by omega)
   by_cases hk0:ak t q=0
   ·exfalso
    unfold gB at hb
    have hk0' :(t.getD q default).kind=0:=hk0
    rw[if_neg (by omega),if_neg (by omega)]at hb
    have hb:=of_decide_eq_true hb
    have:0<aL t q:=List.countP_pos_iff.2 ⟨e,hin i e hi he,decide_eq_true hq⟩
    omega
   ·rw[decide_eq_false hk0];rfl
  ·have hb:=hB i hi
   unfold gB at hb
   unfold nj
   split at hb
   ·rename_i hk2
    rw[if_pos (show ak t i=2 from hk2)]
    simp only [Bool.and_eq_true]at hb
    unfold onT
    rw[hb.1,decide_eq_true (show ak t i=2 from hk2),Bool.true_and,Bool.true_and, ←hb.2]
    congr 1
    exact decide_eq_decide.2 (by omega)
   ·rename_i hk2
    rw[if_neg (show ¬ak t i=2 from hk2)]
    split at hb
    ·rename_i hk1;rw[if_pos (show ak t i=1 from hk1)];exact hb
    ·rename_i hk1;rw[if_neg (show ¬ak t i=1 from hk1)]
def vJ (V:View) (r:Nat) (l:List Int):Prop:=∃es cl,V.see r=some (.map es cl)∧rQ es.toList∧∀k,(vlk k es.toList).getD (.int .i64 0)= .int .i64 (if k∈l then 1 else 0)
theorem vJ.put {V:View} {r:Nat} {l:List Int} (h:vJ V r l) (x:Int):∃es cl f,V.see r=some (.map es cl)∧ei (.int .i64 x) es.toList 0=some f∧found (.int .i64 0) f= .int .i64 (if x∈l then 1 else 0)∧vJ (V.put r (j8 es cl f (.int .i64 x) (.int .i64 1))) r (l++ [x]):=by
 obtain⟨es,cl,hs,hk,hv⟩:=h
 obtain⟨f,hf,hfd,es',cl',hm,hk',hv'⟩:=qv (cl:=cl) (k:=x) (v:= .int .i64 1) hk
 refine⟨es,cl,f,hs,hf,by rw[hfd,hv],es',cl',by rw[View.ah,hm],hk',fun k=> ?_⟩
 rw[hv']
 by_cases e:k=x
 ·rw[if_pos e,if_pos (by simp [e])];rfl
 ·rw[if_neg e,hv]
  by_cases hm:k∈l
  ·rw[if_pos hm,if_pos (by simp [hm])]
  ·rw[if_neg hm,if_neg (by simp [hm,e])]
theorem oS {l:List Int} {x:Int} (h:b6 l=true):b6 (l++ [x])= !(!decide (x=0)&&decide (x∈l)):=by
 rw[mc h,l9,if_pos rfl]
 have:decide (1<l.count x+1)=decide (x∈l):=decide_eq_decide.2 (by rw[←List.count_pos_iff];omega)
 rw[this]
theorem jO {t:Tre} (h:(decide (t.length=12)&&decide (ak t 0=2)&&(List.range 12).all (nh t)&&b6 (bC t))=false∨(List.range 12).all (nj t)=false):iA t=false:=by
 unfold iA
 rcases h with h | h
 ·rw[h];rfl
 ·rw[h,Bool.and_false]
theorem qx {t:Tre} {i:Nat} (hi:i<12) (h:nh t i=false):iA t=false:=jO (.inl (by rw[iz hi h];simp))
theorem uo {t:Tre} (h:b6 (bC t)=false):iA t=false:=jO (.inl (by rw[h];simp))
theorem dK {s:Sl} {t:Tre} {V:View} (h:SlR V s t):af Tryz.prog 18 ⟨[aZ s]⟩ V fun r V' =>r= .bool (aY t)∧V.Le V' :=by
 rw[←Aa]
 refine LM ?_
 unfold Gn
 have hn:=h.n
 refine fun _=>ai (fun q V' =>q.1=(!(decide (t.length=12)&&decide (ak t 0=2)))∧V' =V) (aa (fun hb=>⟨?_,rfl⟩) (fun hb=> ?_)) ?_
 ·have hb:¬t.length=12:=by have:=of_decide_eq_false (aM hb);omega
  rw[decide_eq_false hb];rfl
 ·have hb:t.length=12:=by have:=of_decide_eq_true (aD hb);omega
  obtain⟨ad,sq,en,ha,hc,hN⟩:=h.bO (i:=0) (by omega)
  refine⟨by omega,by omega,ad,ha,_,av hc 0 rfl, ?_,rfl⟩
  rw[decide_eq_true hb];rfl
 rintro⟨q,⟨⟩⟩ V1 ⟨h1,hV⟩
 simp only at h1 hV
 subst h1 hV
 dsimp only [unc]
 refine aa (fun hb=>⟨?_,View.Le.refl _⟩) (fun hb r hr=> ?_)
 ·have hb:=aM hb
  rw[jO (.inl (by rw[hb];rfl))]
 have hb:=aD hb
 simp only [Bool.and_eq_true,decide_eq_true_eq]at hb
 obtain⟨h12,hk0⟩:=hb
 have hfr:=View.ax hr
 refine bh (k:= .int .i64) (fun(x:Int) V' =>∃i:Nat,x=i∧i≤12∧(List.range i).all (nh t)=true∧b6 (bC (t.take i))=true∧vJ V' r (bC (t.take i))∧V1.Le (V'.bt r)) (fun(x:Int) _=>12-x.toNat) ⟨0,rfl,by omega,rfl,rfl,⟨_,_,View.ah _ _ _,fun e he=>(by cases he),fun k=>rfl⟩,aT hfr (View.Le.refl _)⟩ ?_
 rintro(x:Int) V2 ⟨i,rfl,hi,hall,hap,hS2,hV2⟩
 have hV2' :V1.Le V2:=hV2.trans (View.c6 _ _)
 refine aa (fun hlt=> ?_) (fun hge=> ?_)
 ·have hlt:i<12:=by have:=of_decide_eq_true hlt;omega
  obtain⟨ad,sq,en,ha,hc,hN⟩:=h.bO (i:=i) (by omega)
  refine⟨by omega,by omega,ad,ha,_,_,_,sq,en,aV hV2' hc,fun _=>(pK (hN.mono hV2')).mono ?_⟩
  rintro r1 V3 ⟨rfl,rfl⟩
  refine⟨_,rfl,aa (fun hb=>⟨?_,hV2'⟩) (fun hb=> ?_)⟩
  ·rw[qx hlt (by unfold nh;rw[aM hb];rfl)]
  have hm:=aD hb
  have hen:=hN.az.n
  have hsn:=hN.an.n
  have hs5:=gZ hm
  have he10:=ey (bV hm)
  refine bh (k:= .int .i64) (fun(x:Int) V' =>V' =V3∧∃k:Nat,x=k∧k≤(ag t i).length∧((ag t i).take k).all (fun e=> !decide (ak t e.node.toNat=0))=true) (fun(x:Int) _=>(ag t i).length-x.toNat) ⟨rfl,0,rfl,by omega,rfl⟩ ?_
  rintro(x:Int) V4 ⟨rfl,k,rfl,hk,hek⟩
  have hlene:(ag t i).length=(t.getD i default).az.length:=rfl
  refine aa (fun hltk=> ?_) (fun hge=> ?_)
  ·have hltk:k<(t.getD i default).az.length:=by have:=of_decide_eq_true hltk;omega
   obtain⟨ad,ha,hc,_,_⟩:=(hN.az.mono hV2').lZ hltk
   have hxm:(t.getD i default).az.getD k default∈(t.getD i default).az:=by rw[aB hltk];exact List.getElem_mem _
   have hq:=fo (bV hm) hxm
   obtain⟨q,hqe⟩:∃q:Nat,((t.getD i default).az.getD k default).node=q:=⟨((t.getD i default).az.getD k default).node.toNat,by omega⟩
   obtain⟨ad4,sq4,en4,ha4,hc4,_⟩:=(h.mono hV2').bO (i:=q) (by omega)
   refine⟨by omega,by omega,ad,ha,_,_,hc,fun _=>⟨by omega,by omega,ad4,ha4,(t.getD q default).kind, ?_,aa (fun hz=>⟨?_,hV2'⟩) (fun hz=>⟨au (by omega) (by omega),⟨rfl,k+1,by omega,by omega, ?_⟩,by omega⟩)⟩⟩
   ·rw[hqe];exact av hc4 0 rfl
   ·have hz:=of_decide_eq_true hz
    rw[qx hlt]
    unfold nh
    rw[Bool.and_eq_false_iff]
    right
    rw[List.all_eq_false]
    exact⟨_,hxm,by rw[hqe,Int.toNat_natCast,decide_eq_true (show ak t q=0 from hz)];simp⟩
   ·have hz:=of_decide_eq_false hz
    rw[List.take_add_one,List.getElem?_eq_getElem (show k<(ag t i).length from hltk),List.all_append,hek]
    have e1:(ag t i)[k]'hltk=(t.getD i default).az.getD k default:=(aB hltk).symm
    show(true&& [(ag t i)[k]'hltk].all _)=true
    rw[e1]
    simp only [List.all_cons,List.all_nil,hqe,Int.toNat_natCast,Bool.true_and,Bool.and_true]
    rw[decide_eq_false (show ¬ak t q=0 from hz)];rfl
  ·have hge:k=(ag t i).length:=by have:=of_decide_eq_false hge;omega
   subst hge
   rw[List.take_length]at hek
   have hnk:nh t i=true:=by unfold nh;rw[hm,hek];rfl
   have hpre:=oR t (i+1)
   rw[jm (by omega)]at hpre
   have htake:=jm (t:=t) (i:=i) (by omega)
   generalize hnd:t.getD i default=nd at*
   refine bh (k:= .int .i64) (fun(x:Int) V' =>∃k:Nat,x=k∧k≤nd.an.length∧vJ V' r (bC (t.take i)++nd.an.take k)∧b6 (bC (t.take i)++nd.an.take k)=true∧V1.Le (V'.bt r)) (fun(x:Int) _=>nd.an.length-x.toNat) ⟨0,rfl,by omega,by simpa using hS2,by simpa using hap,hV2⟩ ?_
   rintro(x:Int) V5 ⟨k,rfl,hk,hS5,hap5,hV5⟩
   have hV5' :V1.Le V5:=hV5.trans (View.c6 _ _)
   refine aa (fun hltk=> ?_) (fun hge=> ?_)
   ·have hltk:k<nd.an.length:=by have:=of_decide_eq_true hltk;omega
    obtain⟨ad,ha,hc,_⟩:=(hN.an.mono hV5').fD hltk
    have etk:nd.an.take (k+1)=nd.an.take k++ [nd.an.getD k 0]:=by rw[List.take_add_one,List.getElem?_eq_getElem hltk,bY hltk];rfl
    have hpre2:bC (t.take i)++nd.an.take (k+1)<+:bC t:=by
     refine List.IsPrefix.trans ?_ hpre
     rw[List.prefix_append_right_inj]
     exact List.take_prefix _ _
    rw[etk, ←List.append_assoc]at hpre2
    refine⟨by omega,by omega,ad,ha,_,hc, ?_⟩
    generalize nd.an.getD k 0=x at*
    obtain⟨es,cl,f,hse,hmf,hfd,hput⟩:=hS5.put x
    refine ai (fun q V' =>q.1=(!b6 (bC (t.take i)++nd.an.take k++ [x]))∧V' =V5) (aa (fun hx0=>⟨trivial,es,cl,f,hse,hmf,_,hfd, ?_,rfl⟩) (fun hx0=>⟨?_,rfl⟩)) ?_
    ·rw[oS hap5,hx0,Bool.true_and,Bool.not_not]
     by_cases hm:x∈bC (t.take i)++nd.an.take k
     ·rw[if_pos hm,decide_eq_true hm];rfl
     ·rw[if_neg hm,decide_eq_false hm];rfl
    ·rw[oS hap5,hx0];rfl
    ·rintro⟨q,⟨⟩⟩ V6 ⟨h1,hV⟩
     simp only at h1 hV
     subst h1 hV
     dsimp only [unc]
     refine aa (fun hb=>⟨?_,hV5'⟩) (fun hb=>⟨trivial,r,es,cl,f,rfl,hse,hmf,au (by omega) (by omega),⟨k+1,by omega,by omega, ?_, ?_,hV5.trans (aU r _)⟩,by omega⟩)
     ·rw[uo (ng hpre2 (aM hb))]
     ·rw[etk, ←List.append_assoc];exact hput
     ·rw[etk, ←List.append_assoc];exact aD hb
   ·have hge:k=nd.an.length:=by have:=of_decide_eq_false hge;omega
    subst hge
    rw[List.take_length]at hS5 hap5
    exact⟨au (by omega) (by omega),⟨i+1,by omega,by omega,iy hall hnk,by rw[htake];exact hap5,by rw[htake];exact hS5,hV5⟩,by omega⟩
 ·have hge:i=12:=by have:=of_decide_eq_false hge;omega
  subst hge
  rw[List.take_of_length_le (by omega)]at hap
  have hnod:∀i,i<12→nh t i=true:=fun i hi=>List.all_eq_true.1 hall i (List.mem_range.2 hi)
  have hallN:∀n∈t,bA n=true:=fun n hn=>by
   obtain⟨j,hj,rfl⟩:=List.getElem_of_mem hn
   have:=hnod j (by omega)
   unfold nh at this
   rw[aB hj]at this
   simp only [Bool.and_eq_true]at this
   exact this.1
  have hR:iA t=(List.range 12).all (nj t):=by
   unfold iA
   rw[decide_eq_true h12,decide_eq_true hk0,hall,hap];rfl
  rw[hR]
  have hE:∀n∈t,n.az.length≤10:=fun n hn=>ey (bV (hallN n hn))
  refine(qw (a:=0) (h.mono hV2') h12 hallN (by omega) hk0).mono ?_
  rintro r1 V3 ⟨y,rfl,hy,hV3⟩
  have hV13:=hV2'.trans hV3
  refine⟨y,rfl, ?_⟩
  refine bh (k:= .int .i64) (fun(x:Int) V' =>V' =V3∧∃i:Nat,x=i∧i≤12∧(List.range i).all (nj t)=true) (fun(x:Int) _=>12-x.toNat) ⟨rfl,0,rfl,by omega,rfl⟩ ?_
  rintro(x:Int) V4 ⟨rfl,i,rfl,hi,hP⟩
  refine aa (fun hlt=> ?_) (fun hge=> ?_)
  ·have hlt:i<12:=by have:=of_decide_eq_true hlt;omega
   obtain⟨ad,sq,en,ha,hc,hN⟩:=(h.mono hV13).bO (i:=i) (by omega)
   refine⟨by omega,by omega,ad,ha,_,_,_,sq,en,hc,fun _=>(C6 (h.mono hV13) h12 hE).mono ?_⟩
   rintro r1 V5 ⟨rfl,rfl⟩
   refine⟨_,rfl, ?_⟩
   have hyn:=hy.n
   simp only [List.length_map,List.length_range]at hyn
   refine ai (fun q V' =>q.1=(!nj t i)∧V' =V5) (aa (fun h2=> ?_) (fun h2=>⟨?_,rfl⟩)) ?_
   ·have h2:ak t i=2:=of_decide_eq_true h2
    obtain⟨ad3,hx',ha3,hc3⟩:=hy.bool (x:=(i:Int)) (by omega) (by omega)
    have e3:((List.range 12).map fun j=>iV t 0 j&&decide (ak t j=2))[((i:Int)).toNat]=onT t i:=by simp [onT]
    rw[e3]at hc3
    refine⟨by omega,by omega,ad3,ha3,_,hc3, ?_,rfl⟩
    unfold nj
    rw[if_pos h2]
    have h2' :(t.getD i default).kind=2:=h2
    rw[decide_eq_false (show ¬(t.getD i default).kind=1 by omega)]
    have d1:decide ((0:Int)<(i:Int))= !decide (i=0):=gw (by omega)
    rw[d1]
    cases onT t i<;>cases decide (i=0)<;>cases decide (((aL t i:Nat):Int)=1)<;>rfl
   ·have h2:¬ak t i=2:=of_decide_eq_false h2
    unfold nj
    rw[if_neg h2]
    by_cases h1:ak t i=1
    ·rw[if_pos h1,decide_eq_true (show(t.getD i default).kind=1 from h1)];rfl
    ·rw[if_neg h1,decide_eq_false (show ¬(t.getD i default).kind=1 from h1)];rfl
   ·rintro⟨q,⟨⟩⟩ V6 ⟨h1,hV⟩
    simp only at h1 hV
    subst h1 hV
    dsimp only [unc]
    refine aa (fun hb=>⟨?_,hV13⟩) (fun hb=>⟨au (by omega) (by omega),⟨rfl,i+1,by omega,by omega,iy hP (aD hb)⟩,by omega⟩)
    rw[iz hlt (aM hb)]
  ·have hge:i=12:=by have:=of_decide_eq_false hge;omega
   subst hge
   exact⟨by rw[hP],hV13⟩
theorem sQ {s:Sl} {l:List Int} {V:View} (h:SlR V s l) (hl:l.length≤1000):af Tryz.prog 56 ⟨[.slice s.a s.n s.c]⟩ V fun r V' =>∃x:Sl,r= .slice x.a x.n x.c∧SlR V' x l∧V.Le V' :=by
 refine Bq ?_
 unfold zj
 refine aa (fun hnil=> ?_) (fun _ r hr=> ?_)
 ·have ha:s.a=none:=Option.isNone_iff_eq_none.1 hnil
  have hl0:l= []:=by
   cases l with
   | nil=>rfl
   | cons b l=>obtain⟨ad,vs,h1,_⟩:=h.get 0 (by simp);rw[ha]at h1;cases h1
  subst hl0
  exact⟨⟨none,0,0⟩,rfl,SlR.nil _ _ _,View.Le.refl V⟩
 ·have hfr:V.see r=none:=View.ax hr
  refine ew (α:=Int) (V0:=V) (l:= []) (m:=l) rfl (cs:= []) ⟨rfl,Nat.le_refl _,Nat.zero_le _,.inr ⟨r,[],rfl,View.ah _ _ _,rfl,rfl⟩⟩ rfl (h.mono ?_) ?_ (by simp;omega) (by simp;omega) ?_
  ·exact aT hfr (View.Le.refl _)
  ·exact aT hfr (View.Le.refl _)
  ·intro z V' cs' hb hr' hle
   exact⟨z,rfl,hb.slR hr' (View.aj _ _),hle.trans (View.aj _ _)⟩
theorem sR {s:Sl} {l:List Ent} {V:View} (h:SlR V s l) (hl:l.length≤1000):af Tryz.prog 119 ⟨[.slice s.a s.n s.c]⟩ V fun r V' =>∃x:Sl,r= .slice x.a x.n x.c∧SlR V' x l∧V.Le V' :=by
 refine J4 ?_
 unfold BO
 refine aa (fun hnil=> ?_) (fun _ r hr=> ?_)
 ·have ha:s.a=none:=Option.isNone_iff_eq_none.1 hnil
  have hl0:l= []:=by
   cases l with
   | nil=>rfl
   | cons b l=>obtain⟨ad,vs,h1,_⟩:=h.get 0 (by simp);rw[ha]at h1;cases h1
  subst hl0
  exact⟨⟨none,0,0⟩,rfl,SlR.nil _ _ _,View.Le.refl V⟩
 ·have hfr:V.see r=none:=View.ax hr
  refine ew (α:=Ent) (V0:=V) (l:= []) (m:=l) rfl (cs:= []) ⟨rfl,Nat.le_refl _,Nat.zero_le _,.inr ⟨r,[],rfl,View.ah _ _ _,rfl,rfl⟩⟩ rfl (h.mono ?_) ?_ (by simp;omega) (by simp;omega) ?_
  ·exact aT hfr (View.Le.refl _)
  ·exact aT hfr (View.Le.refl _)
  ·intro z V' cs' hb hr' hle
   exact⟨z,rfl,hb.slR hr' (View.aj _ _),hle.trans (View.aj _ _)⟩
def fJ (n:Nod):Prop:=n.an.length≤1000∧n.az.length≤1000
theorem jP {n:Nod} (h:bA n=true):fJ n:=by
 have a:=gZ h
 have b:=ey (bV h)
 exact⟨by omega,by omega⟩
theorem C7 {n:Nod} {s e:Sl} {V:View} (h:dJ V s e n) (hl:fJ n):af Tryz.prog 71 ⟨[eN n s e]⟩ V fun r V' =>∃s' e' :Sl,r=eN n s' e' ∧dJ V' s' e' n∧V.Le V' :=by
 refine Hh ?_
 unfold Bs
 refine fun _ _=>⟨trivial,V,View.Le.refl _,(sQ h.an hl.1).mono ?_⟩
 rintro r V1 ⟨x,rfl,hx,hV1⟩
 refine⟨x,rfl,hV1,(sR (h.az.mono hV1) hl.2).mono ?_⟩
 rintro r V2 ⟨y,rfl,hy,hV2⟩
 exact⟨y,rfl,x,y,rfl,⟨h.kind,h.links,h.size,hx.mono hV2,hy⟩,hV1.trans hV2⟩
theorem vK {n:Nod} {s e:Sl} {V:View} (h:dJ V s e n) (hl:fJ n):af Tryz.prog 123 ⟨[eN n s e]⟩ V fun r V' =>∃s' e' :Sl,r=eN n s' e' ∧dJ V' s' e' n∧V.Le V' :=by
 refine BS ?_
 unfold xN
 have l1:=hl.1
 have l2:=hl.2
 refine fun _ _=>⟨trivial,V,View.Le.refl _, ?_⟩
 refine ew (α:=Int) (V0:=V) (l:= []) (m:=n.an) rfl (cs:= []) (Buf.nil _ _ _) rfl h.an (View.Le.refl _) (by simp;omega) (by simp;omega) ?_
 intro x V1 cs hb hr hV1
 have hV1' :=hV1.trans (View.aj _ _)
 refine⟨hV1', ?_⟩
 refine ew (α:=Ent) (V0:=V1) (l:= []) (m:=n.az) rfl (cs:= []) (Buf.nil _ _ _) rfl (h.az.mono hV1') (View.Le.refl _) (by simp;omega) (by simp;omega) ?_
 intro y V2 cs2 hb2 hr2 hV2
 have hV2' :=hV2.trans (View.aj _ _)
 exact⟨x,y,rfl,⟨h.kind,h.links,h.size,(hb.slR hr (View.aj _ _)).mono hV2',hb2.slR hr2 (View.aj _ _)⟩,hV1'.trans hV2'⟩
def cD (V0 V:View) (x:Sl) (t:Tre):Prop:=∃cs,Buf V x 63 5 cs∧aR (V.minus x) cs t∧V0.Le (V.minus x)
theorem cD.slR {V0 V:View} {x:Sl} {t:Tre} (h:cD V0 V x t):SlR V x t:=by
 obtain⟨cs,hb,hr,_⟩:=h
 exact hb.slR hr (View.aj _ _)
theorem cD.le {V0 V:View} {x:Sl} {t:Tre} (h:cD V0 V x t):V0.Le V:=by
 obtain⟨cs,hb,hr,hle⟩:=h
 exact hle.trans (View.aj _ _)
theorem cD.mono {V0 V V' :View} {x:Sl} {t:Tre} (h:cD V0 V x t) (hV:V.Le V'):cD V0 V' x t:=by
 obtain⟨cs,hb,hr,hle⟩:=h
 have:=aN hV x
 exact⟨cs,hb.mono hV,hr.mono this,hle.trans this⟩
theorem cD.from {U V0 V:View} {x:Sl} {t:Tre} (h:cD V0 V x t) (hV:U.Le V0):cD U V x t:=by
 obtain⟨cs,hb,hr,hle⟩:=h
 exact⟨cs,hb,hr,hV.trans hle⟩
theorem cD.set {V0 V:View} {x:Sl} {t:Tre} (h:cD V0 V x t) {i:Nat} (hi:i<t.length) {n:Nod} {vs:List Value} (hn:∀cs,Buf V x 63 5 cs→Rep.rep (V.minus x) vs n):
  ∃ad,x.a=some ad∧ay V (ad.add (i*5)) 5∧cD V0 (V.sets (ad.add (i*5)) vs) x (t.set i n):=by
 obtain⟨cs,hb,hr,hle⟩:=h
 have hd:=hn cs hb
 have h5:vs.length=5:=Rep.len hd
 obtain⟨ad,ha,h1,h2,h3,h4⟩:=hb.FF (α:=Nod) hr hd hi
 rw[h5]at h1
 exact⟨ad,ha,h1,_,h2,h3,hle.trans h4⟩
theorem cD.ji {V0 V:View} {x:Sl} {t:Tre} (h:cD V0 V x t) {i:Nat} (hi:i<t.length):
  ∃ad sq en,x.a=some ad∧aq V (ad.add (i*5)) [.int .i64 (t.getD i default).kind,.int .i64 (t.getD i default).links,.int .i64 (t.getD i default).size,.slice sq.a sq.n sq.c,.slice en.a en.n en.c]∧dJ (V.minus x) sq en (t.getD i default)∧
   (∀k n,inI .i64 k→n= { t.getD i default with links:=k } →ay V ((ad.add (i*5)).add 1) 1∧cD V0 (V.sets ((ad.add (i*5)).add 1) [.int .i64 k]) x (t.set i n))∧
   (∀k n,inI .i64 k→n= { t.getD i default with size:=k } →ay V ((ad.add (i*5)).add 2) 1∧cD V0 (V.sets ((ad.add (i*5)).add 2) [.int .i64 k]) x (t.set i n))∧
   (∀q l n,SlR (V.minus x) q l→n= { t.getD i default with an:=l } →ay V ((ad.add (i*5)).add 3) 1∧cD V0 (V.sets ((ad.add (i*5)).add 3) [.slice q.a q.n q.c]) x (t.set i n))∧
   (∀q l n,SlR (V.minus x) q l→n= { t.getD i default with az:=l } →ay V ((ad.add (i*5)).add 4) 1∧cD V0 (V.sets ((ad.add (i*5)).add 4) [.slice q.a q.n q.c]) x (t.set i n)):=by
 obtain⟨cs,hb,hr,hle⟩:=h
 obtain⟨ad,vs,ha,hc,⟨sq,en,rfl,h1,h2,h3,h4,h5⟩,hset⟩:=hb.ji (α:=Nod) hr hi
 have e0:t.getD i default=t[i]:=aB hi
 rw[e0]
 refine⟨ad,sq,en,ha,hc,⟨h1,h2,h3,h4,h5⟩,fun k n hk hn=> ?_,fun k n hk hn=> ?_,fun q l n hq hn=> ?_,fun q l n hq hn=> ?_⟩
 ·obtain⟨a,b,c,d⟩:=hset 1 (.int .i64 k) n (by decide) ⟨sq,en,by rw[hn];rfl,by rw[hn];exact h1,by rw[hn];exact hk,by rw[hn];exact h3,by rw[hn];exact h4,by rw[hn];exact h5⟩
  exact⟨a,_,b,c,hle.trans d⟩
 ·obtain⟨a,b,c,d⟩:=hset 2 (.int .i64 k) n (by decide) ⟨sq,en,by rw[hn];rfl,by rw[hn];exact h1,by rw[hn];exact h2,by rw[hn];exact hk,by rw[hn];exact h4,by rw[hn];exact h5⟩
  exact⟨a,_,b,c,hle.trans d⟩
 ·obtain⟨a,b,c,d⟩:=hset 3 (.slice q.a q.n q.c) n (by decide) ⟨q,en,by rw[hn];rfl,by rw[hn];exact h1,by rw[hn];exact h2,by rw[hn];exact h3,by rw[hn];exact hq,by rw[hn];exact h5⟩
  exact⟨a,_,b,c,hle.trans d⟩
 ·obtain⟨a,b,c,d⟩:=hset 4 (.slice q.a q.n q.c) n (by decide) ⟨sq,q,by rw[hn];rfl,by rw[hn];exact h1,by rw[hn];exact h2,by rw[hn];exact h3,by rw[hn];exact h4,by rw[hn];exact hq⟩
  exact⟨a,_,b,c,hle.trans d⟩
theorem eS {s:Sl} {t:Tre} {V:View} (h:SlR V s t) (hl:t.length≤1000∧∀n∈t,fJ n):af Tryz.prog 38 ⟨[aZ s]⟩ V fun r V' =>∃x:Sl,r=aZ x∧cD V V' x t:=by
 refine GI ?_
 unfold Bp
 have hn:=h.n
 refine fun _ _ _=>di (k:= .int .i64) (l:= .sl) (fun(j:Int) (x:Sl) V' =>∃i:Nat,j=i∧i≤t.length∧cD V V' x (t.take i)) (fun(j:Int) _ _=>t.length-j.toNat) ⟨0,rfl,by omega,[],Buf.nil _ _ _,rfl,View.Le.refl _⟩ ?_
 rintro(j:Int) (x:Sl) V1 ⟨i,rfl,hi,hO⟩
 have hV1:=hO.le
 refine aa (fun hlt=> ?_) (fun hge=> ?_)
 ·have hlt:i<t.length:=by have:=of_decide_eq_true hlt;omega
  obtain⟨cs,hb,hr,hle⟩:=hO
  obtain⟨ad,sq,en,ha,hc,hN⟩:=(h.mono hle).bO hlt
  have hmem:t.getD i default∈t:=by rw[aB hlt];exact List.getElem_mem _
  have hx:=hb.n_eq (α:=Nod) hr
  rw[List.length_take]at hx
  have hl1:=hl.1
  refine⟨by omega,by omega,ad,ha,_,_,_,sq,en,aV (View.aj _ _) hc,fun _=>⟨trivial,V,hV1,((C7 hN (hl.2 _ hmem)).kZ hb).mono ?_⟩⟩
  rintro r V2 ⟨U,⟨s',e',rfl,hN',hU⟩,hU2,hb2⟩
  have hle2:=hle.trans (hU.trans hU2)
  have hV2:=hle2.trans (View.aj _ _)
  refine⟨_,_,_,s',e',rfl,hV2,fun r hr1=>⟨hV2.trans (View.bB (View.ax hr1)), ?_⟩⟩
  refine pn (α:=Nod) rfl hb2 (hr.mono (hU.trans hU2)) (hN'.mono hU2).rep hle2 hr1 rfl (by show(x.n+1)*72≤_;omega) (by show x.n+1≤_;omega) ?_
  intro z V3 cs3 hb3 hr3 hle3
  refine⟨au (by omega) (by omega),⟨i+1,by omega,by omega,cs3,hb3, ?_,hle3⟩,by omega⟩
  rw[List.take_add_one,List.getElem?_eq_getElem hlt]
  rw[aB hlt]at hr3;exact hr3
 ·have hge:i=t.length:=by have:=of_decide_eq_false hge;omega
  subst hge
  rw[List.take_length]at hO
  exact⟨x,rfl,hO⟩
theorem cL {s:Sl} {t:Tre} {V:View} (h:SlR V s t) (hl:t.length≤1000∧∀n∈t,fJ n):af Tryz.prog 77 ⟨[aZ s]⟩ V fun r V' =>∃x:Sl,r=aZ x∧cD V V' x t:=by
 refine Hq ?_
 unfold Bt
 have hn:=h.n
 refine fun _ _ _=>di (k:= .int .i64) (l:= .sl) (fun(j:Int) (x:Sl) V' =>∃i:Nat,j=i∧i≤t.length∧cD V V' x (t.take i)) (fun(j:Int) _ _=>t.length-j.toNat) ⟨0,rfl,by omega,[],Buf.nil _ _ _,rfl,View.Le.refl _⟩ ?_
 rintro(j:Int) (x:Sl) V1 ⟨i,rfl,hi,hO⟩
 have hV1:=hO.le
 refine aa (fun hlt=> ?_) (fun hge=> ?_)
 ·have hlt:i<t.length:=by have:=of_decide_eq_true hlt;omega
  obtain⟨cs,hb,hr,hle⟩:=hO
  obtain⟨ad,sq,en,ha,hc,hN⟩:=(h.mono hle).bO hlt
  have hmem:t.getD i default∈t:=by rw[aB hlt];exact List.getElem_mem _
  have hx:=hb.n_eq (α:=Nod) hr
  rw[List.length_take]at hx
  have hl1:=hl.1
  refine⟨by omega,by omega,ad,ha,_,_,_,sq,en,aV (View.aj _ _) hc,fun _=>⟨trivial,V,hV1,((vK hN (hl.2 _ hmem)).kZ hb).mono ?_⟩⟩
  rintro r V2 ⟨U,⟨s',e',rfl,hN',hU⟩,hU2,hb2⟩
  have hle2:=hle.trans (hU.trans hU2)
  have hV2:=hle2.trans (View.aj _ _)
  refine⟨_,_,_,s',e',rfl,hV2,fun r hr1=>⟨hV2.trans (View.bB (View.ax hr1)), ?_⟩⟩
  refine pn (α:=Nod) rfl hb2 (hr.mono (hU.trans hU2)) (hN'.mono hU2).rep hle2 hr1 rfl (by show(x.n+1)*72≤_;omega) (by show x.n+1≤_;omega) ?_
  intro z V3 cs3 hb3 hr3 hle3
  refine⟨au (by omega) (by omega),⟨i+1,by omega,by omega,cs3,hb3, ?_,hle3⟩,by omega⟩
  rw[List.take_add_one,List.getElem?_eq_getElem hlt]
  rw[aB hlt]at hr3;exact hr3
 ·have hge:i=t.length:=by have:=of_decide_eq_false hge;omega
  subst hge
  rw[List.take_length]at hO
  exact⟨x,rfl,hO⟩
def kD (n:Nod):Nod:=if n.kind=1∧n.links=0 then Nod.zero else n
def cI (t:Tre):Tre:=t.map kD
noncomputable def me (t:Tre):Tre:=if aY t then cI t else []
theorem qy {t:Tre} (h:aY t=true):t.length=12∧∀n∈t,fJ n:=by
 unfold aY at h
 simp only [Bool.and_eq_true,decide_eq_true_eq,List.all_eq_true]at h
 exact⟨h.1.1.1.1,fun n hn=>jP (h.1.1.1.2 n hn)⟩
theorem mg (t:Tre) (i:Nat) (hi:i<t.length):cI (t.take (i+1))++t.drop (i+1)=(cI (t.take i)++t.drop i).set i (kD (t.getD i default)):=by
 have h1:(cI (t.take i)).length=i:=by simp [cI];omega
 rw[List.set_append_right _ _ (by omega),h1,Nat.sub_self, ←List.getElem_cons_drop (h:=hi),List.set_cons_zero,List.take_add_one,List.getElem?_eq_getElem hi,aB hi]
 have e:cI (t.take i++(some t[i]).toList)=cI (t.take i)++ [kD t[i]]:=List.map_append
 rw[e,List.append_assoc];rfl
theorem qz (t:Tre) (i:Nat) (hi:i<t.length):(cI (t.take i)++t.drop i).getD i default=t.getD i default:=by
 have h1:(cI (t.take i)).length=i:=by simp [cI];omega
 rw[List.getD_eq_getElem?_getD,List.getElem?_append_right (by omega),h1,Nat.sub_self,List.getElem?_drop,Nat.add_zero, ←List.getD_eq_getElem?_getD]
theorem C8 {W:View} :Rep.rep W [.int .i64 0,.int .i64 0,.int .i64 0,.slice none 0 0,.slice none 0 0] Nod.zero:=⟨⟨none,0,0⟩,⟨none,0,0⟩,rfl,zero64,zero64,zero64,SlR.nil _ _ _,SlR.nil _ _ _⟩
theorem xQ {V0 V:View} {x:Sl} {t:Tre} (hO:cD V0 V x t) (hl:t.length≤1000) {Q:Value→View→Prop} (hQ:∀V',cD V0 V' x (cI t)→Q (aZ x) V'):
  ∀F:zJ (c7 [K.int .i64]→Prop) [K.int .i64],(∀(j:Int) V J,F j V J=br (decide (j<(x.n:Int))) (0≤j∧j<(x.n:Int)∧∃ad,x.a=some ad∧∃x_2 x_3 x_4:Int,∃x_5 x_6:Sl,aq V (ad.add (j.toNat*5)) [.int .i64 x_2,.int .i64 x_3,.int .i64 x_4,.slice x_5.a x_5.n x_5.c,.slice x_6.a x_6.n x_6.c]∧∀_b:Nat,aA [] (fun J=>br (bif decide (x_2=1)then decide (x_3=0)else false) (0≤j∧j<(x.n:Int)∧∃ad,x.a=some ad∧ay V (ad.add (j.toNat*5)) 5∧J (V.sets (ad.add (j.toNat*5)) [.int .i64 0,.int .i64 0,.int .i64 0,.slice none 0 0,.slice none 0 0])) (J V)) fun V=>inI .i64 (j+1)∧J (j+1) V) (Q (aZ x) V))→
  aG [K.int .i64] F (0,()) V:=by
 intro F hF
 refine bh (k:= .int .i64) (fun(j:Int) V' =>∃i:Nat,j=i∧i≤t.length∧cD V0 V' x (cI (t.take i)++t.drop i)) (fun(j:Int) _=>t.length-j.toNat) ⟨0,rfl,by omega,by simpa [cI]using hO⟩ ?_
 rintro(j:Int) V1 ⟨i,rfl,hi,hO1⟩
 rw[hF]
 have hlen:(cI (t.take i)++t.drop i).length=t.length:=by simp [cI];omega
 have hxn:=hO1.slR.n
 refine aa (fun hlt=> ?_) (fun hge=> ?_)
 ·have hlt:i<t.length:=by have:=of_decide_eq_true hlt;omega
  obtain⟨ad,sq,en,ha,hc,hN⟩:=hO1.slR.bO (i:=i) (by omega)
  rw[qz t i hlt]at hc hN
  refine⟨by omega,by omega,ad,ha,_,_,_,sq,en,hc,fun _=> ?_⟩
  refine ai (fun _ V' =>cD V0 V' x (cI (t.take (i+1))++t.drop (i+1))) (aa (fun hb=> ?_) (fun hb=> ?_)) ?_
  ·have hb:(t.getD i default).kind=1∧(t.getD i default).links=0:=by
    cases h1:decide ((t.getD i default).kind=1)with
    | true=>rw[h1]at hb;exact⟨of_decide_eq_true h1,of_decide_eq_true hb⟩
    | false=>rw[h1]at hb;cases hb
   obtain⟨ad2,ha2,h1,h2⟩:=hO1.set (i:=i) (n:=Nod.zero) (by omega) (fun _ _=>C8)
   refine⟨by omega,by omega,ad2,ha2,h1, ?_⟩
   rw[mg t i hlt,show kD (t.getD i default)=Nod.zero by unfold kD;rw[if_pos hb]]
   exact h2
  ·have hb:¬((t.getD i default).kind=1∧(t.getD i default).links=0):=by
    rintro⟨h1,h2⟩
    rw[decide_eq_true h1,decide_eq_true h2]at hb;cases hb
   show cD V0 V1 x _
   rw[mg t i hlt,show kD (t.getD i default)=t.getD i default by unfold kD;rw[if_neg hb]]
   have:(cI (t.take i)++t.drop i).set i (t.getD i default)=cI (t.take i)++t.drop i:=by
    rw[←qz t i hlt,aB (by omega)]
    exact List.set_getElem_self _
   rw[this];exact hO1
  ·rintro⟨⟩ V2 hO2
   exact⟨au (by omega) (by omega),⟨i+1,by omega,by omega,hO2⟩,by omega⟩
 ·have hge:i=t.length:=by have:=of_decide_eq_false hge;omega
  subst hge
  rw[List.take_length,List.drop_length,List.append_nil]at hO1
  exact hQ V1 hO1
structure Pce where
 aS:Int
 from_:Int
 len:Int
 deriving DecidableEq
instance:Inhabited Pce:=⟨⟨0,0,0⟩⟩
instance:Rep Pce where
 sz:=3
 pos:=by decide
 rep _ vs x:=vs= [.int .i64 x.aS,.int .i64 x.from_,.int .i64 x.len]∧inI .i64 x.aS∧inI .i64 x.from_∧inI .i64 x.len
 len h:=by rw[h.1];rfl
 one h:=by rw[h.1];rfl
 mono _ h:=h
theorem SlR.xR {V:View} {s:Sl} {l:List Pce} (h:SlR V s l) {i:Nat} (hi:i<l.length):
  ∃ad,s.a=some ad∧aq V (ad.add (i*3)) [.int .i64 (l.getD i default).aS,.int .i64 (l.getD i default).from_,.int .i64 (l.getD i default).len]:=by
 obtain⟨ad,vs,ha,hc,hv⟩:=h.get i hi
 obtain⟨e,_⟩:=hv
 subst e
 rw[show l.getD i default=l[i] by rw[List.getD_eq_getElem?_getD,List.getElem?_eq_getElem hi];rfl]
 exact⟨ad,ha,hc⟩
def dZ (a n:Int):Bool:=decide (0≤a∧a≤80∧0≤n∧n≤80-a)
def jQ:Nat→Nat→Nat→List Pce
 | 0,_,_=> []
 | f+1,a,n=>if n=0 then []else⟨(a/16:Nat),(a%16:Nat),(min n (16-a%16):Nat)⟩::jQ f (a+min n (16-a%16)) (n-min n (16-a%16))
def pcs (a n:Nat):List Pce:=jQ n a n
def aC (a n:Int):List Pce:=if dZ a n=true then pcs a.toNat n.toNat else []
theorem sS:∀(f g a n:Nat),n≤f→n≤g→jQ f a n=jQ g a n
 | 0,0,_,_,_,_=>rfl
 | 0,g+1,a,n,h,_=>by unfold jQ;rw[if_pos (by omega)]
 | f+1,0,a,n,_,h=>by unfold jQ;rw[if_pos (by omega)]
 | f+1,g+1,a,n,h1,h2=>by
   unfold jQ
   by_cases h0:n=0
   ·rw[if_pos h0,if_pos h0]
   ·rw[if_neg h0,if_neg h0,sS f g _ _ (by omega) (by omega)]
theorem gC (a:Nat):pcs a 0= []:=rfl
theorem iB {a n:Nat} (h:0<n):pcs a n=⟨(a/16:Nat),(a%16:Nat),(min n (16-a%16):Nat)⟩::pcs (a+min n (16-a%16)) (n-min n (16-a%16)):=by
 obtain⟨m,rfl⟩:∃m,n=m+1:=⟨n-1,by omega⟩
 unfold pcs
 conv=>lhs;unfold jQ
 rw[if_neg (by omega)]
 congr 1
 exact sS _ _ _ _ (by omega) (Nat.le_refl _)
theorem oT {a n:Int} {V:View} :af Tryz.prog 92 ⟨[.int .i64 a,.int .i64 n]⟩ V fun r V' =>r= .bool (dZ a n)∧V' =V:=by
 refine MS ?_
 unfold HF
 refine ai (fun q V' =>q.1=dZ a n∧V' =V) (aa (fun hb=> ?_) (fun hb=>⟨?_,rfl⟩)) ?_
 ·simp at hb
  refine⟨au (by omega) (by omega), ?_,rfl⟩
  unfold dZ
  exact decide_eq_decide.2 ⟨fun h=>by omega,fun h=>by omega⟩
 ·simp at hb
  unfold dZ
  rw[decide_eq_false]
  omega
 rintro⟨q,⟨⟩⟩ V' ⟨h1,hV⟩
 have h1:q=dZ a n:=h1
 have hV:V' =V:=hV
 subst h1 hV
 exact⟨rfl,rfl⟩
theorem qA {a n:Int} {V:View} :af Tryz.prog 136 ⟨[.int .i64 a,.int .i64 n]⟩ V fun r V' =>r= .bool (dZ a n)∧V' =V:=by
 refine Kk ?_
 unfold B5
 refine ai (fun q V' =>q.1=dZ a n∧V' =V) (aa (fun hb=> ?_) (fun hb=>⟨?_,rfl⟩)) ?_
 ·simp at hb
  refine⟨au (by omega) (by omega), ?_,rfl⟩
  unfold dZ
  exact decide_eq_decide.2 ⟨fun h=>by omega,fun h=>by omega⟩
 ·simp at hb
  unfold dZ
  rw[decide_eq_false]
  omega
 rintro⟨q,⟨⟩⟩ V' ⟨h1,hV⟩
 have h1:q=dZ a n:=h1
 have hV:V' =V:=hV
 subst h1 hV
 exact⟨rfl,rfl⟩
theorem gx {a n:Int} {V:View} :af Tryz.prog 57 ⟨[.int .i64 a,.int .i64 n]⟩ V fun r V' =>∃x:Sl,r= .slice x.a x.n x.c∧SlR V' x (aC a n)∧V.Le V' :=by
 refine Ml ?_
 unfold G0
 refine oT.mono ?_
 rintro r V0 ⟨rfl,rfl⟩
 refine⟨_,rfl,aa (fun hf=> ?_) (fun hf=> ?_)⟩
 ·unfold aC
  rw[if_neg (by simpa using hf)]
  exact⟨⟨none,0,0⟩,rfl,SlR.nil _ _ _,View.Le.refl _⟩
 have hf:=aD hf
 unfold aC
 rw[if_pos hf]
 unfold dZ at hf
 have hf:=of_decide_eq_true hf
 refine sJ (k:= .int .i64) (l:= .int .i64) (n:= .sl) (fun(y z:Int) (x:Sl) V' =>∃(b k:Nat) (done:List Pce) (cs:List Value),y=b∧z=k∧(b:Int)+k=a+n∧done++pcs b k=pcs a.toNat n.toNat∧done.length+k≤n.toNat∧Buf V' x 98 (Rep.sz Pce) cs∧aR (V'.minus x) cs done∧V0.Le (V'.minus x)) (fun _ (z:Int) _ _=>z.toNat)
  ⟨a.toNat,n.toNat,[],[],by omega,by omega,by omega,rfl,by simp,Buf.nil _ _ _,rfl,View.Le.refl _⟩ ?_
 rintro(y z:Int) x V1 ⟨b,k,done,cs,rfl,rfl,h1,h2,h3,h4,h5,h6⟩
 refine aa (fun hlt=> ?_) (fun hge=> ?_)
 ·have hlt:0<k:=by have:=of_decide_eq_true hlt;omega
  have e1:Int.tmod (b:Int) 16=((b%16:Nat):Int):=rfl
  have e2:Int.tdiv (b:Int) 16=((b/16:Nat):Int):=rfl
  have e3:(if(16:Int)-((b%16:Nat):Int)<(k:Int)then(16:Int)-((b%16:Nat):Int)else(k:Int))=((min k (16-b%16):Nat):Int):=by split<;>omega
  rw[e1,e2,e3]
  have hn:=(h4.slR h5 (View.aj _ _)).n
  refine⟨by decide,au (by omega) (by omega),by decide,au (by omega) (by omega),fun r hr=> ?_⟩
  refine pn (α:=Pce) (d:=⟨((b/16:Nat):Int),((b%16:Nat):Int),((min k (16-b%16):Nat):Int)⟩) rfl h4 h5 ⟨rfl,au (by dsimp only;omega) (by dsimp only;omega),au (by dsimp only;omega) (by dsimp only;omega),au (by dsimp only;omega) (by dsimp only;omega)⟩ h6 hr rfl (by show(x.n+1)*24≤_;omega) (by show x.n+1≤_;omega) fun s V2 cs' g1 g2 g3=> ?_
  refine⟨au (by omega) (by omega),au (by omega) (by omega),⟨b+min k (16-b%16),k-min k (16-b%16),_,cs',by omega,by omega,by omega, ?_, ?_,g1,g2,g3⟩,by omega⟩
  ·rw[←h2,iB hlt,List.append_assoc];rfl
  ·rw[List.length_append,List.length_singleton];omega
 ·have hge:k=0:=by have:=of_decide_eq_false hge;omega
  subst hge
  rw[gC,List.append_nil]at h2
  rw[←h2]
  exact⟨x,rfl,h4.slR h5 (View.aj _ _),h6.trans (View.aj _ _)⟩
theorem jR {a n:Int} {V:View} :af Tryz.prog 134 ⟨[.int .i64 a,.int .i64 n]⟩ V fun r V' =>∃x:Sl,r= .slice x.a x.n x.c∧SlR V' x (aC a n)∧V.Le V' :=by
 refine Ki ?_
 unfold B3
 refine qA.mono ?_
 rintro r V0 ⟨rfl,rfl⟩
 refine⟨_,rfl,aa (fun hf=> ?_) (fun hf=> ?_)⟩
 ·unfold aC
  rw[if_neg (by simpa using hf)]
  exact⟨⟨none,0,0⟩,rfl,SlR.nil _ _ _,View.Le.refl _⟩
 have hf:=aD hf
 unfold aC
 rw[if_pos hf]
 unfold dZ at hf
 have hf:=of_decide_eq_true hf
 refine sJ (k:= .int .i64) (l:= .int .i64) (n:= .sl) (fun(y z:Int) (x:Sl) V' =>∃(b k:Nat) (done:List Pce) (cs:List Value),y=b∧z=k∧(b:Int)+k=a+n∧done++pcs b k=pcs a.toNat n.toNat∧done.length+k≤n.toNat∧Buf V' x 98 (Rep.sz Pce) cs∧aR (V'.minus x) cs done∧V0.Le (V'.minus x)) (fun _ (z:Int) _ _=>z.toNat)
  ⟨a.toNat,n.toNat,[],[],by omega,by omega,by omega,rfl,by simp,Buf.nil _ _ _,rfl,View.Le.refl _⟩ ?_
 rintro(y z:Int) x V1 ⟨b,k,done,cs,rfl,rfl,h1,h2,h3,h4,h5,h6⟩
 refine aa (fun hlt=> ?_) (fun hge=> ?_)
 ·have hlt:0<k:=by have:=of_decide_eq_true hlt;omega
  have e1:Int.tmod (b:Int) 16=((b%16:Nat):Int):=rfl
  have e2:Int.tdiv (b:Int) 16=((b/16:Nat):Int):=rfl
  have e3:(if(16:Int)-((b%16:Nat):Int)<(k:Int)then(16:Int)-((b%16:Nat):Int)else(k:Int))=((min k (16-b%16):Nat):Int):=by split<;>omega
  rw[e1,e2,e3]
  have hn:=(h4.slR h5 (View.aj _ _)).n
  refine⟨by decide,au (by omega) (by omega),by decide,au (by omega) (by omega),fun r hr=> ?_⟩
  refine pn (α:=Pce) (d:=⟨((b/16:Nat):Int),((b%16:Nat):Int),((min k (16-b%16):Nat):Int)⟩) rfl h4 h5 ⟨rfl,au (by dsimp only;omega) (by dsimp only;omega),au (by dsimp only;omega) (by dsimp only;omega),au (by dsimp only;omega) (by dsimp only;omega)⟩ h6 hr rfl (by show(x.n+1)*24≤_;omega) (by show x.n+1≤_;omega) fun s V2 cs' g1 g2 g3=> ?_
  refine⟨au (by omega) (by omega),au (by omega) (by omega),⟨b+min k (16-b%16),k-min k (16-b%16),_,cs',by omega,by omega,by omega, ?_, ?_,g1,g2,g3⟩,by omega⟩
  ·rw[←h2,iB hlt,List.append_assoc];rfl
  ·rw[List.length_append,List.length_singleton];omega
 ·have hge:k=0:=by have:=of_decide_eq_false hge;omega
  subst hge
  rw[gC,List.append_nil]at h2
  rw[←h2]
  exact⟨x,rfl,h4.slR h5 (View.aj _ _),h6.trans (View.aj _ _)⟩
def iW (z:Int):Nat:=(min z.toNat 80+15)/16
theorem uq {z:Int} {V:View} :af Tryz.prog 156 ⟨[.int .i64 z]⟩ V fun r V' =>r= .int .i64 (iW z:Nat)∧V' =V:=by
 refine KD ?_
 unfold Cp
 have e0:(if(0:Int)>z then(0:Int)else z)=(z.toNat:Int):=by split<;>omega
 have e1:(if(80:Int)<(z.toNat:Int)then(80:Int)else(z.toNat:Int))=((min z.toNat 80:Nat):Int):=by split<;>omega
 rw[e0,e1]
 have e2:((min z.toNat 80:Nat):Int)+16-1=((min z.toNat 80+15:Nat):Int):=by omega
 rw[e2]
 have e3:Int.tdiv ((min z.toNat 80+15:Nat):Int) 16=(iW z:Nat):=rfl
 rw[e3]
 unfold iW
 exact⟨au (by omega) (by omega),au (by omega) (by omega),by decide,au (by omega) (by omega),rfl,rfl⟩
def rR (z a n:Int):Int:=if a<0∨n<0∨z≤a then 0 else if z-a<n then z-a else n
theorem xS {z a n:Int} {V:View} (hz:z≤9223372036854775807):af Tryz.prog 157 ⟨[.int .i64 z,.int .i64 a,.int .i64 n]⟩ V fun r V' =>r= .int .i64 (rR z a n)∧V' =V:=by
 refine KE ?_
 unfold Cq
 refine aa (fun hb=> ?_) (fun hb=> ?_)
 ·simp at hb
  unfold rR;rw[if_pos (by omega)];exact⟨rfl,rfl⟩
 ·simp at hb
  refine⟨au (by omega) (by omega), ?_,rfl⟩
  unfold rR;rw[if_neg (show ¬(a<0∨n<0∨z≤a) by omega)]
theorem xT {z a n:Int} {V:View} (hz:z≤9223372036854775807):af Tryz.prog 135 ⟨[.int .i64 z,.int .i64 a,.int .i64 n]⟩ V fun r V' =>r= .int .i64 (rR z a n)∧V' =V:=by
 refine Kj ?_
 unfold B4
 refine aa (fun hb=> ?_) (fun hb=> ?_)
 ·simp at hb
  unfold rR;rw[if_pos (by omega)];exact⟨rfl,rfl⟩
 ·simp at hb
  refine⟨au (by omega) (by omega), ?_,rfl⟩
  unfold rR;rw[if_neg (show ¬(a<0∨n<0∨z≤a) by omega)]
def jq (i:Int) (n:Nod) (k:Nat):List Rf:=(List.range k).filterMap fun(j:Nat)=>if n.an.getD j 0=0 then none else some ⟨1+i*5+j,n.an.getD j 0⟩
def lN (i:Int) (n:Nod):List Rf:=if n.kind=1∧bA n=true∧within i 11=true then jq i n n.an.length else []
theorem n9 (i:Int) (n:Nod) (k:Nat):(jq i n k).length≤k:=by
 unfold jq
 have:=List.length_filterMap_le (fun(j:Nat)=>if n.an.getD j 0=0 then none else some (⟨1+i*5+j,n.an.getD j 0⟩:Rf)) (List.range k)
 rwa [List.length_range]at this
theorem jS (i:Int) (n:Nod) (k:Nat):jq i n (k+1)=jq i n k++(if n.an.getD k 0=0 then []else [⟨1+i*5+k,n.an.getD k 0⟩]):=by
 unfold jq
 rw[List.range_succ,List.filterMap_append]
 congr 1
 simp only [List.filterMap_cons,List.filterMap_nil]
 split<;>rename_i h<;>split at h<;>simp_all
theorem Ab (i:Int) (n:Nod):(lN i n).length≤5:=by
 unfold lN
 split
 ·rename_i h
  exact Nat.le_trans (n9 _ _ _) (gZ h.2.1)
 ·simp
structure rfL (cs:List Value) (l:List Rf):Prop where
 rep:∀ {W:View},aR W cs l
theorem C9 {i:Int} {n:Nod} {s e:Sl} {V:View} (h:dJ V s e n):af Tryz.prog 179 ⟨[.int .i64 i,eN n s e]⟩ V fun r V' =>∃x:Sl,r= .slice x.a x.n x.c∧SlR V' x (lN i n)∧V.Le V' :=by
 refine KY ?_
 unfold CK
 refine fun _=>ai (fun q V' =>q.1=(!decide (n.kind=1∧bA n=true∧within i 11=true))∧V' =V) (aa (fun hb=>⟨?_,rfl⟩) (fun hb=>(pJ h).mono ?_)) ?_
 ·have hb:=of_decide_eq_false (aM hb)
  rw[decide_eq_false (fun h=>hb h.1)];rfl
 ·have hb:=of_decide_eq_true (aD hb)
  rintro r V1 ⟨rfl,rfl⟩
  refine⟨_,rfl,aa (fun h1=>⟨?_,rfl⟩) (fun h1=>k7.mono ?_)⟩
  ·have h1:=aM h1
   rw[decide_eq_false (fun h=>by rw[h1]at h;exact absurd h.2.1 (by decide))];rfl
  ·have h1:=aD h1
   rintro r V2 ⟨rfl,rfl⟩
   refine⟨_,rfl, ?_,rfl⟩
   cases h2:within i 11
   ·rw[decide_eq_false (fun h=>absurd h.2.2 (by decide))]
   ·rw[decide_eq_true ⟨hb,h1,rfl⟩]
 ·rintro⟨q,⟨⟩⟩ V1 ⟨h1,hV⟩
  simp only at h1 hV
  subst h1 hV
  dsimp only [unc]
  refine aa (fun hb=>⟨⟨none,0,0⟩,rfl, ?_,View.Le.refl _⟩) (fun hb=> ?_)
  ·have hb:=of_decide_eq_false (aM hb)
   unfold lN;rw[if_neg hb];exact SlR.nil _ _ _
  ·have hb:=of_decide_eq_true (aD hb)
   have hw:0≤i∧i≤11:=by
    have:=hb.2.2
    unfold within at this;simpa using this
   have h5:=gZ hb.2.1
   have hR:lN i n=jq i n n.an.length:=by unfold lN;rw[if_pos hb]
   rw[hR]
   have hsn:=h.an.n
   refine di (k:= .sl) (l:= .int .i64) (fun(x:Sl) (j:Int) V' =>∃(k:Nat) (cs:List Value),j=k∧k≤n.an.length∧Buf V' x 190 2 cs∧aR V1 cs (jq i n k)∧V1.Le (V'.minus x)) (fun _ (j:Int) _=>n.an.length-j.toNat) ⟨0,[],rfl,by omega,Buf.nil _ _ _,rfl,View.Le.refl _⟩ ?_
   rintro(x:Sl) (j:Int) V2 ⟨k,cs,rfl,hk,hbuf,hrep,hV2⟩
   have q2:V1.Le V2:=hV2.trans (View.aj _ _)
   refine aa (fun hlt=> ?_) (fun hge=> ?_)
   ·have hlt:k<n.an.length:=by have:=of_decide_eq_true hlt;omega
    obtain⟨ad,ha,hc,hin⟩:=(h.an.mono q2).fD hlt
    have hin' :=fj.1 hin
    refine⟨by omega,by omega,ad,ha,_,hc, ?_⟩
    refine ai (fun q V' =>∃cs,Buf V' q.1 190 2 cs∧aR V1 cs (jq i n (k+1))∧V1.Le (V'.minus q.1)) (aa (fun h0=> ?_) (fun h0=> ?_)) ?_
    ·have h0:¬n.an.getD k 0=0:=of_decide_eq_false (aM h0)
     refine⟨au (by omega) (by omega),au (by omega) (by omega),au (by omega) (by omega),fun r hr=> ?_⟩
     have hfr:=View.ax hr
     have hxn:=hbuf.n_eq (α:=Rf) hrep
     have hrl:=n9 i n k
     refine jL rfl (hbuf.put hfr) (src:= [.int .i64 (1+i*5+k),.int .i64 (n.an.getD k 0)]) (m:=1) ⟨rfl,dx (View.ah _ _ _) rfl⟩ rfl rfl (by show(x.n+1)*16≤_;omega) (by show x.n+1≤_;omega) fun s V' hb' _ hle' => ?_
     refine⟨_,hb', ?_,hV2.trans ((bz hfr).trans hle')⟩
     rw[jS,if_neg h0]
     exact hrep.snoc ⟨rfl,au (by simp only;omega) (by simp only;omega),hin⟩
    ·have h0:n.an.getD k 0=0:=of_decide_eq_true (aD h0)
     refine⟨cs,hbuf, ?_,hV2⟩
     rw[jS,if_pos h0,List.append_nil];exact hrep
    ·rintro⟨q,⟨⟩⟩ V3 ⟨cs3,hb3,hr3,hV3⟩
     exact⟨au (by omega) (by omega),⟨k+1,cs3,by omega,by omega,hb3,hr3,hV3⟩,by omega⟩
   ·have hge:k=n.an.length:=by have:=of_decide_eq_false hge;omega
    subst hge
    exact⟨x,rfl,hbuf.slR hrep q2,q2⟩
end Go.Proofs.YtoogangnldppaaaGreatDoor
