/- Texts joined: Ob, MayOk, PathOk, Data, DirLaw, NodeOk, Grow, NamesOk, BelowLaw, BelowOk, MapLaw, ApartOk, DirOk, Num, BytesOk, ReadOk, ReadNOk, RootLaw, RootOk, EqOk, RefsOk, AwakeOk, ReachLaw, ReachOk, FindOk, NameOk. -/
import Derived.Test.YtdlgpolngnkiaaaGreatDoorSoundC
import Derived.Test.YtdlgpolngnkiaaaGreatDoorPk2
import Derived.Test.YtdlgpolngnkiaaaGreatDoorPk1
import Derived.KernelRfl
/- What the executor asks of these functions, written out. (Printed by wip/tools/gen.py.) -/
set_option maxRecDepth 100000
set_option linter.unusedVariables false
namespace Go.Proofs.YtdlgpolngnkiaaaGreatDoor
open Go
variable [DrK]
/-- potsherd/potsherdref12.MayEntries -/
def f68_n (a0 : Sl) (V : View) (Q : Value → View → Prop) : Prop :=
    br (decide ((10 : Int) < (↑(Sl.n a0) : Int))) (Q (Value.bool false) V) (loopP [K.int IntKind.i64] (fun (x : Int) (V : View) (J : CurP [K.int IntKind.i64]) => br (decide (x < (↑(Sl.n a0) : Int))) ((0 : Int) ≤ x ∧ x < (↑(Sl.n a0) : Int) ∧ ∃ (ad : Addr), Sl.a a0 = some ad ∧ ∃ (x_1 : ByteArray), ∃ (x_2 : Int), cellsAt V (Addr.add ad (Int.toNat x * (2 : Nat))) [Value.string x_1, Value.int IntKind.i64 x_2] ∧ ∀ (b : Nat), joinP [K.bool] (fun (J : CurP [K.bool]) => True ∧ ∃ (S : View), View.Le S V ∧ CallV Tryz.prog (93 : Nat) (Array.mk [Value.string x_1]) V fun (r : Value) (V : View) => ∃ (x_3 : Bool), r = Value.bool x_3 ∧ View.Le S V ∧ ∃ (S' : View), View.Le S S' ∧ View.Le S' V ∧ br (!x_3) (J true V) (br (decide ((0 : Int) < x)) (inI IntKind.i64 (x - (1 : Int)) ∧ (0 : Int) ≤ x - (1 : Int) ∧ x - (1 : Int) < (↑(Sl.n a0) : Int) ∧ ∃ (ad : Addr), Sl.a a0 = some ad ∧ ∃ (x_4 : ByteArray), View.cell? S' (Addr.add (Addr.add ad (Int.toNat (x - (1 : Int)) * (2 : Nat))) (0 : Nat)) = some (Value.string x_4) ∧ J (bif bif !sLess x_4 x_1 then true else decide (x_2 < (1 : Int)) then true else decide ((12 : Int) ≤ x_2)) V) (J (bif decide (x_2 < (1 : Int)) then true else decide ((12 : Int) ≤ x_2)) V))) fun (x_3 : Bool) (V : View) => br x_3 (Q (Value.bool false) V) (inI IntKind.i64 (x + (1 : Int)) ∧ J (x + (1 : Int)) V)) (Q (Value.bool true) V)) ((0 : Int), ()) V)
def f68_ac : AC := (.seq (.reg ⟨.done, false, [], [], none⟩) (.seq (.seq (.reg ⟨.done, false, [], [], none⟩) (.cond none (.seq (.reg ⟨.done, false, [], [], none⟩) .leaf) .leaf)) (.seq (.seq (.reg ⟨.done, false, [], [], none⟩) (.block none (.loop ⟨[3, 4, 11, 12, 13, 14, 15, 16, 17, 18, 19, 20, 21, 22, 23, 24, 25, 26, 27, 28, 29, 30, 31, 32, 33, 34, 35, 36, 37, 38, 39, 40, 41, 42, 43, 44], [(10, .int .i64)], []⟩ (.seq (.reg ⟨.done, false, [], [], none⟩) (.seq (.cond none .leaf .leaf) (.seq (.block none (.seq (.reg ⟨.done, false, [], [], none⟩) (.seq (.reg ⟨(.fl 0 (.fl 1 (.alt 2 true true (.fl 3 (.fl 4 (.fl 5 (.fl 6 (.fl 7 (.fl 8 (.fl 9 (.fl 10 (.fl 11 (.fl 12 (.fl 13 (.fl 14 (.fl 15 (.fl 16 (.fl 17 (.fl 18 (.fl 19 (.fl 20 (.fl 21 (.fl 22 (.fl 23 (.fl 24 (.fl 25 (.fl 26 (.fl 27 (.fl 28 .done)))))))))))))))))))))))))) .no))), true, [], [], (some ⟨[15, 16, 17, 18, 19, 20, 21, 22, 23, 24, 25, 26, 27, 28, 29, 30, 31, 32, 33, 34, 35, 36, 37, 38, 39, 40, 41, 42], [(43, .bool)], []⟩)⟩) (.cond none (.seq (.reg ⟨.done, false, [], [], none⟩) .leaf) .leaf)))) (.reg ⟨.done, false, [], [], none⟩))))))) (.seq (.reg ⟨.done, false, [], [], none⟩) .leaf))))
theorem f68_x {a0 : Sl} {V : View} {Q : Value → View → Prop} (h : f68_n a0 V Q) : CallV Tryz.prog 68 ⟨[(.slice a0.a a0.n a0.c)]⟩ V Q :=
  XF_sound (wr := false) Tryz.checked.mixed (enters_of (fn := Tryz.f68) (by kernel_rfl) (by kernel_rfl) (by kernel_rfl)) (fn := Tryz.f68) (by kernel_rfl) (ac := f68_ac)
    (Eq.mp (show f68_n a0 V Q = XF Tryz.prog false Tryz.f68 (f68_ac) [(.slice a0.a a0.n a0.c)] V Q from by kernel_rfl) h)
/-- slices.Clone[[]string,string] -/
def f69_n (a0 : Sl) (V : View) (Q : Value → View → Prop) : Prop :=
    br (Option.isNone (Sl.a a0)) (Q (Value.slice none (0 : Nat) (0 : Nat)) V) (newB V (Obj.cells (Array.mk []) (9 : Nat)) fun (r : Nat) (V : View) => apV V (9 : Nat) (1 : Nat) (16 : Nat) [Value.string (ByteArray.mk #[])] (Sl.mk (some (Addr.mk r (0 : Nat) none)) (0 : Nat) (0 : Nat)) (Value.slice (Sl.a a0) (Sl.n a0) (Sl.c a0)) fun (s : Sl) (V : View) => Q (Value.slice (Sl.a s) (Sl.n s) (Sl.c s)) V)
def f69_ac : AC := (.seq (.reg ⟨.done, false, [], [], none⟩) (.seq (.seq (.reg ⟨.done, false, [], [], none⟩) (.cond none (.seq (.reg ⟨.done, false, [], [], none⟩) .leaf) .leaf)) (.seq (.reg ⟨.done, false, [], [], none⟩) .leaf)))
theorem f69_x {a0 : Sl} {V : View} {Q : Value → View → Prop} (h : f69_n a0 V Q) : CallV Tryz.prog 69 ⟨[(.slice a0.a a0.n a0.c)]⟩ V Q :=
  XF_sound (wr := false) Tryz.checked.mixed (enters_of (fn := Tryz.f69) (by kernel_rfl) (by kernel_rfl) (by kernel_rfl)) (fn := Tryz.f69) (by kernel_rfl) (ac := f69_ac)
    (Eq.mp (show f69_n a0 V Q = XF Tryz.prog false Tryz.f69 (f69_ac) [(.slice a0.a a0.n a0.c)] V Q from by kernel_rfl) h)
/-- potsherd/path.Join -/
def f70_n (a0 : Sl) (V : View) (Q : Value → View → Prop) : Prop :=
    CallV Tryz.prog (94 : Nat) (Array.mk [Value.slice (Sl.a a0) (Sl.n a0) (Sl.c a0), Value.string (ByteArray.mk #[(47 : UInt8)])]) V fun (r : Value) (V : View) => ∃ (x : ByteArray), r = Value.string x ∧ (1 : Nat) + ByteArray.size x ≤ (9223372036854775807 : Nat) ∧ CallV Tryz.prog (37 : Nat) (Array.mk [Value.string (ByteArray.mk #[(47 : UInt8)] ++ x)]) V fun (r : Value) (V : View) => ∃ (x_1 : Sl), ∃ (x_2 : Int), r = Value.tuple (Array.mk [Value.slice (Sl.a x_1) (Sl.n x_1) (Sl.c x_1), Value.int IntKind.i64 x_2]) ∧ joinP [K.bool] (fun (J : CurP [K.bool]) => br (!decide (x_2 = (0 : Int))) (J true V) (CallV Tryz.prog (95 : Nat) (Array.mk [Value.slice (Sl.a x_1) (Sl.n x_1) (Sl.c x_1), Value.slice (Sl.a a0) (Sl.n a0) (Sl.c a0)]) V fun (r : Value) (V : View) => ∃ (x : Bool), r = Value.bool x ∧ J (!x) V)) fun (x_3 : Bool) (V : View) => br x_3 (Q (Value.string (ByteArray.mk #[])) V) (Q (Value.string (ByteArray.mk #[(47 : UInt8)] ++ x)) V)
def f70_ac : AC := (.seq (.reg ⟨.done, false, [], [], none⟩) (.seq (.reg ⟨.done, false, [], [], none⟩) (.seq (.reg ⟨.done, false, [], [], none⟩) (.seq (.seq (.reg ⟨.done, false, [], [], (some ⟨[14, 15, 16, 17, 18, 19, 20], [(21, .bool)], []⟩)⟩) (.cond none (.seq (.reg ⟨.done, false, [], [], none⟩) .leaf) .leaf)) (.seq (.reg ⟨.done, false, [], [], none⟩) .leaf)))))
theorem f70_x {a0 : Sl} {V : View} {Q : Value → View → Prop} (h : f70_n a0 V Q) : CallV Tryz.prog 70 ⟨[(.slice a0.a a0.n a0.c)]⟩ V Q :=
  XF_sound (wr := false) Tryz.checked.mixed (enters_of (fn := Tryz.f70) (by kernel_rfl) (by kernel_rfl) (by kernel_rfl)) (fn := Tryz.f70) (by kernel_rfl) (ac := f70_ac)
    (Eq.mp (show f70_n a0 V Q = XF Tryz.prog false Tryz.f70 (f70_ac) [(.slice a0.a a0.n a0.c)] V Q from by kernel_rfl) h)
/-- potsherd/dir.Free -/
def f71_n (a0_0 : Sl) (V : View) (Q : Value → View → Prop) : Prop :=
    ∀ (b : Nat), CallV Tryz.prog (22 : Nat) (Array.mk [Value.agg (Array.mk [Value.slice (Sl.a a0_0) (Sl.n a0_0) (Sl.c a0_0)])]) V fun (r : Value) (V : View) => ∃ (x : Bool), r = Value.bool x ∧ br (!x) (Q (Value.int IntKind.i64 (-1 : Int)) V) (CallV Tryz.prog (83 : Nat) (Array.mk [Value.slice (Sl.a a0_0) (Sl.n a0_0) (Sl.c a0_0), Value.func (Fn.func (96 : Nat)) (Array.mk []) (Array.mk [])]) V fun (r : Value) (V : View) => ∃ (x : Int), r = Value.int IntKind.i64 x ∧ Q (Value.int IntKind.i64 x) V)
def f71_ac : AC := (.seq (.reg ⟨.done, false, [], [], none⟩) (.seq (.seq (.reg ⟨.done, false, [], [], none⟩) (.cond none (.seq (.reg ⟨.done, false, [], [], none⟩) .leaf) .leaf)) (.seq (.reg ⟨.done, false, [], [], none⟩) .leaf)))
theorem f71_x {a0_0 : Sl} {V : View} {Q : Value → View → Prop} (h : f71_n a0_0 V Q) : CallV Tryz.prog 71 ⟨[(.agg ⟨[(.slice a0_0.a a0_0.n a0_0.c)]⟩)]⟩ V Q :=
  XF_sound (wr := false) Tryz.checked.mixed (enters_of (fn := Tryz.f71) (by kernel_rfl) (by kernel_rfl) (by kernel_rfl)) (fn := Tryz.f71) (by kernel_rfl) (ac := f71_ac)
    (Eq.mp (show f71_n a0_0 V Q = XF Tryz.prog false Tryz.f71 (f71_ac) [(.agg ⟨[(.slice a0_0.a a0_0.n a0_0.c)]⟩)] V Q from by kernel_rfl) h)
/-- slices.ContainsFunc[[]string,string] -/
def f74_n (a0 : Sl) (g1 : FuncId) (x1 : List Value) (y1 : List Value) (V : View) (Q : Value → View → Prop) : Prop :=
    CallV Tryz.prog (99 : Nat) (Array.mk [Value.slice (Sl.a a0) (Sl.n a0) (Sl.c a0), Value.func (Fn.func g1) (Array.mk x1) (Array.mk y1)]) V fun (r : Value) (V : View) => ∃ (x : Int), r = Value.int IntKind.i64 x ∧ Q (Value.bool (decide ((0 : Int) ≤ x))) V
def f74_ac : AC := (.seq (.reg ⟨.done, false, [], [], none⟩) (.seq (.reg ⟨.done, false, [], [], none⟩) .leaf))
theorem f74_x {a0 : Sl} {g1 : FuncId} {x1 : List Value} {y1 : List Value} {V : View} {Q : Value → View → Prop} (h : f74_n a0 g1 x1 y1 V Q) : CallV Tryz.prog 74 ⟨[(.slice a0.a a0.n a0.c), (.func (.func g1) ⟨x1⟩ ⟨y1⟩)]⟩ V Q :=
  XF_sound (wr := false) Tryz.checked.mixed (enters_of (fn := Tryz.f74) (by kernel_rfl) (by kernel_rfl) (by kernel_rfl)) (fn := Tryz.f74) (by kernel_rfl) (ac := f74_ac)
    (Eq.mp (show f74_n a0 g1 x1 y1 V Q = XF Tryz.prog false Tryz.f74 (f74_ac) [(.slice a0.a a0.n a0.c), (.func (.func g1) ⟨x1⟩ ⟨y1⟩)] V Q from by kernel_rfl) h)
/-- potsherd/path.Split$1 -/
def f75_n (a0 : ByteArray) (V : View) (Q : Value → View → Prop) : Prop :=
    CallV Tryz.prog (76 : Nat) (Array.mk [Value.string a0]) V fun (r : Value) (V : View) => ∃ (x : Bool), r = Value.bool x ∧ Q (Value.bool !x) V
def f75_ac : AC := (.seq (.reg ⟨.done, false, [], [], none⟩) (.seq (.reg ⟨.done, false, [], [], none⟩) .leaf))
theorem f75_x {a0 : ByteArray} {V : View} {Q : Value → View → Prop} (h : f75_n a0 V Q) : CallV Tryz.prog 75 ⟨[(.string a0)]⟩ V Q :=
  XF_sound (wr := false) Tryz.checked.mixed (enters_of (fn := Tryz.f75) (by kernel_rfl) (by kernel_rfl) (by kernel_rfl)) (fn := Tryz.f75) (by kernel_rfl) (ac := f75_ac)
    (Eq.mp (show f75_n a0 V Q = XF Tryz.prog false Tryz.f75 (f75_ac) [(.string a0)] V Q from by kernel_rfl) h)
/-- potsherd/path.May -/
def f76_n (a0 : ByteArray) (V : View) (Q : Value → View → Prop) : Prop :=
    loopP [K.int IntKind.i64] (fun (x : Int) (V : View) (J : CurP [K.int IntKind.i64]) => br (decide (x < (↑(ByteArray.size a0) : Int))) ((0 : Int) ≤ x ∧ x < (↑(ByteArray.size a0) : Int) ∧ br (!bif bif bif bif bif decide ((97 : Int) ≤ (↑(UInt8.toNat (List.getD (Array.toList (ByteArray.data a0)) (Int.toNat x) (0 : UInt8))) : Int)) then decide ((↑(UInt8.toNat (List.getD (Array.toList (ByteArray.data a0)) (Int.toNat x) (0 : UInt8))) : Int) ≤ (122 : Int)) else false then true else bif decide ((48 : Int) ≤ (↑(UInt8.toNat (List.getD (Array.toList (ByteArray.data a0)) (Int.toNat x) (0 : UInt8))) : Int)) then decide ((↑(UInt8.toNat (List.getD (Array.toList (ByteArray.data a0)) (Int.toNat x) (0 : UInt8))) : Int) ≤ (57 : Int)) else false then true else decide ((↑(UInt8.toNat (List.getD (Array.toList (ByteArray.data a0)) (Int.toNat x) (0 : UInt8))) : Int) = (46 : Int)) then true else decide ((↑(UInt8.toNat (List.getD (Array.toList (ByteArray.data a0)) (Int.toNat x) (0 : UInt8))) : Int) = (95 : Int)) then true else decide ((↑(UInt8.toNat (List.getD (Array.toList (ByteArray.data a0)) (Int.toNat x) (0 : UInt8))) : Int) = (45 : Int))) (Q (Value.bool false) V) (inI IntKind.i64 (x + (1 : Int)) ∧ J (x + (1 : Int)) V)) (Q (Value.bool (bif bif bif decide ((1 : Int) ≤ (↑(ByteArray.size a0) : Int)) then decide ((↑(ByteArray.size a0) : Int) ≤ (8 : Int)) else false then !decide (a0 = ByteArray.mk #[(46 : UInt8)]) else false then !decide (a0 = ByteArray.mk #[(46 : UInt8), (46 : UInt8)]) else false)) V)) ((0 : Int), ()) V
def f76_ac : AC := (.seq (.reg ⟨.done, false, [], [], none⟩) (.seq (.seq (.reg ⟨.done, false, [], [], none⟩) (.block none (.loop ⟨[3, 4, 8, 9, 10, 11, 12, 13, 14, 15, 16, 17, 18, 19, 20, 21, 22, 23, 24, 25, 26, 27, 28, 29, 30, 31, 32, 33, 34, 35, 36, 37, 38, 39, 40], [(7, .int .i64)], []⟩ (.seq (.reg ⟨.done, false, [], [], none⟩) (.seq (.cond none .leaf .leaf) (.seq (.block none (.seq (.reg ⟨.done, false, [], [], none⟩) (.seq (.reg ⟨.done, false, [], [], none⟩) (.seq (.reg ⟨.done, false, [], [], none⟩) (.cond none (.seq (.reg ⟨.done, false, [], [], none⟩) .leaf) .leaf))))) (.reg ⟨.done, false, [], [], none⟩))))))) (.seq (.reg ⟨.done, false, [], [], none⟩) .leaf)))
theorem f76_x {a0 : ByteArray} {V : View} {Q : Value → View → Prop} (h : f76_n a0 V Q) : CallV Tryz.prog 76 ⟨[(.string a0)]⟩ V Q :=
  XF_sound (wr := false) Tryz.checked.mixed (enters_of (fn := Tryz.f76) (by kernel_rfl) (by kernel_rfl) (by kernel_rfl)) (fn := Tryz.f76) (by kernel_rfl) (ac := f76_ac)
    (Eq.mp (show f76_n a0 V Q = XF Tryz.prog false Tryz.f76 (f76_ac) [(.string a0)] V Q from by kernel_rfl) h)
/-- potsherd/name.Find -/
def f77_n (a0 : Sl) (a1 : ByteArray) (V : View) (Q : Value → View → Prop) : Prop :=
    CallV Tryz.prog (100 : Nat) (Array.mk [Value.slice (Sl.a a0) (Sl.n a0) (Sl.c a0), Value.string a1]) V fun (r : Value) (V : View) => ∃ (x : Int), r = Value.int IntKind.i64 x ∧ br (decide (x < (0 : Int))) (Q (Value.int IntKind.i64 (-1 : Int)) V) ((0 : Int) ≤ x ∧ x < (↑(Sl.n a0) : Int) ∧ ∃ (ad : Addr), Sl.a a0 = some ad ∧ ∃ (x_1 : Int), View.cell? V (Addr.add (Addr.add ad (Int.toNat x * (2 : Nat))) (1 : Nat)) = some (Value.int IntKind.i64 x_1) ∧ Q (Value.int IntKind.i64 x_1) V)
def f77_ac : AC := (.seq (.reg ⟨.done, false, [], [], none⟩) (.seq (.reg ⟨.done, false, [], [], none⟩) (.seq (.seq (.reg ⟨.done, false, [], [], none⟩) (.cond none (.seq (.reg ⟨.done, false, [], [], none⟩) .leaf) .leaf)) (.seq (.reg ⟨.done, false, [], [], none⟩) .leaf))))
theorem f77_x {a0 : Sl} {a1 : ByteArray} {V : View} {Q : Value → View → Prop} (h : f77_n a0 a1 V Q) : CallV Tryz.prog 77 ⟨[(.slice a0.a a0.n a0.c), (.string a1)]⟩ V Q :=
  XF_sound (wr := false) Tryz.checked.mixed (enters_of (fn := Tryz.f77) (by kernel_rfl) (by kernel_rfl) (by kernel_rfl)) (fn := Tryz.f77) (by kernel_rfl) (ac := f77_ac)
    (Eq.mp (show f77_n a0 a1 V Q = XF Tryz.prog false Tryz.f77 (f77_ac) [(.slice a0.a a0.n a0.c), (.string a1)] V Q from by kernel_rfl) h)
/-- potsherd/dir.Parent -/
def f78_n (a0_0 : Sl) (a1 : ByteArray) (V : View) (Q : Value → View → Prop) : Prop :=
    ∀ (b : Nat), CallV Tryz.prog (22 : Nat) (Array.mk [Value.agg (Array.mk [Value.slice (Sl.a a0_0) (Sl.n a0_0) (Sl.c a0_0)])]) V fun (r : Value) (V : View) => ∃ (x : Bool), r = Value.bool x ∧ br (!x) (Q (Value.tuple (Array.mk [Value.int IntKind.i64 (0 : Int), Value.string (ByteArray.mk #[]), Value.int IntKind.i64 (1 : Int)])) V) (CallV Tryz.prog (101 : Nat) (Array.mk [Value.string a1]) V fun (r : Value) (V : View) => ∃ (x : ByteArray), ∃ (x_1 : ByteArray), ∃ (x_2 : Int), r = Value.tuple (Array.mk [Value.string x, Value.string x_1, Value.int IntKind.i64 x_2]) ∧ br (!decide (x_2 = (0 : Int))) (Q (Value.tuple (Array.mk [Value.int IntKind.i64 (0 : Int), Value.string (ByteArray.mk #[]), Value.int IntKind.i64 x_2])) V) (CallV Tryz.prog (14 : Nat) (Array.mk [Value.agg (Array.mk [Value.slice (Sl.a a0_0) (Sl.n a0_0) (Sl.c a0_0)]), Value.string x]) V fun (r : Value) (V : View) => ∃ (x : Int), ∃ (x_3 : Int), r = Value.tuple (Array.mk [Value.int IntKind.i64 x, Value.int IntKind.i64 x_3]) ∧ br (!decide (x_3 = (0 : Int))) (Q (Value.tuple (Array.mk [Value.int IntKind.i64 (0 : Int), Value.string (ByteArray.mk #[]), Value.int IntKind.i64 x_3])) V) ((0 : Int) ≤ x ∧ x < (↑(Sl.n a0_0) : Int) ∧ ∃ (ad : Addr), Sl.a a0_0 = some ad ∧ ∃ (x_4 : Int), View.cell? V (Addr.add (Addr.add ad (Int.toNat x * (5 : Nat))) (0 : Nat)) = some (Value.int IntKind.i64 x_4) ∧ br (!decide (x_4 = (2 : Int))) (Q (Value.tuple (Array.mk [Value.int IntKind.i64 (0 : Int), Value.string (ByteArray.mk #[]), Value.int IntKind.i64 (11 : Int)])) V) (Q (Value.tuple (Array.mk [Value.int IntKind.i64 x, Value.string x_1, Value.int IntKind.i64 (0 : Int)])) V))))
def f78_ac : AC := (.seq (.reg ⟨.done, false, [], [], none⟩) (.seq (.seq (.reg ⟨.done, false, [], [], none⟩) (.cond none (.seq (.reg ⟨.done, false, [], [], none⟩) .leaf) .leaf)) (.seq (.reg ⟨.done, false, [], [], none⟩) (.seq (.seq (.reg ⟨.done, false, [], [], none⟩) (.cond none (.seq (.reg ⟨.done, false, [], [], none⟩) .leaf) .leaf)) (.seq (.reg ⟨.done, false, [], [], none⟩) (.seq (.block none (.seq (.reg ⟨.done, false, [], [], none⟩) (.cond none (.seq (.reg ⟨.done, false, [], [], none⟩) .leaf) (.seq (.reg ⟨.done, false, [], [], none⟩) (.cond none (.seq (.reg ⟨.done, false, [], [], none⟩) .leaf) .leaf))))) (.seq (.reg ⟨.done, false, [], [], none⟩) .leaf)))))))
theorem f78_x {a0_0 : Sl} {a1 : ByteArray} {V : View} {Q : Value → View → Prop} (h : f78_n a0_0 a1 V Q) : CallV Tryz.prog 78 ⟨[(.agg ⟨[(.slice a0_0.a a0_0.n a0_0.c)]⟩), (.string a1)]⟩ V Q :=
  XF_sound (wr := false) Tryz.checked.mixed (enters_of (fn := Tryz.f78) (by kernel_rfl) (by kernel_rfl) (by kernel_rfl)) (fn := Tryz.f78) (by kernel_rfl) (ac := f78_ac)
    (Eq.mp (show f78_n a0_0 a1 V Q = XF Tryz.prog false Tryz.f78 (f78_ac) [(.agg ⟨[(.slice a0_0.a a0_0.n a0_0.c)]⟩), (.string a1)] V Q from by kernel_rfl) h)
/-- potsherd/node.Copy -/
def f79_n (a0_0 : Int) (a0_1 : Int) (a0_2 : Int) (a0_3 : Sl) (a0_4 : Sl) (V : View) (Q : Value → View → Prop) : Prop :=
    ∀ (b b : Nat), True ∧ ∃ (S : View), View.Le S V ∧ CallV Tryz.prog (102 : Nat) (Array.mk [Value.slice (Sl.a a0_3) (Sl.n a0_3) (Sl.c a0_3)]) V fun (r : Value) (V : View) => ∃ (x : Sl), r = Value.slice (Sl.a x) (Sl.n x) (Sl.c x) ∧ View.Le S V ∧ CallV Tryz.prog (103 : Nat) (Array.mk [Value.slice (Sl.a a0_4) (Sl.n a0_4) (Sl.c a0_4)]) V fun (r : Value) (V : View) => ∃ (x_1 : Sl), r = Value.slice (Sl.a x_1) (Sl.n x_1) (Sl.c x_1) ∧ Q (Value.agg (Array.mk [Value.int IntKind.i64 a0_0, Value.int IntKind.i64 a0_1, Value.int IntKind.i64 a0_2, Value.slice (Sl.a x) (Sl.n x) (Sl.c x), Value.slice (Sl.a x_1) (Sl.n x_1) (Sl.c x_1)])) V
def f79_ac : AC := (.seq (.reg ⟨.done, false, [], [], none⟩) (.seq (.reg ⟨(.fl 0 (.fl 1 (.fl 3 (.fl 4 (.alt 2 true false (.fl 6 (.alt 5 false false (.alt 7 false false (.fl 8 (.alt 9 false false .done .no)) .no) .no)) .no))))), true, [], [], none⟩) (.seq (.reg ⟨.done, false, [], [], none⟩) .leaf)))
theorem f79_x {a0_0 : Int} {a0_1 : Int} {a0_2 : Int} {a0_3 : Sl} {a0_4 : Sl} {V : View} {Q : Value → View → Prop} (h : f79_n a0_0 a0_1 a0_2 a0_3 a0_4 V Q) : CallV Tryz.prog 79 ⟨[(.agg ⟨[(.int .i64 a0_0), (.int .i64 a0_1), (.int .i64 a0_2), (.slice a0_3.a a0_3.n a0_3.c), (.slice a0_4.a a0_4.n a0_4.c)]⟩)]⟩ V Q :=
  XF_sound (wr := false) Tryz.checked.mixed (enters_of (fn := Tryz.f79) (by kernel_rfl) (by kernel_rfl) (by kernel_rfl)) (fn := Tryz.f79) (by kernel_rfl) (ac := f79_ac)
    (Eq.mp (show f79_n a0_0 a0_1 a0_2 a0_3 a0_4 V Q = XF Tryz.prog false Tryz.f79 (f79_ac) [(.agg ⟨[(.int .i64 a0_0), (.int .i64 a0_1), (.int .i64 a0_2), (.slice a0_3.a a0_3.n a0_3.c), (.slice a0_4.a a0_4.n a0_4.c)]⟩)] V Q from by kernel_rfl) h)
/-- potsherd/name.With -/
def f80_n (a0 : Sl) (a1 : ByteArray) (a2 : Int) (V : View) (Q : Value → View → Prop) : Prop :=
    ∀ (b : Nat), joinP [K.bool] (fun (J : CurP [K.bool]) => CallV Tryz.prog (85 : Nat) (Array.mk [Value.slice (Sl.a a0) (Sl.n a0) (Sl.c a0)]) V fun (r : Value) (V : View) => ∃ (x : Bool), r = Value.bool x ∧ br (!x) (J true V) (CallV Tryz.prog (104 : Nat) (Array.mk [Value.agg (Array.mk [Value.string a1, Value.int IntKind.i64 a2])]) V fun (r : Value) (V : View) => ∃ (x : Bool), r = Value.bool x ∧ J (!x) V)) fun (x : Bool) (V : View) => br x (Q (Value.tuple (Array.mk [Value.slice none (0 : Nat) (0 : Nat), Value.int IntKind.i64 (1 : Int)])) V) (CallV Tryz.prog (100 : Nat) (Array.mk [Value.slice (Sl.a a0) (Sl.n a0) (Sl.c a0), Value.string a1]) V fun (r : Value) (V : View) => ∃ (x : Int), r = Value.int IntKind.i64 x ∧ br (decide ((0 : Int) ≤ x)) (Q (Value.tuple (Array.mk [Value.slice none (0 : Nat) (0 : Nat), Value.int IntKind.i64 (9 : Int)])) V) (br (decide ((10 : Int) ≤ (↑(Sl.n a0) : Int))) (Q (Value.tuple (Array.mk [Value.slice none (0 : Nat) (0 : Nat), Value.int IntKind.i64 (14 : Int)])) V) (loopP [K.int IntKind.i64] (fun (x : Int) (V : View) (J : CurP [K.int IntKind.i64]) => joinP [K.bool] (fun (J : CurP [K.bool]) => br (decide (x < (↑(Sl.n a0) : Int))) ((0 : Int) ≤ x ∧ x < (↑(Sl.n a0) : Int) ∧ ∃ (ad : Addr), Sl.a a0 = some ad ∧ ∃ (x_1 : ByteArray), View.cell? V (Addr.add (Addr.add ad (Int.toNat x * (2 : Nat))) (0 : Nat)) = some (Value.string x_1) ∧ J (sLess x_1 a1) V) (J false V)) fun (x_1 : Bool) (V : View) => br x_1 (inI IntKind.i64 (x + (1 : Int)) ∧ J (x + (1 : Int)) V) (True ∧ (0 : Int) ≤ (0 : Int) ∧ (0 : Int) ≤ x ∧ x ≤ (↑(Sl.c a0) : Int) ∧ (0 : Int) ≤ x ∧ x ≤ (↑(Sl.n a0) : Int) ∧ (↑(Sl.n a0) : Int) ≤ (↑(Sl.c a0) : Int) ∧ newB V (Obj.cells (Array.mk (putL [Value.string (ByteArray.mk #[]), Value.int IntKind.i64 (0 : Int)] (0 : Nat) [Value.string a1, Value.int IntKind.i64 a2])) (58 : Nat)) fun (r : Nat) (V : View) => newB V (Obj.cells (Array.mk (putL (putL (putL [Value.slice none (0 : Nat) (0 : Nat), Value.slice none (0 : Nat) (0 : Nat), Value.slice none (0 : Nat) (0 : Nat)] (0 : Nat) [Value.slice (if Sl.c a0 = (0 : Nat) then Sl.a a0 else Option.map (fun (x : Addr) => Addr.add x (0 : Nat)) (Sl.a a0)) (Int.toNat x - (0 : Nat)) (Sl.c a0 - (0 : Nat))]) (1 : Nat) [Value.slice (some (Addr.mk r (0 : Nat) none)) (1 : Nat) (1 : Nat)]) (2 : Nat) [Value.slice (if Sl.c a0 = Int.toNat x then Sl.a a0 else Option.map (fun (x_2 : Addr) => Addr.add x_2 (Int.toNat x * (2 : Nat))) (Sl.a a0)) (Int.toNat (↑(Sl.n a0) : Int) - Int.toNat x) (Sl.c a0 - Int.toNat x)])) (44 : Nat)) fun (r : Nat) (V : View) => CallV Tryz.prog (105 : Nat) (Array.mk [Value.slice (some (Addr.mk r (0 : Nat) none)) (3 : Nat) (3 : Nat)]) V fun (r : Value) (V : View) => ∃ (x : Sl), r = Value.slice (Sl.a x) (Sl.n x) (Sl.c x) ∧ Q (Value.tuple (Array.mk [Value.slice (Sl.a x) (Sl.n x) (Sl.c x), Value.int IntKind.i64 (0 : Int)])) V)) ((0 : Int), ()) V)))
def f80_ac : AC := (.seq (.reg ⟨.done, false, [], [], none⟩) (.seq (.reg ⟨.done, false, [], [], none⟩) (.seq (.block none (.seq (.reg ⟨.done, false, [], [], (some ⟨[14, 15, 16, 17, 18, 19, 20, 21], [(13, .bool)], []⟩)⟩) (.cond none (.seq (.reg ⟨.done, false, [], [], none⟩) .leaf) (.seq (.reg ⟨.done, false, [], [], none⟩) (.cond none (.seq (.reg ⟨.done, false, [], [], none⟩) .leaf) (.seq (.reg ⟨.done, false, [], [], none⟩) (.cond none (.seq (.reg ⟨.done, false, [], [], none⟩) .leaf) .leaf))))))) (.seq (.reg ⟨.done, false, [], [], none⟩) (.seq (.block none (.loop ⟨[31, 32, 33, 34, 35, 36, 37, 38, 39, 40, 41, 42, 43, 44, 45], [(9, .int .i64)], []⟩ (.seq (.seq (.reg ⟨.done, false, [], [], (some ⟨[31, 32, 33, 34, 35, 36, 37, 38, 39, 40, 41, 42], [(43, .bool)], []⟩)⟩) (.cond none .leaf .leaf)) (.block none (.reg ⟨.done, false, [], [], none⟩))))) (.seq (.reg ⟨(.fl 0 (.fl 1 (.fl 2 (.fl 3 (.fl 5 (.fl 6 (.fl 7 (.alt 4 false false (.alt 8 false false (.alt 9 false false (.fl 10 (.fl 11 .done)) .no) .no) .no)))))))), false, [], [], none⟩) .leaf))))))
theorem f80_x {a0 : Sl} {a1 : ByteArray} {a2 : Int} {V : View} {Q : Value → View → Prop} (h : f80_n a0 a1 a2 V Q) : CallV Tryz.prog 80 ⟨[(.slice a0.a a0.n a0.c), (.string a1), (.int .i64 a2)]⟩ V Q :=
  XF_sound (wr := false) Tryz.checked.mixed (enters_of (fn := Tryz.f80) (by kernel_rfl) (by kernel_rfl) (by kernel_rfl)) (fn := Tryz.f80) (by kernel_rfl) (ac := f80_ac)
    (Eq.mp (show f80_n a0 a1 a2 V Q = XF Tryz.prog false Tryz.f80 (f80_ac) [(.slice a0.a a0.n a0.c), (.string a1), (.int .i64 a2)] V Q from by kernel_rfl) h)
/-- potsherd/name.Without -/
def f81_n (a0 : Sl) (a1 : ByteArray) (V : View) (Q : Value → View → Prop) : Prop :=
    CallV Tryz.prog (85 : Nat) (Array.mk [Value.slice (Sl.a a0) (Sl.n a0) (Sl.c a0)]) V fun (r : Value) (V : View) => ∃ (x : Bool), r = Value.bool x ∧ br (!x) (Q (Value.tuple (Array.mk [Value.slice none (0 : Nat) (0 : Nat), Value.int IntKind.i64 (1 : Int)])) V) (CallV Tryz.prog (100 : Nat) (Array.mk [Value.slice (Sl.a a0) (Sl.n a0) (Sl.c a0), Value.string a1]) V fun (r : Value) (V : View) => ∃ (x : Int), r = Value.int IntKind.i64 x ∧ br (decide (x < (0 : Int))) (Q (Value.tuple (Array.mk [Value.slice none (0 : Nat) (0 : Nat), Value.int IntKind.i64 (8 : Int)])) V) (True ∧ (0 : Int) ≤ (0 : Int) ∧ (0 : Int) ≤ x ∧ x ≤ (↑(Sl.c a0) : Int) ∧ inI IntKind.i64 (x + (1 : Int)) ∧ (0 : Int) ≤ x + (1 : Int) ∧ x + (1 : Int) ≤ (↑(Sl.n a0) : Int) ∧ (↑(Sl.n a0) : Int) ≤ (↑(Sl.c a0) : Int) ∧ newB V (Obj.cells (Array.mk (putL (putL [Value.slice none (0 : Nat) (0 : Nat), Value.slice none (0 : Nat) (0 : Nat)] (0 : Nat) [Value.slice (if Sl.c a0 = (0 : Nat) then Sl.a a0 else Option.map (fun (x : Addr) => Addr.add x (0 : Nat)) (Sl.a a0)) (Int.toNat x - (0 : Nat)) (Sl.c a0 - (0 : Nat))]) (1 : Nat) [Value.slice (if Sl.c a0 = Int.toNat (x + (1 : Int)) then Sl.a a0 else Option.map (fun (x_1 : Addr) => Addr.add x_1 (Int.toNat (x + (1 : Int)) * (2 : Nat))) (Sl.a a0)) (Int.toNat (↑(Sl.n a0) : Int) - Int.toNat (x + (1 : Int))) (Sl.c a0 - Int.toNat (x + (1 : Int)))])) (44 : Nat)) fun (r : Nat) (V : View) => CallV Tryz.prog (105 : Nat) (Array.mk [Value.slice (some (Addr.mk r (0 : Nat) none)) (2 : Nat) (2 : Nat)]) V fun (r : Value) (V : View) => ∃ (x : Sl), r = Value.slice (Sl.a x) (Sl.n x) (Sl.c x) ∧ Q (Value.tuple (Array.mk [Value.slice (Sl.a x) (Sl.n x) (Sl.c x), Value.int IntKind.i64 (0 : Int)])) V))
def f81_ac : AC := (.seq (.reg ⟨.done, false, [], [], none⟩) (.seq (.seq (.reg ⟨.done, false, [], [], none⟩) (.cond none (.seq (.reg ⟨.done, false, [], [], none⟩) .leaf) .leaf)) (.seq (.reg ⟨.done, false, [], [], none⟩) (.seq (.seq (.reg ⟨.done, false, [], [], none⟩) (.cond none (.seq (.reg ⟨.done, false, [], [], none⟩) .leaf) .leaf)) (.seq (.reg ⟨(.fl 0 (.fl 1 (.fl 2 (.fl 3 (.fl 4 (.fl 5 (.fl 6 (.alt 7 false false (.alt 8 false false (.fl 9 (.fl 10 .done)) .no) .no)))))))), false, [], [], none⟩) .leaf)))))
theorem f81_x {a0 : Sl} {a1 : ByteArray} {V : View} {Q : Value → View → Prop} (h : f81_n a0 a1 V Q) : CallV Tryz.prog 81 ⟨[(.slice a0.a a0.n a0.c), (.string a1)]⟩ V Q :=
  XF_sound (wr := false) Tryz.checked.mixed (enters_of (fn := Tryz.f81) (by kernel_rfl) (by kernel_rfl) (by kernel_rfl)) (fn := Tryz.f81) (by kernel_rfl) (ac := f81_ac)
    (Eq.mp (show f81_n a0 a1 V Q = XF Tryz.prog false Tryz.f81 (f81_ac) [(.slice a0.a a0.n a0.c), (.string a1)] V Q from by kernel_rfl) h)
/-- potsherd/dir.Inside$1 -/
def f82_n (a0 : Int) (z0 : Addr) (V : View) (Q : Value → View → Prop) : Prop :=
    joinP [K.bool] (fun (J : CurP [K.bool]) => br (decide ((0 : Int) ≤ a0)) (∃ (x : Sl), View.cell? V (Addr.add z0 (0 : Nat)) = some (Value.slice (Sl.a x) (Sl.n x) (Sl.c x)) ∧ J (decide (a0 < (↑(Sl.n x) : Int))) V) (J false V)) fun (x : Bool) (V : View) => Q (Value.bool x) V
def f82_ac : AC := (.seq (.reg ⟨.done, false, [], [], none⟩) (.seq (.reg ⟨.done, false, [], [], (some ⟨[4, 5, 6, 7, 8, 9, 10, 11, 12], [(3, .bool)], []⟩)⟩) .leaf))
theorem f82_x {a0 : Int} {z0 : Addr} {V : View} {Q : Value → View → Prop} (h : f82_n a0 z0 V Q) : CallV Tryz.prog 82 ⟨[(.int .i64 a0), (.pointer (some z0))]⟩ V Q :=
  XF_sound (wr := false) Tryz.checked.mixed (enters_of (fn := Tryz.f82) (by kernel_rfl) (by kernel_rfl) (by kernel_rfl)) (fn := Tryz.f82) (by kernel_rfl) (ac := f82_ac)
    (Eq.mp (show f82_n a0 z0 V Q = XF Tryz.prog false Tryz.f82 (f82_ac) [(.int .i64 a0), (.pointer (some z0))] V Q from by kernel_rfl) h)
/-- slices.IndexFunc[[]potsherd/api.Node,potsherd/api.Node] -/
def f83_n (a0 : Sl) (g1 : FuncId) (x1 : List Value) (y1 : List Value) (V : View) (Q : Value → View → Prop) : Prop :=
    loopP [K.int IntKind.i64] (fun (x : Int) (V : View) (J : CurP [K.int IntKind.i64]) => br (decide (x < (↑(Sl.n a0) : Int))) ((0 : Int) ≤ x ∧ x < (↑(Sl.n a0) : Int) ∧ ∃ (ad : Addr), Sl.a a0 = some ad ∧ ∃ (x_1 : Int), ∃ (x_2 : Int), ∃ (x_3 : Int), ∃ (x_4 : Sl), ∃ (x_5 : Sl), cellsAt V (Addr.add ad (Int.toNat x * (5 : Nat))) [Value.int IntKind.i64 x_1, Value.int IntKind.i64 x_2, Value.int IntKind.i64 x_3, Value.slice (Sl.a x_4) (Sl.n x_4) (Sl.c x_4), Value.slice (Sl.a x_5) (Sl.n x_5) (Sl.c x_5)] ∧ CallV Tryz.prog g1 (Array.mk (Array.toList (Array.mk x1) ++ [Value.agg (Array.mk [Value.int IntKind.i64 x_1, Value.int IntKind.i64 x_2, Value.int IntKind.i64 x_3, Value.slice (Sl.a x_4) (Sl.n x_4) (Sl.c x_4), Value.slice (Sl.a x_5) (Sl.n x_5) (Sl.c x_5)])] ++ Array.toList (Array.mk y1))) V fun (r : Value) (V : View) => ∃ (x_6 : Bool), r = Value.bool x_6 ∧ br x_6 (Q (Value.int IntKind.i64 x) V) (inI IntKind.i64 (x + (1 : Int)) ∧ J (x + (1 : Int)) V)) (Q (Value.int IntKind.i64 (-1 : Int)) V)) ((0 : Int), ()) V
def f83_ac : AC := (.seq (.reg ⟨.done, false, [], [], none⟩) (.seq (.seq (.reg ⟨.done, false, [], [], none⟩) (.block none (.loop ⟨[5, 9, 10, 11, 12, 13, 14, 15, 16, 18], [(8, .int .i64)], []⟩ (.seq (.reg ⟨.done, false, [], [], none⟩) (.seq (.cond none .leaf .leaf) (.seq (.block none (.seq (.reg ⟨.done, false, [], [], none⟩) (.seq (.reg ⟨.done, false, [], [], none⟩) (.cond none (.seq (.reg ⟨.done, false, [], [], none⟩) .leaf) .leaf)))) (.reg ⟨.done, false, [], [], none⟩))))))) (.seq (.reg ⟨.done, false, [], [], none⟩) .leaf)))
theorem f83_x {a0 : Sl} {g1 : FuncId} {x1 : List Value} {y1 : List Value} {V : View} {Q : Value → View → Prop} (h : f83_n a0 g1 x1 y1 V Q) : CallV Tryz.prog 83 ⟨[(.slice a0.a a0.n a0.c), (.func (.func g1) ⟨x1⟩ ⟨y1⟩)]⟩ V Q :=
  XF_sound (wr := false) Tryz.checked.mixed (enters_of (fn := Tryz.f83) (by kernel_rfl) (by kernel_rfl) (by kernel_rfl)) (fn := Tryz.f83) (by kernel_rfl) (ac := f83_ac)
    (Eq.mp (show f83_n a0 g1 x1 y1 V Q = XF Tryz.prog false Tryz.f83 (f83_ac) [(.slice a0.a a0.n a0.c), (.func (.func g1) ⟨x1⟩ ⟨y1⟩)] V Q from by kernel_rfl) h)
/-- potsherd/node.file -/
def f84_n (a0_0 : Int) (a0_1 : Int) (a0_2 : Int) (a0_3 : Sl) (a0_4 : Sl) (V : View) (Q : Value → View → Prop) : Prop :=
    ∀ (b : Nat), joinP [K.bool] (fun (J : CurP [K.bool]) => CallV Tryz.prog (106 : Nat) (Array.mk [Value.int IntKind.i64 a0_1, Value.int IntKind.i64 (120 : Int)]) V fun (r : Value) (V : View) => ∃ (x : Bool), r = Value.bool x ∧ br (!x) (J true V) (CallV Tryz.prog (106 : Nat) (Array.mk [Value.int IntKind.i64 a0_2, Value.int IntKind.i64 (80 : Int)]) V fun (r : Value) (V : View) => ∃ (x : Bool), r = Value.bool x ∧ J (bif bif !x then true else !decide ((↑(Sl.n a0_3) : Int) = (5 : Int)) then true else decide ((0 : Int) < (↑(Sl.n a0_4) : Int))) V)) fun (x : Bool) (V : View) => br x (Q (Value.bool false) V) (loopP [K.int IntKind.i64] (fun (x : Int) (V : View) (J : CurP [K.int IntKind.i64]) => br (decide (x < (↑(Sl.n a0_3) : Int))) ((0 : Int) ≤ x ∧ x < (↑(Sl.n a0_3) : Int) ∧ ∃ (ad : Addr), Sl.a a0_3 = some ad ∧ ∃ (x_1 : Int), View.cell? V (Addr.add ad (Int.toNat x * (1 : Nat))) = some (Value.int IntKind.i64 x_1) ∧ joinP [K.bool] (fun (J : CurP [K.bool]) => CallV Tryz.prog (106 : Nat) (Array.mk [Value.int IntKind.i64 x_1, Value.int IntKind.i64 (1099511627776 : Int)]) V fun (r : Value) (V : View) => ∃ (x_2 : Bool), r = Value.bool x_2 ∧ br (!x_2) (J true V) (inI IntKind.i64 (x * (16 : Int)) ∧ J (bif decide (a0_2 ≤ x * (16 : Int)) then !decide (x_1 = (0 : Int)) else false) V)) fun (x_2 : Bool) (V : View) => br x_2 (Q (Value.bool false) V) (inI IntKind.i64 (x + (1 : Int)) ∧ J (x + (1 : Int)) V)) (Q (Value.bool true) V)) ((0 : Int), ()) V)
def f84_ac : AC := (.seq (.reg ⟨.done, false, [], [], none⟩) (.seq (.seq (.reg ⟨.done, false, [], [], (some ⟨[5, 6, 7, 8, 9, 10, 11, 12, 13, 14, 15, 16, 17, 18, 19, 20, 21, 22, 23, 24, 25], [(26, .bool)], []⟩)⟩) (.cond none (.seq (.reg ⟨.done, false, [], [], none⟩) .leaf) .leaf)) (.seq (.seq (.reg ⟨.done, false, [], [], none⟩) (.block none (.loop ⟨[3, 4, 31, 32, 33, 34, 35, 36, 37, 38, 39, 40, 41, 42, 43, 44, 45, 46, 47, 48, 49], [(30, .int .i64)], []⟩ (.seq (.reg ⟨.done, false, [], [], none⟩) (.seq (.cond none .leaf .leaf) (.seq (.block none (.seq (.reg ⟨.done, false, [], [], none⟩) (.seq (.reg ⟨.done, false, [], [], (some ⟨[35, 36, 37, 38, 39, 40, 41, 42, 43, 44, 45, 46, 47], [(48, .bool)], []⟩)⟩) (.cond none (.seq (.reg ⟨.done, false, [], [], none⟩) .leaf) .leaf)))) (.reg ⟨.done, false, [], [], none⟩))))))) (.seq (.reg ⟨.done, false, [], [], none⟩) .leaf))))
theorem f84_x {a0_0 : Int} {a0_1 : Int} {a0_2 : Int} {a0_3 : Sl} {a0_4 : Sl} {V : View} {Q : Value → View → Prop} (h : f84_n a0_0 a0_1 a0_2 a0_3 a0_4 V Q) : CallV Tryz.prog 84 ⟨[(.agg ⟨[(.int .i64 a0_0), (.int .i64 a0_1), (.int .i64 a0_2), (.slice a0_3.a a0_3.n a0_3.c), (.slice a0_4.a a0_4.n a0_4.c)]⟩)]⟩ V Q :=
  XF_sound (wr := false) Tryz.checked.mixed (enters_of (fn := Tryz.f84) (by kernel_rfl) (by kernel_rfl) (by kernel_rfl)) (fn := Tryz.f84) (by kernel_rfl) (ac := f84_ac)
    (Eq.mp (show f84_n a0_0 a0_1 a0_2 a0_3 a0_4 V Q = XF Tryz.prog false Tryz.f84 (f84_ac) [(.agg ⟨[(.int .i64 a0_0), (.int .i64 a0_1), (.int .i64 a0_2), (.slice a0_3.a a0_3.n a0_3.c), (.slice a0_4.a a0_4.n a0_4.c)]⟩)] V Q from by kernel_rfl) h)
/-- potsherd/name.May -/
def f85_n (a0 : Sl) (V : View) (Q : Value → View → Prop) : Prop :=
    loopP [K.int IntKind.i64] (fun (x : Int) (V : View) (J : CurP [K.int IntKind.i64]) => br (decide (x < (↑(Sl.n a0) : Int))) ((0 : Int) ≤ x ∧ x < (↑(Sl.n a0) : Int) ∧ ∃ (ad : Addr), Sl.a a0 = some ad ∧ ∃ (x_1 : ByteArray), ∃ (x_2 : Int), cellsAt V (Addr.add ad (Int.toNat x * (2 : Nat))) [Value.string x_1, Value.int IntKind.i64 x_2] ∧ ∀ (b : Nat), joinP [K.bool] (fun (J : CurP [K.bool]) => True ∧ ∃ (S : View), View.Le S V ∧ CallV Tryz.prog (104 : Nat) (Array.mk [Value.agg (Array.mk [Value.string x_1, Value.int IntKind.i64 x_2])]) V fun (r : Value) (V : View) => ∃ (x_3 : Bool), r = Value.bool x_3 ∧ View.Le S V ∧ ∃ (S' : View), View.Le S S' ∧ View.Le S' V ∧ br (!x_3) (J true V) (br (decide ((0 : Int) < x)) (inI IntKind.i64 (x - (1 : Int)) ∧ (0 : Int) ≤ x - (1 : Int) ∧ x - (1 : Int) < (↑(Sl.n a0) : Int) ∧ ∃ (ad : Addr), Sl.a a0 = some ad ∧ ∃ (x_4 : ByteArray), View.cell? S' (Addr.add (Addr.add ad (Int.toNat (x - (1 : Int)) * (2 : Nat))) (0 : Nat)) = some (Value.string x_4) ∧ J (!sLess x_4 x_1) V) (J false V))) fun (x_3 : Bool) (V : View) => br x_3 (Q (Value.bool false) V) (inI IntKind.i64 (x + (1 : Int)) ∧ J (x + (1 : Int)) V)) (Q (Value.bool (decide ((↑(Sl.n a0) : Int) ≤ (10 : Int)))) V)) ((0 : Int), ()) V
def f85_ac : AC := (.seq (.reg ⟨.done, false, [], [], none⟩) (.seq (.seq (.reg ⟨.done, false, [], [], none⟩) (.block none (.loop ⟨[3, 4, 8, 9, 10, 11, 12, 13, 14, 15, 16, 17, 18, 19, 20, 21, 22, 23, 24, 25, 26, 27, 28, 29, 30], [(7, .int .i64)], []⟩ (.seq (.reg ⟨.done, false, [], [], none⟩) (.seq (.cond none .leaf .leaf) (.seq (.block none (.seq (.reg ⟨.done, false, [], [], none⟩) (.seq (.reg ⟨(.fl 0 (.alt 1 true true (.fl 2 (.fl 3 (.fl 4 (.fl 5 (.fl 6 (.fl 7 (.fl 8 (.fl 9 (.fl 10 (.fl 11 (.fl 12 (.fl 13 (.fl 14 (.fl 15 (.fl 16 (.fl 17 .done)))))))))))))))) .no)), true, [], [], (some ⟨[12, 13, 14, 15, 16, 17, 18, 19, 20, 21, 22, 23, 24, 25, 26, 27, 28], [(29, .bool)], []⟩)⟩) (.cond none (.seq (.reg ⟨.done, false, [], [], none⟩) .leaf) .leaf)))) (.reg ⟨.done, false, [], [], none⟩))))))) (.seq (.reg ⟨.done, false, [], [], none⟩) .leaf)))
theorem f85_x {a0 : Sl} {V : View} {Q : Value → View → Prop} (h : f85_n a0 V Q) : CallV Tryz.prog 85 ⟨[(.slice a0.a a0.n a0.c)]⟩ V Q :=
  XF_sound (wr := false) Tryz.checked.mixed (enters_of (fn := Tryz.f85) (by kernel_rfl) (by kernel_rfl) (by kernel_rfl)) (fn := Tryz.f85) (by kernel_rfl) (ac := f85_ac)
    (Eq.mp (show f85_n a0 V Q = XF Tryz.prog false Tryz.f85 (f85_ac) [(.slice a0.a a0.n a0.c)] V Q from by kernel_rfl) h)
/-- potsherd/potsherdref12.Free -/
def f86_n (a0_0 : Sl) (V : View) (Q : Value → View → Prop) : Prop :=
    ∀ (b : Nat), CallV Tryz.prog (11 : Nat) (Array.mk [Value.agg (Array.mk [Value.slice (Sl.a a0_0) (Sl.n a0_0) (Sl.c a0_0)])]) V fun (r : Value) (V : View) => ∃ (x : Bool), r = Value.bool x ∧ br (!x) (Q (Value.int IntKind.i64 (-1 : Int)) V) (loopP [K.int IntKind.i64] (fun (x : Int) (V : View) (J : CurP [K.int IntKind.i64]) => br (decide (x < (↑(Sl.n a0_0) : Int))) ((0 : Int) ≤ x ∧ x < (↑(Sl.n a0_0) : Int) ∧ ∃ (ad : Addr), Sl.a a0_0 = some ad ∧ ∃ (x_1 : Int), ∃ (x_2 : Int), ∃ (x_3 : Int), ∃ (x_4 : Sl), ∃ (x_5 : Sl), cellsAt V (Addr.add ad (Int.toNat x * (5 : Nat))) [Value.int IntKind.i64 x_1, Value.int IntKind.i64 x_2, Value.int IntKind.i64 x_3, Value.slice (Sl.a x_4) (Sl.n x_4) (Sl.c x_4), Value.slice (Sl.a x_5) (Sl.n x_5) (Sl.c x_5)] ∧ ∀ (b : Nat), br (decide (x_1 = (0 : Int))) (Q (Value.int IntKind.i64 x) V) (inI IntKind.i64 (x + (1 : Int)) ∧ J (x + (1 : Int)) V)) (Q (Value.int IntKind.i64 (-1 : Int)) V)) ((0 : Int), ()) V)
def f86_ac : AC := (.seq (.reg ⟨.done, false, [], [], none⟩) (.seq (.seq (.reg ⟨.done, false, [], [], none⟩) (.cond none (.seq (.reg ⟨.done, false, [], [], none⟩) .leaf) .leaf)) (.seq (.seq (.reg ⟨.done, false, [], [], none⟩) (.block none (.loop ⟨[3, 4, 12, 13, 14, 15, 16, 17, 18, 20], [(11, .int .i64)], []⟩ (.seq (.reg ⟨.done, false, [], [], none⟩) (.seq (.cond none .leaf .leaf) (.seq (.block none (.seq (.reg ⟨.done, false, [], [], none⟩) (.seq (.reg ⟨.done, false, [], [], none⟩) (.cond none (.seq (.reg ⟨.done, false, [], [], none⟩) .leaf) .leaf)))) (.reg ⟨.done, false, [], [], none⟩))))))) (.seq (.reg ⟨.done, false, [], [], none⟩) .leaf))))
theorem f86_x {a0_0 : Sl} {V : View} {Q : Value → View → Prop} (h : f86_n a0_0 V Q) : CallV Tryz.prog 86 ⟨[(.agg ⟨[(.slice a0_0.a a0_0.n a0_0.c)]⟩)]⟩ V Q :=
  XF_sound (wr := false) Tryz.checked.mixed (enters_of (fn := Tryz.f86) (by kernel_rfl) (by kernel_rfl) (by kernel_rfl)) (fn := Tryz.f86) (by kernel_rfl) (ac := f86_ac)
    (Eq.mp (show f86_n a0_0 V Q = XF Tryz.prog false Tryz.f86 (f86_ac) [(.agg ⟨[(.slice a0_0.a a0_0.n a0_0.c)]⟩)] V Q from by kernel_rfl) h)
/-- potsherd/potsherdref12.EmptyNode -/
def f87_n (a0 : Int) (V : View) (Q : Value → View → Prop) : Prop :=
    ∀ (b : Nat), br (decide (a0 = (1 : Int))) ((0 : Int) ≤ (5 : Int) ∧ (5 : Int) ≤ (5 : Int) ∧ (5 : Int) * (↑(TypeInfo.bytes (Tables.types (Program.toTables Tryz.prog))[(3 : Nat)]) : Int) ≤ (140737488355328 : Int) ∧ (5 : Int) ≤ (140737488355328 : Int) ∧ newB V (Obj.cells (Array.mk (List.flatten (List.replicate (5 : Nat) [Value.int IntKind.i64 (0 : Int)]))) (3 : Nat)) fun (r : Nat) (V : View) => Q (Value.agg (Array.mk [Value.int IntKind.i64 a0, Value.int IntKind.i64 (1 : Int), Value.int IntKind.i64 (0 : Int), Value.slice (some (Addr.mk r (0 : Nat) none)) (5 : Nat) (5 : Nat), Value.slice none (0 : Nat) (0 : Nat)])) V) (br (decide (a0 = (2 : Int))) (Q (Value.agg (Array.mk [Value.int IntKind.i64 a0, Value.int IntKind.i64 (1 : Int), Value.int IntKind.i64 (0 : Int), Value.slice none (0 : Nat) (0 : Nat), Value.slice none (0 : Nat) (0 : Nat)])) V) (Q (Value.agg (Array.mk [Value.int IntKind.i64 (0 : Int), Value.int IntKind.i64 (0 : Int), Value.int IntKind.i64 (0 : Int), Value.slice none (0 : Nat) (0 : Nat), Value.slice none (0 : Nat) (0 : Nat)])) V))
def f87_ac : AC := (.seq (.reg ⟨.done, false, [], [], none⟩) (.seq (.seq (.reg ⟨.done, false, [], [], none⟩) (.block none (.seq (.reg ⟨.done, false, [], [], none⟩) (.cond none (.seq (.reg ⟨.done, false, [], [], none⟩) .leaf) (.seq (.reg ⟨.done, false, [], [], none⟩) (.cond none (.seq (.reg ⟨.done, false, [], [], none⟩) .leaf) .leaf)))))) (.seq (.reg ⟨.done, false, [], [], none⟩) .leaf)))
theorem f87_x {a0 : Int} {V : View} {Q : Value → View → Prop} (h : f87_n a0 V Q) : CallV Tryz.prog 87 ⟨[(.int .i64 a0)]⟩ V Q :=
  XF_sound (wr := false) Tryz.checked.mixed (enters_of (fn := Tryz.f87) (by kernel_rfl) (by kernel_rfl) (by kernel_rfl)) (fn := Tryz.f87) (by kernel_rfl) (ac := f87_ac)
    (Eq.mp (show f87_n a0 V Q = XF Tryz.prog false Tryz.f87 (f87_ac) [(.int .i64 a0)] V Q from by kernel_rfl) h)
/-- potsherd/potsherdref12.Last -/
def f88_n (a0 : ByteArray) (V : View) (Q : Value → View → Prop) : Prop :=
    CallV Tryz.prog (89 : Nat) (Array.mk [Value.string a0]) V fun (r : Value) (V : View) => ∃ (x : Sl), ∃ (x_1 : Int), r = Value.tuple (Array.mk [Value.slice (Sl.a x) (Sl.n x) (Sl.c x), Value.int IntKind.i64 x_1]) ∧ br (!decide (x_1 = (0 : Int))) (Q (Value.tuple (Array.mk [Value.string (ByteArray.mk #[]), Value.string (ByteArray.mk #[]), Value.int IntKind.i64 x_1])) V) (br (decide ((↑(Sl.n x) : Int) = (0 : Int))) (Q (Value.tuple (Array.mk [Value.string (ByteArray.mk #[]), Value.string (ByteArray.mk #[]), Value.int IntKind.i64 (18 : Int)])) V) (True ∧ ∃ (S : View), View.Le S V ∧ inI IntKind.i64 ((↑(Sl.n x) : Int) - (1 : Int)) ∧ (0 : Int) ≤ (0 : Int) ∧ (0 : Int) ≤ (↑(Sl.n x) : Int) - (1 : Int) ∧ (↑(Sl.n x) : Int) - (1 : Int) ≤ (↑(Sl.c x) : Int) ∧ inI IntKind.i64 ((↑(Sl.n x) : Int) - (1 : Int)) ∧ (0 : Int) ≤ (↑(Sl.n x) : Int) - (1 : Int) ∧ (↑(Sl.n x) : Int) - (1 : Int) < (↑(Sl.n x) : Int) ∧ ∃ (ad : Addr), Sl.a x = some ad ∧ ∃ (x_2 : ByteArray), View.cell? S (Addr.add ad (Int.toNat ((↑(Sl.n x) : Int) - (1 : Int)) * (1 : Nat))) = some (Value.string x_2) ∧ CallV Tryz.prog (107 : Nat) (Array.mk [Value.slice (if Sl.c x = (0 : Nat) then Sl.a x else Option.map (fun (x : Addr) => Addr.add x (0 : Nat)) (Sl.a x)) (Int.toNat ((↑(Sl.n x) : Int) - (1 : Int)) - (0 : Nat)) (Sl.c x - (0 : Nat))]) V fun (r : Value) (V : View) => ∃ (x : ByteArray), r = Value.string x ∧ View.Le S V ∧ Q (Value.tuple (Array.mk [Value.string x, Value.string x_2, Value.int IntKind.i64 (0 : Int)])) V))
def f88_ac : AC := (.seq (.reg ⟨.done, false, [], [], none⟩) (.seq (.reg ⟨.done, false, [], [], none⟩) (.seq (.seq (.reg ⟨.done, false, [], [], none⟩) (.cond none (.seq (.reg ⟨.done, false, [], [], none⟩) .leaf) .leaf)) (.seq (.seq (.reg ⟨.done, false, [], [], none⟩) (.cond none (.seq (.reg ⟨.done, false, [], [], none⟩) .leaf) .leaf)) (.seq (.reg ⟨(.fl 0 (.fl 1 (.fl 2 (.fl 3 (.fl 4 (.fl 6 (.fl 7 (.fl 8 (.fl 9 (.fl 10 (.fl 11 (.alt 5 true false (.fl 12 (.fl 13 (.fl 14 .done))) .no)))))))))))), true, [], [], none⟩) .leaf)))))
theorem f88_x {a0 : ByteArray} {V : View} {Q : Value → View → Prop} (h : f88_n a0 V Q) : CallV Tryz.prog 88 ⟨[(.string a0)]⟩ V Q :=
  XF_sound (wr := false) Tryz.checked.mixed (enters_of (fn := Tryz.f88) (by kernel_rfl) (by kernel_rfl) (by kernel_rfl)) (fn := Tryz.f88) (by kernel_rfl) (ac := f88_ac)
    (Eq.mp (show f88_n a0 V Q = XF Tryz.prog false Tryz.f88 (f88_ac) [(.string a0)] V Q from by kernel_rfl) h)
/-- potsherd/potsherdref12.Split -/
def f89_n (a0 : ByteArray) (V : View) (Q : Value → View → Prop) : Prop :=
    joinP [K.bool] (fun (J : CurP [K.bool]) => br (bif decide ((60 : Int) < (↑(ByteArray.size a0) : Int)) then true else decide ((↑(ByteArray.size a0) : Int) < (1 : Int))) (J true V) ((0 : Int) ≤ (0 : Int) ∧ (0 : Int) < (↑(ByteArray.size a0) : Int) ∧ J (!decide ((↑(UInt8.toNat (List.getD (Array.toList (ByteArray.data a0)) (Int.toNat (0 : Int)) (0 : UInt8))) : Int) = (47 : Int))) V)) fun (x : Bool) (V : View) => br x (Q (Value.tuple (Array.mk [Value.slice none (0 : Nat) (0 : Nat), Value.int IntKind.i64 (7 : Int)])) V) (br (decide (a0 = ByteArray.mk #[(47 : UInt8)])) (Q (Value.tuple (Array.mk [Value.slice none (0 : Nat) (0 : Nat), Value.int IntKind.i64 (0 : Int)])) V) (loopP [K.sl, K.int IntKind.i64, K.int IntKind.i64] (fun (x : Sl) (x_1 x_2 : Int) (V : View) (J : CurP [K.sl, K.int IntKind.i64, K.int IntKind.i64]) => br (decide (x_2 ≤ (↑(ByteArray.size a0) : Int))) (joinP [K.sl, K.int IntKind.i64] (fun (J : CurP [K.sl, K.int IntKind.i64]) => joinP [K.bool] (fun (J : CurP [K.bool]) => br (decide (x_2 < (↑(ByteArray.size a0) : Int))) ((0 : Int) ≤ x_2 ∧ x_2 < (↑(ByteArray.size a0) : Int) ∧ J (!decide ((↑(UInt8.toNat (List.getD (Array.toList (ByteArray.data a0)) (Int.toNat x_2) (0 : UInt8))) : Int) = (47 : Int))) V) (J false V)) fun (x_3 : Bool) (V : View) => br x_3 (J (Sl.mk (Sl.a x) (Sl.n x) (Sl.c x)) x_1 V) ((0 : Int) ≤ x_1 ∧ x_1 ≤ x_2 ∧ x_2 ≤ (↑(ByteArray.size a0) : Int) ∧ CallV Tryz.prog (93 : Nat) (Array.mk [Value.string (ByteArray.extract a0 (Int.toNat x_1) (Int.toNat x_2))]) V fun (r : Value) (V : View) => ∃ (x_4 : Bool), r = Value.bool x_4 ∧ br (!x_4) (Q (Value.tuple (Array.mk [Value.slice none (0 : Nat) (0 : Nat), Value.int IntKind.i64 (7 : Int)])) V) ((0 : Int) ≤ x_1 ∧ x_1 ≤ x_2 ∧ x_2 ≤ (↑(ByteArray.size a0) : Int) ∧ newB V (Obj.cells (Array.mk (putL [Value.string (ByteArray.mk #[])] (0 : Nat) [Value.string (ByteArray.extract a0 (Int.toNat x_1) (Int.toNat x_2))])) (9 : Nat)) fun (r : Nat) (V : View) => apV V (9 : Nat) (1 : Nat) (16 : Nat) [Value.string (ByteArray.mk #[])] (Sl.mk (Sl.a x) (Sl.n x) (Sl.c x)) (Value.slice (some (Addr.mk r (0 : Nat) none)) (1 : Nat) (1 : Nat)) fun (s : Sl) (V : View) => inI IntKind.i64 (x_2 + (1 : Int)) ∧ J (Sl.mk (Sl.a s) (Sl.n s) (Sl.c s)) (x_2 + (1 : Int)) V))) fun (x : Sl) (x_3 : Int) (V : View) => inI IntKind.i64 (x_2 + (1 : Int)) ∧ J (Sl.mk (Sl.a x) (Sl.n x) (Sl.c x)) x_3 (x_2 + (1 : Int)) V) (Q (Value.tuple (Array.mk [Value.slice (Sl.a x) (Sl.n x) (Sl.c x), Value.int IntKind.i64 (0 : Int)])) V)) (Sl.mk none (0 : Nat) (0 : Nat), (1 : Int), (1 : Int), ()) V))
def f89_ac : AC := (.seq (.reg ⟨.done, false, [], [], none⟩) (.seq (.seq (.reg ⟨.done, false, [], [], (some ⟨[7, 8, 9, 10, 11, 12, 13, 14, 15, 16, 17, 18], [(19, .bool)], []⟩)⟩) (.cond none (.seq (.reg ⟨.done, false, [], [], none⟩) .leaf) .leaf)) (.seq (.reg ⟨.done, false, [], [], none⟩) (.seq (.seq (.reg ⟨.done, false, [], [], none⟩) (.cond none (.seq (.reg ⟨.done, false, [], [], none⟩) .leaf) .leaf)) (.seq (.reg ⟨.done, false, [], [], none⟩) (.seq (.seq (.reg ⟨.done, false, [], [], none⟩) (.block none (.loop ⟨[22, 23, 24, 25, 26, 27, 28, 29, 30, 31, 32, 33, 34, 35, 36, 37, 38, 39, 40, 41, 42, 43, 44, 45, 46, 47, 48, 49, 50, 51, 52], [(4, .sl), (5, .int .i64), (6, .int .i64)], []⟩ (.seq (.seq (.reg ⟨.done, false, [], [], none⟩) (.cond none .leaf .leaf)) (.seq (.block (some ⟨[28, 29, 30, 31, 32, 33, 34, 35, 36, 37, 38, 39, 40, 41, 42, 43, 44, 45, 46, 47, 48, 49, 50, 51, 52], [(4, .sl), (5, .int .i64)], []⟩) (.seq (.seq (.reg ⟨.done, false, [], [], (some ⟨[28, 29, 30, 31, 32, 33, 34, 35, 36], [(37, .bool)], []⟩)⟩) (.cond none .leaf .leaf)) (.seq (.seq (.reg ⟨.done, false, [], [], none⟩) (.cond none (.seq (.reg ⟨.done, false, [], [], none⟩) .leaf) .leaf)) (.seq (.reg ⟨.done, false, [], [], none⟩) (.reg ⟨.done, false, [], [], none⟩))))) (.reg ⟨.done, false, [], [], none⟩)))))) (.seq (.reg ⟨.done, false, [], [], none⟩) .leaf)))))))
theorem f89_x {a0 : ByteArray} {V : View} {Q : Value → View → Prop} (h : f89_n a0 V Q) : CallV Tryz.prog 89 ⟨[(.string a0)]⟩ V Q :=
  XF_sound (wr := false) Tryz.checked.mixed (enters_of (fn := Tryz.f89) (by kernel_rfl) (by kernel_rfl) (by kernel_rfl)) (fn := Tryz.f89) (by kernel_rfl) (ac := f89_ac)
    (Eq.mp (show f89_n a0 V Q = XF Tryz.prog false Tryz.f89 (f89_ac) [(.string a0)] V Q from by kernel_rfl) h)
/-- potsherd/potsherdref12.find -/
def f90_n (a0_0 : Sl) (a1 : Sl) (V : View) (Q : Value → View → Prop) : Prop :=
    ∀ (b : Nat), loopP [K.int IntKind.i64, K.int IntKind.i64] (fun (x x_1 : Int) (V : View) (J : CurP [K.int IntKind.i64, K.int IntKind.i64]) => br (decide (x_1 < (↑(Sl.n a1) : Int))) ((0 : Int) ≤ x_1 ∧ x_1 < (↑(Sl.n a1) : Int) ∧ ∃ (ad : Addr), Sl.a a1 = some ad ∧ ∃ (x_2 : ByteArray), View.cell? V (Addr.add ad (Int.toNat x_1 * (1 : Nat))) = some (Value.string x_2) ∧ (0 : Int) ≤ x ∧ x < (↑(Sl.n a0_0) : Int) ∧ ∃ (ad : Addr), Sl.a a0_0 = some ad ∧ ∃ (x_3 : Int), View.cell? V (Addr.add (Addr.add ad (Int.toNat x * (5 : Nat))) (0 : Nat)) = some (Value.int IntKind.i64 x_3) ∧ br (!decide (x_3 = (2 : Int))) (Q (Value.tuple (Array.mk [Value.int IntKind.i64 (0 : Int), Value.int IntKind.i64 (11 : Int)])) V) ((0 : Int) ≤ x ∧ x < (↑(Sl.n a0_0) : Int) ∧ ∃ (ad : Addr), Sl.a a0_0 = some ad ∧ ∃ (x_4 : Sl), View.cell? V (Addr.add (Addr.add ad (Int.toNat x * (5 : Nat))) (4 : Nat)) = some (Value.slice (Sl.a x_4) (Sl.n x_4) (Sl.c x_4)) ∧ CallV Tryz.prog (59 : Nat) (Array.mk [Value.slice (Sl.a x_4) (Sl.n x_4) (Sl.c x_4), Value.string x_2]) V fun (r : Value) (V : View) => ∃ (x : Int), r = Value.int IntKind.i64 x ∧ br (decide (x < (0 : Int))) (Q (Value.tuple (Array.mk [Value.int IntKind.i64 (0 : Int), Value.int IntKind.i64 (8 : Int)])) V) (inI IntKind.i64 (x_1 + (1 : Int)) ∧ J x (x_1 + (1 : Int)) V))) (Q (Value.tuple (Array.mk [Value.int IntKind.i64 x, Value.int IntKind.i64 (0 : Int)])) V)) ((0 : Int), (0 : Int), ()) V
def f90_ac : AC := (.seq (.reg ⟨.done, false, [], [], none⟩) (.seq (.reg ⟨.done, false, [], [], none⟩) (.seq (.seq (.reg ⟨.done, false, [], [], none⟩) (.block none (.loop ⟨[8, 12, 13, 14, 15, 16, 17, 18, 19, 20, 21, 22, 23, 24, 25, 26, 27, 28, 29, 30, 31, 32], [(6, .int .i64), (11, .int .i64)], []⟩ (.seq (.reg ⟨.done, false, [], [], none⟩) (.seq (.cond none .leaf .leaf) (.seq (.block none (.seq (.reg ⟨.done, false, [], [], none⟩) (.seq (.seq (.reg ⟨.done, false, [], [], none⟩) (.cond none (.seq (.reg ⟨.done, false, [], [], none⟩) .leaf) .leaf)) (.seq (.reg ⟨.done, false, [], [], none⟩) (.seq (.reg ⟨.done, false, [], [], none⟩) (.cond none (.seq (.reg ⟨.done, false, [], [], none⟩) .leaf) .leaf)))))) (.reg ⟨.done, false, [], [], none⟩))))))) (.seq (.reg ⟨.done, false, [], [], none⟩) .leaf))))
theorem f90_x {a0_0 : Sl} {a1 : Sl} {V : View} {Q : Value → View → Prop} (h : f90_n a0_0 a1 V Q) : CallV Tryz.prog 90 ⟨[(.agg ⟨[(.slice a0_0.a a0_0.n a0_0.c)]⟩), (.slice a1.a a1.n a1.c)]⟩ V Q :=
  XF_sound (wr := false) Tryz.checked.mixed (enters_of (fn := Tryz.f90) (by kernel_rfl) (by kernel_rfl) (by kernel_rfl)) (fn := Tryz.f90) (by kernel_rfl) (ac := f90_ac)
    (Eq.mp (show f90_n a0_0 a1 V Q = XF Tryz.prog false Tryz.f90 (f90_ac) [(.agg ⟨[(.slice a0_0.a a0_0.n a0_0.c)]⟩), (.slice a1.a a1.n a1.c)] V Q from by kernel_rfl) h)
/-- potsherd/potsherdref12.CopyNode -/
def f91_n (a0_0 : Int) (a0_1 : Int) (a0_2 : Int) (a0_3 : Sl) (a0_4 : Sl) (V : View) (Q : Value → View → Prop) : Prop :=
    ∀ (b b : Nat), True ∧ ∃ (S : View), View.Le S V ∧ apV V (3 : Nat) (1 : Nat) (8 : Nat) [Value.int IntKind.i64 (0 : Int)] (Sl.mk none (0 : Nat) (0 : Nat)) (Value.slice (Sl.a a0_3) (Sl.n a0_3) (Sl.c a0_3)) fun (s : Sl) (V : View) => View.Le S V ∧ apV V (58 : Nat) (2 : Nat) (24 : Nat) [Value.string (ByteArray.mk #[]), Value.int IntKind.i64 (0 : Int)] (Sl.mk none (0 : Nat) (0 : Nat)) (Value.slice (Sl.a a0_4) (Sl.n a0_4) (Sl.c a0_4)) fun (s_1 : Sl) (V : View) => Q (Value.agg (Array.mk [Value.int IntKind.i64 a0_0, Value.int IntKind.i64 a0_1, Value.int IntKind.i64 a0_2, Value.slice (Sl.a s) (Sl.n s) (Sl.c s), Value.slice (Sl.a s_1) (Sl.n s_1) (Sl.c s_1)])) V
def f91_ac : AC := (.seq (.reg ⟨.done, false, [], [], none⟩) (.seq (.reg ⟨(.fl 0 (.fl 1 (.fl 3 (.fl 4 (.alt 2 true false (.fl 6 (.alt 5 false false (.alt 7 false false (.fl 8 (.alt 9 false false .done .no)) .no) .no)) .no))))), true, [], [], none⟩) (.seq (.reg ⟨.done, false, [], [], none⟩) .leaf)))
theorem f91_x {a0_0 : Int} {a0_1 : Int} {a0_2 : Int} {a0_3 : Sl} {a0_4 : Sl} {V : View} {Q : Value → View → Prop} (h : f91_n a0_0 a0_1 a0_2 a0_3 a0_4 V Q) : CallV Tryz.prog 91 ⟨[(.agg ⟨[(.int .i64 a0_0), (.int .i64 a0_1), (.int .i64 a0_2), (.slice a0_3.a a0_3.n a0_3.c), (.slice a0_4.a a0_4.n a0_4.c)]⟩)]⟩ V Q :=
  XF_sound (wr := false) Tryz.checked.mixed (enters_of (fn := Tryz.f91) (by kernel_rfl) (by kernel_rfl) (by kernel_rfl)) (fn := Tryz.f91) (by kernel_rfl) (ac := f91_ac)
    (Eq.mp (show f91_n a0_0 a0_1 a0_2 a0_3 a0_4 V Q = XF Tryz.prog false Tryz.f91 (f91_ac) [(.agg ⟨[(.int .i64 a0_0), (.int .i64 a0_1), (.int .i64 a0_2), (.slice a0_3.a a0_3.n a0_3.c), (.slice a0_4.a a0_4.n a0_4.c)]⟩)] V Q from by kernel_rfl) h)
/-- potsherd/potsherdref12.isHeld -/
def f92_n (a0 : Sl) (a1 : Int) (V : View) (Q : Value → View → Prop) : Prop :=
    joinP [K.bool] (fun (J : CurP [K.bool]) => br (bif decide ((0 : Int) ≤ a1) then decide (a1 < (↑(Sl.n a0) : Int)) else false) ((0 : Int) ≤ a1 ∧ a1 < (↑(Sl.n a0) : Int) ∧ ∃ (ad : Addr), Sl.a a0 = some ad ∧ ∃ (x : Bool), View.cell? V (Addr.add ad (Int.toNat a1 * (1 : Nat))) = some (Value.bool x) ∧ J x V) (J false V)) fun (x : Bool) (V : View) => Q (Value.bool x) V
def f92_ac : AC := (.seq (.reg ⟨.done, false, [], [], none⟩) (.seq (.reg ⟨.done, false, [], [], (some ⟨[5, 6, 7, 8, 9, 10, 11, 12, 13, 14, 15, 16, 17, 18], [(4, .bool)], []⟩)⟩) .leaf))
theorem f92_x {a0 : Sl} {a1 : Int} {V : View} {Q : Value → View → Prop} (h : f92_n a0 a1 V Q) : CallV Tryz.prog 92 ⟨[(.slice a0.a a0.n a0.c), (.int .i64 a1)]⟩ V Q :=
  XF_sound (wr := false) Tryz.checked.mixed (enters_of (fn := Tryz.f92) (by kernel_rfl) (by kernel_rfl) (by kernel_rfl)) (fn := Tryz.f92) (by kernel_rfl) (ac := f92_ac)
    (Eq.mp (show f92_n a0 a1 V Q = XF Tryz.prog false Tryz.f92 (f92_ac) [(.slice a0.a a0.n a0.c), (.int .i64 a1)] V Q from by kernel_rfl) h)
/-- potsherd/potsherdref12.Name -/
def f93_n (a0 : ByteArray) (V : View) (Q : Value → View → Prop) : Prop :=
    br (bif bif bif decide ((↑(ByteArray.size a0) : Int) < (1 : Int)) then true else decide ((8 : Int) < (↑(ByteArray.size a0) : Int)) then true else decide (a0 = ByteArray.mk #[(46 : UInt8)]) then true else decide (a0 = ByteArray.mk #[(46 : UInt8), (46 : UInt8)])) (Q (Value.bool false) V) (loopP [K.int IntKind.i64] (fun (x : Int) (V : View) (J : CurP [K.int IntKind.i64]) => br (decide (x < (↑(ByteArray.size a0) : Int))) ((0 : Int) ≤ x ∧ x < (↑(ByteArray.size a0) : Int) ∧ br (bif bif bif bif bif decide ((↑(UInt8.toNat (List.getD (Array.toList (ByteArray.data a0)) (Int.toNat x) (0 : UInt8))) : Int) < (97 : Int)) then true else decide ((122 : Int) < (↑(UInt8.toNat (List.getD (Array.toList (ByteArray.data a0)) (Int.toNat x) (0 : UInt8))) : Int)) then bif decide ((↑(UInt8.toNat (List.getD (Array.toList (ByteArray.data a0)) (Int.toNat x) (0 : UInt8))) : Int) < (48 : Int)) then true else decide ((57 : Int) < (↑(UInt8.toNat (List.getD (Array.toList (ByteArray.data a0)) (Int.toNat x) (0 : UInt8))) : Int)) else false then !decide ((↑(UInt8.toNat (List.getD (Array.toList (ByteArray.data a0)) (Int.toNat x) (0 : UInt8))) : Int) = (46 : Int)) else false then !decide ((↑(UInt8.toNat (List.getD (Array.toList (ByteArray.data a0)) (Int.toNat x) (0 : UInt8))) : Int) = (95 : Int)) else false then !decide ((↑(UInt8.toNat (List.getD (Array.toList (ByteArray.data a0)) (Int.toNat x) (0 : UInt8))) : Int) = (45 : Int)) else false) (Q (Value.bool false) V) (inI IntKind.i64 (x + (1 : Int)) ∧ J (x + (1 : Int)) V)) (Q (Value.bool true) V)) ((0 : Int), ()) V)
def f93_ac : AC := (.seq (.reg ⟨.done, false, [], [], none⟩) (.seq (.seq (.reg ⟨.done, false, [], [], none⟩) (.cond none (.seq (.reg ⟨.done, false, [], [], none⟩) .leaf) .leaf)) (.seq (.seq (.reg ⟨.done, false, [], [], none⟩) (.block none (.loop ⟨[3, 4, 24, 25, 26, 27, 28, 29, 30, 31, 32, 33, 34, 35, 36, 37, 38, 39, 40, 41, 42, 43, 44, 45, 46, 47, 48, 49, 50, 51, 52, 53, 54, 55], [(23, .int .i64)], []⟩ (.seq (.reg ⟨.done, false, [], [], none⟩) (.seq (.cond none .leaf .leaf) (.seq (.block none (.seq (.reg ⟨.done, false, [], [], none⟩) (.seq (.reg ⟨.done, false, [], [], none⟩) (.seq (.reg ⟨.done, false, [], [], none⟩) (.cond none (.seq (.reg ⟨.done, false, [], [], none⟩) .leaf) .leaf))))) (.reg ⟨.done, false, [], [], none⟩))))))) (.seq (.reg ⟨.done, false, [], [], none⟩) .leaf))))
theorem f93_x {a0 : ByteArray} {V : View} {Q : Value → View → Prop} (h : f93_n a0 V Q) : CallV Tryz.prog 93 ⟨[(.string a0)]⟩ V Q :=
  XF_sound (wr := false) Tryz.checked.mixed (enters_of (fn := Tryz.f93) (by kernel_rfl) (by kernel_rfl) (by kernel_rfl)) (fn := Tryz.f93) (by kernel_rfl) (ac := f93_ac)
    (Eq.mp (show f93_n a0 V Q = XF Tryz.prog false Tryz.f93 (f93_ac) [(.string a0)] V Q from by kernel_rfl) h)
/-- slices.Equal[[]string,string] -/
def f95_n (a0 : Sl) (a1 : Sl) (V : View) (Q : Value → View → Prop) : Prop :=
    br (!decide ((↑(Sl.n a0) : Int) = (↑(Sl.n a1) : Int))) (Q (Value.bool false) V) (loopP [K.int IntKind.i64] (fun (x : Int) (V : View) (J : CurP [K.int IntKind.i64]) => br (decide (x < (↑(Sl.n a0) : Int))) (True ∧ ∃ (S : View), View.Le S V ∧ (0 : Int) ≤ x ∧ x < (↑(Sl.n a0) : Int) ∧ ∃ (ad : Addr), Sl.a a0 = some ad ∧ ∃ (x_1 : ByteArray), View.cell? S (Addr.add ad (Int.toNat x * (1 : Nat))) = some (Value.string x_1) ∧ (0 : Int) ≤ x ∧ x < (↑(Sl.n a1) : Int) ∧ ∃ (ad : Addr), Sl.a a1 = some ad ∧ ∃ (x_2 : ByteArray), View.cell? S (Addr.add ad (Int.toNat x * (1 : Nat))) = some (Value.string x_2) ∧ br (!decide (x_1 = x_2)) (Q (Value.bool false) V) (inI IntKind.i64 (x + (1 : Int)) ∧ J (x + (1 : Int)) V)) (Q (Value.bool true) V)) ((0 : Int), ()) V)
def f95_ac : AC := (.seq (.reg ⟨.done, false, [], [], none⟩) (.seq (.seq (.reg ⟨.done, false, [], [], none⟩) (.cond none (.seq (.reg ⟨.done, false, [], [], none⟩) .leaf) .leaf)) (.seq (.seq (.reg ⟨.done, false, [], [], none⟩) (.block none (.loop ⟨[5, 14, 15, 16, 17, 18, 19, 20, 21, 22, 23, 24, 25], [(13, .int .i64)], []⟩ (.seq (.reg ⟨.done, false, [], [], none⟩) (.seq (.cond none .leaf .leaf) (.seq (.block none (.seq (.reg ⟨.done, false, [], [], none⟩) (.seq (.reg ⟨(.fl 0 (.fl 1 (.fl 2 (.fl 3 (.fl 4 (.fl 5 (.fl 6 (.fl 7 (.fl 8 .done))))))))), true, [], [], none⟩) (.cond none (.seq (.reg ⟨.done, false, [], [], none⟩) .leaf) .leaf)))) (.reg ⟨.done, false, [], [], none⟩))))))) (.seq (.reg ⟨.done, false, [], [], none⟩) .leaf))))
theorem f95_x {a0 : Sl} {a1 : Sl} {V : View} {Q : Value → View → Prop} (h : f95_n a0 a1 V Q) : CallV Tryz.prog 95 ⟨[(.slice a0.a a0.n a0.c), (.slice a1.a a1.n a1.c)]⟩ V Q :=
  XF_sound (wr := false) Tryz.checked.mixed (enters_of (fn := Tryz.f95) (by kernel_rfl) (by kernel_rfl) (by kernel_rfl)) (fn := Tryz.f95) (by kernel_rfl) (ac := f95_ac)
    (Eq.mp (show f95_n a0 a1 V Q = XF Tryz.prog false Tryz.f95 (f95_ac) [(.slice a0.a a0.n a0.c), (.slice a1.a a1.n a1.c)] V Q from by kernel_rfl) h)
/-- potsherd/dir.Free$1 -/
def f96_n (a0_0 : Int) (a0_1 : Int) (a0_2 : Int) (a0_3 : Sl) (a0_4 : Sl) (V : View) (Q : Value → View → Prop) : Prop :=
    ∀ (b : Nat), Q (Value.bool (decide (a0_0 = (0 : Int)))) V
def f96_ac : AC := (.seq (.reg ⟨.done, false, [], [], none⟩) (.seq (.reg ⟨.done, false, [], [], none⟩) .leaf))
theorem f96_x {a0_0 : Int} {a0_1 : Int} {a0_2 : Int} {a0_3 : Sl} {a0_4 : Sl} {V : View} {Q : Value → View → Prop} (h : f96_n a0_0 a0_1 a0_2 a0_3 a0_4 V Q) : CallV Tryz.prog 96 ⟨[(.agg ⟨[(.int .i64 a0_0), (.int .i64 a0_1), (.int .i64 a0_2), (.slice a0_3.a a0_3.n a0_3.c), (.slice a0_4.a a0_4.n a0_4.c)]⟩)]⟩ V Q :=
  XF_sound (wr := false) Tryz.checked.mixed (enters_of (fn := Tryz.f96) (by kernel_rfl) (by kernel_rfl) (by kernel_rfl)) (fn := Tryz.f96) (by kernel_rfl) (ac := f96_ac)
    (Eq.mp (show f96_n a0_0 a0_1 a0_2 a0_3 a0_4 V Q = XF Tryz.prog false Tryz.f96 (f96_ac) [(.agg ⟨[(.int .i64 a0_0), (.int .i64 a0_1), (.int .i64 a0_2), (.slice a0_3.a a0_3.n a0_3.c), (.slice a0_4.a a0_4.n a0_4.c)]⟩)] V Q from by kernel_rfl) h)
/-- slices.IndexFunc[[]string,string] -/
def f99_n (a0 : Sl) (g1 : FuncId) (x1 : List Value) (y1 : List Value) (V : View) (Q : Value → View → Prop) : Prop :=
    loopP [K.int IntKind.i64] (fun (x : Int) (V : View) (J : CurP [K.int IntKind.i64]) => br (decide (x < (↑(Sl.n a0) : Int))) ((0 : Int) ≤ x ∧ x < (↑(Sl.n a0) : Int) ∧ ∃ (ad : Addr), Sl.a a0 = some ad ∧ ∃ (x_1 : ByteArray), View.cell? V (Addr.add ad (Int.toNat x * (1 : Nat))) = some (Value.string x_1) ∧ CallV Tryz.prog g1 (Array.mk (Array.toList (Array.mk x1) ++ [Value.string x_1] ++ Array.toList (Array.mk y1))) V fun (r : Value) (V : View) => ∃ (x_2 : Bool), r = Value.bool x_2 ∧ br x_2 (Q (Value.int IntKind.i64 x) V) (inI IntKind.i64 (x + (1 : Int)) ∧ J (x + (1 : Int)) V)) (Q (Value.int IntKind.i64 (-1 : Int)) V)) ((0 : Int), ()) V
def f99_ac : AC := (.seq (.reg ⟨.done, false, [], [], none⟩) (.seq (.seq (.reg ⟨.done, false, [], [], none⟩) (.block none (.loop ⟨[5, 9, 10, 11, 12, 13, 14, 15, 16, 18], [(8, .int .i64)], []⟩ (.seq (.reg ⟨.done, false, [], [], none⟩) (.seq (.cond none .leaf .leaf) (.seq (.block none (.seq (.reg ⟨.done, false, [], [], none⟩) (.seq (.reg ⟨.done, false, [], [], none⟩) (.cond none (.seq (.reg ⟨.done, false, [], [], none⟩) .leaf) .leaf)))) (.reg ⟨.done, false, [], [], none⟩))))))) (.seq (.reg ⟨.done, false, [], [], none⟩) .leaf)))
theorem f99_x {a0 : Sl} {g1 : FuncId} {x1 : List Value} {y1 : List Value} {V : View} {Q : Value → View → Prop} (h : f99_n a0 g1 x1 y1 V Q) : CallV Tryz.prog 99 ⟨[(.slice a0.a a0.n a0.c), (.func (.func g1) ⟨x1⟩ ⟨y1⟩)]⟩ V Q :=
  XF_sound (wr := false) Tryz.checked.mixed (enters_of (fn := Tryz.f99) (by kernel_rfl) (by kernel_rfl) (by kernel_rfl)) (fn := Tryz.f99) (by kernel_rfl) (ac := f99_ac)
    (Eq.mp (show f99_n a0 g1 x1 y1 V Q = XF Tryz.prog false Tryz.f99 (f99_ac) [(.slice a0.a a0.n a0.c), (.func (.func g1) ⟨x1⟩ ⟨y1⟩)] V Q from by kernel_rfl) h)
/-- potsherd/name.place -/
def f100_n (a0 : Sl) (a1 : ByteArray) (V : View) (Q : Value → View → Prop) : Prop :=
    ∀ (b : Nat), View.see V b = none → CallV Tryz.prog (115 : Nat) (Array.mk [Value.slice (Sl.a a0) (Sl.n a0) (Sl.c a0), Value.func (Fn.func (116 : Nat)) (Array.mk []) (Array.mk [Value.pointer (some (Addr.mk b (0 : Nat) none))])]) (View.put V b (Obj.cells (Array.mk [Value.string a1]) (9 : Nat))) fun (r : Value) (V : View) => ∃ (x : Int), r = Value.int IntKind.i64 x ∧ Q (Value.int IntKind.i64 x) V
def f100_ac : AC := (.seq (.reg ⟨.done, false, [(1, 0)], [], none⟩) (.seq (.reg ⟨.done, false, [], [], none⟩) .leaf))
theorem f100_x {a0 : Sl} {a1 : ByteArray} {V : View} {Q : Value → View → Prop} (h : f100_n a0 a1 V Q) : CallV Tryz.prog 100 ⟨[(.slice a0.a a0.n a0.c), (.string a1)]⟩ V Q :=
  XF_sound (wr := false) Tryz.checked.mixed (enters_of (fn := Tryz.f100) (by kernel_rfl) (by kernel_rfl) (by kernel_rfl)) (fn := Tryz.f100) (by kernel_rfl) (ac := f100_ac)
    (Eq.mp (show f100_n a0 a1 V Q = XF Tryz.prog false Tryz.f100 (f100_ac) [(.slice a0.a a0.n a0.c), (.string a1)] V Q from by kernel_rfl) h)
/-- potsherd/path.Last -/
def f101_n (a0 : ByteArray) (V : View) (Q : Value → View → Prop) : Prop :=
    CallV Tryz.prog (37 : Nat) (Array.mk [Value.string a0]) V fun (r : Value) (V : View) => ∃ (x : Sl), ∃ (x_1 : Int), r = Value.tuple (Array.mk [Value.slice (Sl.a x) (Sl.n x) (Sl.c x), Value.int IntKind.i64 x_1]) ∧ br (!decide (x_1 = (0 : Int))) (Q (Value.tuple (Array.mk [Value.string (ByteArray.mk #[]), Value.string (ByteArray.mk #[]), Value.int IntKind.i64 x_1])) V) (br (decide ((↑(Sl.n x) : Int) = (0 : Int))) (Q (Value.tuple (Array.mk [Value.string (ByteArray.mk #[]), Value.string (ByteArray.mk #[]), Value.int IntKind.i64 (18 : Int)])) V) (inI IntKind.i64 ((↑(Sl.n x) : Int) - (1 : Int)) ∧ True ∧ ∃ (S : View), View.Le S V ∧ (0 : Int) ≤ (0 : Int) ∧ (0 : Int) ≤ (↑(Sl.n x) : Int) - (1 : Int) ∧ (↑(Sl.n x) : Int) - (1 : Int) ≤ (↑(Sl.c x) : Int) ∧ (0 : Int) ≤ (↑(Sl.n x) : Int) - (1 : Int) ∧ (↑(Sl.n x) : Int) - (1 : Int) < (↑(Sl.n x) : Int) ∧ ∃ (ad : Addr), Sl.a x = some ad ∧ ∃ (x_2 : ByteArray), View.cell? S (Addr.add ad (Int.toNat ((↑(Sl.n x) : Int) - (1 : Int)) * (1 : Nat))) = some (Value.string x_2) ∧ CallV Tryz.prog (70 : Nat) (Array.mk [Value.slice (if Sl.c x = (0 : Nat) then Sl.a x else Option.map (fun (x : Addr) => Addr.add x (0 : Nat)) (Sl.a x)) (Int.toNat ((↑(Sl.n x) : Int) - (1 : Int)) - (0 : Nat)) (Sl.c x - (0 : Nat))]) V fun (r : Value) (V : View) => ∃ (x : ByteArray), r = Value.string x ∧ View.Le S V ∧ Q (Value.tuple (Array.mk [Value.string x, Value.string x_2, Value.int IntKind.i64 (0 : Int)])) V))
def f101_ac : AC := (.seq (.reg ⟨.done, false, [], [], none⟩) (.seq (.reg ⟨.done, false, [], [], none⟩) (.seq (.block none (.seq (.reg ⟨.done, false, [], [], none⟩) (.cond none (.seq (.reg ⟨.done, false, [], [], none⟩) .leaf) (.seq (.reg ⟨.done, false, [], [], none⟩) (.cond none (.seq (.reg ⟨.done, false, [], [], none⟩) .leaf) .leaf))))) (.seq (.reg ⟨.done, false, [], [], none⟩) (.seq (.reg ⟨(.fl 0 (.fl 1 (.fl 2 (.fl 4 (.fl 5 (.fl 6 (.fl 7 (.alt 3 true false (.fl 8 (.fl 9 (.fl 10 .done))) .no)))))))), true, [], [], none⟩) .leaf)))))
theorem f101_x {a0 : ByteArray} {V : View} {Q : Value → View → Prop} (h : f101_n a0 V Q) : CallV Tryz.prog 101 ⟨[(.string a0)]⟩ V Q :=
  XF_sound (wr := false) Tryz.checked.mixed (enters_of (fn := Tryz.f101) (by kernel_rfl) (by kernel_rfl) (by kernel_rfl)) (fn := Tryz.f101) (by kernel_rfl) (ac := f101_ac)
    (Eq.mp (show f101_n a0 V Q = XF Tryz.prog false Tryz.f101 (f101_ac) [(.string a0)] V Q from by kernel_rfl) h)
/-- slices.Clone[[]int,int] -/
def f102_n (a0 : Sl) (V : View) (Q : Value → View → Prop) : Prop :=
    br (Option.isNone (Sl.a a0)) (Q (Value.slice none (0 : Nat) (0 : Nat)) V) (newB V (Obj.cells (Array.mk []) (3 : Nat)) fun (r : Nat) (V : View) => apV V (3 : Nat) (1 : Nat) (8 : Nat) [Value.int IntKind.i64 (0 : Int)] (Sl.mk (some (Addr.mk r (0 : Nat) none)) (0 : Nat) (0 : Nat)) (Value.slice (Sl.a a0) (Sl.n a0) (Sl.c a0)) fun (s : Sl) (V : View) => Q (Value.slice (Sl.a s) (Sl.n s) (Sl.c s)) V)
def f102_ac : AC := (.seq (.reg ⟨.done, false, [], [], none⟩) (.seq (.seq (.reg ⟨.done, false, [], [], none⟩) (.cond none (.seq (.reg ⟨.done, false, [], [], none⟩) .leaf) .leaf)) (.seq (.reg ⟨.done, false, [], [], none⟩) .leaf)))
theorem f102_x {a0 : Sl} {V : View} {Q : Value → View → Prop} (h : f102_n a0 V Q) : CallV Tryz.prog 102 ⟨[(.slice a0.a a0.n a0.c)]⟩ V Q :=
  XF_sound (wr := false) Tryz.checked.mixed (enters_of (fn := Tryz.f102) (by kernel_rfl) (by kernel_rfl) (by kernel_rfl)) (fn := Tryz.f102) (by kernel_rfl) (ac := f102_ac)
    (Eq.mp (show f102_n a0 V Q = XF Tryz.prog false Tryz.f102 (f102_ac) [(.slice a0.a a0.n a0.c)] V Q from by kernel_rfl) h)
/-- slices.Clone[[]potsherd/api.Entry,potsherd/api.Entry] -/
def f103_n (a0 : Sl) (V : View) (Q : Value → View → Prop) : Prop :=
    br (Option.isNone (Sl.a a0)) (Q (Value.slice none (0 : Nat) (0 : Nat)) V) (newB V (Obj.cells (Array.mk []) (58 : Nat)) fun (r : Nat) (V : View) => apV V (58 : Nat) (2 : Nat) (24 : Nat) [Value.string (ByteArray.mk #[]), Value.int IntKind.i64 (0 : Int)] (Sl.mk (some (Addr.mk r (0 : Nat) none)) (0 : Nat) (0 : Nat)) (Value.slice (Sl.a a0) (Sl.n a0) (Sl.c a0)) fun (s : Sl) (V : View) => Q (Value.slice (Sl.a s) (Sl.n s) (Sl.c s)) V)
def f103_ac : AC := (.seq (.reg ⟨.done, false, [], [], none⟩) (.seq (.seq (.reg ⟨.done, false, [], [], none⟩) (.cond none (.seq (.reg ⟨.done, false, [], [], none⟩) .leaf) .leaf)) (.seq (.reg ⟨.done, false, [], [], none⟩) .leaf)))
theorem f103_x {a0 : Sl} {V : View} {Q : Value → View → Prop} (h : f103_n a0 V Q) : CallV Tryz.prog 103 ⟨[(.slice a0.a a0.n a0.c)]⟩ V Q :=
  XF_sound (wr := false) Tryz.checked.mixed (enters_of (fn := Tryz.f103) (by kernel_rfl) (by kernel_rfl) (by kernel_rfl)) (fn := Tryz.f103) (by kernel_rfl) (ac := f103_ac)
    (Eq.mp (show f103_n a0 V Q = XF Tryz.prog false Tryz.f103 (f103_ac) [(.slice a0.a a0.n a0.c)] V Q from by kernel_rfl) h)
/-- potsherd/name.sole -/
def f104_n (a0_0 : ByteArray) (a0_1 : Int) (V : View) (Q : Value → View → Prop) : Prop :=
    ∀ (b : Nat), CallV Tryz.prog (76 : Nat) (Array.mk [Value.string a0_0]) V fun (r : Value) (V : View) => ∃ (x : Bool), r = Value.bool x ∧ Q (Value.bool (bif bif x then decide ((1 : Int) ≤ a0_1) else false then decide (a0_1 < (12 : Int)) else false)) V
def f104_ac : AC := (.seq (.reg ⟨.done, false, [], [], none⟩) (.seq (.reg ⟨.done, false, [], [], none⟩) .leaf))
theorem f104_x {a0_0 : ByteArray} {a0_1 : Int} {V : View} {Q : Value → View → Prop} (h : f104_n a0_0 a0_1 V Q) : CallV Tryz.prog 104 ⟨[(.agg ⟨[(.string a0_0), (.int .i64 a0_1)]⟩)]⟩ V Q :=
  XF_sound (wr := false) Tryz.checked.mixed (enters_of (fn := Tryz.f104) (by kernel_rfl) (by kernel_rfl) (by kernel_rfl)) (fn := Tryz.f104) (by kernel_rfl) (ac := f104_ac)
    (Eq.mp (show f104_n a0_0 a0_1 V Q = XF Tryz.prog false Tryz.f104 (f104_ac) [(.agg ⟨[(.string a0_0), (.int .i64 a0_1)]⟩)] V Q from by kernel_rfl) h)
/-- slices.Concat[[]potsherd/api.Entry,potsherd/api.Entry] -/
def f105_n (a0 : Sl) (V : View) (Q : Value → View → Prop) : Prop :=
    loopP [K.int IntKind.i64, K.int IntKind.i64] (fun (x x_1 : Int) (V : View) (J : CurP [K.int IntKind.i64, K.int IntKind.i64]) => br (decide (x_1 < (↑(Sl.n a0) : Int))) ((0 : Int) ≤ x_1 ∧ x_1 < (↑(Sl.n a0) : Int) ∧ ∃ (ad : Addr), Sl.a a0 = some ad ∧ ∃ (x_2 : Sl), View.cell? V (Addr.add ad (Int.toNat x_1 * (1 : Nat))) = some (Value.slice (Sl.a x_2) (Sl.n x_2) (Sl.c x_2)) ∧ inI IntKind.i64 (x + (↑(Sl.n x_2) : Int)) ∧ joinP [] (fun (J : CurP []) => br (decide (x + (↑(Sl.n x_2) : Int) < (0 : Int))) False (J V)) fun (V : View) => inI IntKind.i64 (x_1 + (1 : Int)) ∧ J (x + (↑(Sl.n x_2) : Int)) (x_1 + (1 : Int)) V) (CallV Tryz.prog (117 : Nat) (Array.mk [Value.slice none (0 : Nat) (0 : Nat), Value.int IntKind.i64 x]) V fun (r : Value) (V : View) => ∃ (x : Sl), r = Value.slice (Sl.a x) (Sl.n x) (Sl.c x) ∧ loopP [K.sl, K.int IntKind.i64] (fun (x : Sl) (x_2 : Int) (V : View) (J : CurP [K.sl, K.int IntKind.i64]) => br (decide (x_2 < (↑(Sl.n a0) : Int))) ((0 : Int) ≤ x_2 ∧ x_2 < (↑(Sl.n a0) : Int) ∧ ∃ (ad : Addr), Sl.a a0 = some ad ∧ ∃ (x_3 : Sl), View.cell? V (Addr.add ad (Int.toNat x_2 * (1 : Nat))) = some (Value.slice (Sl.a x_3) (Sl.n x_3) (Sl.c x_3)) ∧ apV V (58 : Nat) (2 : Nat) (24 : Nat) [Value.string (ByteArray.mk #[]), Value.int IntKind.i64 (0 : Int)] (Sl.mk (Sl.a x) (Sl.n x) (Sl.c x)) (Value.slice (Sl.a x_3) (Sl.n x_3) (Sl.c x_3)) fun (s : Sl) (V : View) => inI IntKind.i64 (x_2 + (1 : Int)) ∧ J (Sl.mk (Sl.a s) (Sl.n s) (Sl.c s)) (x_2 + (1 : Int)) V) (Q (Value.slice (Sl.a x) (Sl.n x) (Sl.c x)) V)) (Sl.mk (Sl.a x) (Sl.n x) (Sl.c x), (0 : Int), ()) V)) ((0 : Int), (0 : Int), ()) V
def f105_ac : AC := (.seq (.reg ⟨.done, false, [], [], none⟩) (.seq (.reg ⟨.done, false, [], [], none⟩) (.seq (.seq (.reg ⟨.done, false, [], [], none⟩) (.block none (.loop ⟨[5, 12, 13, 14, 15, 16, 17, 18, 19, 20, 21, 22], [(3, .int .i64), (11, .int .i64)], []⟩ (.seq (.reg ⟨.done, false, [], [], none⟩) (.seq (.cond none .leaf .leaf) (.seq (.block none (.seq (.reg ⟨.done, false, [], [], none⟩) (.seq (.reg ⟨.done, false, [], [], none⟩) (.seq (.reg ⟨.done, false, [], [], none⟩) (.cond (some ⟨[21], [], []⟩) (.reg ⟨.done, false, [], [], none⟩) .leaf))))) (.reg ⟨.done, false, [], [], none⟩))))))) (.seq (.reg ⟨.done, false, [], [], none⟩) (.seq (.seq (.reg ⟨.done, false, [], [], none⟩) (.block none (.loop ⟨[8, 28, 29, 30, 31, 32, 33, 34], [(6, .sl), (27, .int .i64)], []⟩ (.seq (.reg ⟨.done, false, [], [], none⟩) (.seq (.cond none .leaf .leaf) (.seq (.block none (.seq (.reg ⟨.done, false, [], [], none⟩) (.reg ⟨.done, false, [], [], none⟩))) (.reg ⟨.done, false, [], [], none⟩))))))) (.seq (.reg ⟨.done, false, [], [], none⟩) .leaf))))))
theorem f105_x {a0 : Sl} {V : View} {Q : Value → View → Prop} (h : f105_n a0 V Q) : CallV Tryz.prog 105 ⟨[(.slice a0.a a0.n a0.c)]⟩ V Q :=
  XF_sound (wr := false) Tryz.checked.mixed (enters_of (fn := Tryz.f105) (by kernel_rfl) (by kernel_rfl) (by kernel_rfl)) (fn := Tryz.f105) (by kernel_rfl) (ac := f105_ac)
    (Eq.mp (show f105_n a0 V Q = XF Tryz.prog false Tryz.f105 (f105_ac) [(.slice a0.a a0.n a0.c)] V Q from by kernel_rfl) h)
/-- potsherd/node.within -/
def f106_n (a0 : Int) (a1 : Int) (V : View) (Q : Value → View → Prop) : Prop :=
    Q (Value.bool (bif decide ((0 : Int) ≤ a0) then decide (a0 ≤ a1) else false)) V
def f106_ac : AC := (.seq (.reg ⟨.done, false, [], [], none⟩) (.seq (.reg ⟨.done, false, [], [], none⟩) .leaf))
theorem f106_x {a0 : Int} {a1 : Int} {V : View} {Q : Value → View → Prop} (h : f106_n a0 a1 V Q) : CallV Tryz.prog 106 ⟨[(.int .i64 a0), (.int .i64 a1)]⟩ V Q :=
  XF_sound (wr := false) Tryz.checked.mixed (enters_of (fn := Tryz.f106) (by kernel_rfl) (by kernel_rfl) (by kernel_rfl)) (fn := Tryz.f106) (by kernel_rfl) (ac := f106_ac)
    (Eq.mp (show f106_n a0 a1 V Q = XF Tryz.prog false Tryz.f106 (f106_ac) [(.int .i64 a0), (.int .i64 a1)] V Q from by kernel_rfl) h)
/-- potsherd/potsherdref12.Join -/
def f107_n (a0 : Sl) (V : View) (Q : Value → View → Prop) : Prop :=
    br (decide ((↑(Sl.n a0) : Int) = (0 : Int))) (Q (Value.string (ByteArray.mk #[(47 : UInt8)])) V) (loopP [K.str, K.int IntKind.i64] (fun (x : ByteArray) (x_1 : Int) (V : View) (J : CurP [K.str, K.int IntKind.i64]) => br (decide (x_1 < (↑(Sl.n a0) : Int))) ((0 : Int) ≤ x_1 ∧ x_1 < (↑(Sl.n a0) : Int) ∧ ∃ (ad : Addr), Sl.a a0 = some ad ∧ ∃ (x_2 : ByteArray), View.cell? V (Addr.add ad (Int.toNat x_1 * (1 : Nat))) = some (Value.string x_2) ∧ CallV Tryz.prog (93 : Nat) (Array.mk [Value.string x_2]) V fun (r : Value) (V : View) => ∃ (x_3 : Bool), r = Value.bool x_3 ∧ br (bif !x_3 then true else decide ((60 : Int) < x_1)) (Q (Value.string (ByteArray.mk #[])) V) ((1 : Nat) + ByteArray.size x_2 ≤ (9223372036854775807 : Nat) ∧ ByteArray.size x + ByteArray.size (ByteArray.mk #[(47 : UInt8)] ++ x_2) ≤ (9223372036854775807 : Nat) ∧ inI IntKind.i64 (x_1 + (1 : Int)) ∧ J (x ++ (ByteArray.mk #[(47 : UInt8)] ++ x_2)) (x_1 + (1 : Int)) V)) (br (decide ((60 : Int) < (↑(ByteArray.size x) : Int))) (Q (Value.string (ByteArray.mk #[])) V) (Q (Value.string x) V))) (ByteArray.mk #[], (0 : Int), ()) V)
def f107_ac : AC := (.seq (.reg ⟨.done, false, [], [], none⟩) (.seq (.seq (.reg ⟨.done, false, [], [], none⟩) (.cond none (.seq (.reg ⟨.done, false, [], [], none⟩) .leaf) .leaf)) (.seq (.reg ⟨.done, false, [], [], none⟩) (.seq (.seq (.reg ⟨.done, false, [], [], none⟩) (.block none (.loop ⟨[4, 5, 12, 13, 14, 15, 16, 17, 18, 19, 20, 21, 22, 23, 24, 25, 26, 27], [(3, .str), (11, .int .i64)], []⟩ (.seq (.reg ⟨.done, false, [], [], none⟩) (.seq (.cond none .leaf .leaf) (.seq (.block none (.seq (.reg ⟨.done, false, [], [], none⟩) (.seq (.seq (.reg ⟨.done, false, [], [], none⟩) (.cond none (.seq (.reg ⟨.done, false, [], [], none⟩) .leaf) .leaf)) (.reg ⟨.done, false, [], [], none⟩)))) (.reg ⟨.done, false, [], [], none⟩))))))) (.seq (.seq (.reg ⟨.done, false, [], [], none⟩) (.cond none (.seq (.reg ⟨.done, false, [], [], none⟩) .leaf) .leaf)) (.seq (.reg ⟨.done, false, [], [], none⟩) .leaf))))))
theorem f107_x {a0 : Sl} {V : View} {Q : Value → View → Prop} (h : f107_n a0 V Q) : CallV Tryz.prog 107 ⟨[(.slice a0.a a0.n a0.c)]⟩ V Q :=
  XF_sound (wr := false) Tryz.checked.mixed (enters_of (fn := Tryz.f107) (by kernel_rfl) (by kernel_rfl) (by kernel_rfl)) (fn := Tryz.f107) (by kernel_rfl) (ac := f107_ac)
    (Eq.mp (show f107_n a0 V Q = XF Tryz.prog false Tryz.f107 (f107_ac) [(.slice a0.a a0.n a0.c)] V Q from by kernel_rfl) h)
/-- slices.IndexFunc[[]potsherd/api.Entry,potsherd/api.Entry] -/
def f115_n (a0 : Sl) (g1 : FuncId) (x1 : List Value) (y1 : List Value) (V : View) (Q : Value → View → Prop) : Prop :=
    loopP [K.int IntKind.i64] (fun (x : Int) (V : View) (J : CurP [K.int IntKind.i64]) => br (decide (x < (↑(Sl.n a0) : Int))) ((0 : Int) ≤ x ∧ x < (↑(Sl.n a0) : Int) ∧ ∃ (ad : Addr), Sl.a a0 = some ad ∧ ∃ (x_1 : ByteArray), ∃ (x_2 : Int), cellsAt V (Addr.add ad (Int.toNat x * (2 : Nat))) [Value.string x_1, Value.int IntKind.i64 x_2] ∧ CallV Tryz.prog g1 (Array.mk (Array.toList (Array.mk x1) ++ [Value.agg (Array.mk [Value.string x_1, Value.int IntKind.i64 x_2])] ++ Array.toList (Array.mk y1))) V fun (r : Value) (V : View) => ∃ (x_3 : Bool), r = Value.bool x_3 ∧ br x_3 (Q (Value.int IntKind.i64 x) V) (inI IntKind.i64 (x + (1 : Int)) ∧ J (x + (1 : Int)) V)) (Q (Value.int IntKind.i64 (-1 : Int)) V)) ((0 : Int), ()) V
def f115_ac : AC := (.seq (.reg ⟨.done, false, [], [], none⟩) (.seq (.seq (.reg ⟨.done, false, [], [], none⟩) (.block none (.loop ⟨[5, 9, 10, 11, 12, 13, 14, 15, 16, 18], [(8, .int .i64)], []⟩ (.seq (.reg ⟨.done, false, [], [], none⟩) (.seq (.cond none .leaf .leaf) (.seq (.block none (.seq (.reg ⟨.done, false, [], [], none⟩) (.seq (.reg ⟨.done, false, [], [], none⟩) (.cond none (.seq (.reg ⟨.done, false, [], [], none⟩) .leaf) .leaf)))) (.reg ⟨.done, false, [], [], none⟩))))))) (.seq (.reg ⟨.done, false, [], [], none⟩) .leaf)))
theorem f115_x {a0 : Sl} {g1 : FuncId} {x1 : List Value} {y1 : List Value} {V : View} {Q : Value → View → Prop} (h : f115_n a0 g1 x1 y1 V Q) : CallV Tryz.prog 115 ⟨[(.slice a0.a a0.n a0.c), (.func (.func g1) ⟨x1⟩ ⟨y1⟩)]⟩ V Q :=
  XF_sound (wr := false) Tryz.checked.mixed (enters_of (fn := Tryz.f115) (by kernel_rfl) (by kernel_rfl) (by kernel_rfl)) (fn := Tryz.f115) (by kernel_rfl) (ac := f115_ac)
    (Eq.mp (show f115_n a0 g1 x1 y1 V Q = XF Tryz.prog false Tryz.f115 (f115_ac) [(.slice a0.a a0.n a0.c), (.func (.func g1) ⟨x1⟩ ⟨y1⟩)] V Q from by kernel_rfl) h)
/-- potsherd/name.place$1 -/
def f116_n (a0_0 : ByteArray) (a0_1 : Int) (z0 : Addr) (V : View) (Q : Value → View → Prop) : Prop :=
    ∀ (b : Nat), ∃ (x : ByteArray), View.cell? V z0 = some (Value.string x) ∧ Q (Value.bool (decide (a0_0 = x))) V
def f116_ac : AC := (.seq (.reg ⟨.done, false, [], [], none⟩) (.seq (.reg ⟨.done, false, [], [], none⟩) .leaf))
theorem f116_x {a0_0 : ByteArray} {a0_1 : Int} {z0 : Addr} {V : View} {Q : Value → View → Prop} (h : f116_n a0_0 a0_1 z0 V Q) : CallV Tryz.prog 116 ⟨[(.agg ⟨[(.string a0_0), (.int .i64 a0_1)]⟩), (.pointer (some z0))]⟩ V Q :=
  XF_sound (wr := false) Tryz.checked.mixed (enters_of (fn := Tryz.f116) (by kernel_rfl) (by kernel_rfl) (by kernel_rfl)) (fn := Tryz.f116) (by kernel_rfl) (ac := f116_ac)
    (Eq.mp (show f116_n a0_0 a0_1 z0 V Q = XF Tryz.prog false Tryz.f116 (f116_ac) [(.agg ⟨[(.string a0_0), (.int .i64 a0_1)]⟩), (.pointer (some z0))] V Q from by kernel_rfl) h)
/-- slices.Grow[[]potsherd/api.Entry,potsherd/api.Entry] -/
def f117_n (a0 : Sl) (a1 : Int) (V : View) (Q : Value → View → Prop) : Prop :=
    joinP [] (fun (J : CurP []) => br (decide (a1 < (0 : Int))) False (J V)) fun (V : View) => inI IntKind.i64 ((↑(Sl.c a0) : Int) - (↑(Sl.n a0) : Int)) ∧ inI IntKind.i64 (a1 - ((↑(Sl.c a0) : Int) - (↑(Sl.n a0) : Int))) ∧ joinP [K.sl] (fun (J : CurP [K.sl]) => br (decide ((0 : Int) < a1 - ((↑(Sl.c a0) : Int) - (↑(Sl.n a0) : Int)))) ((0 : Int) ≤ (0 : Int) ∧ (0 : Int) ≤ (↑(Sl.c a0) : Int) ∧ (↑(Sl.c a0) : Int) ≤ (↑(Sl.c a0) : Int) ∧ apV V (58 : Nat) (2 : Nat) (24 : Nat) [Value.string (ByteArray.mk #[]), Value.int IntKind.i64 (0 : Int)] (Sl.mk (if Sl.c a0 = (0 : Nat) then Sl.a a0 else Option.map (fun (x : Addr) => Addr.add x (0 : Nat)) (Sl.a a0)) (Int.toNat (↑(Sl.c a0) : Int) - (0 : Nat)) (Sl.c a0 - (0 : Nat))) (Value.int IntKind.i64 (a1 - ((↑(Sl.c a0) : Int) - (↑(Sl.n a0) : Int)))) fun (s : Sl) (V : View) => (0 : Int) ≤ (0 : Int) ∧ (0 : Int) ≤ (↑(Sl.n a0) : Int) ∧ (↑(Sl.n a0) : Int) ≤ (↑(Sl.c s) : Int) ∧ J (Sl.mk (if Sl.c s = (0 : Nat) then Sl.a s else Option.map (fun (x : Addr) => Addr.add x (0 : Nat)) (Sl.a s)) (Int.toNat (↑(Sl.n a0) : Int) - (0 : Nat)) (Sl.c s - (0 : Nat))) V) (J (Sl.mk (Sl.a a0) (Sl.n a0) (Sl.c a0)) V)) fun (x : Sl) (V : View) => Q (Value.slice (Sl.a x) (Sl.n x) (Sl.c x)) V
def f117_ac : AC := (.seq (.reg ⟨.done, false, [], [], none⟩) (.seq (.seq (.reg ⟨.done, false, [], [], none⟩) (.cond (some ⟨[7], [], []⟩) (.reg ⟨.done, false, [], [], none⟩) .leaf)) (.seq (.seq (.reg ⟨.done, false, [], [], none⟩) (.seq (.reg ⟨.done, false, [], [], none⟩) (.cond (some ⟨[17, 18, 19, 20, 21, 22, 23, 24, 25], [(0, .sl)], []⟩) (.reg ⟨.done, false, [], [], none⟩) .leaf))) (.seq (.reg ⟨.done, false, [], [], none⟩) .leaf))))
theorem f117_x {a0 : Sl} {a1 : Int} {V : View} {Q : Value → View → Prop} (h : f117_n a0 a1 V Q) : CallV Tryz.prog 117 ⟨[(.slice a0.a a0.n a0.c), (.int .i64 a1)]⟩ V Q :=
  XF_sound (wr := false) Tryz.checked.mixed (enters_of (fn := Tryz.f117) (by kernel_rfl) (by kernel_rfl) (by kernel_rfl)) (fn := Tryz.f117) (by kernel_rfl) (ac := f117_ac)
    (Eq.mp (show f117_n a0 a1 V Q = XF Tryz.prog false Tryz.f117 (f117_ac) [(.slice a0.a a0.n a0.c), (.int .i64 a1)] V Q from by kernel_rfl) h)
end Go.Proofs.YtdlgpolngnkiaaaGreatDoor

/- The contract of path.May. -/
namespace Go.Proofs.YtdlgpolngnkiaaaGreatDoor
open Go
theorem pathMay_ok {s : ByteArray} {V : View} (hs : s.size ≤ 9223372036854775807) : CallV Tryz.prog 76 ⟨[.string s]⟩ V fun r V' => r = .bool (mayB s) ∧ V' = V := by
  refine f76_x ?_
  unfold f76_n
  refine loop1 (k := .int .i64) (fun (x : Int) V' => V' = V ∧ 0 ≤ x ∧ x ≤ s.size ∧ (s.data.toList.take x.toNat).all (fun b => okB b.toNat) = true) (fun (x : Int) _ => s.size - x.toNat) ⟨rfl, by omega, by omega, rfl⟩ ?_
  rintro (x : Int) V' ⟨rfl, h0, h1, h2⟩
  have hsz : s.data.toList.length = s.size := by simp
  refine br_intro (fun hlt => ?_) (fun hge => ?_)
  · have hlt : x < s.size := by simpa using hlt
    have hx : x.toNat < s.data.toList.length := by omega
    have hg : s.data.toList.getD x.toNat 0 = s.data.toList[x.toNat] := by rw [List.getD_eq_getElem?_getD, List.getElem?_eq_getElem hx]; rfl
    refine ⟨h0, hlt, ?_⟩
    rw [hg]
    generalize hb : s.data.toList[x.toNat] = b
    refine br_intro (fun hn => ⟨?_, rfl⟩) (fun hn => ⟨inI64 (by omega) (by omega), ⟨rfl, by omega, by omega, ?_⟩, by omega⟩)
    · have hk : okB b.toNat = false := by
        unfold okB
        simp at hn ⊢
        omega
      unfold mayB
      have : (s.data.toList.all fun b => okB b.toNat) = false := by
        rw [List.all_eq_false]
        exact ⟨b, hb ▸ List.getElem_mem hx, by simp [hk]⟩
      rw [show bl s = s.data.toList from rfl, this]; rfl
    · have hk : okB b.toNat = true := by
        unfold okB
        simp at hn ⊢
        omega
      rw [show (x + 1).toNat = x.toNat + 1 by omega, List.take_add_one, List.all_append, h2, List.getElem?_eq_getElem hx, hb]
      simp [hk]
  · have hge : ¬ x < s.size := by simpa using hge
    rw [List.take_of_length_le (by omega)] at h2
    refine ⟨?_, rfl⟩
    unfold mayB
    rw [show bl s = s.data.toList from rfl, h2]
    congr 1
    rw [Bool.eq_iff_iff]
    simp
    omega
end Go.Proofs.YtdlgpolngnkiaaaGreatDoor

/- Contracts of package path. -/
namespace Go.Proofs.YtdlgpolngnkiaaaGreatDoor
open Go
theorem splitC_ok {s : ByteArray} {V : View} (hs : s.size ≤ 9223372036854775807) : CallV Tryz.prog 75 ⟨[.string s]⟩ V fun r V' => r = .bool (!mayB s) ∧ V' = V := by
  refine f75_x ?_
  unfold f75_n
  refine (pathMay_ok hs).mono ?_
  rintro r V' ⟨rfl, rfl⟩
  exact ⟨_, rfl, rfl, rfl⟩
theorem indexFuncS_ok {p : ByteArray → Bool} {s : Sl} {l : List ByteArray} {V : View} {g : FuncId} {xs ys : List Value} (h : SlR V s l)
    (hp : ∀ b ∈ l, CallV Tryz.prog g ⟨xs ++ [.string b] ++ ys⟩ V fun r V' => r = .bool (p b) ∧ V' = V) :
    CallV Tryz.prog 99 ⟨[.slice s.a s.n s.c, .func (.func g) ⟨xs⟩ ⟨ys⟩]⟩ V fun r V' => r = .int .i64 (idxI p l) ∧ V' = V := by
  refine f99_x ?_
  unfold f99_n
  have hn := h.n; have hlim := h.lim
  refine loop1 (k := .int .i64) (fun (x : Int) V' => V' = V ∧ 0 ≤ x ∧ x ≤ s.n ∧ ∀ j (hj : j < l.length), (j : Int) < x → p l[j] = false) (fun (x : Int) _ => s.n - x.toNat) ⟨rfl, by omega, by omega, fun j _ hj => by omega⟩ ?_
  rintro (x : Int) V' ⟨rfl, h0, h1, h2⟩
  refine br_intro (fun hlt => ?_) (fun hge => ?_)
  · have hlt : x < s.n := by simpa using hlt
    obtain ⟨ad, hx, ha, hc, _⟩ := h.str h0 hlt
    refine ⟨h0, hlt, ad, ha, _, hc, (hp _ (List.getElem_mem hx)).mono ?_⟩
    rintro r V1 ⟨rfl, rfl⟩
    refine ⟨_, rfl, br_intro (fun hb => ⟨?_, rfl⟩) (fun hb => ⟨inI64 (by omega) (by omega), ⟨rfl, by omega, by omega, fun j hj hjx => ?_⟩, by omega⟩)⟩
    · rw [idxI_first p l x.toNat hx (fun j hj => h2 j (by omega) (by omega)) hb]
      congr 1; omega
    · by_cases e : (j : Int) < x
      · exact h2 j hj e
      · have : j = x.toNat := by omega
        subst this; exact hb
  · have hge : ¬ x < s.n := by simpa using hge
    refine ⟨?_, rfl⟩
    rw [idxI_none p l fun y hy => ?_]
    obtain ⟨j, hj, rfl⟩ := List.getElem_of_mem hy
    exact h2 j hj (by omega)
theorem containsFuncS_ok {p : ByteArray → Bool} {s : Sl} {l : List ByteArray} {V : View} {g : FuncId} {xs ys : List Value} (h : SlR V s l)
    (hp : ∀ b ∈ l, CallV Tryz.prog g ⟨xs ++ [.string b] ++ ys⟩ V fun r V' => r = .bool (p b) ∧ V' = V) :
    CallV Tryz.prog 74 ⟨[.slice s.a s.n s.c, .func (.func g) ⟨xs⟩ ⟨ys⟩]⟩ V fun r V' => r = .bool (l.any p) ∧ V' = V := by
  refine f74_x ?_
  unfold f74_n
  refine (indexFuncS_ok h hp).mono ?_
  rintro r V' ⟨rfl, rfl⟩
  refine ⟨_, rfl, ?_, rfl⟩
  congr 1
  rcases idxI_range p l with ⟨h1, h2⟩ | ⟨h1, h2, h3⟩
  · rw [h1, h2]; rfl
  · rw [h3]; simpa using h1
theorem equalS_ok {s t : Sl} {l m : List ByteArray} {V : View} (h : SlR V s l) (k : SlR V t m) : CallV Tryz.prog 95 ⟨[.slice s.a s.n s.c, .slice t.a t.n t.c]⟩ V fun r V' => r = .bool (decide (l = m)) ∧ V' = V := by
  refine f95_x ?_
  unfold f95_n
  have hn := h.n; have hlim := h.lim; have kn := k.n
  refine br_intro (fun hne => ⟨?_, rfl⟩) (fun heq => ?_)
  · have hne : ¬ (s.n : Int) = t.n := by simpa using hne
    rw [decide_eq_false]
    intro e; subst e; omega
  have heq : (s.n : Int) = t.n := by simpa using heq
  refine loop1 (k := .int .i64) (fun (x : Int) V' => V' = V ∧ 0 ≤ x ∧ x ≤ s.n ∧ l.take x.toNat = m.take x.toNat) (fun (x : Int) _ => s.n - x.toNat) ⟨rfl, by omega, by omega, rfl⟩ ?_
  rintro (x : Int) V' ⟨rfl, h0, h1, h2⟩
  refine br_intro (fun hlt => ?_) (fun hge => ?_)
  · have hlt : x < s.n := by simpa using hlt
    obtain ⟨ad, hx, ha, hc, _⟩ := h.str h0 hlt
    obtain ⟨ad', hx', ha', hc', _⟩ := k.str h0 (by omega)
    refine ⟨trivial, V', View.Le.refl _, h0, hlt, ad, ha, _, hc, h0, by omega, ad', ha', _, hc', br_intro (fun hb => ⟨?_, rfl⟩) (fun hb => ⟨inI64 (by omega) (by omega), ⟨rfl, by omega, by omega, ?_⟩, by omega⟩)⟩
    · have hb : ¬ l[x.toNat] = m[x.toNat] := by simpa using hb
      rw [decide_eq_false]
      intro e; subst e; exact hb rfl
    · have hb : l[x.toNat] = m[x.toNat] := by simpa using hb
      rw [show (x + 1).toNat = x.toNat + 1 by omega, List.take_add_one, List.take_add_one, h2, List.getElem?_eq_getElem hx, List.getElem?_eq_getElem hx', hb]
  · have hge : ¬ x < s.n := by simpa using hge
    rw [List.take_of_length_le (by omega), List.take_of_length_le (by omega)] at h2
    exact ⟨by rw [h2]; simp, rfl⟩
/-- What path.Split answers. -/
def splitR (V : View) (o : Option (List ByteArray)) (r : Value) : Prop :=
  ∃ (x : Sl) (e : Int), r = .tuple ⟨[.slice x.a x.n x.c, .int .i64 e]⟩ ∧ match o with
    | none => e = 7 ∧ x = ⟨none, 0, 0⟩
    | some l => e = 0 ∧ SlR V x l
theorem pathSplit_ok {s : ByteArray} {V : View} (_hs : s.size ≤ 9223372036854775807) (hg : Glo V) : CallV Tryz.prog 37 ⟨[.string s]⟩ V fun r V' => splitR V' (splitP s) r ∧ V.Le V' := by
  refine f37_x ?_
  unfold f37_n
  refine (cutPrefix_ok (s := s)).mono ?_
  rintro r V' ⟨rfl, rfl⟩
  refine ⟨_, _, rfl, ?_⟩
  have hno : (∀ e : splitP s = none, splitR V' (splitP s) (.tuple ⟨[.slice none 0 0, .int .i64 7]⟩) ∧ V'.Le V') := fun e => ⟨⟨⟨none, 0, 0⟩, 7, rfl, by rw [e]; exact ⟨rfl, rfl⟩⟩, View.Le.refl _⟩
  refine br_intro (fun h => hno ?_) (fun h => ?_)
  · unfold splitP
    split
    · rfl
    · rename_i c r hb
      rw [if_neg]
      rintro ⟨rfl, hle⟩
      rw [hb] at h
      simp [Lib.hasPrefix] at h
      omega
  · cases hb : bl s with
    | nil => rw [hb] at h; simp [Lib.hasPrefix] at h
    | cons c t =>
      rw [hb] at h
      have hc : c = 47 ∧ s.size ≤ 60 := by
        simp [Lib.hasPrefix, List.isPrefixOf] at h
        exact ⟨h.1.symm, by omega⟩
      obtain ⟨rfl, h60⟩ := hc
      have htr : Lib.trimPrefix (47 :: t) [47] = t := by simp [Lib.trimPrefix, Lib.hasPrefix, List.isPrefixOf]
      rw [htr]
      have hlen : (ba t).size ≤ 60 := by rw [← bl_len, hb] at h60; rw [ba_size]; simp at h60; omega
      refine br_intro (fun h => ?_) (fun h => ?_)
      · have ht : t = [] := by
          have : ba t = ByteArray.mk #[] := by simpa using h
          have := congrArg bl this
          simpa using this
        refine ⟨⟨⟨none, 0, 0⟩, 0, rfl, ?_⟩, View.Le.refl _⟩
        unfold splitP
        rw [hb]
        simp only
        rw [if_pos ⟨trivial, h60⟩, if_pos ht]
        exact ⟨trivial, SlR.nil _ _ _⟩
      · have ht : t ≠ [] := fun e => by
          subst e
          simp [ba] at h
        refine (strSplit_ok (by omega) hg).mono ?_
        rintro r V1 ⟨x, rfl, hle, hx⟩
        refine ⟨_, rfl, (containsFuncS_ok (p := fun b => !mayB b) hx fun b hb => ?_).mono ?_⟩
        · have hbs : b.size ≤ 9223372036854775807 := by
            obtain ⟨j, hj, rfl⟩ := List.getElem_of_mem hb
            obtain ⟨_, _, _, _, _, h⟩ := hx.get j hj
            omega
          exact splitC_ok hbs
        rintro r V2 ⟨rfl, rfl⟩
        have hsp : splitP s = if ((splitS t).map ba).all mayB then some ((splitS t).map ba) else none := by
          unfold splitP
          rw [hb]
          simp only
          rw [if_pos ⟨trivial, h60⟩, if_neg ht]
        have hall : (((splitS (bl (ba t))).map ba).any fun b => !mayB b) = !((splitS t).map ba).all mayB := by
          rw [List.not_all_eq_any_not]; rfl
        refine ⟨_, rfl, br_intro (fun h => ?_) (fun h => ?_)⟩
        · rw [hall] at h
          refine ⟨⟨⟨none, 0, 0⟩, 7, rfl, ?_⟩, hle⟩
          rw [hsp, if_neg (by simpa using h)]
          exact ⟨rfl, rfl⟩
        · rw [hall] at h
          refine ⟨⟨x, 0, rfl, ?_⟩, hle⟩
          rw [hsp, if_pos (by simpa using h)]
          exact ⟨rfl, hx⟩
theorem pathJoin_ok {x : Sl} {l : List ByteArray} {V : View} (h : SlR V x l) (hl : (Lib.join (l.map bl) [47]).length ≤ 140737488355327) (hg : Glo V) : CallV Tryz.prog 70 ⟨[.slice x.a x.n x.c]⟩ V fun r V' => r = .string (joinP1 l) ∧ V.Le V' := by
  refine f70_x ?_
  unfold f70_n
  refine (strJoin_ok h hl).mono ?_
  rintro r V' ⟨rfl, rfl⟩
  refine ⟨_, rfl, by rw [ba_size]; omega, ?_⟩
  have e : ByteArray.mk #[47] ++ ba (Lib.join (l.map bl) [47]) = ba (47 :: Lib.join (l.map bl) [47]) := ba_append [47] _
  rw [e]
  refine (pathSplit_ok (by rw [ba_size]; simp; omega) hg).mono ?_
  rintro r V1 ⟨⟨y, n, rfl, hr⟩, hle⟩
  refine ⟨_, _, rfl, joinP_cut (fun s V2 => s.1 = !decide (splitP (ba (47 :: Lib.join (l.map bl) [47])) = some l) ∧ V'.Le V2) ?_ ?_⟩
  · unfold cur cur
    cases ho : splitP (ba (47 :: Lib.join (l.map bl) [47])) with
    | none =>
      rw [ho] at hr
      obtain ⟨rfl, rfl⟩ := hr
      simp [br, hle]
    | some m =>
      rw [ho] at hr
      obtain ⟨rfl, hy⟩ := hr
      simp only [decide_true, Bool.not_true, br_false]
      refine (equalS_ok hy (h.mono hle)).mono ?_
      rintro r V2 ⟨rfl, rfl⟩
      exact ⟨_, rfl, by simp, hle⟩
  · rintro ⟨b, ⟨⟩⟩ V2 ⟨hb, hle⟩
    simp only at hb
    subst hb
    unfold joinP1 unc unc
    by_cases hs : splitP (ba (47 :: Lib.join (l.map bl) [47])) = some l
    · simp [hs, hle]
    · simp [hs, hle]; rfl
theorem pathLast_ok {s : ByteArray} {V : View} (hs : s.size ≤ 9223372036854775807) (hg : Glo V) : CallV Tryz.prog 101 ⟨[.string s]⟩ V fun r V' => r = .tuple ⟨[.string (lastP s).1, .string (lastP s).2.1, .int .i64 (lastP s).2.2]⟩ ∧ V.Le V' := by
  refine f101_x ?_
  unfold f101_n
  refine (pathSplit_ok hs hg).mono ?_
  rintro r V1 ⟨⟨y, n, rfl, hr⟩, hle⟩
  refine ⟨_, _, rfl, ?_⟩
  unfold lastP
  cases ho : splitP s with
  | none =>
    rw [ho] at hr
    obtain ⟨rfl, rfl⟩ := hr
    simp [hle]; rfl
  | some l =>
    rw [ho] at hr
    obtain ⟨rfl, hy⟩ := hr
    have hn := hy.n; have hlim := hy.lim; have hc := hy.c
    simp only [decide_true, Bool.not_true, br_false]
    refine br_intro (fun h => ?_) (fun h => ?_)
    · have h : (y.n : Int) = 0 := by simpa using h
      have : l = [] := List.eq_nil_of_length_eq_zero (by omega)
      simp [this, hle]; rfl
    · have h : ¬ (y.n : Int) = 0 := by simpa using h
      have hne : l ≠ [] := fun e => by subst e; simp at hn; omega
      obtain ⟨ad, hx, ha, hcell, _⟩ := hy.str (x := (y.n : Int) - 1) (by omega) (by omega)
      refine ⟨inI64 (by omega) (by omega), trivial, V1, View.Le.refl _, by omega, by omega, by omega, by omega, by omega, ad, ha, _, hcell, ?_⟩
      have hsp := splitP_some ho
      have htl := hy.take (j := l.length - 1) (by omega)
      have e1 : ((y.n : Int) - 1).toNat - 0 = l.length - 1 := by omega
      have e2 : l.take (l.length - 1) = l.dropLast := (List.dropLast_eq_take).symm
      have e3 : (if y.c = 0 then y.a else Option.map (fun (x : Addr) => x.add 0) y.a) = y.a := by rw [map_add_zero]; simp
      rw [e1, e3, Nat.sub_zero]
      rw [e2] at htl
      have hjl : (Lib.join (l.dropLast.map bl) [47]).length ≤ 140737488355327 := by
        have h60 : (Lib.join (l.map bl) [47]).length ≤ 60 := by
          have := hsp.2.2
          have := congrArg List.length this
          rw [bl_len] at this
          simp at this
          omega
        have hl2 : l = l.dropLast ++ [l.getLast hne] := (List.dropLast_concat_getLast hne).symm
        by_cases hd : l.dropLast = []
        · rw [hd]; simp [Lib.join_nil]
        · rw [hl2, joinS_snoc _ _ hd] at h60
          simp only [List.length_append, List.length_cons] at h60
          omega
      refine (pathJoin_ok (x := ⟨y.a, l.length - 1, y.c⟩) htl hjl (hg.mono hle)).mono ?_
      rintro r V2 ⟨rfl, hle2⟩
      refine ⟨_, rfl, hle2, ?_, hle.trans hle2⟩
      rw [dif_neg hne]
      have e4 : l[((y.n : Int) - 1).toNat] = l.getLast hne := by
        rw [List.getLast_eq_getElem]
        congr 1 <;> omega
      simp only [e4]
end Go.Proofs.YtdlgpolngnkiaaaGreatDoor

/- Trees as plain data; how they lie in a view, and in what comes in. -/
namespace Go.Proofs.YtdlgpolngnkiaaaGreatDoor
open Go
structure Ent where
  name : ByteArray
  node : Int
  deriving DecidableEq
structure Nod where
  kind : Int
  links : Int
  size : Int
  seqs : List Int
  ents : List Ent
  deriving DecidableEq
abbrev Tre := List Nod
def Nod.zero : Nod := ⟨0, 0, 0, [], []⟩
instance : Inhabited Ent := ⟨⟨⟨#[]⟩, 0⟩⟩
instance : Inhabited Nod := ⟨Nod.zero⟩
structure Rf where
  page : Int
  seq : Int
  deriving DecidableEq
instance : Rep Ent where
  sz := 2
  pos := by decide
  rep _ vs x := vs = [.string x.name, .int .i64 x.node] ∧ x.name.size ≤ 9223372036854775807 ∧ inI .i64 x.node
  len h := by rw [h.1]; rfl
  one h := by rw [h.1]; rfl
  mono _ h := h
instance : Rep Rf where
  sz := 2
  pos := by decide
  rep _ vs x := vs = [.int .i64 x.page, .int .i64 x.seq] ∧ inI .i64 x.page ∧ inI .i64 x.seq
  len h := by rw [h.1]; rfl
  one h := by rw [h.1]; rfl
  mono _ h := h
instance : Rep Nod where
  sz := 5
  pos := by decide
  rep V vs x := ∃ s e : Sl, vs = [.int .i64 x.kind, .int .i64 x.links, .int .i64 x.size, .slice s.a s.n s.c, .slice e.a e.n e.c] ∧ inI .i64 x.kind ∧ inI .i64 x.links ∧ inI .i64 x.size ∧ SlR V s x.seqs ∧ SlR V e x.ents
  len h := by obtain ⟨s, e, h, _⟩ := h; rw [h]; rfl
  one h := by obtain ⟨s, e, h, _⟩ := h; rw [h]; rfl
  mono hV h := let ⟨s, e, h, a, b, c, d, f⟩ := h; ⟨s, e, h, a, b, c, d.mono hV, f.mono hV⟩
theorem SlR.ent {V : View} {s : Sl} {l : List Ent} (h : SlR V s l) {x : Int} (h0 : 0 ≤ x) (h1 : x < s.n) :
    ∃ ad, ∃ hx : x.toNat < l.length, s.a = some ad ∧ cellsAt V (ad.add (x.toNat * 2)) [.string l[x.toNat].name, .int .i64 l[x.toNat].node] ∧ l[x.toNat].name.size ≤ 9223372036854775807 ∧ inI .i64 l[x.toNat].node := by
  obtain ⟨ad, vs, hx, ha, hc, rfl, hi⟩ := h.ld h0 h1
  exact ⟨ad, hx, ha, hc, hi⟩
theorem SlR.rf {V : View} {s : Sl} {l : List Rf} (h : SlR V s l) {x : Int} (h0 : 0 ≤ x) (h1 : x < s.n) :
    ∃ ad, ∃ hx : x.toNat < l.length, s.a = some ad ∧ cellsAt V (ad.add (x.toNat * 2)) [.int .i64 l[x.toNat].page, .int .i64 l[x.toNat].seq] ∧ inI .i64 l[x.toNat].page ∧ inI .i64 l[x.toNat].seq := by
  obtain ⟨ad, vs, hx, ha, hc, rfl, hi⟩ := h.ld h0 h1
  exact ⟨ad, hx, ha, hc, hi⟩
/-- A node's cells: two rows besides three numbers. -/
structure NodR (V : View) (s e : Sl) (x : Nod) : Prop where
  kind : inI .i64 x.kind
  links : inI .i64 x.links
  size : inI .i64 x.size
  seqs : SlR V s x.seqs
  ents : SlR V e x.ents
theorem NodR.mono {V V' : View} {s e : Sl} {x : Nod} (hV : V.Le V') (h : NodR V s e x) : NodR V' s e x := ⟨h.kind, h.links, h.size, h.seqs.mono hV, h.ents.mono hV⟩
theorem NodR.rep {V : View} {s e : Sl} {x : Nod} (h : NodR V s e x) : Rep.rep V [.int .i64 x.kind, .int .i64 x.links, .int .i64 x.size, .slice s.a s.n s.c, .slice e.a e.n e.c] x := ⟨s, e, rfl, h.kind, h.links, h.size, h.seqs, h.ents⟩
theorem SlR.nod {V : View} {s : Sl} {l : List Nod} (h : SlR V s l) {x : Int} (h0 : 0 ≤ x) (h1 : x < s.n) :
    ∃ ad sq en, ∃ hx : x.toNat < l.length, s.a = some ad ∧ cellsAt V (ad.add (x.toNat * 5)) [.int .i64 l[x.toNat].kind, .int .i64 l[x.toNat].links, .int .i64 l[x.toNat].size, .slice sq.a sq.n sq.c, .slice en.a en.n en.c] ∧ NodR V sq en l[x.toNat] := by
  obtain ⟨ad, vs, hx, ha, hc, sq, en, rfl, h1, h2, h3, h4, h5⟩ := h.ld h0 h1
  exact ⟨ad, sq, en, hx, ha, hc, ⟨h1, h2, h3, h4, h5⟩⟩
theorem cellsAt_nth {V : View} {a : Addr} {vs : List Value} (h : cellsAt V a vs) (j : Nat) {v : Value} (hj : vs[j]? = some v) : V.cell? (a.add j) = some v := h j v hj

/-! ### what comes in -/
section
variable {H : Type} {enc : TypeId × Value → H} {P : Program} {w : World} {base : Nat} {sp : Nat → Bool} {held : Bool}
/-- Data of this type that come in are such data. -/
class TrodRep (P : Program) (α : Type) [Rep α] (t : TypeId) : Prop where
  of : ∀ {H : Type} {enc : TypeId × Value → H} {w : World} {base : Nat} {sp : Nat → Bool} {held : Bool} {fuel : Nat} {cs : List Value} {x : DataW H × List MemPlace}, DataW.trod enc P w base sp held fuel t cs = some x → ∃ d : α, Rep.rep (View.all w) cs d
theorem wf_int {k : IntKind} {n : Int} (h : (Lit.int k n).wf = true) : inI k n := by
  simpa [Lit.wf, inI] using h
theorem trodRep_int {t : TypeId} (ht : P.underlying t = some (.int .i64)) : TrodRep P Int t := ⟨fun h => by
  obtain ⟨n, hc, _, hw⟩ := DataW.trod_int ht h
  exact ⟨n, hc, wf_int hw⟩⟩
theorem trodRep_u8 {t : TypeId} (ht : P.underlying t = some (.int .u8)) : TrodRep P UInt8 t := ⟨fun h => by
  obtain ⟨n, hc, _, hw⟩ := DataW.trod_int ht h
  have h2 : 0 ≤ n ∧ n ≤ 255 := by simpa [Lit.wf, IntKind.min, IntKind.max, IntKind.signed, IntKind.bits] using hw
  refine ⟨UInt8.ofNat n.toNat, ?_⟩
  show _ = [Value.int .u8 (UInt8.ofNat n.toNat).toNat]
  rw [hc, UInt8.toNat_ofNat']
  congr 2
  omega⟩
theorem trodRep_string {t : TypeId} (ht : P.underlying t = some .string) : TrodRep P ByteArray t := ⟨fun h => by
  obtain ⟨s, hc, _, hw⟩ := DataW.trod_string ht h
  exact ⟨s, hc, hw⟩⟩
theorem cells_all {w : World} {b : Nat} {a : Addr} {n : Nat} {cs : List Value} (h : w.cells? b a n = some cs) : cs.length = n ∧ cellsAt (View.all w) a cs := by
  obtain ⟨_, hl, hc⟩ := World.cells?_some h
  refine ⟨hl, fun j v hj => ?_⟩
  have hjn : j < n := by rw [← hl]; exact (List.getElem?_eq_some_iff.1 hj).1
  have := hc j hjn
  rw [hj] at this
  exact this
theorem trodRep_slice {α : Type} [Rep α] {t e : TypeId} (ht : P.underlying t = some (.slice e)) (hs : P.cellsOf e = Rep.sz α) (he : TrodRep P α e) : TrodRep P (List α) t := ⟨fun {H enc w base sp held fuel cs x} h => by
  rcases DataW.trod_slice ht h with ⟨rfl, _⟩ | ⟨a, len, cap, elems, rest, n, _, rfl, _, _, hlc, hcm, hel, hget, _, _⟩
  · exact ⟨[], ⟨none, 0, 0⟩, rfl, SlR.nil _ _ _⟩
  have hex : ∀ i : Fin len, ∃ d : α, ∃ vs, cellsAt (View.all w) (a.add (i.val * Rep.sz α)) vs ∧ Rep.rep (View.all w) vs d := by
    intro i
    have := hget i.val i.isLt
    rw [List.getElem?_eq_getElem (by rw [hel]; exact i.isLt), Option.bind_eq_some_iff] at this
    obtain ⟨cs, hc, hy⟩ := this
    obtain ⟨d, hd⟩ := he.of hy
    rw [hs] at hc
    exact ⟨d, cs, (cells_all hc).2, hd⟩
  refine ⟨List.ofFn fun i => Classical.choose (hex i), ⟨some a, len, cap⟩, rfl, by simp, hlc, ?_, fun i hi => ?_⟩
  · have : cap ≤ 9223372036854775807 := hcm
    show len ≤ _; omega
  · have hi' : i < len := by simpa using hi
    obtain ⟨vs, h1, h2⟩ := Classical.choose_spec (hex ⟨i, hi'⟩)
    exact ⟨a, vs, rfl, h1, by rw [List.getElem_ofFn]; exact h2⟩⟩
theorem trod_field {t : TypeId} {i o : Nat} {ft : TypeId} {fuel : Nat} {cs : List Value} {x : DataW H × List MemPlace} (hf : fieldX P t i = some (o, ft)) (h : DataW.trod enc P w base sp held fuel t cs = some x) :
    cs.length = P.cellsOf t ∧ ∃ n y, DataW.trod enc P w base sp held n ft ((cs.drop o).take (P.cellsOf ft)) = some y := by
  obtain ⟨fs, fd, hu, hfd, rfl, rfl⟩ := fieldX_spec hf
  obtain ⟨xs, n, _, _, hl, hxl, hget⟩ := DataW.trod_struct hu h
  have := hget i fd hfd
  have hi : i < xs.length := by rw [hxl]; exact (Array.getElem?_eq_some_iff.1 hfd).1
  rw [List.getElem?_eq_getElem hi] at this
  exact ⟨hl, n, _, this⟩
theorem trodRep_ent {t ts ti : TypeId} (h0 : fieldX P t 0 = some (0, ts)) (h1 : fieldX P t 1 = some (1, ti)) (hc : P.cellsOf t = 2) (hcs : P.cellsOf ts = 1) (hci : P.cellsOf ti = 1)
    (hs : P.underlying ts = some .string) (hi : P.underlying ti = some (.int .i64)) : TrodRep P Ent t := ⟨fun {H enc w base sp held fuel cs x} h => by
  obtain ⟨hl, n0, y0, g0⟩ := trod_field h0 h
  obtain ⟨_, n1, y1, g1⟩ := trod_field h1 h
  rw [hc] at hl
  match cs, hl with
  | [a, b], _ =>
    rw [hcs] at g0; rw [hci] at g1
    obtain ⟨s, e0, w0⟩ := (trodRep_string hs).of g0
    obtain ⟨m, e1, w1⟩ := (trodRep_int hi).of g1
    simp at e0 e1
    exact ⟨⟨s, m⟩, by rw [e0, e1], w0, w1⟩⟩
theorem trodRep_nod {t ti tq te : TypeId} (h0 : fieldX P t 0 = some (0, ti)) (h1 : fieldX P t 1 = some (1, ti)) (h2 : fieldX P t 2 = some (2, ti)) (h3 : fieldX P t 3 = some (3, tq)) (h4 : fieldX P t 4 = some (4, te))
    (hc : P.cellsOf t = 5) (hci : P.cellsOf ti = 1) (hcq : P.cellsOf tq = 1) (hce : P.cellsOf te = 1) (hi : P.underlying ti = some (.int .i64)) (hq : TrodRep P (List Int) tq) (he : TrodRep P (List Ent) te) : TrodRep P Nod t := ⟨fun {H enc w base sp held fuel cs x} h => by
  obtain ⟨hl, n0, y0, g0⟩ := trod_field h0 h
  obtain ⟨_, n1, y1, g1⟩ := trod_field h1 h
  obtain ⟨_, n2, y2, g2⟩ := trod_field h2 h
  obtain ⟨_, n3, y3, g3⟩ := trod_field h3 h
  obtain ⟨_, n4, y4, g4⟩ := trod_field h4 h
  rw [hc] at hl
  match cs, hl with
  | [a, b, c, d, e], _ =>
    rw [hci] at g0 g1 g2
    rw [hcq] at g3
    rw [hce] at g4
    obtain ⟨m0, e0, w0⟩ := (trodRep_int hi).of g0
    obtain ⟨m1, e1, w1⟩ := (trodRep_int hi).of g1
    obtain ⟨m2, e2, w2⟩ := (trodRep_int hi).of g2
    obtain ⟨l3, s3, e3, w3⟩ := hq.of g3
    obtain ⟨l4, s4, e4, w4⟩ := he.of g4
    simp at e0 e1 e2 e3 e4
    exact ⟨⟨m0, m1, m2, l3, l4⟩, s3, s4, by rw [e0, e1, e2, e3, e4], w0, w1, w2, w3, w4⟩⟩
end
/-! ### this program's types -/
theorem bytesIn : TrodRep Tryz.prog (List UInt8) 117 := trodRep_slice (e := 5) Tryz.underlying117 (by kernel_rfl) (trodRep_u8 Tryz.underlying5)
theorem entIn : TrodRep Tryz.prog Ent 58 := trodRep_ent (ts := 9) (ti := 3) (by kernel_rfl) (by kernel_rfl) (by kernel_rfl) (by kernel_rfl) (by kernel_rfl) Tryz.underlying9 Tryz.underlying3
theorem intsIn : TrodRep Tryz.prog (List Int) 43 := trodRep_slice (e := 3) Tryz.underlying43 (by kernel_rfl) (trodRep_int Tryz.underlying3)
theorem entsIn : TrodRep Tryz.prog (List Ent) 44 := trodRep_slice (e := 58) Tryz.underlying44 (by kernel_rfl) entIn
theorem nodIn : TrodRep Tryz.prog Nod 46 := trodRep_nod (ti := 3) (tq := 43) (te := 44) (by kernel_rfl) (by kernel_rfl) (by kernel_rfl) (by kernel_rfl) (by kernel_rfl) (by kernel_rfl) (by kernel_rfl) (by kernel_rfl) (by kernel_rfl) Tryz.underlying3 intsIn entsIn
theorem nodsIn : TrodRep Tryz.prog (List Nod) 22 := trodRep_slice (e := 46) Tryz.underlying22 (by kernel_rfl) nodIn
end Go.Proofs.YtdlgpolngnkiaaaGreatDoor

/- Trees that may be: plain functions. No program in this text. -/
namespace Go.Proofs.YtdlgpolngnkiaaaGreatDoor
open Go
theorem getD_at {α : Type} [Inhabited α] {l : List α} {i : Nat} (h : i < l.length) : l.getD i default = l[i] := by
  rw [List.getD_eq_getElem?_getD, List.getElem?_eq_getElem h]; rfl
theorem getD_at0 {l : List Int} {i : Nat} (h : i < l.length) : l.getD i 0 = l[i] := by
  rw [List.getD_eq_getElem?_getD, List.getElem?_eq_getElem h]; rfl
def soleE (x : Ent) : Bool := mayB x.name && decide (1 ≤ x.node) && decide (x.node < 12)
def okE (l : List Ent) (i : Nat) : Bool := soleE (l.getD i default) && (decide (i = 0) || sLess (l.getD (i - 1) default).name (l.getD i default).name)
/-- May a directory's entries be? -/
def mayL (l : List Ent) : Bool := (List.range l.length).all (okE l) && decide (l.length ≤ 10)
def within (n m : Int) : Bool := decide (0 ≤ n) && decide (n ≤ m)
def okS (size : Int) (l : List Int) (i : Nat) : Bool := within (l.getD i 0) 1099511627776 && !(decide (size ≤ i * 16) && !decide (l.getD i 0 = 0))
def fileB (n : Nod) : Bool := within n.links 120 && within n.size 80 && decide (n.seqs.length = 5) && decide (n.ents.length = 0) && (List.range n.seqs.length).all (okS n.size n.seqs)
/-- May a node be? -/
def mayN (n : Nod) : Bool :=
  if n.kind = 0 then decide (n.links = 0) && decide (n.size = 0) && decide (n.seqs.length = 0) && decide (n.ents.length = 0)
  else if n.kind = 1 then fileB n
  else if n.kind = 2 then decide (n.links = 1) && decide (n.size = 0) && decide (n.seqs.length = 0) && mayL n.ents
  else false
/-- How many entries name each node. -/
def cnt (n : Nat) (es : List Ent) : List Int := (List.range n).map fun (j : Nat) => ((es.countP (fun (x : Ent) => decide (x.node = (j : Int))) : Nat) : Int)
def allE (t : Tre) : List Ent := t.flatMap Nod.ents
/-- Which nodes one comes to. -/
inductive Reach (t : Tre) (a : Nat) : Nat → Prop where
  | refl : Reach t a a
  | step {i : Nat} {x : Ent} (h : Reach t a i) (hx : x ∈ (t.getD i default).ents) : Reach t a x.node.toNat
open Classical in
noncomputable def metB (t : Tre) (a j : Nat) : Bool := decide (Reach t a j)
theorem metB_iff {t : Tre} {a j : Nat} : metB t a j = true ↔ Reach t a j := by simp [metB]
def hangB (n : Nod) (i named : Int) (met : Bool) : Bool :=
  if n.kind = 2 then met && (decide (i = 0) || decide (named = 1)) else if n.kind = 1 then decide (n.links = named) else decide (named = 0)
/-- Does no writing stand twice? -/
def apartL (l : List Int) : Bool := decide ((l.filter fun s => decide (s ≠ 0)).Nodup)
def allS (t : Tre) : List Int := t.flatMap Nod.seqs
/-- May a tree be? -/
noncomputable def mayT (t : Tre) : Bool :=
  decide (t.length = 12) && t.all mayN && decide ((t.getD 0 default).kind = 2) && (List.range 12).all (fun i => hangB (t.getD i default) i ((cnt 12 (allE t)).getD i 0) (metB t 0 i)) && apartL (allS t)
theorem mayL_len {l : List Ent} (h : mayL l = true) : l.length ≤ 10 := by
  unfold mayL at h; simp at h; exact h.2
theorem mayL_node {l : List Ent} (h : mayL l = true) {x : Ent} (hx : x ∈ l) : 1 ≤ x.node ∧ x.node < 12 ∧ mayB x.name = true := by
  unfold mayL at h
  simp only [Bool.and_eq_true, List.all_eq_true, List.mem_range] at h
  obtain ⟨i, hi, rfl⟩ := List.getElem_of_mem hx
  have := h.1 i hi
  unfold okE soleE at this
  rw [List.getD_eq_getElem?_getD, List.getElem?_eq_getElem hi] at this
  simp at this
  exact ⟨this.1.1.2, this.1.2, this.1.1.1⟩
theorem mayN_ents {n : Nod} (h : mayN n = true) : mayL n.ents = true := by
  have nil : n.ents.length = 0 → mayL n.ents = true := fun h => by
    rw [List.length_eq_zero_iff] at h
    rw [h]; rfl
  unfold mayN at h
  split at h
  · simp at h; exact nil (by simp [h])
  · split at h
    · unfold fileB at h; simp at h; exact nil (by simp [h])
    · split at h
      · simp at h; exact h.2
      · cases h
end Go.Proofs.YtdlgpolngnkiaaaGreatDoor

/- Contracts of what tells whether nodes may be. -/
namespace Go.Proofs.YtdlgpolngnkiaaaGreatDoor
open Go
theorem dec_not {p q : Prop} [Decidable p] [Decidable q] (h : p ↔ ¬ q) : decide p = !decide q := by
  by_cases hq : q <;> simp [h, hq]
theorem not_t {b : Bool} (h : (!b) = true) : b = false := by cases b <;> simp_all
theorem not_f {b : Bool} (h : (!b) = false) : b = true := by cases b <;> simp_all
theorem SlR.entN {V : View} {s : Sl} {l : List Ent} (h : SlR V s l) {i : Nat} (hi : i < l.length) :
    ∃ ad, s.a = some ad ∧ cellsAt V (ad.add (i * 2)) [.string (l.getD i default).name, .int .i64 (l.getD i default).node] ∧ (l.getD i default).name.size ≤ 9223372036854775807 ∧ inI .i64 (l.getD i default).node := by
  obtain ⟨ad, hx, ha, hc, h1, h2⟩ := h.ent (x := (i : Int)) (by omega) (by have := h.n; omega)
  rw [getD_at hi]
  exact ⟨ad, ha, hc, h1, h2⟩
theorem SlR.intN {V : View} {s : Sl} {l : List Int} (h : SlR V s l) {i : Nat} (hi : i < l.length) :
    ∃ ad, s.a = some ad ∧ V.cell? (ad.add (i * 1)) = some (.int .i64 (l.getD i 0)) ∧ inI .i64 (l.getD i 0) := by
  obtain ⟨ad, hx, ha, hc, h1⟩ := h.int (x := (i : Int)) (by omega) (by have := h.n; omega)
  rw [getD_at0 hi]
  exact ⟨ad, ha, hc, h1⟩
theorem SlR.nodN {V : View} {s : Sl} {l : List Nod} (h : SlR V s l) {i : Nat} (hi : i < l.length) :
    ∃ ad sq en, s.a = some ad ∧ cellsAt V (ad.add (i * 5)) [.int .i64 (l.getD i default).kind, .int .i64 (l.getD i default).links, .int .i64 (l.getD i default).size, .slice sq.a sq.n sq.c, .slice en.a en.n en.c] ∧ NodR V sq en (l.getD i default) := by
  obtain ⟨ad, sq, en, hx, ha, hc, h1⟩ := h.nod (x := (i : Int)) (by omega) (by have := h.n; omega)
  rw [getD_at hi]
  exact ⟨ad, sq, en, ha, hc, h1⟩
theorem all_step {P : Nat → Bool} {i : Nat} (h : (List.range i).all P = true) (hp : P i = true) : (List.range (i + 1)).all P = true := by
  rw [List.range_succ, List.all_append, h]; simp [hp]
theorem all_stop {P : Nat → Bool} {i n : Nat} (h : i < n) (hp : P i = false) : (List.range n).all P = false := by
  rw [List.all_eq_false]
  exact ⟨i, List.mem_range.2 h, by simp [hp]⟩
/-- A node as an argument. -/
def nodV (n : Nod) (s e : Sl) : Value := .agg ⟨[.int .i64 n.kind, .int .i64 n.links, .int .i64 n.size, .slice s.a s.n s.c, .slice e.a e.n e.c]⟩
def entV (x : Ent) : Value := .agg ⟨[.string x.name, .int .i64 x.node]⟩
def treV (s : Sl) : Value := .agg ⟨[.slice s.a s.n s.c]⟩
theorem within_ok {a b : Int} {V : View} : CallV Tryz.prog 106 ⟨[.int .i64 a, .int .i64 b]⟩ V fun r V' => r = .bool (within a b) ∧ V' = V := by
  refine f106_x ?_
  unfold f106_n
  refine ⟨?_, rfl⟩
  unfold within
  cases decide (0 ≤ a) <;> rfl
theorem sole_ok {x : Ent} {V : View} (hx : x.name.size ≤ 9223372036854775807) : CallV Tryz.prog 104 ⟨[entV x]⟩ V fun r V' => r = .bool (soleE x) ∧ V' = V := by
  refine f104_x ?_
  unfold f104_n
  refine fun _ => (pathMay_ok hx).mono ?_
  rintro r V' ⟨rfl, rfl⟩
  refine ⟨_, rfl, ?_, rfl⟩
  unfold soleE
  cases mayB x.name <;> cases decide (1 ≤ x.node) <;> rfl
theorem mayL_ok {s : Sl} {l : List Ent} {V : View} (h : SlR V s l) : CallV Tryz.prog 85 ⟨[.slice s.a s.n s.c]⟩ V fun r V' => r = .bool (mayL l) ∧ V' = V := by
  refine f85_x ?_
  unfold f85_n
  have hn := h.n; have hc := h.c; have hm := h.lim
  refine loop1 (k := .int .i64) (fun (x : Int) V' => V' = V ∧ ∃ i : Nat, x = i ∧ i ≤ l.length ∧ (List.range i).all (okE l) = true) (fun (x : Int) _ => s.n - x.toNat) ⟨rfl, 0, rfl, by omega, rfl⟩ ?_
  rintro (x : Int) V' ⟨rfl, i, rfl, hi, hall⟩
  refine br_intro (fun hlt => ?_) (fun hge => ?_)
  · have hlt : i < l.length := by have := of_decide_eq_true hlt; omega
    obtain ⟨ad, ha, hcell, hsz, hin⟩ := h.entN hlt
    refine ⟨by omega, by omega, ad, ha, _, _, hcell, fun _ => ?_⟩
    refine joinP_cut (fun q V1 => q.1 = (!okE l i) ∧ V1 = V') ⟨trivial, V', View.Le.refl _, (sole_ok (x := l.getD i default) hsz).mono ?_⟩ ?_
    · rintro r V1 ⟨rfl, rfl⟩
      refine ⟨_, rfl, View.Le.refl _, V1, View.Le.refl _, View.Le.refl _, br_intro (fun hs => ⟨?_, rfl⟩) (fun hs => br_intro (fun h0 => ?_) (fun h0 => ⟨?_, rfl⟩))⟩
      · have hs : soleE (l.getD i default) = false := by simpa using hs
        unfold okE; rw [hs]; rfl
      · have h0 : 0 < i := by have := of_decide_eq_true h0; omega
        have hs : soleE (l.getD i default) = true := by simpa using hs
        obtain ⟨j, rfl⟩ : ∃ j, i = j + 1 := ⟨i - 1, by omega⟩
        obtain ⟨ad2, ha2, hcell2, _, _⟩ := h.entN (i := j) (by omega)
        have e1 : (((j + 1 : Nat) : Int) - 1).toNat = j := by omega
        refine ⟨inI64 (by omega) (by omega), by omega, by omega, ad2, ha2, (l.getD j default).name, ?_, ?_, rfl⟩
        · rw [e1]; exact cellsAt_nth hcell2 0 rfl
        · unfold okE; rw [hs]; simp
      · have h0 : i = 0 := by have := of_decide_eq_false h0; omega
        have hs : soleE (l.getD i default) = true := by simpa using hs
        unfold okE; rw [hs, h0]; rfl
    · rintro ⟨q, ⟨⟩⟩ V1 ⟨h1, hV⟩
      simp only at h1 hV
      subst h1 hV
      dsimp only [unc]
      refine br_intro (fun hb => ⟨?_, rfl⟩) (fun hb => ⟨inI64 (by omega) (by omega), ⟨rfl, i + 1, by omega, by omega, all_step hall (by simpa using hb)⟩, by omega⟩)
      unfold mayL
      rw [all_stop hlt (by simpa using hb)]; rfl
  · have hge : i = l.length := by have := of_decide_eq_false hge; omega
    subst hge
    refine ⟨?_, rfl⟩
    unfold mayL
    rw [hall, hn, Bool.true_and]
    congr 1
    exact decide_eq_decide.2 (by omega)
theorem fileB_ok {n : Nod} {s e : Sl} {V : View} (h : NodR V s e n) : CallV Tryz.prog 84 ⟨[nodV n s e]⟩ V fun r V' => r = .bool (fileB n) ∧ V' = V := by
  refine f84_x ?_
  unfold f84_n
  have hsn := h.seqs.n; have hen := h.ents.n
  refine fun _ => joinP_cut (fun q V1 => q.1 = !(within n.links 120 && within n.size 80 && decide (n.seqs.length = 5) && decide (n.ents.length = 0)) ∧ V1 = V) (within_ok.mono ?_) ?_
  · rintro r V1 ⟨rfl, rfl⟩
    refine ⟨_, rfl, br_intro (fun h1 => ⟨?_, rfl⟩) (fun h1 => within_ok.mono ?_)⟩
    · have h1 : within n.links 120 = false := by simpa using h1
      rw [h1]; rfl
    · have h1 : within n.links 120 = true := by simpa using h1
      rintro r V2 ⟨rfl, rfl⟩
      refine ⟨_, rfl, ?_, rfl⟩
      rw [h1, hsn, hen]
      have e1 : decide (((n.seqs.length : Nat) : Int) = 5) = decide (n.seqs.length = 5) := decide_eq_decide.2 (by omega)
      have e2 : decide ((0 : Int) < ((n.ents.length : Nat) : Int)) = !decide (n.ents.length = 0) := dec_not (by omega)
      rw [e1, e2]
      cases within n.size 80 <;> cases decide (n.seqs.length = 5) <;> cases decide (n.ents.length = 0) <;> rfl
  · rintro ⟨q, ⟨⟩⟩ V1 ⟨h1, hV⟩
    simp only at h1 hV
    subst h1 hV
    dsimp only [unc]
    refine br_intro (fun hb => ⟨?_, rfl⟩) (fun hb => ?_)
    · have hb : (within n.links 120 && within n.size 80 && decide (n.seqs.length = 5) && decide (n.ents.length = 0)) = false := not_t hb
      unfold fileB; rw [hb]; rfl
    · have hb : (within n.links 120 && within n.size 80 && decide (n.seqs.length = 5) && decide (n.ents.length = 0)) = true := not_f hb
      have h5 : n.seqs.length = 5 := by simp at hb; exact hb.1.2
      refine loop1 (k := .int .i64) (fun (x : Int) V' => V' = V1 ∧ ∃ i : Nat, x = i ∧ i ≤ n.seqs.length ∧ (List.range i).all (okS n.size n.seqs) = true) (fun (x : Int) _ => s.n - x.toNat) ⟨rfl, 0, rfl, by omega, rfl⟩ ?_
      rintro (x : Int) V' ⟨rfl, i, rfl, hi, hall⟩
      refine br_intro (fun hlt => ?_) (fun hge => ?_)
      · have hlt : i < n.seqs.length := by have := of_decide_eq_true hlt; omega
        obtain ⟨ad, ha, hcell, hin⟩ := h.seqs.intN hlt
        refine ⟨by omega, by omega, ad, ha, _, hcell, ?_⟩
        refine joinP_cut (fun q V1 => q.1 = (!okS n.size n.seqs i) ∧ V1 = V') (within_ok.mono ?_) ?_
        · rintro r V2 ⟨rfl, rfl⟩
          refine ⟨_, rfl, br_intro (fun h1 => ⟨?_, rfl⟩) (fun h1 => ⟨inI64 (by omega) (by omega), ?_, rfl⟩)⟩
          · have h1 : within (n.seqs.getD i 0) 1099511627776 = false := by simpa using h1
            unfold okS; rw [h1]; rfl
          · have h1 : within (n.seqs.getD i 0) 1099511627776 = true := by simpa using h1
            unfold okS; rw [h1]
            cases decide (n.size ≤ (i : Int) * 16) <;> cases decide (n.seqs.getD i 0 = 0) <;> rfl
        · rintro ⟨q, ⟨⟩⟩ V2 ⟨h1, hV⟩
          simp only at h1 hV
          subst h1 hV
          dsimp only [unc]
          refine br_intro (fun hq => ⟨?_, rfl⟩) (fun hq => ⟨inI64 (by omega) (by omega), ⟨rfl, i + 1, by omega, by omega, all_step hall (by simpa using hq)⟩, by omega⟩)
          unfold fileB
          rw [all_stop hlt (by simpa using hq), Bool.and_false]
      · have hge : i = n.seqs.length := by have := of_decide_eq_false hge; omega
        subst hge
        refine ⟨?_, rfl⟩
        unfold fileB; rw [hb, hall]; rfl
theorem mayN_ok {n : Nod} {s e : Sl} {V : View} (h : NodR V s e n) : CallV Tryz.prog 52 ⟨[nodV n s e]⟩ V fun r V' => r = .bool (mayN n) ∧ V' = V := by
  refine f52_x ?_
  unfold f52_n
  have hsn := h.seqs.n; have hen := h.ents.n
  have e1 : decide (((s.n : Nat) : Int) = 0) = decide (n.seqs.length = 0) := decide_eq_decide.2 (by omega)
  have e2 : decide (((e.n : Nat) : Int) = 0) = decide (n.ents.length = 0) := decide_eq_decide.2 (by omega)
  rw [e1, e2]
  refine fun _ => br_intro (fun h0 => ⟨?_, rfl⟩) (fun h0 => br_intro (fun h1 => (fileB_ok h).mono ?_) (fun h1 => br_intro (fun h2 => ?_) (fun h2 => ⟨?_, rfl⟩)))
  · have h0 : n.kind = 0 := of_decide_eq_true h0
    unfold mayN; rw [if_pos h0]
    cases decide (n.links = 0) <;> cases decide (n.size = 0) <;> cases decide (n.seqs.length = 0) <;> rfl
  · have h0 : ¬ n.kind = 0 := of_decide_eq_false h0
    have h1 : n.kind = 1 := of_decide_eq_true h1
    rintro r V1 ⟨rfl, rfl⟩
    refine ⟨_, rfl, ?_, rfl⟩
    unfold mayN; rw [if_neg h0, if_pos h1]
  · have h0 : ¬ n.kind = 0 := of_decide_eq_false h0
    have h1 : ¬ n.kind = 1 := of_decide_eq_false h1
    have h2 : n.kind = 2 := of_decide_eq_true h2
    have hm : mayN n = (decide (n.links = 1) && decide (n.size = 0) && decide (n.seqs.length = 0) && mayL n.ents) := by unfold mayN; rw [if_neg h0, if_neg h1, if_pos h2]
    refine joinP_cut (fun q V1 => q.1 = mayN n ∧ V1 = V) (br_intro (fun hb => (mayL_ok h.ents).mono ?_) (fun hb => ⟨?_, rfl⟩)) ?_
    · rintro r V1 ⟨rfl, rfl⟩
      refine ⟨_, rfl, ?_, rfl⟩
      rw [hm]
      cases hA : decide (n.links = 1) <;> cases hB : decide (n.size = 0) <;> cases hC : decide (n.seqs.length = 0) <;> simp_all
    · rw [hm]
      cases hA : decide (n.links = 1) <;> cases hB : decide (n.size = 0) <;> cases hC : decide (n.seqs.length = 0) <;> simp_all
    · rintro ⟨q, ⟨⟩⟩ V1 ⟨h1, hV⟩
      simp only at h1 hV
      subst h1 hV
      exact ⟨rfl, rfl⟩
  · have h0 : ¬ n.kind = 0 := of_decide_eq_false h0
    have h1 : ¬ n.kind = 1 := of_decide_eq_false h1
    have h2 : ¬ n.kind = 2 := of_decide_eq_false h2
    unfold mayN; rw [if_neg h0, if_neg h1, if_neg h2]
end Go.Proofs.YtdlgpolngnkiaaaGreatDoor

/- Rows that grow beside other blocks that are this call's own. -/
namespace Go.Proofs.YtdlgpolngnkiaaaGreatDoor
open Go
theorem hide_mono {V V' : View} (h : V.Le V') (p : Nat) : (V.hide p).Le (V'.hide p) := by
  refine ⟨h.size, fun i o ho => ?_, h.out⟩
  unfold View.hide at *
  simp only at *
  split at ho
  · cases ho
  · rename_i hne; rw [if_neg hne]; exact h.see i o ho
theorem hide_see (V : View) (p i : Nat) : (V.hide p).see i = if i = p then none else V.see i := rfl
theorem hide_minus_see (V : View) (p : Nat) (x : Sl) (i : Nat) : ((V.hide p).minus x).see i = if i = p then none else (V.minus x).see i := by
  unfold View.minus
  split
  · rfl
  · simp only [hide_see]
    split <;> split <;> rfl
theorem minus_hide_le (V : View) (p : Nat) (x : Sl) : ((V.hide p).minus x).Le ((V.minus x).hide p) := by
  refine ⟨by unfold View.minus; split <;> exact Nat.le_refl _, fun i o ho => ?_, by unfold View.minus; split <;> rfl⟩
  rw [hide_minus_see] at ho
  rw [hide_see]; exact ho
theorem hide_minus_le (V : View) (p : Nat) (x : Sl) : ((V.minus x).hide p).Le ((V.hide p).minus x) := by
  refine ⟨by unfold View.minus; split <;> exact Nat.le_refl _, fun i o ho => ?_, by unfold View.minus; split <;> rfl⟩
  rw [hide_minus_see]
  rw [hide_see] at ho; exact ho
/-- A block beside a row of one's own is seen when that row is not. -/
theorem Buf.see_minus {V : View} {p : Nat} {o : Obj} {x : Sl} {e : TypeId} {sz : Nat} {cs : List Value} (h : Buf (V.hide p) x e sz cs) (ho : V.see p = some o) : (V.minus x).see p = some o := by
  unfold View.minus
  rcases h.own with ⟨ha, _⟩ | ⟨b, all, ha, hs, _⟩
  · rw [ha]; exact ho
  · rw [ha, hide_see]
    rw [hide_see] at hs
    split at hs
    · cases hs
    · rename_i hne; rw [if_neg (fun e => hne e.symm)]; exact ho
theorem Buf.hide {V : View} {p : Nat} {o : Obj} {x : Sl} {e : TypeId} {sz : Nat} {cs : List Value} (h : Buf V x e sz cs) (ho : (V.minus x).see p = some o) : Buf (V.hide p) x e sz cs := by
  refine ⟨h.len, h.le, h.lim, ?_⟩
  rcases h.own with h1 | ⟨b, all, ha, hs, h3⟩
  · exact .inl h1
  · refine .inr ⟨b, all, ha, ?_, h3⟩
    rw [hide_see]
    unfold View.minus at ho
    rw [ha, hide_see] at ho
    split at ho
    · cases ho
    · rename_i hne; rw [if_neg (fun e => hne e.symm)]; exact hs
theorem put_minus_le {V : View} {x : Sl} {r : Nat} {o : Obj} (h : V.see r = none) : (V.minus x).Le ((V.put r o).minus x) := minus_mono (View.put_le h) x
theorem Buf.put {V : View} {x : Sl} {e : TypeId} {sz : Nat} {cs : List Value} (h : Buf V x e sz cs) {r : Nat} {o : Obj} (hr : V.see r = none) : Buf (V.put r o) x e sz cs := h.mono (View.put_le hr)
/-- The first ones of a row of one's own. -/
theorem Buf.cut {V : View} {x : Sl} {e : TypeId} {sz : Nat} {cs : List Value} (h : Buf V x e sz cs) {k : Nat} (hk : k ≤ x.n) : Buf V ⟨x.a, k, x.c⟩ e sz (cs.take (k * sz)) := by
  have hle := Nat.mul_le_mul_right sz hk
  refine ⟨by simp only [List.length_take, h.len, Nat.min_eq_left hle], Nat.le_trans hk h.le, Nat.le_trans hk h.lim, ?_⟩
  rcases h.own with h1 | ⟨r, all, h1, h2, h3, h4⟩
  · exact .inl h1
  · refine .inr ⟨r, all, h1, h2, h3, ?_⟩
    rw [← h4, List.take_take, Nat.min_eq_left hle]
/-- What is appended, beside a block of one's own. -/
theorem apV_beside {V V0 : View} {p : Nat} {o : Obj} {e : TypeId} {sz bytes : Nat} {zero : List Value} {x : Sl} {y : Value} {C : Sl → View → Prop} {cs src : List Value} {m : Nat} (hz : zero.length = sz)
    (ho : V.see p = some o) (hb : Buf (V.hide p) x e sz cs) (hle : V0.Le ((V.hide p).minus x)) (hs : srcAt V sz zero y m src) (hl : src.length = m * sz) (h1 : src.all Value.oneCell' = true) (hm : (x.n + m) * bytes ≤ 140737488355328) (hm2 : x.n + m ≤ 140737488355328)
    (hC : ∀ s V', V'.see p = some o → Buf (V'.hide p) s e sz (cs ++ src) → V0.Le ((V'.hide p).minus s) → s.n = x.n + m → C s V') : apV V e sz bytes zero x y C := by
  refine apV_buf hz (hb.mono (View.hide_le V p)) hs hl h1 hm hm2 fun s V' hb' hn hle' => ?_
  have h2 := hle'.see _ _ (hb.see_minus ho)
  refine hC s V' ((View.minus_le V' s).see _ _ h2) (hb'.hide h2) ?_ hn
  exact hle.trans ((minus_hide_le V p x).trans ((hide_mono hle' p).trans (hide_minus_le V' p s)))
/-- A call that needs nothing of a row of one's own leaves it as it was. -/
theorem CallV.besideB {P : Program} {f : FuncId} {args : Array Value} {V : View} {x : Sl} {e : TypeId} {sz : Nat} {cs : List Value} {K : Value → View → Prop} (h : CallV P f args (V.minus x) K) (hb : Buf V x e sz cs) :
    CallV P f args V fun r V' => ∃ U', K r U' ∧ U'.Le (V'.minus x) ∧ Buf V' x e sz cs := by
  rcases hb.own with ⟨ha, hc⟩ | ⟨b, all, ha, hs, h3⟩
  · have e1 : V.minus x = V := by unfold View.minus; rw [ha]
    rw [e1] at h
    refine h.mono fun r V' hk => ⟨V', hk, ?_, ⟨hb.len, hb.le, hb.lim, .inl ⟨ha, hc⟩⟩⟩
    unfold View.minus; rw [ha]; exact View.Le.refl _
  · have e1 : V.minus x = V.hide b := by unfold View.minus; rw [ha]
    rw [e1] at h
    refine (CallV.frame (View.hide_le V b) h).mono ?_
    rintro r V' ⟨U', hk, hle, hrest⟩
    have hp : (V.hide b).see b = none := by simp [View.hide]
    obtain ⟨h4, h5⟩ := hrest b _ hp hs
    refine ⟨U', hk, ?_, ⟨hb.len, hb.le, hb.lim, .inr ⟨b, all, ha, h4, h3⟩⟩⟩
    have e2 : V'.minus x = V'.hide b := by unfold View.minus; rw [ha]
    rw [e2]
    refine ⟨hle.size, fun i o ho => ?_, hle.out⟩
    have hne : i ≠ b := fun e => by rw [e, h5] at ho; cases ho
    rw [hide_see, if_neg hne]; exact hle.see i o ho
theorem Buf.n_eq {α : Type} [Rep α] {W V : View} {x : Sl} {e : TypeId} {cs : List Value} {l : List α} (h : Buf V x e (Rep.sz α) cs) (hr : repL W cs l) : x.n = l.length :=
  Nat.eq_of_mul_eq_mul_right (Rep.pos (α := α)) (h.len.symm.trans hr.len)
/-- The cells of a new block, as a row. -/
theorem rowAt_new {V : View} {r : Nat} {cs : List Value} {e : TypeId} {f : Nat × Nat} (h : V.see r = some (.cells ⟨cs⟩ e f)) {k : Nat} (hk : cs.length = k) : rowAt V (some ⟨r, 0, none⟩) k cs :=
  ⟨hk, cellsAt_of_see h fun j v hj => by simpa using hj⟩
theorem put_le_hide {V U : View} {r : Nat} {o : Obj} (hr : V.see r = none) (h : U.Le V) : U.Le ((V.put r o).hide r) :=
  h.trans ⟨Nat.le_max_left _ _, fun i o' ho => by
    have hne : i ≠ r := fun e => by rw [e, hr] at ho; cases ho
    rw [hide_see, if_neg hne, View.see_put_ne V _ hne]; exact ho, rfl⟩
theorem minus_see_none {V : View} {x : Sl} {r : Nat} (h : V.see r = none) : (V.minus x).see r = none := by
  unfold View.minus; split
  · exact h
  · rw [hide_see]; split
    · rfl
    · exact h
end Go.Proofs.YtdlgpolngnkiaaaGreatDoor

/- Contracts: rows of nodes, names of nodes. -/
namespace Go.Proofs.YtdlgpolngnkiaaaGreatDoor
open Go
theorem indexFuncN_ok {p : Nod → Bool} {s : Sl} {l : List Nod} {V : View} {g : FuncId} {xs ys : List Value} (h : SlR V s l)
    (hp : ∀ n ∈ l, ∀ a b, NodR V a b n → CallV Tryz.prog g ⟨xs ++ [nodV n a b] ++ ys⟩ V fun r V' => r = .bool (p n) ∧ V' = V) :
    CallV Tryz.prog 83 ⟨[.slice s.a s.n s.c, .func (.func g) ⟨xs⟩ ⟨ys⟩]⟩ V fun r V' => r = .int .i64 (idxI p l) ∧ V' = V := by
  refine f83_x ?_
  unfold f83_n
  have hn := h.n; have hlim := h.lim
  refine loop1 (k := .int .i64) (fun (x : Int) V' => V' = V ∧ 0 ≤ x ∧ x ≤ s.n ∧ ∀ j (hj : j < l.length), (j : Int) < x → p l[j] = false) (fun (x : Int) _ => s.n - x.toNat) ⟨rfl, by omega, by omega, fun j _ hj => by omega⟩ ?_
  rintro (x : Int) V' ⟨rfl, h0, h1, h2⟩
  refine br_intro (fun hlt => ?_) (fun hge => ?_)
  · have hlt : x < s.n := by simpa using hlt
    obtain ⟨ad, sq, en, hx, ha, hc, hN⟩ := h.nod h0 hlt
    refine ⟨h0, hlt, ad, ha, _, _, _, sq, en, hc, (hp _ (List.getElem_mem hx) _ _ hN).mono ?_⟩
    rintro r V1 ⟨rfl, rfl⟩
    refine ⟨_, rfl, br_intro (fun hb => ⟨?_, rfl⟩) (fun hb => ⟨inI64 (by omega) (by omega), ⟨rfl, by omega, by omega, fun j hj hjx => ?_⟩, by omega⟩)⟩
    · rw [idxI_first p l x.toNat hx (fun j hj => h2 j (by omega) (by omega)) hb]
      congr 1; omega
    · by_cases e : (j : Int) < x
      · exact h2 j hj e
      · have : j = x.toNat := by omega
        subst this; exact hb
  · have hge : ¬ x < s.n := by simpa using hge
    refine ⟨?_, rfl⟩
    rw [idxI_none p l fun y hy => ?_]
    obtain ⟨j, hj, rfl⟩ := List.getElem_of_mem hy
    exact h2 j hj (by omega)
theorem containsFuncN_ok {p : Nod → Bool} {s : Sl} {l : List Nod} {V : View} {g : FuncId} {xs ys : List Value} (h : SlR V s l)
    (hp : ∀ n ∈ l, ∀ a b, NodR V a b n → CallV Tryz.prog g ⟨xs ++ [nodV n a b] ++ ys⟩ V fun r V' => r = .bool (p n) ∧ V' = V) :
    CallV Tryz.prog 50 ⟨[.slice s.a s.n s.c, .func (.func g) ⟨xs⟩ ⟨ys⟩]⟩ V fun r V' => r = .bool (l.any p) ∧ V' = V := by
  refine f50_x ?_
  unfold f50_n
  refine (indexFuncN_ok h hp).mono ?_
  rintro r V' ⟨rfl, rfl⟩
  refine ⟨_, rfl, ?_, rfl⟩
  congr 1
  rcases idxI_range p l with ⟨h1, h2⟩ | ⟨h1, h2, h3⟩
  · rw [h1, h2]; rfl
  · rw [h3]; simpa using h1
theorem may1_ok {n : Nod} {s e : Sl} {V : View} (h : NodR V s e n) : CallV Tryz.prog 51 ⟨[nodV n s e]⟩ V fun r V' => r = .bool (!mayN n) ∧ V' = V := by
  refine f51_x ?_
  unfold f51_n
  refine fun _ => (mayN_ok h).mono ?_
  rintro r V' ⟨rfl, rfl⟩
  exact ⟨_, rfl, rfl, rfl⟩
theorem hangs_ok {n : Nod} {s e : Sl} {i named : Int} {met : Bool} {V : View} : CallV Tryz.prog 55 ⟨[nodV n s e, .int .i64 i, .int .i64 named, .bool met]⟩ V fun r V' => r = .bool (hangB n i named met) ∧ V' = V := by
  refine f55_x ?_
  unfold f55_n
  refine fun _ => br_intro (fun h2 => ⟨?_, rfl⟩) (fun h2 => br_intro (fun h1 => ⟨?_, rfl⟩) (fun h1 => ⟨?_, rfl⟩))
  · have h2 : n.kind = 2 := of_decide_eq_true h2
    unfold hangB; rw [if_pos h2]
    cases met <;> cases decide (i = 0) <;> rfl
  · have h2 : ¬ n.kind = 2 := of_decide_eq_false h2
    have h1 : n.kind = 1 := of_decide_eq_true h1
    unfold hangB; rw [if_neg h2, if_pos h1]
  · have h2 : ¬ n.kind = 2 := of_decide_eq_false h2
    have h1 : ¬ n.kind = 1 := of_decide_eq_false h1
    unfold hangB; rw [if_neg h2, if_neg h1]
/-! ### rows of numbers that are one's own -/
def intsV (l : List Int) : List Value := l.map fun n => .int .i64 n
def boolsV (l : List Bool) : List Value := l.map fun b => .bool b
theorem putL_one (cs : List Value) (i : Nat) (v : Value) : putL cs i [v] = cs.set i v := rfl
theorem intsV_set (l : List Int) (i : Nat) (n : Int) : (intsV l).set i (.int .i64 n) = intsV (l.set i n) := by unfold intsV; rw [List.map_set]
theorem boolsV_set (l : List Bool) (i : Nat) (n : Bool) : (boolsV l).set i (.bool n) = boolsV (l.set i n) := by unfold boolsV; rw [List.map_set]
theorem rows_int {W : View} : ∀ {l : List Int}, (∀ n ∈ l, inI .i64 n) → repL W (intsV l) l
  | [], _ => rfl
  | n :: l, h => ⟨[.int .i64 n], intsV l, rfl, ⟨rfl, h n (by simp)⟩, rows_int fun m hm => h m (by simp [hm])⟩
theorem rows_bool {W : View} : ∀ {l : List Bool}, repL W (boolsV l) l
  | [] => rfl
  | n :: l => ⟨[.bool n], boolsV l, rfl, rfl, rows_bool⟩
theorem repL_intsV {W : View} : ∀ {cs : List Value} {l : List Int}, repL W cs l → cs = intsV l
  | _, [], h => h
  | _, n :: l, ⟨vs, us, e, h1, h2⟩ => by rw [e, h1.1, repL_intsV h2]; rfl
/-- All the cells of a block, as a row of data. -/
theorem slR_block {α : Type} [Rep α] {V W : View} {r : Nat} {cs : List Value} {te : TypeId} {l : List α} (h : V.see r = some (.cells ⟨cs⟩ te (0, 0))) (hr : repL W cs l) (hW : W.Le V) (hl : l.length ≤ 140737488355328) : SlR V ⟨some ⟨r, 0, none⟩, l.length, l.length⟩ l := by
  have hlen := hr.len
  exact Buf.slR (e := te) (cs := cs) ⟨hlen, Nat.le_refl _, hl, .inr ⟨r, cs, rfl, h, hlen, by rw [List.take_of_length_le (by rw [hlen]; exact Nat.le_refl _)]⟩⟩ hr hW
theorem cnt_len (n : Nat) (es : List Ent) : (cnt n es).length = n := by simp [cnt]
theorem cnt_get (n : Nat) (es : List Ent) {j : Nat} (h : j < n) : (cnt n es).getD j 0 = ((es.countP (fun (x : Ent) => decide (x.node = (j : Int))) : Nat) : Int) := by
  rw [List.getD_eq_getElem?_getD]; simp [cnt, h]
theorem cnt_get' (n : Nat) (es : List Ent) {j : Nat} (h : j < n) : (cnt n es)[j]? = some ((es.countP (fun (x : Ent) => decide (x.node = (j : Int))) : Nat) : Int) := by
  simp [cnt, h]
theorem cnt_out {n : Nat} {es : List Ent} {x : Ent} (h : ¬ (0 ≤ x.node ∧ x.node < n)) : cnt n (es ++ [x]) = cnt n es := by
  unfold cnt
  apply List.map_congr_left
  intro j hj
  have hj := List.mem_range.1 hj
  rw [List.countP_append]
  have : decide (x.node = (j : Int)) = false := decide_eq_false (by omega)
  simp [this]
theorem cnt_in {n : Nat} {es : List Ent} {x : Ent} {k : Nat} (h : x.node = k) (hk : k < n) : cnt n (es ++ [x]) = (cnt n es).set k ((cnt n es).getD k 0 + 1) := by
  apply List.ext_getElem?
  intro j
  by_cases hj : j < n
  · rw [cnt_get' n _ hj, List.getElem?_set]
    by_cases e : k = j
    · subst e
      rw [if_pos rfl, if_pos (by rw [cnt_len]; exact hk), cnt_get n es hk, List.countP_append]
      simp [h]
    · rw [if_neg e, cnt_get' n es hj, List.countP_append]
      have : decide (x.node = (j : Int)) = false := decide_eq_false (by omega)
      simp [this]
  · rw [List.getElem?_eq_none (by rw [cnt_len]; omega), List.getElem?_eq_none (by rw [List.length_set, cnt_len]; omega)]
theorem allE_take {t : Tre} {i : Nat} (h : i < t.length) : allE (t.take (i + 1)) = allE (t.take i) ++ (t.getD i default).ents := by
  unfold allE
  rw [List.take_add_one, List.getElem?_eq_getElem h, List.flatMap_append, getD_at h]
  simp
theorem allE_len : ∀ {t : Tre} {m : Nat}, (∀ n ∈ t, n.ents.length ≤ m) → (allE t).length ≤ m * t.length
  | [], _, _ => by simp [allE]
  | n :: t, m, h => by
    have h1 := allE_len (t := t) (m := m) fun k hk => h k (by simp [hk])
    have h2 := h n (by simp)
    have e : allE (n :: t) = n.ents ++ allE t := by simp [allE]
    rw [e, List.length_append, List.length_cons, Nat.mul_add]
    omega
theorem names_ok {s : Sl} {t : Tre} {V : View} (h : SlR V s t) (h12 : t.length = 12) (he : ∀ n ∈ t, n.ents.length ≤ 10) : CallV Tryz.prog 53 ⟨[treV s]⟩ V fun r V' => ∃ x : Sl, r = .slice x.a x.n x.c ∧ SlR V' x (cnt 12 (allE t)) ∧ V.Le V' := by
  refine f53_x ?_
  unfold f53_n
  have hn : s.n = 12 := by rw [h.n, h12]
  rw [hn]
  refine fun _ => ⟨by decide, by decide, by decide, by decide, fun r hr => ?_⟩
  have hfr : V.see r = none := View.see_none_of_ge hr
  refine loop1 (k := .int .i64) (fun (x : Int) V' => ∃ i : Nat, x = i ∧ i ≤ 12 ∧ V'.see r = some (.cells ⟨intsV (cnt 12 (allE (t.take i)))⟩ 3 (0, 0)) ∧ V.Le (V'.hide r)) (fun (x : Int) _ => 12 - x.toNat) ⟨0, rfl, by omega, View.see_put_same _ _ _, put_le_hide hfr (View.Le.refl _)⟩ ?_
  rintro (x : Int) V1 ⟨i, rfl, hi, hs1, hV1⟩
  have hV1' : V.Le V1 := hV1.trans (View.hide_le _ _)
  refine br_intro (fun hlt => ?_) (fun hge => ?_)
  · have hlt : i < 12 := by have := of_decide_eq_true hlt; omega
    obtain ⟨ad, sq, en, ha, hc, hN⟩ := h.nodN (i := i) (by omega)
    have hmem : t.getD i default ∈ t := by rw [getD_at (by omega)]; exact List.getElem_mem _
    have hle := he _ hmem
    have htk : (allE (t.take i)).length ≤ 10 * 12 := Nat.le_trans (allE_len fun n hn => he n (List.mem_of_mem_take hn)) (Nat.mul_le_mul_left _ (by simp; omega))
    refine ⟨by omega, by omega, ad, ha, _, _, _, sq, en, cellsAt_mono hV1' hc, fun _ => ?_⟩
    generalize hnd : t.getD i default = nd at *
    have hen := hN.ents.n
    refine loop1 (k := .int .i64) (fun (x : Int) V' => ∃ k : Nat, x = k ∧ k ≤ nd.ents.length ∧ V'.see r = some (.cells ⟨intsV (cnt 12 (allE (t.take i) ++ nd.ents.take k))⟩ 3 (0, 0)) ∧ V.Le (V'.hide r)) (fun (x : Int) _ => nd.ents.length - x.toNat) ⟨0, rfl, by omega, by simpa using hs1, hV1⟩ ?_
    rintro (x : Int) V2 ⟨k, rfl, hk, hs2, hV2⟩
    have hV2' : V.Le V2 := hV2.trans (View.hide_le _ _)
    refine br_intro (fun hlt => ?_) (fun hge => ?_)
    · have hlt : k < nd.ents.length := by have := of_decide_eq_true hlt; omega
      obtain ⟨ad, ha, hc, hsz, hin⟩ := (hN.ents.mono hV2').entN hlt
      refine ⟨by omega, by omega, ad, ha, _, _, hc, fun _ => ?_⟩
      have etk : nd.ents.take (k + 1) = nd.ents.take k ++ [nd.ents.getD k default] := by rw [List.take_add_one, List.getElem?_eq_getElem hlt, getD_at hlt]; rfl
      generalize hx : nd.ents.getD k default = x at *
      refine joinP_cut (fun _ V3 => V3.see r = some (.cells ⟨intsV (cnt 12 (allE (t.take i) ++ nd.ents.take (k + 1)))⟩ 3 (0, 0)) ∧ V.Le (V3.hide r)) (br_intro (fun hb => ?_) (fun hb => ?_)) ?_
      · have hb : 0 ≤ x.node ∧ x.node < 12 := by
          cases h1 : decide (0 ≤ x.node) <;> rw [h1] at hb
          · cases hb
          · exact ⟨of_decide_eq_true h1, by have := of_decide_eq_true hb; omega⟩
        obtain ⟨q, hq⟩ : ∃ q : Nat, x.node = q := ⟨x.node.toNat, by omega⟩
        have hq12 : q < 12 := by omega
        have hqs : (cnt 12 (allE (t.take i) ++ nd.ents.take k)).getD q 0 ≤ 130 ∧ 0 ≤ (cnt 12 (allE (t.take i) ++ nd.ents.take k)).getD q 0 := by
          rw [cnt_get 12 _ hq12]
          have := List.countP_le_length (p := fun (x : Ent) => decide (x.node = (q : Int))) (l := allE (t.take i) ++ nd.ents.take k)
          simp only [List.length_append, List.length_take] at this
          omega
        have eset := cnt_in (es := allE (t.take i) ++ nd.ents.take k) hq hq12
        rw [List.append_assoc, ← etk] at eset
        have hgc : V2.cell? (Addr.add ⟨r, 0, none⟩ (x.node.toNat * 1)) = some (.int .i64 ((cnt 12 (allE (t.take i) ++ nd.ents.take k)).getD q 0)) := by
          rw [hq, addr0_add]
          refine cell_of_see hs2 ?_
          rw [cnt_get 12 _ hq12]
          simp [intsV, cnt_get' 12 _ hq12]
        refine ⟨hb.1, by omega, _, rfl, _, hgc, inI64 (by omega) (by omega), hb.1, by omega, _, rfl, ?_, ?_, ?_⟩
        · rw [hq, addr0_add]
          exact canSet_of hs2 (show 0 + q * 1 + 1 ≤ _ by simp [intsV, cnt_len]; omega)
        · rw [hq, addr0_add, sets_see hs2, putL_one, View.see_put_same]
          simp only [Int.toNat_natCast, Nat.zero_add, Nat.mul_one]
          rw [intsV_set, ← eset]
        · rw [hq, addr0_add, sets_see hs2]
          exact hV2.trans (hide_le_put_hide r _)
      · have hb : ¬ (0 ≤ x.node ∧ x.node < 12) := by
          rintro ⟨h1, h2⟩
          rw [decide_eq_true h1] at hb
          have := of_decide_eq_false hb
          omega
        refine ⟨?_, hV2⟩
        rw [etk, ← List.append_assoc, cnt_out hb]; exact hs2
      · rintro ⟨⟩ V3 ⟨hs3, hV3⟩
        exact ⟨inI64 (by omega) (by omega), ⟨k + 1, by omega, by omega, hs3, hV3⟩, by omega⟩
    · have hge : k = nd.ents.length := by have := of_decide_eq_false hge; omega
      subst hge
      rw [List.take_length] at hs2
      refine ⟨inI64 (by omega) (by omega), ⟨i + 1, by omega, by omega, ?_, hV2⟩, by omega⟩
      rw [allE_take (by omega), hnd]; exact hs2
  · have hge : i = 12 := by have := of_decide_eq_false hge; omega
    subst hge
    rw [List.take_of_length_le (by omega)] at hs1
    refine ⟨⟨some ⟨r, 0, none⟩, 12, 12⟩, rfl, ?_, hV1'⟩
    have := slR_block (W := V1) hs1 (rows_int fun n hn => ?_) (View.Le.refl _) (by rw [cnt_len]; omega)
    · rw [cnt_len] at this; exact this
    · unfold cnt at hn
      obtain ⟨j, _, rfl⟩ := List.mem_map.1 hn
      have h1 := List.countP_le_length (p := fun (x : Ent) => decide (x.node = (j : Int))) (l := allE t)
      have h2 := allE_len he
      exact inI64 (by omega) (by omega)
end Go.Proofs.YtdlgpolngnkiaaaGreatDoor

/- Which nodes one comes to: a stack and marks. No program in this text. -/
namespace Go.Proofs.YtdlgpolngnkiaaaGreatDoor
open Go
/-- Marks and a stack; of node i the first 'lim i' entries are done, unless it is on the stack. -/
structure DI (t : Tre) (a : Nat) (lim : Nat → Nat) (met : List Bool) (l : List Int) : Prop where
  len : met.length = 12
  start : met.getD a false = true
  sound : ∀ j, met.getD j false = true → Reach t a j
  stack : ∀ y ∈ l, 0 ≤ y ∧ y < 12 ∧ met.getD y.toNat false = true
  done : ∀ i, met.getD i false = true → (i : Int) ∈ l ∨ ∀ e ∈ (t.getD i default).ents.take (lim i), met.getD e.node.toNat false = true
  room : l.length + met.countP (fun b => !b) ≤ 12
def full (t : Tre) (i : Nat) : Nat := (t.getD i default).ents.length
def upto (t : Tre) (c k i : Nat) : Nat := if i = c then k else full t i
theorem getD_set_bool (met : List Bool) (q j : Nat) (h : q < met.length) : (met.set q true).getD j false = if j = q then true else met.getD j false := by
  rw [List.getD_eq_getElem?_getD, List.getD_eq_getElem?_getD, List.getElem?_set]
  by_cases e : q = j
  · rw [if_pos e, if_pos e.symm, if_pos h]; rfl
  · rw [if_neg e, if_neg (fun h => e h.symm)]
theorem countP_set : ∀ (met : List Bool) (q : Nat), q < met.length → met.getD q false = false → (met.set q true).countP (fun b => !b) + 1 = met.countP (fun b => !b)
  | b :: met, 0, _, h => by
    have h : b = false := by simpa using h
    subst h
    simp
  | b :: met, q + 1, hq, h => by
    have := countP_set met q (by simpa using hq) (by simpa using h)
    simp only [List.set_cons_succ, List.countP_cons]
    omega
theorem DI.first {t : Tre} {a : Nat} (ha : a < 12) : DI t a (full t) ((List.replicate 12 false).set a true) [(a : Int)] := by
  have hl : a < (List.replicate 12 false).length := by simpa using ha
  have hg := fun j => getD_set_bool (List.replicate 12 false) a j hl
  have hr : ∀ j, (List.replicate 12 false).getD j false = false := fun j => by
    rw [List.getD_eq_getElem?_getD, List.getElem?_replicate]; split <;> rfl
  have hc := countP_set _ a hl (hr a)
  have hc2 : (List.replicate 12 false).countP (fun b => !b) = 12 := rfl
  refine ⟨by simp, by rw [hg, if_pos rfl], fun j hj => ?_, fun y hy => ?_, fun i hi => ?_, by simp only [List.length_cons, List.length_nil]; omega⟩
  · rw [hg, hr] at hj
    split at hj
    · rename_i e; subst e; exact .refl
    · cases hj
  · have hy : y = a := by simpa using hy
    subst hy
    exact ⟨by omega, by omega, by rw [Int.toNat_natCast, hg, if_pos rfl]⟩
  · rw [hg, hr] at hi
    split at hi
    · rename_i e; subst e; left; simp
    · cases hi
theorem DI.pop {t : Tre} {a : Nat} {met : List Bool} {l : List Int} {c : Nat} (h : DI t a (full t) met (l ++ [(c : Int)])) : DI t a (upto t c 0) met l := by
  refine ⟨h.len, h.start, h.sound, fun y hy => h.stack y (by simp [hy]), fun i hi => ?_, by have := h.room; simp at this; omega⟩
  unfold upto
  by_cases e : i = c
  · right; rw [if_pos e]; simp
  · rw [if_neg e]
    rcases h.done i hi with h1 | h1
    · left
      rcases List.mem_append.1 h1 with h2 | h2
      · exact h2
      · exact absurd (Int.ofNat.inj (by simpa using h2)) e
    · exact .inr h1
theorem DI.old {t : Tre} {a : Nat} {met : List Bool} {l : List Int} {c k : Nat} (h : DI t a (upto t c k) met l) (hk : k < full t c) (hm : met.getD ((t.getD c default).ents.getD k default).node.toNat false = true) : DI t a (upto t c (k + 1)) met l := by
  refine ⟨h.len, h.start, h.sound, h.stack, fun i hi => ?_, h.room⟩
  rcases h.done i hi with h1 | h1
  · exact .inl h1
  · right
    unfold upto at h1 ⊢
    by_cases e : i = c
    · subst e
      rw [if_pos rfl] at h1 ⊢
      rw [List.take_add_one, List.getElem?_eq_getElem hk]
      intro x hx
      rcases List.mem_append.1 hx with h2 | h2
      · exact h1 x h2
      · have h2 : x = (t.getD i default).ents[k] := by simpa using h2
        rw [getD_at hk] at hm
        rw [h2]; exact hm
    · rw [if_neg e] at h1 ⊢; exact h1
theorem DI.new {t : Tre} {a : Nat} {met : List Bool} {l : List Int} {c k q : Nat} (h : DI t a (upto t c k) met l) (hk : k < full t c) (hq : ((t.getD c default).ents.getD k default).node = q) (hq12 : q < 12) (hc : met.getD c false = true) (hm : met.getD q false = false) :
    DI t a (upto t c (k + 1)) (met.set q true) (l ++ [(q : Int)]) ∧ (met.set q true).countP (fun b => !b) + 1 = met.countP (fun b => !b) := by
  have hl : q < met.length := by rw [h.len]; exact hq12
  have hg := fun j => getD_set_bool met q j hl
  have hcp := countP_set met q hl hm
  have up : ∀ j, met.getD j false = true → (met.set q true).getD j false = true := fun j hj => by rw [hg, hj]; simp
  have hreach : Reach t a q := by
    have hx : (t.getD c default).ents.getD k default ∈ (t.getD c default).ents := by
      rw [getD_at hk]; exact List.getElem_mem hk
    have := Reach.step (h.sound c hc) hx
    rw [hq, Int.toNat_natCast] at this
    exact this
  refine ⟨⟨by simp [h.len], up _ h.start, fun j hj => ?_, fun y hy => ?_, fun i hi => ?_, by have := h.room; simp; omega⟩, hcp⟩
  · rw [hg] at hj
    split at hj
    · rename_i e; subst e; exact hreach
    · exact h.sound j hj
  · rcases List.mem_append.1 hy with h1 | h1
    · obtain ⟨y1, y2, y3⟩ := h.stack y h1
      exact ⟨y1, y2, up _ y3⟩
    · have h1 : y = q := by simpa using h1
      subst h1
      exact ⟨by omega, by omega, by rw [Int.toNat_natCast, hg, if_pos rfl]⟩
  · rw [hg] at hi
    by_cases e : i = q
    · left; subst e; simp
    · rw [if_neg e] at hi
      rcases h.done i hi with h1 | h1
      · left; simp [h1]
      · right
        unfold upto at h1 ⊢
        by_cases e : i = c
        · subst e
          rw [if_pos rfl] at h1 ⊢
          rw [List.take_add_one, List.getElem?_eq_getElem hk]
          intro x hx
          rcases List.mem_append.1 hx with h2 | h2
          · exact up _ (h1 x h2)
          · have h2 : x = (t.getD i default).ents[k] := by simpa using h2
            rw [getD_at hk] at hq
            rw [h2, hq, Int.toNat_natCast, hg, if_pos rfl]
        · rw [if_neg e] at h1 ⊢
          exact fun x hx => up _ (h1 x hx)
theorem DI.close {t : Tre} {a : Nat} {met : List Bool} {l : List Int} {c : Nat} (h : DI t a (upto t c (full t c)) met l) : DI t a (full t) met l := by
  have e : upto t c (full t c) = full t := by
    funext i
    unfold upto
    by_cases e : i = c
    · rw [if_pos e, e]
    · rw [if_neg e]
  rw [e] at h; exact h
theorem DI.end {t : Tre} {a : Nat} {met : List Bool} (h : DI t a (full t) met []) : met = (List.range 12).map (metB t a) := by
  have hall : ∀ j, Reach t a j → met.getD j false = true := by
    intro j hj
    induction hj with
    | refl => exact h.start
    | step hi hx ih =>
      rcases h.done _ ih with h1 | h1
      · cases h1
      · exact h1 _ (by unfold full; rw [List.take_length]; exact hx)
  apply List.ext_getElem (by simp [h.len])
  intro j h1 h2
  have e : met.getD j false = met[j] := by rw [List.getD_eq_getElem?_getD, List.getElem?_eq_getElem h1]; rfl
  rw [List.getElem_map, List.getElem_range, Bool.eq_iff_iff, metB_iff, ← e]
  exact ⟨h.sound j, hall j⟩
end Go.Proofs.YtdlgpolngnkiaaaGreatDoor

/- The contract of dir.below. -/
namespace Go.Proofs.YtdlgpolngnkiaaaGreatDoor
open Go
def isF : Value → Bool
  | .bool b => !b
  | _ => false
def unm : Option Obj → Nat
  | some (.cells c _ _) => c.toList.countP isF
  | _ => 0
theorem unm_bools (met : List Bool) (e : TypeId) (f : Nat × Nat) : unm (some (.cells ⟨boolsV met⟩ e f)) = met.countP (fun b => !b) := by
  show (boolsV met).countP isF = _
  unfold boolsV
  rw [List.countP_map]
  rfl
/-- Marks in a block, a stack in a row of one's own, beside what was there. -/
structure BI (V V' : View) (r : Nat) (x : Sl) (met : List Bool) (l : List Int) : Prop where
  marks : V'.see r = some (.cells ⟨boolsV met⟩ 4 (0, 0))
  stack : Buf (V'.hide r) x 3 1 (intsV l)
  le : V.Le ((V'.hide r).minus x)
theorem intsV_len (l : List Int) : (intsV l).length = l.length := by simp [intsV]
theorem boolsV_len (l : List Bool) : (boolsV l).length = l.length := by simp [boolsV]
theorem BI.n {V V' : View} {r : Nat} {x : Sl} {met : List Bool} {l : List Int} (h : BI V V' r x met l) : x.n = l.length := by
  have := h.stack.len; rw [intsV_len, Nat.mul_one] at this; exact this.symm
theorem BI.vle {V V' : View} {r : Nat} {x : Sl} {met : List Bool} {l : List Int} (h : BI V V' r x met l) : V.Le V' := h.le.trans ((View.minus_le _ _).trans (View.hide_le _ _))
theorem below_ok {s : Sl} {t : Tre} {a : Nat} {V : View} (h : SlR V s t) (h12 : t.length = 12) (ha : a < 12) (hnode : ∀ n ∈ t, ∀ e ∈ n.ents, 0 ≤ e.node ∧ e.node < 12) :
    CallV Tryz.prog 54 ⟨[treV s, .int .i64 a]⟩ V fun r V' => ∃ x : Sl, r = .slice x.a x.n x.c ∧ SlR V' x ((List.range 12).map (metB t a)) ∧ V.Le V' := by
  refine f54_x ?_
  unfold f54_n
  have hn : s.n = 12 := by rw [h.n, h12]
  rw [hn]
  refine fun _ => ⟨by decide, by decide, by decide, by decide, fun r hr r1 hr1 => ?_⟩
  have hfr : V.see r = none := View.see_none_of_ge hr
  have hfr1 := View.see_none_of_ge hr1
  have hne : r ≠ r1 := fun e => by rw [← e, View.see_put_same] at hfr1; cases hfr1
  generalize hU : (V.put r _) = U at *
  have hUr : U.see r = some (.cells ⟨boolsV (List.replicate 12 false)⟩ 4 (0, 0)) := by rw [← hU, View.see_put_same]; rfl
  have hVU : V.Le (U.hide r) := by rw [← hU]; exact put_le_hide hfr (View.Le.refl _)
  generalize hU1 : (U.put r1 _) = U1
  have hU1r : U1.see r = some (.cells ⟨boolsV (List.replicate 12 false)⟩ 4 (0, 0)) := by rw [← hU1, View.see_put_ne _ _ hne]; exact hUr
  have hU1s : U1.see r1 = some (.cells ⟨[.int .i64 a]⟩ 3 (0, 0)) := by rw [← hU1, View.see_put_same]; rfl
  have hVU1 : V.Le ((U1.hide r).hide r1) := by
    refine hVU.trans ?_
    rw [← hU1]
    refine ⟨Nat.le_max_left _ _, fun i o ho => ?_, rfl⟩
    rw [hide_see] at ho
    split at ho
    · cases ho
    · rename_i hi
      have hi1 : i ≠ r1 := fun e => by rw [e, hfr1] at ho; cases ho
      rw [hide_see, if_neg hi1, hide_see, if_neg hi, View.see_put_ne _ _ hi1]; exact ho
  refine ⟨by omega, by omega, _, rfl, ?_, ?_⟩
  · rw [addr0_add]; exact canSet_of hU1r (show 0 + ((a : Int)).toNat * 1 + 1 ≤ _ by rw [boolsV_len]; simp; omega)
  have hst : U1.sets ((⟨r, 0, none⟩ : Addr).add ((a : Int).toNat * 1)) [.bool true] = U1.put r (.cells ⟨boolsV ((List.replicate 12 false).set a true)⟩ 4 (0, 0)) := by
    rw [addr0_add, sets_see hU1r, putL_one]
    simp only [Int.toNat_natCast, Nat.zero_add, Nat.mul_one]
    rw [boolsV_set]
  rw [hst]
  refine loop1 (k := .sl) (fun (x : Sl) V' => ∃ met l, BI V V' r x met l ∧ DI t a (full t) met l) (fun (x : Sl) V' => 2 * unm (V'.see r) + x.n) ⟨_, [(a : Int)], ⟨View.see_put_same _ _ _, ⟨rfl, Nat.le_refl _, (by decide : 1 ≤ 140737488355328), .inr ⟨r1, [.int .i64 a], rfl, ?_, rfl, rfl⟩⟩, ?_⟩, DI.first ha⟩ ?_
  · rw [hide_see, if_neg (fun e => hne e.symm), View.see_put_ne _ _ (fun e => hne e.symm)]; exact hU1s
  · refine hVU1.trans ?_
    show ((U1.hide r).hide r1).Le (((U1.put r _).hide r).hide r1)
    exact hide_mono (hide_le_put_hide r _) r1
  rintro (x : Sl) V1 ⟨met, l, hB, hD⟩
  have hxn := hB.n
  have hxc := hB.stack.le
  have hroom := hD.room
  have hxl : x.n ≤ 140737488355328 := hB.stack.lim
  have hV1 := hB.vle
  refine br_intro (fun hlt => ?_) (fun hge => ?_)
  · have hlt : 0 < x.n := by have := of_decide_eq_true hlt; omega
    obtain ⟨l', y, rfl⟩ : ∃ l' y, l = l' ++ [y] := by
      rcases List.eq_nil_or_concat l with h1 | ⟨l', y, h1⟩
      · rw [h1] at hxn; simp at hxn; omega
      · exact ⟨l', y, by simpa using h1⟩
    obtain ⟨y1, y2, y3⟩ := hD.stack y (by simp)
    obtain ⟨c, rfl⟩ : ∃ c : Nat, y = c := ⟨y.toNat, by omega⟩
    rw [Int.toNat_natCast] at y3
    simp only [List.length_append, List.length_cons, List.length_nil] at hxn hroom
    have hrow := hB.stack.row
    cases hxa : x.a with
    | none => rw [hxa] at hrow; simp [rowAt, intsV] at hrow
    | some ad =>
      rw [hxa] at hrow
      have hcell : V1.cell? (ad.add (((x.n : Int) - 1).toNat * 1)) = some (.int .i64 c) := by
        have e1 : (((x.n : Int) - 1).toNat * 1) = l'.length := by omega
        rw [e1]
        have := hrow.2 l'.length (.int .i64 c) (by simp [intsV])
        exact (View.hide_le V1 r).cell this
      obtain ⟨ad2, sq, en, ha2, hc2, hN⟩ := h.nodN (i := c) (by omega)
      have hmem : t.getD c default ∈ t := by rw [getD_at (by omega)]; exact List.getElem_mem _
      have hnd := hnode _ hmem
      have hc24 := cellsAt_nth (cellsAt_mono hV1 hc2) 4 rfl
      refine ⟨inI64 (by omega) (by omega), by omega, by omega, ad, rfl, _, hcell, inI64 (by omega) (by omega), by omega, by omega, by omega, by omega, by omega, ad2, ha2, en, hc24, ?_⟩
      have e2 : (if x.c = 0 then some ad else Option.map (fun (x : Addr) => x.add 0) (some ad)) = some ad := by rw [map_add_zero]; simp
      rw [e2, Nat.sub_zero, Nat.sub_zero]
      have hen := hN.ents.n
      have helim := hN.ents.lim
      have hfl : full t c = en.n := hen.symm
      have hbuf' : Buf (V1.hide r) ⟨some ad, ((x.n : Int) - 1).toNat, x.c⟩ 3 1 (intsV l') := by
        have := hB.stack.cut (k := ((x.n : Int) - 1).toNat) (by omega)
        rw [hxa] at this
        have e3 : (intsV (l' ++ [(c : Int)])).take ((((x.n : Int) - 1).toNat) * 1) = intsV l' := by
          have e1 : (((x.n : Int) - 1).toNat * 1) = l'.length := by omega
          rw [e1]; unfold intsV; rw [List.map_append, List.take_left' (by simp)]
        rw [e3] at this
        exact this
      have hle' : V.Le ((V1.hide r).minus ⟨some ad, ((x.n : Int) - 1).toNat, x.c⟩) := by
        have := hB.le
        unfold View.minus at this ⊢
        rw [hxa] at this
        exact this
      have hmeas : 2 * unm (V1.see r) + x.n = 2 * met.countP (fun b => !b) + l'.length + 1 := by rw [hB.marks, unm_bools]; omega
      rw [hmeas]
      generalize hM : 2 * met.countP (fun b => !b) + l'.length + 1 = M
      refine loop2 (k := .sl) (l := .int .i64) (fun (x : Sl) (i : Int) V' => ∃ (k : Nat) (met : List Bool) (l : List Int), i = k ∧ k ≤ full t c ∧ BI V V' r x met l ∧ DI t a (upto t c k) met l ∧ met.getD c false = true ∧ 2 * met.countP (fun b => !b) + l.length + 1 ≤ M) (fun _ (i : Int) _ => full t c - i.toNat)
        ⟨0, met, l', rfl, Nat.zero_le _, ⟨hB.marks, hbuf', hle'⟩, hD.pop, y3, by omega⟩ ?_
      rintro (z : Sl) (i : Int) V2 ⟨k, met2, l2, rfl, hk, hB2, hD2, hc', hM2⟩
      have hV2 := hB2.vle
      have hzn := hB2.n
      have hroom2 := hD2.room
      refine br_intro (fun hlt => ?_) (fun hge => ?_)
      · have hlt : k < full t c := by have := of_decide_eq_true hlt; omega
        obtain ⟨ad3, ha3, hc3, _, _⟩ := (hN.ents.mono hV2).entN (i := k) hlt
        have hxm : (t.getD c default).ents.getD k default ∈ (t.getD c default).ents := by rw [getD_at hlt]; exact List.getElem_mem _
        have hq := hnd _ hxm
        obtain ⟨q, hqe⟩ : ∃ q : Nat, ((t.getD c default).ents.getD k default).node = q := ⟨((t.getD c default).ents.getD k default).node.toNat, by omega⟩
        have hq12 : q < 12 := by omega
        have hcm : V2.cell? (Addr.add ⟨r, 0, none⟩ (((t.getD c default).ents.getD k default).node.toNat * 1)) = some (.bool (met2.getD q false)) := by
          rw [hqe, addr0_add]
          refine cell_of_see hB2.marks ?_
          have hql : q < met2.length := by rw [hD2.len]; exact hq12
          rw [List.getD_eq_getElem?_getD, List.getElem?_eq_getElem hql]
          show (boolsV met2)[0 + ((q : Int)).toNat * 1]? = _
          unfold boolsV
          rw [Int.toNat_natCast, Nat.zero_add, Nat.mul_one, List.getElem?_map, List.getElem?_eq_getElem hql]
          rfl
        refine ⟨by omega, by omega, ad3, ha3, _, _, hc3, fun _ => ⟨hq.1, by omega, _, rfl, _, hcm, ?_⟩⟩
        refine joinP_cut (fun w V3 => ∃ met l, BI V V3 r w.1 met l ∧ DI t a (upto t c (k + 1)) met l ∧ met.getD c false = true ∧ 2 * met.countP (fun b => !b) + l.length + 1 ≤ M) (br_intro (fun hb => ?_) (fun hb => ?_)) ?_
        · have hb : met2.getD q false = false := not_t hb
          obtain ⟨hD3, hcp⟩ := hD2.new hlt hqe hq12 hc' hb
          have hup : (met2.set q true).getD c false = true := by rw [getD_set_bool _ _ _ (by rw [hD2.len]; exact hq12), hc']; simp
          have hset : V2.sets ((⟨r, 0, none⟩ : Addr).add (((t.getD c default).ents.getD k default).node.toNat * 1)) [.bool true] = V2.put r (.cells ⟨boolsV (met2.set q true)⟩ 4 (0, 0)) := by
            rw [hqe, addr0_add, sets_see hB2.marks, putL_one]
            simp only [Int.toNat_natCast, Nat.zero_add, Nat.mul_one]
            rw [boolsV_set]
          refine ⟨hq.1, by omega, _, rfl, ?_, ?_⟩
          · rw [hqe, addr0_add]; exact canSet_of hB2.marks (show 0 + ((q : Int)).toNat * 1 + 1 ≤ _ by rw [boolsV_len, hD2.len]; simp; omega)
          · rw [hset]
            intro r2 hr2
            have hfr2 := View.see_none_of_ge hr2
            have hne2 : r ≠ r2 := fun e => by rw [← e, View.see_put_same] at hfr2; cases hfr2
            have hbuf2 : Buf ((V2.put r (.cells ⟨boolsV (met2.set q true)⟩ 4 (0, 0))).hide r) z 3 1 (intsV l2) := hB2.stack.mono (hide_le_put_hide r _)
            have hle2 : V.Le (((V2.put r (.cells ⟨boolsV (met2.set q true)⟩ 4 (0, 0))).hide r).minus z) := hB2.le.trans (minus_mono (hide_le_put_hide r _) z)
            have hsee2 : (V2.put r (.cells ⟨boolsV (met2.set q true)⟩ 4 (0, 0))).see r = some (.cells ⟨boolsV (met2.set q true)⟩ 4 (0, 0)) := View.see_put_same _ _ _
            generalize (V2.put r (.cells ⟨boolsV (met2.set q true)⟩ 4 (0, 0))) = W at *
            have hW := View.put_le (o := .cells ⟨putL [.int .i64 0] 0 [.int .i64 ((t.getD c default).ents.getD k default).node]⟩ 3 (0, 0)) hfr2
            refine apV_beside (V0 := V) (p := r) (cs := intsV l2) (src := [.int .i64 q]) (m := 1) rfl (hW.see _ _ hsee2) (hbuf2.mono (hide_mono hW r)) (hle2.trans (minus_mono (hide_mono hW r) z)) ⟨rfl, rowAt_new (by rw [View.see_put_same, hqe]; rfl) rfl⟩ rfl rfl (by show (z.n + 1) * 8 ≤ _; omega) (by show z.n + 1 ≤ _; omega) ?_
            intro s3 V3 hsee3 hbuf3 hle3 _
            have e4 : intsV l2 ++ [.int .i64 (q : Int)] = intsV (l2 ++ [(q : Int)]) := by simp [intsV]
            rw [e4] at hbuf3
            exact ⟨_, _, ⟨hsee3, hbuf3, hle3⟩, hD3, hup, by simp; omega⟩
        · have hb : met2.getD q false = true := not_f hb
          exact ⟨met2, l2, ⟨hB2.marks, hB2.stack, hB2.le⟩, hD2.old hlt (by rw [hqe, Int.toNat_natCast]; exact hb), hc', hM2⟩
        · rintro ⟨w, ⟨⟩⟩ V3 ⟨met3, l3, hB3, hD3, hc3, hM3⟩
          exact ⟨inI64 (by omega) (by omega), ⟨k + 1, met3, l3, by omega, by omega, hB3, hD3, hc3, hM3⟩, by omega⟩
      · have hge : k = full t c := by have := of_decide_eq_false hge; omega
        subst hge
        refine ⟨⟨met2, l2, ⟨hB2.marks, hB2.stack, hB2.le⟩, hD2.close⟩, ?_⟩
        rw [hB2.marks, unm_bools]
        show 2 * _ + z.n < _
        omega
  · have hge : l = [] := List.eq_nil_of_length_eq_zero (by have := of_decide_eq_false hge; omega)
    subst hge
    refine ⟨⟨some ⟨r, 0, none⟩, 12, 12⟩, rfl, ?_, hV1⟩
    have := slR_block (W := V1) hB.marks rows_bool (View.Le.refl _) (by rw [hD.len]; omega)
    rw [hD.len, hD.end] at this
    exact this
end Go.Proofs.YtdlgpolngnkiaaaGreatDoor

/- Maps with numbers as keys: what is found behind a key, and behind what is put. No program in this text. -/
namespace Go.Proofs.YtdlgpolngnkiaaaGreatDoor
open Go
def keyI (e : MapEntry) : Int := match e.key with
  | .int _ n => n
  | _ => 0
/-- All keys are numbers. -/
def IntK (es : List MapEntry) : Prop := ∀ e ∈ es, ∃ n, e.key = .int .i64 n
/-- What stands behind a key. -/
def vlk (k : Int) : List MapEntry → Option Value
  | [] => none
  | e :: es => if keyI e = k then some e.val else vlk k es
theorem mfind_int {k : Int} : ∀ {es : List MapEntry} (_ : IntK es) (i : Nat), ∃ f, mfind (.int .i64 k) es i = some f ∧
    ((f = none ∧ vlk k es = none) ∨ ∃ j v, f = some (i + j, v) ∧ vlk k es = some v ∧ j < es.length ∧ ∀ (u : MapEntry → MapEntry) (w : Value), (∀ e, keyI e = k → keyI (u e) = k ∧ (u e).val = w ∧ ∃ n, (u e).key = .int .i64 n) → IntK (es.modify j u) ∧ ∀ k', vlk k' (es.modify j u) = if k' = k then some w else vlk k' es)
  | [], _, i => ⟨none, rfl, .inl ⟨rfl, rfl⟩⟩
  | e :: es, h, i => by
    obtain ⟨n, hn⟩ := h e (by simp)
    have hk : keyI e = n := by unfold keyI; rw [hn]
    have h' : IntK es := fun e he => h e (by simp [he])
    have hq : keyEq (.int .i64 k) (.int .i64 n) = some (decide (k = n)) := rfl
    by_cases hkn : k = n
    · subst hkn
      refine ⟨some (i, e.val), ?_, .inr ⟨0, e.val, rfl, by unfold vlk; rw [if_pos hk], by simp, fun u w hu => ⟨?_, fun k' => ?_⟩⟩⟩
      · unfold mfind; rw [hn, hq, decide_eq_true rfl]
      · intro e' he'
        rw [List.modify_zero_cons] at he'
        rcases List.mem_cons.1 he' with h1 | h1
        · rw [h1]; exact (hu e hk).2.2
        · exact h' e' h1
      · rw [List.modify_zero_cons]
        unfold vlk
        rw [(hu e hk).1, (hu e hk).2.1, hk]
        by_cases e1 : k = k'
        · rw [if_pos e1, if_pos e1.symm]
        · rw [if_neg e1, if_neg (fun h => e1 h.symm), if_neg e1]
    · have hne : ¬ keyI e = k := fun e => hkn (by rw [← e, hk])
      obtain ⟨f, hf, hr⟩ := mfind_int (k := k) h' (i + 1)
      refine ⟨f, by unfold mfind; rw [hn, hq, decide_eq_false hkn]; exact hf, ?_⟩
      rcases hr with ⟨h1, h2⟩ | ⟨j, v, h1, h2, h3, h4⟩
      · exact .inl ⟨h1, by unfold vlk; rw [if_neg hne]; exact h2⟩
      · refine .inr ⟨j + 1, v, by rw [h1]; congr 2; omega, by unfold vlk; rw [if_neg hne]; exact h2, by simpa using h3, fun u w hu => ?_⟩
        obtain ⟨h5, h6⟩ := h4 u w hu
        rw [List.modify_succ_cons]
        refine ⟨fun e' he' => ?_, fun k' => ?_⟩
        · rcases List.mem_cons.1 he' with h7 | h7
          · rw [h7]; exact ⟨n, hn⟩
          · exact h5 e' h7
        · unfold vlk
          by_cases e1 : keyI e = k'
          · rw [if_pos e1, if_pos e1, if_neg (fun h => hne (by rw [e1, h]))]
          · rw [if_neg e1, if_neg e1]; exact h6 k'
theorem vlk_append (k : Int) : ∀ (es ds : List MapEntry), vlk k (es ++ ds) = (vlk k es).or (vlk k ds)
  | [], ds => by simp [vlk]
  | e :: es, ds => by
    show (if keyI e = k then some e.val else vlk k (es ++ ds)) = (if keyI e = k then some e.val else vlk k es).or (vlk k ds)
    split
    · rfl
    · exact vlk_append k es ds
/-- What is put is found; all else is as it was. -/
theorem mput_int {es : Array MapEntry} {cl : Nat} {k : Int} {v : Value} (h : IntK es.toList) :
    ∃ f, mfind (.int .i64 k) es.toList 0 = some f ∧ (∀ z, found z f = (vlk k es.toList).getD z) ∧ ∃ es' cl', mput es cl f (.int .i64 k) v = .map es' cl' ∧ IntK es'.toList ∧ ∀ k', vlk k' es'.toList = if k' = k then some v else vlk k' es.toList := by
  obtain ⟨f, hf, hr⟩ := mfind_int (k := k) h 0
  refine ⟨f, hf, ?_, ?_⟩
  · intro z
    rcases hr with ⟨rfl, h2⟩ | ⟨j, w, rfl, h2, _⟩
    · rw [h2]; rfl
    · rw [h2]; rfl
  · rcases hr with ⟨rfl, h2⟩ | ⟨j, w, rfl, h2, h3, h4⟩
    · refine ⟨_, _, rfl, ?_, fun k' => ?_⟩
      · intro e he
        rw [Array.toList_push] at he
        rcases List.mem_append.1 he with h5 | h5
        · exact h e h5
        · rw [List.mem_singleton.1 h5]; exact ⟨k, rfl⟩
      · rw [Array.toList_push, vlk_append]
        by_cases e1 : k' = k
        · rw [if_pos e1, e1, h2]; simp [vlk, keyI]
        · rw [if_neg e1]
          have e2 : ¬ k = k' := fun h => e1 h.symm
          have : vlk k' [{ key := .int .i64 k, val := v, born := cl }] = none := by simp [vlk, keyI, e2]
          rw [this]; simp
    · obtain ⟨h5, h6⟩ := h4 (fun e => { e with key := .int .i64 k, val := v }) v (fun e _ => ⟨rfl, rfl, k, rfl⟩)
      refine ⟨_, _, rfl, ?_, fun k' => ?_⟩
      · rw [Array.toList_modify, Nat.zero_add]; exact h5
      · rw [Array.toList_modify, Nat.zero_add]; exact h6 k'
end Go.Proofs.YtdlgpolngnkiaaaGreatDoor

/- The contract of dir.apart. -/
namespace Go.Proofs.YtdlgpolngnkiaaaGreatDoor
open Go
/-- A map that counts. -/
def CountM (V : View) (r : Nat) (l : List Int) : Prop := ∃ es cl, V.see r = some (.map es cl) ∧ IntK es.toList ∧ ∀ k, (vlk k es.toList).getD (.int .i64 0) = .int .i64 (l.count k)
theorem count_snoc (l : List Int) (x k : Int) : (l ++ [x]).count k = l.count k + if k = x then 1 else 0 := by
  rw [List.count_append]
  by_cases e : k = x
  · subst e; simp
  · rw [if_neg e]; simp [Ne.symm e]
theorem CountM.bump {V : View} {r : Nat} {l : List Int} (h : CountM V r l) (x : Int) : ∃ es cl f, V.see r = some (.map es cl) ∧ mfind (.int .i64 x) es.toList 0 = some f ∧ found (.int .i64 0) f = .int .i64 (l.count x) ∧ CountM (V.put r (mput es cl f (.int .i64 x) (.int .i64 ((l.count x : Int) + 1)))) r (l ++ [x]) := by
  obtain ⟨es, cl, hs, hk, hv⟩ := h
  obtain ⟨f, hf, hfd, es', cl', hm, hk', hv'⟩ := mput_int (cl := cl) (k := x) (v := .int .i64 ((l.count x : Int) + 1)) hk
  refine ⟨es, cl, f, hs, hf, by rw [hfd, hv], es', cl', by rw [View.see_put_same, hm], hk', fun k => ?_⟩
  rw [hv', count_snoc]
  by_cases e : k = x
  · rw [if_pos e, if_pos e, e]; rfl
  · rw [if_neg e, if_neg e, hv]; simp
theorem CountM.look {V : View} {r : Nat} {l : List Int} (h : CountM V r l) (x : Int) : ∃ es cl f, V.see r = some (.map es cl) ∧ mfind (.int .i64 x) es.toList 0 = some f ∧ found (.int .i64 0) f = .int .i64 (l.count x) := by
  obtain ⟨es, cl, f, h1, h2, h3, _⟩ := h.bump x
  exact ⟨es, cl, f, h1, h2, h3⟩
theorem allS_take {t : Tre} {i : Nat} (h : i < t.length) : allS (t.take (i + 1)) = allS (t.take i) ++ (t.getD i default).seqs := by
  unfold allS
  rw [List.take_add_one, List.getElem?_eq_getElem h, List.flatMap_append, getD_at h]
  simp
theorem allS_len : ∀ {t : Tre} {m : Nat}, (∀ n ∈ t, n.seqs.length ≤ m) → (allS t).length ≤ m * t.length
  | [], _, _ => by simp [allS]
  | n :: t, m, h => by
    have h1 := allS_len (t := t) (m := m) fun k hk => h k (by simp [hk])
    have h2 := h n (by simp)
    have e : allS (n :: t) = n.seqs ++ allS t := by simp [allS]
    rw [e, List.length_append, List.length_cons, Nat.mul_add]
    omega
theorem allS_prefix (t : Tre) (i : Nat) : allS (t.take i) <+: allS t := by
  have : allS t = allS (t.take i) ++ allS (t.drop i) := by unfold allS; rw [← List.flatMap_append, List.take_append_drop]
  rw [this]; exact List.prefix_append _ _
theorem apart_prefix {l m : List Int} (h : l <+: m) (ha : apartL l = false) : apartL m = false := by
  unfold apartL at *
  rw [decide_eq_false_iff_not] at *
  exact fun hm => ha (hm.sublist (h.sublist.filter _))
theorem apart_snoc {l : List Int} {x : Int} (h : apartL l = true) : apartL (l ++ [x]) = !(!decide (x = 0) && decide (1 < (l ++ [x]).count x)) := by
  unfold apartL at *
  have h := of_decide_eq_true h
  rw [List.filter_append, count_snoc, if_pos rfl]
  by_cases hx : x = 0
  · subst hx; simpa using h
  · have e1 : [x].filter (fun s => decide (s ≠ 0)) = [x] := by simp [hx]
    rw [e1]
    by_cases hm : x ∈ l
    · have hc := List.count_pos_iff.2 hm
      have : ¬ (l.filter (fun s => decide (s ≠ 0)) ++ [x]).Nodup := by
        rw [List.nodup_append]
        intro hn
        exact hn.2.2 x (by simp [hm, hx]) x (by simp) rfl
      rw [decide_eq_false this, decide_eq_true (show 1 < l.count x + 1 by omega)]
      simp [hx]
    · have hc := List.count_eq_zero.2 hm
      have : (l.filter (fun s => decide (s ≠ 0)) ++ [x]).Nodup := by
        rw [List.nodup_append]
        refine ⟨h, by simp, fun a ha b hb hab => ?_⟩
        have hb : b = x := by simpa using hb
        rw [hab, hb] at ha
        exact hm ((List.mem_filter.1 ha).1)
      rw [decide_eq_true this, hc]
      simp
theorem apart_ok {s : Sl} {t : Tre} {V : View} (h : SlR V s t) (h12 : t.length = 12) (h5 : ∀ n ∈ t, n.seqs.length ≤ 5) : CallV Tryz.prog 56 ⟨[treV s]⟩ V fun r V' => r = .bool (apartL (allS t)) ∧ V.Le V' := by
  refine f56_x ?_
  unfold f56_n
  have hn : s.n = 12 := by rw [h.n, h12]
  rw [hn]
  refine fun _ r hr => ?_
  have hfr : V.see r = none := View.see_none_of_ge hr
  refine loop1 (k := .int .i64) (fun (x : Int) V' => ∃ i : Nat, x = i ∧ i ≤ 12 ∧ CountM V' r (allS (t.take i)) ∧ apartL (allS (t.take i)) = true ∧ V.Le (V'.hide r)) (fun (x : Int) _ => 12 - x.toNat) ⟨0, rfl, by omega, ⟨_, _, View.see_put_same _ _ _, fun e he => (by cases he), fun k => rfl⟩, rfl, put_le_hide hfr (View.Le.refl _)⟩ ?_
  rintro (x : Int) V1 ⟨i, rfl, hi, hs1, hp1, hV1⟩
  have hV1' : V.Le V1 := hV1.trans (View.hide_le _ _)
  refine br_intro (fun hlt => ?_) (fun hge => ?_)
  · have hlt : i < 12 := by have := of_decide_eq_true hlt; omega
    obtain ⟨ad, sq, en, ha, hc, hN⟩ := h.nodN (i := i) (by omega)
    have hmem : t.getD i default ∈ t := by rw [getD_at (by omega)]; exact List.getElem_mem _
    have hle := h5 _ hmem
    have htk : (allS (t.take i)).length ≤ 5 * 12 := Nat.le_trans (allS_len fun n hn => h5 n (List.mem_of_mem_take hn)) (Nat.mul_le_mul_left _ (by simp; omega))
    have hpre := allS_prefix t (i + 1)
    rw [allS_take (by omega)] at hpre
    refine ⟨by omega, by omega, ad, ha, _, _, _, sq, en, cellsAt_mono hV1' hc, fun _ => ?_⟩
    generalize hnd : t.getD i default = nd at *
    have hsn := hN.seqs.n
    refine loop1 (k := .int .i64) (fun (x : Int) V' => ∃ k : Nat, x = k ∧ k ≤ nd.seqs.length ∧ CountM V' r (allS (t.take i) ++ nd.seqs.take k) ∧ apartL (allS (t.take i) ++ nd.seqs.take k) = true ∧ V.Le (V'.hide r)) (fun (x : Int) _ => nd.seqs.length - x.toNat) ⟨0, rfl, by omega, by simpa using hs1, by simpa using hp1, hV1⟩ ?_
    rintro (x : Int) V2 ⟨k, rfl, hk, hs2, hp2, hV2⟩
    have hV2' : V.Le V2 := hV2.trans (View.hide_le _ _)
    refine br_intro (fun hlt => ?_) (fun hge => ?_)
    · have hlt : k < nd.seqs.length := by have := of_decide_eq_true hlt; omega
      obtain ⟨ad, ha, hc, hin⟩ := (hN.seqs.mono hV2').intN hlt
      refine ⟨by omega, by omega, ad, ha, _, hc, ?_⟩
      have etk : nd.seqs.take (k + 1) = nd.seqs.take k ++ [nd.seqs.getD k 0] := by rw [List.take_add_one, List.getElem?_eq_getElem hlt, getD_at0 hlt]; rfl
      have hpre2 : allS (t.take i) ++ nd.seqs.take (k + 1) <+: allS t := by
        refine List.IsPrefix.trans ?_ hpre
        rw [List.prefix_append_right_inj]
        exact List.take_prefix _ _
      rw [etk, ← List.append_assoc] at hpre2
      generalize hx : nd.seqs.getD k 0 = x at *
      obtain ⟨es, cl, f, hse, hmf, hfd, hbump⟩ := hs2.bump x
      have hcl : (allS (t.take i) ++ nd.seqs.take k).count x ≤ 65 := by
        refine Nat.le_trans List.count_le_length ?_
        simp only [List.length_append, List.length_take]; omega
      refine ⟨trivial, es, cl, f, hse, hmf, _, hfd, inI64 (by omega) (by omega), trivial, r, es, cl, f, rfl, hse, hmf, ?_⟩
      dsimp only
      have hV3 : V.Le ((V2.put r (mput es cl f (.int .i64 x) (.int .i64 (((allS (t.take i) ++ nd.seqs.take k).count x : Int) + 1)))).hide r) := hV2.trans (hide_le_put_hide r _)
      generalize (V2.put r (mput es cl f (.int .i64 x) (.int .i64 (((allS (t.take i) ++ nd.seqs.take k).count x : Int) + 1)))) = V3 at *
      refine joinP_cut (fun q V' => q.1 = !apartL (allS (t.take i) ++ nd.seqs.take k ++ [x]) ∧ V' = V3) (br_intro (fun hx0 => ?_) (fun hx0 => ⟨?_, rfl⟩)) ?_
      · obtain ⟨es, cl, f, h1, h2, h3⟩ := hbump.look x
        refine ⟨trivial, es, cl, f, h1, h2, _, h3, ?_, rfl⟩
        rw [apart_snoc hp2, hx0]
        simp only [Bool.true_and, Bool.not_not]
        exact decide_eq_decide.2 (by omega)
      · rw [apart_snoc hp2, hx0]; rfl
      · rintro ⟨q, ⟨⟩⟩ V4 ⟨h1, hV⟩
        simp only at h1 hV
        subst h1 hV
        dsimp only [unc]
        refine br_intro (fun hb => ⟨?_, hV3.trans (View.hide_le _ _)⟩) (fun hb => ⟨inI64 (by omega) (by omega), ⟨k + 1, by omega, by omega, ?_, ?_, hV3⟩, by omega⟩)
        · rw [apart_prefix hpre2 (not_t hb)]
        · rw [etk, ← List.append_assoc]; exact hbump
        · rw [etk, ← List.append_assoc]; exact not_f hb
    · have hge : k = nd.seqs.length := by have := of_decide_eq_false hge; omega
      subst hge
      rw [List.take_length] at hs2 hp2
      refine ⟨inI64 (by omega) (by omega), ⟨i + 1, by omega, by omega, ?_, ?_, hV2⟩, by omega⟩
      · rw [allS_take (by omega), hnd]; exact hs2
      · rw [allS_take (by omega), hnd]; exact hp2
  · have hge : i = 12 := by have := of_decide_eq_false hge; omega
    subst hge
    rw [List.take_of_length_le (by omega)] at hp1
    exact ⟨by rw [hp1], hV1'⟩
end Go.Proofs.YtdlgpolngnkiaaaGreatDoor

/- The contract of dir.May. -/
namespace Go.Proofs.YtdlgpolngnkiaaaGreatDoor
open Go
theorem mayN_seqs {n : Nod} (h : mayN n = true) : n.seqs.length ≤ 5 := by
  unfold mayN at h
  split at h
  · simp at h; rw [h.1.2]; simp
  · split at h
    · unfold fileB at h; simp at h; omega
    · split at h
      · simp at h; rw [h.1.2]; simp
      · cases h
theorem mayT_ok {s : Sl} {t : Tre} {V : View} (h : SlR V s t) : CallV Tryz.prog 22 ⟨[treV s]⟩ V fun r V' => r = .bool (mayT t) ∧ V.Le V' := by
  refine f22_x ?_
  unfold f22_n
  have hn := h.n
  refine fun _ => joinP_cut (fun q V' => q.1 = (!(decide (t.length = 12) && t.all mayN && decide ((t.getD 0 default).kind = 2))) ∧ V' = V) (br_intro (fun hb => ⟨?_, rfl⟩) (fun hb => ?_)) ?_
  · have hb : ¬ t.length = 12 := by have := of_decide_eq_false (not_t hb); omega
    rw [decide_eq_false hb]; rfl
  · have hb : t.length = 12 := by have := of_decide_eq_true (not_f hb); omega
    refine (containsFuncN_ok (p := fun n => !mayN n) h fun n _ a b hN => ?_).mono ?_
    · exact may1_ok hN
    · rintro r V' ⟨rfl, rfl⟩
      have e1 : (t.any fun n => !mayN n) = !t.all mayN := by rw [List.any_eq_not_all_not]; simp
      refine ⟨_, rfl, br_intro (fun h1 => ⟨?_, rfl⟩) (fun h1 => ?_)⟩
      · rw [e1] at h1
        rw [not_t h1, Bool.and_false]; rfl
      · rw [e1] at h1
        obtain ⟨ad, sq, en, ha, hc, hN⟩ := h.nodN (i := 0) (by omega)
        refine ⟨by omega, by omega, ad, ha, _, cellsAt_nth hc 0 rfl, ?_, rfl⟩
        rw [decide_eq_true hb, not_f h1]; rfl
  · rintro ⟨q, ⟨⟩⟩ V1 ⟨h1, hV⟩
    simp only at h1 hV
    subst h1 hV
    dsimp only [unc]
    refine br_intro (fun hb => ⟨?_, View.Le.refl _⟩) (fun hb => ?_)
    · have hb := not_t hb
      unfold mayT
      have : (decide (t.length = 12) && t.all mayN && decide ((t.getD 0 default).kind = 2)) = false := by simpa using hb
      rw [this]; rfl
    · have hb := not_f hb
      have h3 : (decide (t.length = 12) && t.all mayN && decide ((t.getD 0 default).kind = 2)) = true := hb
      have hM : mayT t = ((List.range 12).all (fun i => hangB (t.getD i default) i ((cnt 12 (allE t)).getD i 0) (metB t 0 i)) && apartL (allS t)) := by
        unfold mayT; rw [h3, Bool.true_and]
      rw [hM]
      simp only [Bool.and_eq_true, decide_eq_true_eq, List.all_eq_true] at h3
      obtain ⟨⟨h12, hall⟩, _⟩ := h3
      have hE : ∀ n ∈ t, n.ents.length ≤ 10 := fun n hn => mayL_len (mayN_ents (hall n hn))
      have hnode : ∀ n ∈ t, ∀ e ∈ n.ents, 0 ≤ e.node ∧ e.node < 12 := fun n hn e he => by
        have := mayL_node (mayN_ents (hall n hn)) he; omega
      refine ⟨trivial, V1, View.Le.refl _, (names_ok h h12 hE).mono ?_⟩
      rintro r V2 ⟨x, rfl, hx, hV2⟩
      refine ⟨x, rfl, hV2, (below_ok (a := 0) (h.mono hV2) h12 (by decide) hnode).mono ?_⟩
      rintro r V3 ⟨y, rfl, hy, hV3⟩
      refine ⟨y, rfl, ?_⟩
      have hx3 := hx.mono hV3
      refine loop1 (k := .int .i64) (fun (x : Int) V' => V' = V3 ∧ ∃ i : Nat, x = i ∧ i ≤ 12 ∧ (List.range i).all (fun i => hangB (t.getD i default) i ((cnt 12 (allE t)).getD i 0) (metB t 0 i)) = true) (fun (x : Int) _ => 12 - x.toNat) ⟨rfl, 0, rfl, by omega, rfl⟩ ?_
      rintro (i : Int) V4 ⟨rfl, i, rfl, hi, hP⟩
      have hV14 := hV2.trans hV3
      refine br_intro (fun hlt => ?_) (fun hge => ?_)
      · have hlt : i < 12 := by have := of_decide_eq_true hlt; omega
        obtain ⟨ad, sq, en, ha, hc, hN⟩ := (h.mono hV14).nodN (i := i) (by omega)
        obtain ⟨ad2, ha2, hc2, _⟩ := hx3.intN (i := i) (by rw [cnt_len]; exact hlt)
        obtain ⟨ad3, hx', ha3, hc3⟩ := hy.bool (x := (i : Int)) (by omega) (by have := hy.n; simp at this; omega)
        have e3 : ((List.range 12).map (metB t 0))[((i : Int)).toNat] = metB t 0 i := by simp
        rw [e3] at hc3
        have hxn := hx3.n
        rw [cnt_len] at hxn
        have hyn := hy.n
        simp only [List.length_map, List.length_range] at hyn
        refine ⟨by omega, by omega, ad, ha, _, _, _, sq, en, hc, fun _ => ⟨trivial, V4, View.Le.refl _, by omega, by omega, ad2, ha2, _, hc2, by omega, by omega, ad3, ha3, _, hc3, hangs_ok.mono ?_⟩⟩
        rintro r V5 ⟨rfl, rfl⟩
        refine ⟨_, rfl, br_intro (fun hb => ⟨?_, hV14⟩) (fun hb => ⟨inI64 (by omega) (by omega), ⟨rfl, i + 1, by omega, by omega, all_step hP (not_f hb)⟩, by omega⟩)⟩
        rw [all_stop hlt (not_t hb)]; rfl
      · have hge : i = 12 := by have := of_decide_eq_false hge; omega
        subst hge
        refine (apart_ok (h.mono hV14) h12 fun n hn => mayN_seqs (hall n hn)).mono ?_
        rintro r V5 ⟨rfl, hV5⟩
        refine ⟨_, rfl, ?_, hV14.trans hV5⟩
        rw [hP, Bool.true_and]
end Go.Proofs.YtdlgpolngnkiaaaGreatDoor

/- Numbers and texts as bytes: plain functions and what they answer. No program in this text. -/
namespace Go.Proofs.YtdlgpolngnkiaaaGreatDoor
/-- The digits of a number ahead of its last one, the greatest first. -/
def hiL : Nat → Nat → List UInt8
  | 0, _ => []
  | f + 1, n => if n = 0 then [] else hiL f (n / 128) ++ [UInt8.ofNat (n % 128 + 128)]
/-- A number as bytes. -/
def numL (n : Nat) : List UInt8 := hiL 6 (n / 128) ++ [UInt8.ofNat (n % 128)]
/-- What is laid for a number that is handed in. -/
def clampN (n : Int) : Nat := (min (max n 0) 1099511627776).toNat
def numI (n : Int) : List UInt8 := numL (clampN n)
/-- A number in front, and what is behind it. -/
def numGo (most : Nat) : Nat → Nat → List UInt8 → Option (Nat × List UInt8)
  | 0, _, _ => none
  | _, _, [] => none
  | f + 1, m, c :: b => if 128 ≤ c.toNat then numGo most f (m * 128 + c.toNat % 128) b else if most < m * 128 + c.toNat % 128 then none else some (m * 128 + c.toNat % 128, b)
theorem numGo_cons (most f m : Nat) (c : UInt8) (b : List UInt8) : numGo most (f + 1) m (c :: b) = if 128 ≤ c.toNat then numGo most f (m * 128 + c.toNat % 128) b else if most < m * 128 + c.toNat % 128 then none else some (m * 128 + c.toNat % 128, b) := rfl
def numP (most : Nat) (b : List UInt8) : Option (Nat × List UInt8) :=
  match b with
  | [] => none
  | c :: r => if c.toNat = 128 then none else numGo most 6 0 (c :: r)
theorem hiL_len : ∀ (f n : Nat), (hiL f n).length ≤ f
  | 0, _ => Nat.le_refl _
  | f + 1, n => by
    unfold hiL
    split
    · simp
    · have := hiL_len f (n / 128)
      simp; omega
theorem hiL_bound : ∀ (f n : Nat), n < 128 ^ f → hiL f n = hiL (f + 1) n
  | 0, n, h => by
    have : n = 0 := by simpa using h
    subst this; rfl
  | f + 1, n, h => by
    by_cases h0 : n = 0
    · subst h0; rfl
    · rw [hiL, hiL, if_neg h0, if_neg h0, hiL_bound f (n / 128) (Nat.div_lt_of_lt_mul (by rw [Nat.pow_succ] at h; omega))]
theorem toNat_ofNat_lt {n : Nat} (h : n < 256) : (UInt8.ofNat n).toNat = n := by rw [UInt8.toNat_ofNat']; omega
/-- Reading goes through the digits ahead. -/
theorem numGo_hi (most : Nat) : ∀ (f n : Nat) (g m : Nat) (r : List UInt8), n < 128 ^ f → (hiL f n).length ≤ g →
    numGo most g m (hiL f n ++ r) = numGo most (g - (hiL f n).length) (m * 128 ^ (hiL f n).length + n) r
  | 0, n, g, m, r, h, _ => by
    have : n = 0 := by simpa using h
    subst this
    simp [hiL]
  | f + 1, n, g, m, r, h, hg => by
    by_cases h0 : n = 0
    · subst h0; simp [hiL]
    · have hd : n / 128 < 128 ^ f := Nat.div_lt_of_lt_mul (by rw [Nat.pow_succ] at h; omega)
      have e : hiL (f + 1) n = hiL f (n / 128) ++ [UInt8.ofNat (n % 128 + 128)] := by rw [hiL, if_neg h0]
      rw [e] at hg ⊢
      simp only [List.length_append, List.length_cons, List.length_nil, Nat.zero_add] at hg ⊢
      rw [List.append_assoc, numGo_hi most f (n / 128) g m _ hd (by omega)]
      obtain ⟨k, hk⟩ : ∃ k, g - (hiL f (n / 128)).length = k + 1 := ⟨g - (hiL f (n / 128)).length - 1, by omega⟩
      rw [hk, List.singleton_append, numGo_cons]
      have h1 : (UInt8.ofNat (n % 128 + 128)).toNat = n % 128 + 128 := toNat_ofNat_lt (by omega)
      have e3 : (m * 128 ^ (hiL f (n / 128)).length + n / 128) * 128 + (n % 128 + 128) % 128 = m * 128 ^ ((hiL f (n / 128)).length + 1) + n := by
        rw [Nat.pow_succ, ← Nat.mul_assoc, Nat.add_mul]
        omega
      rw [h1, if_pos (by omega), show g - ((hiL f (n / 128)).length + 1) = k by omega, e3]
theorem hiL_head : ∀ (f n : Nat), n < 128 ^ f → ∀ c r, hiL f n = c :: r → 128 < c.toNat
  | 0, n, _, c, r, e => by simp [hiL] at e
  | f + 1, n, h, c, r, e => by
    unfold hiL at e
    split at e
    · simp at e
    · rename_i h0
      have hd : n / 128 < 128 ^ f := Nat.div_lt_of_lt_mul (by rw [Nat.pow_succ] at h; omega)
      cases hh : hiL f (n / 128) with
      | nil =>
        rw [hh] at e
        simp only [List.nil_append, List.cons.injEq] at e
        have hz : n / 128 = 0 := by
          cases f with
          | zero => simpa using hd
          | succ f =>
            apply Classical.byContradiction
            intro hne
            rw [hiL, if_neg hne] at hh
            simp at hh
        rw [← e.1, toNat_ofNat_lt (by omega)]
        omega
      | cons d s =>
        rw [hh] at e
        simp only [List.cons_append, List.cons.injEq] at e
        rw [← e.1]
        exact hiL_head f _ hd d s hh
theorem num_lt {n : Nat} (h : n ≤ 1099511627776) : n / 128 < 128 ^ 5 := by
  have : (128 : Nat) ^ 5 = 34359738368 := by decide
  omega
theorem hi_len5 {n : Nat} (h : n ≤ 1099511627776) : (hiL 6 (n / 128)).length ≤ 5 := by
  rw [← hiL_bound 5 _ (num_lt h)]
  exact hiL_len 5 _
/-- What is laid is read as it was. -/
theorem numP_numL {n most : Nat} (h : n ≤ 1099511627776) (hm : n ≤ most) (r : List UInt8) : numP most (numL n ++ r) = some (n, r) := by
  have hb : n / 128 < 128 ^ 6 := Nat.lt_of_lt_of_le (num_lt h) (Nat.pow_le_pow_right (by decide) (by decide))
  have hgo : numGo most 6 0 (numL n ++ r) = some (n, r) := by
    unfold numL
    rw [List.append_assoc, numGo_hi most 6 (n / 128) 6 0 _ hb (by have := hi_len5 h; omega)]
    obtain ⟨k, hk⟩ : ∃ k, 6 - (hiL 6 (n / 128)).length = k + 1 := ⟨6 - (hiL 6 (n / 128)).length - 1, by have := hi_len5 h; omega⟩
    rw [hk, List.singleton_append, Nat.zero_mul, Nat.zero_add, numGo_cons]
    rw [toNat_ofNat_lt (by omega), if_neg (by omega), Nat.mod_mod, Nat.mul_comm, Nat.div_add_mod, if_neg (by omega)]
  unfold numP
  cases hc : numL n ++ r with
  | nil => unfold numL at hc; simp at hc
  | cons c s =>
    rw [← hc]
    simp only [hc]
    rw [if_neg, ← hc, hgo]
    unfold numL at hc
    cases hh : hiL 6 (n / 128) with
    | nil =>
      rw [hh] at hc
      simp only [List.nil_append, List.cons_append, List.cons.injEq] at hc
      rw [← hc.1, toNat_ofNat_lt (by omega)]
      omega
    | cons d t =>
      rw [hh] at hc
      simp only [List.cons_append, List.cons.injEq] at hc
      have := hiL_head 6 _ hb d t hh
      rw [← hc.1]
      omega
/-- What is read was laid so. -/
theorem numGo_inv (most : Nat) : ∀ (g m : Nat) (b : List UInt8) (n : Nat) (r : List UInt8), numGo most g m b = some (n, r) →
    n ≤ most ∧ ∃ ds : List UInt8, ∃ c : UInt8, b = ds ++ c :: r ∧ c.toNat < 128 ∧ ds.length < g ∧ (∀ d ∈ ds, 128 ≤ d.toNat) ∧ n = (ds.foldl (fun a d => a * 128 + d.toNat % 128) m) * 128 + c.toNat
  | 0, m, b, n, r, h => by simp [numGo] at h
  | g + 1, m, [], n, r, h => by simp [numGo] at h
  | g + 1, m, c :: b, n, r, h => by
    rw [numGo_cons] at h
    split at h
    · rename_i hc
      obtain ⟨h1, ds, c', h2, h3, h4, h5, h6⟩ := numGo_inv most g _ b n r h
      refine ⟨h1, c :: ds, c', by rw [h2]; rfl, h3, by simp; omega, fun d hd => ?_, h6⟩
      rcases List.mem_cons.1 hd with rfl | hd
      · exact hc
      · exact h5 d hd
    · rename_i hc
      split at h
      · cases h
      · rename_i hm
        cases h
        exact ⟨by omega, [], c, rfl, by omega, by simp, by simp, by simp; omega⟩
theorem fold_hi : ∀ (f : Nat) (ds : List UInt8), ds.length ≤ f → (∀ d ∈ ds, 128 ≤ d.toNat) → (∀ d r, ds = d :: r → d.toNat ≠ 128) → hiL f (ds.foldl (fun a d => a * 128 + d.toNat % 128) 0) = ds
  | f, ds, hf, hall, hhd => by
    induction f generalizing ds with
    | zero =>
      have : ds = [] := List.eq_nil_of_length_eq_zero (by omega)
      subst this; rfl
    | succ f ih =>
      rcases List.eq_nil_or_concat ds with rfl | ⟨ds', c, rfl⟩
      · rfl
      · rw [List.concat_eq_append] at *
        rw [List.foldl_append]
        simp only [List.foldl_cons, List.foldl_nil]
        have hc := hall c (by simp)
        have hc2 : c.toNat < 256 := c.toNat_lt
        have hdiv : (ds'.foldl (fun a d => a * 128 + d.toNat % 128) 0 * 128 + c.toNat % 128) / 128 = ds'.foldl (fun a d => a * 128 + d.toNat % 128) 0 := by omega
        have hmod : (ds'.foldl (fun a d => a * 128 + d.toNat % 128) 0 * 128 + c.toNat % 128) % 128 + 128 = c.toNat := by omega
        have hne : ds'.foldl (fun a d => a * 128 + d.toNat % 128) 0 * 128 + c.toNat % 128 ≠ 0 := by
          intro h0
          have h1 : ds'.foldl (fun a d => a * 128 + d.toNat % 128) 0 = 0 := by omega
          have h2 := ih ds' (by simp at hf; omega) (fun d hd => hall d (by simp [hd])) (fun d r e => hhd d (r ++ [c]) (by rw [e]; rfl))
          rw [h1] at h2
          have h3 : ds' = [] := by
            cases f with
            | zero => exact h2.symm
            | succ f => rw [hiL, if_pos rfl] at h2; exact h2.symm
          subst h3
          exact hhd c [] rfl (by simp at h0; omega)
        rw [hiL, if_neg hne, hdiv, hmod, ih ds' (by simp at hf; omega) (fun d hd => hall d (by simp [hd])) (fun d r e => hhd d (r ++ [c]) (by rw [e]; rfl))]
        congr 2
        exact UInt8.ofNat_toNat
theorem numL_numP {most : Nat} {b : List UInt8} {n : Nat} {r : List UInt8} (h : numP most b = some (n, r)) : n ≤ most ∧ b = numL n ++ r := by
  unfold numP at h
  split at h
  · cases h
  · rename_i c0 b0
    split at h
    · cases h
    · rename_i h128
      obtain ⟨h1, ds, c, h2, h3, h4, h5, h6⟩ := numGo_inv most 6 0 _ n r h
      refine ⟨h1, ?_⟩
      have hds := fold_hi 6 ds (by omega) h5 (fun d s e => by
        subst e
        rw [List.cons_append, List.cons.injEq] at h2
        rw [← h2.1]; exact h128)
      unfold numL
      rw [h6, h2]
      rw [show (ds.foldl (fun a d => a * 128 + d.toNat % 128) 0 * 128 + c.toNat) / 128 = ds.foldl (fun a d => a * 128 + d.toNat % 128) 0 by omega, hds,
        show (ds.foldl (fun a d => a * 128 + d.toNat % 128) 0 * 128 + c.toNat) % 128 = c.toNat by omega, UInt8.ofNat_toNat, List.append_assoc]
      rfl
/-- A text behind its length. -/
def textL (s : List UInt8) : List UInt8 := numI s.length ++ s
def textP (most : Nat) (b : List UInt8) : Option (List UInt8 × List UInt8) :=
  match numP most b with
  | none => none
  | some (n, r) => if r.length < n then none else some (r.take n, r.drop n)
end Go.Proofs.YtdlgpolngnkiaaaGreatDoor

/- Contracts of package bytes. -/
namespace Go.Proofs.YtdlgpolngnkiaaaGreatDoor
open Go
/-- Bytes as cells. -/
def u8s (l : List UInt8) : List Value := l.map fun b => .int .u8 b.toNat
theorem u8s_append (l m : List UInt8) : u8s (l ++ m) = u8s l ++ u8s m := List.map_append
theorem u8s_len (l : List UInt8) : (u8s l).length = l.length := List.length_map _
theorem u8s_one (l : List UInt8) : (u8s l).all Value.oneCell' = true := by
  rw [List.all_eq_true]
  intro v hv
  obtain ⟨b, _, rfl⟩ := List.mem_map.1 hv
  rfl
theorem u8s_rep {W : View} : ∀ l : List UInt8, repL W (u8s l) l
  | [] => rfl
  | b :: l => ⟨[.int .u8 b.toNat], u8s l, rfl, rfl, u8s_rep l⟩
theorem repL_u8 {W : View} : ∀ {cs : List Value} {l : List UInt8}, repL W cs l → cs = u8s l
  | _, [], h => h
  | _, b :: l, ⟨vs, us, e, h1, h2⟩ => by
    have h1 : vs = [Value.int .u8 b.toNat] := h1
    rw [e, h1, repL_u8 h2]; rfl
theorem SlR.row8 {V : View} {s : Sl} {l : List UInt8} (h : SlR V s l) : rowAt V s.a (s.n * 1) (u8s l) := by
  obtain ⟨cs, h1, h2⟩ := h.row
  rw [repL_u8 h2] at h1
  exact h1
/-- Bytes that a call made: in a row of its own. -/
structure Fresh8 (V V' : View) (x : Sl) (l : List UInt8) : Prop where
  buf : Buf V' x 5 1 (u8s l)
  le : V.Le (V'.minus x)
theorem Fresh8.slR {V V' : View} {x : Sl} {l : List UInt8} (h : Fresh8 V V' x l) : SlR V' x l := h.buf.slR (W := V) (u8s_rep l) (h.le.trans (View.minus_le _ _))
theorem Fresh8.vle {V V' : View} {x : Sl} {l : List UInt8} (h : Fresh8 V V' x l) : V.Le V' := h.le.trans (View.minus_le _ _)
theorem flat_len8 : ∀ (ls : List (List UInt8)) (i : Nat), (ls.take i).flatten.length ≤ ls.flatten.length
  | [], i => by simp
  | x :: ls, 0 => by simp
  | x :: ls, i + 1 => by
    have := flat_len8 ls i
    simp only [List.take_succ_cons, List.flatten_cons, List.length_append]
    omega
theorem SlR.sl8 {V : View} {s : Sl} {ls : List (List UInt8)} (h : SlR V s ls) {x : Int} (h0 : 0 ≤ x) (h1 : x < s.n) :
    ∃ ad, ∃ y : Sl, ∃ hx : x.toNat < ls.length, s.a = some ad ∧ V.cell? (ad.add (x.toNat * 1)) = some (.slice y.a y.n y.c) ∧ SlR V y ls[x.toNat] := by
  obtain ⟨ad, vs, hx, ha, hc, y, rfl, hy⟩ := h.ld h0 h1
  exact ⟨ad, y, hx, ha, cellsAt_one.1 hc, hy⟩
/-- Digits, the least first. -/
def loL : Nat → Nat → List UInt8
  | 0, _ => []
  | f + 1, n => if n = 0 then [] else UInt8.ofNat (n % 128 + 128) :: loL f (n / 128)
theorem loL_rev : ∀ (f n : Nat), (loL f n).reverse = hiL f n
  | 0, _ => rfl
  | f + 1, n => by
    unfold loL hiL
    split
    · rfl
    · rw [List.reverse_cons, loL_rev f]
theorem numL_rev (n : Nat) : (UInt8.ofNat (n % 128) :: loL 6 (n / 128)).reverse = numL n := by
  rw [List.reverse_cons, loL_rev]; rfl
theorem loL_len : ∀ (f n : Nat), (loL f n).length ≤ f := fun f n => by rw [← List.length_reverse, loL_rev]; exact hiL_len f n
theorem numL_len (n : Nat) : (numL n).length ≤ 7 := by
  unfold numL
  have := hiL_len 6 (n / 128)
  simp; omega
theorem wrap_u8 {n : Int} (h0 : 0 ≤ n) (h1 : n ≤ 255) : IntKind.u8.wrap n = n := by
  unfold IntKind.wrap
  simp [IntKind.signed, IntKind.bits]
  omega
theorem clamp_eq (n : Int) : (if (1099511627776 : Int) < (if (0 : Int) > n then 0 else n) then (1099511627776 : Int) else if (0 : Int) > n then 0 else n) = (clampN n : Int) := by
  unfold clampN
  split <;> split <;> omega
theorem clampN_le (n : Int) : clampN n ≤ 1099511627776 := by unfold clampN; omega
theorem numI_len (n : Int) : (numI n).length ≤ 7 := numL_len _
/-- Numbers behind one another. -/
def numsL (l : List Int) : List UInt8 := (l.map numI).flatten
theorem numsL_append (l m : List Int) : numsL (l ++ m) = numsL l ++ numsL m := by simp [numsL]
theorem numsL_one (n : Int) : numsL [n] = numI n := by simp [numsL]
theorem numsL_len : ∀ l : List Int, (numsL l).length ≤ 7 * l.length
  | [] => by simp [numsL]
  | n :: l => by
    have h1 := numI_len n
    have h2 := numsL_len l
    have e : numsL (n :: l) = numI n ++ numsL l := rfl
    rw [e, List.length_append, List.length_cons]
    omega
end Go.Proofs.YtdlgpolngnkiaaaGreatDoor

/- Contracts of bytes.Reader. -/
namespace Go.Proofs.YtdlgpolngnkiaaaGreatDoor
open Go
/-- What a reader's cells are. -/
def RdC (V : View) (p : Nat) (s : Sl) (e : Int) : Prop := ∃ ty, V.see p = some (.cells ⟨[.slice s.a s.n s.c, .int .i64 e]⟩ ty (0, 0))
/-- A reader: what is left; none: there was an error. -/
def Rd (V : View) (p : Nat) (st : Option (List UInt8)) : Prop :=
  ∃ (s : Sl) (e : Int) (bs : List UInt8), RdC V p s e ∧ SlR (V.hide p) s bs ∧ bs.length ≤ 140737488350000 ∧ (st = some bs ∧ e = 0 ∨ st = none ∧ e = 5)
theorem RdC.c0 {V : View} {p : Nat} {s : Sl} {e : Int} (h : RdC V p s e) : V.cell? ((⟨p, 0, none⟩ : Addr).add 0) = some (.slice s.a s.n s.c) := by
  obtain ⟨ty, h⟩ := h
  exact cell_of_see h rfl
theorem RdC.c1 {V : View} {p : Nat} {s : Sl} {e : Int} (h : RdC V p s e) : V.cell? ((⟨p, 0, none⟩ : Addr).add 1) = some (.int .i64 e) := by
  obtain ⟨ty, h⟩ := h
  exact cell_of_see h rfl
theorem RdC.set1 {V : View} {p : Nat} {s : Sl} {e : Int} (h : RdC V p s e) (e' : Int) : canSet V ((⟨p, 0, none⟩ : Addr).add 1) 1 ∧ RdC (V.sets ((⟨p, 0, none⟩ : Addr).add 1) [.int .i64 e']) p s e' ∧ (V.hide p).Le ((V.sets ((⟨p, 0, none⟩ : Addr).add 1) [.int .i64 e']).hide p) := by
  obtain ⟨ty, h⟩ := h
  have e1 : (⟨p, 0, none⟩ : Addr).add 1 = ⟨p, 1, none⟩ := rfl
  rw [e1, sets_see h]
  exact ⟨canSet_of h (show 1 + 1 ≤ 2 by decide), ⟨ty, by rw [View.see_put_same]; rfl⟩, hide_le_put_hide p _⟩
theorem RdC.set0 {V : View} {p : Nat} {s : Sl} {e : Int} (h : RdC V p s e) (s' : Sl) : canSet V ((⟨p, 0, none⟩ : Addr).add 0) 1 ∧ RdC (V.sets ((⟨p, 0, none⟩ : Addr).add 0) [.slice s'.a s'.n s'.c]) p s' e ∧ (V.hide p).Le ((V.sets ((⟨p, 0, none⟩ : Addr).add 0) [.slice s'.a s'.n s'.c]).hide p) := by
  obtain ⟨ty, h⟩ := h
  have e1 : (⟨p, 0, none⟩ : Addr).add 0 = ⟨p, 0, none⟩ := rfl
  rw [e1, sets_see h]
  exact ⟨canSet_of h (show 0 + 1 ≤ 2 by decide), ⟨ty, by rw [View.see_put_same]; rfl⟩, hide_le_put_hide p _⟩
theorem Rd.mono {V V' : View} {p : Nat} {st : Option (List UInt8)} (h : Rd V p st) (hV : V.Le V') : Rd V' p st := by
  obtain ⟨s, e, bs, ⟨ty, h1⟩, h2, h3, h4⟩ := h
  have hh : (V.hide p).Le (V'.hide p) := by
    refine ⟨hV.size, fun i o ho => ?_, hV.out⟩
    unfold View.hide at *
    simp only at *
    split at ho
    · cases ho
    · rename_i hne; rw [if_neg hne]; exact hV.see i o ho
  exact ⟨s, e, bs, ⟨ty, hV.see _ _ h1⟩, h2.mono hh, h3, h4⟩
/-- What 'number' answers. -/
def numR (most : Nat) (b : List UInt8) : Int × Nat := match numP most b with
  | none => (0, 0)
  | some (n, r) => (n, b.length - r.length)
theorem numGo_len (most : Nat) : ∀ (g m : Nat) (b : List UInt8) (n : Nat) (r : List UInt8), numGo most g m b = some (n, r) → ∃ k, 1 ≤ k ∧ k ≤ b.length ∧ r = b.drop k
  | 0, m, b, n, r, h => by simp [numGo] at h
  | g + 1, m, [], n, r, h => by simp [numGo] at h
  | g + 1, m, c :: b, n, r, h => by
    rw [numGo_cons] at h
    split at h
    · obtain ⟨k, h1, h2, h3⟩ := numGo_len most g _ b n r h
      exact ⟨k + 1, by omega, by simp; omega, by rw [h3]; rfl⟩
    · split at h
      · cases h
      · cases h; exact ⟨1, by omega, by simp, rfl⟩
theorem numP_len {most : Nat} {b : List UInt8} {n : Nat} {r : List UInt8} (h : numP most b = some (n, r)) : ∃ k, 1 ≤ k ∧ k ≤ b.length ∧ r = b.drop k := by
  unfold numP at h
  split at h
  · cases h
  · split at h
    · cases h
    · exact numGo_len most 6 0 _ n r h
theorem numP_le {most : Nat} {b : List UInt8} {n : Nat} {r : List UInt8} (h : numP most b = some (n, r)) : n ≤ most := (numL_numP h).1
/-- A reader's number. -/
def rdN (st : Option (List UInt8)) (most : Nat) : Int × Option (List UInt8) := match st with
  | none => (0, none)
  | some b => match numP most b with
    | none => (0, none)
    | some (n, r) => (n, some r)
def rdT (st : Option (List UInt8)) (most : Nat) : List UInt8 × Option (List UInt8) := match st with
  | none => ([], none)
  | some b => match textP most b with
    | none => ([], none)
    | some (t, r) => (t, some r)
theorem rdN_range (st : Option (List UInt8)) (most : Nat) : 0 ≤ (rdN st most).1 ∧ (rdN st most).1 ≤ most := by
  unfold rdN
  split
  · exact ⟨by simp, by simp⟩
  · split
    · exact ⟨by simp, by simp⟩
    · rename_i h; have := numP_le h; exact ⟨by simp, by simpa using this⟩
theorem sub_from {V : View} {s : Sl} {l : List UInt8} (h : SlR V s l) {k : Nat} (hk : k ≤ l.length) : SlR V ⟨if s.c = k then s.a else Option.map (fun (x : Addr) => x.add (k * 1)) s.a, s.n - k, s.c - k⟩ (l.drop k) := by
  have := h.sub (i := k) (j := l.length) hk (Nat.le_refl _)
  rw [List.take_length] at this
  rw [h.n]
  exact this
/-- A call that does not need block p leaves it as it was. -/
theorem CallV.beside {P : Program} {f : FuncId} {args : Array Value} {V : View} {p : Nat} {K : Value → View → Prop} {o : Obj} (h : CallV P f args (V.hide p) K) (ho : V.see p = some o) :
    CallV P f args V fun r V' => ∃ U', K r U' ∧ U'.Le (V'.hide p) ∧ V'.see p = some o := by
  refine (CallV.frame (View.hide_le V p) h).mono ?_
  rintro r V' ⟨U', hk, hle, hrest⟩
  have hp : (V.hide p).see p = none := by simp [View.hide]
  obtain ⟨h1, h2⟩ := hrest p o hp ho
  refine ⟨U', hk, ⟨hle.size, fun i x hx => ?_, hle.out⟩, h1⟩
  have hne : i ≠ p := fun e => by rw [e, h2] at hx; cases hx
  show (if i = p then none else View.see V' i) = some x
  rw [if_neg hne]; exact hle.see i x hx
end Go.Proofs.YtdlgpolngnkiaaaGreatDoor

/- Contracts of what reads nodes. -/
namespace Go.Proofs.YtdlgpolngnkiaaaGreatDoor
open Go
theorem loop6 {a b c d e f : K} {F : a.ty → b.ty → c.ty → d.ty → e.ty → f.ty → View → (a.ty → b.ty → c.ty → d.ty → e.ty → f.ty → View → Prop) → Prop} {x : a.ty} {y : b.ty} {z : c.ty} {u : d.ty} {v : e.ty} {w : f.ty} {V : View}
    (I : a.ty → b.ty → c.ty → d.ty → e.ty → f.ty → View → Prop) (m : a.ty → b.ty → c.ty → d.ty → e.ty → f.ty → View → Nat) (h0 : I x y z u v w V)
    (step : ∀ x y z u v w V, I x y z u v w V → F x y z u v w V fun x' y' z' u' v' w' V' => I x' y' z' u' v' w' V' ∧ m x' y' z' u' v' w' V' < m x y z u v w V) : loopP [a, b, c, d, e, f] F (x, y, z, u, v, w, ()) V :=
  loopP_inv (fun s V => I s.1 s.2.1 s.2.2.1 s.2.2.2.1 s.2.2.2.2.1 s.2.2.2.2.2.1 V) (fun s V => m s.1 s.2.1 s.2.2.1 s.2.2.2.1 s.2.2.2.2.1 s.2.2.2.2.2.1 V) h0 fun s V h => step s.1 s.2.1 s.2.2.1 s.2.2.2.1 s.2.2.2.2.1 s.2.2.2.2.2.1 V h
abbrev Stt := Option (List UInt8)
/-- Numbers, one behind the other. -/
def rdSeqs : Nat → Stt → List Int × Stt
  | 0, st => ([], st)
  | k + 1, st => ((rdSeqs k st).1 ++ [(rdN (rdSeqs k st).2 1099511627776).1], (rdN (rdSeqs k st).2 1099511627776).2)
/-- Entries, one behind the other. -/
def rdEnts : Nat → Stt → List Ent × Stt
  | 0, st => ([], st)
  | k + 1, st => ((rdEnts k st).1 ++ [⟨ba (rdT (rdEnts k st).2 8).1, (rdN (rdT (rdEnts k st).2 8).2 11).1⟩], (rdN (rdT (rdEnts k st).2 8).2 11).2)
def rdFile (st : Stt) : Nod × Stt :=
  (⟨1, (rdN st 120).1, (rdN (rdN st 120).2 80).1, (rdSeqs 5 (rdN (rdN st 120).2 80).2).1, []⟩, (rdSeqs 5 (rdN (rdN st 120).2 80).2).2)
def rdDir (st : Stt) : Nod × Stt :=
  (⟨2, 1, 0, [], (rdEnts (rdN st 10).1.toNat (rdN st 10).2).1⟩, (rdEnts (rdN st 10).1.toNat (rdN st 10).2).2)
/-- A node. -/
def rdNod (st : Stt) : Nod × Stt :=
  if (rdN st 2).1 = 1 then rdFile (rdN st 2).2 else if (rdN st 2).1 = 2 then rdDir (rdN st 2).2 else (⟨(rdN st 2).1, 0, 0, [], []⟩, (rdN st 2).2)
theorem rdT_size (st : Stt) (most : Nat) : (rdT st most).1.length ≤ most := by
  unfold rdT
  split
  · simp
  · split
    · simp
    · rename_i h
      unfold textP at h
      split at h
      · cases h
      · rename_i h2
        split at h
        · cases h
        · cases h
          have := numP_le h2
          simp; omega
theorem rdSeqs_len : ∀ (k : Nat) (st : Stt), (rdSeqs k st).1.length = k
  | 0, _ => rfl
  | k + 1, st => by simp [rdSeqs, rdSeqs_len k st]
theorem rdEnts_len : ∀ (k : Nat) (st : Stt), (rdEnts k st).1.length = k
  | 0, _ => rfl
  | k + 1, st => by simp [rdEnts, rdEnts_len k st]
/-- Cells of numbers need nothing. -/
structure intL (cs : List Value) (l : List Int) : Prop where
  rep : ∀ {W : View}, repL W cs l
theorem repL.int {W : View} : ∀ {cs : List Value} {l : List Int}, repL W cs l → intL cs l
  | _, [], h => ⟨h⟩
  | _, _ :: _, ⟨vs, us, e, h1, h2⟩ => ⟨⟨vs, us, e, h1, (repL.int h2).rep⟩⟩
structure entL (cs : List Value) (l : List Ent) : Prop where
  rep : ∀ {W : View}, repL W cs l
theorem repL.ent {W : View} : ∀ {cs : List Value} {l : List Ent}, repL W cs l → entL cs l
  | _, [], h => ⟨h⟩
  | _, _ :: _, ⟨vs, us, e, h1, h2⟩ => ⟨⟨vs, us, e, h1, (repL.ent h2).rep⟩⟩
/-- An element in a new block, appended to a row of one's own; a reader stands beside. -/
theorem app1 {α : Type} [Rep α] {V V0 : View} {p r : Nat} {st : Stt} {x : Sl} {e : TypeId} {bytes : Nat} {zero : List Value} {cs vs : List Value} {l : List α} {d : α} {C : Sl → View → Prop} {ob : Obj} {te : TypeId}
    (hz : zero.length = Rep.sz α) (hb : Buf V x e (Rep.sz α) cs) (hr : repL (V.minus x) cs l) (hd : Rep.rep (V.minus x) vs d) (hR : Rd (V.minus x) p st) (hle : V0.Le ((V.minus x).hide p)) (hnew : V.size ≤ r) (hob : ob = .cells ⟨vs⟩ te (0, 0))
    (hm : (x.n + 1) * bytes ≤ 140737488355328) (hm2 : x.n + 1 ≤ 140737488355328)
    (hC : ∀ s V' cs', Buf V' s e (Rep.sz α) cs' → repL (V'.minus s) cs' (l ++ [d]) → Rd (V'.minus s) p st → V0.Le ((V'.minus s).hide p) → C s V') :
    apV (V.put r ob) e (Rep.sz α) bytes zero x (.slice (some ⟨r, 0, none⟩) 1 1) C := by
  subst hob
  have hfr : V.see r = none := View.see_none_of_ge hnew
  have hvl : vs.length = Rep.sz α := Rep.len hd
  refine apV_buf hz (hb.put hfr) (src := vs) (m := 1) ⟨rfl, rowAt_new (View.see_put_same _ _ _) (by rw [Nat.one_mul]; exact hvl)⟩ (by rw [Nat.one_mul]; exact hvl) (Rep.one hd) hm hm2 fun s V' hb' _ hle' => ?_
  have h1 : (V.minus x).Le (V'.minus s) := (put_minus_le hfr).trans hle'
  exact hC s V' _ hb' ((hr.mono h1).snoc (Rep.mono h1 hd)) (hR.mono h1) (hle.trans (hide_mono h1 p))
end Go.Proofs.YtdlgpolngnkiaaaGreatDoor

/- Trees as bytes: plain functions and what they answer. No program in this text. -/
namespace Go.Proofs.YtdlgpolngnkiaaaGreatDoor
open Go
def encE (x : Ent) : List UInt8 := textL (bl x.name) ++ numI x.node
def encEs (l : List Ent) : List UInt8 := (l.map encE).flatten
/-- A node as bytes. -/
def encN (n : Nod) : List UInt8 :=
  numI n.kind ++ (if n.kind = 1 then numI n.links ++ numI n.size ++ numsL n.seqs else if n.kind = 2 then numI n.ents.length ++ encEs n.ents else [])
theorem encN_1 {n : Nod} (h : n.kind = 1) : encN n = numI 1 ++ (numI n.links ++ numI n.size ++ numsL n.seqs) := by unfold encN; rw [if_pos h, h]
theorem encN_2 {n : Nod} (h : n.kind = 2) : encN n = numI 2 ++ (numI n.ents.length ++ encEs n.ents) := by unfold encN; rw [if_neg (by omega), if_pos h, h]
theorem encN_0 {n : Nod} (h1 : ¬ n.kind = 1) (h2 : ¬ n.kind = 2) : encN n = numI n.kind := by unfold encN; rw [if_neg h1, if_neg h2, List.append_nil]
/-- A tree as bytes. -/
def encT (t : Tre) : List UInt8 := (t.map encN).flatten
/-- Nodes, one behind the other. -/
def rdTre : Nat → Stt → Tre × Stt
  | 0, st => ([], st)
  | k + 1, st => ((rdTre k st).1 ++ [(rdNod (rdTre k st).2).1], (rdNod (rdTre k st).2).2)
/-- The tree that bytes are. -/
noncomputable def parseT (l : List UInt8) : Option Tre :=
  if (rdTre 12 (some l)).2 = some [] ∧ mayT (rdTre 12 (some l)).1 = true then some (rdTre 12 (some l)).1 else none
theorem clampN_nat {n : Nat} (h : n ≤ 1099511627776) : clampN n = n := by unfold clampN; omega
theorem rdN_some {st : Stt} {most : Nat} {r : List UInt8} (h : (rdN st most).2 = some r) : ∃ l, st = some l ∧ l = numL (rdN st most).1.toNat ++ r := by
  unfold rdN at h ⊢
  split at h
  · cases h
  · rename_i b
    split at h
    · cases h
    · rename_i n r' hp
      cases h
      refine ⟨b, rfl, ?_⟩
      exact (numL_numP hp).2
theorem rdN_numI {st : Stt} {most : Nat} {r : List UInt8} (hm : most ≤ 1099511627776) (h : (rdN st most).2 = some r) : ∃ l, st = some l ∧ l = numI (rdN st most).1 ++ r := by
  obtain ⟨l, h1, h2⟩ := rdN_some h
  refine ⟨l, h1, ?_⟩
  have hr := rdN_range st most
  unfold numI
  have : clampN (rdN st most).1 = (rdN st most).1.toNat := by unfold clampN; omega
  rw [this]; exact h2
theorem rdT_some {st : Stt} {most : Nat} {r : List UInt8} (hm : most ≤ 1099511627776) (h : (rdT st most).2 = some r) : ∃ l, st = some l ∧ l = textL (rdT st most).1 ++ r := by
  unfold rdT at h ⊢
  split at h
  · cases h
  · rename_i b
    split at h
    · cases h
    · rename_i t r' hp
      cases h
      refine ⟨b, rfl, ?_⟩
      unfold textP at hp
      split at hp
      · cases hp
      · rename_i n q hq
        split at hp
        · cases hp
        · rename_i hlt
          cases hp
          obtain ⟨h1, h2⟩ := numL_numP hq
          unfold textL numI
          have : (q.take n).length = n := by simp; omega
          rw [this, clampN_nat (by omega), List.append_assoc, List.take_append_drop]
          exact h2
theorem rdSeqs_some : ∀ {k : Nat} {st : Stt} {r : List UInt8}, (rdSeqs k st).2 = some r → ∃ l, st = some l ∧ l = numsL (rdSeqs k st).1 ++ r
  | 0, st, r, h => ⟨r, h, rfl⟩
  | k + 1, st, r, h => by
    obtain ⟨m, h1, h2⟩ := rdN_numI (by decide) (show (rdN (rdSeqs k st).2 1099511627776).2 = some r from h)
    obtain ⟨l, h3, h4⟩ := rdSeqs_some h1
    refine ⟨l, h3, ?_⟩
    rw [h4, h2]
    show _ = numsL ((rdSeqs k st).1 ++ [(rdN (rdSeqs k st).2 1099511627776).1]) ++ r
    rw [numsL_append, numsL_one, List.append_assoc]
theorem encEs_snoc (l : List Ent) (x : Ent) : encEs (l ++ [x]) = encEs l ++ encE x := by simp [encEs]
theorem rdEnts_some : ∀ {k : Nat} {st : Stt} {r : List UInt8}, (rdEnts k st).2 = some r → ∃ l, st = some l ∧ l = encEs (rdEnts k st).1 ++ r
  | 0, st, r, h => ⟨r, h, rfl⟩
  | k + 1, st, r, h => by
    obtain ⟨m, h1, h2⟩ := rdN_numI (by decide) (show (rdN (rdT (rdEnts k st).2 8).2 11).2 = some r from h)
    obtain ⟨m2, h5, h6⟩ := rdT_some (by decide) h1
    obtain ⟨l, h3, h4⟩ := rdEnts_some h5
    refine ⟨l, h3, ?_⟩
    rw [h4, h6, h2]
    show _ = encEs ((rdEnts k st).1 ++ [⟨ba (rdT (rdEnts k st).2 8).1, (rdN (rdT (rdEnts k st).2 8).2 11).1⟩]) ++ r
    rw [encEs_snoc]
    simp only [encE, bl_ba, List.append_assoc]
theorem rdNod_some {st : Stt} {r : List UInt8} (h : (rdNod st).2 = some r) : ∃ l, st = some l ∧ l = encN (rdNod st).1 ++ r := by
  by_cases h1 : (rdN st 2).1 = 1
  · have hD : rdNod st = rdFile (rdN st 2).2 := by unfold rdNod; rw [if_pos h1]
    rw [hD] at h ⊢
    obtain ⟨l3, a3, b3⟩ := rdSeqs_some (show (rdSeqs 5 (rdN (rdN (rdN st 2).2 120).2 80).2).2 = some r from h)
    obtain ⟨l2, a2, b2⟩ := rdN_numI (by decide) a3
    obtain ⟨l1, a1, b1⟩ := rdN_numI (by decide) a2
    obtain ⟨l0, a0, b0⟩ := rdN_numI (by decide) a1
    refine ⟨l0, a0, ?_⟩
    rw [b0, b1, b2, b3, h1]
    rw [encN_1 rfl]
    simp only [rdFile, List.append_assoc]
  · by_cases h2 : (rdN st 2).1 = 2
    · have hD : rdNod st = rdDir (rdN st 2).2 := by unfold rdNod; rw [if_neg h1, if_pos h2]
      rw [hD] at h ⊢
      obtain ⟨l2, a2, b2⟩ := rdEnts_some (show (rdEnts (rdN (rdN st 2).2 10).1.toNat (rdN (rdN st 2).2 10).2).2 = some r from h)
      obtain ⟨l1, a1, b1⟩ := rdN_numI (by decide) a2
      obtain ⟨l0, a0, b0⟩ := rdN_numI (by decide) a1
      refine ⟨l0, a0, ?_⟩
      rw [b0, b1, b2, h2]
      have hr := rdN_range (rdN st 2).2 10
      have e : (((rdEnts (rdN (rdN st 2).2 10).1.toNat (rdN (rdN st 2).2 10).2).1.length : Nat) : Int) = (rdN (rdN st 2).2 10).1 := by rw [rdEnts_len]; omega
      rw [encN_2 rfl]
      simp only [rdDir, e, List.append_assoc]
    · have hD : rdNod st = (⟨(rdN st 2).1, 0, 0, [], []⟩, (rdN st 2).2) := by unfold rdNod; rw [if_neg h1, if_neg h2]
      rw [hD] at h ⊢
      obtain ⟨l0, a0, b0⟩ := rdN_numI (by decide) (show (rdN st 2).2 = some r from h)
      refine ⟨l0, a0, ?_⟩
      rw [encN_0 h1 h2]
      exact b0
theorem encT_snoc (t : Tre) (n : Nod) : encT (t ++ [n]) = encT t ++ encN n := by simp [encT]
theorem rdTre_some : ∀ {k : Nat} {st : Stt} {r : List UInt8}, (rdTre k st).2 = some r → ∃ l, st = some l ∧ l = encT (rdTre k st).1 ++ r
  | 0, st, r, h => ⟨r, h, rfl⟩
  | k + 1, st, r, h => by
    obtain ⟨m, h1, h2⟩ := rdNod_some (show (rdNod (rdTre k st).2).2 = some r from h)
    obtain ⟨l, h3, h4⟩ := rdTre_some h1
    refine ⟨l, h3, ?_⟩
    rw [h4, h2]
    show _ = encT ((rdTre k st).1 ++ [(rdNod (rdTre k st).2).1]) ++ r
    rw [encT_snoc, List.append_assoc]
/-- What was read is just what these bytes say. -/
theorem parseT_enc {l : List UInt8} {t : Tre} (h : parseT l = some t) : mayT t = true ∧ encT t = l := by
  unfold parseT at h
  split at h
  · rename_i hc
    cases h
    obtain ⟨m, h1, h2⟩ := rdTre_some hc.1
    cases h1
    exact ⟨hc.2, by rw [List.append_nil] at h2; exact h2.symm⟩
  · cases h
theorem rdTre_len : ∀ (k : Nat) (st : Stt), (rdTre k st).1.length = k
  | 0, _ => rfl
  | k + 1, st => by simp [rdTre, rdTre_len k st]
end Go.Proofs.YtdlgpolngnkiaaaGreatDoor

/- Contracts of package root: trees to bytes and back. -/
namespace Go.Proofs.YtdlgpolngnkiaaaGreatDoor
open Go
/-- As app1, what the reader's own block holds left out. -/
theorem app2 {α : Type} [Rep α] {V V0 : View} {p r : Nat} {st : Stt} {x : Sl} {e : TypeId} {bytes : Nat} {zero : List Value} {cs vs : List Value} {l : List α} {d : α} {C : Sl → View → Prop} {ob : Obj} {te : TypeId}
    (hz : zero.length = Rep.sz α) (hb : Buf V x e (Rep.sz α) cs) (hr : repL ((V.minus x).hide p) cs l) (hd : Rep.rep ((V.minus x).hide p) vs d) (hR : Rd (V.minus x) p st) (hle : V0.Le ((V.minus x).hide p)) (hnew : V.size ≤ r) (hob : ob = .cells ⟨vs⟩ te (0, 0))
    (hm : (x.n + 1) * bytes ≤ 140737488355328) (hm2 : x.n + 1 ≤ 140737488355328)
    (hC : ∀ s V' cs', Buf V' s e (Rep.sz α) cs' → repL ((V'.minus s).hide p) cs' (l ++ [d]) → Rd (V'.minus s) p st → V0.Le ((V'.minus s).hide p) → C s V') :
    apV (V.put r ob) e (Rep.sz α) bytes zero x (.slice (some ⟨r, 0, none⟩) 1 1) C := by
  subst hob
  have hfr : V.see r = none := View.see_none_of_ge hnew
  have hvl : vs.length = Rep.sz α := Rep.len hd
  refine apV_buf hz (hb.put hfr) (src := vs) (m := 1) ⟨rfl, rowAt_new (View.see_put_same _ _ _) (by rw [Nat.one_mul]; exact hvl)⟩ (by rw [Nat.one_mul]; exact hvl) (Rep.one hd) hm hm2 fun s V' hb' _ hle' => ?_
  have h1 : (V.minus x).Le (V'.minus s) := (put_minus_le hfr).trans hle'
  exact hC s V' _ hb' ((hr.mono (hide_mono h1 p)).snoc (Rep.mono (hide_mono h1 p) hd)) (hR.mono h1) (hle.trans (hide_mono h1 p))
/-- What Parse answers. -/
def ParseR (V : View) (o : Option Tre) (x : Sl) (e : Int) : Prop := match o with
  | none => x = ⟨none, 0, 0⟩ ∧ e = 5
  | some t => SlR V x t ∧ e = 0
/-! ### to bytes -/
theorem encE_len (x : Ent) : (encE x).length ≤ 14 + x.name.size := by
  unfold encE textL
  have h1 := numI_len ((bl x.name).length : Nat)
  have h2 := numI_len x.node
  simp only [List.length_append, bl_len] at *
  omega
theorem encEs_len : ∀ {l : List Ent}, (∀ x ∈ l, x.name.size ≤ 8) → (encEs l).length ≤ 22 * l.length
  | [], _ => by simp [encEs]
  | x :: l, h => by
    have h1 := encEs_len (l := l) fun y hy => h y (by simp [hy])
    have h2 := encE_len x
    have h3 := h x (by simp)
    have e : encEs (x :: l) = encE x ++ encEs l := by simp [encEs]
    rw [e, List.length_append, List.length_cons]; omega
theorem may_names {n : Nod} (h : mayN n = true) : ∀ x ∈ n.ents, x.name.size ≤ 8 := fun _ hx => (mayB_size (mayL_node (mayN_ents h) hx).2.2).2
theorem encN_len {n : Nod} (h : mayN n = true) : (encN n).length ≤ 240 := by
  have h1 := mayN_seqs h
  have h2 := mayL_len (mayN_ents h)
  have h3 := encEs_len (may_names h)
  have h4 := numsL_len n.seqs
  have a := numI_len n.kind
  have b := numI_len n.links
  have c := numI_len n.size
  have d := numI_len (n.ents.length : Nat)
  unfold encN
  split
  · simp only [List.length_append]; omega
  · split
    · simp only [List.length_append]; omega
    · simp; omega
theorem encT_len : ∀ {t : Tre}, (∀ n ∈ t, mayN n = true) → (encT t).length ≤ 240 * t.length
  | [], _ => by simp [encT]
  | n :: t, h => by
    have h1 := encT_len (t := t) fun y hy => h y (by simp [hy])
    have h2 := encN_len (h n (by simp))
    have e : encT (n :: t) = encN n ++ encT t := by simp [encT]
    rw [e, List.length_append, List.length_cons]; omega
theorem encT_take {t : Tre} {i : Nat} (h : i < t.length) : encT (t.take (i + 1)) = encT (t.take i) ++ encN (t.getD i default) := by
  rw [List.take_add_one, List.getElem?_eq_getElem h, getD_at h]
  exact encT_snoc _ _
/-- Numbers in a new block. -/
theorem newInts {V : View} {r : Nat} {l : List Int} (hl : ∀ n ∈ l, inI .i64 n) (hl2 : l.length ≤ 140737488355328) {ob : Obj} (ho : ob = .cells ⟨intsV l⟩ 3 (0, 0)) : SlR (V.put r ob) ⟨some ⟨r, 0, none⟩, l.length, l.length⟩ l :=
  slR_block (W := V.put r ob) (by rw [View.see_put_same, ho]) (rows_int hl) (View.Le.refl _) hl2
/-- A string's bytes in a new block. -/
theorem newBytes {V : View} {r cap : Nat} {b : ByteArray} {more : List Value} {f : Nat × Nat} (hc : b.size ≤ cap) (hm : b.size ≤ 140737488355328) : SlR (V.put r (.cells ⟨bytesV b ++ more⟩ 5 f)) ⟨some ⟨r, 0, none⟩, b.size, cap⟩ (bl b) := by
  refine ⟨(bl_len b).symm, hc, by show b.size ≤ _; omega, fun i hi => ?_⟩
  refine ⟨⟨r, 0, none⟩, [.int .u8 (bl b)[i].toNat], rfl, ?_, rfl⟩
  rw [cellsAt_one]
  show View.cell? _ ((⟨r, 0, none⟩ : Addr).add (i * 1)) = _
  rw [addr0_add]
  refine cell_of_see (View.see_put_same _ _ _) ?_
  have hb : (bytesV b).length = (bl b).length := by simp [bytesV]
  rw [Nat.zero_add, Nat.mul_one, List.getElem?_append_left (by rw [hb]; exact hi)]
  unfold bytesV
  rw [List.getElem?_map, List.getElem?_eq_getElem hi]
  rfl
/-- What Bytes answers. -/
def BytesR (V : View) (g : Bool) (t : Tre) (x : Sl) (e : Int) : Prop := match g with
  | false => x = ⟨none, 0, 0⟩ ∧ e = 1
  | true => SlR V x (encT t) ∧ e = 0
end Go.Proofs.YtdlgpolngnkiaaaGreatDoor

/- Contracts: equal rows, equal trees. -/
namespace Go.Proofs.YtdlgpolngnkiaaaGreatDoor
open Go
theorem ent_eq {x y : Ent} : (decide (x.name = y.name) && (decide (x.node = y.node) && true)) = decide (x = y) := by
  cases x; cases y
  rw [Bool.eq_iff_iff]; simp
theorem nod_eq (a b : Nod) : decide (a = b) = (decide (a.kind = b.kind) && decide (a.links = b.links) && decide (a.size = b.size) && (decide (a.seqs = b.seqs) && decide (a.ents = b.ents))) := by
  cases a; cases b
  rw [Bool.eq_iff_iff]; simp [and_assoc]
end Go.Proofs.YtdlgpolngnkiaaaGreatDoor

/- Contracts: refs of nodes and trees. -/
namespace Go.Proofs.YtdlgpolngnkiaaaGreatDoor
open Go
/-- The refs of a file's first pages. -/
def refsK (i : Int) (n : Nod) (k : Nat) : List Rf := (List.range k).filterMap fun (j : Nat) => if n.seqs.getD j 0 = 0 then none else some ⟨1 + i * 5 + j, n.seqs.getD j 0⟩
/-- The refs of a node. -/
def refsN (i : Int) (n : Nod) : List Rf := if n.kind = 1 ∧ mayN n = true ∧ within i 11 = true then refsK i n n.seqs.length else []
/-- The refs of a tree. -/
def refsU (t : Tre) (k : Nat) : List Rf := (List.range k).flatMap fun (i : Nat) => refsN (i : Int) (t.getD i default)
noncomputable def refsT (t : Tre) : List Rf := if mayT t then refsU t t.length else []
theorem refsK_len (i : Int) (n : Nod) (k : Nat) : (refsK i n k).length ≤ k := by
  unfold refsK
  have := List.length_filterMap_le (fun (j : Nat) => if n.seqs.getD j 0 = 0 then none else some (⟨1 + i * 5 + j, n.seqs.getD j 0⟩ : Rf)) (List.range k)
  rwa [List.length_range] at this
theorem refsK_succ (i : Int) (n : Nod) (k : Nat) : refsK i n (k + 1) = refsK i n k ++ (if n.seqs.getD k 0 = 0 then [] else [⟨1 + i * 5 + k, n.seqs.getD k 0⟩]) := by
  unfold refsK
  rw [List.range_succ, List.filterMap_append]
  congr 1
  simp only [List.filterMap_cons, List.filterMap_nil]
  split <;> rename_i h <;> split at h <;> simp_all
theorem refsN_len (i : Int) (n : Nod) : (refsN i n).length ≤ 5 := by
  unfold refsN
  split
  · rename_i h
    exact Nat.le_trans (refsK_len _ _ _) (mayN_seqs h.2.1)
  · simp
theorem refsU_succ (t : Tre) (k : Nat) : refsU t (k + 1) = refsU t k ++ refsN k (t.getD k default) := by
  unfold refsU; rw [List.range_succ]; simp
theorem refsU_len (t : Tre) : ∀ k, (refsU t k).length ≤ 5 * k
  | 0 => by simp [refsU]
  | k + 1 => by
    rw [refsU_succ, List.length_append]
    have := refsU_len t k
    have := refsN_len k (t.getD k default)
    omega
structure rfL (cs : List Value) (l : List Rf) : Prop where
  rep : ∀ {W : View}, repL W cs l
theorem repL.rf {W : View} : ∀ {cs : List Value} {l : List Rf}, repL W cs l → rfL cs l
  | _, [], h => ⟨h⟩
  | _, _ :: _, ⟨vs, us, e, h1, h2⟩ => ⟨⟨vs, us, e, h1, (repL.rf h2).rep⟩⟩
end Go.Proofs.YtdlgpolngnkiaaaGreatDoor

/- Contracts: the first tree; the law that every program must know. -/
namespace Go.Proofs.YtdlgpolngnkiaaaGreatDoor
open Go
def dirN : Nod := ⟨2, 1, 0, [], []⟩
def firstT : Tre := dirN :: List.replicate 11 Nod.zero
def firstB : List UInt8 := [2, 0, 0, 0, 0, 0, 0, 0, 0, 0, 0, 0, 0]
theorem hang_first : ∀ i, i < 12 → ∀ met : Bool, (i = 0 → met = true) → hangB (firstT.getD i default) (i : Nat) ((cnt 12 (allE firstT)).getD i 0) met = true := by decide
theorem mayT_first : mayT firstT = true := by
  unfold mayT
  have h1 : (decide (firstT.length = 12) && firstT.all mayN && decide ((firstT.getD 0 default).kind = 2)) = true := by decide
  have h2 : apartL (allS firstT) = true := by decide
  rw [h1, h2, Bool.true_and, Bool.and_true, List.all_eq_true]
  intro i hi
  exact hang_first i (List.mem_range.1 hi) _ fun h => by subst h; exact metB_iff.2 .refl
theorem encT_first : encT firstT = firstB := by decide
theorem rd_first : rdTre 12 (some firstB) = (firstT, some []) := by decide
theorem parseT_first : parseT firstB = some firstT := by
  unfold parseT; rw [rd_first, if_pos ⟨rfl, mayT_first⟩]
theorem refsT_first : refsT firstT = [] := by
  unfold refsT; rw [if_pos mayT_first]; decide
theorem empty2_ok {V : View} : CallV Tryz.prog 47 ⟨[.int .i64 2]⟩ V fun r V' => r = nodV dirN ⟨none, 0, 0⟩ ⟨none, 0, 0⟩ ∧ V' = V := by
  refine f47_x ?_
  unfold f47_n
  exact fun _ => br_intro (fun h => absurd h (by decide)) (fun _ => br_intro (fun _ => ⟨rfl, rfl⟩) (fun h => absurd h (by decide)))
def nodCs (n : Nod) : List Value := [.int .i64 n.kind, .int .i64 n.links, .int .i64 n.size, .slice none 0 0, .slice none 0 0]
theorem rep_bare {W : View} {n : Nod} (h1 : inI .i64 n.kind) (h2 : inI .i64 n.links) (h3 : inI .i64 n.size) (h4 : n.seqs = []) (h5 : n.ents = []) : Rep.rep W (nodCs n) n :=
  ⟨⟨none, 0, 0⟩, ⟨none, 0, 0⟩, rfl, h1, h2, h3, by rw [h4]; exact SlR.nil _ _ _, by rw [h5]; exact SlR.nil _ _ _⟩
theorem rep_zeros {W : View} : ∀ k, repL W (List.replicate k (nodCs Nod.zero)).flatten (List.replicate k Nod.zero)
  | 0 => rfl
  | k + 1 => ⟨nodCs Nod.zero, (List.replicate k (nodCs Nod.zero)).flatten, by rw [List.replicate_succ, List.flatten_cons], rep_bare zero64 zero64 zero64 rfl rfl, rep_zeros k⟩
theorem first_ok {V : View} : CallV Tryz.prog 19 ⟨[]⟩ V fun r V' => ∃ x : Sl, r = treV x ∧ SlR V' x firstT ∧ V.Le V' := by
  refine f19_x (_u := ()) ?_
  unfold f19_n
  refine fun _ => ⟨by decide, by decide, by decide, by decide, fun r hr => ?_⟩
  have hfr := View.see_none_of_ge hr
  have hp := View.put_le (o := .cells ⟨(List.replicate 12 (nodCs Nod.zero)).flatten⟩ 46 (0, 0)) hfr
  refine fun _ => ⟨trivial, V, hp, empty2_ok.mono ?_⟩
  rintro r1 V1 ⟨rfl, rfl⟩
  refine ⟨_, _, _, ⟨none, 0, 0⟩, ⟨none, 0, 0⟩, rfl, hp, by decide, by decide, _, rfl, ?_, ⟨some ⟨r, 0, none⟩, 12, 12⟩, rfl, ?_, ?_⟩
  · exact canSet_of (View.see_put_same _ _ _) (by decide)
  · have e : (⟨r, 0, none⟩ : Addr).add 0 = ⟨r, 0, none⟩ := rfl
    rw [e, sets_see (View.see_put_same _ _ _)]
    have := slR_block (α := Nod) (l := firstT) (W := (V.put r (.cells ⟨(List.replicate 12 (nodCs Nod.zero)).flatten⟩ 46 (0, 0))).put r (.cells ⟨nodCs dirN ++ (List.replicate 11 (nodCs Nod.zero)).flatten⟩ 46 (0, 0))) (View.see_put_same _ _ _) ⟨nodCs dirN, _, rfl, rep_bare two64 one64 zero64 rfl rfl, rep_zeros 11⟩ (View.Le.refl _) (by decide)
    exact this
  · have e : (⟨r, 0, none⟩ : Addr).add 0 = ⟨r, 0, none⟩ := rfl
    rw [e, sets_see (View.see_put_same _ _ _)]
    exact (put_le_hide hfr (View.Le.refl _)).trans (hide_le_put r _)
theorem u8_row {V : View} {x : Sl} {l : List UInt8} (h : SlR V x l) : rowAt V x.a x.n (bytesV (ba l)) := by
  have := h.row8
  rw [Nat.mul_one] at this
  exact this
end Go.Proofs.YtdlgpolngnkiaaaGreatDoor

/- Which directories one comes to: marks, round by round. No program in this text. -/
namespace Go.Proofs.YtdlgpolngnkiaaaGreatDoor
open Go
abbrev kindT (t : Tre) (j : Nat) : Int := (t.getD j default).kind
abbrev entsT (t : Tre) (j : Nat) : List Ent := (t.getD j default).ents
/-- Marks on directories that one comes to. -/
structure RI (t : Tre) (a : Nat) (on : List Bool) : Prop where
  len : on.length = 12
  start : on.getD a false = true
  sound : ∀ j, on.getD j false = true → Reach t a j ∧ kindT t j = 2
/-- What the marked ones of the first i name is marked, if it is a directory. -/
def Clo (t : Tre) (on0 on : List Bool) (i : Nat) : Prop := ∀ j, j < i → on0.getD j false = true → ∀ e ∈ entsT t j, kindT t e.node.toNat = 2 → on.getD e.node.toNat false = true
def SubB (a b : List Bool) : Prop := ∀ j, a.getD j false = true → b.getD j false = true
/-- Within a round. -/
structure PI (t : Tre) (a : Nat) (on0 on : List Bool) (i : Nat) : Prop where
  ri : RI t a on
  sub : SubB on0 on
  clo : Clo t on0 on i
  stay : Clo t on0 on0 12 → on = on0
def trues (on : List Bool) : Nat := on.countP fun b => b
theorem count_sub : ∀ (a b : List Bool), a.length = b.length → SubB a b → trues a ≤ trues b ∧ (trues a = trues b → a = b)
  | [], [], _, _ => ⟨Nat.le_refl _, fun _ => rfl⟩
  | x :: a, y :: b, hl, hs => by
    obtain ⟨h1, h2⟩ := count_sub a b (by simpa using hl) fun j hj => by have := hs (j + 1) (by simpa using hj); simpa using this
    have h0 : x = true → y = true := fun h => by have := hs 0 (by simpa using h); simpa using this
    unfold trues at *
    simp only [List.countP_cons]
    cases x <;> cases y <;> simp at h0 ⊢
    · exact ⟨h1, h2⟩
    · exact ⟨by omega, fun h => by omega⟩
    · exact ⟨h1, h2⟩
theorem trues_le (on : List Bool) : trues on ≤ on.length := List.countP_le_length
theorem PI.start {t : Tre} {a : Nat} {on : List Bool} (h : RI t a on) : PI t a on on 0 := ⟨h, fun _ h => h, fun _ hj => absurd hj (Nat.not_lt_zero _), fun _ => rfl⟩
theorem PI.skip {t : Tre} {a : Nat} {on0 on : List Bool} {i : Nat} (h : PI t a on0 on i) (hi : on.getD i false = false) : PI t a on0 on (i + 1) :=
  ⟨h.ri, h.sub, fun j hj h0 e he hk => by
    by_cases hji : j = i
    · subst hji; have := h.sub _ h0; rw [hi] at this; cases this
    · exact h.clo j (by omega) h0 e he hk, h.stay⟩
theorem PI.next {t : Tre} {a : Nat} {on0 on : List Bool} {i : Nat} (h : PI t a on0 on i) (hi : ∀ e ∈ entsT t i, kindT t e.node.toNat = 2 → on.getD e.node.toNat false = true) : PI t a on0 on (i + 1) :=
  ⟨h.ri, h.sub, fun j hj h0 e he hk => by
    by_cases hji : j = i
    · subst hji; exact hi e he hk
    · exact h.clo j (by omega) h0 e he hk, h.stay⟩
theorem set_same {on : List Bool} {q : Nat} (h : on.getD q false = true) : on.set q true = on := by
  apply List.ext_getElem? 
  intro j
  rw [List.getElem?_set]
  by_cases e : q = j
  · subst e
    rw [List.getD_eq_getElem?_getD] at h
    cases ho : on[q]? with
    | none => rw [ho] at h; cases h
    | some b =>
      rw [ho] at h
      have hb : b = true := h
      rw [if_pos rfl, if_pos (List.getElem?_eq_some_iff.1 ho).1, hb]
  · rw [if_neg e]
theorem PI.mark {t : Tre} {a : Nat} {on0 on : List Bool} {i q : Nat} {e : Ent} (h : PI t a on0 on i) (hi12 : i < 12) (hi : on.getD i false = true) (he : e ∈ entsT t i) (hq : e.node = q) (hq12 : q < 12) (hk : kindT t q = 2) : PI t a on0 (on.set q true) i := by
  have hl : q < on.length := by rw [h.ri.len]; exact hq12
  have hg := fun j => getD_set_bool on q j hl
  have up : ∀ j, on.getD j false = true → (on.set q true).getD j false = true := fun j hj => by rw [hg, hj]; simp
  refine ⟨⟨by simp [h.ri.len], up _ h.ri.start, fun j hj => ?_⟩, fun j hj => up _ (h.sub j hj), fun j hj h0 e he hk => up _ (h.clo j hj h0 e he hk), fun hc => ?_⟩
  · rw [hg] at hj
    split at hj
    · rename_i e1
      subst e1
      have := Reach.step (h.ri.sound i hi).1 he
      rw [hq, Int.toNat_natCast] at this
      exact ⟨this, hk⟩
    · exact h.ri.sound j hj
  · have hs := h.stay hc
    have h0 : on0.getD i false = true := by rw [← hs]; exact hi
    have := hc i hi12 h0 e he (by rw [hq, Int.toNat_natCast]; exact hk)
    rw [hq, Int.toNat_natCast, ← hs] at this
    rw [set_same this]; exact hs
/-- One round more. -/
theorem PI.round {t : Tre} {a : Nat} {on0 on : List Bool} {k : Nat} (h0 : RI t a on0) (h : PI t a on0 on 12) (hk : Clo t on0 on0 12 ∨ k + 1 ≤ trues on0) : Clo t on on 12 ∨ k + 2 ≤ trues on := by
  obtain ⟨c1, c2⟩ := count_sub on0 on (by rw [h0.len, h.ri.len]) h.sub
  rcases hk with hk | hk
  · left
    have := h.stay hk
    rw [this]; exact hk
  · by_cases e : trues on0 = trues on
    · left
      have := c2 e
      subst this
      exact h.clo
    · right; omega
theorem RI.end {t : Tre} {a : Nat} {on : List Bool} (h : RI t a on) (hk : Clo t on on 12 ∨ 13 ≤ trues on) (h12 : t.length = 12) (hall : ∀ n ∈ t, mayN n = true) : on = (List.range 12).map fun j => metB t a j && decide (kindT t j = 2) := by
  have hc : Clo t on on 12 := by
    rcases hk with hk | hk
    · exact hk
    · have := trues_le on; rw [h.len] at this; omega
  have hdir : ∀ i, i < 12 → entsT t i ≠ [] → kindT t i = 2 := fun i hi hne => by
    have hm : mayN (t.getD i default) = true := hall _ (by rw [getD_at (by omega)]; exact List.getElem_mem _)
    unfold mayN at hm
    split at hm
    · simp at hm; exact absurd hm.2 hne
    · split at hm
      · unfold fileB at hm; simp at hm; exact absurd hm.1.2 hne
      · split at hm
        · rename_i hk; exact hk
        · cases hm
  have hlt : ∀ i, entsT t i ≠ [] → i < 12 := fun i hne => by
    apply Classical.byContradiction
    intro hi
    apply hne
    show (t.getD i default).ents = []
    rw [List.getD_eq_getElem?_getD, List.getElem?_eq_none (by omega)]; rfl
  have hcomp : ∀ j, Reach t a j → kindT t j = 2 → on.getD j false = true := by
    intro j hj
    induction hj with
    | refl => exact fun _ => h.start
    | @step i x hi hx ih =>
      intro hk
      have hne : entsT t i ≠ [] := fun e => by
        have : x ∈ entsT t i := hx
        rw [e] at this; cases this
      have hi12 := hlt i hne
      exact hc i hi12 (ih (hdir i hi12 hne)) x hx hk
  apply List.ext_getElem (by simp [h.len])
  intro j h1 h2
  have e : on.getD j false = on[j] := by rw [List.getD_eq_getElem?_getD, List.getElem?_eq_getElem h1]; rfl
  rw [List.getElem_map, List.getElem_range, Bool.eq_iff_iff, Bool.and_eq_true, metB_iff, decide_eq_true_eq, ← e]
  exact ⟨h.sound j, fun ⟨a, b⟩ => hcomp j a b⟩
end Go.Proofs.YtdlgpolngnkiaaaGreatDoor

/- Contracts of the reference: which directories one comes to, names of a node. -/
namespace Go.Proofs.YtdlgpolngnkiaaaGreatDoor
open Go
/-- Marks in a block, beside what was there. -/
structure MI (V V' : View) (r : Nat) (on : List Bool) : Prop where
  marks : V'.see r = some (.cells ⟨boolsV on⟩ 4 (0, 0))
  le : V.Le (V'.hide r)
theorem MI.vle {V V' : View} {r : Nat} {on : List Bool} (h : MI V V' r on) : V.Le V' := h.le.trans (View.hide_le _ _)
theorem MI.get {V V' : View} {r : Nat} {on : List Bool} (h : MI V V' r on) {q : Nat} (hq : q < on.length) : V'.cell? ((⟨r, 0, none⟩ : Addr).add (q * 1)) = some (.bool (on.getD q false)) := by
  rw [addr0_add]
  refine cell_of_see h.marks ?_
  rw [List.getD_eq_getElem?_getD, List.getElem?_eq_getElem hq]
  show (boolsV on)[0 + q * 1]? = _
  unfold boolsV
  rw [Nat.zero_add, Nat.mul_one, List.getElem?_map, List.getElem?_eq_getElem hq]
  rfl
theorem MI.set {V V' : View} {r : Nat} {on : List Bool} (h : MI V V' r on) {q : Nat} (hq : q < on.length) : canSet V' ((⟨r, 0, none⟩ : Addr).add (q * 1)) 1 ∧ MI V (V'.sets ((⟨r, 0, none⟩ : Addr).add (q * 1)) [.bool true]) r (on.set q true) := by
  rw [addr0_add]
  refine ⟨canSet_of h.marks (show 0 + q * 1 + 1 ≤ _ by rw [boolsV_len]; omega), ?_, ?_⟩
  · rw [sets_see h.marks, View.see_put_same, putL_one, Nat.zero_add, Nat.mul_one, boolsV_set]
  · rw [sets_see h.marks]
    exact h.le.trans (hide_le_put_hide r _)
theorem reached_ok {s : Sl} {t : Tre} {a : Nat} {V : View} (h : SlR V s t) (h12 : t.length = 12) (hall : ∀ n ∈ t, mayN n = true) (ha12 : a < 12) (h2 : kindT t a = 2) :
    CallV Tryz.prog 33 ⟨[treV s, .int .i64 (a : Nat)]⟩ V fun r V' => ∃ x : Sl, r = .slice x.a x.n x.c ∧ SlR V' x ((List.range 12).map fun j => metB t a j && decide (kindT t j = 2)) ∧ V.Le V' := by
  refine f33_x ?_
  unfold f33_n
  have hn : s.n = 12 := by rw [h.n, h12]
  rw [hn]
  refine fun _ => ⟨by decide, by decide, by decide, by decide, fun r hr => ?_⟩
  have hfr : V.see r = none := View.see_none_of_ge hr
  have hM0 : MI V (V.put r (.cells ⟨(List.replicate (((12 : Nat) : Int).toNat) [Value.bool false]).flatten⟩ 4 (0, 0))) r (List.replicate 12 false) := ⟨View.see_put_same _ _ _, put_le_hide hfr (View.Le.refl _)⟩
  generalize (V.put r (.cells ⟨(List.replicate (((12 : Nat) : Int).toNat) [Value.bool false]).flatten⟩ 4 (0, 0))) = V1 at *
  refine joinP_cut (fun q V' => q.1 = false ∧ V' = V1) (br_intro (fun hb => absurd hb (by rw [decide_eq_false (by omega), decide_eq_false (by omega)]; decide)) (fun _ => ?_)) ?_
  · obtain ⟨ad, sq, en, ha, hc, hN⟩ := (h.mono hM0.vle).nodN (i := a) (by omega)
    refine ⟨by omega, by omega, ad, ha, _, cellsAt_nth hc 0 rfl, ?_, rfl⟩
    rw [decide_eq_true (show (t.getD a default).kind = 2 from h2)]; rfl
  rintro ⟨q, ⟨⟩⟩ V2 ⟨h1, hV⟩
  simp only at h1 hV
  subst h1 hV
  dsimp only [unc]
  refine br_intro (fun hb => absurd hb (by decide)) (fun _ => ?_)
  obtain ⟨hs1, hM1⟩ := hM0.set (q := a) (by simp; omega)
  refine ⟨by omega, by omega, _, rfl, hs1, ?_⟩
  have hR1 : RI t a ((List.replicate 12 false).set a true) := by
    have hg := fun j => getD_set_bool (List.replicate 12 false) a j (by simp; omega)
    refine ⟨by simp, by rw [hg, if_pos rfl], fun j hj => ?_⟩
    rw [hg] at hj
    split at hj
    · rename_i e; subst e; exact ⟨.refl, h2⟩
    · rw [List.getD_eq_getElem?_getD, List.getElem?_replicate] at hj
      split at hj <;> cases hj
  have hlim := h.lim
  refine loop1 (k := .int .i64) (fun (x : Int) V' => ∃ (k : Nat) (on : List Bool), x = k ∧ k ≤ 12 ∧ MI V V' r on ∧ RI t a on ∧ (Clo t on on 12 ∨ k + 1 ≤ trues on)) (fun (x : Int) _ => 12 - x.toNat) ⟨0, _, rfl, by omega, hM1, hR1, .inr (by
    have : ((List.replicate 12 false).set a true).getD a false = true := hR1.start
    unfold trues
    show 0 + 1 ≤ _
    refine List.countP_pos_iff.2 ⟨true, ?_, rfl⟩
    exact List.mem_set (by simp; omega) _)⟩ ?_
  rintro (x : Int) V3 ⟨k, on0, rfl, hk, hM3, hR3, hC3⟩
  refine br_intro (fun hlt => ?_) (fun hge => ?_)
  · have hlt : k < 12 := by have := of_decide_eq_true hlt; omega
    refine loop1 (k := .int .i64) (fun (x : Int) V' => ∃ (i : Nat) (on : List Bool), x = i ∧ i ≤ 12 ∧ MI V V' r on ∧ PI t a on0 on i) (fun (x : Int) _ => 12 - x.toNat) ⟨0, on0, rfl, by omega, hM3, .start hR3⟩ ?_
    rintro (x : Int) V4 ⟨i, on, rfl, hi, hM4, hP4⟩
    refine br_intro (fun hlt => ?_) (fun hge => ?_)
    · have hlt : i < 12 := by have := of_decide_eq_true hlt; omega
      have hlti := hlt
      obtain ⟨ad, sq, en, ha, hc, hN⟩ := h.nodN (i := i) (by omega)
      have hmem : t.getD i default ∈ t := by rw [getD_at (by omega)]; exact List.getElem_mem _
      have hnode := mayN_ents (hall _ hmem)
      have hil : i < on.length := by rw [hP4.ri.len]; exact hlt
      refine joinP_cut (fun _ V' => ∃ on, MI V V' r on ∧ PI t a on0 on (i + 1)) ⟨by omega, by omega, ad, ha, _, _, _, sq, en, cellsAt_mono hM4.vle hc, fun _ => ⟨by omega, by omega, _, rfl, _, hM4.get hil, br_intro (fun hb => ?_) (fun hb => ?_)⟩⟩ ?_
      · exact ⟨on, hM4, hP4.skip (not_t hb)⟩
      · have hon := not_f hb
        have hen := hN.ents.n
        have helim := hN.ents.lim
        have hle0 : (entsT t i).length = (t.getD i default).ents.length := rfl
        refine loop1 (k := .int .i64) (fun (x : Int) V' => ∃ (m : Nat) (on : List Bool), x = m ∧ m ≤ (entsT t i).length ∧ MI V V' r on ∧ PI t a on0 on i ∧ on.getD i false = true ∧ ∀ e ∈ (entsT t i).take m, kindT t e.node.toNat = 2 → on.getD e.node.toNat false = true) (fun (x : Int) _ => (entsT t i).length - x.toNat) ⟨0, on, rfl, by omega, hM4, hP4, hon, fun e he => by simp at he⟩ ?_
        rintro (x : Int) V5 ⟨m, on5, rfl, hm, hM5, hP5, hon5, hdone⟩
        refine br_intro (fun hlt => ?_) (fun hge => ?_)
        · have hltm : m < (entsT t i).length := by have := of_decide_eq_true hlt; omega
          obtain ⟨ad3, ha3, hc3, _, _⟩ := (hN.ents.mono hM5.vle).entN (i := m) hltm
          have hxm : (t.getD i default).ents.getD m default ∈ (t.getD i default).ents := by rw [getD_at hltm]; exact List.getElem_mem _
          have hq := mayL_node hnode hxm
          have etk : (entsT t i).take (m + 1) = (entsT t i).take m ++ [(t.getD i default).ents.getD m default] := by rw [List.take_add_one, List.getElem?_eq_getElem hltm, getD_at hltm]; rfl
          obtain ⟨q, hqe⟩ : ∃ q : Nat, ((t.getD i default).ents.getD m default).node = q := ⟨((t.getD i default).ents.getD m default).node.toNat, by omega⟩
          have hq12 : q < 12 := by omega
          refine ⟨by omega, by omega, ad3, ha3, _, _, hc3, fun _ => ?_⟩
          rw [hqe]
          generalize hxx : (t.getD i default).ents.getD m default = e at *
          refine joinP_cut (fun g V' => g.1 = decide (kindT t q = 2) ∧ V' = V5) (br_intro (fun _ => ?_) (fun hb => ?_)) ?_
          · obtain ⟨ad4, sq4, en4, ha4, hc4, _⟩ := h.nodN (i := q) (by omega)
            exact ⟨by omega, by omega, ad4, ha4, _, cellsAt_nth (cellsAt_mono hM5.vle hc4) 0 rfl, rfl, rfl⟩
          · exfalso
            rw [decide_eq_true (show (0 : Int) ≤ (q : Int) by omega)] at hb
            have := of_decide_eq_false hb
            omega
          · rintro ⟨g, ⟨⟩⟩ V6 ⟨h1, hV⟩
            simp only at h1 hV
            subst h1 hV
            dsimp only [unc]
            have hql : q < on5.length := by rw [hP5.ri.len]; exact hq12
            refine joinP_cut (fun _ V' => ∃ on, MI V V' r on ∧ PI t a on0 on i ∧ on.getD i false = true ∧ ∀ e ∈ (entsT t i).take (m + 1), kindT t e.node.toNat = 2 → on.getD e.node.toNat false = true) (br_intro (fun hb => ?_) (fun hb => ?_)) ?_
            · have hkq := of_decide_eq_true hb
              obtain ⟨hs6, hM6⟩ := hM5.set hql
              have hg := fun j => getD_set_bool on5 q j hql
              refine ⟨by omega, by omega, _, rfl, hs6, _, hM6, hP5.mark hlti hon5 hxm hqe hq12 hkq, by rw [hg, hon5]; simp, fun e' he' hk' => ?_⟩
              rw [etk] at he'
              rw [hg]
              rcases List.mem_append.1 he' with h7 | h7
              · rw [hdone e' h7 hk']; simp
              · rw [List.mem_singleton.1 h7, hqe, Int.toNat_natCast, if_pos rfl]
            · have hkq := of_decide_eq_false hb
              refine ⟨on5, hM5, hP5, hon5, fun e' he' hk' => ?_⟩
              rw [etk] at he'
              rcases List.mem_append.1 he' with h7 | h7
              · exact hdone e' h7 hk'
              · rw [List.mem_singleton.1 h7, hqe, Int.toNat_natCast] at hk'
                exact absurd hk' hkq
            · rintro ⟨⟩ V7 ⟨on7, hM7, hP7, hon7, hd7⟩
              exact ⟨inI64 (by omega) (by omega), ⟨m + 1, on7, by omega, by omega, hM7, hP7, hon7, hd7⟩, by omega⟩
        · have hge : m = (entsT t i).length := by have := of_decide_eq_false hge; omega
          subst hge
          rw [List.take_length] at hdone
          exact ⟨on5, hM5, hP5.next hdone⟩
      · rintro ⟨⟩ V5 ⟨on5, hM5, hP5⟩
        exact ⟨inI64 (by omega) (by omega), ⟨i + 1, on5, by omega, by omega, hM5, hP5⟩, by omega⟩
    · have hge : i = 12 := by have := of_decide_eq_false hge; omega
      subst hge
      exact ⟨inI64 (by omega) (by omega), ⟨k + 1, on, by omega, by omega, hM4, hP4.ri, hP4.round hR3 hC3⟩, by omega⟩
  · have hge : k = 12 := by have := of_decide_eq_false hge; omega
    subst hge
    refine ⟨⟨some ⟨r, 0, none⟩, 12, 12⟩, rfl, ?_, hM3.vle⟩
    have := slR_block (W := V3) hM3.marks rows_bool (View.Le.refl _) (by rw [hR3.len]; omega)
    rw [hR3.len, hR3.end hC3 h12 hall] at this
    exact this
theorem named_ok {s : Sl} {t : Tre} {a : Int} {V : View} (h : SlR V s t) (h12 : t.length = 12) (he : ∀ n ∈ t, n.ents.length ≤ 10) :
    CallV Tryz.prog 34 ⟨[treV s, .int .i64 a]⟩ V fun r V' => r = .int .i64 ((allE t).countP (fun (x : Ent) => decide (x.node = a)) : Nat) ∧ V' = V := by
  refine f34_x ?_
  unfold f34_n
  have hn := h.n
  refine fun _ => ?_
  refine loop2 (k := .int .i64) (l := .int .i64) (fun (x : Int) (j : Int) V' => V' = V ∧ ∃ i : Nat, j = i ∧ i ≤ 12 ∧ x = ((allE (t.take i)).countP (fun (x : Ent) => decide (x.node = a)) : Nat)) (fun _ (j : Int) _ => 12 - j.toNat) ⟨rfl, 0, rfl, by omega, rfl⟩ ?_
  rintro (x : Int) (j : Int) V1 ⟨rfl, i, rfl, hi, rfl⟩
  refine br_intro (fun hlt => ?_) (fun hge => ?_)
  · have hlt : i < 12 := by have := of_decide_eq_true hlt; omega
    obtain ⟨ad, sq, en, ha, hc, hN⟩ := h.nodN (i := i) (by omega)
    have hmem : t.getD i default ∈ t := by rw [getD_at (by omega)]; exact List.getElem_mem _
    have hle := he _ hmem
    have hti := allE_take (t := t) (i := i) (by omega)
    have htk : (allE (t.take i)).length ≤ 10 * 12 := Nat.le_trans (allE_len fun n hn => he n (List.mem_of_mem_take hn)) (Nat.mul_le_mul_left _ (by simp; omega))
    have hen := hN.ents.n
    refine ⟨by omega, by omega, ad, ha, _, _, _, sq, en, hc, fun _ => ?_⟩
    generalize t.getD i default = nd at *
    refine loop2 (k := .int .i64) (l := .int .i64) (fun (x : Int) (j : Int) V' => V' = V1 ∧ ∃ k : Nat, j = k ∧ k ≤ nd.ents.length ∧ x = ((allE (t.take i) ++ nd.ents.take k).countP (fun (x : Ent) => decide (x.node = a)) : Nat)) (fun _ (j : Int) _ => nd.ents.length - j.toNat) ⟨rfl, 0, rfl, by omega, by simp⟩ ?_
    rintro (x : Int) (j : Int) V2 ⟨rfl, k, rfl, hk, rfl⟩
    have hcl := List.countP_le_length (p := fun (x : Ent) => decide (x.node = a)) (l := allE (t.take i) ++ nd.ents.take k)
    simp only [List.length_append, List.length_take] at hcl
    refine br_intro (fun hlt => ?_) (fun hge => ?_)
    · have hlt : k < nd.ents.length := by have := of_decide_eq_true hlt; omega
      obtain ⟨ad, ha, hc, _, _⟩ := hN.ents.entN hlt
      have etk : nd.ents.take (k + 1) = nd.ents.take k ++ [nd.ents.getD k default] := by rw [List.take_add_one, List.getElem?_eq_getElem hlt, getD_at hlt]; rfl
      refine ⟨by omega, by omega, ad, ha, _, _, hc, fun _ => ?_⟩
      generalize nd.ents.getD k default = e at *
      have hst : (allE (t.take i) ++ nd.ents.take (k + 1)).countP (fun (x : Ent) => decide (x.node = a)) = (allE (t.take i) ++ nd.ents.take k).countP (fun (x : Ent) => decide (x.node = a)) + if e.node = a then 1 else 0 := by
        rw [etk, ← List.append_assoc, List.countP_append]
        congr 1
        by_cases h1 : e.node = a <;> simp [h1]
      refine joinP_cut (fun g V' => g.1 = ((allE (t.take i) ++ nd.ents.take (k + 1)).countP (fun (x : Ent) => decide (x.node = a)) : Nat) ∧ V' = V2) (br_intro (fun h1 => ⟨inI64 (by omega) (by omega), ?_, rfl⟩) (fun h1 => ⟨?_, rfl⟩)) ?_
      · rw [hst, if_pos (of_decide_eq_true h1)]; rfl
      · rw [hst, if_neg (of_decide_eq_false h1)]; rfl
      · rintro ⟨g, ⟨⟩⟩ V3 ⟨h1, hV⟩
        simp only at h1 hV
        subst h1 hV
        exact ⟨inI64 (by omega) (by omega), ⟨rfl, k + 1, by omega, by omega, rfl⟩, by omega⟩
    · have hge : k = nd.ents.length := by have := of_decide_eq_false hge; omega
      subst hge
      rw [List.take_length] at *
      exact ⟨inI64 (by omega) (by omega), ⟨rfl, i + 1, by omega, by omega, by rw [hti]⟩, by omega⟩
  · have hge : i = 12 := by have := of_decide_eq_false hge; omega
    subst hge
    rw [List.take_of_length_le (by omega)]
    exact ⟨rfl, rfl⟩
end Go.Proofs.YtdlgpolngnkiaaaGreatDoor

/- Contracts of what finds nodes by paths. -/
namespace Go.Proofs.YtdlgpolngnkiaaaGreatDoor
open Go
/-! ### plain -/
/-- The node of a name; -1: there is none. -/
def atI (l : List Ent) (s : ByteArray) : Int := match l.find? fun x => decide (x.name = s) with
  | some x => x.node
  | none => -1
theorem idxI_find {α : Type} (p : α → Bool) : ∀ l : List α, (idxI p l = -1 ∧ l.find? p = none) ∨ ∃ i, ∃ h : i < l.length, idxI p l = (i : Int) ∧ l.find? p = some l[i]
  | [] => .inl ⟨rfl, rfl⟩
  | x :: l => by
    unfold idxI
    by_cases hx : p x = true
    · right; exact ⟨0, by simp, by rw [if_pos hx]; rfl, by simp [hx]⟩
    · rw [if_neg hx]
      rcases idxI_find p l with ⟨h1, h2⟩ | ⟨i, h, h1, h2⟩
      · left; rw [h1]; exact ⟨rfl, by simp [hx, h2]⟩
      · right
        refine ⟨i + 1, by simpa using h, ?_, by simp [hx, h2]⟩
        rw [h1]; simp
/-- Name by name from a node on. -/
def goF (t : Tre) : Nat → List ByteArray → Except Int Nat
  | i, [] => .ok i
  | i, s :: l => if kindT t i = 2 then (if atI (entsT t i) s < 0 then .error 8 else goF t (atI (entsT t i) s).toNat l) else .error 11
theorem goF_cons (t : Tre) (i : Nat) (s : ByteArray) (l : List ByteArray) : goF t i (s :: l) = if kindT t i = 2 then (if atI (entsT t i) s < 0 then .error 8 else goF t (atI (entsT t i) s).toNat l) else .error 11 := rfl
noncomputable def findT (t : Tre) (s : ByteArray) : Except Int Nat := if mayT t then match splitP s with
  | none => .error 7
  | some l => goF t 0 l
  else .error 1
noncomputable def parentT (t : Tre) (s : ByteArray) : Except Int (Nat × ByteArray) := if mayT t then
    (if (lastP s).2.2 = 0 then match findT t (lastP s).1 with
      | .error e => .error e
      | .ok i => if kindT t i = 2 then .ok (i, (lastP s).2.1) else .error 11
    else .error (lastP s).2.2)
  else .error 1
noncomputable def insideT (t : Tre) (a b : Int) : Bool := mayT t && decide (0 ≤ a) && decide (a < 12) && decide (0 ≤ b) && decide (b < 12) && decide (kindT t a.toNat = 2) && metB t a.toNat b.toNat
noncomputable def freeT (t : Tre) : Int := if mayT t then idxI (fun n => decide (n.kind = 0)) t else -1
theorem mayT_all {t : Tre} (h : mayT t = true) : t.length = 12 ∧ (∀ n ∈ t, mayN n = true) ∧ kindT t 0 = 2 ∧ (∀ i, i < 12 → hangB (t.getD i default) i ((cnt 12 (allE t)).getD i 0) (metB t 0 i) = true) ∧ apartL (allS t) = true := by
  unfold mayT at h
  simp only [Bool.and_eq_true, decide_eq_true_eq, List.all_eq_true, List.mem_range] at h
  exact ⟨h.1.1.1.1, h.1.1.1.2, h.1.1.2, h.1.2, h.2⟩
theorem mayT_node {t : Tre} (h : mayT t = true) : ∀ n ∈ t, ∀ e ∈ n.ents, 1 ≤ e.node ∧ e.node < 12 := fun n hn e he => by
  have := mayL_node (mayN_ents ((mayT_all h).2.1 n hn)) he
  exact ⟨this.1, this.2.1⟩
theorem getD_mem {t : Tre} {i : Nat} (h : i < t.length) : t.getD i default ∈ t := by rw [getD_at h]; exact List.getElem_mem _
theorem atI_range {l : List Ent} {s : ByteArray} (h : ∀ e ∈ l, 1 ≤ e.node ∧ e.node < 12) : atI l s = -1 ∨ (1 ≤ atI l s ∧ atI l s < 12) := by
  unfold atI
  split
  · rename_i x hx; right; exact h x (List.mem_of_find?_eq_some hx)
  · left; rfl
theorem goF_range {t : Tre} (h12 : t.length = 12) (hn : ∀ n ∈ t, ∀ e ∈ n.ents, 1 ≤ e.node ∧ e.node < 12) : ∀ {l : List ByteArray} {i q : Nat}, i < 12 → goF t i l = .ok q → q < 12
  | [], i, q, hi, h => by cases h; exact hi
  | s :: l, i, q, hi, h => by
    unfold goF at h
    split at h
    · split at h
      · cases h
      · rename_i h0
        have := atI_range (s := s) (hn _ (getD_mem (t := t) (i := i) (by omega)))
        refine goF_range h12 hn ?_ h
        unfold entsT at h0 ⊢
        omega
    · cases h
theorem findT_range {t : Tre} {s : ByteArray} {q : Nat} (h : findT t s = .ok q) : q < 12 := by
  unfold findT at h
  split at h
  · rename_i hM
    split at h
    · cases h
    · exact goF_range (mayT_all hM).1 (mayT_node hM) (by omega) h
  · cases h
def outF : Except Int Nat → Value
  | .ok i => .tuple ⟨[.int .i64 (i : Int), .int .i64 0]⟩
  | .error e => .tuple ⟨[.int .i64 0, .int .i64 e]⟩
def outP : Except Int (Nat × ByteArray) → Value
  | .ok (i, s) => .tuple ⟨[.int .i64 (i : Int), .string s, .int .i64 0]⟩
  | .error e => .tuple ⟨[.int .i64 0, .string (ba []), .int .i64 e]⟩
theorem ends_only {t : Tre} {s : ByteArray} {e : Int} (h : findT t s = .error e) : e ≠ 0 := by
  have go : ∀ {l : List ByteArray} {i : Nat}, goF t i l = .error e → e ≠ 0 := by
    intro l
    induction l with
    | nil => intro i h; cases h
    | cons s l ih =>
      intro i h
      unfold goF at h
      split at h
      · split at h
        · cases h; decide
        · exact ih h
      · cases h; decide
  unfold findT at h
  split at h
  · split at h
    · cases h; decide
    · exact go h
  · cases h; decide
theorem lastP_size {s : ByteArray} (_hs : s.size ≤ 9223372036854775807) : (lastP s).1.size ≤ 9223372036854775807 := by
  unfold lastP
  split
  · simp [ba_size]
  · rename_i l hl
    split
    · simp [ba_size]
    · unfold joinP1
      split
      · rename_i h2
        have := (splitP_some h2).1
        dsimp only
        omega
      · simp [ba_size]
/-! ### the program's -/
theorem placeC_ok {x : Ent} {s : ByteArray} {z : Addr} {V : View} (h : V.cell? z = some (.string s)) : CallV Tryz.prog 116 ⟨[entV x, .pointer (some z)]⟩ V fun r V' => r = .bool (decide (x.name = s)) ∧ V' = V := by
  refine f116_x ?_
  unfold f116_n
  exact fun _ => ⟨s, h, rfl, rfl⟩
theorem indexFuncE_ok {p : Ent → Bool} {s : Sl} {l : List Ent} {V : View} {g : FuncId} {xs ys : List Value} (h : SlR V s l)
    (hp : ∀ n ∈ l, CallV Tryz.prog g ⟨xs ++ [entV n] ++ ys⟩ V fun r V' => r = .bool (p n) ∧ V' = V) :
    CallV Tryz.prog 115 ⟨[.slice s.a s.n s.c, .func (.func g) ⟨xs⟩ ⟨ys⟩]⟩ V fun r V' => r = .int .i64 (idxI p l) ∧ V' = V := by
  refine f115_x ?_
  unfold f115_n
  have hn := h.n; have hlim := h.lim
  refine loop1 (k := .int .i64) (fun (x : Int) V' => V' = V ∧ 0 ≤ x ∧ x ≤ s.n ∧ ∀ j (hj : j < l.length), (j : Int) < x → p l[j] = false) (fun (x : Int) _ => s.n - x.toNat) ⟨rfl, by omega, by omega, fun j _ hj => by omega⟩ ?_
  rintro (x : Int) V' ⟨rfl, h0, h1, h2⟩
  refine br_intro (fun hlt => ?_) (fun hge => ?_)
  · have hlt : x < s.n := by simpa using hlt
    obtain ⟨ad, hx, ha, hc, _⟩ := h.ent h0 hlt
    refine ⟨h0, hlt, ad, ha, _, _, hc, (hp _ (List.getElem_mem hx)).mono ?_⟩
    rintro r V1 ⟨rfl, rfl⟩
    refine ⟨_, rfl, br_intro (fun hb => ⟨?_, rfl⟩) (fun hb => ⟨inI64 (by omega) (by omega), ⟨rfl, by omega, by omega, fun j hj hjx => ?_⟩, by omega⟩)⟩
    · rw [idxI_first p l x.toNat hx (fun j hj => h2 j (by omega) (by omega)) hb]
      congr 1; omega
    · by_cases e : (j : Int) < x
      · exact h2 j hj e
      · have : j = x.toNat := by omega
        subst this; exact hb
  · have hge : ¬ x < s.n := by simpa using hge
    refine ⟨?_, rfl⟩
    rw [idxI_none p l fun y hy => ?_]
    obtain ⟨j, hj, rfl⟩ := List.getElem_of_mem hy
    exact h2 j hj (by omega)
theorem place_ok {x : Sl} {l : List Ent} {s : ByteArray} {V : View} (h : SlR V x l) : CallV Tryz.prog 100 ⟨[.slice x.a x.n x.c, .string s]⟩ V fun r V' => r = .int .i64 (idxI (fun e : Ent => decide (e.name = s)) l) ∧ V.Le V' := by
  refine f100_x ?_
  unfold f100_n
  intro b hb
  have hle := View.put_le (o := .cells ⟨[.string s]⟩ 9 (0, 0)) hb
  refine (indexFuncE_ok (xs := []) (ys := [.pointer (some ⟨b, 0, none⟩)]) (p := fun e : Ent => decide (e.name = s)) (h.mono hle) (fun n _ => placeC_ok (x := n) (cell_of_see (View.see_put_same _ _ _) rfl))).mono ?_
  rintro r V1 ⟨rfl, rfl⟩
  exact ⟨_, rfl, rfl, hle⟩
theorem nameFind_ok {x : Sl} {l : List Ent} {s : ByteArray} {V : View} (h : SlR V x l) : CallV Tryz.prog 77 ⟨[.slice x.a x.n x.c, .string s]⟩ V fun r V' => r = .int .i64 (atI l s) ∧ V.Le V' := by
  refine f77_x ?_
  unfold f77_n
  refine (place_ok h).mono ?_
  rintro r V1 ⟨rfl, hV1⟩
  refine ⟨_, rfl, ?_⟩
  have hn := h.n
  unfold atI
  rcases idxI_find (fun e : Ent => decide (e.name = s)) l with ⟨h1, h2⟩ | ⟨i, hi, h1, h2⟩
  · rw [h1, h2]
    exact br_intro (fun _ => ⟨rfl, hV1⟩) (fun hc => absurd (of_decide_eq_false hc) (by omega))
  · rw [h1, h2]
    refine br_intro (fun hc => ?_) (fun _ => ?_)
    · have := of_decide_eq_true hc; omega
    · obtain ⟨ad, ha, hc, _⟩ := (h.mono hV1).entN hi
      rw [getD_at hi] at hc
      exact ⟨by omega, by omega, ad, ha, _, cellsAt_nth hc 1 rfl, rfl, hV1⟩
theorem refAt_ok {x : Sl} {l : List Ent} {s : ByteArray} {V : View} (h : SlR V x l) : CallV Tryz.prog 59 ⟨[.slice x.a x.n x.c, .string s]⟩ V fun r V' => r = .int .i64 (atI l s) ∧ V' = V := by
  refine f59_x ?_
  unfold f59_n
  have hn := h.n; have hlim := h.lim
  refine loop1 (k := .int .i64) (fun (x : Int) V' => V' = V ∧ ∃ i : Nat, x = i ∧ i ≤ l.length ∧ atI l s = atI (l.drop i) s) (fun (x : Int) _ => l.length - x.toNat) ⟨rfl, 0, rfl, by omega, rfl⟩ ?_
  rintro (y : Int) V' ⟨rfl, i, rfl, hi, h2⟩
  refine br_intro (fun hlt => ?_) (fun hge => ?_)
  · have hlt : i < l.length := by have := of_decide_eq_true hlt; omega
    obtain ⟨ad, ha, hc, _⟩ := h.entN hlt
    have hd : l.drop i = l.getD i default :: l.drop (i + 1) := by rw [getD_at hlt]; exact (List.getElem_cons_drop (h := hlt)).symm
    have h3 : atI l s = if (l.getD i default).name = s then (l.getD i default).node else atI (l.drop (i + 1)) s := by
      rw [h2, hd]
      unfold atI
      rw [List.find?_cons]
      by_cases e : (l.getD i default).name = s
      · rw [decide_eq_true e, if_pos e]
      · rw [decide_eq_false e, if_neg e]
    refine ⟨by omega, by omega, ad, ha, _, _, hc, fun _ => br_intro (fun hb => ?_) (fun hb => ?_)⟩
    · have hb := of_decide_eq_true hb
      rw [h3, if_pos hb]; exact ⟨rfl, rfl⟩
    · have hb := of_decide_eq_false hb
      rw [if_neg hb] at h3
      exact ⟨inI64 (by omega) (by omega), ⟨rfl, i + 1, by omega, by omega, h3⟩, by omega⟩
  · have hge : i = l.length := by have := of_decide_eq_false hge; omega
    subst hge
    rw [List.drop_length] at h2
    rw [h2]; exact ⟨rfl, rfl⟩
theorem SlR.strN {V : View} {s : Sl} {l : List ByteArray} (h : SlR V s l) {i : Nat} (hi : i < l.length) :
    ∃ ad, s.a = some ad ∧ V.cell? (ad.add (((i : Int)).toNat * 1)) = some (.string l[i]) ∧ l[i].size ≤ 9223372036854775807 := by
  have hn := h.n
  obtain ⟨ad, hx, ha, hc, hs⟩ := h.str (x := (i : Int)) (by omega) (by omega)
  exact ⟨ad, ha, hc, hs⟩
theorem dirGo_ok {s x : Sl} {t : Tre} {l : List ByteArray} {V : View} (h : SlR V s t) (k : SlR V x l) (h12 : t.length = 12) (hnode : ∀ n ∈ t, ∀ e ∈ n.ents, 1 ≤ e.node ∧ e.node < 12) : CallV Tryz.prog 38 ⟨[treV s, .slice x.a x.n x.c]⟩ V fun r V' => r = outF (goF t 0 l) ∧ V.Le V' := by
  refine f38_x ?_
  unfold f38_n
  have hn := h.n; have kn := k.n; have klim := k.lim
  refine fun _ => loop2 (k := .int .i64) (l := .int .i64) (fun (y : Int) (j : Int) V' => ∃ q i : Nat, y = q ∧ j = i ∧ q < 12 ∧ i ≤ l.length ∧ goF t 0 l = goF t q (l.drop i) ∧ V.Le V') (fun _ (j : Int) _ => l.length - j.toNat) ⟨0, 0, rfl, rfl, by omega, by omega, rfl, View.Le.refl _⟩ ?_
  rintro (y : Int) (j : Int) V1 ⟨q, i, rfl, rfl, hq, hi, hG, hV1⟩
  refine br_intro (fun hlt => ?_) (fun hge => ?_)
  · have hlt : i < l.length := by have := of_decide_eq_true hlt; omega
    obtain ⟨ad, ha, hc, hsz⟩ := (k.mono hV1).strN hlt
    obtain ⟨ad2, sq, en, ha2, hc2, hN⟩ := (h.mono hV1).nodN (i := q) (by omega)
    have hd : l.drop i = l[i] :: l.drop (i + 1) := (List.getElem_cons_drop (h := hlt)).symm
    rw [hd, goF_cons] at hG
    refine ⟨by omega, by omega, ad, ha, _, hc, by omega, by omega, ad2, ha2, _, cellsAt_nth hc2 0 rfl, br_intro (fun hb => ?_) (fun hb => ⟨by omega, by omega, ad2, ha2, en, cellsAt_nth hc2 4 rfl, (nameFind_ok hN.ents).mono ?_⟩)⟩
    · have hb : ¬ kindT t q = 2 := of_decide_eq_false (not_t hb)
      rw [if_neg hb] at hG
      rw [hG]; exact ⟨rfl, hV1⟩
    · have hb : kindT t q = 2 := of_decide_eq_true (not_f hb)
      rw [if_pos hb] at hG
      rintro r V2 ⟨rfl, hV2⟩
      have hr := atI_range (s := l[i]) (hnode _ (getD_mem (t := t) (i := q) (by omega)))
      refine ⟨_, rfl, br_intro (fun h0 => ?_) (fun h0 => ?_)⟩
      · have h0 := of_decide_eq_true h0
        rw [if_pos (show atI (entsT t q) l[i] < 0 from h0)] at hG
        rw [hG]; exact ⟨rfl, hV1.trans hV2⟩
      · have h0 := of_decide_eq_false h0
        rw [if_neg (show ¬ atI (entsT t q) l[i] < 0 from h0)] at hG
        exact ⟨inI64 (by omega) (by omega), ⟨(atI (entsT t q) l[i]).toNat, i + 1, by unfold entsT; omega, by omega, by unfold entsT; omega, by omega, hG, hV1.trans hV2⟩, by omega⟩
  · have hge : i = l.length := by have := of_decide_eq_false hge; omega
    subst hge
    rw [List.drop_length] at hG
    rw [hG]; exact ⟨rfl, hV1⟩
theorem dirFind_ok {s : Sl} {t : Tre} {p : ByteArray} {V : View} (h : SlR V s t) (hp : p.size ≤ 9223372036854775807) (hg : Glo V) : CallV Tryz.prog 14 ⟨[treV s, .string p]⟩ V fun r V' => r = outF (findT t p) ∧ V.Le V' := by
  refine f14_x ?_
  unfold f14_n
  refine fun _ => (mayT_ok h).mono ?_
  rintro r V1 ⟨rfl, hV1⟩
  unfold findT
  refine ⟨_, rfl, br_intro (fun hb => ⟨by rw [if_neg (by rw [not_t hb]; decide)]; rfl, hV1⟩) (fun hb => ?_)⟩
  have hM := not_f hb
  rw [if_pos hM]
  refine (pathSplit_ok hp (hg.mono hV1)).mono ?_
  rintro r V2 ⟨⟨x, e, rfl, hx⟩, hV2⟩
  have hV02 := hV1.trans hV2
  refine ⟨x, e, rfl, ?_⟩
  cases hS : splitP p with
  | none =>
    rw [hS] at hx
    obtain ⟨rfl, rfl⟩ := hx
    exact br_intro (fun _ => ⟨rfl, hV02⟩) (fun h => absurd h (by decide))
  | some l =>
    rw [hS] at hx
    obtain ⟨rfl, hx⟩ := hx
    refine br_intro (fun h => absurd h (by decide)) (fun _ => (dirGo_ok (h.mono hV02) hx (mayT_all hM).1 (mayT_node hM)).mono ?_)
    rintro r V3 ⟨rfl, hV3⟩
    show ∃ _ _, outF _ = _ ∧ _
    cases hG : goF t 0 l with
    | ok q => exact ⟨_, _, rfl, by simp only [hG]; rfl, hV02.trans hV3⟩
    | error e => exact ⟨_, _, rfl, by simp only [hG]; rfl, hV02.trans hV3⟩
theorem dirParent_ok {s : Sl} {t : Tre} {p : ByteArray} {V : View} (h : SlR V s t) (hp : p.size ≤ 9223372036854775807) (hg : Glo V) : CallV Tryz.prog 78 ⟨[treV s, .string p]⟩ V fun r V' => r = outP (parentT t p) ∧ V.Le V' := by
  refine f78_x ?_
  unfold f78_n
  refine fun _ => (mayT_ok h).mono ?_
  rintro r V1 ⟨rfl, hV1⟩
  unfold parentT
  refine ⟨_, rfl, br_intro (fun hb => ⟨by rw [if_neg (by rw [not_t hb]; decide)]; rfl, hV1⟩) (fun hb => ?_)⟩
  have hM := not_f hb
  rw [if_pos hM]
  refine (pathLast_ok hp (hg.mono hV1)).mono ?_
  rintro r V2 ⟨rfl, hV2⟩
  have hV02 := hV1.trans hV2
  refine ⟨_, _, _, rfl, br_intro (fun h0 => ?_) (fun h0 => ?_)⟩
  · have h0 := of_decide_eq_false (not_t h0)
    rw [if_neg h0]; exact ⟨rfl, hV02⟩
  · have h0 := of_decide_eq_true (not_f h0)
    rw [if_pos h0]
    refine (dirFind_ok (h.mono hV02) (lastP_size hp) (hg.mono hV02)).mono ?_
    rintro r V3 ⟨rfl, hV3⟩
    have hV03 := hV02.trans hV3
    have hn := h.n
    cases hF : findT t (lastP p).1 with
    | error e =>
      have he := ends_only hF
      refine ⟨0, e, rfl, br_intro (fun _ => ⟨rfl, hV03⟩) (fun hc => ?_)⟩
      exact absurd (of_decide_eq_true (not_f hc)) he
    | ok q =>
      have hq := findT_range hF
      refine ⟨q, 0, rfl, br_intro (fun h => absurd h (by decide)) (fun _ => ?_)⟩
      have h12 := (mayT_all hM).1
      obtain ⟨ad2, sq, en, ha2, hc2, hN⟩ := (h.mono hV03).nodN (i := q) (by omega)
      refine ⟨by omega, by omega, ad2, ha2, _, cellsAt_nth hc2 0 rfl, br_intro (fun hb => ?_) (fun hb => ?_)⟩
      · have hb : ¬ kindT t q = 2 := of_decide_eq_false (not_t hb)
        simp only [if_neg hb]; exact ⟨rfl, hV03⟩
      · have hb : kindT t q = 2 := of_decide_eq_true (not_f hb)
        simp only [if_pos hb]; exact ⟨rfl, hV03⟩
theorem free1_ok {n : Nod} {s e : Sl} {V : View} : CallV Tryz.prog 96 ⟨[nodV n s e]⟩ V fun r V' => r = .bool (decide (n.kind = 0)) ∧ V' = V := by
  refine f96_x ?_
  unfold f96_n
  exact fun _ => ⟨rfl, rfl⟩
theorem free_ok {s : Sl} {t : Tre} {V : View} (h : SlR V s t) : CallV Tryz.prog 71 ⟨[treV s]⟩ V fun r V' => r = .int .i64 (freeT t) ∧ V.Le V' := by
  refine f71_x ?_
  unfold f71_n
  refine fun _ => (mayT_ok h).mono ?_
  rintro r V1 ⟨rfl, hV1⟩
  unfold freeT
  refine ⟨_, rfl, br_intro (fun hb => ⟨by rw [if_neg (by rw [not_t hb]; decide)], hV1⟩) (fun hb => ?_)⟩
  rw [if_pos (not_f hb)]
  refine (indexFuncN_ok (xs := []) (ys := []) (p := fun n => decide (n.kind = 0)) (h.mono hV1) (fun n _ a b _ => free1_ok (n := n) (s := a) (e := b))).mono ?_
  rintro r V2 ⟨rfl, rfl⟩
  exact ⟨_, rfl, rfl, hV1⟩
theorem has_ok {s : Sl} {z : Addr} {a : Int} {V : View} (h : V.cell? (z.add 0) = some (.slice s.a s.n s.c)) : CallV Tryz.prog 82 ⟨[.int .i64 a, .pointer (some z)]⟩ V fun r V' => r = .bool (decide (0 ≤ a) && decide (a < s.n)) ∧ V' = V := by
  refine f82_x ?_
  unfold f82_n
  refine joinP_cut (fun q V' => q.1 = (decide (0 ≤ a) && decide (a < s.n)) ∧ V' = V) (br_intro (fun h0 => ⟨s, h, by rw [h0]; rfl, rfl⟩) (fun h0 => ⟨by rw [h0]; rfl, rfl⟩)) ?_
  rintro ⟨q, ⟨⟩⟩ V1 ⟨h1, hV⟩
  simp only at h1 hV
  subst h1 hV
  exact ⟨rfl, rfl⟩
theorem inside_ok {s : Sl} {t : Tre} {a b : Int} {V : View} (h : SlR V s t) : CallV Tryz.prog 48 ⟨[treV s, .int .i64 a, .int .i64 b]⟩ V fun r V' => r = .bool (insideT t a b) ∧ V.Le V' := by
  refine f48_x ?_
  unfold f48_n
  intro z hz
  have hp := View.put_le (o := .cells ⟨[.slice s.a s.n s.c]⟩ 24 (0, 0)) hz
  have hsee : (V.put z (.cells ⟨[.slice s.a s.n s.c]⟩ 24 (0, 0))).see z = some (.cells ⟨[.slice s.a s.n s.c]⟩ 24 (0, 0)) := View.see_put_same _ _ _
  generalize V.put z (.cells ⟨[.slice s.a s.n s.c]⟩ 24 (0, 0)) = V0 at *
  have hcell : ∀ {V' : View}, V0.Le V' → V'.cell? ⟨z, 0, none⟩ = some (.slice s.a s.n s.c) := fun hV => cell_of_see (hV.see _ _ hsee) rfl
  have h' := h.mono hp
  have hn := h.n
  refine joinP_cut (fun q V' => q.1 = insideT t a b ∧ V0.Le V') ⟨s, cellsAt_one.2 (hcell (View.Le.refl _)), (mayT_ok h').mono ?_⟩ ?_
  · rintro r V1 ⟨rfl, hV1⟩
    unfold insideT
    refine ⟨_, rfl, br_intro (fun hM => ?_) (fun hM => ⟨by rw [hM]; rfl, hV1⟩)⟩
    have h12 := (mayT_all hM).1
    have hs12 : (s.n : Int) = 12 := by omega
    refine (has_ok (s := s) (hcell hV1)).mono ?_
    rintro r V2 ⟨rfl, rfl⟩
    rw [hs12]
    refine ⟨_, rfl, br_intro (fun ha => (has_ok (s := s) (hcell hV1)).mono ?_) (fun ha => ⟨by
      rw [hM, Bool.true_and, ha]; rfl, hV1⟩)⟩
    rintro r V3 ⟨rfl, rfl⟩
    rw [hs12]
    refine ⟨_, rfl, br_intro (fun hb => ?_) (fun hb => ⟨by
      rw [hM, Bool.true_and, ha, Bool.true_and, hb]; rfl, hV1⟩)⟩
    have ha' : 0 ≤ a ∧ a < 12 := by simpa using ha
    have hb' : 0 ≤ b ∧ b < 12 := by simpa using hb
    obtain ⟨ad, sq, en, had, hc, hN⟩ := (h'.mono hV1).nodN (i := a.toNat) (by omega)
    refine ⟨s, hcell hV1, by omega, by omega, ad, had, _, cellsAt_nth hc 0 rfl, br_intro (fun hk => ?_) (fun hk => ⟨?_, hV1⟩)⟩
    · have hk : kindT t a.toNat = 2 := of_decide_eq_true hk
      have hbl := below_ok (a := a.toNat) (h'.mono hV1) h12 (by omega) (fun n hn e he => by have := mayT_node hM n hn e he; omega)
      rw [show ((a.toNat : Nat) : Int) = a by omega] at hbl
      refine ⟨s, cellsAt_one.2 (hcell hV1), hbl.mono ?_⟩
      rintro r V4 ⟨y, rfl, hy, hV4⟩
      have hyn := hy.n
      simp only [List.length_map, List.length_range] at hyn
      obtain ⟨ad4, hx4, ha4, hc4⟩ := hy.bool (x := b) (by omega) (by omega)
      refine ⟨y, rfl, by omega, by omega, ad4, ha4, _, hc4, ?_, hV1.trans hV4⟩
      rw [hM, decide_eq_true ha'.1, decide_eq_true ha'.2, decide_eq_true hb'.1, decide_eq_true hb'.2, decide_eq_true hk]
      simp
    · have hk : ¬ kindT t a.toNat = 2 := of_decide_eq_false hk
      rw [decide_eq_false hk]; simp
  · rintro ⟨q, ⟨⟩⟩ V1 ⟨h1, hV⟩
    simp only at h1
    subst h1
    exact ⟨rfl, hp.trans hV⟩
/-! ### awake -/
theorem split_top : splitP (ba [47]) = some [] := by decide
theorem split_a : splitP (ba [47, 97]) = some [ba [97]] := by decide
theorem last_a : lastP (ba [47, 97]) = (ba [47], ba [97], 0) := by
  unfold lastP
  rw [split_a]
  decide
theorem find_top : findT firstT (ba [47]) = .ok 0 := by
  unfold findT; rw [if_pos mayT_first, split_top]; rfl
theorem find_a : findT firstT (ba [47, 97]) = .error 8 := by
  unfold findT; rw [if_pos mayT_first, split_a]; rfl
theorem parent_a : parentT firstT (ba [47, 97]) = .ok (0, ba [97]) := by
  unfold parentT
  rw [if_pos mayT_first, last_a, if_pos rfl, find_top]
  rfl
theorem inside_top : insideT firstT 0 0 = true := by
  unfold insideT
  rw [mayT_first]
  have : metB firstT 0 0 = true := metB_iff.2 .refl
  simp only [Int.toNat_zero, this]
  decide
theorem free_first : freeT firstT = 1 := by
  unfold freeT; rw [if_pos mayT_first]; decide
end Go.Proofs.YtdlgpolngnkiaaaGreatDoor

/- The contract of the reference's Name. -/
namespace Go.Proofs.YtdlgpolngnkiaaaGreatDoor
open Go
theorem refName_ok {s : ByteArray} {V : View} (hs : s.size ≤ 9223372036854775807) : CallV Tryz.prog 93 ⟨[.string s]⟩ V fun r V' => r = .bool (mayB s) ∧ V' = V := by
  refine f93_x ?_
  unfold f93_n
  refine br_intro (fun h => ⟨?_, rfl⟩) (fun h => ?_)
  · congr 1
    symm
    unfold mayB
    rw [Bool.and_eq_false_iff]
    right
    rw [Bool.eq_false_iff]
    intro h2
    simp at h h2
    simp [h2] at h
    omega
  have hpre : (1 ≤ s.size && s.size ≤ 8 && !decide (s = ByteArray.mk #[46]) && !decide (s = ByteArray.mk #[46, 46])) = true := by
    simp at h ⊢
    refine ⟨⟨by omega, h.1.2⟩, h.2⟩
  refine loop1 (k := .int .i64) (fun (x : Int) V' => V' = V ∧ 0 ≤ x ∧ x ≤ s.size ∧ (s.data.toList.take x.toNat).all (fun b => okB b.toNat) = true) (fun (x : Int) _ => s.size - x.toNat) ⟨rfl, by omega, by omega, rfl⟩ ?_
  rintro (x : Int) V' ⟨rfl, h0, h1, h2⟩
  have hsz : s.data.toList.length = s.size := by simp
  refine br_intro (fun hlt => ?_) (fun hge => ?_)
  · have hlt : x < s.size := by simpa using hlt
    have hx : x.toNat < s.data.toList.length := by omega
    have hg : s.data.toList.getD x.toNat 0 = s.data.toList[x.toNat] := by rw [List.getD_eq_getElem?_getD, List.getElem?_eq_getElem hx]; rfl
    refine ⟨h0, hlt, ?_⟩
    rw [hg]
    generalize hb : s.data.toList[x.toNat] = b
    refine br_intro (fun hn => ⟨?_, rfl⟩) (fun hn => ⟨inI64 (by omega) (by omega), ⟨rfl, by omega, by omega, ?_⟩, by omega⟩)
    · have hk : okB b.toNat = false := by
        unfold okB
        simp at hn ⊢
        omega
      unfold mayB
      have : (s.data.toList.all fun b => okB b.toNat) = false := by
        rw [List.all_eq_false]
        exact ⟨b, hb ▸ List.getElem_mem hx, by simp [hk]⟩
      rw [show bl s = s.data.toList from rfl, this]; rfl
    · have hk : okB b.toNat = true := by
        unfold okB
        simp at hn ⊢
        omega
      rw [show (x + 1).toNat = x.toNat + 1 by omega, List.take_add_one, List.all_append, h2, List.getElem?_eq_getElem hx, hb]
      simp [hk]
  · have hge : ¬ x < s.size := by simpa using hge
    rw [List.take_of_length_le (by omega)] at h2
    refine ⟨?_, rfl⟩
    unfold mayB
    rw [show bl s = s.data.toList from rfl, h2, hpre]; rfl
end Go.Proofs.YtdlgpolngnkiaaaGreatDoor
