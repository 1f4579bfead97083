/- Texts joined: Ob, BytesOk, Set, PathLaw, MayOk, DirLaw, NodeOk, NamesOk, BelowLaw, BelowOk, MapLaw, ApartOk, DirOk, ReachLaw, ReachOk, NameOk, RefOk, RefMayOk, CopyOk, SpanOk, RefsOk, QuotaOk, FileOk, File2Ok, MakeOk. -/
import Derived.Test.YtoogangnldppaaaGreatDoorSoundC
import Derived.Test.YtoogangnldppaaaGreatDoorPk2
import Derived.Test.YtoogangnldppaaaGreatDoorPk1
import Derived.Lib.SplitLaws
import Derived.Lib.Join
import Derived.KernelRfl
set_option linter.unusedVariables false
/- What the executor asks of these functions, written out. (Printed by wip/tools/gen.py.) -/
set_option maxRecDepth 100000
set_option linter.unusedVariables false
namespace Go.Proofs.YtoogangnldppaaaGreatDoor
open Go
variable [DrK]
/-- potsherd/dir.below -/
def f116_n (a0_0 : Sl) (a1 : Int) (V : View) (Q : Value → View → Prop) : Prop :=
    ∀ (b : Nat), (0 : Int) ≤ (↑(Sl.n a0_0) : Int) ∧ (↑(Sl.n a0_0) : Int) ≤ (↑(Sl.n a0_0) : Int) ∧ (↑(Sl.n a0_0) : Int) * (↑(TypeInfo.bytes (Tables.types (Program.toTables Tryz.prog))[(4 : Nat)]) : Int) ≤ (140737488355328 : Int) ∧ (↑(Sl.n a0_0) : Int) ≤ (140737488355328 : Int) ∧ newB V (Obj.cells (Array.mk (List.flatten (List.replicate (Int.toNat (↑(Sl.n a0_0) : Int)) [Value.bool false]))) (4 : Nat)) fun (r : Nat) (V : View) => newB V (Obj.cells (Array.mk (putL [Value.int IntKind.i64 (0 : Int)] (0 : Nat) [Value.int IntKind.i64 a1])) (3 : Nat)) fun (r_1 : Nat) (V : View) => (0 : Int) ≤ a1 ∧ a1 < (↑(Int.toNat (↑(Sl.n a0_0) : Int)) : Int) ∧ ∃ (ad : Addr), some (Addr.mk r (0 : Nat) none) = some ad ∧ canSet V (Addr.add ad (Int.toNat a1 * (1 : Nat))) (1 : Nat) ∧ loopP [K.sl] (fun (x : Sl) (V : View) (J : CurP [K.sl]) => br (decide ((0 : Int) < (↑(Sl.n x) : Int))) (inI IntKind.i64 ((↑(Sl.n x) : Int) - (1 : Int)) ∧ (0 : Int) ≤ (↑(Sl.n x) : Int) - (1 : Int) ∧ (↑(Sl.n x) : Int) - (1 : Int) < (↑(Sl.n x) : Int) ∧ ∃ (ad : Addr), Sl.a x = some ad ∧ ∃ (x_1 : Int), View.cell? V (Addr.add ad (Int.toNat ((↑(Sl.n x) : Int) - (1 : Int)) * (1 : Nat))) = some (Value.int IntKind.i64 x_1) ∧ inI IntKind.i64 ((↑(Sl.n x) : Int) - (1 : Int)) ∧ (0 : Int) ≤ (0 : Int) ∧ (0 : Int) ≤ (↑(Sl.n x) : Int) - (1 : Int) ∧ (↑(Sl.n x) : Int) - (1 : Int) ≤ (↑(Sl.c x) : Int) ∧ (0 : Int) ≤ x_1 ∧ x_1 < (↑(Sl.n a0_0) : Int) ∧ ∃ (ad : Addr), Sl.a a0_0 = some ad ∧ ∃ (x_2 : Sl), View.cell? V (Addr.add (Addr.add ad (Int.toNat x_1 * (5 : Nat))) (4 : Nat)) = some (Value.slice (Sl.a x_2) (Sl.n x_2) (Sl.c x_2)) ∧ loopP [K.sl, K.int IntKind.i64] (fun (x : Sl) (x_3 : Int) (V : View) (J_1 : CurP [K.sl, K.int IntKind.i64]) => br (decide (x_3 < (↑(Sl.n x_2) : Int))) ((0 : Int) ≤ x_3 ∧ x_3 < (↑(Sl.n x_2) : Int) ∧ ∃ (ad : Addr), Sl.a x_2 = some ad ∧ ∃ (x_4 : ByteArray), ∃ (x_5 : Int), cellsAt V (Addr.add ad (Int.toNat x_3 * (2 : Nat))) [Value.string x_4, Value.int IntKind.i64 x_5] ∧ ∀ (b : Nat), (0 : Int) ≤ x_5 ∧ x_5 < (↑(Int.toNat (↑(Sl.n a0_0) : Int)) : Int) ∧ ∃ (ad : Addr), some (Addr.mk r (0 : Nat) none) = some ad ∧ ∃ (x_6 : Bool), View.cell? V (Addr.add ad (Int.toNat x_5 * (1 : Nat))) = some (Value.bool x_6) ∧ joinP [K.sl] (fun (J : CurP [K.sl]) => br (!x_6) ((0 : Int) ≤ x_5 ∧ x_5 < (↑(Int.toNat (↑(Sl.n a0_0) : Int)) : Int) ∧ ∃ (ad : Addr), some (Addr.mk r (0 : Nat) none) = some ad ∧ canSet V (Addr.add ad (Int.toNat x_5 * (1 : Nat))) (1 : Nat) ∧ newB (View.sets V (Addr.add ad (Int.toNat x_5 * (1 : Nat))) [Value.bool true]) (Obj.cells (Array.mk (putL [Value.int IntKind.i64 (0 : Int)] (0 : Nat) [Value.int IntKind.i64 x_5])) (3 : Nat)) fun (r : Nat) (V : View) => apV V (3 : Nat) (1 : Nat) (8 : Nat) [Value.int IntKind.i64 (0 : Int)] (Sl.mk (Sl.a x) (Sl.n x) (Sl.c x)) (Value.slice (some (Addr.mk r (0 : Nat) none)) (1 : Nat) (1 : Nat)) fun (s : Sl) (V : View) => J (Sl.mk (Sl.a s) (Sl.n s) (Sl.c s)) V) (J (Sl.mk (Sl.a x) (Sl.n x) (Sl.c x)) V)) fun (x : Sl) (V : View) => inI IntKind.i64 (x_3 + (1 : Int)) ∧ J_1 (Sl.mk (Sl.a x) (Sl.n x) (Sl.c x)) (x_3 + (1 : Int)) V) (J (Sl.mk (Sl.a x) (Sl.n x) (Sl.c x)) V)) (Sl.mk (if Sl.c x = (0 : Nat) then Sl.a x else Option.map (fun (x : Addr) => Addr.add x (0 : Nat)) (Sl.a x)) (Int.toNat ((↑(Sl.n x) : Int) - (1 : Int)) - (0 : Nat)) (Sl.c x - (0 : Nat)), (0 : Int), ()) V) (Q (Value.slice (some (Addr.mk r (0 : Nat) none)) (Int.toNat (↑(Sl.n a0_0) : Int)) (Int.toNat (↑(Sl.n a0_0) : Int))) V)) (Sl.mk (some (Addr.mk r_1 (0 : Nat) none)) (1 : Nat) (1 : Nat), ()) (View.sets V (Addr.add ad (Int.toNat a1 * (1 : Nat))) [Value.bool true])
def f116_ac : AC := (.seq (.reg ⟨.done, false, [], [], none⟩) (.seq (.reg ⟨.done, false, [], [], none⟩) (.seq (.reg ⟨.done, false, [], [], none⟩) (.seq (.reg ⟨.done, false, [], [], none⟩) (.seq (.block none (.loop ⟨[7, 9, 19, 20, 21, 22, 23, 24, 25, 26, 27, 28, 29, 30, 31, 32, 33, 34, 35, 36, 37, 38, 39, 40, 41, 42, 43, 44, 45, 46, 47, 48, 49, 50, 51, 52, 53, 54, 55, 56, 57, 58, 59], [(6, .sl)], []⟩ (.seq (.seq (.reg ⟨.done, false, [], [], none⟩) (.cond none .leaf .leaf)) (.block none (.seq (.reg ⟨.done, false, [], [], none⟩) (.seq (.reg ⟨.done, false, [], [], none⟩) (.seq (.reg ⟨.done, false, [], [], none⟩) (.block none (.loop ⟨[9, 41, 42, 43, 44, 45, 46, 47, 48, 49, 50, 51, 52, 53, 54, 55, 56, 57, 58, 59], [(6, .sl), (40, .int .i64)], []⟩ (.seq (.reg ⟨.done, false, [], [], none⟩) (.seq (.cond none .leaf .leaf) (.seq (.block none (.seq (.reg ⟨.done, false, [], [], none⟩) (.seq (.reg ⟨.done, false, [], [], none⟩) (.cond (some ⟨[50, 51, 52, 53, 54, 55, 56, 57, 58], [(6, .sl)], []⟩) (.seq (.reg ⟨.done, false, [], [], none⟩) (.reg ⟨.done, false, [], [], none⟩)) .leaf)))) (.reg ⟨.done, false, [], [], none⟩))))))))))))) (.seq (.reg ⟨.done, false, [], [], none⟩) .leaf))))))
theorem f116_x {a0_0 : Sl} {a1 : Int} {V : View} {Q : Value → View → Prop} (h : f116_n a0_0 a1 V Q) : CallV Tryz.prog 116 ⟨[(.agg ⟨[(.slice a0_0.a a0_0.n a0_0.c)]⟩), (.int .i64 a1)]⟩ V Q :=
  XF_sound (wr := false) Tryz.checked.mixed (enters_of (fn := Tryz.f116) (by kernel_rfl) (by kernel_rfl) (by kernel_rfl)) (fn := Tryz.f116) (by kernel_rfl) (ac := f116_ac)
    (Eq.mp (show f116_n a0_0 a1 V Q = XF Tryz.prog false Tryz.f116 (f116_ac) [(.agg ⟨[(.slice a0_0.a a0_0.n a0_0.c)]⟩), (.int .i64 a1)] V Q from by kernel_rfl) h)
/-- potsherd/dir.hangs -/
def f117_n (a0_0 : Int) (a0_1 : Int) (a0_2 : Int) (a0_3 : Sl) (a0_4 : Sl) (a1 : Int) (a2 : Int) (a3 : Bool) (V : View) (Q : Value → View → Prop) : Prop :=
    ∀ (b : Nat), br (decide (a0_0 = (2 : Int))) (Q (Value.bool (bif a3 then bif decide (a1 = (0 : Int)) then true else decide (a2 = (1 : Int)) else false)) V) (br (decide (a0_0 = (1 : Int))) (Q (Value.bool (decide (a0_1 = a2))) V) (Q (Value.bool (decide (a2 = (0 : Int)))) V))
def f117_ac : AC := (.seq (.reg ⟨.done, false, [], [], none⟩) (.seq (.seq (.reg ⟨.done, false, [], [], none⟩) (.block none (.seq (.reg ⟨.done, false, [], [], none⟩) (.cond none (.seq (.reg ⟨.done, false, [], [], none⟩) .leaf) (.seq (.reg ⟨.done, false, [], [], none⟩) (.cond none (.seq (.reg ⟨.done, false, [], [], none⟩) .leaf) .leaf)))))) (.seq (.reg ⟨.done, false, [], [], none⟩) .leaf)))
theorem f117_x {a0_0 : Int} {a0_1 : Int} {a0_2 : Int} {a0_3 : Sl} {a0_4 : Sl} {a1 : Int} {a2 : Int} {a3 : Bool} {V : View} {Q : Value → View → Prop} (h : f117_n a0_0 a0_1 a0_2 a0_3 a0_4 a1 a2 a3 V Q) : CallV Tryz.prog 117 ⟨[(.agg ⟨[(.int .i64 a0_0), (.int .i64 a0_1), (.int .i64 a0_2), (.slice a0_3.a a0_3.n a0_3.c), (.slice a0_4.a a0_4.n a0_4.c)]⟩), (.int .i64 a1), (.int .i64 a2), (.bool a3)]⟩ V Q :=
  XF_sound (wr := false) Tryz.checked.mixed (enters_of (fn := Tryz.f117) (by kernel_rfl) (by kernel_rfl) (by kernel_rfl)) (fn := Tryz.f117) (by kernel_rfl) (ac := f117_ac)
    (Eq.mp (show f117_n a0_0 a0_1 a0_2 a0_3 a0_4 a1 a2 a3 V Q = XF Tryz.prog false Tryz.f117 (f117_ac) [(.agg ⟨[(.int .i64 a0_0), (.int .i64 a0_1), (.int .i64 a0_2), (.slice a0_3.a a0_3.n a0_3.c), (.slice a0_4.a a0_4.n a0_4.c)]⟩), (.int .i64 a1), (.int .i64 a2), (.bool a3)] V Q from by kernel_rfl) h)
/-- potsherd/dir.apart -/
def f118_n (a0_0 : Sl) (V : View) (Q : Value → View → Prop) : Prop :=
    ∀ (b : Nat), newB V (Obj.map (Array.mk []) (0 : Nat)) fun (r : Nat) (V : View) => loopP [K.int IntKind.i64] (fun (x : Int) (V : View) (J : CurP [K.int IntKind.i64]) => br (decide (x < (↑(Sl.n a0_0) : Int))) ((0 : Int) ≤ x ∧ x < (↑(Sl.n a0_0) : Int) ∧ ∃ (ad : Addr), Sl.a a0_0 = some ad ∧ ∃ (x_1 : Int), ∃ (x_2 : Int), ∃ (x_3 : Int), ∃ (x_4 : Sl), ∃ (x_5 : Sl), cellsAt V (Addr.add ad (Int.toNat x * (5 : Nat))) [Value.int IntKind.i64 x_1, Value.int IntKind.i64 x_2, Value.int IntKind.i64 x_3, Value.slice (Sl.a x_4) (Sl.n x_4) (Sl.c x_4), Value.slice (Sl.a x_5) (Sl.n x_5) (Sl.c x_5)] ∧ ∀ (b : Nat), loopP [K.int IntKind.i64] (fun (x_6 : Int) (V : View) (J_1 : CurP [K.int IntKind.i64]) => br (decide (x_6 < (↑(Sl.n x_4) : Int))) ((0 : Int) ≤ x_6 ∧ x_6 < (↑(Sl.n x_4) : Int) ∧ ∃ (ad : Addr), Sl.a x_4 = some ad ∧ ∃ (x : Int), View.cell? V (Addr.add ad (Int.toNat x_6 * (1 : Nat))) = some (Value.int IntKind.i64 x) ∧ True ∧ mapG V (some r) (Value.int IntKind.i64 x) fun (f : Option (Nat × Value)) => ∃ (x_7 : Int), found (Value.int IntKind.i64 (0 : Int)) f = Value.int IntKind.i64 x_7 ∧ inI IntKind.i64 (x_7 + (1 : Int)) ∧ True ∧ mapW V (some r) (Value.int IntKind.i64 x) fun (r_1 : Nat) (es : Array MapEntry) (cl : Nat) (f : Option (Nat × Value)) => joinP [K.bool] (fun (J : CurP [K.bool]) => br (!decide (x = (0 : Int))) (True ∧ mapG (View.put V r_1 (mput es cl f (Value.int IntKind.i64 x) (Value.int IntKind.i64 (x_7 + (1 : Int))))) (some r) (Value.int IntKind.i64 x) fun (f_1 : Option (Nat × Value)) => ∃ (x_8 : Int), found (Value.int IntKind.i64 (0 : Int)) f_1 = Value.int IntKind.i64 x_8 ∧ J (decide ((1 : Int) < x_8)) (View.put V r_1 (mput es cl f (Value.int IntKind.i64 x) (Value.int IntKind.i64 (x_7 + (1 : Int)))))) (J false (View.put V r_1 (mput es cl f (Value.int IntKind.i64 x) (Value.int IntKind.i64 (x_7 + (1 : Int))))))) fun (x : Bool) (V : View) => br x (Q (Value.bool false) V) (inI IntKind.i64 (x_6 + (1 : Int)) ∧ J_1 (x_6 + (1 : Int)) V)) (inI IntKind.i64 (x + (1 : Int)) ∧ J (x + (1 : Int)) V)) ((0 : Int), ()) V) (Q (Value.bool true) V)) ((0 : Int), ()) V
def f118_ac : AC := (.seq (.reg ⟨.done, false, [], [], none⟩) (.seq (.reg ⟨.done, false, [], [], none⟩) (.seq (.seq (.reg ⟨.done, false, [], [], none⟩) (.block none (.loop ⟨[5, 7, 13, 14, 15, 16, 17, 18, 19, 20, 21, 22, 23, 24, 25, 26, 27, 28, 29, 30, 31, 32, 33, 34, 35, 36], [(12, .int .i64)], []⟩ (.seq (.reg ⟨.done, false, [], [], none⟩) (.seq (.cond none .leaf .leaf) (.seq (.block none (.seq (.reg ⟨.done, false, [], [], none⟩) (.seq (.reg ⟨.done, false, [], [], none⟩) (.block none (.loop ⟨[7, 20, 21, 22, 23, 24, 25, 26, 27, 28, 29, 30, 31, 32, 33, 34, 35], [(19, .int .i64)], []⟩ (.seq (.reg ⟨.done, false, [], [], none⟩) (.seq (.cond none .leaf .leaf) (.seq (.block none (.seq (.reg ⟨.done, false, [], [], none⟩) (.seq (.reg ⟨.done, false, [], [], none⟩) (.seq (.reg ⟨.done, false, [], [], (some ⟨[27, 28, 29, 30, 31, 32, 33], [(34, .bool)], []⟩)⟩) (.cond none (.seq (.reg ⟨.done, false, [], [], none⟩) .leaf) .leaf))))) (.reg ⟨.done, false, [], [], none⟩))))))))) (.reg ⟨.done, false, [], [], none⟩))))))) (.seq (.reg ⟨.done, false, [], [], none⟩) .leaf))))
theorem f118_x {a0_0 : Sl} {V : View} {Q : Value → View → Prop} (h : f118_n a0_0 V Q) : CallV Tryz.prog 118 ⟨[(.agg ⟨[(.slice a0_0.a a0_0.n a0_0.c)]⟩)]⟩ V Q :=
  XF_sound (wr := false) Tryz.checked.mixed (enters_of (fn := Tryz.f118) (by kernel_rfl) (by kernel_rfl) (by kernel_rfl)) (fn := Tryz.f118) (by kernel_rfl) (ac := f118_ac)
    (Eq.mp (show f118_n a0_0 V Q = XF Tryz.prog false Tryz.f118 (f118_ac) [(.agg ⟨[(.slice a0_0.a a0_0.n a0_0.c)]⟩)] V Q from by kernel_rfl) h)
/-- slices.Clone[[]potsherd/api.Entry,potsherd/api.Entry] -/
def f119_n (a0 : Sl) (V : View) (Q : Value → View → Prop) : Prop :=
    br (Option.isNone (Sl.a a0)) (Q (Value.slice none (0 : Nat) (0 : Nat)) V) (newB V (Obj.cells (Array.mk []) (85 : Nat)) fun (r : Nat) (V : View) => apV V (85 : Nat) (2 : Nat) (24 : Nat) [Value.string (ByteArray.mk #[]), Value.int IntKind.i64 (0 : Int)] (Sl.mk (some (Addr.mk r (0 : Nat) none)) (0 : Nat) (0 : Nat)) (Value.slice (Sl.a a0) (Sl.n a0) (Sl.c a0)) fun (s : Sl) (V : View) => Q (Value.slice (Sl.a s) (Sl.n s) (Sl.c s)) V)
def f119_ac : AC := (.seq (.reg ⟨.done, false, [], [], none⟩) (.seq (.seq (.reg ⟨.done, false, [], [], none⟩) (.cond none (.seq (.reg ⟨.done, false, [], [], none⟩) .leaf) .leaf)) (.seq (.reg ⟨.done, false, [], [], none⟩) .leaf)))
theorem f119_x {a0 : Sl} {V : View} {Q : Value → View → Prop} (h : f119_n a0 V Q) : CallV Tryz.prog 119 ⟨[(.slice a0.a a0.n a0.c)]⟩ V Q :=
  XF_sound (wr := false) Tryz.checked.mixed (enters_of (fn := Tryz.f119) (by kernel_rfl) (by kernel_rfl) (by kernel_rfl)) (fn := Tryz.f119) (by kernel_rfl) (ac := f119_ac)
    (Eq.mp (show f119_n a0 V Q = XF Tryz.prog false Tryz.f119 (f119_ac) [(.slice a0.a a0.n a0.c)] V Q from by kernel_rfl) h)
/-- slices.Equal[[]int,int] -/
def f120_n (a0 : Sl) (a1 : Sl) (V : View) (Q : Value → View → Prop) : Prop :=
    br (!decide ((↑(Sl.n a0) : Int) = (↑(Sl.n a1) : Int))) (Q (Value.bool false) V) (loopP [K.int IntKind.i64] (fun (x : Int) (V : View) (J : CurP [K.int IntKind.i64]) => br (decide (x < (↑(Sl.n a0) : Int))) (True ∧ ∃ (S : View), View.Le S V ∧ (0 : Int) ≤ x ∧ x < (↑(Sl.n a0) : Int) ∧ ∃ (ad : Addr), Sl.a a0 = some ad ∧ ∃ (x_1 : Int), View.cell? S (Addr.add ad (Int.toNat x * (1 : Nat))) = some (Value.int IntKind.i64 x_1) ∧ (0 : Int) ≤ x ∧ x < (↑(Sl.n a1) : Int) ∧ ∃ (ad : Addr), Sl.a a1 = some ad ∧ ∃ (x_2 : Int), View.cell? S (Addr.add ad (Int.toNat x * (1 : Nat))) = some (Value.int IntKind.i64 x_2) ∧ br (!decide (x_1 = x_2)) (Q (Value.bool false) V) (inI IntKind.i64 (x + (1 : Int)) ∧ J (x + (1 : Int)) V)) (Q (Value.bool true) V)) ((0 : Int), ()) V)
def f120_ac : AC := (.seq (.reg ⟨.done, false, [], [], none⟩) (.seq (.seq (.reg ⟨.done, false, [], [], none⟩) (.cond none (.seq (.reg ⟨.done, false, [], [], none⟩) .leaf) .leaf)) (.seq (.seq (.reg ⟨.done, false, [], [], none⟩) (.block none (.loop ⟨[5, 14, 15, 16, 17, 18, 19, 20, 21, 22, 23, 24, 25], [(13, .int .i64)], []⟩ (.seq (.reg ⟨.done, false, [], [], none⟩) (.seq (.cond none .leaf .leaf) (.seq (.block none (.seq (.reg ⟨.done, false, [], [], none⟩) (.seq (.reg ⟨(.fl 0 (.fl 1 (.fl 2 (.fl 3 (.fl 4 (.fl 5 (.fl 6 (.fl 7 (.fl 8 .done))))))))), true, [], [], none⟩) (.cond none (.seq (.reg ⟨.done, false, [], [], none⟩) .leaf) .leaf)))) (.reg ⟨.done, false, [], [], none⟩))))))) (.seq (.reg ⟨.done, false, [], [], none⟩) .leaf))))
theorem f120_x {a0 : Sl} {a1 : Sl} {V : View} {Q : Value → View → Prop} (h : f120_n a0 a1 V Q) : CallV Tryz.prog 120 ⟨[(.slice a0.a a0.n a0.c), (.slice a1.a a1.n a1.c)]⟩ V Q :=
  XF_sound (wr := false) Tryz.checked.mixed (enters_of (fn := Tryz.f120) (by kernel_rfl) (by kernel_rfl) (by kernel_rfl)) (fn := Tryz.f120) (by kernel_rfl) (ac := f120_ac)
    (Eq.mp (show f120_n a0 a1 V Q = XF Tryz.prog false Tryz.f120 (f120_ac) [(.slice a0.a a0.n a0.c), (.slice a1.a a1.n a1.c)] V Q from by kernel_rfl) h)
/-- slices.Equal[[]potsherd/api.Entry,potsherd/api.Entry] -/
def f121_n (a0 : Sl) (a1 : Sl) (V : View) (Q : Value → View → Prop) : Prop :=
    br (!decide ((↑(Sl.n a0) : Int) = (↑(Sl.n a1) : Int))) (Q (Value.bool false) V) (loopP [K.int IntKind.i64] (fun (x : Int) (V : View) (J : CurP [K.int IntKind.i64]) => br (decide (x < (↑(Sl.n a0) : Int))) (True ∧ ∃ (S : View), View.Le S V ∧ (0 : Int) ≤ x ∧ x < (↑(Sl.n a0) : Int) ∧ ∃ (ad : Addr), Sl.a a0 = some ad ∧ ∃ (x_1 : ByteArray), ∃ (x_2 : Int), cellsAt S (Addr.add ad (Int.toNat x * (2 : Nat))) [Value.string x_1, Value.int IntKind.i64 x_2] ∧ (0 : Int) ≤ x ∧ x < (↑(Sl.n a1) : Int) ∧ ∃ (ad : Addr), Sl.a a1 = some ad ∧ ∃ (x_3 : ByteArray), ∃ (x_4 : Int), cellsAt S (Addr.add ad (Int.toNat x * (2 : Nat))) [Value.string x_3, Value.int IntKind.i64 x_4] ∧ True ∧ br (!(decide (x_1 = x_3) && (decide (x_2 = x_4) && true))) (Q (Value.bool false) V) (inI IntKind.i64 (x + (1 : Int)) ∧ J (x + (1 : Int)) V)) (Q (Value.bool true) V)) ((0 : Int), ()) V)
def f121_ac : AC := (.seq (.reg ⟨.done, false, [], [], none⟩) (.seq (.seq (.reg ⟨.done, false, [], [], none⟩) (.cond none (.seq (.reg ⟨.done, false, [], [], none⟩) .leaf) .leaf)) (.seq (.seq (.reg ⟨.done, false, [], [], none⟩) (.block none (.loop ⟨[5, 14, 15, 16, 17, 18, 19, 20, 21, 22, 23, 24, 25], [(13, .int .i64)], []⟩ (.seq (.reg ⟨.done, false, [], [], none⟩) (.seq (.cond none .leaf .leaf) (.seq (.block none (.seq (.reg ⟨.done, false, [], [], none⟩) (.seq (.reg ⟨(.fl 0 (.fl 1 (.fl 2 (.fl 3 (.fl 4 (.fl 5 (.fl 6 (.fl 7 (.fl 8 .done))))))))), true, [], [], none⟩) (.cond none (.seq (.reg ⟨.done, false, [], [], none⟩) .leaf) .leaf)))) (.reg ⟨.done, false, [], [], none⟩))))))) (.seq (.reg ⟨.done, false, [], [], none⟩) .leaf))))
theorem f121_x {a0 : Sl} {a1 : Sl} {V : View} {Q : Value → View → Prop} (h : f121_n a0 a1 V Q) : CallV Tryz.prog 121 ⟨[(.slice a0.a a0.n a0.c), (.slice a1.a a1.n a1.c)]⟩ V Q :=
  XF_sound (wr := false) Tryz.checked.mixed (enters_of (fn := Tryz.f121) (by kernel_rfl) (by kernel_rfl) (by kernel_rfl)) (fn := Tryz.f121) (by kernel_rfl) (ac := f121_ac)
    (Eq.mp (show f121_n a0 a1 V Q = XF Tryz.prog false Tryz.f121 (f121_ac) [(.slice a0.a a0.n a0.c), (.slice a1.a a1.n a1.c)] V Q from by kernel_rfl) h)
/-- math/bits.Mul64 -/
def f141_n (a0 : Int) (a1 : Int) (V : View) (Q : Value → View → Prop) : Prop :=
    (0 : Int) ≤ (32 : Int) ∧ (0 : Int) ≤ (32 : Int) ∧ (0 : Int) ≤ (32 : Int) ∧ (0 : Int) ≤ (32 : Int) ∧ (0 : Int) ≤ (32 : Int) ∧ Q (Value.tuple (Array.mk [Value.int IntKind.u64 (IntKind.wrap IntKind.u64 (IntKind.wrap IntKind.u64 (IntKind.wrap IntKind.u64 (Int.fdiv a0 ((2 : Int) ^ min (Int.toNat (32 : Int)) (IntKind.bits IntKind.u64)) * Int.fdiv a1 ((2 : Int) ^ min (Int.toNat (32 : Int)) (IntKind.bits IntKind.u64))) + Int.fdiv (IntKind.wrap IntKind.u64 (IntKind.wrap IntKind.u64 (Int.fdiv a0 ((2 : Int) ^ min (Int.toNat (32 : Int)) (IntKind.bits IntKind.u64)) * bitsI BinOp.and IntKind.u64 a1 (4294967295 : Int)) + Int.fdiv (IntKind.wrap IntKind.u64 (bitsI BinOp.and IntKind.u64 a0 (4294967295 : Int) * bitsI BinOp.and IntKind.u64 a1 (4294967295 : Int))) ((2 : Int) ^ min (Int.toNat (32 : Int)) (IntKind.bits IntKind.u64)))) ((2 : Int) ^ min (Int.toNat (32 : Int)) (IntKind.bits IntKind.u64))) + Int.fdiv (IntKind.wrap IntKind.u64 (bitsI BinOp.and IntKind.u64 (IntKind.wrap IntKind.u64 (IntKind.wrap IntKind.u64 (Int.fdiv a0 ((2 : Int) ^ min (Int.toNat (32 : Int)) (IntKind.bits IntKind.u64)) * bitsI BinOp.and IntKind.u64 a1 (4294967295 : Int)) + Int.fdiv (IntKind.wrap IntKind.u64 (bitsI BinOp.and IntKind.u64 a0 (4294967295 : Int) * bitsI BinOp.and IntKind.u64 a1 (4294967295 : Int))) ((2 : Int) ^ min (Int.toNat (32 : Int)) (IntKind.bits IntKind.u64)))) (4294967295 : Int) + IntKind.wrap IntKind.u64 (bitsI BinOp.and IntKind.u64 a0 (4294967295 : Int) * Int.fdiv a1 ((2 : Int) ^ min (Int.toNat (32 : Int)) (IntKind.bits IntKind.u64))))) ((2 : Int) ^ min (Int.toNat (32 : Int)) (IntKind.bits IntKind.u64)))), Value.int IntKind.u64 (IntKind.wrap IntKind.u64 (a0 * a1))])) V
def f141_ac : AC := (.seq (.reg ⟨.done, false, [], [], none⟩) (.seq (.reg ⟨.done, false, [], [], none⟩) (.seq (.reg ⟨.done, false, [], [], none⟩) (.seq (.reg ⟨.done, false, [], [], none⟩) (.seq (.reg ⟨.done, false, [], [], none⟩) (.seq (.reg ⟨.done, false, [], [], none⟩) (.seq (.reg ⟨.done, false, [], [], none⟩) (.seq (.reg ⟨.done, false, [], [], none⟩) (.seq (.reg ⟨.done, false, [], [], none⟩) (.seq (.reg ⟨.done, false, [], [], none⟩) (.seq (.reg ⟨.done, false, [], [], none⟩) (.seq (.reg ⟨.done, false, [], [], none⟩) .leaf))))))))))))
theorem f141_x {a0 : Int} {a1 : Int} {V : View} {Q : Value → View → Prop} (h : f141_n a0 a1 V Q) : CallV Tryz.prog 141 ⟨[(.int .u64 a0), (.int .u64 a1)]⟩ V Q :=
  XF_sound (wr := false) Tryz.checked.mixed (enters_of (fn := Tryz.f141) (by kernel_rfl) (by kernel_rfl) (by kernel_rfl)) (fn := Tryz.f141) (by kernel_rfl) (ac := f141_ac)
    (Eq.mp (show f141_n a0 a1 V Q = XF Tryz.prog false Tryz.f141 (f141_ac) [(.int .u64 a0), (.int .u64 a1)] V Q from by kernel_rfl) h)
/-- potsherd/hand.off -/
def f142_n (a0 : Sl) (V : View) (Q : Value → View → Prop) : Prop :=
    joinP [K.bool] (fun (J : CurP [K.bool]) => br (!decide ((↑(Sl.n a0) : Int) = (4 : Int))) (J true V) (CallV Tryz.prog (166 : Nat) (Array.mk [Value.slice (Sl.a a0) (Sl.n a0) (Sl.c a0), Value.func (Fn.func (167 : Nat)) (Array.mk []) (Array.mk [])]) V fun (r : Value) (V : View) => ∃ (x : Bool), r = Value.bool x ∧ J x V)) fun (x : Bool) (V : View) => Q (Value.bool x) V
def f142_ac : AC := (.seq (.reg ⟨.done, false, [], [], none⟩) (.seq (.reg ⟨.done, false, [], [], (some ⟨[3, 4, 5, 6, 7, 8, 9], [(2, .bool)], []⟩)⟩) .leaf))
theorem f142_x {a0 : Sl} {V : View} {Q : Value → View → Prop} (h : f142_n a0 V Q) : CallV Tryz.prog 142 ⟨[(.slice a0.a a0.n a0.c)]⟩ V Q :=
  XF_sound (wr := false) Tryz.checked.mixed (enters_of (fn := Tryz.f142) (by kernel_rfl) (by kernel_rfl) (by kernel_rfl)) (fn := Tryz.f142) (by kernel_rfl) (ac := f142_ac)
    (Eq.mp (show f142_n a0 V Q = XF Tryz.prog false Tryz.f142 (f142_ac) [(.slice a0.a a0.n a0.c)] V Q from by kernel_rfl) h)
/-- potsherd/tree.makes -/
def f143_n (a0_0 : Sl) (a1 : ByteArray) (a2 : Int) (V : View) (Q : Value → View → Prop) : Prop :=
    ∀ (b b : Nat), CallV Tryz.prog (147 : Nat) (Array.mk [Value.agg (Array.mk [Value.slice (Sl.a a0_0) (Sl.n a0_0) (Sl.c a0_0)]), Value.string a1]) V fun (r : Value) (V : View) => ∃ (x : Int), ∃ (x_1 : ByteArray), ∃ (x_2 : Int), ∃ (x_3 : Int), r = Value.tuple (Array.mk [Value.agg (Array.mk [Value.int IntKind.i64 x, Value.string x_1, Value.int IntKind.i64 x_2]), Value.int IntKind.i64 x_3]) ∧ ∀ (b : Nat), br (!decide (x_3 = (0 : Int))) (CallV Tryz.prog (76 : Nat) (Array.mk [Value.int IntKind.i64 x_3]) V fun (r : Value) (V : View) => ∃ (x : Sl), ∃ (x_4 : Int), r = Value.tuple (Array.mk [Value.agg (Array.mk [Value.slice (Sl.a x) (Sl.n x) (Sl.c x)]), Value.int IntKind.i64 x_4]) ∧ Q (Value.tuple (Array.mk [Value.agg (Array.mk [Value.slice (Sl.a x) (Sl.n x) (Sl.c x)]), Value.int IntKind.i64 x_4])) V) (br (decide ((0 : Int) ≤ x_2)) (CallV Tryz.prog (76 : Nat) (Array.mk [Value.int IntKind.i64 (9 : Int)]) V fun (r : Value) (V : View) => ∃ (x : Sl), ∃ (x_4 : Int), r = Value.tuple (Array.mk [Value.agg (Array.mk [Value.slice (Sl.a x) (Sl.n x) (Sl.c x)]), Value.int IntKind.i64 x_4]) ∧ Q (Value.tuple (Array.mk [Value.agg (Array.mk [Value.slice (Sl.a x) (Sl.n x) (Sl.c x)]), Value.int IntKind.i64 x_4])) V) (CallV Tryz.prog (168 : Nat) (Array.mk [Value.agg (Array.mk [Value.slice (Sl.a a0_0) (Sl.n a0_0) (Sl.c a0_0)])]) V fun (r : Value) (V : View) => ∃ (x_4 : Int), r = Value.int IntKind.i64 x_4 ∧ br (decide (x_4 < (0 : Int))) (CallV Tryz.prog (76 : Nat) (Array.mk [Value.int IntKind.i64 (14 : Int)]) V fun (r : Value) (V : View) => ∃ (x : Sl), ∃ (x_5 : Int), r = Value.tuple (Array.mk [Value.agg (Array.mk [Value.slice (Sl.a x) (Sl.n x) (Sl.c x)]), Value.int IntKind.i64 x_5]) ∧ Q (Value.tuple (Array.mk [Value.agg (Array.mk [Value.slice (Sl.a x) (Sl.n x) (Sl.c x)]), Value.int IntKind.i64 x_5])) V) (CallV Tryz.prog (38 : Nat) (Array.mk [Value.agg (Array.mk [Value.slice (Sl.a a0_0) (Sl.n a0_0) (Sl.c a0_0)])]) V fun (r : Value) (V : View) => ∃ (x_5 : Sl), r = Value.agg (Array.mk [Value.slice (Sl.a x_5) (Sl.n x_5) (Sl.c x_5)]) ∧ ∀ (b : Nat), View.see V b = none → canSet (View.put V b (Obj.cells (Array.mk [Value.slice none (0 : Nat) (0 : Nat)]) (40 : Nat))) (Addr.mk b (0 : Nat) none) (nat_lit 1) ∧ CallV Tryz.prog (150 : Nat) (Array.mk [Value.pointer (some (Addr.mk b (0 : Nat) none)), Value.agg (Array.mk [Value.int IntKind.i64 x, Value.string x_1, Value.int IntKind.i64 x_2]), Value.int IntKind.i64 x_4]) (View.sets (View.put V b (Obj.cells (Array.mk [Value.slice none (0 : Nat) (0 : Nat)]) (40 : Nat))) (Addr.mk b (0 : Nat) none) [Value.slice (Sl.a x_5) (Sl.n x_5) (Sl.c x_5)]) fun (r : Value) (V : View) => ∃ (x : Int), r = Value.int IntKind.i64 x ∧ br (!decide (x = (0 : Int))) (CallV Tryz.prog (76 : Nat) (Array.mk [Value.int IntKind.i64 x]) V fun (r : Value) (V : View) => ∃ (x : Sl), ∃ (x_6 : Int), r = Value.tuple (Array.mk [Value.agg (Array.mk [Value.slice (Sl.a x) (Sl.n x) (Sl.c x)]), Value.int IntKind.i64 x_6]) ∧ Q (Value.tuple (Array.mk [Value.agg (Array.mk [Value.slice (Sl.a x) (Sl.n x) (Sl.c x)]), Value.int IntKind.i64 x_6])) V) (True ∧ ∃ (S : View), View.Le S V ∧ ∃ (x : Sl), View.cell? S (Addr.mk b (0 : Nat) none) = some (Value.slice (Sl.a x) (Sl.n x) (Sl.c x)) ∧ CallV Tryz.prog (61 : Nat) (Array.mk [Value.int IntKind.i64 a2]) V fun (r : Value) (V : View) => ∃ (x_6 : Int), ∃ (x_7 : Int), ∃ (x_8 : Int), ∃ (x_9 : Sl), ∃ (x_10 : Sl), r = Value.agg (Array.mk [Value.int IntKind.i64 x_6, Value.int IntKind.i64 x_7, Value.int IntKind.i64 x_8, Value.slice (Sl.a x_9) (Sl.n x_9) (Sl.c x_9), Value.slice (Sl.a x_10) (Sl.n x_10) (Sl.c x_10)]) ∧ View.Le S V ∧ (0 : Int) ≤ x_4 ∧ x_4 < (↑(Sl.n x) : Int) ∧ ∃ (ad : Addr), Sl.a x = some ad ∧ canSet V (Addr.add ad (Int.toNat x_4 * (5 : Nat))) (Nat.succ (Nat.succ (Nat.succ (Nat.succ (nat_lit 1))))) ∧ ∃ (x : Sl), cellsAt (View.sets V (Addr.add ad (Int.toNat x_4 * (5 : Nat))) [Value.int IntKind.i64 x_6, Value.int IntKind.i64 x_7, Value.int IntKind.i64 x_8, Value.slice (Sl.a x_9) (Sl.n x_9) (Sl.c x_9), Value.slice (Sl.a x_10) (Sl.n x_10) (Sl.c x_10)]) (Addr.mk b (0 : Nat) none) [Value.slice (Sl.a x) (Sl.n x) (Sl.c x)] ∧ Q (Value.tuple (Array.mk [Value.agg (Array.mk [Value.slice (Sl.a x) (Sl.n x) (Sl.c x)]), Value.int IntKind.i64 (0 : Int)])) (View.sets V (Addr.add ad (Int.toNat x_4 * (5 : Nat))) [Value.int IntKind.i64 x_6, Value.int IntKind.i64 x_7, Value.int IntKind.i64 x_8, Value.slice (Sl.a x_9) (Sl.n x_9) (Sl.c x_9), Value.slice (Sl.a x_10) (Sl.n x_10) (Sl.c x_10)])))))
def f143_ac : AC := (.seq (.reg ⟨.done, false, [], [], none⟩) (.seq (.reg ⟨.done, false, [], [], none⟩) (.seq (.seq (.reg ⟨.done, false, [], [], none⟩) (.cond none (.seq (.reg ⟨.done, false, [], [], none⟩) .leaf) .leaf)) (.seq (.seq (.reg ⟨.done, false, [], [], none⟩) (.cond none (.seq (.reg ⟨.done, false, [], [], none⟩) .leaf) .leaf)) (.seq (.reg ⟨.done, false, [], [], none⟩) (.seq (.seq (.reg ⟨.done, false, [], [], none⟩) (.cond none (.seq (.reg ⟨.done, false, [], [], none⟩) .leaf) .leaf)) (.seq (.reg ⟨.done, false, [(3, 3)], [], none⟩) (.seq (.seq (.reg ⟨.done, false, [], [], none⟩) (.seq (.reg ⟨.done, false, [], [], none⟩) (.cond none (.seq (.reg ⟨.done, false, [], [], none⟩) .leaf) .leaf))) (.seq (.reg ⟨(.fl 0 (.fl 1 (.fl 2 (.fl 3 (.alt 4 true false (.fl 5 (.alt 6 false false .done .no)) .no))))), true, [], [], none⟩) (.seq (.reg ⟨.done, false, [], [], none⟩) .leaf))))))))))
theorem f143_x {a0_0 : Sl} {a1 : ByteArray} {a2 : Int} {V : View} {Q : Value → View → Prop} (h : f143_n a0_0 a1 a2 V Q) : CallV Tryz.prog 143 ⟨[(.agg ⟨[(.slice a0_0.a a0_0.n a0_0.c)]⟩), (.string a1), (.int .i64 a2)]⟩ V Q :=
  XF_sound (wr := false) Tryz.checked.mixed (enters_of (fn := Tryz.f143) (by kernel_rfl) (by kernel_rfl) (by kernel_rfl)) (fn := Tryz.f143) (by kernel_rfl) (ac := f143_ac)
    (Eq.mp (show f143_n a0_0 a1 a2 V Q = XF Tryz.prog false Tryz.f143 (f143_ac) [(.agg ⟨[(.slice a0_0.a a0_0.n a0_0.c)]⟩), (.string a1), (.int .i64 a2)] V Q from by kernel_rfl) h)
/-- potsherd/tree.there -/
def f144_n (a0_0 : Sl) (a1 : ByteArray) (V : View) (Q : Value → View → Prop) : Prop :=
    ∀ (b b : Nat), CallV Tryz.prog (147 : Nat) (Array.mk [Value.agg (Array.mk [Value.slice (Sl.a a0_0) (Sl.n a0_0) (Sl.c a0_0)]), Value.string a1]) V fun (r : Value) (V : View) => ∃ (x : Int), ∃ (x_1 : ByteArray), ∃ (x_2 : Int), ∃ (x_3 : Int), r = Value.tuple (Array.mk [Value.agg (Array.mk [Value.int IntKind.i64 x, Value.string x_1, Value.int IntKind.i64 x_2]), Value.int IntKind.i64 x_3]) ∧ ∀ (b : Nat), joinP [K.int IntKind.i64] (fun (J : CurP [K.int IntKind.i64]) => br (bif decide (x_3 = (0 : Int)) then decide (x_2 < (0 : Int)) else false) (J (8 : Int) V) (J x_3 V)) fun (x_4 : Int) (V : View) => Q (Value.tuple (Array.mk [Value.agg (Array.mk [Value.int IntKind.i64 x, Value.string x_1, Value.int IntKind.i64 x_2]), Value.int IntKind.i64 x_4])) V
def f144_ac : AC := (.seq (.reg ⟨.done, false, [], [], none⟩) (.seq (.reg ⟨.done, false, [], [], none⟩) (.seq (.seq (.reg ⟨.done, false, [], [], none⟩) (.cond (some ⟨[], [(7, .int .i64)], []⟩) (.reg ⟨.done, false, [], [], none⟩) .leaf)) (.seq (.reg ⟨.done, false, [], [], none⟩) .leaf))))
theorem f144_x {a0_0 : Sl} {a1 : ByteArray} {V : View} {Q : Value → View → Prop} (h : f144_n a0_0 a1 V Q) : CallV Tryz.prog 144 ⟨[(.agg ⟨[(.slice a0_0.a a0_0.n a0_0.c)]⟩), (.string a1)]⟩ V Q :=
  XF_sound (wr := false) Tryz.checked.mixed (enters_of (fn := Tryz.f144) (by kernel_rfl) (by kernel_rfl) (by kernel_rfl)) (fn := Tryz.f144) (by kernel_rfl) (ac := f144_ac)
    (Eq.mp (show f144_n a0_0 a1 V Q = XF Tryz.prog false Tryz.f144 (f144_ac) [(.agg ⟨[(.slice a0_0.a a0_0.n a0_0.c)]⟩), (.string a1)] V Q from by kernel_rfl) h)
/-- potsherd/tree.leaves -/
def f145_n (a0 : Option Addr) (a1_0 : Int) (a1_1 : ByteArray) (a1_2 : Int) (V : View) (Q : Value → View → Prop) : Prop :=
    ∀ (b : Nat), True ∧ ∃ (S : View), View.Le S V ∧ ∃ (a : Addr), a0 = some a ∧ ∃ (x : Sl), View.cell? S (Addr.add a (0 : Nat)) = some (Value.slice (Sl.a x) (Sl.n x) (Sl.c x)) ∧ ∃ (a : Addr), a0 = some a ∧ ∃ (x_1 : Sl), View.cell? S (Addr.add a (0 : Nat)) = some (Value.slice (Sl.a x_1) (Sl.n x_1) (Sl.c x_1)) ∧ (0 : Int) ≤ a1_0 ∧ a1_0 < (↑(Sl.n x_1) : Int) ∧ ∃ (ad : Addr), Sl.a x_1 = some ad ∧ ∃ (x_2 : Sl), View.cell? S (Addr.add (Addr.add ad (Int.toNat a1_0 * (5 : Nat))) (4 : Nat)) = some (Value.slice (Sl.a x_2) (Sl.n x_2) (Sl.c x_2)) ∧ CallV Tryz.prog (169 : Nat) (Array.mk [Value.slice (Sl.a x_2) (Sl.n x_2) (Sl.c x_2), Value.string a1_1]) V fun (r : Value) (V : View) => ∃ (x_3 : Sl), ∃ (x_4 : Int), r = Value.tuple (Array.mk [Value.slice (Sl.a x_3) (Sl.n x_3) (Sl.c x_3), Value.int IntKind.i64 x_4]) ∧ View.Le S V ∧ (0 : Int) ≤ a1_0 ∧ a1_0 < (↑(Sl.n x) : Int) ∧ ∃ (ad : Addr), Sl.a x = some ad ∧ canSet V (Addr.add (Addr.add ad (Int.toNat a1_0 * (5 : Nat))) (4 : Nat)) (nat_lit 1) ∧ Q (Value.tuple (Array.mk [])) (View.sets V (Addr.add (Addr.add ad (Int.toNat a1_0 * (5 : Nat))) (4 : Nat)) [Value.slice (Sl.a x_3) (Sl.n x_3) (Sl.c x_3)])
def f145_ac : AC := (.seq (.reg ⟨.done, false, [], [], none⟩) (.reg ⟨(.fl 0 (.fl 1 (.fl 2 (.fl 3 (.fl 4 (.fl 5 (.fl 6 (.fl 7 (.fl 8 (.fl 9 (.fl 10 (.fl 11 (.fl 12 (.fl 13 (.fl 14 (.fl 15 (.fl 16 (.alt 17 true false (.fl 18 (.fl 19 (.fl 20 (.fl 21 (.fl 22 (.alt 23 false false .done .no)))))) .no)))))))))))))))))), true, [], [], none⟩))
theorem f145_x {a0 : Option Addr} {a1_0 : Int} {a1_1 : ByteArray} {a1_2 : Int} {V : View} {Q : Value → View → Prop} (h : f145_n a0 a1_0 a1_1 a1_2 V Q) : CallV Tryz.prog 145 ⟨[(.pointer a0), (.agg ⟨[(.int .i64 a1_0), (.string a1_1), (.int .i64 a1_2)]⟩)]⟩ V Q :=
  XF_sound (wr := false) Tryz.checked.mixed (enters_of (fn := Tryz.f145) (by kernel_rfl) (by kernel_rfl) (by kernel_rfl)) (fn := Tryz.f145) (by kernel_rfl) (ac := f145_ac)
    (Eq.mp (show f145_n a0 a1_0 a1_1 a1_2 V Q = XF Tryz.prog false Tryz.f145 (f145_ac) [(.pointer a0), (.agg ⟨[(.int .i64 a1_0), (.string a1_1), (.int .i64 a1_2)]⟩)] V Q from by kernel_rfl) h)
/-- potsherd/tree.less -/
def f146_n (a0 : Option Addr) (a1 : Int) (a2 : Sl) (V : View) (Q : Value → View → Prop) : Prop :=
    ∃ (a : Addr), a0 = some a ∧ ∃ (x : Sl), View.cell? V (Addr.add a (0 : Nat)) = some (Value.slice (Sl.a x) (Sl.n x) (Sl.c x)) ∧ (0 : Int) ≤ a1 ∧ a1 < (↑(Sl.n x) : Int) ∧ ∃ (ad : Addr), Sl.a x = some ad ∧ ∃ (a : Addr), some (Addr.add ad (Int.toNat a1 * (5 : Nat))) = some a ∧ ∃ (x : Int), View.cell? V (Addr.add a (0 : Nat)) = some (Value.int IntKind.i64 x) ∧ joinP [] (fun (J : CurP []) => br (decide (x = (1 : Int))) (∃ (a : Addr), some (Addr.add ad (Int.toNat a1 * (5 : Nat))) = some a ∧ ∃ (x : Int), View.cell? V (Addr.add a (1 : Nat)) = some (Value.int IntKind.i64 x) ∧ inI IntKind.i64 (x - (1 : Int)) ∧ ∃ (a : Addr), some (Addr.add ad (Int.toNat a1 * (5 : Nat))) = some a ∧ canSet V (Addr.add a (1 : Nat)) (nat_lit 1) ∧ joinP [K.bool] (fun (J : CurP [K.bool]) => ∃ (a_1 : Addr), some (Addr.add ad (Int.toNat a1 * (5 : Nat))) = some a_1 ∧ ∃ (x_1 : Int), View.cell? (View.sets V (Addr.add a (1 : Nat)) [Value.int IntKind.i64 (x - (1 : Int))]) (Addr.add a_1 (1 : Nat)) = some (Value.int IntKind.i64 x_1) ∧ br (decide ((0 : Int) < x_1)) (J true (View.sets V (Addr.add a (1 : Nat)) [Value.int IntKind.i64 (x - (1 : Int))])) (br (decide (a1 < (↑(Sl.n a2) : Int))) ((0 : Int) ≤ a1 ∧ a1 < (↑(Sl.n a2) : Int) ∧ ∃ (ad : Addr), Sl.a a2 = some ad ∧ ∃ (x_2 : Bool), View.cell? (View.sets V (Addr.add a (1 : Nat)) [Value.int IntKind.i64 (x - (1 : Int))]) (Addr.add ad (Int.toNat a1 * (1 : Nat))) = some (Value.bool x_2) ∧ J x_2 (View.sets V (Addr.add a (1 : Nat)) [Value.int IntKind.i64 (x - (1 : Int))])) (J false (View.sets V (Addr.add a (1 : Nat)) [Value.int IntKind.i64 (x - (1 : Int))])))) fun (x : Bool) (V : View) => br x (Q (Value.tuple (Array.mk [])) V) (J V)) (J V)) fun (V : View) => ∃ (a : Addr), some (Addr.add ad (Int.toNat a1 * (5 : Nat))) = some a ∧ canSet V a (5 : Nat) ∧ Q (Value.tuple (Array.mk [])) (View.sets V a [Value.int IntKind.i64 (0 : Int), Value.int IntKind.i64 (0 : Int), Value.int IntKind.i64 (0 : Int), Value.slice none (0 : Nat) (0 : Nat), Value.slice none (0 : Nat) (0 : Nat)])
def f146_ac : AC := (.seq (.reg ⟨.done, false, [], [], none⟩) (.seq (.seq (.reg ⟨.done, false, [], [], none⟩) (.cond (some ⟨[18, 19, 20, 21, 22, 23, 24, 25, 26, 27, 28, 29, 30, 31, 32, 33, 34, 35, 36, 37, 38, 39, 40, 41], [], []⟩) (.seq (.reg ⟨.done, false, [], [], none⟩) (.seq (.reg ⟨.done, false, [], [], (some ⟨[25, 26, 27, 28, 29, 30, 31, 32, 33, 34, 35, 36, 37, 38, 39, 40], [(41, .bool)], []⟩)⟩) (.cond none .leaf .leaf))) .leaf)) (.reg ⟨.done, false, [], [], none⟩)))
theorem f146_x {a0 : Option Addr} {a1 : Int} {a2 : Sl} {V : View} {Q : Value → View → Prop} (h : f146_n a0 a1 a2 V Q) : CallV Tryz.prog 146 ⟨[(.pointer a0), (.int .i64 a1), (.slice a2.a a2.n a2.c)]⟩ V Q :=
  XF_sound (wr := false) Tryz.checked.mixed (enters_of (fn := Tryz.f146) (by kernel_rfl) (by kernel_rfl) (by kernel_rfl)) (fn := Tryz.f146) (by kernel_rfl) (ac := f146_ac)
    (Eq.mp (show f146_n a0 a1 a2 V Q = XF Tryz.prog false Tryz.f146 (f146_ac) [(.pointer a0), (.int .i64 a1), (.slice a2.a a2.n a2.c)] V Q from by kernel_rfl) h)
/-- potsherd/tree.at -/
def f147_n (a0_0 : Sl) (a1 : ByteArray) (V : View) (Q : Value → View → Prop) : Prop :=
    ∀ (b b : Nat), CallV Tryz.prog (170 : Nat) (Array.mk [Value.agg (Array.mk [Value.slice (Sl.a a0_0) (Sl.n a0_0) (Sl.c a0_0)]), Value.string a1]) V fun (r : Value) (V : View) => ∃ (x : Int), ∃ (x_1 : ByteArray), ∃ (x_2 : Int), r = Value.tuple (Array.mk [Value.int IntKind.i64 x, Value.string x_1, Value.int IntKind.i64 x_2]) ∧ br (!decide (x_2 = (0 : Int))) (Q (Value.tuple (Array.mk [Value.agg (Array.mk [Value.int IntKind.i64 (0 : Int), Value.string (ByteArray.mk #[]), Value.int IntKind.i64 (0 : Int)]), Value.int IntKind.i64 x_2])) V) ((0 : Int) ≤ x ∧ x < (↑(Sl.n a0_0) : Int) ∧ ∃ (ad : Addr), Sl.a a0_0 = some ad ∧ ∃ (x_3 : Sl), View.cell? V (Addr.add (Addr.add ad (Int.toNat x * (5 : Nat))) (4 : Nat)) = some (Value.slice (Sl.a x_3) (Sl.n x_3) (Sl.c x_3)) ∧ CallV Tryz.prog (171 : Nat) (Array.mk [Value.slice (Sl.a x_3) (Sl.n x_3) (Sl.c x_3), Value.string x_1]) V fun (r : Value) (V : View) => ∃ (x_4 : Int), r = Value.int IntKind.i64 x_4 ∧ Q (Value.tuple (Array.mk [Value.agg (Array.mk [Value.int IntKind.i64 x, Value.string x_1, Value.int IntKind.i64 x_4]), Value.int IntKind.i64 (0 : Int)])) V)
def f147_ac : AC := (.seq (.reg ⟨.done, false, [], [], none⟩) (.seq (.reg ⟨.done, false, [], [], none⟩) (.seq (.seq (.reg ⟨.done, false, [], [], none⟩) (.cond none (.seq (.reg ⟨.done, false, [], [], none⟩) .leaf) .leaf)) (.seq (.reg ⟨.done, false, [], [], none⟩) .leaf))))
theorem f147_x {a0_0 : Sl} {a1 : ByteArray} {V : View} {Q : Value → View → Prop} (h : f147_n a0_0 a1 V Q) : CallV Tryz.prog 147 ⟨[(.agg ⟨[(.slice a0_0.a a0_0.n a0_0.c)]⟩), (.string a1)]⟩ V Q :=
  XF_sound (wr := false) Tryz.checked.mixed (enters_of (fn := Tryz.f147) (by kernel_rfl) (by kernel_rfl) (by kernel_rfl)) (fn := Tryz.f147) (by kernel_rfl) (ac := f147_ac)
    (Eq.mp (show f147_n a0_0 a1 V Q = XF Tryz.prog false Tryz.f147 (f147_ac) [(.agg ⟨[(.slice a0_0.a a0_0.n a0_0.c)]⟩), (.string a1)] V Q from by kernel_rfl) h)
/-- potsherd/dir.Inside -/
def f148_n (a0_0 : Sl) (a1 : Int) (a2 : Int) (V : View) (Q : Value → View → Prop) : Prop :=
    ∀ (b : Nat), View.see V b = none → joinP [K.bool] (fun (J : CurP [K.bool]) => ∃ (x : Sl), cellsAt (View.put V b (Obj.cells (Array.mk [Value.slice (Sl.a a0_0) (Sl.n a0_0) (Sl.c a0_0)]) (40 : Nat))) (Addr.mk b (0 : Nat) none) [Value.slice (Sl.a x) (Sl.n x) (Sl.c x)] ∧ CallV Tryz.prog (69 : Nat) (Array.mk [Value.agg (Array.mk [Value.slice (Sl.a x) (Sl.n x) (Sl.c x)])]) (View.put V b (Obj.cells (Array.mk [Value.slice (Sl.a a0_0) (Sl.n a0_0) (Sl.c a0_0)]) (40 : Nat))) fun (r : Value) (V : View) => ∃ (x : Bool), r = Value.bool x ∧ br x (CallV Tryz.prog (172 : Nat) (Array.mk [Value.int IntKind.i64 a1, Value.pointer (some (Addr.mk b (0 : Nat) none))]) V fun (r : Value) (V : View) => ∃ (x : Bool), r = Value.bool x ∧ br x (CallV Tryz.prog (172 : Nat) (Array.mk [Value.int IntKind.i64 a2, Value.pointer (some (Addr.mk b (0 : Nat) none))]) V fun (r : Value) (V : View) => ∃ (x : Bool), r = Value.bool x ∧ br x (∃ (x : Sl), View.cell? V (Addr.mk b (0 : Nat) none) = some (Value.slice (Sl.a x) (Sl.n x) (Sl.c x)) ∧ (0 : Int) ≤ a1 ∧ a1 < (↑(Sl.n x) : Int) ∧ ∃ (ad : Addr), Sl.a x = some ad ∧ ∃ (x : Int), View.cell? V (Addr.add (Addr.add ad (Int.toNat a1 * (5 : Nat))) (0 : Nat)) = some (Value.int IntKind.i64 x) ∧ br (decide (x = (2 : Int))) (∃ (x : Sl), cellsAt V (Addr.mk b (0 : Nat) none) [Value.slice (Sl.a x) (Sl.n x) (Sl.c x)] ∧ CallV Tryz.prog (116 : Nat) (Array.mk [Value.agg (Array.mk [Value.slice (Sl.a x) (Sl.n x) (Sl.c x)]), Value.int IntKind.i64 a1]) V fun (r : Value) (V : View) => ∃ (x : Sl), r = Value.slice (Sl.a x) (Sl.n x) (Sl.c x) ∧ (0 : Int) ≤ a2 ∧ a2 < (↑(Sl.n x) : Int) ∧ ∃ (ad : Addr), Sl.a x = some ad ∧ ∃ (x : Bool), View.cell? V (Addr.add ad (Int.toNat a2 * (1 : Nat))) = some (Value.bool x) ∧ J x V) (J false V)) (J false V)) (J false V)) (J false V)) fun (x : Bool) (V : View) => Q (Value.bool x) V
def f148_ac : AC := (.seq (.reg ⟨.done, false, [(1, 0)], [], none⟩) (.seq (.reg ⟨.done, false, [], [], none⟩) (.seq (.reg ⟨.done, false, [], [], (some ⟨[9, 10, 11, 12, 13, 14, 15, 16, 17, 18, 19, 20, 21, 22, 23, 24, 25, 26, 27, 28, 29, 30, 31, 32, 33, 34, 35, 36, 37], [(6, .bool)], []⟩)⟩) .leaf)))
theorem f148_x {a0_0 : Sl} {a1 : Int} {a2 : Int} {V : View} {Q : Value → View → Prop} (h : f148_n a0_0 a1 a2 V Q) : CallV Tryz.prog 148 ⟨[(.agg ⟨[(.slice a0_0.a a0_0.n a0_0.c)]⟩), (.int .i64 a1), (.int .i64 a2)]⟩ V Q :=
  XF_sound (wr := false) Tryz.checked.mixed (enters_of (fn := Tryz.f148) (by kernel_rfl) (by kernel_rfl) (by kernel_rfl)) (fn := Tryz.f148) (by kernel_rfl) (ac := f148_ac)
    (Eq.mp (show f148_n a0_0 a1 a2 V Q = XF Tryz.prog false Tryz.f148 (f148_ac) [(.agg ⟨[(.slice a0_0.a a0_0.n a0_0.c)]⟩), (.int .i64 a1), (.int .i64 a2)] V Q from by kernel_rfl) h)
/-- potsherd/tree.replaces -/
def f149_n (a0_0 : Int) (a0_1 : Int) (a0_2 : Int) (a0_3 : Sl) (a0_4 : Sl) (a1_0 : Int) (a1_1 : Int) (a1_2 : Int) (a1_3 : Sl) (a1_4 : Sl) (V : View) (Q : Value → View → Prop) : Prop :=
    ∀ (b b : Nat), br (bif decide (a0_0 = (2 : Int)) then !decide (a1_0 = (2 : Int)) else false) (Q (Value.int IntKind.i64 (11 : Int)) V) (br (bif !decide (a0_0 = (2 : Int)) then decide (a1_0 = (2 : Int)) else false) (Q (Value.int IntKind.i64 (10 : Int)) V) (br (decide ((0 : Int) < (↑(Sl.n a1_4) : Int))) (Q (Value.int IntKind.i64 (12 : Int)) V) (Q (Value.int IntKind.i64 (0 : Int)) V)))
def f149_ac : AC := (.seq (.reg ⟨.done, false, [], [], none⟩) (.seq (.block none (.seq (.reg ⟨.done, false, [], [], none⟩) (.cond none (.seq (.reg ⟨.done, false, [], [], none⟩) .leaf) (.seq (.reg ⟨.done, false, [], [], none⟩) (.cond none (.seq (.reg ⟨.done, false, [], [], none⟩) .leaf) (.seq (.reg ⟨.done, false, [], [], none⟩) (.cond none (.seq (.reg ⟨.done, false, [], [], none⟩) .leaf) .leaf))))))) (.seq (.reg ⟨.done, false, [], [], none⟩) .leaf)))
theorem f149_x {a0_0 : Int} {a0_1 : Int} {a0_2 : Int} {a0_3 : Sl} {a0_4 : Sl} {a1_0 : Int} {a1_1 : Int} {a1_2 : Int} {a1_3 : Sl} {a1_4 : Sl} {V : View} {Q : Value → View → Prop} (h : f149_n a0_0 a0_1 a0_2 a0_3 a0_4 a1_0 a1_1 a1_2 a1_3 a1_4 V Q) : CallV Tryz.prog 149 ⟨[(.agg ⟨[(.int .i64 a0_0), (.int .i64 a0_1), (.int .i64 a0_2), (.slice a0_3.a a0_3.n a0_3.c), (.slice a0_4.a a0_4.n a0_4.c)]⟩), (.agg ⟨[(.int .i64 a1_0), (.int .i64 a1_1), (.int .i64 a1_2), (.slice a1_3.a a1_3.n a1_3.c), (.slice a1_4.a a1_4.n a1_4.c)]⟩)]⟩ V Q :=
  XF_sound (wr := false) Tryz.checked.mixed (enters_of (fn := Tryz.f149) (by kernel_rfl) (by kernel_rfl) (by kernel_rfl)) (fn := Tryz.f149) (by kernel_rfl) (ac := f149_ac)
    (Eq.mp (show f149_n a0_0 a0_1 a0_2 a0_3 a0_4 a1_0 a1_1 a1_2 a1_3 a1_4 V Q = XF Tryz.prog false Tryz.f149 (f149_ac) [(.agg ⟨[(.int .i64 a0_0), (.int .i64 a0_1), (.int .i64 a0_2), (.slice a0_3.a a0_3.n a0_3.c), (.slice a0_4.a a0_4.n a0_4.c)]⟩), (.agg ⟨[(.int .i64 a1_0), (.int .i64 a1_1), (.int .i64 a1_2), (.slice a1_3.a a1_3.n a1_3.c), (.slice a1_4.a a1_4.n a1_4.c)]⟩)] V Q from by kernel_rfl) h)
/-- potsherd/tree.enters -/
def f150_n (a0 : Option Addr) (a1_0 : Int) (a1_1 : ByteArray) (a1_2 : Int) (a2 : Int) (V : View) (Q : Value → View → Prop) : Prop :=
    ∀ (b : Nat), True ∧ ∃ (S : View), View.Le S V ∧ ∃ (a : Addr), a0 = some a ∧ ∃ (x : Sl), View.cell? S (Addr.add a (0 : Nat)) = some (Value.slice (Sl.a x) (Sl.n x) (Sl.c x)) ∧ (0 : Int) ≤ a1_0 ∧ a1_0 < (↑(Sl.n x) : Int) ∧ ∃ (ad : Addr), Sl.a x = some ad ∧ ∃ (x : Sl), View.cell? S (Addr.add (Addr.add ad (Int.toNat a1_0 * (5 : Nat))) (4 : Nat)) = some (Value.slice (Sl.a x) (Sl.n x) (Sl.c x)) ∧ CallV Tryz.prog (173 : Nat) (Array.mk [Value.slice (Sl.a x) (Sl.n x) (Sl.c x), Value.string a1_1, Value.int IntKind.i64 a2]) V fun (r : Value) (V : View) => ∃ (x : Sl), ∃ (x_1 : Int), r = Value.tuple (Array.mk [Value.slice (Sl.a x) (Sl.n x) (Sl.c x), Value.int IntKind.i64 x_1]) ∧ joinP [] (fun (J : CurP []) => br (decide (x_1 = (0 : Int))) (True ∧ ∃ (S : View), View.Le S V ∧ ∃ (a : Addr), a0 = some a ∧ ∃ (x_2 : Sl), View.cell? S (Addr.add a (0 : Nat)) = some (Value.slice (Sl.a x_2) (Sl.n x_2) (Sl.c x_2)) ∧ (0 : Int) ≤ a1_0 ∧ a1_0 < (↑(Sl.n x_2) : Int) ∧ ∃ (ad : Addr), Sl.a x_2 = some ad ∧ canSet V (Addr.add (Addr.add ad (Int.toNat a1_0 * (5 : Nat))) (4 : Nat)) (nat_lit 1) ∧ J (View.sets V (Addr.add (Addr.add ad (Int.toNat a1_0 * (5 : Nat))) (4 : Nat)) [Value.slice (Sl.a x) (Sl.n x) (Sl.c x)])) (J V)) fun (V : View) => Q (Value.int IntKind.i64 x_1) V
def f150_ac : AC := (.seq (.reg ⟨.done, false, [], [], none⟩) (.seq (.reg ⟨(.fl 0 (.fl 1 (.fl 2 (.fl 3 (.fl 4 (.fl 5 (.fl 6 (.fl 7 (.fl 8 (.fl 9 (.fl 10 (.fl 11 (.alt 12 false false (.fl 13 (.fl 14 (.fl 15 (.fl 16 (.fl 17 .done))))) .no))))))))))))), true, [], [], none⟩) (.seq (.seq (.reg ⟨.done, false, [], [], none⟩) (.cond (some ⟨[27, 28, 29, 30, 31, 32, 33, 34, 35], [], []⟩) (.reg ⟨(.fl 0 (.fl 1 (.fl 2 (.fl 3 (.fl 4 (.fl 5 (.fl 6 (.fl 7 (.fl 8 (.alt 9 false false .done .no)))))))))), true, [], [], none⟩) .leaf)) (.seq (.reg ⟨.done, false, [], [], none⟩) .leaf))))
theorem f150_x {a0 : Option Addr} {a1_0 : Int} {a1_1 : ByteArray} {a1_2 : Int} {a2 : Int} {V : View} {Q : Value → View → Prop} (h : f150_n a0 a1_0 a1_1 a1_2 a2 V Q) : CallV Tryz.prog 150 ⟨[(.pointer a0), (.agg ⟨[(.int .i64 a1_0), (.string a1_1), (.int .i64 a1_2)]⟩), (.int .i64 a2)]⟩ V Q :=
  XF_sound (wr := false) Tryz.checked.mixed (enters_of (fn := Tryz.f150) (by kernel_rfl) (by kernel_rfl) (by kernel_rfl)) (fn := Tryz.f150) (by kernel_rfl) (ac := f150_ac)
    (Eq.mp (show f150_n a0 a1_0 a1_1 a1_2 a2 V Q = XF Tryz.prog false Tryz.f150 (f150_ac) [(.pointer a0), (.agg ⟨[(.int .i64 a1_0), (.string a1_1), (.int .i64 a1_2)]⟩), (.int .i64 a2)] V Q from by kernel_rfl) h)
/-- potsherd/path.Split -/
def f151_n (a0 : ByteArray) (V : View) (Q : Value → View → Prop) : Prop :=
    CallV Tryz.prog (174 : Nat) (Array.mk [Value.string a0, Value.string (ByteArray.mk #[(47 : UInt8)])]) V fun (r : Value) (V : View) => ∃ (x : ByteArray), ∃ (x_1 : Bool), r = Value.tuple (Array.mk [Value.string x, Value.bool x_1]) ∧ br (bif !x_1 then true else decide ((60 : Int) < (↑(ByteArray.size a0) : Int))) (Q (Value.tuple (Array.mk [Value.slice none (0 : Nat) (0 : Nat), Value.int IntKind.i64 (7 : Int)])) V) (br (decide (x = ByteArray.mk #[])) (Q (Value.tuple (Array.mk [Value.slice none (0 : Nat) (0 : Nat), Value.int IntKind.i64 (0 : Int)])) V) (CallV Tryz.prog (175 : Nat) (Array.mk [Value.string x, Value.string (ByteArray.mk #[(47 : UInt8)])]) V fun (r : Value) (V : View) => ∃ (x : Sl), r = Value.slice (Sl.a x) (Sl.n x) (Sl.c x) ∧ CallV Tryz.prog (176 : Nat) (Array.mk [Value.slice (Sl.a x) (Sl.n x) (Sl.c x), Value.func (Fn.func (177 : Nat)) (Array.mk []) (Array.mk [])]) V fun (r : Value) (V : View) => ∃ (x_2 : Bool), r = Value.bool x_2 ∧ br x_2 (Q (Value.tuple (Array.mk [Value.slice none (0 : Nat) (0 : Nat), Value.int IntKind.i64 (7 : Int)])) V) (Q (Value.tuple (Array.mk [Value.slice (Sl.a x) (Sl.n x) (Sl.c x), Value.int IntKind.i64 (0 : Int)])) V)))
def f151_ac : AC := (.seq (.reg ⟨.done, false, [], [], none⟩) (.seq (.reg ⟨.done, false, [], [], none⟩) (.seq (.seq (.reg ⟨.done, false, [], [], none⟩) (.cond none (.seq (.reg ⟨.done, false, [], [], none⟩) .leaf) .leaf)) (.seq (.seq (.reg ⟨.done, false, [], [], none⟩) (.cond none (.seq (.reg ⟨.done, false, [], [], none⟩) .leaf) .leaf)) (.seq (.reg ⟨.done, false, [], [], none⟩) (.seq (.seq (.reg ⟨.done, false, [], [], none⟩) (.cond none (.seq (.reg ⟨.done, false, [], [], none⟩) .leaf) .leaf)) (.seq (.reg ⟨.done, false, [], [], none⟩) .leaf)))))))
theorem f151_x {a0 : ByteArray} {V : View} {Q : Value → View → Prop} (h : f151_n a0 V Q) : CallV Tryz.prog 151 ⟨[(.string a0)]⟩ V Q :=
  XF_sound (wr := false) Tryz.checked.mixed (enters_of (fn := Tryz.f151) (by kernel_rfl) (by kernel_rfl) (by kernel_rfl)) (fn := Tryz.f151) (by kernel_rfl) (ac := f151_ac)
    (Eq.mp (show f151_n a0 V Q = XF Tryz.prog false Tryz.f151 (f151_ac) [(.string a0)] V Q from by kernel_rfl) h)
/-- potsherd/dir.find -/
def f152_n (a0_0 : Sl) (a1 : Sl) (V : View) (Q : Value → View → Prop) : Prop :=
    ∀ (b : Nat), loopP [K.int IntKind.i64, K.int IntKind.i64] (fun (x x_1 : Int) (V : View) (J : CurP [K.int IntKind.i64, K.int IntKind.i64]) => br (decide (x_1 < (↑(Sl.n a1) : Int))) ((0 : Int) ≤ x_1 ∧ x_1 < (↑(Sl.n a1) : Int) ∧ ∃ (ad : Addr), Sl.a a1 = some ad ∧ ∃ (x_2 : ByteArray), View.cell? V (Addr.add ad (Int.toNat x_1 * (1 : Nat))) = some (Value.string x_2) ∧ (0 : Int) ≤ x ∧ x < (↑(Sl.n a0_0) : Int) ∧ ∃ (ad : Addr), Sl.a a0_0 = some ad ∧ ∃ (x_3 : Int), View.cell? V (Addr.add (Addr.add ad (Int.toNat x * (5 : Nat))) (0 : Nat)) = some (Value.int IntKind.i64 x_3) ∧ br (!decide (x_3 = (2 : Int))) (Q (Value.tuple (Array.mk [Value.int IntKind.i64 (0 : Int), Value.int IntKind.i64 (11 : Int)])) V) ((0 : Int) ≤ x ∧ x < (↑(Sl.n a0_0) : Int) ∧ ∃ (ad : Addr), Sl.a a0_0 = some ad ∧ ∃ (x_4 : Sl), View.cell? V (Addr.add (Addr.add ad (Int.toNat x * (5 : Nat))) (4 : Nat)) = some (Value.slice (Sl.a x_4) (Sl.n x_4) (Sl.c x_4)) ∧ CallV Tryz.prog (171 : Nat) (Array.mk [Value.slice (Sl.a x_4) (Sl.n x_4) (Sl.c x_4), Value.string x_2]) V fun (r : Value) (V : View) => ∃ (x : Int), r = Value.int IntKind.i64 x ∧ br (decide (x < (0 : Int))) (Q (Value.tuple (Array.mk [Value.int IntKind.i64 (0 : Int), Value.int IntKind.i64 (8 : Int)])) V) (inI IntKind.i64 (x_1 + (1 : Int)) ∧ J x (x_1 + (1 : Int)) V))) (Q (Value.tuple (Array.mk [Value.int IntKind.i64 x, Value.int IntKind.i64 (0 : Int)])) V)) ((0 : Int), (0 : Int), ()) V
def f152_ac : AC := (.seq (.reg ⟨.done, false, [], [], none⟩) (.seq (.reg ⟨.done, false, [], [], none⟩) (.seq (.seq (.reg ⟨.done, false, [], [], none⟩) (.block none (.loop ⟨[8, 12, 13, 14, 15, 16, 17, 18, 19, 20, 21, 22, 23, 24, 25, 26, 27, 28, 29, 30, 31, 32], [(6, .int .i64), (11, .int .i64)], []⟩ (.seq (.reg ⟨.done, false, [], [], none⟩) (.seq (.cond none .leaf .leaf) (.seq (.block none (.seq (.reg ⟨.done, false, [], [], none⟩) (.seq (.seq (.reg ⟨.done, false, [], [], none⟩) (.cond none (.seq (.reg ⟨.done, false, [], [], none⟩) .leaf) .leaf)) (.seq (.reg ⟨.done, false, [], [], none⟩) (.seq (.reg ⟨.done, false, [], [], none⟩) (.cond none (.seq (.reg ⟨.done, false, [], [], none⟩) .leaf) .leaf)))))) (.reg ⟨.done, false, [], [], none⟩))))))) (.seq (.reg ⟨.done, false, [], [], none⟩) .leaf))))
theorem f152_x {a0_0 : Sl} {a1 : Sl} {V : View} {Q : Value → View → Prop} (h : f152_n a0_0 a1 V Q) : CallV Tryz.prog 152 ⟨[(.agg ⟨[(.slice a0_0.a a0_0.n a0_0.c)]⟩), (.slice a1.a a1.n a1.c)]⟩ V Q :=
  XF_sound (wr := false) Tryz.checked.mixed (enters_of (fn := Tryz.f152) (by kernel_rfl) (by kernel_rfl) (by kernel_rfl)) (fn := Tryz.f152) (by kernel_rfl) (ac := f152_ac)
    (Eq.mp (show f152_n a0_0 a1 V Q = XF Tryz.prog false Tryz.f152 (f152_ac) [(.agg ⟨[(.slice a0_0.a a0_0.n a0_0.c)]⟩), (.slice a1.a a1.n a1.c)] V Q from by kernel_rfl) h)
/-- slices.Index[[]int,int] -/
def f153_n (a0 : Sl) (a1 : Int) (V : View) (Q : Value → View → Prop) : Prop :=
    loopP [K.int IntKind.i64] (fun (x : Int) (V : View) (J : CurP [K.int IntKind.i64]) => br (decide (x < (↑(Sl.n a0) : Int))) ((0 : Int) ≤ x ∧ x < (↑(Sl.n a0) : Int) ∧ ∃ (ad : Addr), Sl.a a0 = some ad ∧ ∃ (x_1 : Int), View.cell? V (Addr.add ad (Int.toNat x * (1 : Nat))) = some (Value.int IntKind.i64 x_1) ∧ br (decide (a1 = x_1)) (Q (Value.int IntKind.i64 x) V) (inI IntKind.i64 (x + (1 : Int)) ∧ J (x + (1 : Int)) V)) (Q (Value.int IntKind.i64 (-1 : Int)) V)) ((0 : Int), ()) V
def f153_ac : AC := (.seq (.reg ⟨.done, false, [], [], none⟩) (.seq (.seq (.reg ⟨.done, false, [], [], none⟩) (.block none (.loop ⟨[5, 9, 10, 11, 12, 13, 14, 15, 16, 18], [(8, .int .i64)], []⟩ (.seq (.reg ⟨.done, false, [], [], none⟩) (.seq (.cond none .leaf .leaf) (.seq (.block none (.seq (.reg ⟨.done, false, [], [], none⟩) (.seq (.reg ⟨.done, false, [], [], none⟩) (.cond none (.seq (.reg ⟨.done, false, [], [], none⟩) .leaf) .leaf)))) (.reg ⟨.done, false, [], [], none⟩))))))) (.seq (.reg ⟨.done, false, [], [], none⟩) .leaf)))
theorem f153_x {a0 : Sl} {a1 : Int} {V : View} {Q : Value → View → Prop} (h : f153_n a0 a1 V Q) : CallV Tryz.prog 153 ⟨[(.slice a0.a a0.n a0.c), (.int .i64 a1)]⟩ V Q :=
  XF_sound (wr := false) Tryz.checked.mixed (enters_of (fn := Tryz.f153) (by kernel_rfl) (by kernel_rfl) (by kernel_rfl)) (fn := Tryz.f153) (by kernel_rfl) (ac := f153_ac)
    (Eq.mp (show f153_n a0 a1 V Q = XF Tryz.prog false Tryz.f153 (f153_ac) [(.slice a0.a a0.n a0.c), (.int .i64 a1)] V Q from by kernel_rfl) h)
/-- potsherd/quota.More -/
def f154_n (a0_0 : Int) (a0_1 : Int) (a0_2 : Int) (a0_3 : Sl) (a0_4 : Sl) (a1 : Int) (a2 : Int) (V : View) (Q : Value → View → Prop) : Prop :=
    ∀ (b : Nat), joinP [K.bool] (fun (J : CurP [K.bool]) => br (!decide (a0_0 = (1 : Int))) (J true V) (CallV Tryz.prog (114 : Nat) (Array.mk [Value.agg (Array.mk [Value.int IntKind.i64 a0_0, Value.int IntKind.i64 a0_1, Value.int IntKind.i64 a0_2, Value.slice (Sl.a a0_3) (Sl.n a0_3) (Sl.c a0_3), Value.slice (Sl.a a0_4) (Sl.n a0_4) (Sl.c a0_4)])]) V fun (r : Value) (V : View) => ∃ (x : Bool), r = Value.bool x ∧ J (!x) V)) fun (x : Bool) (V : View) => br x (Q (Value.int IntKind.i64 (0 : Int)) V) (CallV Tryz.prog (57 : Nat) (Array.mk [Value.int IntKind.i64 a1, Value.int IntKind.i64 a2]) V fun (r : Value) (V : View) => ∃ (x : Sl), r = Value.slice (Sl.a x) (Sl.n x) (Sl.c x) ∧ loopP [K.int IntKind.i64, K.int IntKind.i64] (fun (x_1 x_2 : Int) (V : View) (J : CurP [K.int IntKind.i64, K.int IntKind.i64]) => br (decide (x_2 < (↑(Sl.n x) : Int))) ((0 : Int) ≤ x_2 ∧ x_2 < (↑(Sl.n x) : Int) ∧ ∃ (ad : Addr), Sl.a x = some ad ∧ ∃ (x : Int), ∃ (x_3 : Int), ∃ (x_4 : Int), cellsAt V (Addr.add ad (Int.toNat x_2 * (3 : Nat))) [Value.int IntKind.i64 x, Value.int IntKind.i64 x_3, Value.int IntKind.i64 x_4] ∧ ∀ (b : Nat), (0 : Int) ≤ x ∧ x < (↑(Sl.n a0_3) : Int) ∧ ∃ (ad : Addr), Sl.a a0_3 = some ad ∧ ∃ (x_5 : Int), View.cell? V (Addr.add ad (Int.toNat x * (1 : Nat))) = some (Value.int IntKind.i64 x_5) ∧ joinP [K.int IntKind.i64] (fun (J : CurP [K.int IntKind.i64]) => br (decide (x_5 = (0 : Int))) (inI IntKind.i64 (x_1 + (1 : Int)) ∧ J (x_1 + (1 : Int)) V) (J x_1 V)) fun (x : Int) (V : View) => inI IntKind.i64 (x_2 + (1 : Int)) ∧ J x (x_2 + (1 : Int)) V) (Q (Value.int IntKind.i64 x_1) V)) ((0 : Int), (0 : Int), ()) V)
def f154_ac : AC := (.seq (.reg ⟨.done, false, [], [], none⟩) (.seq (.seq (.reg ⟨.done, false, [], [], (some ⟨[10, 11, 12, 13, 14, 15, 16], [(17, .bool)], []⟩)⟩) (.cond none (.seq (.reg ⟨.done, false, [], [], none⟩) .leaf) .leaf)) (.seq (.reg ⟨.done, false, [], [], none⟩) (.seq (.seq (.reg ⟨.done, false, [], [], none⟩) (.block none (.loop ⟨[9, 23, 24, 25, 26, 27, 28, 29, 30, 31, 32, 33, 34, 35], [(7, .int .i64), (22, .int .i64)], []⟩ (.seq (.reg ⟨.done, false, [], [], none⟩) (.seq (.cond none .leaf .leaf) (.seq (.block none (.seq (.reg ⟨.done, false, [], [], none⟩) (.seq (.reg ⟨.done, false, [], [], none⟩) (.cond (some ⟨[33, 34], [(7, .int .i64)], []⟩) (.reg ⟨.done, false, [], [], none⟩) .leaf)))) (.reg ⟨.done, false, [], [], none⟩))))))) (.seq (.reg ⟨.done, false, [], [], none⟩) .leaf)))))
theorem f154_x {a0_0 : Int} {a0_1 : Int} {a0_2 : Int} {a0_3 : Sl} {a0_4 : Sl} {a1 : Int} {a2 : Int} {V : View} {Q : Value → View → Prop} (h : f154_n a0_0 a0_1 a0_2 a0_3 a0_4 a1 a2 V Q) : CallV Tryz.prog 154 ⟨[(.agg ⟨[(.int .i64 a0_0), (.int .i64 a0_1), (.int .i64 a0_2), (.slice a0_3.a a0_3.n a0_3.c), (.slice a0_4.a a0_4.n a0_4.c)]⟩), (.int .i64 a1), (.int .i64 a2)]⟩ V Q :=
  XF_sound (wr := false) Tryz.checked.mixed (enters_of (fn := Tryz.f154) (by kernel_rfl) (by kernel_rfl) (by kernel_rfl)) (fn := Tryz.f154) (by kernel_rfl) (ac := f154_ac)
    (Eq.mp (show f154_n a0_0 a0_1 a0_2 a0_3 a0_4 a1 a2 V Q = XF Tryz.prog false Tryz.f154 (f154_ac) [(.agg ⟨[(.int .i64 a0_0), (.int .i64 a0_1), (.int .i64 a0_2), (.slice a0_3.a a0_3.n a0_3.c), (.slice a0_4.a a0_4.n a0_4.c)]⟩), (.int .i64 a1), (.int .i64 a2)] V Q from by kernel_rfl) h)
/-- slices.Clone[[]byte,byte] -/
def f155_n (a0 : Sl) (V : View) (Q : Value → View → Prop) : Prop :=
    br (Option.isNone (Sl.a a0)) (Q (Value.slice none (0 : Nat) (0 : Nat)) V) (newB V (Obj.cells (Array.mk []) (5 : Nat)) fun (r : Nat) (V : View) => apV V (5 : Nat) (1 : Nat) (1 : Nat) [Value.int IntKind.u8 (0 : Int)] (Sl.mk (some (Addr.mk r (0 : Nat) none)) (0 : Nat) (0 : Nat)) (Value.slice (Sl.a a0) (Sl.n a0) (Sl.c a0)) fun (s : Sl) (V : View) => Q (Value.slice (Sl.a s) (Sl.n s) (Sl.c s)) V)
def f155_ac : AC := (.seq (.reg ⟨.done, false, [], [], none⟩) (.seq (.seq (.reg ⟨.done, false, [], [], none⟩) (.cond none (.seq (.reg ⟨.done, false, [], [], none⟩) .leaf) .leaf)) (.seq (.reg ⟨.done, false, [], [], none⟩) .leaf)))
theorem f155_x {a0 : Sl} {V : View} {Q : Value → View → Prop} (h : f155_n a0 V Q) : CallV Tryz.prog 155 ⟨[(.slice a0.a a0.n a0.c)]⟩ V Q :=
  XF_sound (wr := false) Tryz.checked.mixed (enters_of (fn := Tryz.f155) (by kernel_rfl) (by kernel_rfl) (by kernel_rfl)) (fn := Tryz.f155) (by kernel_rfl) (ac := f155_ac)
    (Eq.mp (show f155_n a0 V Q = XF Tryz.prog false Tryz.f155 (f155_ac) [(.slice a0.a a0.n a0.c)] V Q from by kernel_rfl) h)
/-- potsherd/span.Pages -/
def f156_n (a0 : Int) (V : View) (Q : Value → View → Prop) : Prop :=
    inI IntKind.i64 ((if (80 : Int) < if (0 : Int) > a0 then (0 : Int) else a0 then (80 : Int) else if (0 : Int) > a0 then (0 : Int) else a0) + (16 : Int)) ∧ inI IntKind.i64 ((if (80 : Int) < if (0 : Int) > a0 then (0 : Int) else a0 then (80 : Int) else if (0 : Int) > a0 then (0 : Int) else a0) + (16 : Int) - (1 : Int)) ∧ (16 : Int) ≠ (0 : Int) ∧ inI IntKind.i64 (Int.tdiv ((if (80 : Int) < if (0 : Int) > a0 then (0 : Int) else a0 then (80 : Int) else if (0 : Int) > a0 then (0 : Int) else a0) + (16 : Int) - (1 : Int)) (16 : Int)) ∧ Q (Value.int IntKind.i64 (Int.tdiv ((if (80 : Int) < if (0 : Int) > a0 then (0 : Int) else a0 then (80 : Int) else if (0 : Int) > a0 then (0 : Int) else a0) + (16 : Int) - (1 : Int)) (16 : Int))) V
def f156_ac : AC := (.seq (.reg ⟨.done, false, [], [], none⟩) (.seq (.reg ⟨.done, false, [], [], none⟩) .leaf))
theorem f156_x {a0 : Int} {V : View} {Q : Value → View → Prop} (h : f156_n a0 V Q) : CallV Tryz.prog 156 ⟨[(.int .i64 a0)]⟩ V Q :=
  XF_sound (wr := false) Tryz.checked.mixed (enters_of (fn := Tryz.f156) (by kernel_rfl) (by kernel_rfl) (by kernel_rfl)) (fn := Tryz.f156) (by kernel_rfl) (ac := f156_ac)
    (Eq.mp (show f156_n a0 V Q = XF Tryz.prog false Tryz.f156 (f156_ac) [(.int .i64 a0)] V Q from by kernel_rfl) h)
/-- potsherd/span.Cut -/
def f157_n (a0 : Int) (a1 : Int) (a2 : Int) (V : View) (Q : Value → View → Prop) : Prop :=
    br (bif bif decide (a1 < (0 : Int)) then true else decide (a2 < (0 : Int)) then true else decide (a0 ≤ a1)) (Q (Value.int IntKind.i64 (0 : Int)) V) (inI IntKind.i64 (a0 - a1) ∧ Q (Value.int IntKind.i64 (if a0 - a1 < a2 then a0 - a1 else a2)) V)
def f157_ac : AC := (.seq (.reg ⟨.done, false, [], [], none⟩) (.seq (.seq (.reg ⟨.done, false, [], [], none⟩) (.cond none (.seq (.reg ⟨.done, false, [], [], none⟩) .leaf) .leaf)) (.seq (.reg ⟨.done, false, [], [], none⟩) .leaf)))
theorem f157_x {a0 : Int} {a1 : Int} {a2 : Int} {V : View} {Q : Value → View → Prop} (h : f157_n a0 a1 a2 V Q) : CallV Tryz.prog 157 ⟨[(.int .i64 a0), (.int .i64 a1), (.int .i64 a2)]⟩ V Q :=
  XF_sound (wr := false) Tryz.checked.mixed (enters_of (fn := Tryz.f157) (by kernel_rfl) (by kernel_rfl) (by kernel_rfl)) (fn := Tryz.f157) (by kernel_rfl) (ac := f157_ac)
    (Eq.mp (show f157_n a0 a1 a2 V Q = XF Tryz.prog false Tryz.f157 (f157_ac) [(.int .i64 a0), (.int .i64 a1), (.int .i64 a2)] V Q from by kernel_rfl) h)
/-- potsherd/node.Pages -/
def f158_n (a0_0 : Int) (a0_1 : Int) (a0_2 : Int) (a0_3 : Sl) (a0_4 : Sl) (V : View) (Q : Value → View → Prop) : Prop :=
    ∀ (b : Nat), CallV Tryz.prog (179 : Nat) (Array.mk [Value.int IntKind.i64 (0 : Int), Value.agg (Array.mk [Value.int IntKind.i64 a0_0, Value.int IntKind.i64 a0_1, Value.int IntKind.i64 a0_2, Value.slice (Sl.a a0_3) (Sl.n a0_3) (Sl.c a0_3), Value.slice (Sl.a a0_4) (Sl.n a0_4) (Sl.c a0_4)])]) V fun (r : Value) (V : View) => ∃ (x : Sl), r = Value.slice (Sl.a x) (Sl.n x) (Sl.c x) ∧ Q (Value.int IntKind.i64 (↑(Sl.n x) : Int)) V
def f158_ac : AC := (.seq (.reg ⟨.done, false, [], [], none⟩) (.seq (.reg ⟨.done, false, [], [], none⟩) .leaf))
theorem f158_x {a0_0 : Int} {a0_1 : Int} {a0_2 : Int} {a0_3 : Sl} {a0_4 : Sl} {V : View} {Q : Value → View → Prop} (h : f158_n a0_0 a0_1 a0_2 a0_3 a0_4 V Q) : CallV Tryz.prog 158 ⟨[(.agg ⟨[(.int .i64 a0_0), (.int .i64 a0_1), (.int .i64 a0_2), (.slice a0_3.a a0_3.n a0_3.c), (.slice a0_4.a a0_4.n a0_4.c)]⟩)]⟩ V Q :=
  XF_sound (wr := false) Tryz.checked.mixed (enters_of (fn := Tryz.f158) (by kernel_rfl) (by kernel_rfl) (by kernel_rfl)) (fn := Tryz.f158) (by kernel_rfl) (ac := f158_ac)
    (Eq.mp (show f158_n a0_0 a0_1 a0_2 a0_3 a0_4 V Q = XF Tryz.prog false Tryz.f158 (f158_ac) [(.agg ⟨[(.int .i64 a0_0), (.int .i64 a0_1), (.int .i64 a0_2), (.slice a0_3.a a0_3.n a0_3.c), (.slice a0_4.a a0_4.n a0_4.c)]⟩)] V Q from by kernel_rfl) h)
/-- potsherd/quota.off$1 -/
def f159_n (a0_0 : Int) (a0_1 : Int) (a0_2 : Int) (a0_3 : Sl) (a0_4 : Sl) (V : View) (Q : Value → View → Prop) : Prop :=
    ∀ (b : Nat), CallV Tryz.prog (114 : Nat) (Array.mk [Value.agg (Array.mk [Value.int IntKind.i64 a0_0, Value.int IntKind.i64 a0_1, Value.int IntKind.i64 a0_2, Value.slice (Sl.a a0_3) (Sl.n a0_3) (Sl.c a0_3), Value.slice (Sl.a a0_4) (Sl.n a0_4) (Sl.c a0_4)])]) V fun (r : Value) (V : View) => ∃ (x : Bool), r = Value.bool x ∧ Q (Value.bool !x) V
def f159_ac : AC := (.seq (.reg ⟨.done, false, [], [], none⟩) (.seq (.reg ⟨.done, false, [], [], none⟩) .leaf))
theorem f159_x {a0_0 : Int} {a0_1 : Int} {a0_2 : Int} {a0_3 : Sl} {a0_4 : Sl} {V : View} {Q : Value → View → Prop} (h : f159_n a0_0 a0_1 a0_2 a0_3 a0_4 V Q) : CallV Tryz.prog 159 ⟨[(.agg ⟨[(.int .i64 a0_0), (.int .i64 a0_1), (.int .i64 a0_2), (.slice a0_3.a a0_3.n a0_3.c), (.slice a0_4.a a0_4.n a0_4.c)]⟩)]⟩ V Q :=
  XF_sound (wr := false) Tryz.checked.mixed (enters_of (fn := Tryz.f159) (by kernel_rfl) (by kernel_rfl) (by kernel_rfl)) (fn := Tryz.f159) (by kernel_rfl) (ac := f159_ac)
    (Eq.mp (show f159_n a0_0 a0_1 a0_2 a0_3 a0_4 V Q = XF Tryz.prog false Tryz.f159 (f159_ac) [(.agg ⟨[(.int .i64 a0_0), (.int .i64 a0_1), (.int .i64 a0_2), (.slice a0_3.a a0_3.n a0_3.c), (.slice a0_4.a a0_4.n a0_4.c)]⟩)] V Q from by kernel_rfl) h)
/-- slices.IndexFunc[[]potsherd/api.Node,potsherd/api.Node] -/
def f160_n (a0 : Sl) (g1 : FuncId) (x1 : List Value) (y1 : List Value) (V : View) (Q : Value → View → Prop) : Prop :=
    loopP [K.int IntKind.i64] (fun (x : Int) (V : View) (J : CurP [K.int IntKind.i64]) => br (decide (x < (↑(Sl.n a0) : Int))) ((0 : Int) ≤ x ∧ x < (↑(Sl.n a0) : Int) ∧ ∃ (ad : Addr), Sl.a a0 = some ad ∧ ∃ (x_1 : Int), ∃ (x_2 : Int), ∃ (x_3 : Int), ∃ (x_4 : Sl), ∃ (x_5 : Sl), cellsAt V (Addr.add ad (Int.toNat x * (5 : Nat))) [Value.int IntKind.i64 x_1, Value.int IntKind.i64 x_2, Value.int IntKind.i64 x_3, Value.slice (Sl.a x_4) (Sl.n x_4) (Sl.c x_4), Value.slice (Sl.a x_5) (Sl.n x_5) (Sl.c x_5)] ∧ CallV Tryz.prog g1 (Array.mk (Array.toList (Array.mk x1) ++ [Value.agg (Array.mk [Value.int IntKind.i64 x_1, Value.int IntKind.i64 x_2, Value.int IntKind.i64 x_3, Value.slice (Sl.a x_4) (Sl.n x_4) (Sl.c x_4), Value.slice (Sl.a x_5) (Sl.n x_5) (Sl.c x_5)])] ++ Array.toList (Array.mk y1))) V fun (r : Value) (V : View) => ∃ (x_6 : Bool), r = Value.bool x_6 ∧ br x_6 (Q (Value.int IntKind.i64 x) V) (inI IntKind.i64 (x + (1 : Int)) ∧ J (x + (1 : Int)) V)) (Q (Value.int IntKind.i64 (-1 : Int)) V)) ((0 : Int), ()) V
def f160_ac : AC := (.seq (.reg ⟨.done, false, [], [], none⟩) (.seq (.seq (.reg ⟨.done, false, [], [], none⟩) (.block none (.loop ⟨[5, 9, 10, 11, 12, 13, 14, 15, 16, 18], [(8, .int .i64)], []⟩ (.seq (.reg ⟨.done, false, [], [], none⟩) (.seq (.cond none .leaf .leaf) (.seq (.block none (.seq (.reg ⟨.done, false, [], [], none⟩) (.seq (.reg ⟨.done, false, [], [], none⟩) (.cond none (.seq (.reg ⟨.done, false, [], [], none⟩) .leaf) .leaf)))) (.reg ⟨.done, false, [], [], none⟩))))))) (.seq (.reg ⟨.done, false, [], [], none⟩) .leaf)))
theorem f160_x {a0 : Sl} {g1 : FuncId} {x1 : List Value} {y1 : List Value} {V : View} {Q : Value → View → Prop} (h : f160_n a0 g1 x1 y1 V Q) : CallV Tryz.prog 160 ⟨[(.slice a0.a a0.n a0.c), (.func (.func g1) ⟨x1⟩ ⟨y1⟩)]⟩ V Q :=
  XF_sound (wr := false) Tryz.checked.mixed (enters_of (fn := Tryz.f160) (by kernel_rfl) (by kernel_rfl) (by kernel_rfl)) (fn := Tryz.f160) (by kernel_rfl) (ac := f160_ac)
    (Eq.mp (show f160_n a0 g1 x1 y1 V Q = XF Tryz.prog false Tryz.f160 (f160_ac) [(.slice a0.a a0.n a0.c), (.func (.func g1) ⟨x1⟩ ⟨y1⟩)] V Q from by kernel_rfl) h)
/-- potsherd/node.file -/
def f161_n (a0_0 : Int) (a0_1 : Int) (a0_2 : Int) (a0_3 : Sl) (a0_4 : Sl) (V : View) (Q : Value → View → Prop) : Prop :=
    ∀ (b : Nat), joinP [K.bool] (fun (J : CurP [K.bool]) => CallV Tryz.prog (180 : Nat) (Array.mk [Value.int IntKind.i64 a0_1, Value.int IntKind.i64 (120 : Int)]) V fun (r : Value) (V : View) => ∃ (x : Bool), r = Value.bool x ∧ br (!x) (J true V) (CallV Tryz.prog (180 : Nat) (Array.mk [Value.int IntKind.i64 a0_2, Value.int IntKind.i64 (80 : Int)]) V fun (r : Value) (V : View) => ∃ (x : Bool), r = Value.bool x ∧ J (bif bif !x then true else !decide ((↑(Sl.n a0_3) : Int) = (5 : Int)) then true else decide ((0 : Int) < (↑(Sl.n a0_4) : Int))) V)) fun (x : Bool) (V : View) => br x (Q (Value.bool false) V) (loopP [K.int IntKind.i64] (fun (x : Int) (V : View) (J : CurP [K.int IntKind.i64]) => br (decide (x < (↑(Sl.n a0_3) : Int))) ((0 : Int) ≤ x ∧ x < (↑(Sl.n a0_3) : Int) ∧ ∃ (ad : Addr), Sl.a a0_3 = some ad ∧ ∃ (x_1 : Int), View.cell? V (Addr.add ad (Int.toNat x * (1 : Nat))) = some (Value.int IntKind.i64 x_1) ∧ joinP [K.bool] (fun (J : CurP [K.bool]) => CallV Tryz.prog (180 : Nat) (Array.mk [Value.int IntKind.i64 x_1, Value.int IntKind.i64 (1099511627776 : Int)]) V fun (r : Value) (V : View) => ∃ (x_2 : Bool), r = Value.bool x_2 ∧ br (!x_2) (J true V) (inI IntKind.i64 (x * (16 : Int)) ∧ J (bif decide (a0_2 ≤ x * (16 : Int)) then !decide (x_1 = (0 : Int)) else false) V)) fun (x_2 : Bool) (V : View) => br x_2 (Q (Value.bool false) V) (inI IntKind.i64 (x + (1 : Int)) ∧ J (x + (1 : Int)) V)) (Q (Value.bool true) V)) ((0 : Int), ()) V)
def f161_ac : AC := (.seq (.reg ⟨.done, false, [], [], none⟩) (.seq (.seq (.reg ⟨.done, false, [], [], (some ⟨[5, 6, 7, 8, 9, 10, 11, 12, 13, 14, 15, 16, 17, 18, 19, 20, 21, 22, 23, 24, 25], [(26, .bool)], []⟩)⟩) (.cond none (.seq (.reg ⟨.done, false, [], [], none⟩) .leaf) .leaf)) (.seq (.seq (.reg ⟨.done, false, [], [], none⟩) (.block none (.loop ⟨[3, 4, 31, 32, 33, 34, 35, 36, 37, 38, 39, 40, 41, 42, 43, 44, 45, 46, 47, 48, 49], [(30, .int .i64)], []⟩ (.seq (.reg ⟨.done, false, [], [], none⟩) (.seq (.cond none .leaf .leaf) (.seq (.block none (.seq (.reg ⟨.done, false, [], [], none⟩) (.seq (.reg ⟨.done, false, [], [], (some ⟨[35, 36, 37, 38, 39, 40, 41, 42, 43, 44, 45, 46, 47], [(48, .bool)], []⟩)⟩) (.cond none (.seq (.reg ⟨.done, false, [], [], none⟩) .leaf) .leaf)))) (.reg ⟨.done, false, [], [], none⟩))))))) (.seq (.reg ⟨.done, false, [], [], none⟩) .leaf))))
theorem f161_x {a0_0 : Int} {a0_1 : Int} {a0_2 : Int} {a0_3 : Sl} {a0_4 : Sl} {V : View} {Q : Value → View → Prop} (h : f161_n a0_0 a0_1 a0_2 a0_3 a0_4 V Q) : CallV Tryz.prog 161 ⟨[(.agg ⟨[(.int .i64 a0_0), (.int .i64 a0_1), (.int .i64 a0_2), (.slice a0_3.a a0_3.n a0_3.c), (.slice a0_4.a a0_4.n a0_4.c)]⟩)]⟩ V Q :=
  XF_sound (wr := false) Tryz.checked.mixed (enters_of (fn := Tryz.f161) (by kernel_rfl) (by kernel_rfl) (by kernel_rfl)) (fn := Tryz.f161) (by kernel_rfl) (ac := f161_ac)
    (Eq.mp (show f161_n a0_0 a0_1 a0_2 a0_3 a0_4 V Q = XF Tryz.prog false Tryz.f161 (f161_ac) [(.agg ⟨[(.int .i64 a0_0), (.int .i64 a0_1), (.int .i64 a0_2), (.slice a0_3.a a0_3.n a0_3.c), (.slice a0_4.a a0_4.n a0_4.c)]⟩)] V Q from by kernel_rfl) h)
/-- potsherd/name.May -/
def f162_n (a0 : Sl) (V : View) (Q : Value → View → Prop) : Prop :=
    loopP [K.int IntKind.i64] (fun (x : Int) (V : View) (J : CurP [K.int IntKind.i64]) => br (decide (x < (↑(Sl.n a0) : Int))) ((0 : Int) ≤ x ∧ x < (↑(Sl.n a0) : Int) ∧ ∃ (ad : Addr), Sl.a a0 = some ad ∧ ∃ (x_1 : ByteArray), ∃ (x_2 : Int), cellsAt V (Addr.add ad (Int.toNat x * (2 : Nat))) [Value.string x_1, Value.int IntKind.i64 x_2] ∧ ∀ (b : Nat), joinP [K.bool] (fun (J : CurP [K.bool]) => True ∧ ∃ (S : View), View.Le S V ∧ CallV Tryz.prog (181 : Nat) (Array.mk [Value.agg (Array.mk [Value.string x_1, Value.int IntKind.i64 x_2])]) V fun (r : Value) (V : View) => ∃ (x_3 : Bool), r = Value.bool x_3 ∧ View.Le S V ∧ ∃ (S' : View), View.Le S S' ∧ View.Le S' V ∧ br (!x_3) (J true V) (br (decide ((0 : Int) < x)) (inI IntKind.i64 (x - (1 : Int)) ∧ (0 : Int) ≤ x - (1 : Int) ∧ x - (1 : Int) < (↑(Sl.n a0) : Int) ∧ ∃ (ad : Addr), Sl.a a0 = some ad ∧ ∃ (x_4 : ByteArray), View.cell? S' (Addr.add (Addr.add ad (Int.toNat (x - (1 : Int)) * (2 : Nat))) (0 : Nat)) = some (Value.string x_4) ∧ J (!sLess x_4 x_1) V) (J false V))) fun (x_3 : Bool) (V : View) => br x_3 (Q (Value.bool false) V) (inI IntKind.i64 (x + (1 : Int)) ∧ J (x + (1 : Int)) V)) (Q (Value.bool (decide ((↑(Sl.n a0) : Int) ≤ (10 : Int)))) V)) ((0 : Int), ()) V
def f162_ac : AC := (.seq (.reg ⟨.done, false, [], [], none⟩) (.seq (.seq (.reg ⟨.done, false, [], [], none⟩) (.block none (.loop ⟨[3, 4, 8, 9, 10, 11, 12, 13, 14, 15, 16, 17, 18, 19, 20, 21, 22, 23, 24, 25, 26, 27, 28, 29, 30], [(7, .int .i64)], []⟩ (.seq (.reg ⟨.done, false, [], [], none⟩) (.seq (.cond none .leaf .leaf) (.seq (.block none (.seq (.reg ⟨.done, false, [], [], none⟩) (.seq (.reg ⟨(.fl 0 (.alt 1 true true (.fl 2 (.fl 3 (.fl 4 (.fl 5 (.fl 6 (.fl 7 (.fl 8 (.fl 9 (.fl 10 (.fl 11 (.fl 12 (.fl 13 (.fl 14 (.fl 15 (.fl 16 (.fl 17 .done)))))))))))))))) .no)), true, [], [], (some ⟨[12, 13, 14, 15, 16, 17, 18, 19, 20, 21, 22, 23, 24, 25, 26, 27, 28], [(29, .bool)], []⟩)⟩) (.cond none (.seq (.reg ⟨.done, false, [], [], none⟩) .leaf) .leaf)))) (.reg ⟨.done, false, [], [], none⟩))))))) (.seq (.reg ⟨.done, false, [], [], none⟩) .leaf)))
theorem f162_x {a0 : Sl} {V : View} {Q : Value → View → Prop} (h : f162_n a0 V Q) : CallV Tryz.prog 162 ⟨[(.slice a0.a a0.n a0.c)]⟩ V Q :=
  XF_sound (wr := false) Tryz.checked.mixed (enters_of (fn := Tryz.f162) (by kernel_rfl) (by kernel_rfl) (by kernel_rfl)) (fn := Tryz.f162) (by kernel_rfl) (ac := f162_ac)
    (Eq.mp (show f162_n a0 V Q = XF Tryz.prog false Tryz.f162 (f162_ac) [(.slice a0.a a0.n a0.c)] V Q from by kernel_rfl) h)
/-- slices.ContainsFunc[[]int,int] -/
def f166_n (a0 : Sl) (g1 : FuncId) (x1 : List Value) (y1 : List Value) (V : View) (Q : Value → View → Prop) : Prop :=
    CallV Tryz.prog (183 : Nat) (Array.mk [Value.slice (Sl.a a0) (Sl.n a0) (Sl.c a0), Value.func (Fn.func g1) (Array.mk x1) (Array.mk y1)]) V fun (r : Value) (V : View) => ∃ (x : Int), r = Value.int IntKind.i64 x ∧ Q (Value.bool (decide ((0 : Int) ≤ x))) V
def f166_ac : AC := (.seq (.reg ⟨.done, false, [], [], none⟩) (.seq (.reg ⟨.done, false, [], [], none⟩) .leaf))
theorem f166_x {a0 : Sl} {g1 : FuncId} {x1 : List Value} {y1 : List Value} {V : View} {Q : Value → View → Prop} (h : f166_n a0 g1 x1 y1 V Q) : CallV Tryz.prog 166 ⟨[(.slice a0.a a0.n a0.c), (.func (.func g1) ⟨x1⟩ ⟨y1⟩)]⟩ V Q :=
  XF_sound (wr := false) Tryz.checked.mixed (enters_of (fn := Tryz.f166) (by kernel_rfl) (by kernel_rfl) (by kernel_rfl)) (fn := Tryz.f166) (by kernel_rfl) (ac := f166_ac)
    (Eq.mp (show f166_n a0 g1 x1 y1 V Q = XF Tryz.prog false Tryz.f166 (f166_ac) [(.slice a0.a a0.n a0.c), (.func (.func g1) ⟨x1⟩ ⟨y1⟩)] V Q from by kernel_rfl) h)
/-- potsherd/hand.off$1 -/
def f167_n (a0 : Int) (V : View) (Q : Value → View → Prop) : Prop :=
    Q (Value.bool (bif decide (a0 < (-1 : Int)) then true else decide ((12 : Int) ≤ a0))) V
def f167_ac : AC := (.seq (.reg ⟨.done, false, [], [], none⟩) (.seq (.reg ⟨.done, false, [], [], none⟩) .leaf))
theorem f167_x {a0 : Int} {V : View} {Q : Value → View → Prop} (h : f167_n a0 V Q) : CallV Tryz.prog 167 ⟨[(.int .i64 a0)]⟩ V Q :=
  XF_sound (wr := false) Tryz.checked.mixed (enters_of (fn := Tryz.f167) (by kernel_rfl) (by kernel_rfl) (by kernel_rfl)) (fn := Tryz.f167) (by kernel_rfl) (ac := f167_ac)
    (Eq.mp (show f167_n a0 V Q = XF Tryz.prog false Tryz.f167 (f167_ac) [(.int .i64 a0)] V Q from by kernel_rfl) h)
/-- potsherd/dir.Free -/
def f168_n (a0_0 : Sl) (V : View) (Q : Value → View → Prop) : Prop :=
    ∀ (b : Nat), CallV Tryz.prog (69 : Nat) (Array.mk [Value.agg (Array.mk [Value.slice (Sl.a a0_0) (Sl.n a0_0) (Sl.c a0_0)])]) V fun (r : Value) (V : View) => ∃ (x : Bool), r = Value.bool x ∧ br (!x) (Q (Value.int IntKind.i64 (-1 : Int)) V) (CallV Tryz.prog (160 : Nat) (Array.mk [Value.slice (Sl.a a0_0) (Sl.n a0_0) (Sl.c a0_0), Value.func (Fn.func (184 : Nat)) (Array.mk []) (Array.mk [])]) V fun (r : Value) (V : View) => ∃ (x : Int), r = Value.int IntKind.i64 x ∧ Q (Value.int IntKind.i64 x) V)
def f168_ac : AC := (.seq (.reg ⟨.done, false, [], [], none⟩) (.seq (.seq (.reg ⟨.done, false, [], [], none⟩) (.cond none (.seq (.reg ⟨.done, false, [], [], none⟩) .leaf) .leaf)) (.seq (.reg ⟨.done, false, [], [], none⟩) .leaf)))
theorem f168_x {a0_0 : Sl} {V : View} {Q : Value → View → Prop} (h : f168_n a0_0 V Q) : CallV Tryz.prog 168 ⟨[(.agg ⟨[(.slice a0_0.a a0_0.n a0_0.c)]⟩)]⟩ V Q :=
  XF_sound (wr := false) Tryz.checked.mixed (enters_of (fn := Tryz.f168) (by kernel_rfl) (by kernel_rfl) (by kernel_rfl)) (fn := Tryz.f168) (by kernel_rfl) (ac := f168_ac)
    (Eq.mp (show f168_n a0_0 V Q = XF Tryz.prog false Tryz.f168 (f168_ac) [(.agg ⟨[(.slice a0_0.a a0_0.n a0_0.c)]⟩)] V Q from by kernel_rfl) h)
/-- potsherd/name.Without -/
def f169_n (a0 : Sl) (a1 : ByteArray) (V : View) (Q : Value → View → Prop) : Prop :=
    CallV Tryz.prog (162 : Nat) (Array.mk [Value.slice (Sl.a a0) (Sl.n a0) (Sl.c a0)]) V fun (r : Value) (V : View) => ∃ (x : Bool), r = Value.bool x ∧ br (!x) (Q (Value.tuple (Array.mk [Value.slice none (0 : Nat) (0 : Nat), Value.int IntKind.i64 (1 : Int)])) V) (CallV Tryz.prog (185 : Nat) (Array.mk [Value.slice (Sl.a a0) (Sl.n a0) (Sl.c a0), Value.string a1]) V fun (r : Value) (V : View) => ∃ (x : Int), r = Value.int IntKind.i64 x ∧ br (decide (x < (0 : Int))) (Q (Value.tuple (Array.mk [Value.slice none (0 : Nat) (0 : Nat), Value.int IntKind.i64 (8 : Int)])) V) (True ∧ (0 : Int) ≤ (0 : Int) ∧ (0 : Int) ≤ x ∧ x ≤ (↑(Sl.c a0) : Int) ∧ inI IntKind.i64 (x + (1 : Int)) ∧ (0 : Int) ≤ x + (1 : Int) ∧ x + (1 : Int) ≤ (↑(Sl.n a0) : Int) ∧ (↑(Sl.n a0) : Int) ≤ (↑(Sl.c a0) : Int) ∧ newB V (Obj.cells (Array.mk (putL (putL [Value.slice none (0 : Nat) (0 : Nat), Value.slice none (0 : Nat) (0 : Nat)] (0 : Nat) [Value.slice (if Sl.c a0 = (0 : Nat) then Sl.a a0 else Option.map (fun (x : Addr) => Addr.add x (0 : Nat)) (Sl.a a0)) (Int.toNat x - (0 : Nat)) (Sl.c a0 - (0 : Nat))]) (1 : Nat) [Value.slice (if Sl.c a0 = Int.toNat (x + (1 : Int)) then Sl.a a0 else Option.map (fun (x_1 : Addr) => Addr.add x_1 (Int.toNat (x + (1 : Int)) * (2 : Nat))) (Sl.a a0)) (Int.toNat (↑(Sl.n a0) : Int) - Int.toNat (x + (1 : Int))) (Sl.c a0 - Int.toNat (x + (1 : Int)))])) (61 : Nat)) fun (r : Nat) (V : View) => CallV Tryz.prog (186 : Nat) (Array.mk [Value.slice (some (Addr.mk r (0 : Nat) none)) (2 : Nat) (2 : Nat)]) V fun (r : Value) (V : View) => ∃ (x : Sl), r = Value.slice (Sl.a x) (Sl.n x) (Sl.c x) ∧ Q (Value.tuple (Array.mk [Value.slice (Sl.a x) (Sl.n x) (Sl.c x), Value.int IntKind.i64 (0 : Int)])) V))
def f169_ac : AC := (.seq (.reg ⟨.done, false, [], [], none⟩) (.seq (.seq (.reg ⟨.done, false, [], [], none⟩) (.cond none (.seq (.reg ⟨.done, false, [], [], none⟩) .leaf) .leaf)) (.seq (.reg ⟨.done, false, [], [], none⟩) (.seq (.seq (.reg ⟨.done, false, [], [], none⟩) (.cond none (.seq (.reg ⟨.done, false, [], [], none⟩) .leaf) .leaf)) (.seq (.reg ⟨(.fl 0 (.fl 1 (.fl 2 (.fl 3 (.fl 4 (.fl 5 (.fl 6 (.alt 7 false false (.alt 8 false false (.fl 9 (.fl 10 .done)) .no) .no)))))))), false, [], [], none⟩) .leaf)))))
theorem f169_x {a0 : Sl} {a1 : ByteArray} {V : View} {Q : Value → View → Prop} (h : f169_n a0 a1 V Q) : CallV Tryz.prog 169 ⟨[(.slice a0.a a0.n a0.c), (.string a1)]⟩ V Q :=
  XF_sound (wr := false) Tryz.checked.mixed (enters_of (fn := Tryz.f169) (by kernel_rfl) (by kernel_rfl) (by kernel_rfl)) (fn := Tryz.f169) (by kernel_rfl) (ac := f169_ac)
    (Eq.mp (show f169_n a0 a1 V Q = XF Tryz.prog false Tryz.f169 (f169_ac) [(.slice a0.a a0.n a0.c), (.string a1)] V Q from by kernel_rfl) h)
/-- potsherd/dir.Parent -/
def f170_n (a0_0 : Sl) (a1 : ByteArray) (V : View) (Q : Value → View → Prop) : Prop :=
    ∀ (b : Nat), CallV Tryz.prog (69 : Nat) (Array.mk [Value.agg (Array.mk [Value.slice (Sl.a a0_0) (Sl.n a0_0) (Sl.c a0_0)])]) V fun (r : Value) (V : View) => ∃ (x : Bool), r = Value.bool x ∧ br (!x) (Q (Value.tuple (Array.mk [Value.int IntKind.i64 (0 : Int), Value.string (ByteArray.mk #[]), Value.int IntKind.i64 (1 : Int)])) V) (CallV Tryz.prog (187 : Nat) (Array.mk [Value.string a1]) V fun (r : Value) (V : View) => ∃ (x : ByteArray), ∃ (x_1 : ByteArray), ∃ (x_2 : Int), r = Value.tuple (Array.mk [Value.string x, Value.string x_1, Value.int IntKind.i64 x_2]) ∧ br (!decide (x_2 = (0 : Int))) (Q (Value.tuple (Array.mk [Value.int IntKind.i64 (0 : Int), Value.string (ByteArray.mk #[]), Value.int IntKind.i64 x_2])) V) (CallV Tryz.prog (102 : Nat) (Array.mk [Value.agg (Array.mk [Value.slice (Sl.a a0_0) (Sl.n a0_0) (Sl.c a0_0)]), Value.string x]) V fun (r : Value) (V : View) => ∃ (x : Int), ∃ (x_3 : Int), r = Value.tuple (Array.mk [Value.int IntKind.i64 x, Value.int IntKind.i64 x_3]) ∧ br (!decide (x_3 = (0 : Int))) (Q (Value.tuple (Array.mk [Value.int IntKind.i64 (0 : Int), Value.string (ByteArray.mk #[]), Value.int IntKind.i64 x_3])) V) ((0 : Int) ≤ x ∧ x < (↑(Sl.n a0_0) : Int) ∧ ∃ (ad : Addr), Sl.a a0_0 = some ad ∧ ∃ (x_4 : Int), View.cell? V (Addr.add (Addr.add ad (Int.toNat x * (5 : Nat))) (0 : Nat)) = some (Value.int IntKind.i64 x_4) ∧ br (!decide (x_4 = (2 : Int))) (Q (Value.tuple (Array.mk [Value.int IntKind.i64 (0 : Int), Value.string (ByteArray.mk #[]), Value.int IntKind.i64 (11 : Int)])) V) (Q (Value.tuple (Array.mk [Value.int IntKind.i64 x, Value.string x_1, Value.int IntKind.i64 (0 : Int)])) V))))
def f170_ac : AC := (.seq (.reg ⟨.done, false, [], [], none⟩) (.seq (.seq (.reg ⟨.done, false, [], [], none⟩) (.cond none (.seq (.reg ⟨.done, false, [], [], none⟩) .leaf) .leaf)) (.seq (.reg ⟨.done, false, [], [], none⟩) (.seq (.seq (.reg ⟨.done, false, [], [], none⟩) (.cond none (.seq (.reg ⟨.done, false, [], [], none⟩) .leaf) .leaf)) (.seq (.reg ⟨.done, false, [], [], none⟩) (.seq (.block none (.seq (.reg ⟨.done, false, [], [], none⟩) (.cond none (.seq (.reg ⟨.done, false, [], [], none⟩) .leaf) (.seq (.reg ⟨.done, false, [], [], none⟩) (.cond none (.seq (.reg ⟨.done, false, [], [], none⟩) .leaf) .leaf))))) (.seq (.reg ⟨.done, false, [], [], none⟩) .leaf)))))))
theorem f170_x {a0_0 : Sl} {a1 : ByteArray} {V : View} {Q : Value → View → Prop} (h : f170_n a0_0 a1 V Q) : CallV Tryz.prog 170 ⟨[(.agg ⟨[(.slice a0_0.a a0_0.n a0_0.c)]⟩), (.string a1)]⟩ V Q :=
  XF_sound (wr := false) Tryz.checked.mixed (enters_of (fn := Tryz.f170) (by kernel_rfl) (by kernel_rfl) (by kernel_rfl)) (fn := Tryz.f170) (by kernel_rfl) (ac := f170_ac)
    (Eq.mp (show f170_n a0_0 a1 V Q = XF Tryz.prog false Tryz.f170 (f170_ac) [(.agg ⟨[(.slice a0_0.a a0_0.n a0_0.c)]⟩), (.string a1)] V Q from by kernel_rfl) h)
/-- potsherd/name.Find -/
def f171_n (a0 : Sl) (a1 : ByteArray) (V : View) (Q : Value → View → Prop) : Prop :=
    CallV Tryz.prog (185 : Nat) (Array.mk [Value.slice (Sl.a a0) (Sl.n a0) (Sl.c a0), Value.string a1]) V fun (r : Value) (V : View) => ∃ (x : Int), r = Value.int IntKind.i64 x ∧ br (decide (x < (0 : Int))) (Q (Value.int IntKind.i64 (-1 : Int)) V) ((0 : Int) ≤ x ∧ x < (↑(Sl.n a0) : Int) ∧ ∃ (ad : Addr), Sl.a a0 = some ad ∧ ∃ (x_1 : Int), View.cell? V (Addr.add (Addr.add ad (Int.toNat x * (2 : Nat))) (1 : Nat)) = some (Value.int IntKind.i64 x_1) ∧ Q (Value.int IntKind.i64 x_1) V)
def f171_ac : AC := (.seq (.reg ⟨.done, false, [], [], none⟩) (.seq (.reg ⟨.done, false, [], [], none⟩) (.seq (.seq (.reg ⟨.done, false, [], [], none⟩) (.cond none (.seq (.reg ⟨.done, false, [], [], none⟩) .leaf) .leaf)) (.seq (.reg ⟨.done, false, [], [], none⟩) .leaf))))
theorem f171_x {a0 : Sl} {a1 : ByteArray} {V : View} {Q : Value → View → Prop} (h : f171_n a0 a1 V Q) : CallV Tryz.prog 171 ⟨[(.slice a0.a a0.n a0.c), (.string a1)]⟩ V Q :=
  XF_sound (wr := false) Tryz.checked.mixed (enters_of (fn := Tryz.f171) (by kernel_rfl) (by kernel_rfl) (by kernel_rfl)) (fn := Tryz.f171) (by kernel_rfl) (ac := f171_ac)
    (Eq.mp (show f171_n a0 a1 V Q = XF Tryz.prog false Tryz.f171 (f171_ac) [(.slice a0.a a0.n a0.c), (.string a1)] V Q from by kernel_rfl) h)
/-- potsherd/dir.Inside$1 -/
def f172_n (a0 : Int) (z0 : Addr) (V : View) (Q : Value → View → Prop) : Prop :=
    joinP [K.bool] (fun (J : CurP [K.bool]) => br (decide ((0 : Int) ≤ a0)) (∃ (x : Sl), View.cell? V (Addr.add z0 (0 : Nat)) = some (Value.slice (Sl.a x) (Sl.n x) (Sl.c x)) ∧ J (decide (a0 < (↑(Sl.n x) : Int))) V) (J false V)) fun (x : Bool) (V : View) => Q (Value.bool x) V
def f172_ac : AC := (.seq (.reg ⟨.done, false, [], [], none⟩) (.seq (.reg ⟨.done, false, [], [], (some ⟨[4, 5, 6, 7, 8, 9, 10, 11, 12], [(3, .bool)], []⟩)⟩) .leaf))
theorem f172_x {a0 : Int} {z0 : Addr} {V : View} {Q : Value → View → Prop} (h : f172_n a0 z0 V Q) : CallV Tryz.prog 172 ⟨[(.int .i64 a0), (.pointer (some z0))]⟩ V Q :=
  XF_sound (wr := false) Tryz.checked.mixed (enters_of (fn := Tryz.f172) (by kernel_rfl) (by kernel_rfl) (by kernel_rfl)) (fn := Tryz.f172) (by kernel_rfl) (ac := f172_ac)
    (Eq.mp (show f172_n a0 z0 V Q = XF Tryz.prog false Tryz.f172 (f172_ac) [(.int .i64 a0), (.pointer (some z0))] V Q from by kernel_rfl) h)
/-- potsherd/name.With -/
def f173_n (a0 : Sl) (a1 : ByteArray) (a2 : Int) (V : View) (Q : Value → View → Prop) : Prop :=
    ∀ (b : Nat), joinP [K.bool] (fun (J : CurP [K.bool]) => CallV Tryz.prog (162 : Nat) (Array.mk [Value.slice (Sl.a a0) (Sl.n a0) (Sl.c a0)]) V fun (r : Value) (V : View) => ∃ (x : Bool), r = Value.bool x ∧ br (!x) (J true V) (CallV Tryz.prog (181 : Nat) (Array.mk [Value.agg (Array.mk [Value.string a1, Value.int IntKind.i64 a2])]) V fun (r : Value) (V : View) => ∃ (x : Bool), r = Value.bool x ∧ J (!x) V)) fun (x : Bool) (V : View) => br x (Q (Value.tuple (Array.mk [Value.slice none (0 : Nat) (0 : Nat), Value.int IntKind.i64 (1 : Int)])) V) (CallV Tryz.prog (185 : Nat) (Array.mk [Value.slice (Sl.a a0) (Sl.n a0) (Sl.c a0), Value.string a1]) V fun (r : Value) (V : View) => ∃ (x : Int), r = Value.int IntKind.i64 x ∧ br (decide ((0 : Int) ≤ x)) (Q (Value.tuple (Array.mk [Value.slice none (0 : Nat) (0 : Nat), Value.int IntKind.i64 (9 : Int)])) V) (br (decide ((10 : Int) ≤ (↑(Sl.n a0) : Int))) (Q (Value.tuple (Array.mk [Value.slice none (0 : Nat) (0 : Nat), Value.int IntKind.i64 (14 : Int)])) V) (loopP [K.int IntKind.i64] (fun (x : Int) (V : View) (J : CurP [K.int IntKind.i64]) => joinP [K.bool] (fun (J : CurP [K.bool]) => br (decide (x < (↑(Sl.n a0) : Int))) ((0 : Int) ≤ x ∧ x < (↑(Sl.n a0) : Int) ∧ ∃ (ad : Addr), Sl.a a0 = some ad ∧ ∃ (x_1 : ByteArray), View.cell? V (Addr.add (Addr.add ad (Int.toNat x * (2 : Nat))) (0 : Nat)) = some (Value.string x_1) ∧ J (sLess x_1 a1) V) (J false V)) fun (x_1 : Bool) (V : View) => br x_1 (inI IntKind.i64 (x + (1 : Int)) ∧ J (x + (1 : Int)) V) (True ∧ (0 : Int) ≤ (0 : Int) ∧ (0 : Int) ≤ x ∧ x ≤ (↑(Sl.c a0) : Int) ∧ (0 : Int) ≤ x ∧ x ≤ (↑(Sl.n a0) : Int) ∧ (↑(Sl.n a0) : Int) ≤ (↑(Sl.c a0) : Int) ∧ newB V (Obj.cells (Array.mk (putL [Value.string (ByteArray.mk #[]), Value.int IntKind.i64 (0 : Int)] (0 : Nat) [Value.string a1, Value.int IntKind.i64 a2])) (85 : Nat)) fun (r : Nat) (V : View) => newB V (Obj.cells (Array.mk (putL (putL (putL [Value.slice none (0 : Nat) (0 : Nat), Value.slice none (0 : Nat) (0 : Nat), Value.slice none (0 : Nat) (0 : Nat)] (0 : Nat) [Value.slice (if Sl.c a0 = (0 : Nat) then Sl.a a0 else Option.map (fun (x : Addr) => Addr.add x (0 : Nat)) (Sl.a a0)) (Int.toNat x - (0 : Nat)) (Sl.c a0 - (0 : Nat))]) (1 : Nat) [Value.slice (some (Addr.mk r (0 : Nat) none)) (1 : Nat) (1 : Nat)]) (2 : Nat) [Value.slice (if Sl.c a0 = Int.toNat x then Sl.a a0 else Option.map (fun (x_2 : Addr) => Addr.add x_2 (Int.toNat x * (2 : Nat))) (Sl.a a0)) (Int.toNat (↑(Sl.n a0) : Int) - Int.toNat x) (Sl.c a0 - Int.toNat x)])) (61 : Nat)) fun (r : Nat) (V : View) => CallV Tryz.prog (186 : Nat) (Array.mk [Value.slice (some (Addr.mk r (0 : Nat) none)) (3 : Nat) (3 : Nat)]) V fun (r : Value) (V : View) => ∃ (x : Sl), r = Value.slice (Sl.a x) (Sl.n x) (Sl.c x) ∧ Q (Value.tuple (Array.mk [Value.slice (Sl.a x) (Sl.n x) (Sl.c x), Value.int IntKind.i64 (0 : Int)])) V)) ((0 : Int), ()) V)))
def f173_ac : AC := (.seq (.reg ⟨.done, false, [], [], none⟩) (.seq (.reg ⟨.done, false, [], [], none⟩) (.seq (.block none (.seq (.reg ⟨.done, false, [], [], (some ⟨[14, 15, 16, 17, 18, 19, 20, 21], [(13, .bool)], []⟩)⟩) (.cond none (.seq (.reg ⟨.done, false, [], [], none⟩) .leaf) (.seq (.reg ⟨.done, false, [], [], none⟩) (.cond none (.seq (.reg ⟨.done, false, [], [], none⟩) .leaf) (.seq (.reg ⟨.done, false, [], [], none⟩) (.cond none (.seq (.reg ⟨.done, false, [], [], none⟩) .leaf) .leaf))))))) (.seq (.reg ⟨.done, false, [], [], none⟩) (.seq (.block none (.loop ⟨[31, 32, 33, 34, 35, 36, 37, 38, 39, 40, 41, 42, 43, 44, 45], [(9, .int .i64)], []⟩ (.seq (.seq (.reg ⟨.done, false, [], [], (some ⟨[31, 32, 33, 34, 35, 36, 37, 38, 39, 40, 41, 42], [(43, .bool)], []⟩)⟩) (.cond none .leaf .leaf)) (.block none (.reg ⟨.done, false, [], [], none⟩))))) (.seq (.reg ⟨(.fl 0 (.fl 1 (.fl 2 (.fl 3 (.fl 5 (.fl 6 (.fl 7 (.alt 4 false false (.alt 8 false false (.alt 9 false false (.fl 10 (.fl 11 .done)) .no) .no) .no)))))))), false, [], [], none⟩) .leaf))))))
theorem f173_x {a0 : Sl} {a1 : ByteArray} {a2 : Int} {V : View} {Q : Value → View → Prop} (h : f173_n a0 a1 a2 V Q) : CallV Tryz.prog 173 ⟨[(.slice a0.a a0.n a0.c), (.string a1), (.int .i64 a2)]⟩ V Q :=
  XF_sound (wr := false) Tryz.checked.mixed (enters_of (fn := Tryz.f173) (by kernel_rfl) (by kernel_rfl) (by kernel_rfl)) (fn := Tryz.f173) (by kernel_rfl) (ac := f173_ac)
    (Eq.mp (show f173_n a0 a1 a2 V Q = XF Tryz.prog false Tryz.f173 (f173_ac) [(.slice a0.a a0.n a0.c), (.string a1), (.int .i64 a2)] V Q from by kernel_rfl) h)
/-- slices.ContainsFunc[[]string,string] -/
def f176_n (a0 : Sl) (g1 : FuncId) (x1 : List Value) (y1 : List Value) (V : View) (Q : Value → View → Prop) : Prop :=
    CallV Tryz.prog (190 : Nat) (Array.mk [Value.slice (Sl.a a0) (Sl.n a0) (Sl.c a0), Value.func (Fn.func g1) (Array.mk x1) (Array.mk y1)]) V fun (r : Value) (V : View) => ∃ (x : Int), r = Value.int IntKind.i64 x ∧ Q (Value.bool (decide ((0 : Int) ≤ x))) V
def f176_ac : AC := (.seq (.reg ⟨.done, false, [], [], none⟩) (.seq (.reg ⟨.done, false, [], [], none⟩) .leaf))
theorem f176_x {a0 : Sl} {g1 : FuncId} {x1 : List Value} {y1 : List Value} {V : View} {Q : Value → View → Prop} (h : f176_n a0 g1 x1 y1 V Q) : CallV Tryz.prog 176 ⟨[(.slice a0.a a0.n a0.c), (.func (.func g1) ⟨x1⟩ ⟨y1⟩)]⟩ V Q :=
  XF_sound (wr := false) Tryz.checked.mixed (enters_of (fn := Tryz.f176) (by kernel_rfl) (by kernel_rfl) (by kernel_rfl)) (fn := Tryz.f176) (by kernel_rfl) (ac := f176_ac)
    (Eq.mp (show f176_n a0 g1 x1 y1 V Q = XF Tryz.prog false Tryz.f176 (f176_ac) [(.slice a0.a a0.n a0.c), (.func (.func g1) ⟨x1⟩ ⟨y1⟩)] V Q from by kernel_rfl) h)
/-- potsherd/path.Split$1 -/
def f177_n (a0 : ByteArray) (V : View) (Q : Value → View → Prop) : Prop :=
    CallV Tryz.prog (178 : Nat) (Array.mk [Value.string a0]) V fun (r : Value) (V : View) => ∃ (x : Bool), r = Value.bool x ∧ Q (Value.bool !x) V
def f177_ac : AC := (.seq (.reg ⟨.done, false, [], [], none⟩) (.seq (.reg ⟨.done, false, [], [], none⟩) .leaf))
theorem f177_x {a0 : ByteArray} {V : View} {Q : Value → View → Prop} (h : f177_n a0 V Q) : CallV Tryz.prog 177 ⟨[(.string a0)]⟩ V Q :=
  XF_sound (wr := false) Tryz.checked.mixed (enters_of (fn := Tryz.f177) (by kernel_rfl) (by kernel_rfl) (by kernel_rfl)) (fn := Tryz.f177) (by kernel_rfl) (ac := f177_ac)
    (Eq.mp (show f177_n a0 V Q = XF Tryz.prog false Tryz.f177 (f177_ac) [(.string a0)] V Q from by kernel_rfl) h)
/-- potsherd/path.May -/
def f178_n (a0 : ByteArray) (V : View) (Q : Value → View → Prop) : Prop :=
    loopP [K.int IntKind.i64] (fun (x : Int) (V : View) (J : CurP [K.int IntKind.i64]) => br (decide (x < (↑(ByteArray.size a0) : Int))) ((0 : Int) ≤ x ∧ x < (↑(ByteArray.size a0) : Int) ∧ br (!bif bif bif bif bif decide ((97 : Int) ≤ (↑(UInt8.toNat (List.getD (Array.toList (ByteArray.data a0)) (Int.toNat x) (0 : UInt8))) : Int)) then decide ((↑(UInt8.toNat (List.getD (Array.toList (ByteArray.data a0)) (Int.toNat x) (0 : UInt8))) : Int) ≤ (122 : Int)) else false then true else bif decide ((48 : Int) ≤ (↑(UInt8.toNat (List.getD (Array.toList (ByteArray.data a0)) (Int.toNat x) (0 : UInt8))) : Int)) then decide ((↑(UInt8.toNat (List.getD (Array.toList (ByteArray.data a0)) (Int.toNat x) (0 : UInt8))) : Int) ≤ (57 : Int)) else false then true else decide ((↑(UInt8.toNat (List.getD (Array.toList (ByteArray.data a0)) (Int.toNat x) (0 : UInt8))) : Int) = (46 : Int)) then true else decide ((↑(UInt8.toNat (List.getD (Array.toList (ByteArray.data a0)) (Int.toNat x) (0 : UInt8))) : Int) = (95 : Int)) then true else decide ((↑(UInt8.toNat (List.getD (Array.toList (ByteArray.data a0)) (Int.toNat x) (0 : UInt8))) : Int) = (45 : Int))) (Q (Value.bool false) V) (inI IntKind.i64 (x + (1 : Int)) ∧ J (x + (1 : Int)) V)) (Q (Value.bool (bif bif bif decide ((1 : Int) ≤ (↑(ByteArray.size a0) : Int)) then decide ((↑(ByteArray.size a0) : Int) ≤ (8 : Int)) else false then !decide (a0 = ByteArray.mk #[(46 : UInt8)]) else false then !decide (a0 = ByteArray.mk #[(46 : UInt8), (46 : UInt8)]) else false)) V)) ((0 : Int), ()) V
def f178_ac : AC := (.seq (.reg ⟨.done, false, [], [], none⟩) (.seq (.seq (.reg ⟨.done, false, [], [], none⟩) (.block none (.loop ⟨[3, 4, 8, 9, 10, 11, 12, 13, 14, 15, 16, 17, 18, 19, 20, 21, 22, 23, 24, 25, 26, 27, 28, 29, 30, 31, 32, 33, 34, 35, 36, 37, 38, 39, 40], [(7, .int .i64)], []⟩ (.seq (.reg ⟨.done, false, [], [], none⟩) (.seq (.cond none .leaf .leaf) (.seq (.block none (.seq (.reg ⟨.done, false, [], [], none⟩) (.seq (.reg ⟨.done, false, [], [], none⟩) (.seq (.reg ⟨.done, false, [], [], none⟩) (.cond none (.seq (.reg ⟨.done, false, [], [], none⟩) .leaf) .leaf))))) (.reg ⟨.done, false, [], [], none⟩))))))) (.seq (.reg ⟨.done, false, [], [], none⟩) .leaf)))
theorem f178_x {a0 : ByteArray} {V : View} {Q : Value → View → Prop} (h : f178_n a0 V Q) : CallV Tryz.prog 178 ⟨[(.string a0)]⟩ V Q :=
  XF_sound (wr := false) Tryz.checked.mixed (enters_of (fn := Tryz.f178) (by kernel_rfl) (by kernel_rfl) (by kernel_rfl)) (fn := Tryz.f178) (by kernel_rfl) (ac := f178_ac)
    (Eq.mp (show f178_n a0 V Q = XF Tryz.prog false Tryz.f178 (f178_ac) [(.string a0)] V Q from by kernel_rfl) h)
/-- potsherd/node.Refs -/
def f179_n (a0 : Int) (a1_0 : Int) (a1_1 : Int) (a1_2 : Int) (a1_3 : Sl) (a1_4 : Sl) (V : View) (Q : Value → View → Prop) : Prop :=
    ∀ (b : Nat), joinP [K.bool] (fun (J : CurP [K.bool]) => br (!decide (a1_0 = (1 : Int))) (J true V) (CallV Tryz.prog (114 : Nat) (Array.mk [Value.agg (Array.mk [Value.int IntKind.i64 a1_0, Value.int IntKind.i64 a1_1, Value.int IntKind.i64 a1_2, Value.slice (Sl.a a1_3) (Sl.n a1_3) (Sl.c a1_3), Value.slice (Sl.a a1_4) (Sl.n a1_4) (Sl.c a1_4)])]) V fun (r : Value) (V : View) => ∃ (x : Bool), r = Value.bool x ∧ br (!x) (J true V) (CallV Tryz.prog (180 : Nat) (Array.mk [Value.int IntKind.i64 a0, Value.int IntKind.i64 (11 : Int)]) V fun (r : Value) (V : View) => ∃ (x : Bool), r = Value.bool x ∧ J (!x) V))) fun (x : Bool) (V : View) => br x (Q (Value.slice none (0 : Nat) (0 : Nat)) V) (loopP [K.sl, K.int IntKind.i64] (fun (x : Sl) (x_1 : Int) (V : View) (J : CurP [K.sl, K.int IntKind.i64]) => br (decide (x_1 < (↑(Sl.n a1_3) : Int))) ((0 : Int) ≤ x_1 ∧ x_1 < (↑(Sl.n a1_3) : Int) ∧ ∃ (ad : Addr), Sl.a a1_3 = some ad ∧ ∃ (x_2 : Int), View.cell? V (Addr.add ad (Int.toNat x_1 * (1 : Nat))) = some (Value.int IntKind.i64 x_2) ∧ joinP [K.sl] (fun (J : CurP [K.sl]) => br (!decide (x_2 = (0 : Int))) (inI IntKind.i64 (a0 * (5 : Int)) ∧ inI IntKind.i64 ((1 : Int) + a0 * (5 : Int)) ∧ inI IntKind.i64 ((1 : Int) + a0 * (5 : Int) + x_1) ∧ newB V (Obj.cells (Array.mk (putL [Value.int IntKind.i64 (0 : Int), Value.int IntKind.i64 (0 : Int)] (0 : Nat) [Value.int IntKind.i64 ((1 : Int) + a0 * (5 : Int) + x_1), Value.int IntKind.i64 x_2])) (190 : Nat)) fun (r : Nat) (V : View) => apV V (190 : Nat) (2 : Nat) (16 : Nat) [Value.int IntKind.i64 (0 : Int), Value.int IntKind.i64 (0 : Int)] (Sl.mk (Sl.a x) (Sl.n x) (Sl.c x)) (Value.slice (some (Addr.mk r (0 : Nat) none)) (1 : Nat) (1 : Nat)) fun (s : Sl) (V : View) => J (Sl.mk (Sl.a s) (Sl.n s) (Sl.c s)) V) (J (Sl.mk (Sl.a x) (Sl.n x) (Sl.c x)) V)) fun (x : Sl) (V : View) => inI IntKind.i64 (x_1 + (1 : Int)) ∧ J (Sl.mk (Sl.a x) (Sl.n x) (Sl.c x)) (x_1 + (1 : Int)) V) (Q (Value.slice (Sl.a x) (Sl.n x) (Sl.c x)) V)) (Sl.mk none (0 : Nat) (0 : Nat), (0 : Int), ()) V)
def f179_ac : AC := (.seq (.reg ⟨.done, false, [], [], none⟩) (.seq (.seq (.reg ⟨.done, false, [], [], (some ⟨[8, 9, 10, 11, 12, 13, 14, 15, 16, 17, 18, 19], [(20, .bool)], []⟩)⟩) (.cond none (.seq (.reg ⟨.done, false, [], [], none⟩) .leaf) .leaf)) (.seq (.reg ⟨.done, false, [], [], none⟩) (.seq (.seq (.reg ⟨.done, false, [], [], none⟩) (.block none (.loop ⟨[6, 7, 25, 26, 27, 28, 29, 30, 31, 32, 33, 34, 35, 36, 37, 38, 39, 40, 41], [(5, .sl), (24, .int .i64)], []⟩ (.seq (.reg ⟨.done, false, [], [], none⟩) (.seq (.cond none .leaf .leaf) (.seq (.block none (.seq (.reg ⟨.done, false, [], [], none⟩) (.seq (.reg ⟨.done, false, [], [], none⟩) (.cond (some ⟨[31, 32, 33, 34, 35, 36, 37, 38, 39, 40], [(5, .sl)], []⟩) (.reg ⟨.done, false, [], [], none⟩) .leaf)))) (.reg ⟨.done, false, [], [], none⟩))))))) (.seq (.reg ⟨.done, false, [], [], none⟩) .leaf)))))
theorem f179_x {a0 : Int} {a1_0 : Int} {a1_1 : Int} {a1_2 : Int} {a1_3 : Sl} {a1_4 : Sl} {V : View} {Q : Value → View → Prop} (h : f179_n a0 a1_0 a1_1 a1_2 a1_3 a1_4 V Q) : CallV Tryz.prog 179 ⟨[(.int .i64 a0), (.agg ⟨[(.int .i64 a1_0), (.int .i64 a1_1), (.int .i64 a1_2), (.slice a1_3.a a1_3.n a1_3.c), (.slice a1_4.a a1_4.n a1_4.c)]⟩)]⟩ V Q :=
  XF_sound (wr := false) Tryz.checked.mixed (enters_of (fn := Tryz.f179) (by kernel_rfl) (by kernel_rfl) (by kernel_rfl)) (fn := Tryz.f179) (by kernel_rfl) (ac := f179_ac)
    (Eq.mp (show f179_n a0 a1_0 a1_1 a1_2 a1_3 a1_4 V Q = XF Tryz.prog false Tryz.f179 (f179_ac) [(.int .i64 a0), (.agg ⟨[(.int .i64 a1_0), (.int .i64 a1_1), (.int .i64 a1_2), (.slice a1_3.a a1_3.n a1_3.c), (.slice a1_4.a a1_4.n a1_4.c)]⟩)] V Q from by kernel_rfl) h)
/-- potsherd/node.within -/
def f180_n (a0 : Int) (a1 : Int) (V : View) (Q : Value → View → Prop) : Prop :=
    Q (Value.bool (bif decide ((0 : Int) ≤ a0) then decide (a0 ≤ a1) else false)) V
def f180_ac : AC := (.seq (.reg ⟨.done, false, [], [], none⟩) (.seq (.reg ⟨.done, false, [], [], none⟩) .leaf))
theorem f180_x {a0 : Int} {a1 : Int} {V : View} {Q : Value → View → Prop} (h : f180_n a0 a1 V Q) : CallV Tryz.prog 180 ⟨[(.int .i64 a0), (.int .i64 a1)]⟩ V Q :=
  XF_sound (wr := false) Tryz.checked.mixed (enters_of (fn := Tryz.f180) (by kernel_rfl) (by kernel_rfl) (by kernel_rfl)) (fn := Tryz.f180) (by kernel_rfl) (ac := f180_ac)
    (Eq.mp (show f180_n a0 a1 V Q = XF Tryz.prog false Tryz.f180 (f180_ac) [(.int .i64 a0), (.int .i64 a1)] V Q from by kernel_rfl) h)
/-- potsherd/name.sole -/
def f181_n (a0_0 : ByteArray) (a0_1 : Int) (V : View) (Q : Value → View → Prop) : Prop :=
    ∀ (b : Nat), CallV Tryz.prog (178 : Nat) (Array.mk [Value.string a0_0]) V fun (r : Value) (V : View) => ∃ (x : Bool), r = Value.bool x ∧ Q (Value.bool (bif bif x then decide ((1 : Int) ≤ a0_1) else false then decide (a0_1 < (12 : Int)) else false)) V
def f181_ac : AC := (.seq (.reg ⟨.done, false, [], [], none⟩) (.seq (.reg ⟨.done, false, [], [], none⟩) .leaf))
theorem f181_x {a0_0 : ByteArray} {a0_1 : Int} {V : View} {Q : Value → View → Prop} (h : f181_n a0_0 a0_1 V Q) : CallV Tryz.prog 181 ⟨[(.agg ⟨[(.string a0_0), (.int .i64 a0_1)]⟩)]⟩ V Q :=
  XF_sound (wr := false) Tryz.checked.mixed (enters_of (fn := Tryz.f181) (by kernel_rfl) (by kernel_rfl) (by kernel_rfl)) (fn := Tryz.f181) (by kernel_rfl) (ac := f181_ac)
    (Eq.mp (show f181_n a0_0 a0_1 V Q = XF Tryz.prog false Tryz.f181 (f181_ac) [(.agg ⟨[(.string a0_0), (.int .i64 a0_1)]⟩)] V Q from by kernel_rfl) h)
/-- slices.IndexFunc[[]int,int] -/
def f183_n (a0 : Sl) (g1 : FuncId) (x1 : List Value) (y1 : List Value) (V : View) (Q : Value → View → Prop) : Prop :=
    loopP [K.int IntKind.i64] (fun (x : Int) (V : View) (J : CurP [K.int IntKind.i64]) => br (decide (x < (↑(Sl.n a0) : Int))) ((0 : Int) ≤ x ∧ x < (↑(Sl.n a0) : Int) ∧ ∃ (ad : Addr), Sl.a a0 = some ad ∧ ∃ (x_1 : Int), View.cell? V (Addr.add ad (Int.toNat x * (1 : Nat))) = some (Value.int IntKind.i64 x_1) ∧ CallV Tryz.prog g1 (Array.mk (Array.toList (Array.mk x1) ++ [Value.int IntKind.i64 x_1] ++ Array.toList (Array.mk y1))) V fun (r : Value) (V : View) => ∃ (x_2 : Bool), r = Value.bool x_2 ∧ br x_2 (Q (Value.int IntKind.i64 x) V) (inI IntKind.i64 (x + (1 : Int)) ∧ J (x + (1 : Int)) V)) (Q (Value.int IntKind.i64 (-1 : Int)) V)) ((0 : Int), ()) V
def f183_ac : AC := (.seq (.reg ⟨.done, false, [], [], none⟩) (.seq (.seq (.reg ⟨.done, false, [], [], none⟩) (.block none (.loop ⟨[5, 9, 10, 11, 12, 13, 14, 15, 16, 18], [(8, .int .i64)], []⟩ (.seq (.reg ⟨.done, false, [], [], none⟩) (.seq (.cond none .leaf .leaf) (.seq (.block none (.seq (.reg ⟨.done, false, [], [], none⟩) (.seq (.reg ⟨.done, false, [], [], none⟩) (.cond none (.seq (.reg ⟨.done, false, [], [], none⟩) .leaf) .leaf)))) (.reg ⟨.done, false, [], [], none⟩))))))) (.seq (.reg ⟨.done, false, [], [], none⟩) .leaf)))
theorem f183_x {a0 : Sl} {g1 : FuncId} {x1 : List Value} {y1 : List Value} {V : View} {Q : Value → View → Prop} (h : f183_n a0 g1 x1 y1 V Q) : CallV Tryz.prog 183 ⟨[(.slice a0.a a0.n a0.c), (.func (.func g1) ⟨x1⟩ ⟨y1⟩)]⟩ V Q :=
  XF_sound (wr := false) Tryz.checked.mixed (enters_of (fn := Tryz.f183) (by kernel_rfl) (by kernel_rfl) (by kernel_rfl)) (fn := Tryz.f183) (by kernel_rfl) (ac := f183_ac)
    (Eq.mp (show f183_n a0 g1 x1 y1 V Q = XF Tryz.prog false Tryz.f183 (f183_ac) [(.slice a0.a a0.n a0.c), (.func (.func g1) ⟨x1⟩ ⟨y1⟩)] V Q from by kernel_rfl) h)
/-- potsherd/dir.Free$1 -/
def f184_n (a0_0 : Int) (a0_1 : Int) (a0_2 : Int) (a0_3 : Sl) (a0_4 : Sl) (V : View) (Q : Value → View → Prop) : Prop :=
    ∀ (b : Nat), Q (Value.bool (decide (a0_0 = (0 : Int)))) V
def f184_ac : AC := (.seq (.reg ⟨.done, false, [], [], none⟩) (.seq (.reg ⟨.done, false, [], [], none⟩) .leaf))
theorem f184_x {a0_0 : Int} {a0_1 : Int} {a0_2 : Int} {a0_3 : Sl} {a0_4 : Sl} {V : View} {Q : Value → View → Prop} (h : f184_n a0_0 a0_1 a0_2 a0_3 a0_4 V Q) : CallV Tryz.prog 184 ⟨[(.agg ⟨[(.int .i64 a0_0), (.int .i64 a0_1), (.int .i64 a0_2), (.slice a0_3.a a0_3.n a0_3.c), (.slice a0_4.a a0_4.n a0_4.c)]⟩)]⟩ V Q :=
  XF_sound (wr := false) Tryz.checked.mixed (enters_of (fn := Tryz.f184) (by kernel_rfl) (by kernel_rfl) (by kernel_rfl)) (fn := Tryz.f184) (by kernel_rfl) (ac := f184_ac)
    (Eq.mp (show f184_n a0_0 a0_1 a0_2 a0_3 a0_4 V Q = XF Tryz.prog false Tryz.f184 (f184_ac) [(.agg ⟨[(.int .i64 a0_0), (.int .i64 a0_1), (.int .i64 a0_2), (.slice a0_3.a a0_3.n a0_3.c), (.slice a0_4.a a0_4.n a0_4.c)]⟩)] V Q from by kernel_rfl) h)
/-- potsherd/name.place -/
def f185_n (a0 : Sl) (a1 : ByteArray) (V : View) (Q : Value → View → Prop) : Prop :=
    ∀ (b : Nat), View.see V b = none → CallV Tryz.prog (191 : Nat) (Array.mk [Value.slice (Sl.a a0) (Sl.n a0) (Sl.c a0), Value.func (Fn.func (192 : Nat)) (Array.mk []) (Array.mk [Value.pointer (some (Addr.mk b (0 : Nat) none))])]) (View.put V b (Obj.cells (Array.mk [Value.string a1]) (9 : Nat))) fun (r : Value) (V : View) => ∃ (x : Int), r = Value.int IntKind.i64 x ∧ Q (Value.int IntKind.i64 x) V
def f185_ac : AC := (.seq (.reg ⟨.done, false, [(1, 0)], [], none⟩) (.seq (.reg ⟨.done, false, [], [], none⟩) .leaf))
theorem f185_x {a0 : Sl} {a1 : ByteArray} {V : View} {Q : Value → View → Prop} (h : f185_n a0 a1 V Q) : CallV Tryz.prog 185 ⟨[(.slice a0.a a0.n a0.c), (.string a1)]⟩ V Q :=
  XF_sound (wr := false) Tryz.checked.mixed (enters_of (fn := Tryz.f185) (by kernel_rfl) (by kernel_rfl) (by kernel_rfl)) (fn := Tryz.f185) (by kernel_rfl) (ac := f185_ac)
    (Eq.mp (show f185_n a0 a1 V Q = XF Tryz.prog false Tryz.f185 (f185_ac) [(.slice a0.a a0.n a0.c), (.string a1)] V Q from by kernel_rfl) h)
/-- slices.Concat[[]potsherd/api.Entry,potsherd/api.Entry] -/
def f186_n (a0 : Sl) (V : View) (Q : Value → View → Prop) : Prop :=
    loopP [K.int IntKind.i64, K.int IntKind.i64] (fun (x x_1 : Int) (V : View) (J : CurP [K.int IntKind.i64, K.int IntKind.i64]) => br (decide (x_1 < (↑(Sl.n a0) : Int))) ((0 : Int) ≤ x_1 ∧ x_1 < (↑(Sl.n a0) : Int) ∧ ∃ (ad : Addr), Sl.a a0 = some ad ∧ ∃ (x_2 : Sl), View.cell? V (Addr.add ad (Int.toNat x_1 * (1 : Nat))) = some (Value.slice (Sl.a x_2) (Sl.n x_2) (Sl.c x_2)) ∧ inI IntKind.i64 (x + (↑(Sl.n x_2) : Int)) ∧ joinP [] (fun (J : CurP []) => br (decide (x + (↑(Sl.n x_2) : Int) < (0 : Int))) False (J V)) fun (V : View) => inI IntKind.i64 (x_1 + (1 : Int)) ∧ J (x + (↑(Sl.n x_2) : Int)) (x_1 + (1 : Int)) V) (CallV Tryz.prog (193 : Nat) (Array.mk [Value.slice none (0 : Nat) (0 : Nat), Value.int IntKind.i64 x]) V fun (r : Value) (V : View) => ∃ (x : Sl), r = Value.slice (Sl.a x) (Sl.n x) (Sl.c x) ∧ loopP [K.sl, K.int IntKind.i64] (fun (x : Sl) (x_2 : Int) (V : View) (J : CurP [K.sl, K.int IntKind.i64]) => br (decide (x_2 < (↑(Sl.n a0) : Int))) ((0 : Int) ≤ x_2 ∧ x_2 < (↑(Sl.n a0) : Int) ∧ ∃ (ad : Addr), Sl.a a0 = some ad ∧ ∃ (x_3 : Sl), View.cell? V (Addr.add ad (Int.toNat x_2 * (1 : Nat))) = some (Value.slice (Sl.a x_3) (Sl.n x_3) (Sl.c x_3)) ∧ apV V (85 : Nat) (2 : Nat) (24 : Nat) [Value.string (ByteArray.mk #[]), Value.int IntKind.i64 (0 : Int)] (Sl.mk (Sl.a x) (Sl.n x) (Sl.c x)) (Value.slice (Sl.a x_3) (Sl.n x_3) (Sl.c x_3)) fun (s : Sl) (V : View) => inI IntKind.i64 (x_2 + (1 : Int)) ∧ J (Sl.mk (Sl.a s) (Sl.n s) (Sl.c s)) (x_2 + (1 : Int)) V) (Q (Value.slice (Sl.a x) (Sl.n x) (Sl.c x)) V)) (Sl.mk (Sl.a x) (Sl.n x) (Sl.c x), (0 : Int), ()) V)) ((0 : Int), (0 : Int), ()) V
def f186_ac : AC := (.seq (.reg ⟨.done, false, [], [], none⟩) (.seq (.reg ⟨.done, false, [], [], none⟩) (.seq (.seq (.reg ⟨.done, false, [], [], none⟩) (.block none (.loop ⟨[5, 12, 13, 14, 15, 16, 17, 18, 19, 20, 21, 22], [(3, .int .i64), (11, .int .i64)], []⟩ (.seq (.reg ⟨.done, false, [], [], none⟩) (.seq (.cond none .leaf .leaf) (.seq (.block none (.seq (.reg ⟨.done, false, [], [], none⟩) (.seq (.reg ⟨.done, false, [], [], none⟩) (.seq (.reg ⟨.done, false, [], [], none⟩) (.cond (some ⟨[21], [], []⟩) (.reg ⟨.done, false, [], [], none⟩) .leaf))))) (.reg ⟨.done, false, [], [], none⟩))))))) (.seq (.reg ⟨.done, false, [], [], none⟩) (.seq (.seq (.reg ⟨.done, false, [], [], none⟩) (.block none (.loop ⟨[8, 28, 29, 30, 31, 32, 33, 34], [(6, .sl), (27, .int .i64)], []⟩ (.seq (.reg ⟨.done, false, [], [], none⟩) (.seq (.cond none .leaf .leaf) (.seq (.block none (.seq (.reg ⟨.done, false, [], [], none⟩) (.reg ⟨.done, false, [], [], none⟩))) (.reg ⟨.done, false, [], [], none⟩))))))) (.seq (.reg ⟨.done, false, [], [], none⟩) .leaf))))))
theorem f186_x {a0 : Sl} {V : View} {Q : Value → View → Prop} (h : f186_n a0 V Q) : CallV Tryz.prog 186 ⟨[(.slice a0.a a0.n a0.c)]⟩ V Q :=
  XF_sound (wr := false) Tryz.checked.mixed (enters_of (fn := Tryz.f186) (by kernel_rfl) (by kernel_rfl) (by kernel_rfl)) (fn := Tryz.f186) (by kernel_rfl) (ac := f186_ac)
    (Eq.mp (show f186_n a0 V Q = XF Tryz.prog false Tryz.f186 (f186_ac) [(.slice a0.a a0.n a0.c)] V Q from by kernel_rfl) h)
/-- potsherd/path.Last -/
def f187_n (a0 : ByteArray) (V : View) (Q : Value → View → Prop) : Prop :=
    CallV Tryz.prog (151 : Nat) (Array.mk [Value.string a0]) V fun (r : Value) (V : View) => ∃ (x : Sl), ∃ (x_1 : Int), r = Value.tuple (Array.mk [Value.slice (Sl.a x) (Sl.n x) (Sl.c x), Value.int IntKind.i64 x_1]) ∧ br (!decide (x_1 = (0 : Int))) (Q (Value.tuple (Array.mk [Value.string (ByteArray.mk #[]), Value.string (ByteArray.mk #[]), Value.int IntKind.i64 x_1])) V) (br (decide ((↑(Sl.n x) : Int) = (0 : Int))) (Q (Value.tuple (Array.mk [Value.string (ByteArray.mk #[]), Value.string (ByteArray.mk #[]), Value.int IntKind.i64 (18 : Int)])) V) (inI IntKind.i64 ((↑(Sl.n x) : Int) - (1 : Int)) ∧ True ∧ ∃ (S : View), View.Le S V ∧ (0 : Int) ≤ (0 : Int) ∧ (0 : Int) ≤ (↑(Sl.n x) : Int) - (1 : Int) ∧ (↑(Sl.n x) : Int) - (1 : Int) ≤ (↑(Sl.c x) : Int) ∧ (0 : Int) ≤ (↑(Sl.n x) : Int) - (1 : Int) ∧ (↑(Sl.n x) : Int) - (1 : Int) < (↑(Sl.n x) : Int) ∧ ∃ (ad : Addr), Sl.a x = some ad ∧ ∃ (x_2 : ByteArray), View.cell? S (Addr.add ad (Int.toNat ((↑(Sl.n x) : Int) - (1 : Int)) * (1 : Nat))) = some (Value.string x_2) ∧ CallV Tryz.prog (194 : Nat) (Array.mk [Value.slice (if Sl.c x = (0 : Nat) then Sl.a x else Option.map (fun (x : Addr) => Addr.add x (0 : Nat)) (Sl.a x)) (Int.toNat ((↑(Sl.n x) : Int) - (1 : Int)) - (0 : Nat)) (Sl.c x - (0 : Nat))]) V fun (r : Value) (V : View) => ∃ (x : ByteArray), r = Value.string x ∧ View.Le S V ∧ Q (Value.tuple (Array.mk [Value.string x, Value.string x_2, Value.int IntKind.i64 (0 : Int)])) V))
def f187_ac : AC := (.seq (.reg ⟨.done, false, [], [], none⟩) (.seq (.reg ⟨.done, false, [], [], none⟩) (.seq (.block none (.seq (.reg ⟨.done, false, [], [], none⟩) (.cond none (.seq (.reg ⟨.done, false, [], [], none⟩) .leaf) (.seq (.reg ⟨.done, false, [], [], none⟩) (.cond none (.seq (.reg ⟨.done, false, [], [], none⟩) .leaf) .leaf))))) (.seq (.reg ⟨.done, false, [], [], none⟩) (.seq (.reg ⟨(.fl 0 (.fl 1 (.fl 2 (.fl 4 (.fl 5 (.fl 6 (.fl 7 (.alt 3 true false (.fl 8 (.fl 9 (.fl 10 .done))) .no)))))))), true, [], [], none⟩) .leaf)))))
theorem f187_x {a0 : ByteArray} {V : View} {Q : Value → View → Prop} (h : f187_n a0 V Q) : CallV Tryz.prog 187 ⟨[(.string a0)]⟩ V Q :=
  XF_sound (wr := false) Tryz.checked.mixed (enters_of (fn := Tryz.f187) (by kernel_rfl) (by kernel_rfl) (by kernel_rfl)) (fn := Tryz.f187) (by kernel_rfl) (ac := f187_ac)
    (Eq.mp (show f187_n a0 V Q = XF Tryz.prog false Tryz.f187 (f187_ac) [(.string a0)] V Q from by kernel_rfl) h)
/-- slices.IndexFunc[[]string,string] -/
def f190_n (a0 : Sl) (g1 : FuncId) (x1 : List Value) (y1 : List Value) (V : View) (Q : Value → View → Prop) : Prop :=
    loopP [K.int IntKind.i64] (fun (x : Int) (V : View) (J : CurP [K.int IntKind.i64]) => br (decide (x < (↑(Sl.n a0) : Int))) ((0 : Int) ≤ x ∧ x < (↑(Sl.n a0) : Int) ∧ ∃ (ad : Addr), Sl.a a0 = some ad ∧ ∃ (x_1 : ByteArray), View.cell? V (Addr.add ad (Int.toNat x * (1 : Nat))) = some (Value.string x_1) ∧ CallV Tryz.prog g1 (Array.mk (Array.toList (Array.mk x1) ++ [Value.string x_1] ++ Array.toList (Array.mk y1))) V fun (r : Value) (V : View) => ∃ (x_2 : Bool), r = Value.bool x_2 ∧ br x_2 (Q (Value.int IntKind.i64 x) V) (inI IntKind.i64 (x + (1 : Int)) ∧ J (x + (1 : Int)) V)) (Q (Value.int IntKind.i64 (-1 : Int)) V)) ((0 : Int), ()) V
def f190_ac : AC := (.seq (.reg ⟨.done, false, [], [], none⟩) (.seq (.seq (.reg ⟨.done, false, [], [], none⟩) (.block none (.loop ⟨[5, 9, 10, 11, 12, 13, 14, 15, 16, 18], [(8, .int .i64)], []⟩ (.seq (.reg ⟨.done, false, [], [], none⟩) (.seq (.cond none .leaf .leaf) (.seq (.block none (.seq (.reg ⟨.done, false, [], [], none⟩) (.seq (.reg ⟨.done, false, [], [], none⟩) (.cond none (.seq (.reg ⟨.done, false, [], [], none⟩) .leaf) .leaf)))) (.reg ⟨.done, false, [], [], none⟩))))))) (.seq (.reg ⟨.done, false, [], [], none⟩) .leaf)))
theorem f190_x {a0 : Sl} {g1 : FuncId} {x1 : List Value} {y1 : List Value} {V : View} {Q : Value → View → Prop} (h : f190_n a0 g1 x1 y1 V Q) : CallV Tryz.prog 190 ⟨[(.slice a0.a a0.n a0.c), (.func (.func g1) ⟨x1⟩ ⟨y1⟩)]⟩ V Q :=
  XF_sound (wr := false) Tryz.checked.mixed (enters_of (fn := Tryz.f190) (by kernel_rfl) (by kernel_rfl) (by kernel_rfl)) (fn := Tryz.f190) (by kernel_rfl) (ac := f190_ac)
    (Eq.mp (show f190_n a0 g1 x1 y1 V Q = XF Tryz.prog false Tryz.f190 (f190_ac) [(.slice a0.a a0.n a0.c), (.func (.func g1) ⟨x1⟩ ⟨y1⟩)] V Q from by kernel_rfl) h)
/-- slices.IndexFunc[[]potsherd/api.Entry,potsherd/api.Entry] -/
def f191_n (a0 : Sl) (g1 : FuncId) (x1 : List Value) (y1 : List Value) (V : View) (Q : Value → View → Prop) : Prop :=
    loopP [K.int IntKind.i64] (fun (x : Int) (V : View) (J : CurP [K.int IntKind.i64]) => br (decide (x < (↑(Sl.n a0) : Int))) ((0 : Int) ≤ x ∧ x < (↑(Sl.n a0) : Int) ∧ ∃ (ad : Addr), Sl.a a0 = some ad ∧ ∃ (x_1 : ByteArray), ∃ (x_2 : Int), cellsAt V (Addr.add ad (Int.toNat x * (2 : Nat))) [Value.string x_1, Value.int IntKind.i64 x_2] ∧ CallV Tryz.prog g1 (Array.mk (Array.toList (Array.mk x1) ++ [Value.agg (Array.mk [Value.string x_1, Value.int IntKind.i64 x_2])] ++ Array.toList (Array.mk y1))) V fun (r : Value) (V : View) => ∃ (x_3 : Bool), r = Value.bool x_3 ∧ br x_3 (Q (Value.int IntKind.i64 x) V) (inI IntKind.i64 (x + (1 : Int)) ∧ J (x + (1 : Int)) V)) (Q (Value.int IntKind.i64 (-1 : Int)) V)) ((0 : Int), ()) V
def f191_ac : AC := (.seq (.reg ⟨.done, false, [], [], none⟩) (.seq (.seq (.reg ⟨.done, false, [], [], none⟩) (.block none (.loop ⟨[5, 9, 10, 11, 12, 13, 14, 15, 16, 18], [(8, .int .i64)], []⟩ (.seq (.reg ⟨.done, false, [], [], none⟩) (.seq (.cond none .leaf .leaf) (.seq (.block none (.seq (.reg ⟨.done, false, [], [], none⟩) (.seq (.reg ⟨.done, false, [], [], none⟩) (.cond none (.seq (.reg ⟨.done, false, [], [], none⟩) .leaf) .leaf)))) (.reg ⟨.done, false, [], [], none⟩))))))) (.seq (.reg ⟨.done, false, [], [], none⟩) .leaf)))
theorem f191_x {a0 : Sl} {g1 : FuncId} {x1 : List Value} {y1 : List Value} {V : View} {Q : Value → View → Prop} (h : f191_n a0 g1 x1 y1 V Q) : CallV Tryz.prog 191 ⟨[(.slice a0.a a0.n a0.c), (.func (.func g1) ⟨x1⟩ ⟨y1⟩)]⟩ V Q :=
  XF_sound (wr := false) Tryz.checked.mixed (enters_of (fn := Tryz.f191) (by kernel_rfl) (by kernel_rfl) (by kernel_rfl)) (fn := Tryz.f191) (by kernel_rfl) (ac := f191_ac)
    (Eq.mp (show f191_n a0 g1 x1 y1 V Q = XF Tryz.prog false Tryz.f191 (f191_ac) [(.slice a0.a a0.n a0.c), (.func (.func g1) ⟨x1⟩ ⟨y1⟩)] V Q from by kernel_rfl) h)
/-- potsherd/name.place$1 -/
def f192_n (a0_0 : ByteArray) (a0_1 : Int) (z0 : Addr) (V : View) (Q : Value → View → Prop) : Prop :=
    ∀ (b : Nat), ∃ (x : ByteArray), View.cell? V z0 = some (Value.string x) ∧ Q (Value.bool (decide (a0_0 = x))) V
def f192_ac : AC := (.seq (.reg ⟨.done, false, [], [], none⟩) (.seq (.reg ⟨.done, false, [], [], none⟩) .leaf))
theorem f192_x {a0_0 : ByteArray} {a0_1 : Int} {z0 : Addr} {V : View} {Q : Value → View → Prop} (h : f192_n a0_0 a0_1 z0 V Q) : CallV Tryz.prog 192 ⟨[(.agg ⟨[(.string a0_0), (.int .i64 a0_1)]⟩), (.pointer (some z0))]⟩ V Q :=
  XF_sound (wr := false) Tryz.checked.mixed (enters_of (fn := Tryz.f192) (by kernel_rfl) (by kernel_rfl) (by kernel_rfl)) (fn := Tryz.f192) (by kernel_rfl) (ac := f192_ac)
    (Eq.mp (show f192_n a0_0 a0_1 z0 V Q = XF Tryz.prog false Tryz.f192 (f192_ac) [(.agg ⟨[(.string a0_0), (.int .i64 a0_1)]⟩), (.pointer (some z0))] V Q from by kernel_rfl) h)
/-- slices.Grow[[]potsherd/api.Entry,potsherd/api.Entry] -/
def f193_n (a0 : Sl) (a1 : Int) (V : View) (Q : Value → View → Prop) : Prop :=
    joinP [] (fun (J : CurP []) => br (decide (a1 < (0 : Int))) False (J V)) fun (V : View) => inI IntKind.i64 ((↑(Sl.c a0) : Int) - (↑(Sl.n a0) : Int)) ∧ inI IntKind.i64 (a1 - ((↑(Sl.c a0) : Int) - (↑(Sl.n a0) : Int))) ∧ joinP [K.sl] (fun (J : CurP [K.sl]) => br (decide ((0 : Int) < a1 - ((↑(Sl.c a0) : Int) - (↑(Sl.n a0) : Int)))) ((0 : Int) ≤ (0 : Int) ∧ (0 : Int) ≤ (↑(Sl.c a0) : Int) ∧ (↑(Sl.c a0) : Int) ≤ (↑(Sl.c a0) : Int) ∧ apV V (85 : Nat) (2 : Nat) (24 : Nat) [Value.string (ByteArray.mk #[]), Value.int IntKind.i64 (0 : Int)] (Sl.mk (if Sl.c a0 = (0 : Nat) then Sl.a a0 else Option.map (fun (x : Addr) => Addr.add x (0 : Nat)) (Sl.a a0)) (Int.toNat (↑(Sl.c a0) : Int) - (0 : Nat)) (Sl.c a0 - (0 : Nat))) (Value.int IntKind.i64 (a1 - ((↑(Sl.c a0) : Int) - (↑(Sl.n a0) : Int)))) fun (s : Sl) (V : View) => (0 : Int) ≤ (0 : Int) ∧ (0 : Int) ≤ (↑(Sl.n a0) : Int) ∧ (↑(Sl.n a0) : Int) ≤ (↑(Sl.c s) : Int) ∧ J (Sl.mk (if Sl.c s = (0 : Nat) then Sl.a s else Option.map (fun (x : Addr) => Addr.add x (0 : Nat)) (Sl.a s)) (Int.toNat (↑(Sl.n a0) : Int) - (0 : Nat)) (Sl.c s - (0 : Nat))) V) (J (Sl.mk (Sl.a a0) (Sl.n a0) (Sl.c a0)) V)) fun (x : Sl) (V : View) => Q (Value.slice (Sl.a x) (Sl.n x) (Sl.c x)) V
def f193_ac : AC := (.seq (.reg ⟨.done, false, [], [], none⟩) (.seq (.seq (.reg ⟨.done, false, [], [], none⟩) (.cond (some ⟨[7], [], []⟩) (.reg ⟨.done, false, [], [], none⟩) .leaf)) (.seq (.seq (.reg ⟨.done, false, [], [], none⟩) (.seq (.reg ⟨.done, false, [], [], none⟩) (.cond (some ⟨[17, 18, 19, 20, 21, 22, 23, 24, 25], [(0, .sl)], []⟩) (.reg ⟨.done, false, [], [], none⟩) .leaf))) (.seq (.reg ⟨.done, false, [], [], none⟩) .leaf))))
theorem f193_x {a0 : Sl} {a1 : Int} {V : View} {Q : Value → View → Prop} (h : f193_n a0 a1 V Q) : CallV Tryz.prog 193 ⟨[(.slice a0.a a0.n a0.c), (.int .i64 a1)]⟩ V Q :=
  XF_sound (wr := false) Tryz.checked.mixed (enters_of (fn := Tryz.f193) (by kernel_rfl) (by kernel_rfl) (by kernel_rfl)) (fn := Tryz.f193) (by kernel_rfl) (ac := f193_ac)
    (Eq.mp (show f193_n a0 a1 V Q = XF Tryz.prog false Tryz.f193 (f193_ac) [(.slice a0.a a0.n a0.c), (.int .i64 a1)] V Q from by kernel_rfl) h)
/-- potsherd/path.Join -/
def f194_n (a0 : Sl) (V : View) (Q : Value → View → Prop) : Prop :=
    CallV Tryz.prog (199 : Nat) (Array.mk [Value.slice (Sl.a a0) (Sl.n a0) (Sl.c a0), Value.string (ByteArray.mk #[(47 : UInt8)])]) V fun (r : Value) (V : View) => ∃ (x : ByteArray), r = Value.string x ∧ (1 : Nat) + ByteArray.size x ≤ (9223372036854775807 : Nat) ∧ CallV Tryz.prog (151 : Nat) (Array.mk [Value.string (ByteArray.mk #[(47 : UInt8)] ++ x)]) V fun (r : Value) (V : View) => ∃ (x_1 : Sl), ∃ (x_2 : Int), r = Value.tuple (Array.mk [Value.slice (Sl.a x_1) (Sl.n x_1) (Sl.c x_1), Value.int IntKind.i64 x_2]) ∧ joinP [K.bool] (fun (J : CurP [K.bool]) => br (!decide (x_2 = (0 : Int))) (J true V) (CallV Tryz.prog (200 : Nat) (Array.mk [Value.slice (Sl.a x_1) (Sl.n x_1) (Sl.c x_1), Value.slice (Sl.a a0) (Sl.n a0) (Sl.c a0)]) V fun (r : Value) (V : View) => ∃ (x : Bool), r = Value.bool x ∧ J (!x) V)) fun (x_3 : Bool) (V : View) => br x_3 (Q (Value.string (ByteArray.mk #[])) V) (Q (Value.string (ByteArray.mk #[(47 : UInt8)] ++ x)) V)
def f194_ac : AC := (.seq (.reg ⟨.done, false, [], [], none⟩) (.seq (.reg ⟨.done, false, [], [], none⟩) (.seq (.reg ⟨.done, false, [], [], none⟩) (.seq (.seq (.reg ⟨.done, false, [], [], (some ⟨[14, 15, 16, 17, 18, 19, 20], [(21, .bool)], []⟩)⟩) (.cond none (.seq (.reg ⟨.done, false, [], [], none⟩) .leaf) .leaf)) (.seq (.reg ⟨.done, false, [], [], none⟩) .leaf)))))
theorem f194_x {a0 : Sl} {V : View} {Q : Value → View → Prop} (h : f194_n a0 V Q) : CallV Tryz.prog 194 ⟨[(.slice a0.a a0.n a0.c)]⟩ V Q :=
  XF_sound (wr := false) Tryz.checked.mixed (enters_of (fn := Tryz.f194) (by kernel_rfl) (by kernel_rfl) (by kernel_rfl)) (fn := Tryz.f194) (by kernel_rfl) (ac := f194_ac)
    (Eq.mp (show f194_n a0 V Q = XF Tryz.prog false Tryz.f194 (f194_ac) [(.slice a0.a a0.n a0.c)] V Q from by kernel_rfl) h)
/-- slices.Equal[[]string,string] -/
def f200_n (a0 : Sl) (a1 : Sl) (V : View) (Q : Value → View → Prop) : Prop :=
    br (!decide ((↑(Sl.n a0) : Int) = (↑(Sl.n a1) : Int))) (Q (Value.bool false) V) (loopP [K.int IntKind.i64] (fun (x : Int) (V : View) (J : CurP [K.int IntKind.i64]) => br (decide (x < (↑(Sl.n a0) : Int))) (True ∧ ∃ (S : View), View.Le S V ∧ (0 : Int) ≤ x ∧ x < (↑(Sl.n a0) : Int) ∧ ∃ (ad : Addr), Sl.a a0 = some ad ∧ ∃ (x_1 : ByteArray), View.cell? S (Addr.add ad (Int.toNat x * (1 : Nat))) = some (Value.string x_1) ∧ (0 : Int) ≤ x ∧ x < (↑(Sl.n a1) : Int) ∧ ∃ (ad : Addr), Sl.a a1 = some ad ∧ ∃ (x_2 : ByteArray), View.cell? S (Addr.add ad (Int.toNat x * (1 : Nat))) = some (Value.string x_2) ∧ br (!decide (x_1 = x_2)) (Q (Value.bool false) V) (inI IntKind.i64 (x + (1 : Int)) ∧ J (x + (1 : Int)) V)) (Q (Value.bool true) V)) ((0 : Int), ()) V)
def f200_ac : AC := (.seq (.reg ⟨.done, false, [], [], none⟩) (.seq (.seq (.reg ⟨.done, false, [], [], none⟩) (.cond none (.seq (.reg ⟨.done, false, [], [], none⟩) .leaf) .leaf)) (.seq (.seq (.reg ⟨.done, false, [], [], none⟩) (.block none (.loop ⟨[5, 14, 15, 16, 17, 18, 19, 20, 21, 22, 23, 24, 25], [(13, .int .i64)], []⟩ (.seq (.reg ⟨.done, false, [], [], none⟩) (.seq (.cond none .leaf .leaf) (.seq (.block none (.seq (.reg ⟨.done, false, [], [], none⟩) (.seq (.reg ⟨(.fl 0 (.fl 1 (.fl 2 (.fl 3 (.fl 4 (.fl 5 (.fl 6 (.fl 7 (.fl 8 .done))))))))), true, [], [], none⟩) (.cond none (.seq (.reg ⟨.done, false, [], [], none⟩) .leaf) .leaf)))) (.reg ⟨.done, false, [], [], none⟩))))))) (.seq (.reg ⟨.done, false, [], [], none⟩) .leaf))))
theorem f200_x {a0 : Sl} {a1 : Sl} {V : View} {Q : Value → View → Prop} (h : f200_n a0 a1 V Q) : CallV Tryz.prog 200 ⟨[(.slice a0.a a0.n a0.c), (.slice a1.a a1.n a1.c)]⟩ V Q :=
  XF_sound (wr := false) Tryz.checked.mixed (enters_of (fn := Tryz.f200) (by kernel_rfl) (by kernel_rfl) (by kernel_rfl)) (fn := Tryz.f200) (by kernel_rfl) (ac := f200_ac)
    (Eq.mp (show f200_n a0 a1 V Q = XF Tryz.prog false Tryz.f200 (f200_ac) [(.slice a0.a a0.n a0.c), (.slice a1.a a1.n a1.c)] V Q from by kernel_rfl) h)
end Go.Proofs.YtoogangnldppaaaGreatDoor

/- Contracts of package bytes. -/
namespace Go.Proofs.YtoogangnldppaaaGreatDoor
open Go
/-- Bytes as cells. -/
def u8s (l : List UInt8) : List Value := l.map fun b => .int .u8 b.toNat
theorem u8s_len (l : List UInt8) : (u8s l).length = l.length := List.length_map _
theorem u8s_one (l : List UInt8) : (u8s l).all Value.oneCell' = true := by
  rw [List.all_eq_true]
  intro v hv
  obtain ⟨b, _, rfl⟩ := List.mem_map.1 hv
  rfl
theorem u8s_rep {W : View} : ∀ l : List UInt8, repL W (u8s l) l
  | [] => rfl
  | b :: l => ⟨[.int .u8 b.toNat], u8s l, rfl, rfl, u8s_rep l⟩
theorem repL_u8 {W : View} : ∀ {cs : List Value} {l : List UInt8}, repL W cs l → cs = u8s l
  | _, [], h => h
  | _, b :: l, ⟨vs, us, e, h1, h2⟩ => by
    have h1 : vs = [Value.int .u8 b.toNat] := h1
    rw [e, h1, repL_u8 h2]; rfl
theorem SlR.row8 {V : View} {s : Sl} {l : List UInt8} (h : SlR V s l) : rowAt V s.a (s.n * 1) (u8s l) := by
  obtain ⟨cs, h1, h2⟩ := h.row
  rw [repL_u8 h2] at h1
  exact h1
/-- Bytes that a call made: in a row of its own. -/
structure Fresh8 (V V' : View) (x : Sl) (l : List UInt8) : Prop where
  buf : Buf V' x 5 1 (u8s l)
  le : V.Le (V'.minus x)
theorem Fresh8.slR {V V' : View} {x : Sl} {l : List UInt8} (h : Fresh8 V V' x l) : SlR V' x l := h.buf.slR (W := V) (u8s_rep l) (h.le.trans (View.minus_le _ _))
theorem Fresh8.vle {V V' : View} {x : Sl} {l : List UInt8} (h : Fresh8 V V' x l) : V.Le V' := h.le.trans (View.minus_le _ _)
theorem clone8_ok {s : Sl} {l : List UInt8} {V : View} (h : SlR V s l) (hl : l.length ≤ 140737488355328) : CallV Tryz.prog 155 ⟨[.slice s.a s.n s.c]⟩ V fun r V' => ∃ x : Sl, r = .slice x.a x.n x.c ∧ Fresh8 V V' x l := by
  refine f155_x ?_
  unfold f155_n
  have hn := h.n
  refine br_intro (fun hnil => ?_) (fun _ => ?_)
  · have ha : s.a = none := Option.isNone_iff_eq_none.1 hnil
    have hl0 : l = [] := by
      cases l with
      | nil => rfl
      | cons b l => obtain ⟨ad, vs, h1, _⟩ := h.get 0 (by simp); rw [ha] at h1; cases h1
    subst hl0
    exact ⟨⟨none, 0, 0⟩, rfl, Buf.nil _ _ _, View.Le.refl V⟩
  · intro r hr
    have hfr : V.see r = none := View.see_none_of_ge hr
    refine apV_buf (cs := []) (src := u8s l) (m := s.n) rfl ⟨rfl, Nat.le_refl _, Nat.zero_le _, .inr ⟨r, [], rfl, View.see_put_same _ _ _, rfl, rfl⟩⟩ ?_ (by rw [u8s_len, hn]; omega) (u8s_one l) (by simp; omega) (by simp; omega) ?_
    · exact ⟨rfl, (h.mono (View.put_le hfr)).row8⟩
    · intro x V' hb _ hle
      refine ⟨x, rfl, hb, View.Le.trans ?_ hle⟩
      refine ⟨Nat.le_max_left _ _, fun i o ho => ?_, rfl⟩
      have hne : i ≠ r := fun e => by rw [e, hfr] at ho; cases ho
      show (if i = r then none else View.see (V.put r _) i) = some o
      rw [if_neg hne, View.see_put_ne V _ hne]; exact ho
end Go.Proofs.YtoogangnldppaaaGreatDoor

/- Elements of rows of one's own that are set; rows that grow by an element. -/
namespace Go.Proofs.YtoogangnldppaaaGreatDoor
open Go
theorem repL.set {α : Type} [Rep α] {W : View} {d : α} {ds : List Value} (hd : Rep.rep W ds d) : ∀ {cs : List Value} {l : List α} {i : Nat}, repL W cs l → i < l.length → repL W (putL cs (i * Rep.sz α) ds) (l.set i d)
  | _, [], i, _, hi => absurd hi (by simp)
  | _, x :: l, 0, ⟨vs, us, e, h1, h2⟩, _ => by
    have hv := Rep.len h1; have hdl := Rep.len hd
    refine ⟨ds, us, ?_, hd, h2⟩
    rw [Nat.zero_mul, putL_eq _ _ _ (by rw [e, List.length_append]; omega), e, List.take_zero, List.nil_append, Nat.zero_add, List.drop_append_of_le_length (by omega), List.drop_of_length_le (by omega), List.nil_append]
  | _, x :: l, i + 1, ⟨vs, us, e, h1, h2⟩, hi => by
    have hv := Rep.len h1; have hdl := Rep.len hd; have hul := h2.len
    have hi' : i < l.length := by simpa using hi
    have hle := Nat.mul_le_mul_right (Rep.sz α) (show i + 1 ≤ l.length from hi')
    rw [Nat.add_mul] at hle
    refine ⟨vs, putL us (i * Rep.sz α) ds, ?_, h1, repL.set hd h2 hi'⟩
    rw [putL_eq _ _ _ (by rw [e, List.length_append, Nat.add_mul]; omega), putL_eq _ _ _ (by omega), e, Nat.add_mul]
    rw [show i * Rep.sz α + 1 * Rep.sz α = vs.length + i * Rep.sz α by omega, List.take_append, List.drop_append]
    rw [List.take_of_length_le (show vs.length ≤ vs.length + i * Rep.sz α by omega), List.drop_of_length_le (show vs.length ≤ vs.length + i * Rep.sz α + ds.length by omega)]
    rw [show vs.length + i * Rep.sz α - vs.length = i * Rep.sz α by omega, show vs.length + i * Rep.sz α + ds.length - vs.length = i * Rep.sz α + ds.length by omega]
    simp [List.append_assoc]
theorem putL_take : ∀ (vs cs : List Value) (off m : Nat), (putL cs off vs).take m = putL (cs.take m) off vs
  | [], _, _, _ => rfl
  | v :: vs, cs, off, m => by rw [putL, putL, putL_take vs, List.take_set]
/-- Cells of a row of one's own may be set; all else is as it was. -/
theorem Buf.set {V : View} {x : Sl} {e : TypeId} {sz : Nat} {cs vs : List Value} (h : Buf V x e sz cs) {off : Nat} (hk : off + vs.length ≤ x.n * sz) (hv : 0 < vs.length) {ad : Addr} (ha : x.a = some ad) :
    canSet V (ad.add off) vs.length ∧ Buf (V.sets (ad.add off) vs) x e sz (putL cs off vs) ∧ (V.minus x).Le ((V.sets (ad.add off) vs).minus x) := by
  rcases h.own with ⟨h1, _⟩ | ⟨r, all, h1, h2, h3, h4⟩
  · rw [h1] at ha; cases ha
  · rw [h1] at ha; cases ha
    have hle := Nat.mul_le_mul_right sz h.le
    have e0 : (⟨r, 0, none⟩ : Addr).add off = ⟨r, off, none⟩ := by rw [addr0_add]; simp
    have hlen := h.len
    rw [e0, sets_see h2]
    refine ⟨canSet_of h2 (by omega), ⟨?_, h.le, h.lim, .inr ⟨r, _, h1, View.see_put_same _ _ _, ?_, ?_⟩⟩, ?_⟩
    · rw [putL_eq _ _ _ (by omega)]; simp; omega
    · rw [putL_eq _ _ _ (by omega)]; simp; omega
    · rw [putL_take, h4]
    · unfold View.minus; rw [h1]; exact hide_le_put_hide r _
/-- Element i of a row of one's own, set. -/
theorem Buf.setE {α : Type} [Rep α] {V : View} {x : Sl} {e : TypeId} {cs vs : List Value} {l : List α} {d : α} (h : Buf V x e (Rep.sz α) cs) (hr : repL (V.minus x) cs l) (hd : Rep.rep (V.minus x) vs d) {i : Nat} (hi : i < l.length) :
    ∃ ad, x.a = some ad ∧ canSet V (ad.add (i * Rep.sz α)) vs.length ∧ Buf (V.sets (ad.add (i * Rep.sz α)) vs) x e (Rep.sz α) (putL cs (i * Rep.sz α) vs) ∧ repL ((V.sets (ad.add (i * Rep.sz α)) vs).minus x) (putL cs (i * Rep.sz α) vs) (l.set i d) ∧ (V.minus x).Le ((V.sets (ad.add (i * Rep.sz α)) vs).minus x) := by
  have hn : x.n = l.length := Nat.eq_of_mul_eq_mul_right (Rep.pos (α := α)) (h.len.symm.trans hr.len)
  have hv := Rep.len hd
  have hle := Nat.mul_le_mul_right (Rep.sz α) (show i + 1 ≤ x.n by omega)
  rw [Nat.add_mul] at hle
  have hp := Rep.pos (α := α)
  rcases h.own with ⟨h1, h2⟩ | ⟨r, all, h1, _⟩
  · have := h.le; omega
  · obtain ⟨a, b, c⟩ := h.set (off := i * Rep.sz α) (vs := vs) (by omega) (by omega) h1
    exact ⟨_, h1, a, b, (hr.mono c).set (Rep.mono c hd) hi, c⟩
theorem putL_mid {cs vs : List Value} {off j : Nat} {v : Value} (h : ∀ j v, vs[j]? = some v → cs[off + j]? = some v) (hj : j < vs.length) (hl : off + vs.length ≤ cs.length) : putL cs off (vs.set j v) = putL cs (off + j) [v] := by
  rw [putL_eq _ _ _ (by simpa using hl)]
  show _ = cs.set (off + j) v
  apply List.ext_getElem?
  intro k
  rw [List.length_set]
  by_cases h1 : k < off
  · rw [List.append_assoc, List.getElem?_append_left (by simp; omega), List.getElem?_take, if_pos h1, List.getElem?_set_ne (by omega)]
  · by_cases h2 : k < off + vs.length
    · rw [List.append_assoc, List.getElem?_append_right (by simp; omega), List.getElem?_append_left (by simp; omega), List.length_take, Nat.min_eq_left (by omega)]
      by_cases h3 : k = off + j
      · subst h3
        rw [show off + j - off = j by omega, List.getElem?_set_self hj, List.getElem?_set_self (by omega)]
      · rw [List.getElem?_set_ne (by omega), List.getElem?_set_ne (by omega)]
        have h4 : k - off < vs.length := by omega
        have := h (k - off) _ (List.getElem?_eq_getElem h4)
        rw [show off + (k - off) = k by omega] at this
        rw [this, List.getElem?_eq_getElem h4]
    · rw [List.getElem?_append_right (by simp; omega), List.getElem?_drop, List.getElem?_set_ne (by omega)]
      congr 1
      simp; omega
/-- A cell of element i of a row of one's own, set. -/
theorem Buf.setC {α : Type} [Rep α] {V : View} {x : Sl} {e : TypeId} {cs : List Value} {l : List α} (h : Buf V x e (Rep.sz α) cs) (hr : repL (V.minus x) cs l) {i : Nat} (hi : i < l.length) :
    ∃ ad vs, x.a = some ad ∧ cellsAt V (ad.add (i * Rep.sz α)) vs ∧ Rep.rep (V.minus x) vs l[i] ∧ ∀ j v d, j < Rep.sz α → Rep.rep (V.minus x) (vs.set j v) d →
      canSet V ((ad.add (i * Rep.sz α)).add j) 1 ∧ Buf (V.sets ((ad.add (i * Rep.sz α)).add j) [v]) x e (Rep.sz α) (putL cs (i * Rep.sz α + j) [v]) ∧ repL ((V.sets ((ad.add (i * Rep.sz α)).add j) [v]).minus x) (putL cs (i * Rep.sz α + j) [v]) (l.set i d) ∧ (V.minus x).Le ((V.sets ((ad.add (i * Rep.sz α)).add j) [v]).minus x) := by
  have hn : x.n = l.length := Nat.eq_of_mul_eq_mul_right (Rep.pos (α := α)) (h.len.symm.trans hr.len)
  obtain ⟨vs, hv, hg⟩ := hr.get i hi
  have hvl := Rep.len hv
  have hle := Nat.mul_le_mul_right (Rep.sz α) (show i + 1 ≤ x.n by omega)
  rw [Nat.add_mul] at hle
  have hcl := h.len
  rcases h.own with ⟨h1, h2⟩ | ⟨r, all, h1, h2, h3, h4⟩
  · have := h.le; omega
  · refine ⟨_, vs, h1, ?_, hv, fun j v d hj hd => ?_⟩
    · rw [addr0_add]
      refine cellsAt_of_see h2 fun j v hj => ?_
      have := hg j v hj
      rw [← h4, List.getElem?_take] at this
      split at this
      · simpa using this
      · cases this
    · rw [Addr.add_add]
      obtain ⟨a, b, c⟩ := h.set (off := i * Rep.sz α + j) (vs := [v]) (by simp; omega) (by simp) h1
      refine ⟨a, b, ?_, c⟩
      rw [← putL_mid hg (by omega) (by omega)]
      exact (hr.mono c).set (Rep.mono c hd) hi
/-- An element in a new block, appended to a row of one's own. -/
theorem app0 {α : Type} [Rep α] {V V0 : View} {r : Nat} {x : Sl} {e : TypeId} {bytes : Nat} {zero : List Value} {cs vs : List Value} {l : List α} {d : α} {C : Sl → View → Prop} {ob : Obj} {te : TypeId}
    (hz : zero.length = Rep.sz α) (hb : Buf V x e (Rep.sz α) cs) (hr : repL (V.minus x) cs l) (hd : Rep.rep (V.minus x) vs d) (hle : V0.Le (V.minus x)) (hnew : V.size ≤ r) (hob : ob = .cells ⟨vs⟩ te (0, 0))
    (hm : (x.n + 1) * bytes ≤ 140737488355328) (hm2 : x.n + 1 ≤ 140737488355328)
    (hC : ∀ s V' cs', Buf V' s e (Rep.sz α) cs' → repL (V'.minus s) cs' (l ++ [d]) → V0.Le (V'.minus s) → C s V') :
    apV (V.put r ob) e (Rep.sz α) bytes zero x (.slice (some ⟨r, 0, none⟩) 1 1) C := by
  subst hob
  have hfr : V.see r = none := View.see_none_of_ge hnew
  have hvl : vs.length = Rep.sz α := Rep.len hd
  refine apV_buf hz (hb.put hfr) (src := vs) (m := 1) ⟨rfl, rowAt_new (View.see_put_same _ _ _) (by rw [Nat.one_mul]; exact hvl)⟩ (by rw [Nat.one_mul]; exact hvl) (Rep.one hd) hm hm2 fun s V' hb' _ hle' => ?_
  have h1 : (V.minus x).Le (V'.minus s) := (put_minus_le hfr).trans hle'
  exact hC s V' _ hb' ((hr.mono h1).snoc (Rep.mono h1 hd)) (hle.trans h1)
/-- An element appended to a row of one's own that stands beside another one. -/
theorem app0b {α : Type} [Rep α] {V V0 : View} {x y : Sl} {e e' : TypeId} {bytes sz' : Nat} {zero : List Value} {cs vs ds : List Value} {l : List α} {d : α} {C : Sl → View → Prop} {r : Nat}
    (hz : zero.length = Rep.sz α) (hb : Buf V x e (Rep.sz α) cs) (hy : Buf (V.minus x) y e' sz' ds) (hr : repL V0 cs l) (hd : Rep.rep V0 vs d) (hle : V0.Le ((V.minus x).minus y)) (hrow : rowAt V (some ⟨r, 0, none⟩) (1 * Rep.sz α) vs)
    (hm : (l.length + 1) * bytes ≤ 140737488355328) (hm2 : l.length + 1 ≤ 140737488355328)
    (hC : ∀ s V', Buf V' s e (Rep.sz α) (cs ++ vs) → Buf (V'.minus s) y e' sz' ds → repL V0 (cs ++ vs) (l ++ [d]) → V0.Le ((V'.minus s).minus y) → C s V') :
    apV V e (Rep.sz α) bytes zero x (.slice (some ⟨r, 0, none⟩) 1 1) C := by
  have hvl : vs.length = Rep.sz α := Rep.len hd
  have hn : x.n = l.length := Nat.eq_of_mul_eq_mul_right (Rep.pos (α := α)) (hb.len.symm.trans hr.len)
  refine apV_buf hz hb (src := vs) (m := 1) ⟨rfl, hrow⟩ (by rw [Nat.one_mul]; exact hvl) (Rep.one hd) (by rw [hn]; exact hm) (by rw [hn]; exact hm2) fun s V' hb' _ hle' => ?_
  exact hC s V' hb' (hy.mono hle') (hr.snoc hd) (hle.trans (minus_mono hle' y))
/-- A row of data copied behind a row of one's own. -/
theorem appRow {α : Type} [Rep α] {V V0 : View} {x y : Sl} {e : TypeId} {bytes : Nat} {zero : List Value} {cs : List Value} {l m : List α} {C : Sl → View → Prop}
    (hz : zero.length = Rep.sz α) (hb : Buf V x e (Rep.sz α) cs) (hr : repL (V.minus x) cs l) (hy : SlR (V.minus x) y m) (hle : V0.Le (V.minus x))
    (hm : (l.length + m.length) * bytes ≤ 140737488355328) (hm2 : l.length + m.length ≤ 140737488355328)
    (hC : ∀ s V' cs', Buf V' s e (Rep.sz α) cs' → repL (V'.minus s) cs' (l ++ m) → V0.Le (V'.minus s) → C s V') :
    apV V e (Rep.sz α) bytes zero x (.slice y.a y.n y.c) C := by
  obtain ⟨cy, hrow, hcy⟩ := hy.row
  have hyn := hy.n
  have hn : x.n = l.length := Nat.eq_of_mul_eq_mul_right (Rep.pos (α := α)) (hb.len.symm.trans hr.len)
  have hrow' : rowAt V y.a (y.n * Rep.sz α) cy := by
    cases ha : y.a with
    | none => rw [ha] at hrow; exact hrow
    | some a => rw [ha] at hrow; exact ⟨hrow.1, cellsAt_mono (View.minus_le _ _) hrow.2⟩
  refine apV_buf hz hb (src := cy) (m := y.n) ⟨rfl, hrow'⟩ (by rw [hcy.len, hyn]) hcy.one (by rw [hn, hyn]; exact hm) (by rw [hn, hyn]; exact hm2) fun s V' hb' _ hle' => ?_
  exact hC s V' _ hb' ((hr.mono hle').append (hcy.mono hle')) (hle.trans hle')
end Go.Proofs.YtoogangnldppaaaGreatDoor

/- Paths, as plain functions on bytes; what they answer. No program in this text. -/
namespace Go.Proofs.YtoogangnldppaaaGreatDoor
open Go
abbrev bl (s : ByteArray) : List UInt8 := s.data.toList
def ba (l : List UInt8) : ByteArray := ⟨⟨l⟩⟩
@[simp] theorem bl_ba (l : List UInt8) : bl (ba l) = l := rfl
@[simp] theorem ba_bl (s : ByteArray) : ba (bl s) = s := rfl
theorem bl_inj {s t : ByteArray} (h : bl s = bl t) : s = t := by rw [← ba_bl s, h, ba_bl]
theorem bl_len (s : ByteArray) : (bl s).length = s.size := by simp [bl]
theorem bl_append (s t : ByteArray) : bl (s ++ t) = bl s ++ bl t := by
  show (s ++ t).data.toList = _
  rw [ByteArray.data_append, Array.toList_append]
theorem ba_size (l : List UInt8) : (ba l).size = l.length := rfl
theorem ba_append (l m : List UInt8) : ba l ++ ba m = ba (l ++ m) := bl_inj (by rw [bl_append]; rfl)
theorem map_ba_bl (l : List ByteArray) : (l.map bl).map ba = l := by simp [Function.comp_def]
theorem map_bl_ba (l : List (List UInt8)) : (l.map ba).map bl = l := by simp [Function.comp_def]

def okB (b : Nat) : Bool := (97 ≤ b && b ≤ 122) || (48 ≤ b && b ≤ 57) || b == 46 || b == 95 || b == 45
/-- May a name be? -/
def mayB (s : ByteArray) : Bool := (bl s).all (fun b => okB b.toNat) && (1 ≤ s.size && s.size ≤ 8 && !decide (s = ByteArray.mk #[46]) && !decide (s = ByteArray.mk #[46, 46]))
/-- Cut at each '/'. -/
def splitS : List UInt8 → List (List UInt8)
  | [] => [[]]
  | c :: s => if c = 47 then [] :: splitS s else match splitS s with
    | h :: t => (c :: h) :: t
    | [] => [[c]]
theorem splitS_ne : ∀ s, splitS s ≠ []
  | [] => by simp [splitS]
  | c :: s => by
    unfold splitS
    split
    · simp
    · split <;> simp
theorem splitS_no : ∀ {s : List UInt8}, 47 ∉ s → splitS s = [s]
  | [], _ => rfl
  | c :: s, h => by
    have h1 : c ≠ 47 := fun e => h (by simp [e])
    have h2 : 47 ∉ s := fun e => h (by simp [e])
    unfold splitS
    rw [if_neg h1, splitS_no h2]
theorem splitS_app (b : List UInt8) : ∀ a : List UInt8, splitS (a ++ 47 :: b) = splitS a ++ splitS b
  | [] => by simp [splitS]
  | c :: a => by
    simp only [List.cons_append]
    by_cases h : c = 47
    · rw [splitS, splitS, if_pos h, if_pos h, splitS_app b a]; rfl
    · rw [splitS, splitS, if_neg h, if_neg h, splitS_app b a]
      cases hs : splitS a with
      | nil => exact absurd hs (splitS_ne a)
      | cons x y => rfl
theorem join_cons2 (x y : List UInt8) (l : List (List UInt8)) : Lib.join (x :: y :: l) [47] = x ++ 47 :: Lib.join (y :: l) [47] := by
  rw [Lib.join_cons, Lib.join_cons]
  simp [Lib.joinTail]
theorem join_split : ∀ s : List UInt8, Lib.join (splitS s) [47] = s
  | [] => by simp [splitS, Lib.join_one]
  | c :: s => by
    have ih := join_split s
    unfold splitS
    split
    · rename_i h
      cases hs : splitS s with
      | nil => exact absurd hs (splitS_ne s)
      | cons x y => rw [join_cons2, ← hs, ih, h]; rfl
    · cases hs : splitS s with
      | nil => exact absurd hs (splitS_ne s)
      | cons x y =>
        rw [hs] at ih
        show Lib.join ((c :: x) :: y) [47] = _
        rw [Lib.join_cons] at ih ⊢
        rw [List.cons_append, ih]
theorem split_join : ∀ l : List (List UInt8), l ≠ [] → (∀ x ∈ l, 47 ∉ x) → splitS (Lib.join l [47]) = l
  | [], h, _ => absurd rfl h
  | [x], _, h => by rw [Lib.join_one, splitS_no (h x (by simp))]
  | x :: y :: l, _, h => by
    rw [join_cons2, splitS_app, splitS_no (h x (by simp)), split_join (y :: l) (by simp) (fun z hz => h z (by simp [hz]))]
    rfl
theorem mayB_no {s : ByteArray} (h : mayB s = true) : 47 ∉ bl s := fun hm => by
  unfold mayB at h
  rw [Bool.and_eq_true, List.all_eq_true] at h
  have := h.1 47 hm
  revert this
  decide
theorem mayB_size {s : ByteArray} (h : mayB s = true) : 1 ≤ s.size ∧ s.size ≤ 8 := by
  unfold mayB at h
  simp only [Bool.and_eq_true, decide_eq_true_eq] at h
  exact ⟨h.2.1.1.1, h.2.1.1.2⟩

/-- A path's names; none: it is none. -/
def splitP (s : ByteArray) : Option (List ByteArray) :=
  match bl s with
  | [] => none
  | c :: r => if c = 47 ∧ s.size ≤ 60 then (if r = [] then some [] else if ((splitS r).map ba).all mayB then some ((splitS r).map ba) else none) else none
theorem splitP_some {s : ByteArray} {l : List ByteArray} (h : splitP s = some l) : s.size ≤ 60 ∧ l.all mayB = true ∧ bl s = 47 :: Lib.join (l.map bl) [47] := by
  unfold splitP at h
  split at h
  · cases h
  · rename_i c r hs
    split at h
    · rename_i hc
      obtain ⟨rfl, hl⟩ := hc
      split at h
      · rename_i hr; cases h; exact ⟨hl, rfl, by rw [hs, hr]; rfl⟩
      · split at h
        · rename_i hm; cases h; exact ⟨hl, hm, by rw [hs, map_bl_ba, join_split]⟩
        · cases h
    · cases h
theorem splitP_join {l : List ByteArray} (h : l.all mayB = true) (hs : (Lib.join (l.map bl) [47]).length ≤ 59) : splitP (ba (47 :: Lib.join (l.map bl) [47])) = some l := by
  unfold splitP
  simp only [bl_ba]
  rw [if_pos ⟨trivial, by rw [ba_size]; simp; omega⟩]
  cases l with
  | nil => simp [Lib.join_nil]
  | cons x l =>
    have hno : ∀ y ∈ (x :: l).map bl, 47 ∉ y := fun y hy => by
      obtain ⟨z, hz, rfl⟩ := List.mem_map.1 hy
      exact mayB_no (List.all_eq_true.1 h z hz)
    have hx : 1 ≤ (bl x).length := by rw [bl_len]; exact (mayB_size (List.all_eq_true.1 h x (by simp))).1
    rw [split_join _ (by simp) hno, map_ba_bl, if_neg, if_pos h]
    intro e
    rw [List.map_cons, Lib.join_cons] at e
    simp only [List.append_eq_nil_iff] at e
    rw [e.1] at hx
    simp at hx
/-- The path of names; nothing: they have none. -/
def joinP1 (l : List ByteArray) : ByteArray := if splitP (ba (47 :: Lib.join (l.map bl) [47])) = some l then ba (47 :: Lib.join (l.map bl) [47]) else ba []
/-- A path without its last name, that name, what is answered. -/
def lastP (s : ByteArray) : ByteArray × ByteArray × Int :=
  match splitP s with
  | none => (ba [], ba [], 7)
  | some l => if h : l = [] then (ba [], ba [], 18) else (joinP1 l.dropLast, l.getLast h, 0)
theorem joinS_snoc (l : List ByteArray) (n : ByteArray) (hl : l ≠ []) : Lib.join ((l ++ [n]).map bl) [47] = Lib.join (l.map bl) [47] ++ 47 :: bl n := by
  cases l with
  | nil => exact absurd rfl hl
  | cons x l =>
    simp only [List.cons_append, List.map_cons, Lib.join_cons, List.map_append, List.map_nil]
    simp [Lib.joinTail]
theorem cut47 : ∀ {t : List UInt8}, 47 ∈ t → ∃ a b, t = a ++ 47 :: b ∧ 47 ∉ a
  | [], h => by simp at h
  | c :: t, h => by
    by_cases hc : c = 47
    · exact ⟨[], t, by rw [hc]; rfl, by simp⟩
    · obtain ⟨a, b, e, hn⟩ := cut47 (t := t) (by
        rcases List.mem_cons.1 h with h | h
        · exact absurd h.symm hc
        · exact h)
      exact ⟨c :: a, b, by rw [e]; rfl, fun h => by
        rcases List.mem_cons.1 h with h | h
        · exact hc h.symm
        · exact hn h⟩
theorem occ47 {t : List UInt8} {j : Nat} (h : ∀ c, t[j]? = some c → c ≠ 47) : Lib.occAt t [47] j = false := by
  unfold Lib.occAt
  cases hd : t.drop j with
  | nil => rfl
  | cons c r =>
    have h5 : t[j]? = some c := by
      have := List.getElem?_drop (xs := t) (i := j) (j := 0)
      rw [hd] at this; simpa using this.symm
    have hc := h c h5
    simp [List.isPrefixOf, Ne.symm hc]
theorem idx47 {a b : List UInt8} (h : 47 ∉ a) : Lib.index (a ++ 47 :: b) [47] = a.length := by
  refine Lib.index_first (by simp) ?_ fun _ hj => occ47 fun _ hc => ?_
  · simp [Lib.occAt, List.isPrefixOf]
  · rw [List.getElem?_append_left hj] at hc
    exact fun e => h (e ▸ List.mem_of_getElem? hc)
theorem idx47_none {t : List UInt8} (h : 47 ∉ t) : Lib.index t [47] = -1 :=
  Lib.index_none fun _ _ => occ47 fun _ hc e => h (e ▸ List.mem_of_getElem? hc)
/-- The kit's own words for cutting. -/
theorem splitK_eq : ∀ (k : Nat) (t : List UInt8), t.count 47 ≤ k → Lib.splitK [47] 0 k t = splitS t
  | 0, t, ht => by
    have : 47 ∉ t := fun hm => by
      have := List.count_pos_iff.2 hm
      omega
    rw [splitS_no this]; rfl
  | k + 1, t, ht => by
    by_cases hm : 47 ∈ t
    · obtain ⟨a, b, rfl, hn⟩ := cut47 hm
      have ih := splitK_eq k b (by simp at ht; omega)
      unfold Lib.splitK
      rw [idx47 hn, if_neg (by rw [beq_iff_eq]; omega), splitS_app, splitS_no hn]
      have e1 : (a ++ 47 :: b).take (((a.length : Nat) : Int).toNat + 0) = a := by simp
      have e2 : (a ++ 47 :: b).drop (((a.length : Nat) : Int).toNat + [(47 : UInt8)].length) = b := by simp
      rw [e1, e2, ih]; rfl
    · unfold Lib.splitK
      rw [idx47_none hm, if_pos (by rfl), splitS_no hm]
theorem splitB_eq (s : ByteArray) : Lib.splitB (ba [47]) 0 (Lib.countB s (ba [47])) s = (splitS (bl s)).map ba := by
  have h1 := Lib.splitB_data (ba [47]) 0 (Lib.countB s (ba [47])) s
  have h2 : Lib.countB s (ba [47]) = (bl s).count 47 := Lib.count_one 47 (bl s)
  have h3 : (Lib.splitB (ba [47]) 0 (Lib.countB s (ba [47])) s).map bl = splitS (bl s) := by
    show (Lib.splitB (ba [47]) 0 (Lib.countB s (ba [47])) s).map (·.data.toList) = _
    rw [h1]
    exact splitK_eq _ _ (by rw [h2]; exact Nat.le_refl _)
  rw [← h3, map_ba_bl]
end Go.Proofs.YtoogangnldppaaaGreatDoor

/- The contract of path.May. -/
namespace Go.Proofs.YtoogangnldppaaaGreatDoor
open Go
theorem pathMay_ok {s : ByteArray} {V : View} (hs : s.size ≤ 9223372036854775807) : CallV Tryz.prog 178 ⟨[.string s]⟩ V fun r V' => r = .bool (mayB s) ∧ V' = V := by
  refine f178_x ?_
  unfold f178_n
  refine loop1 (k := .int .i64) (fun (x : Int) V' => V' = V ∧ 0 ≤ x ∧ x ≤ s.size ∧ (s.data.toList.take x.toNat).all (fun b => okB b.toNat) = true) (fun (x : Int) _ => s.size - x.toNat) ⟨rfl, by omega, by omega, rfl⟩ ?_
  rintro (x : Int) V' ⟨rfl, h0, h1, h2⟩
  have hsz : s.data.toList.length = s.size := by simp
  refine br_intro (fun hlt => ?_) (fun hge => ?_)
  · have hlt : x < s.size := by simpa using hlt
    have hx : x.toNat < s.data.toList.length := by omega
    have hg : s.data.toList.getD x.toNat 0 = s.data.toList[x.toNat] := by rw [List.getD_eq_getElem?_getD, List.getElem?_eq_getElem hx]; rfl
    refine ⟨h0, hlt, ?_⟩
    rw [hg]
    generalize hb : s.data.toList[x.toNat] = b
    refine br_intro (fun hn => ⟨?_, rfl⟩) (fun hn => ⟨inI64 (by omega) (by omega), ⟨rfl, by omega, by omega, ?_⟩, by omega⟩)
    · have hk : okB b.toNat = false := by
        unfold okB
        simp at hn ⊢
        omega
      unfold mayB
      have : (s.data.toList.all fun b => okB b.toNat) = false := by
        rw [List.all_eq_false]
        exact ⟨b, hb ▸ List.getElem_mem hx, by simp [hk]⟩
      rw [show bl s = s.data.toList from rfl, this]; rfl
    · have hk : okB b.toNat = true := by
        unfold okB
        simp at hn ⊢
        omega
      rw [show (x + 1).toNat = x.toNat + 1 by omega, List.take_add_one, List.all_append, h2, List.getElem?_eq_getElem hx, hb]
      simp [hk]
  · have hge : ¬ x < s.size := by simpa using hge
    rw [List.take_of_length_le (by omega)] at h2
    refine ⟨?_, rfl⟩
    unfold mayB
    rw [show bl s = s.data.toList from rfl, h2]
    congr 1
    rw [Bool.eq_iff_iff]
    simp
    omega
end Go.Proofs.YtoogangnldppaaaGreatDoor

/- Trees that may be: plain functions. No program in this text. -/
namespace Go.Proofs.YtoogangnldppaaaGreatDoor
open Go
theorem getD_at {α : Type} [Inhabited α] {l : List α} {i : Nat} (h : i < l.length) : l.getD i default = l[i] := by
  rw [List.getD_eq_getElem?_getD, List.getElem?_eq_getElem h]; rfl
theorem getD_at0 {l : List Int} {i : Nat} (h : i < l.length) : l.getD i 0 = l[i] := by
  rw [List.getD_eq_getElem?_getD, List.getElem?_eq_getElem h]; rfl
def soleE (x : Ent) : Bool := mayB x.name && decide (1 ≤ x.node) && decide (x.node < 12)
def okE (l : List Ent) (i : Nat) : Bool := soleE (l.getD i default) && (decide (i = 0) || sLess (l.getD (i - 1) default).name (l.getD i default).name)
/-- May a directory's entries be? -/
def mayL (l : List Ent) : Bool := (List.range l.length).all (okE l) && decide (l.length ≤ 10)
def within (n m : Int) : Bool := decide (0 ≤ n) && decide (n ≤ m)
def okS (size : Int) (l : List Int) (i : Nat) : Bool := within (l.getD i 0) 1099511627776 && !(decide (size ≤ i * 16) && !decide (l.getD i 0 = 0))
def fileB (n : Nod) : Bool := within n.links 120 && within n.size 80 && decide (n.seqs.length = 5) && decide (n.ents.length = 0) && (List.range n.seqs.length).all (okS n.size n.seqs)
/-- May a node be? -/
def mayN (n : Nod) : Bool :=
  if n.kind = 0 then decide (n.links = 0) && decide (n.size = 0) && decide (n.seqs.length = 0) && decide (n.ents.length = 0)
  else if n.kind = 1 then fileB n
  else if n.kind = 2 then decide (n.links = 1) && decide (n.size = 0) && decide (n.seqs.length = 0) && mayL n.ents
  else false
/-- How many entries name each node. -/
def cnt (n : Nat) (es : List Ent) : List Int := (List.range n).map fun (j : Nat) => ((es.countP (fun (x : Ent) => decide (x.node = (j : Int))) : Nat) : Int)
def allE (t : Tre) : List Ent := t.flatMap Nod.ents
/-- Which nodes one comes to. -/
inductive Reach (t : Tre) (a : Nat) : Nat → Prop where
  | refl : Reach t a a
  | step {i : Nat} {x : Ent} (h : Reach t a i) (hx : x ∈ (t.getD i default).ents) : Reach t a x.node.toNat
open Classical in
noncomputable def metB (t : Tre) (a j : Nat) : Bool := decide (Reach t a j)
theorem metB_iff {t : Tre} {a j : Nat} : metB t a j = true ↔ Reach t a j := by simp [metB]
def hangB (n : Nod) (i named : Int) (met : Bool) : Bool :=
  if n.kind = 2 then met && (decide (i = 0) || decide (named = 1)) else if n.kind = 1 then decide (n.links = named) else decide (named = 0)
/-- Does no writing stand twice? -/
def apartL (l : List Int) : Bool := decide ((l.filter fun s => decide (s ≠ 0)).Nodup)
def allS (t : Tre) : List Int := t.flatMap Nod.seqs
/-- May a tree be? -/
noncomputable def mayT (t : Tre) : Bool :=
  decide (t.length = 12) && t.all mayN && decide ((t.getD 0 default).kind = 2) && (List.range 12).all (fun i => hangB (t.getD i default) i ((cnt 12 (allE t)).getD i 0) (metB t 0 i)) && apartL (allS t)
theorem mayL_len {l : List Ent} (h : mayL l = true) : l.length ≤ 10 := by
  unfold mayL at h; simp at h; exact h.2
theorem mayL_node {l : List Ent} (h : mayL l = true) {x : Ent} (hx : x ∈ l) : 1 ≤ x.node ∧ x.node < 12 ∧ mayB x.name = true := by
  unfold mayL at h
  simp only [Bool.and_eq_true, List.all_eq_true, List.mem_range] at h
  obtain ⟨i, hi, rfl⟩ := List.getElem_of_mem hx
  have := h.1 i hi
  unfold okE soleE at this
  rw [List.getD_eq_getElem?_getD, List.getElem?_eq_getElem hi] at this
  simp at this
  exact ⟨this.1.1.2, this.1.2, this.1.1.1⟩
theorem mayN_ents {n : Nod} (h : mayN n = true) : mayL n.ents = true := by
  have nil : n.ents.length = 0 → mayL n.ents = true := fun h => by
    rw [List.length_eq_zero_iff] at h
    rw [h]; rfl
  unfold mayN at h
  split at h
  · simp at h; exact nil (by simp [h])
  · split at h
    · unfold fileB at h; simp at h; exact nil (by simp [h])
    · split at h
      · simp at h; exact h.2
      · cases h
end Go.Proofs.YtoogangnldppaaaGreatDoor

/- Contracts of what tells whether nodes may be. -/
namespace Go.Proofs.YtoogangnldppaaaGreatDoor
open Go
theorem dec_not {p q : Prop} [Decidable p] [Decidable q] (h : p ↔ ¬ q) : decide p = !decide q := by
  by_cases hq : q <;> simp [h, hq]
theorem not_t {b : Bool} (h : (!b) = true) : b = false := by cases b <;> simp_all
theorem not_f {b : Bool} (h : (!b) = false) : b = true := by cases b <;> simp_all
theorem SlR.entN {V : View} {s : Sl} {l : List Ent} (h : SlR V s l) {i : Nat} (hi : i < l.length) :
    ∃ ad, s.a = some ad ∧ cellsAt V (ad.add (i * 2)) [.string (l.getD i default).name, .int .i64 (l.getD i default).node] ∧ (l.getD i default).name.size ≤ 9223372036854775807 ∧ inI .i64 (l.getD i default).node := by
  obtain ⟨ad, hx, ha, hc, h1, h2⟩ := h.ent (x := (i : Int)) (by omega) (by have := h.n; omega)
  rw [getD_at hi]
  exact ⟨ad, ha, hc, h1, h2⟩
theorem SlR.intN {V : View} {s : Sl} {l : List Int} (h : SlR V s l) {i : Nat} (hi : i < l.length) :
    ∃ ad, s.a = some ad ∧ V.cell? (ad.add (i * 1)) = some (.int .i64 (l.getD i 0)) ∧ inI .i64 (l.getD i 0) := by
  obtain ⟨ad, hx, ha, hc, h1⟩ := h.int (x := (i : Int)) (by omega) (by have := h.n; omega)
  rw [getD_at0 hi]
  exact ⟨ad, ha, hc, h1⟩
theorem SlR.nodN {V : View} {s : Sl} {l : List Nod} (h : SlR V s l) {i : Nat} (hi : i < l.length) :
    ∃ ad sq en, s.a = some ad ∧ cellsAt V (ad.add (i * 5)) [.int .i64 (l.getD i default).kind, .int .i64 (l.getD i default).links, .int .i64 (l.getD i default).size, .slice sq.a sq.n sq.c, .slice en.a en.n en.c] ∧ NodR V sq en (l.getD i default) := by
  obtain ⟨ad, sq, en, hx, ha, hc, h1⟩ := h.nod (x := (i : Int)) (by omega) (by have := h.n; omega)
  rw [getD_at hi]
  exact ⟨ad, sq, en, ha, hc, h1⟩
theorem all_step {P : Nat → Bool} {i : Nat} (h : (List.range i).all P = true) (hp : P i = true) : (List.range (i + 1)).all P = true := by
  rw [List.range_succ, List.all_append, h]; simp [hp]
theorem all_stop {P : Nat → Bool} {i n : Nat} (h : i < n) (hp : P i = false) : (List.range n).all P = false := by
  rw [List.all_eq_false]
  exact ⟨i, List.mem_range.2 h, by simp [hp]⟩
/-- A node as an argument. -/
def nodV (n : Nod) (s e : Sl) : Value := .agg ⟨[.int .i64 n.kind, .int .i64 n.links, .int .i64 n.size, .slice s.a s.n s.c, .slice e.a e.n e.c]⟩
def entV (x : Ent) : Value := .agg ⟨[.string x.name, .int .i64 x.node]⟩
def treV (s : Sl) : Value := .agg ⟨[.slice s.a s.n s.c]⟩
theorem within_ok {a b : Int} {V : View} : CallV Tryz.prog 180 ⟨[.int .i64 a, .int .i64 b]⟩ V fun r V' => r = .bool (within a b) ∧ V' = V := by
  refine f180_x ?_
  unfold f180_n
  refine ⟨?_, rfl⟩
  unfold within
  cases decide (0 ≤ a) <;> rfl
theorem sole_ok {x : Ent} {V : View} (hx : x.name.size ≤ 9223372036854775807) : CallV Tryz.prog 181 ⟨[entV x]⟩ V fun r V' => r = .bool (soleE x) ∧ V' = V := by
  refine f181_x ?_
  unfold f181_n
  refine fun _ => (pathMay_ok hx).mono ?_
  rintro r V' ⟨rfl, rfl⟩
  refine ⟨_, rfl, ?_, rfl⟩
  unfold soleE
  cases mayB x.name <;> cases decide (1 ≤ x.node) <;> rfl
theorem mayL_ok {s : Sl} {l : List Ent} {V : View} (h : SlR V s l) : CallV Tryz.prog 162 ⟨[.slice s.a s.n s.c]⟩ V fun r V' => r = .bool (mayL l) ∧ V' = V := by
  refine f162_x ?_
  unfold f162_n
  have hn := h.n; have hc := h.c; have hm := h.lim
  refine loop1 (k := .int .i64) (fun (x : Int) V' => V' = V ∧ ∃ i : Nat, x = i ∧ i ≤ l.length ∧ (List.range i).all (okE l) = true) (fun (x : Int) _ => s.n - x.toNat) ⟨rfl, 0, rfl, by omega, rfl⟩ ?_
  rintro (x : Int) V' ⟨rfl, i, rfl, hi, hall⟩
  refine br_intro (fun hlt => ?_) (fun hge => ?_)
  · have hlt : i < l.length := by have := of_decide_eq_true hlt; omega
    obtain ⟨ad, ha, hcell, hsz, hin⟩ := h.entN hlt
    refine ⟨by omega, by omega, ad, ha, _, _, hcell, fun _ => ?_⟩
    refine joinP_cut (fun q V1 => q.1 = (!okE l i) ∧ V1 = V') ⟨trivial, V', View.Le.refl _, (sole_ok (x := l.getD i default) hsz).mono ?_⟩ ?_
    · rintro r V1 ⟨rfl, rfl⟩
      refine ⟨_, rfl, View.Le.refl _, V1, View.Le.refl _, View.Le.refl _, br_intro (fun hs => ⟨?_, rfl⟩) (fun hs => br_intro (fun h0 => ?_) (fun h0 => ⟨?_, rfl⟩))⟩
      · have hs : soleE (l.getD i default) = false := by simpa using hs
        unfold okE; rw [hs]; rfl
      · have h0 : 0 < i := by have := of_decide_eq_true h0; omega
        have hs : soleE (l.getD i default) = true := by simpa using hs
        obtain ⟨j, rfl⟩ : ∃ j, i = j + 1 := ⟨i - 1, by omega⟩
        obtain ⟨ad2, ha2, hcell2, _, _⟩ := h.entN (i := j) (by omega)
        have e1 : (((j + 1 : Nat) : Int) - 1).toNat = j := by omega
        refine ⟨inI64 (by omega) (by omega), by omega, by omega, ad2, ha2, (l.getD j default).name, ?_, ?_, rfl⟩
        · rw [e1]; exact cellsAt_nth hcell2 0 rfl
        · unfold okE; rw [hs]; simp
      · have h0 : i = 0 := by have := of_decide_eq_false h0; omega
        have hs : soleE (l.getD i default) = true := by simpa using hs
        unfold okE; rw [hs, h0]; rfl
    · rintro ⟨q, ⟨⟩⟩ V1 ⟨h1, hV⟩
      simp only at h1 hV
      subst h1 hV
      dsimp only [unc]
      refine br_intro (fun hb => ⟨?_, rfl⟩) (fun hb => ⟨inI64 (by omega) (by omega), ⟨rfl, i + 1, by omega, by omega, all_step hall (by simpa using hb)⟩, by omega⟩)
      unfold mayL
      rw [all_stop hlt (by simpa using hb)]; rfl
  · have hge : i = l.length := by have := of_decide_eq_false hge; omega
    subst hge
    refine ⟨?_, rfl⟩
    unfold mayL
    rw [hall, hn, Bool.true_and]
    congr 1
    exact decide_eq_decide.2 (by omega)
theorem fileB_ok {n : Nod} {s e : Sl} {V : View} (h : NodR V s e n) : CallV Tryz.prog 161 ⟨[nodV n s e]⟩ V fun r V' => r = .bool (fileB n) ∧ V' = V := by
  refine f161_x ?_
  unfold f161_n
  have hsn := h.seqs.n; have hen := h.ents.n
  refine fun _ => joinP_cut (fun q V1 => q.1 = !(within n.links 120 && within n.size 80 && decide (n.seqs.length = 5) && decide (n.ents.length = 0)) ∧ V1 = V) (within_ok.mono ?_) ?_
  · rintro r V1 ⟨rfl, rfl⟩
    refine ⟨_, rfl, br_intro (fun h1 => ⟨?_, rfl⟩) (fun h1 => within_ok.mono ?_)⟩
    · have h1 : within n.links 120 = false := by simpa using h1
      rw [h1]; rfl
    · have h1 : within n.links 120 = true := by simpa using h1
      rintro r V2 ⟨rfl, rfl⟩
      refine ⟨_, rfl, ?_, rfl⟩
      rw [h1, hsn, hen]
      have e1 : decide (((n.seqs.length : Nat) : Int) = 5) = decide (n.seqs.length = 5) := decide_eq_decide.2 (by omega)
      have e2 : decide ((0 : Int) < ((n.ents.length : Nat) : Int)) = !decide (n.ents.length = 0) := dec_not (by omega)
      rw [e1, e2]
      cases within n.size 80 <;> cases decide (n.seqs.length = 5) <;> cases decide (n.ents.length = 0) <;> rfl
  · rintro ⟨q, ⟨⟩⟩ V1 ⟨h1, hV⟩
    simp only at h1 hV
    subst h1 hV
    dsimp only [unc]
    refine br_intro (fun hb => ⟨?_, rfl⟩) (fun hb => ?_)
    · have hb : (within n.links 120 && within n.size 80 && decide (n.seqs.length = 5) && decide (n.ents.length = 0)) = false := not_t hb
      unfold fileB; rw [hb]; rfl
    · have hb : (within n.links 120 && within n.size 80 && decide (n.seqs.length = 5) && decide (n.ents.length = 0)) = true := not_f hb
      have h5 : n.seqs.length = 5 := by simp at hb; exact hb.1.2
      refine loop1 (k := .int .i64) (fun (x : Int) V' => V' = V1 ∧ ∃ i : Nat, x = i ∧ i ≤ n.seqs.length ∧ (List.range i).all (okS n.size n.seqs) = true) (fun (x : Int) _ => s.n - x.toNat) ⟨rfl, 0, rfl, by omega, rfl⟩ ?_
      rintro (x : Int) V' ⟨rfl, i, rfl, hi, hall⟩
      refine br_intro (fun hlt => ?_) (fun hge => ?_)
      · have hlt : i < n.seqs.length := by have := of_decide_eq_true hlt; omega
        obtain ⟨ad, ha, hcell, hin⟩ := h.seqs.intN hlt
        refine ⟨by omega, by omega, ad, ha, _, hcell, ?_⟩
        refine joinP_cut (fun q V1 => q.1 = (!okS n.size n.seqs i) ∧ V1 = V') (within_ok.mono ?_) ?_
        · rintro r V2 ⟨rfl, rfl⟩
          refine ⟨_, rfl, br_intro (fun h1 => ⟨?_, rfl⟩) (fun h1 => ⟨inI64 (by omega) (by omega), ?_, rfl⟩)⟩
          · have h1 : within (n.seqs.getD i 0) 1099511627776 = false := by simpa using h1
            unfold okS; rw [h1]; rfl
          · have h1 : within (n.seqs.getD i 0) 1099511627776 = true := by simpa using h1
            unfold okS; rw [h1]
            cases decide (n.size ≤ (i : Int) * 16) <;> cases decide (n.seqs.getD i 0 = 0) <;> rfl
        · rintro ⟨q, ⟨⟩⟩ V2 ⟨h1, hV⟩
          simp only at h1 hV
          subst h1 hV
          dsimp only [unc]
          refine br_intro (fun hq => ⟨?_, rfl⟩) (fun hq => ⟨inI64 (by omega) (by omega), ⟨rfl, i + 1, by omega, by omega, all_step hall (by simpa using hq)⟩, by omega⟩)
          unfold fileB
          rw [all_stop hlt (by simpa using hq), Bool.and_false]
      · have hge : i = n.seqs.length := by have := of_decide_eq_false hge; omega
        subst hge
        refine ⟨?_, rfl⟩
        unfold fileB; rw [hb, hall]; rfl
theorem mayN_ok {n : Nod} {s e : Sl} {V : View} (h : NodR V s e n) : CallV Tryz.prog 114 ⟨[nodV n s e]⟩ V fun r V' => r = .bool (mayN n) ∧ V' = V := by
  refine f114_x ?_
  unfold f114_n
  have hsn := h.seqs.n; have hen := h.ents.n
  have e1 : decide (((s.n : Nat) : Int) = 0) = decide (n.seqs.length = 0) := decide_eq_decide.2 (by omega)
  have e2 : decide (((e.n : Nat) : Int) = 0) = decide (n.ents.length = 0) := decide_eq_decide.2 (by omega)
  rw [e1, e2]
  refine fun _ => br_intro (fun h0 => ⟨?_, rfl⟩) (fun h0 => br_intro (fun h1 => (fileB_ok h).mono ?_) (fun h1 => br_intro (fun h2 => ?_) (fun h2 => ⟨?_, rfl⟩)))
  · have h0 : n.kind = 0 := of_decide_eq_true h0
    unfold mayN; rw [if_pos h0]
    cases decide (n.links = 0) <;> cases decide (n.size = 0) <;> cases decide (n.seqs.length = 0) <;> rfl
  · have h0 : ¬ n.kind = 0 := of_decide_eq_false h0
    have h1 : n.kind = 1 := of_decide_eq_true h1
    rintro r V1 ⟨rfl, rfl⟩
    refine ⟨_, rfl, ?_, rfl⟩
    unfold mayN; rw [if_neg h0, if_pos h1]
  · have h0 : ¬ n.kind = 0 := of_decide_eq_false h0
    have h1 : ¬ n.kind = 1 := of_decide_eq_false h1
    have h2 : n.kind = 2 := of_decide_eq_true h2
    have hm : mayN n = (decide (n.links = 1) && decide (n.size = 0) && decide (n.seqs.length = 0) && mayL n.ents) := by unfold mayN; rw [if_neg h0, if_neg h1, if_pos h2]
    refine joinP_cut (fun q V1 => q.1 = mayN n ∧ V1 = V) (br_intro (fun hb => (mayL_ok h.ents).mono ?_) (fun hb => ⟨?_, rfl⟩)) ?_
    · rintro r V1 ⟨rfl, rfl⟩
      refine ⟨_, rfl, ?_, rfl⟩
      rw [hm]
      cases hA : decide (n.links = 1) <;> cases hB : decide (n.size = 0) <;> cases hC : decide (n.seqs.length = 0) <;> simp_all
    · rw [hm]
      cases hA : decide (n.links = 1) <;> cases hB : decide (n.size = 0) <;> cases hC : decide (n.seqs.length = 0) <;> simp_all
    · rintro ⟨q, ⟨⟩⟩ V1 ⟨h1, hV⟩
      simp only at h1 hV
      subst h1 hV
      exact ⟨rfl, rfl⟩
  · have h0 : ¬ n.kind = 0 := of_decide_eq_false h0
    have h1 : ¬ n.kind = 1 := of_decide_eq_false h1
    have h2 : ¬ n.kind = 2 := of_decide_eq_false h2
    unfold mayN; rw [if_neg h0, if_neg h1, if_neg h2]
end Go.Proofs.YtoogangnldppaaaGreatDoor

/- Contracts: rows of nodes, names of nodes. -/
namespace Go.Proofs.YtoogangnldppaaaGreatDoor
open Go
theorem indexFuncN_ok {p : Nod → Bool} {s : Sl} {l : List Nod} {V : View} {g : FuncId} {xs ys : List Value} (h : SlR V s l)
    (hp : ∀ n ∈ l, ∀ a b, NodR V a b n → CallV Tryz.prog g ⟨xs ++ [nodV n a b] ++ ys⟩ V fun r V' => r = .bool (p n) ∧ V' = V) :
    CallV Tryz.prog 160 ⟨[.slice s.a s.n s.c, .func (.func g) ⟨xs⟩ ⟨ys⟩]⟩ V fun r V' => r = .int .i64 (idxI p l) ∧ V' = V := by
  refine f160_x ?_
  unfold f160_n
  have hn := h.n; have hlim := h.lim
  refine loop1 (k := .int .i64) (fun (x : Int) V' => V' = V ∧ 0 ≤ x ∧ x ≤ s.n ∧ ∀ j (hj : j < l.length), (j : Int) < x → p l[j] = false) (fun (x : Int) _ => s.n - x.toNat) ⟨rfl, by omega, by omega, fun j _ hj => by omega⟩ ?_
  rintro (x : Int) V' ⟨rfl, h0, h1, h2⟩
  refine br_intro (fun hlt => ?_) (fun hge => ?_)
  · have hlt : x < s.n := by simpa using hlt
    obtain ⟨ad, sq, en, hx, ha, hc, hN⟩ := h.nod h0 hlt
    refine ⟨h0, hlt, ad, ha, _, _, _, sq, en, hc, (hp _ (List.getElem_mem hx) _ _ hN).mono ?_⟩
    rintro r V1 ⟨rfl, rfl⟩
    refine ⟨_, rfl, br_intro (fun hb => ⟨?_, rfl⟩) (fun hb => ⟨inI64 (by omega) (by omega), ⟨rfl, by omega, by omega, fun j hj hjx => ?_⟩, by omega⟩)⟩
    · rw [idxI_first p l x.toNat hx (fun j hj => h2 j (by omega) (by omega)) hb]
      congr 1; omega
    · by_cases e : (j : Int) < x
      · exact h2 j hj e
      · have : j = x.toNat := by omega
        subst this; exact hb
  · have hge : ¬ x < s.n := by simpa using hge
    refine ⟨?_, rfl⟩
    rw [idxI_none p l fun y hy => ?_]
    obtain ⟨j, hj, rfl⟩ := List.getElem_of_mem hy
    exact h2 j hj (by omega)
theorem containsFuncN_ok {p : Nod → Bool} {s : Sl} {l : List Nod} {V : View} {g : FuncId} {xs ys : List Value} (h : SlR V s l)
    (hp : ∀ n ∈ l, ∀ a b, NodR V a b n → CallV Tryz.prog g ⟨xs ++ [nodV n a b] ++ ys⟩ V fun r V' => r = .bool (p n) ∧ V' = V) :
    CallV Tryz.prog 112 ⟨[.slice s.a s.n s.c, .func (.func g) ⟨xs⟩ ⟨ys⟩]⟩ V fun r V' => r = .bool (l.any p) ∧ V' = V := by
  refine f112_x ?_
  unfold f112_n
  refine (indexFuncN_ok h hp).mono ?_
  rintro r V' ⟨rfl, rfl⟩
  refine ⟨_, rfl, ?_, rfl⟩
  congr 1
  rcases idxI_range p l with ⟨h1, h2⟩ | ⟨h1, h2, h3⟩
  · rw [h1, h2]; rfl
  · rw [h3]; simpa using h1
theorem may1_ok {n : Nod} {s e : Sl} {V : View} (h : NodR V s e n) : CallV Tryz.prog 113 ⟨[nodV n s e]⟩ V fun r V' => r = .bool (!mayN n) ∧ V' = V := by
  refine f113_x ?_
  unfold f113_n
  refine fun _ => (mayN_ok h).mono ?_
  rintro r V' ⟨rfl, rfl⟩
  exact ⟨_, rfl, rfl, rfl⟩
theorem hangs_ok {n : Nod} {s e : Sl} {i named : Int} {met : Bool} {V : View} : CallV Tryz.prog 117 ⟨[nodV n s e, .int .i64 i, .int .i64 named, .bool met]⟩ V fun r V' => r = .bool (hangB n i named met) ∧ V' = V := by
  refine f117_x ?_
  unfold f117_n
  refine fun _ => br_intro (fun h2 => ⟨?_, rfl⟩) (fun h2 => br_intro (fun h1 => ⟨?_, rfl⟩) (fun h1 => ⟨?_, rfl⟩))
  · have h2 : n.kind = 2 := of_decide_eq_true h2
    unfold hangB; rw [if_pos h2]
    cases met <;> cases decide (i = 0) <;> rfl
  · have h2 : ¬ n.kind = 2 := of_decide_eq_false h2
    have h1 : n.kind = 1 := of_decide_eq_true h1
    unfold hangB; rw [if_neg h2, if_pos h1]
  · have h2 : ¬ n.kind = 2 := of_decide_eq_false h2
    have h1 : ¬ n.kind = 1 := of_decide_eq_false h1
    unfold hangB; rw [if_neg h2, if_neg h1]
/-! ### rows of numbers that are one's own -/
def intsV (l : List Int) : List Value := l.map fun n => .int .i64 n
def boolsV (l : List Bool) : List Value := l.map fun b => .bool b
theorem putL_one (cs : List Value) (i : Nat) (v : Value) : putL cs i [v] = cs.set i v := rfl
theorem intsV_set (l : List Int) (i : Nat) (n : Int) : (intsV l).set i (.int .i64 n) = intsV (l.set i n) := by unfold intsV; rw [List.map_set]
theorem boolsV_set (l : List Bool) (i : Nat) (n : Bool) : (boolsV l).set i (.bool n) = boolsV (l.set i n) := by unfold boolsV; rw [List.map_set]
theorem rows_int {W : View} : ∀ {l : List Int}, (∀ n ∈ l, inI .i64 n) → repL W (intsV l) l
  | [], _ => rfl
  | n :: l, h => ⟨[.int .i64 n], intsV l, rfl, ⟨rfl, h n (by simp)⟩, rows_int fun m hm => h m (by simp [hm])⟩
theorem rows_bool {W : View} : ∀ {l : List Bool}, repL W (boolsV l) l
  | [] => rfl
  | n :: l => ⟨[.bool n], boolsV l, rfl, rfl, rows_bool⟩
/-- All the cells of a block, as a row of data. -/
theorem slR_block {α : Type} [Rep α] {V W : View} {r : Nat} {cs : List Value} {te : TypeId} {l : List α} (h : V.see r = some (.cells ⟨cs⟩ te (0, 0))) (hr : repL W cs l) (hW : W.Le V) (hl : l.length ≤ 140737488355328) : SlR V ⟨some ⟨r, 0, none⟩, l.length, l.length⟩ l := by
  have hlen := hr.len
  exact Buf.slR (e := te) (cs := cs) ⟨hlen, Nat.le_refl _, hl, .inr ⟨r, cs, rfl, h, hlen, by rw [List.take_of_length_le (by rw [hlen]; exact Nat.le_refl _)]⟩⟩ hr hW
theorem cnt_len (n : Nat) (es : List Ent) : (cnt n es).length = n := by simp [cnt]
theorem cnt_get (n : Nat) (es : List Ent) {j : Nat} (h : j < n) : (cnt n es).getD j 0 = ((es.countP (fun (x : Ent) => decide (x.node = (j : Int))) : Nat) : Int) := by
  rw [List.getD_eq_getElem?_getD]; simp [cnt, h]
theorem cnt_get' (n : Nat) (es : List Ent) {j : Nat} (h : j < n) : (cnt n es)[j]? = some ((es.countP (fun (x : Ent) => decide (x.node = (j : Int))) : Nat) : Int) := by
  simp [cnt, h]
theorem cnt_out {n : Nat} {es : List Ent} {x : Ent} (h : ¬ (0 ≤ x.node ∧ x.node < n)) : cnt n (es ++ [x]) = cnt n es := by
  unfold cnt
  apply List.map_congr_left
  intro j hj
  have hj := List.mem_range.1 hj
  rw [List.countP_append]
  have : decide (x.node = (j : Int)) = false := decide_eq_false (by omega)
  simp [this]
theorem cnt_in {n : Nat} {es : List Ent} {x : Ent} {k : Nat} (h : x.node = k) (hk : k < n) : cnt n (es ++ [x]) = (cnt n es).set k ((cnt n es).getD k 0 + 1) := by
  apply List.ext_getElem?
  intro j
  by_cases hj : j < n
  · rw [cnt_get' n _ hj, List.getElem?_set]
    by_cases e : k = j
    · subst e
      rw [if_pos rfl, if_pos (by rw [cnt_len]; exact hk), cnt_get n es hk, List.countP_append]
      simp [h]
    · rw [if_neg e, cnt_get' n es hj, List.countP_append]
      have : decide (x.node = (j : Int)) = false := decide_eq_false (by omega)
      simp [this]
  · rw [List.getElem?_eq_none (by rw [cnt_len]; omega), List.getElem?_eq_none (by rw [List.length_set, cnt_len]; omega)]
theorem allE_take {t : Tre} {i : Nat} (h : i < t.length) : allE (t.take (i + 1)) = allE (t.take i) ++ (t.getD i default).ents := by
  unfold allE
  rw [List.take_add_one, List.getElem?_eq_getElem h, List.flatMap_append, getD_at h]
  simp
theorem allE_len : ∀ {t : Tre} {m : Nat}, (∀ n ∈ t, n.ents.length ≤ m) → (allE t).length ≤ m * t.length
  | [], _, _ => by simp [allE]
  | n :: t, m, h => by
    have h1 := allE_len (t := t) (m := m) fun k hk => h k (by simp [hk])
    have h2 := h n (by simp)
    have e : allE (n :: t) = n.ents ++ allE t := by simp [allE]
    rw [e, List.length_append, List.length_cons, Nat.mul_add]
    omega
theorem names_ok {s : Sl} {t : Tre} {V : View} (h : SlR V s t) (h12 : t.length = 12) (he : ∀ n ∈ t, n.ents.length ≤ 10) : CallV Tryz.prog 115 ⟨[treV s]⟩ V fun r V' => ∃ x : Sl, r = .slice x.a x.n x.c ∧ SlR V' x (cnt 12 (allE t)) ∧ V.Le V' := by
  refine f115_x ?_
  unfold f115_n
  have hn : s.n = 12 := by rw [h.n, h12]
  rw [hn]
  refine fun _ => ⟨by decide, by decide, by decide, by decide, fun r hr => ?_⟩
  have hfr : V.see r = none := View.see_none_of_ge hr
  refine loop1 (k := .int .i64) (fun (x : Int) V' => ∃ i : Nat, x = i ∧ i ≤ 12 ∧ V'.see r = some (.cells ⟨intsV (cnt 12 (allE (t.take i)))⟩ 3 (0, 0)) ∧ V.Le (V'.hide r)) (fun (x : Int) _ => 12 - x.toNat) ⟨0, rfl, by omega, View.see_put_same _ _ _, put_le_hide hfr (View.Le.refl _)⟩ ?_
  rintro (x : Int) V1 ⟨i, rfl, hi, hs1, hV1⟩
  have hV1' : V.Le V1 := hV1.trans (View.hide_le _ _)
  refine br_intro (fun hlt => ?_) (fun hge => ?_)
  · have hlt : i < 12 := by have := of_decide_eq_true hlt; omega
    obtain ⟨ad, sq, en, ha, hc, hN⟩ := h.nodN (i := i) (by omega)
    have hmem : t.getD i default ∈ t := by rw [getD_at (by omega)]; exact List.getElem_mem _
    have hle := he _ hmem
    have htk : (allE (t.take i)).length ≤ 10 * 12 := Nat.le_trans (allE_len fun n hn => he n (List.mem_of_mem_take hn)) (Nat.mul_le_mul_left _ (by simp; omega))
    refine ⟨by omega, by omega, ad, ha, _, _, _, sq, en, cellsAt_mono hV1' hc, fun _ => ?_⟩
    generalize hnd : t.getD i default = nd at *
    have hen := hN.ents.n
    refine loop1 (k := .int .i64) (fun (x : Int) V' => ∃ k : Nat, x = k ∧ k ≤ nd.ents.length ∧ V'.see r = some (.cells ⟨intsV (cnt 12 (allE (t.take i) ++ nd.ents.take k))⟩ 3 (0, 0)) ∧ V.Le (V'.hide r)) (fun (x : Int) _ => nd.ents.length - x.toNat) ⟨0, rfl, by omega, by simpa using hs1, hV1⟩ ?_
    rintro (x : Int) V2 ⟨k, rfl, hk, hs2, hV2⟩
    have hV2' : V.Le V2 := hV2.trans (View.hide_le _ _)
    refine br_intro (fun hlt => ?_) (fun hge => ?_)
    · have hlt : k < nd.ents.length := by have := of_decide_eq_true hlt; omega
      obtain ⟨ad, ha, hc, hsz, hin⟩ := (hN.ents.mono hV2').entN hlt
      refine ⟨by omega, by omega, ad, ha, _, _, hc, fun _ => ?_⟩
      have etk : nd.ents.take (k + 1) = nd.ents.take k ++ [nd.ents.getD k default] := by rw [List.take_add_one, List.getElem?_eq_getElem hlt, getD_at hlt]; rfl
      generalize hx : nd.ents.getD k default = x at *
      refine joinP_cut (fun _ V3 => V3.see r = some (.cells ⟨intsV (cnt 12 (allE (t.take i) ++ nd.ents.take (k + 1)))⟩ 3 (0, 0)) ∧ V.Le (V3.hide r)) (br_intro (fun hb => ?_) (fun hb => ?_)) ?_
      · have hb : 0 ≤ x.node ∧ x.node < 12 := by
          cases h1 : decide (0 ≤ x.node) <;> rw [h1] at hb
          · cases hb
          · exact ⟨of_decide_eq_true h1, by have := of_decide_eq_true hb; omega⟩
        obtain ⟨q, hq⟩ : ∃ q : Nat, x.node = q := ⟨x.node.toNat, by omega⟩
        have hq12 : q < 12 := by omega
        have hqs : (cnt 12 (allE (t.take i) ++ nd.ents.take k)).getD q 0 ≤ 130 ∧ 0 ≤ (cnt 12 (allE (t.take i) ++ nd.ents.take k)).getD q 0 := by
          rw [cnt_get 12 _ hq12]
          have := List.countP_le_length (p := fun (x : Ent) => decide (x.node = (q : Int))) (l := allE (t.take i) ++ nd.ents.take k)
          simp only [List.length_append, List.length_take] at this
          omega
        have eset := cnt_in (es := allE (t.take i) ++ nd.ents.take k) hq hq12
        rw [List.append_assoc, ← etk] at eset
        have hgc : V2.cell? (Addr.add ⟨r, 0, none⟩ (x.node.toNat * 1)) = some (.int .i64 ((cnt 12 (allE (t.take i) ++ nd.ents.take k)).getD q 0)) := by
          rw [hq, addr0_add]
          refine cell_of_see hs2 ?_
          rw [cnt_get 12 _ hq12]
          simp [intsV, cnt_get' 12 _ hq12]
        refine ⟨hb.1, by omega, _, rfl, _, hgc, inI64 (by omega) (by omega), hb.1, by omega, _, rfl, ?_, ?_, ?_⟩
        · rw [hq, addr0_add]
          exact canSet_of hs2 (show 0 + q * 1 + 1 ≤ _ by simp [intsV, cnt_len]; omega)
        · rw [hq, addr0_add, sets_see hs2, putL_one, View.see_put_same]
          simp only [Int.toNat_natCast, Nat.zero_add, Nat.mul_one]
          rw [intsV_set, ← eset]
        · rw [hq, addr0_add, sets_see hs2]
          exact hV2.trans (hide_le_put_hide r _)
      · have hb : ¬ (0 ≤ x.node ∧ x.node < 12) := by
          rintro ⟨h1, h2⟩
          rw [decide_eq_true h1] at hb
          have := of_decide_eq_false hb
          omega
        refine ⟨?_, hV2⟩
        rw [etk, ← List.append_assoc, cnt_out hb]; exact hs2
      · rintro ⟨⟩ V3 ⟨hs3, hV3⟩
        exact ⟨inI64 (by omega) (by omega), ⟨k + 1, by omega, by omega, hs3, hV3⟩, by omega⟩
    · have hge : k = nd.ents.length := by have := of_decide_eq_false hge; omega
      subst hge
      rw [List.take_length] at hs2
      refine ⟨inI64 (by omega) (by omega), ⟨i + 1, by omega, by omega, ?_, hV2⟩, by omega⟩
      rw [allE_take (by omega), hnd]; exact hs2
  · have hge : i = 12 := by have := of_decide_eq_false hge; omega
    subst hge
    rw [List.take_of_length_le (by omega)] at hs1
    refine ⟨⟨some ⟨r, 0, none⟩, 12, 12⟩, rfl, ?_, hV1'⟩
    have := slR_block (W := V1) hs1 (rows_int fun n hn => ?_) (View.Le.refl _) (by rw [cnt_len]; omega)
    · rw [cnt_len] at this; exact this
    · unfold cnt at hn
      obtain ⟨j, _, rfl⟩ := List.mem_map.1 hn
      have h1 := List.countP_le_length (p := fun (x : Ent) => decide (x.node = (j : Int))) (l := allE t)
      have h2 := allE_len he
      exact inI64 (by omega) (by omega)
end Go.Proofs.YtoogangnldppaaaGreatDoor

/- Which nodes one comes to: a stack and marks. No program in this text. -/
namespace Go.Proofs.YtoogangnldppaaaGreatDoor
open Go
/-- Marks and a stack; of node i the first 'lim i' entries are done, unless it is on the stack. -/
structure DI (t : Tre) (a : Nat) (lim : Nat → Nat) (met : List Bool) (l : List Int) : Prop where
  len : met.length = 12
  start : met.getD a false = true
  sound : ∀ j, met.getD j false = true → Reach t a j
  stack : ∀ y ∈ l, 0 ≤ y ∧ y < 12 ∧ met.getD y.toNat false = true
  done : ∀ i, met.getD i false = true → (i : Int) ∈ l ∨ ∀ e ∈ (t.getD i default).ents.take (lim i), met.getD e.node.toNat false = true
  room : l.length + met.countP (fun b => !b) ≤ 12
def full (t : Tre) (i : Nat) : Nat := (t.getD i default).ents.length
def upto (t : Tre) (c k i : Nat) : Nat := if i = c then k else full t i
theorem getD_set_bool (met : List Bool) (q j : Nat) (h : q < met.length) : (met.set q true).getD j false = if j = q then true else met.getD j false := by
  rw [List.getD_eq_getElem?_getD, List.getD_eq_getElem?_getD, List.getElem?_set]
  by_cases e : q = j
  · rw [if_pos e, if_pos e.symm, if_pos h]; rfl
  · rw [if_neg e, if_neg (fun h => e h.symm)]
theorem countP_set : ∀ (met : List Bool) (q : Nat), q < met.length → met.getD q false = false → (met.set q true).countP (fun b => !b) + 1 = met.countP (fun b => !b)
  | b :: met, 0, _, h => by
    have h : b = false := by simpa using h
    subst h
    simp
  | b :: met, q + 1, hq, h => by
    have := countP_set met q (by simpa using hq) (by simpa using h)
    simp only [List.set_cons_succ, List.countP_cons]
    omega
theorem DI.first {t : Tre} {a : Nat} (ha : a < 12) : DI t a (full t) ((List.replicate 12 false).set a true) [(a : Int)] := by
  have hl : a < (List.replicate 12 false).length := by simpa using ha
  have hg := fun j => getD_set_bool (List.replicate 12 false) a j hl
  have hr : ∀ j, (List.replicate 12 false).getD j false = false := fun j => by
    rw [List.getD_eq_getElem?_getD, List.getElem?_replicate]; split <;> rfl
  have hc := countP_set _ a hl (hr a)
  have hc2 : (List.replicate 12 false).countP (fun b => !b) = 12 := rfl
  refine ⟨by simp, by rw [hg, if_pos rfl], fun j hj => ?_, fun y hy => ?_, fun i hi => ?_, by simp only [List.length_cons, List.length_nil]; omega⟩
  · rw [hg, hr] at hj
    split at hj
    · rename_i e; subst e; exact .refl
    · cases hj
  · have hy : y = a := by simpa using hy
    subst hy
    exact ⟨by omega, by omega, by rw [Int.toNat_natCast, hg, if_pos rfl]⟩
  · rw [hg, hr] at hi
    split at hi
    · rename_i e; subst e; left; simp
    · cases hi
theorem DI.pop {t : Tre} {a : Nat} {met : List Bool} {l : List Int} {c : Nat} (h : DI t a (full t) met (l ++ [(c : Int)])) : DI t a (upto t c 0) met l := by
  refine ⟨h.len, h.start, h.sound, fun y hy => h.stack y (by simp [hy]), fun i hi => ?_, by have := h.room; simp at this; omega⟩
  unfold upto
  by_cases e : i = c
  · right; rw [if_pos e]; simp
  · rw [if_neg e]
    rcases h.done i hi with h1 | h1
    · left
      rcases List.mem_append.1 h1 with h2 | h2
      · exact h2
      · exact absurd (Int.ofNat.inj (by simpa using h2)) e
    · exact .inr h1
theorem DI.old {t : Tre} {a : Nat} {met : List Bool} {l : List Int} {c k : Nat} (h : DI t a (upto t c k) met l) (hk : k < full t c) (hm : met.getD ((t.getD c default).ents.getD k default).node.toNat false = true) : DI t a (upto t c (k + 1)) met l := by
  refine ⟨h.len, h.start, h.sound, h.stack, fun i hi => ?_, h.room⟩
  rcases h.done i hi with h1 | h1
  · exact .inl h1
  · right
    unfold upto at h1 ⊢
    by_cases e : i = c
    · subst e
      rw [if_pos rfl] at h1 ⊢
      rw [List.take_add_one, List.getElem?_eq_getElem hk]
      intro x hx
      rcases List.mem_append.1 hx with h2 | h2
      · exact h1 x h2
      · have h2 : x = (t.getD i default).ents[k] := by simpa using h2
        rw [getD_at hk] at hm
        rw [h2]; exact hm
    · rw [if_neg e] at h1 ⊢; exact h1
theorem DI.new {t : Tre} {a : Nat} {met : List Bool} {l : List Int} {c k q : Nat} (h : DI t a (upto t c k) met l) (hk : k < full t c) (hq : ((t.getD c default).ents.getD k default).node = q) (hq12 : q < 12) (hc : met.getD c false = true) (hm : met.getD q false = false) :
    DI t a (upto t c (k + 1)) (met.set q true) (l ++ [(q : Int)]) ∧ (met.set q true).countP (fun b => !b) + 1 = met.countP (fun b => !b) := by
  have hl : q < met.length := by rw [h.len]; exact hq12
  have hg := fun j => getD_set_bool met q j hl
  have hcp := countP_set met q hl hm
  have up : ∀ j, met.getD j false = true → (met.set q true).getD j false = true := fun j hj => by rw [hg, hj]; simp
  have hreach : Reach t a q := by
    have hx : (t.getD c default).ents.getD k default ∈ (t.getD c default).ents := by
      rw [getD_at hk]; exact List.getElem_mem hk
    have := Reach.step (h.sound c hc) hx
    rw [hq, Int.toNat_natCast] at this
    exact this
  refine ⟨⟨by simp [h.len], up _ h.start, fun j hj => ?_, fun y hy => ?_, fun i hi => ?_, by have := h.room; simp; omega⟩, hcp⟩
  · rw [hg] at hj
    split at hj
    · rename_i e; subst e; exact hreach
    · exact h.sound j hj
  · rcases List.mem_append.1 hy with h1 | h1
    · obtain ⟨y1, y2, y3⟩ := h.stack y h1
      exact ⟨y1, y2, up _ y3⟩
    · have h1 : y = q := by simpa using h1
      subst h1
      exact ⟨by omega, by omega, by rw [Int.toNat_natCast, hg, if_pos rfl]⟩
  · rw [hg] at hi
    by_cases e : i = q
    · left; subst e; simp
    · rw [if_neg e] at hi
      rcases h.done i hi with h1 | h1
      · left; simp [h1]
      · right
        unfold upto at h1 ⊢
        by_cases e : i = c
        · subst e
          rw [if_pos rfl] at h1 ⊢
          rw [List.take_add_one, List.getElem?_eq_getElem hk]
          intro x hx
          rcases List.mem_append.1 hx with h2 | h2
          · exact up _ (h1 x h2)
          · have h2 : x = (t.getD i default).ents[k] := by simpa using h2
            rw [getD_at hk] at hq
            rw [h2, hq, Int.toNat_natCast, hg, if_pos rfl]
        · rw [if_neg e] at h1 ⊢
          exact fun x hx => up _ (h1 x hx)
theorem DI.close {t : Tre} {a : Nat} {met : List Bool} {l : List Int} {c : Nat} (h : DI t a (upto t c (full t c)) met l) : DI t a (full t) met l := by
  have e : upto t c (full t c) = full t := by
    funext i
    unfold upto
    by_cases e : i = c
    · rw [if_pos e, e]
    · rw [if_neg e]
  rw [e] at h; exact h
theorem DI.end {t : Tre} {a : Nat} {met : List Bool} (h : DI t a (full t) met []) : met = (List.range 12).map (metB t a) := by
  have hall : ∀ j, Reach t a j → met.getD j false = true := by
    intro j hj
    induction hj with
    | refl => exact h.start
    | step hi hx ih =>
      rcases h.done _ ih with h1 | h1
      · cases h1
      · exact h1 _ (by unfold full; rw [List.take_length]; exact hx)
  apply List.ext_getElem (by simp [h.len])
  intro j h1 h2
  have e : met.getD j false = met[j] := by rw [List.getD_eq_getElem?_getD, List.getElem?_eq_getElem h1]; rfl
  rw [List.getElem_map, List.getElem_range, Bool.eq_iff_iff, metB_iff, ← e]
  exact ⟨h.sound j, hall j⟩
end Go.Proofs.YtoogangnldppaaaGreatDoor

/- The contract of dir.below. -/
namespace Go.Proofs.YtoogangnldppaaaGreatDoor
open Go
def isF : Value → Bool
  | .bool b => !b
  | _ => false
def unm : Option Obj → Nat
  | some (.cells c _ _) => c.toList.countP isF
  | _ => 0
theorem unm_bools (met : List Bool) (e : TypeId) (f : Nat × Nat) : unm (some (.cells ⟨boolsV met⟩ e f)) = met.countP (fun b => !b) := by
  show (boolsV met).countP isF = _
  unfold boolsV
  rw [List.countP_map]
  rfl
/-- Marks in a block, a stack in a row of one's own, beside what was there. -/
structure BI (V V' : View) (r : Nat) (x : Sl) (met : List Bool) (l : List Int) : Prop where
  marks : V'.see r = some (.cells ⟨boolsV met⟩ 4 (0, 0))
  stack : Buf (V'.hide r) x 3 1 (intsV l)
  le : V.Le ((V'.hide r).minus x)
theorem intsV_len (l : List Int) : (intsV l).length = l.length := by simp [intsV]
theorem boolsV_len (l : List Bool) : (boolsV l).length = l.length := by simp [boolsV]
theorem BI.n {V V' : View} {r : Nat} {x : Sl} {met : List Bool} {l : List Int} (h : BI V V' r x met l) : x.n = l.length := by
  have := h.stack.len; rw [intsV_len, Nat.mul_one] at this; exact this.symm
theorem BI.vle {V V' : View} {r : Nat} {x : Sl} {met : List Bool} {l : List Int} (h : BI V V' r x met l) : V.Le V' := h.le.trans ((View.minus_le _ _).trans (View.hide_le _ _))
theorem below_ok {s : Sl} {t : Tre} {a : Nat} {V : View} (h : SlR V s t) (h12 : t.length = 12) (ha : a < 12) (hnode : ∀ n ∈ t, ∀ e ∈ n.ents, 0 ≤ e.node ∧ e.node < 12) :
    CallV Tryz.prog 116 ⟨[treV s, .int .i64 a]⟩ V fun r V' => ∃ x : Sl, r = .slice x.a x.n x.c ∧ SlR V' x ((List.range 12).map (metB t a)) ∧ V.Le V' := by
  refine f116_x ?_
  unfold f116_n
  have hn : s.n = 12 := by rw [h.n, h12]
  rw [hn]
  refine fun _ => ⟨by decide, by decide, by decide, by decide, fun r hr r1 hr1 => ?_⟩
  have hfr : V.see r = none := View.see_none_of_ge hr
  have hfr1 := View.see_none_of_ge hr1
  have hne : r ≠ r1 := fun e => by rw [← e, View.see_put_same] at hfr1; cases hfr1
  generalize hU : (V.put r _) = U at *
  have hUr : U.see r = some (.cells ⟨boolsV (List.replicate 12 false)⟩ 4 (0, 0)) := by rw [← hU, View.see_put_same]; rfl
  have hVU : V.Le (U.hide r) := by rw [← hU]; exact put_le_hide hfr (View.Le.refl _)
  generalize hU1 : (U.put r1 _) = U1
  have hU1r : U1.see r = some (.cells ⟨boolsV (List.replicate 12 false)⟩ 4 (0, 0)) := by rw [← hU1, View.see_put_ne _ _ hne]; exact hUr
  have hU1s : U1.see r1 = some (.cells ⟨[.int .i64 a]⟩ 3 (0, 0)) := by rw [← hU1, View.see_put_same]; rfl
  have hVU1 : V.Le ((U1.hide r).hide r1) := by
    refine hVU.trans ?_
    rw [← hU1]
    refine ⟨Nat.le_max_left _ _, fun i o ho => ?_, rfl⟩
    rw [hide_see] at ho
    split at ho
    · cases ho
    · rename_i hi
      have hi1 : i ≠ r1 := fun e => by rw [e, hfr1] at ho; cases ho
      rw [hide_see, if_neg hi1, hide_see, if_neg hi, View.see_put_ne _ _ hi1]; exact ho
  refine ⟨by omega, by omega, _, rfl, ?_, ?_⟩
  · rw [addr0_add]; exact canSet_of hU1r (show 0 + ((a : Int)).toNat * 1 + 1 ≤ _ by rw [boolsV_len]; simp; omega)
  have hst : U1.sets ((⟨r, 0, none⟩ : Addr).add ((a : Int).toNat * 1)) [.bool true] = U1.put r (.cells ⟨boolsV ((List.replicate 12 false).set a true)⟩ 4 (0, 0)) := by
    rw [addr0_add, sets_see hU1r, putL_one]
    simp only [Int.toNat_natCast, Nat.zero_add, Nat.mul_one]
    rw [boolsV_set]
  rw [hst]
  refine loop1 (k := .sl) (fun (x : Sl) V' => ∃ met l, BI V V' r x met l ∧ DI t a (full t) met l) (fun (x : Sl) V' => 2 * unm (V'.see r) + x.n) ⟨_, [(a : Int)], ⟨View.see_put_same _ _ _, ⟨rfl, Nat.le_refl _, (by decide : 1 ≤ 140737488355328), .inr ⟨r1, [.int .i64 a], rfl, ?_, rfl, rfl⟩⟩, ?_⟩, DI.first ha⟩ ?_
  · rw [hide_see, if_neg (fun e => hne e.symm), View.see_put_ne _ _ (fun e => hne e.symm)]; exact hU1s
  · refine hVU1.trans ?_
    show ((U1.hide r).hide r1).Le (((U1.put r _).hide r).hide r1)
    exact hide_mono (hide_le_put_hide r _) r1
  rintro (x : Sl) V1 ⟨met, l, hB, hD⟩
  have hxn := hB.n
  have hxc := hB.stack.le
  have hroom := hD.room
  have hxl : x.n ≤ 140737488355328 := hB.stack.lim
  have hV1 := hB.vle
  refine br_intro (fun hlt => ?_) (fun hge => ?_)
  · have hlt : 0 < x.n := by have := of_decide_eq_true hlt; omega
    obtain ⟨l', y, rfl⟩ : ∃ l' y, l = l' ++ [y] := by
      rcases List.eq_nil_or_concat l with h1 | ⟨l', y, h1⟩
      · rw [h1] at hxn; simp at hxn; omega
      · exact ⟨l', y, by simpa using h1⟩
    obtain ⟨y1, y2, y3⟩ := hD.stack y (by simp)
    obtain ⟨c, rfl⟩ : ∃ c : Nat, y = c := ⟨y.toNat, by omega⟩
    rw [Int.toNat_natCast] at y3
    simp only [List.length_append, List.length_cons, List.length_nil] at hxn hroom
    have hrow := hB.stack.row
    cases hxa : x.a with
    | none => rw [hxa] at hrow; simp [rowAt, intsV] at hrow
    | some ad =>
      rw [hxa] at hrow
      have hcell : V1.cell? (ad.add (((x.n : Int) - 1).toNat * 1)) = some (.int .i64 c) := by
        have e1 : (((x.n : Int) - 1).toNat * 1) = l'.length := by omega
        rw [e1]
        have := hrow.2 l'.length (.int .i64 c) (by simp [intsV])
        exact (View.hide_le V1 r).cell this
      obtain ⟨ad2, sq, en, ha2, hc2, hN⟩ := h.nodN (i := c) (by omega)
      have hmem : t.getD c default ∈ t := by rw [getD_at (by omega)]; exact List.getElem_mem _
      have hnd := hnode _ hmem
      have hc24 := cellsAt_nth (cellsAt_mono hV1 hc2) 4 rfl
      refine ⟨inI64 (by omega) (by omega), by omega, by omega, ad, rfl, _, hcell, inI64 (by omega) (by omega), by omega, by omega, by omega, by omega, by omega, ad2, ha2, en, hc24, ?_⟩
      have e2 : (if x.c = 0 then some ad else Option.map (fun (x : Addr) => x.add 0) (some ad)) = some ad := by rw [map_add_zero]; simp
      rw [e2, Nat.sub_zero, Nat.sub_zero]
      have hen := hN.ents.n
      have helim := hN.ents.lim
      have hfl : full t c = en.n := hen.symm
      have hbuf' : Buf (V1.hide r) ⟨some ad, ((x.n : Int) - 1).toNat, x.c⟩ 3 1 (intsV l') := by
        have := hB.stack.cut (k := ((x.n : Int) - 1).toNat) (by omega)
        rw [hxa] at this
        have e3 : (intsV (l' ++ [(c : Int)])).take ((((x.n : Int) - 1).toNat) * 1) = intsV l' := by
          have e1 : (((x.n : Int) - 1).toNat * 1) = l'.length := by omega
          rw [e1]; unfold intsV; rw [List.map_append, List.take_left' (by simp)]
        rw [e3] at this
        exact this
      have hle' : V.Le ((V1.hide r).minus ⟨some ad, ((x.n : Int) - 1).toNat, x.c⟩) := by
        have := hB.le
        unfold View.minus at this ⊢
        rw [hxa] at this
        exact this
      have hmeas : 2 * unm (V1.see r) + x.n = 2 * met.countP (fun b => !b) + l'.length + 1 := by rw [hB.marks, unm_bools]; omega
      rw [hmeas]
      generalize hM : 2 * met.countP (fun b => !b) + l'.length + 1 = M
      refine loop2 (k := .sl) (l := .int .i64) (fun (x : Sl) (i : Int) V' => ∃ (k : Nat) (met : List Bool) (l : List Int), i = k ∧ k ≤ full t c ∧ BI V V' r x met l ∧ DI t a (upto t c k) met l ∧ met.getD c false = true ∧ 2 * met.countP (fun b => !b) + l.length + 1 ≤ M) (fun _ (i : Int) _ => full t c - i.toNat)
        ⟨0, met, l', rfl, Nat.zero_le _, ⟨hB.marks, hbuf', hle'⟩, hD.pop, y3, by omega⟩ ?_
      rintro (z : Sl) (i : Int) V2 ⟨k, met2, l2, rfl, hk, hB2, hD2, hc', hM2⟩
      have hV2 := hB2.vle
      have hzn := hB2.n
      have hroom2 := hD2.room
      refine br_intro (fun hlt => ?_) (fun hge => ?_)
      · have hlt : k < full t c := by have := of_decide_eq_true hlt; omega
        obtain ⟨ad3, ha3, hc3, _, _⟩ := (hN.ents.mono hV2).entN (i := k) hlt
        have hxm : (t.getD c default).ents.getD k default ∈ (t.getD c default).ents := by rw [getD_at hlt]; exact List.getElem_mem _
        have hq := hnd _ hxm
        obtain ⟨q, hqe⟩ : ∃ q : Nat, ((t.getD c default).ents.getD k default).node = q := ⟨((t.getD c default).ents.getD k default).node.toNat, by omega⟩
        have hq12 : q < 12 := by omega
        have hcm : V2.cell? (Addr.add ⟨r, 0, none⟩ (((t.getD c default).ents.getD k default).node.toNat * 1)) = some (.bool (met2.getD q false)) := by
          rw [hqe, addr0_add]
          refine cell_of_see hB2.marks ?_
          have hql : q < met2.length := by rw [hD2.len]; exact hq12
          rw [List.getD_eq_getElem?_getD, List.getElem?_eq_getElem hql]
          show (boolsV met2)[0 + ((q : Int)).toNat * 1]? = _
          unfold boolsV
          rw [Int.toNat_natCast, Nat.zero_add, Nat.mul_one, List.getElem?_map, List.getElem?_eq_getElem hql]
          rfl
        refine ⟨by omega, by omega, ad3, ha3, _, _, hc3, fun _ => ⟨hq.1, by omega, _, rfl, _, hcm, ?_⟩⟩
        refine joinP_cut (fun w V3 => ∃ met l, BI V V3 r w.1 met l ∧ DI t a (upto t c (k + 1)) met l ∧ met.getD c false = true ∧ 2 * met.countP (fun b => !b) + l.length + 1 ≤ M) (br_intro (fun hb => ?_) (fun hb => ?_)) ?_
        · have hb : met2.getD q false = false := not_t hb
          obtain ⟨hD3, hcp⟩ := hD2.new hlt hqe hq12 hc' hb
          have hup : (met2.set q true).getD c false = true := by rw [getD_set_bool _ _ _ (by rw [hD2.len]; exact hq12), hc']; simp
          have hset : V2.sets ((⟨r, 0, none⟩ : Addr).add (((t.getD c default).ents.getD k default).node.toNat * 1)) [.bool true] = V2.put r (.cells ⟨boolsV (met2.set q true)⟩ 4 (0, 0)) := by
            rw [hqe, addr0_add, sets_see hB2.marks, putL_one]
            simp only [Int.toNat_natCast, Nat.zero_add, Nat.mul_one]
            rw [boolsV_set]
          refine ⟨hq.1, by omega, _, rfl, ?_, ?_⟩
          · rw [hqe, addr0_add]; exact canSet_of hB2.marks (show 0 + ((q : Int)).toNat * 1 + 1 ≤ _ by rw [boolsV_len, hD2.len]; simp; omega)
          · rw [hset]
            intro r2 hr2
            have hfr2 := View.see_none_of_ge hr2
            have hne2 : r ≠ r2 := fun e => by rw [← e, View.see_put_same] at hfr2; cases hfr2
            have hbuf2 : Buf ((V2.put r (.cells ⟨boolsV (met2.set q true)⟩ 4 (0, 0))).hide r) z 3 1 (intsV l2) := hB2.stack.mono (hide_le_put_hide r _)
            have hle2 : V.Le (((V2.put r (.cells ⟨boolsV (met2.set q true)⟩ 4 (0, 0))).hide r).minus z) := hB2.le.trans (minus_mono (hide_le_put_hide r _) z)
            have hsee2 : (V2.put r (.cells ⟨boolsV (met2.set q true)⟩ 4 (0, 0))).see r = some (.cells ⟨boolsV (met2.set q true)⟩ 4 (0, 0)) := View.see_put_same _ _ _
            generalize (V2.put r (.cells ⟨boolsV (met2.set q true)⟩ 4 (0, 0))) = W at *
            have hW := View.put_le (o := .cells ⟨putL [.int .i64 0] 0 [.int .i64 ((t.getD c default).ents.getD k default).node]⟩ 3 (0, 0)) hfr2
            refine apV_beside (V0 := V) (p := r) (cs := intsV l2) (src := [.int .i64 q]) (m := 1) rfl (hW.see _ _ hsee2) (hbuf2.mono (hide_mono hW r)) (hle2.trans (minus_mono (hide_mono hW r) z)) ⟨rfl, rowAt_new (by rw [View.see_put_same, hqe]; rfl) rfl⟩ rfl rfl (by show (z.n + 1) * 8 ≤ _; omega) (by show z.n + 1 ≤ _; omega) ?_
            intro s3 V3 hsee3 hbuf3 hle3 _
            have e4 : intsV l2 ++ [.int .i64 (q : Int)] = intsV (l2 ++ [(q : Int)]) := by simp [intsV]
            rw [e4] at hbuf3
            exact ⟨_, _, ⟨hsee3, hbuf3, hle3⟩, hD3, hup, by simp; omega⟩
        · have hb : met2.getD q false = true := not_f hb
          exact ⟨met2, l2, ⟨hB2.marks, hB2.stack, hB2.le⟩, hD2.old hlt (by rw [hqe, Int.toNat_natCast]; exact hb), hc', hM2⟩
        · rintro ⟨w, ⟨⟩⟩ V3 ⟨met3, l3, hB3, hD3, hc3, hM3⟩
          exact ⟨inI64 (by omega) (by omega), ⟨k + 1, met3, l3, by omega, by omega, hB3, hD3, hc3, hM3⟩, by omega⟩
      · have hge : k = full t c := by have := of_decide_eq_false hge; omega
        subst hge
        refine ⟨⟨met2, l2, ⟨hB2.marks, hB2.stack, hB2.le⟩, hD2.close⟩, ?_⟩
        rw [hB2.marks, unm_bools]
        show 2 * _ + z.n < _
        omega
  · have hge : l = [] := List.eq_nil_of_length_eq_zero (by have := of_decide_eq_false hge; omega)
    subst hge
    refine ⟨⟨some ⟨r, 0, none⟩, 12, 12⟩, rfl, ?_, hV1⟩
    have := slR_block (W := V1) hB.marks rows_bool (View.Le.refl _) (by rw [hD.len]; omega)
    rw [hD.len, hD.end] at this
    exact this
end Go.Proofs.YtoogangnldppaaaGreatDoor

/- Maps with numbers as keys: what is found behind a key, and behind what is put. No program in this text. -/
namespace Go.Proofs.YtoogangnldppaaaGreatDoor
open Go
def keyI (e : MapEntry) : Int := match e.key with
  | .int _ n => n
  | _ => 0
/-- All keys are numbers. -/
def IntK (es : List MapEntry) : Prop := ∀ e ∈ es, ∃ n, e.key = .int .i64 n
/-- What stands behind a key. -/
def vlk (k : Int) : List MapEntry → Option Value
  | [] => none
  | e :: es => if keyI e = k then some e.val else vlk k es
theorem mfind_int {k : Int} : ∀ {es : List MapEntry} (_ : IntK es) (i : Nat), ∃ f, mfind (.int .i64 k) es i = some f ∧
    ((f = none ∧ vlk k es = none) ∨ ∃ j v, f = some (i + j, v) ∧ vlk k es = some v ∧ j < es.length ∧ ∀ (u : MapEntry → MapEntry) (w : Value), (∀ e, keyI e = k → keyI (u e) = k ∧ (u e).val = w ∧ ∃ n, (u e).key = .int .i64 n) → IntK (es.modify j u) ∧ ∀ k', vlk k' (es.modify j u) = if k' = k then some w else vlk k' es)
  | [], _, i => ⟨none, rfl, .inl ⟨rfl, rfl⟩⟩
  | e :: es, h, i => by
    obtain ⟨n, hn⟩ := h e (by simp)
    have hk : keyI e = n := by unfold keyI; rw [hn]
    have h' : IntK es := fun e he => h e (by simp [he])
    have hq : keyEq (.int .i64 k) (.int .i64 n) = some (decide (k = n)) := rfl
    by_cases hkn : k = n
    · subst hkn
      refine ⟨some (i, e.val), ?_, .inr ⟨0, e.val, rfl, by unfold vlk; rw [if_pos hk], by simp, fun u w hu => ⟨?_, fun k' => ?_⟩⟩⟩
      · unfold mfind; rw [hn, hq, decide_eq_true rfl]
      · intro e' he'
        rw [List.modify_zero_cons] at he'
        rcases List.mem_cons.1 he' with h1 | h1
        · rw [h1]; exact (hu e hk).2.2
        · exact h' e' h1
      · rw [List.modify_zero_cons]
        unfold vlk
        rw [(hu e hk).1, (hu e hk).2.1, hk]
        by_cases e1 : k = k'
        · rw [if_pos e1, if_pos e1.symm]
        · rw [if_neg e1, if_neg (fun h => e1 h.symm), if_neg e1]
    · have hne : ¬ keyI e = k := fun e => hkn (by rw [← e, hk])
      obtain ⟨f, hf, hr⟩ := mfind_int (k := k) h' (i + 1)
      refine ⟨f, by unfold mfind; rw [hn, hq, decide_eq_false hkn]; exact hf, ?_⟩
      rcases hr with ⟨h1, h2⟩ | ⟨j, v, h1, h2, h3, h4⟩
      · exact .inl ⟨h1, by unfold vlk; rw [if_neg hne]; exact h2⟩
      · refine .inr ⟨j + 1, v, by rw [h1]; congr 2; omega, by unfold vlk; rw [if_neg hne]; exact h2, by simpa using h3, fun u w hu => ?_⟩
        obtain ⟨h5, h6⟩ := h4 u w hu
        rw [List.modify_succ_cons]
        refine ⟨fun e' he' => ?_, fun k' => ?_⟩
        · rcases List.mem_cons.1 he' with h7 | h7
          · rw [h7]; exact ⟨n, hn⟩
          · exact h5 e' h7
        · unfold vlk
          by_cases e1 : keyI e = k'
          · rw [if_pos e1, if_pos e1, if_neg (fun h => hne (by rw [e1, h]))]
          · rw [if_neg e1, if_neg e1]; exact h6 k'
theorem vlk_append (k : Int) : ∀ (es ds : List MapEntry), vlk k (es ++ ds) = (vlk k es).or (vlk k ds)
  | [], ds => by simp [vlk]
  | e :: es, ds => by
    show (if keyI e = k then some e.val else vlk k (es ++ ds)) = (if keyI e = k then some e.val else vlk k es).or (vlk k ds)
    split
    · rfl
    · exact vlk_append k es ds
/-- What is put is found; all else is as it was. -/
theorem mput_int {es : Array MapEntry} {cl : Nat} {k : Int} {v : Value} (h : IntK es.toList) :
    ∃ f, mfind (.int .i64 k) es.toList 0 = some f ∧ (∀ z, found z f = (vlk k es.toList).getD z) ∧ ∃ es' cl', mput es cl f (.int .i64 k) v = .map es' cl' ∧ IntK es'.toList ∧ ∀ k', vlk k' es'.toList = if k' = k then some v else vlk k' es.toList := by
  obtain ⟨f, hf, hr⟩ := mfind_int (k := k) h 0
  refine ⟨f, hf, ?_, ?_⟩
  · intro z
    rcases hr with ⟨rfl, h2⟩ | ⟨j, w, rfl, h2, _⟩
    · rw [h2]; rfl
    · rw [h2]; rfl
  · rcases hr with ⟨rfl, h2⟩ | ⟨j, w, rfl, h2, h3, h4⟩
    · refine ⟨_, _, rfl, ?_, fun k' => ?_⟩
      · intro e he
        rw [Array.toList_push] at he
        rcases List.mem_append.1 he with h5 | h5
        · exact h e h5
        · rw [List.mem_singleton.1 h5]; exact ⟨k, rfl⟩
      · rw [Array.toList_push, vlk_append]
        by_cases e1 : k' = k
        · rw [if_pos e1, e1, h2]; simp [vlk, keyI]
        · rw [if_neg e1]
          have e2 : ¬ k = k' := fun h => e1 h.symm
          have : vlk k' [{ key := .int .i64 k, val := v, born := cl }] = none := by simp [vlk, keyI, e2]
          rw [this]; simp
    · obtain ⟨h5, h6⟩ := h4 (fun e => { e with key := .int .i64 k, val := v }) v (fun e _ => ⟨rfl, rfl, k, rfl⟩)
      refine ⟨_, _, rfl, ?_, fun k' => ?_⟩
      · rw [Array.toList_modify, Nat.zero_add]; exact h5
      · rw [Array.toList_modify, Nat.zero_add]; exact h6 k'
end Go.Proofs.YtoogangnldppaaaGreatDoor

/- The contract of dir.apart. -/
namespace Go.Proofs.YtoogangnldppaaaGreatDoor
open Go
/-- A map that counts. -/
def CountM (V : View) (r : Nat) (l : List Int) : Prop := ∃ es cl, V.see r = some (.map es cl) ∧ IntK es.toList ∧ ∀ k, (vlk k es.toList).getD (.int .i64 0) = .int .i64 (l.count k)
theorem count_snoc (l : List Int) (x k : Int) : (l ++ [x]).count k = l.count k + if k = x then 1 else 0 := by
  rw [List.count_append]
  by_cases e : k = x
  · subst e; simp
  · rw [if_neg e]; simp [Ne.symm e]
theorem CountM.bump {V : View} {r : Nat} {l : List Int} (h : CountM V r l) (x : Int) : ∃ es cl f, V.see r = some (.map es cl) ∧ mfind (.int .i64 x) es.toList 0 = some f ∧ found (.int .i64 0) f = .int .i64 (l.count x) ∧ CountM (V.put r (mput es cl f (.int .i64 x) (.int .i64 ((l.count x : Int) + 1)))) r (l ++ [x]) := by
  obtain ⟨es, cl, hs, hk, hv⟩ := h
  obtain ⟨f, hf, hfd, es', cl', hm, hk', hv'⟩ := mput_int (cl := cl) (k := x) (v := .int .i64 ((l.count x : Int) + 1)) hk
  refine ⟨es, cl, f, hs, hf, by rw [hfd, hv], es', cl', by rw [View.see_put_same, hm], hk', fun k => ?_⟩
  rw [hv', count_snoc]
  by_cases e : k = x
  · rw [if_pos e, if_pos e, e]; rfl
  · rw [if_neg e, if_neg e, hv]; simp
theorem CountM.look {V : View} {r : Nat} {l : List Int} (h : CountM V r l) (x : Int) : ∃ es cl f, V.see r = some (.map es cl) ∧ mfind (.int .i64 x) es.toList 0 = some f ∧ found (.int .i64 0) f = .int .i64 (l.count x) := by
  obtain ⟨es, cl, f, h1, h2, h3, _⟩ := h.bump x
  exact ⟨es, cl, f, h1, h2, h3⟩
theorem allS_take {t : Tre} {i : Nat} (h : i < t.length) : allS (t.take (i + 1)) = allS (t.take i) ++ (t.getD i default).seqs := by
  unfold allS
  rw [List.take_add_one, List.getElem?_eq_getElem h, List.flatMap_append, getD_at h]
  simp
theorem allS_len : ∀ {t : Tre} {m : Nat}, (∀ n ∈ t, n.seqs.length ≤ m) → (allS t).length ≤ m * t.length
  | [], _, _ => by simp [allS]
  | n :: t, m, h => by
    have h1 := allS_len (t := t) (m := m) fun k hk => h k (by simp [hk])
    have h2 := h n (by simp)
    have e : allS (n :: t) = n.seqs ++ allS t := by simp [allS]
    rw [e, List.length_append, List.length_cons, Nat.mul_add]
    omega
theorem allS_prefix (t : Tre) (i : Nat) : allS (t.take i) <+: allS t := by
  have : allS t = allS (t.take i) ++ allS (t.drop i) := by unfold allS; rw [← List.flatMap_append, List.take_append_drop]
  rw [this]; exact List.prefix_append _ _
theorem apart_prefix {l m : List Int} (h : l <+: m) (ha : apartL l = false) : apartL m = false := by
  unfold apartL at *
  rw [decide_eq_false_iff_not] at *
  exact fun hm => ha (hm.sublist (h.sublist.filter _))
theorem apart_snoc {l : List Int} {x : Int} (h : apartL l = true) : apartL (l ++ [x]) = !(!decide (x = 0) && decide (1 < (l ++ [x]).count x)) := by
  unfold apartL at *
  have h := of_decide_eq_true h
  rw [List.filter_append, count_snoc, if_pos rfl]
  by_cases hx : x = 0
  · subst hx; simpa using h
  · have e1 : [x].filter (fun s => decide (s ≠ 0)) = [x] := by simp [hx]
    rw [e1]
    by_cases hm : x ∈ l
    · have hc := List.count_pos_iff.2 hm
      have : ¬ (l.filter (fun s => decide (s ≠ 0)) ++ [x]).Nodup := by
        rw [List.nodup_append]
        intro hn
        exact hn.2.2 x (by simp [hm, hx]) x (by simp) rfl
      rw [decide_eq_false this, decide_eq_true (show 1 < l.count x + 1 by omega)]
      simp [hx]
    · have hc := List.count_eq_zero.2 hm
      have : (l.filter (fun s => decide (s ≠ 0)) ++ [x]).Nodup := by
        rw [List.nodup_append]
        refine ⟨h, by simp, fun a ha b hb hab => ?_⟩
        have hb : b = x := by simpa using hb
        rw [hab, hb] at ha
        exact hm ((List.mem_filter.1 ha).1)
      rw [decide_eq_true this, hc]
      simp
theorem apart_ok {s : Sl} {t : Tre} {V : View} (h : SlR V s t) (h12 : t.length = 12) (h5 : ∀ n ∈ t, n.seqs.length ≤ 5) : CallV Tryz.prog 118 ⟨[treV s]⟩ V fun r V' => r = .bool (apartL (allS t)) ∧ V.Le V' := by
  refine f118_x ?_
  unfold f118_n
  have hn : s.n = 12 := by rw [h.n, h12]
  rw [hn]
  refine fun _ r hr => ?_
  have hfr : V.see r = none := View.see_none_of_ge hr
  refine loop1 (k := .int .i64) (fun (x : Int) V' => ∃ i : Nat, x = i ∧ i ≤ 12 ∧ CountM V' r (allS (t.take i)) ∧ apartL (allS (t.take i)) = true ∧ V.Le (V'.hide r)) (fun (x : Int) _ => 12 - x.toNat) ⟨0, rfl, by omega, ⟨_, _, View.see_put_same _ _ _, fun e he => (by cases he), fun k => rfl⟩, rfl, put_le_hide hfr (View.Le.refl _)⟩ ?_
  rintro (x : Int) V1 ⟨i, rfl, hi, hs1, hp1, hV1⟩
  have hV1' : V.Le V1 := hV1.trans (View.hide_le _ _)
  refine br_intro (fun hlt => ?_) (fun hge => ?_)
  · have hlt : i < 12 := by have := of_decide_eq_true hlt; omega
    obtain ⟨ad, sq, en, ha, hc, hN⟩ := h.nodN (i := i) (by omega)
    have hmem : t.getD i default ∈ t := by rw [getD_at (by omega)]; exact List.getElem_mem _
    have hle := h5 _ hmem
    have htk : (allS (t.take i)).length ≤ 5 * 12 := Nat.le_trans (allS_len fun n hn => h5 n (List.mem_of_mem_take hn)) (Nat.mul_le_mul_left _ (by simp; omega))
    have hpre := allS_prefix t (i + 1)
    rw [allS_take (by omega)] at hpre
    refine ⟨by omega, by omega, ad, ha, _, _, _, sq, en, cellsAt_mono hV1' hc, fun _ => ?_⟩
    generalize hnd : t.getD i default = nd at *
    have hsn := hN.seqs.n
    refine loop1 (k := .int .i64) (fun (x : Int) V' => ∃ k : Nat, x = k ∧ k ≤ nd.seqs.length ∧ CountM V' r (allS (t.take i) ++ nd.seqs.take k) ∧ apartL (allS (t.take i) ++ nd.seqs.take k) = true ∧ V.Le (V'.hide r)) (fun (x : Int) _ => nd.seqs.length - x.toNat) ⟨0, rfl, by omega, by simpa using hs1, by simpa using hp1, hV1⟩ ?_
    rintro (x : Int) V2 ⟨k, rfl, hk, hs2, hp2, hV2⟩
    have hV2' : V.Le V2 := hV2.trans (View.hide_le _ _)
    refine br_intro (fun hlt => ?_) (fun hge => ?_)
    · have hlt : k < nd.seqs.length := by have := of_decide_eq_true hlt; omega
      obtain ⟨ad, ha, hc, hin⟩ := (hN.seqs.mono hV2').intN hlt
      refine ⟨by omega, by omega, ad, ha, _, hc, ?_⟩
      have etk : nd.seqs.take (k + 1) = nd.seqs.take k ++ [nd.seqs.getD k 0] := by rw [List.take_add_one, List.getElem?_eq_getElem hlt, getD_at0 hlt]; rfl
      have hpre2 : allS (t.take i) ++ nd.seqs.take (k + 1) <+: allS t := by
        refine List.IsPrefix.trans ?_ hpre
        rw [List.prefix_append_right_inj]
        exact List.take_prefix _ _
      rw [etk, ← List.append_assoc] at hpre2
      generalize hx : nd.seqs.getD k 0 = x at *
      obtain ⟨es, cl, f, hse, hmf, hfd, hbump⟩ := hs2.bump x
      have hcl : (allS (t.take i) ++ nd.seqs.take k).count x ≤ 65 := by
        refine Nat.le_trans List.count_le_length ?_
        simp only [List.length_append, List.length_take]; omega
      refine ⟨trivial, es, cl, f, hse, hmf, _, hfd, inI64 (by omega) (by omega), trivial, r, es, cl, f, rfl, hse, hmf, ?_⟩
      dsimp only
      have hV3 : V.Le ((V2.put r (mput es cl f (.int .i64 x) (.int .i64 (((allS (t.take i) ++ nd.seqs.take k).count x : Int) + 1)))).hide r) := hV2.trans (hide_le_put_hide r _)
      generalize (V2.put r (mput es cl f (.int .i64 x) (.int .i64 (((allS (t.take i) ++ nd.seqs.take k).count x : Int) + 1)))) = V3 at *
      refine joinP_cut (fun q V' => q.1 = !apartL (allS (t.take i) ++ nd.seqs.take k ++ [x]) ∧ V' = V3) (br_intro (fun hx0 => ?_) (fun hx0 => ⟨?_, rfl⟩)) ?_
      · obtain ⟨es, cl, f, h1, h2, h3⟩ := hbump.look x
        refine ⟨trivial, es, cl, f, h1, h2, _, h3, ?_, rfl⟩
        rw [apart_snoc hp2, hx0]
        simp only [Bool.true_and, Bool.not_not]
        exact decide_eq_decide.2 (by omega)
      · rw [apart_snoc hp2, hx0]; rfl
      · rintro ⟨q, ⟨⟩⟩ V4 ⟨h1, hV⟩
        simp only at h1 hV
        subst h1 hV
        dsimp only [unc]
        refine br_intro (fun hb => ⟨?_, hV3.trans (View.hide_le _ _)⟩) (fun hb => ⟨inI64 (by omega) (by omega), ⟨k + 1, by omega, by omega, ?_, ?_, hV3⟩, by omega⟩)
        · rw [apart_prefix hpre2 (not_t hb)]
        · rw [etk, ← List.append_assoc]; exact hbump
        · rw [etk, ← List.append_assoc]; exact not_f hb
    · have hge : k = nd.seqs.length := by have := of_decide_eq_false hge; omega
      subst hge
      rw [List.take_length] at hs2 hp2
      refine ⟨inI64 (by omega) (by omega), ⟨i + 1, by omega, by omega, ?_, ?_, hV2⟩, by omega⟩
      · rw [allS_take (by omega), hnd]; exact hs2
      · rw [allS_take (by omega), hnd]; exact hp2
  · have hge : i = 12 := by have := of_decide_eq_false hge; omega
    subst hge
    rw [List.take_of_length_le (by omega)] at hp1
    exact ⟨by rw [hp1], hV1'⟩
end Go.Proofs.YtoogangnldppaaaGreatDoor

/- The contract of dir.May. -/
namespace Go.Proofs.YtoogangnldppaaaGreatDoor
open Go
theorem mayN_seqs {n : Nod} (h : mayN n = true) : n.seqs.length ≤ 5 := by
  unfold mayN at h
  split at h
  · simp at h; rw [h.1.2]; simp
  · split at h
    · unfold fileB at h; simp at h; omega
    · split at h
      · simp at h; rw [h.1.2]; simp
      · cases h
theorem mayT_ok {s : Sl} {t : Tre} {V : View} (h : SlR V s t) : CallV Tryz.prog 69 ⟨[treV s]⟩ V fun r V' => r = .bool (mayT t) ∧ V.Le V' := by
  refine f69_x ?_
  unfold f69_n
  have hn := h.n
  refine fun _ => joinP_cut (fun q V' => q.1 = (!(decide (t.length = 12) && t.all mayN && decide ((t.getD 0 default).kind = 2))) ∧ V' = V) (br_intro (fun hb => ⟨?_, rfl⟩) (fun hb => ?_)) ?_
  · have hb : ¬ t.length = 12 := by have := of_decide_eq_false (not_t hb); omega
    rw [decide_eq_false hb]; rfl
  · have hb : t.length = 12 := by have := of_decide_eq_true (not_f hb); omega
    refine (containsFuncN_ok (p := fun n => !mayN n) h fun n _ a b hN => ?_).mono ?_
    · exact may1_ok hN
    · rintro r V' ⟨rfl, rfl⟩
      have e1 : (t.any fun n => !mayN n) = !t.all mayN := by rw [List.any_eq_not_all_not]; simp
      refine ⟨_, rfl, br_intro (fun h1 => ⟨?_, rfl⟩) (fun h1 => ?_)⟩
      · rw [e1] at h1
        rw [not_t h1, Bool.and_false]; rfl
      · rw [e1] at h1
        obtain ⟨ad, sq, en, ha, hc, hN⟩ := h.nodN (i := 0) (by omega)
        refine ⟨by omega, by omega, ad, ha, _, cellsAt_nth hc 0 rfl, ?_, rfl⟩
        rw [decide_eq_true hb, not_f h1]; rfl
  · rintro ⟨q, ⟨⟩⟩ V1 ⟨h1, hV⟩
    simp only at h1 hV
    subst h1 hV
    dsimp only [unc]
    refine br_intro (fun hb => ⟨?_, View.Le.refl _⟩) (fun hb => ?_)
    · have hb := not_t hb
      unfold mayT
      have : (decide (t.length = 12) && t.all mayN && decide ((t.getD 0 default).kind = 2)) = false := by simpa using hb
      rw [this]; rfl
    · have hb := not_f hb
      have h3 : (decide (t.length = 12) && t.all mayN && decide ((t.getD 0 default).kind = 2)) = true := hb
      have hM : mayT t = ((List.range 12).all (fun i => hangB (t.getD i default) i ((cnt 12 (allE t)).getD i 0) (metB t 0 i)) && apartL (allS t)) := by
        unfold mayT; rw [h3, Bool.true_and]
      rw [hM]
      simp only [Bool.and_eq_true, decide_eq_true_eq, List.all_eq_true] at h3
      obtain ⟨⟨h12, hall⟩, _⟩ := h3
      have hE : ∀ n ∈ t, n.ents.length ≤ 10 := fun n hn => mayL_len (mayN_ents (hall n hn))
      have hnode : ∀ n ∈ t, ∀ e ∈ n.ents, 0 ≤ e.node ∧ e.node < 12 := fun n hn e he => by
        have := mayL_node (mayN_ents (hall n hn)) he; omega
      refine ⟨trivial, V1, View.Le.refl _, (names_ok h h12 hE).mono ?_⟩
      rintro r V2 ⟨x, rfl, hx, hV2⟩
      refine ⟨x, rfl, hV2, (below_ok (a := 0) (h.mono hV2) h12 (by decide) hnode).mono ?_⟩
      rintro r V3 ⟨y, rfl, hy, hV3⟩
      refine ⟨y, rfl, ?_⟩
      have hx3 := hx.mono hV3
      refine loop1 (k := .int .i64) (fun (x : Int) V' => V' = V3 ∧ ∃ i : Nat, x = i ∧ i ≤ 12 ∧ (List.range i).all (fun i => hangB (t.getD i default) i ((cnt 12 (allE t)).getD i 0) (metB t 0 i)) = true) (fun (x : Int) _ => 12 - x.toNat) ⟨rfl, 0, rfl, by omega, rfl⟩ ?_
      rintro (i : Int) V4 ⟨rfl, i, rfl, hi, hP⟩
      have hV14 := hV2.trans hV3
      refine br_intro (fun hlt => ?_) (fun hge => ?_)
      · have hlt : i < 12 := by have := of_decide_eq_true hlt; omega
        obtain ⟨ad, sq, en, ha, hc, hN⟩ := (h.mono hV14).nodN (i := i) (by omega)
        obtain ⟨ad2, ha2, hc2, _⟩ := hx3.intN (i := i) (by rw [cnt_len]; exact hlt)
        obtain ⟨ad3, hx', ha3, hc3⟩ := hy.bool (x := (i : Int)) (by omega) (by have := hy.n; simp at this; omega)
        have e3 : ((List.range 12).map (metB t 0))[((i : Int)).toNat] = metB t 0 i := by simp
        rw [e3] at hc3
        have hxn := hx3.n
        rw [cnt_len] at hxn
        have hyn := hy.n
        simp only [List.length_map, List.length_range] at hyn
        refine ⟨by omega, by omega, ad, ha, _, _, _, sq, en, hc, fun _ => ⟨trivial, V4, View.Le.refl _, by omega, by omega, ad2, ha2, _, hc2, by omega, by omega, ad3, ha3, _, hc3, hangs_ok.mono ?_⟩⟩
        rintro r V5 ⟨rfl, rfl⟩
        refine ⟨_, rfl, br_intro (fun hb => ⟨?_, hV14⟩) (fun hb => ⟨inI64 (by omega) (by omega), ⟨rfl, i + 1, by omega, by omega, all_step hP (not_f hb)⟩, by omega⟩)⟩
        rw [all_stop hlt (not_t hb)]; rfl
      · have hge : i = 12 := by have := of_decide_eq_false hge; omega
        subst hge
        refine (apart_ok (h.mono hV14) h12 fun n hn => mayN_seqs (hall n hn)).mono ?_
        rintro r V5 ⟨rfl, hV5⟩
        refine ⟨_, rfl, ?_, hV14.trans hV5⟩
        rw [hP, Bool.true_and]
end Go.Proofs.YtoogangnldppaaaGreatDoor

/- Which directories one comes to: marks, round by round. No program in this text. -/
namespace Go.Proofs.YtoogangnldppaaaGreatDoor
open Go
abbrev kindT (t : Tre) (j : Nat) : Int := (t.getD j default).kind
abbrev entsT (t : Tre) (j : Nat) : List Ent := (t.getD j default).ents
/-- Marks on directories that one comes to. -/
structure RI (t : Tre) (a : Nat) (on : List Bool) : Prop where
  len : on.length = 12
  start : on.getD a false = true
  sound : ∀ j, on.getD j false = true → Reach t a j ∧ kindT t j = 2
/-- What the marked ones of the first i name is marked, if it is a directory. -/
def Clo (t : Tre) (on0 on : List Bool) (i : Nat) : Prop := ∀ j, j < i → on0.getD j false = true → ∀ e ∈ entsT t j, kindT t e.node.toNat = 2 → on.getD e.node.toNat false = true
def SubB (a b : List Bool) : Prop := ∀ j, a.getD j false = true → b.getD j false = true
/-- Within a round. -/
structure PI (t : Tre) (a : Nat) (on0 on : List Bool) (i : Nat) : Prop where
  ri : RI t a on
  sub : SubB on0 on
  clo : Clo t on0 on i
  stay : Clo t on0 on0 12 → on = on0
def trues (on : List Bool) : Nat := on.countP fun b => b
theorem count_sub : ∀ (a b : List Bool), a.length = b.length → SubB a b → trues a ≤ trues b ∧ (trues a = trues b → a = b)
  | [], [], _, _ => ⟨Nat.le_refl _, fun _ => rfl⟩
  | x :: a, y :: b, hl, hs => by
    obtain ⟨h1, h2⟩ := count_sub a b (by simpa using hl) fun j hj => by have := hs (j + 1) (by simpa using hj); simpa using this
    have h0 : x = true → y = true := fun h => by have := hs 0 (by simpa using h); simpa using this
    unfold trues at *
    simp only [List.countP_cons]
    cases x <;> cases y <;> simp at h0 ⊢
    · exact ⟨h1, h2⟩
    · exact ⟨by omega, fun h => by omega⟩
    · exact ⟨h1, h2⟩
theorem trues_le (on : List Bool) : trues on ≤ on.length := List.countP_le_length
theorem PI.start {t : Tre} {a : Nat} {on : List Bool} (h : RI t a on) : PI t a on on 0 := ⟨h, fun _ h => h, fun _ hj => absurd hj (Nat.not_lt_zero _), fun _ => rfl⟩
theorem PI.skip {t : Tre} {a : Nat} {on0 on : List Bool} {i : Nat} (h : PI t a on0 on i) (hi : on.getD i false = false) : PI t a on0 on (i + 1) :=
  ⟨h.ri, h.sub, fun j hj h0 e he hk => by
    by_cases hji : j = i
    · subst hji; have := h.sub _ h0; rw [hi] at this; cases this
    · exact h.clo j (by omega) h0 e he hk, h.stay⟩
theorem PI.next {t : Tre} {a : Nat} {on0 on : List Bool} {i : Nat} (h : PI t a on0 on i) (hi : ∀ e ∈ entsT t i, kindT t e.node.toNat = 2 → on.getD e.node.toNat false = true) : PI t a on0 on (i + 1) :=
  ⟨h.ri, h.sub, fun j hj h0 e he hk => by
    by_cases hji : j = i
    · subst hji; exact hi e he hk
    · exact h.clo j (by omega) h0 e he hk, h.stay⟩
/-- One round more. -/
theorem PI.round {t : Tre} {a : Nat} {on0 on : List Bool} {k : Nat} (h0 : RI t a on0) (h : PI t a on0 on 12) (hk : Clo t on0 on0 12 ∨ k + 1 ≤ trues on0) : Clo t on on 12 ∨ k + 2 ≤ trues on := by
  obtain ⟨c1, c2⟩ := count_sub on0 on (by rw [h0.len, h.ri.len]) h.sub
  rcases hk with hk | hk
  · left
    have := h.stay hk
    rw [this]; exact hk
  · by_cases e : trues on0 = trues on
    · left
      have := c2 e
      subst this
      exact h.clo
    · right; omega
theorem RI.end {t : Tre} {a : Nat} {on : List Bool} (h : RI t a on) (hk : Clo t on on 12 ∨ 13 ≤ trues on) (h12 : t.length = 12) (hall : ∀ n ∈ t, mayN n = true) : on = (List.range 12).map fun j => metB t a j && decide (kindT t j = 2) := by
  have hc : Clo t on on 12 := by
    rcases hk with hk | hk
    · exact hk
    · have := trues_le on; rw [h.len] at this; omega
  have hdir : ∀ i, i < 12 → entsT t i ≠ [] → kindT t i = 2 := fun i hi hne => by
    have hm : mayN (t.getD i default) = true := hall _ (by rw [getD_at (by omega)]; exact List.getElem_mem _)
    unfold mayN at hm
    split at hm
    · simp at hm; exact absurd hm.2 hne
    · split at hm
      · unfold fileB at hm; simp at hm; exact absurd hm.1.2 hne
      · split at hm
        · rename_i hk; exact hk
        · cases hm
  have hlt : ∀ i, entsT t i ≠ [] → i < 12 := fun i hne => by
    apply Classical.byContradiction
    intro hi
    apply hne
    show (t.getD i default).ents = []
    rw [List.getD_eq_getElem?_getD, List.getElem?_eq_none (by omega)]; rfl
  have hcomp : ∀ j, Reach t a j → kindT t j = 2 → on.getD j false = true := by
    intro j hj
    induction hj with
    | refl => exact fun _ => h.start
    | @step i x hi hx ih =>
      intro hk
      have hne : entsT t i ≠ [] := fun e => by
        have : x ∈ entsT t i := hx
        rw [e] at this; cases this
      have hi12 := hlt i hne
      exact hc i hi12 (ih (hdir i hi12 hne)) x hx hk
  apply List.ext_getElem (by simp [h.len])
  intro j h1 h2
  have e : on.getD j false = on[j] := by rw [List.getD_eq_getElem?_getD, List.getElem?_eq_getElem h1]; rfl
  rw [List.getElem_map, List.getElem_range, Bool.eq_iff_iff, Bool.and_eq_true, metB_iff, decide_eq_true_eq, ← e]
  exact ⟨h.sound j, fun ⟨a, b⟩ => hcomp j a b⟩
end Go.Proofs.YtoogangnldppaaaGreatDoor

/- Contracts of the reference: which directories one comes to, names of a node. -/
namespace Go.Proofs.YtoogangnldppaaaGreatDoor
open Go
/-- Marks in a block, beside what was there. -/
structure MI (V V' : View) (r : Nat) (on : List Bool) : Prop where
  marks : V'.see r = some (.cells ⟨boolsV on⟩ 4 (0, 0))
  le : V.Le (V'.hide r)
theorem MI.vle {V V' : View} {r : Nat} {on : List Bool} (h : MI V V' r on) : V.Le V' := h.le.trans (View.hide_le _ _)
theorem MI.get {V V' : View} {r : Nat} {on : List Bool} (h : MI V V' r on) {q : Nat} (hq : q < on.length) : V'.cell? ((⟨r, 0, none⟩ : Addr).add (q * 1)) = some (.bool (on.getD q false)) := by
  rw [addr0_add]
  refine cell_of_see h.marks ?_
  rw [List.getD_eq_getElem?_getD, List.getElem?_eq_getElem hq]
  show (boolsV on)[0 + q * 1]? = _
  unfold boolsV
  rw [Nat.zero_add, Nat.mul_one, List.getElem?_map, List.getElem?_eq_getElem hq]
  rfl
theorem MI.set {V V' : View} {r : Nat} {on : List Bool} (h : MI V V' r on) {q : Nat} (hq : q < on.length) : canSet V' ((⟨r, 0, none⟩ : Addr).add (q * 1)) 1 ∧ MI V (V'.sets ((⟨r, 0, none⟩ : Addr).add (q * 1)) [.bool true]) r (on.set q true) := by
  rw [addr0_add]
  refine ⟨canSet_of h.marks (show 0 + q * 1 + 1 ≤ _ by rw [boolsV_len]; omega), ?_, ?_⟩
  · rw [sets_see h.marks, View.see_put_same, putL_one, Nat.zero_add, Nat.mul_one, boolsV_set]
  · rw [sets_see h.marks]
    exact h.le.trans (hide_le_put_hide r _)
end Go.Proofs.YtoogangnldppaaaGreatDoor

/- The contract of the reference's Name. -/
namespace Go.Proofs.YtoogangnldppaaaGreatDoor
open Go
end Go.Proofs.YtoogangnldppaaaGreatDoor

/- Contracts of the reference: entries, nodes, names; which inputs are light. -/
namespace Go.Proofs.YtoogangnldppaaaGreatDoor
open Go
theorem wrap_of_in {n : Int} (h : inI .i64 n) : IntKind.wrap .i64 n = n := by
  have h := inI64_iff.1 h
  unfold IntKind.wrap
  simp [IntKind.signed, IntKind.bits]
  omega
/-! ### which inputs are light -/
end Go.Proofs.YtoogangnldppaaaGreatDoor

/- The reference's MayTree: it answers as dir.May does. -/
namespace Go.Proofs.YtoogangnldppaaaGreatDoor
open Go
abbrev namedT (t : Tre) (a : Int) : Nat := (allE t).countP (fun (x : Ent) => decide (x.node = a))
theorem kind_of {n : Nod} (h : mayN n = true) : n.kind = 0 ∨ n.kind = 1 ∨ n.kind = 2 := by
  unfold mayN at h
  split at h
  · rename_i hk; exact .inl hk
  · split at h
    · rename_i hk; exact .inr (.inl hk)
    · split at h
      · rename_i hk; exact .inr (.inr hk)
      · cases h
/-- A map that holds 1 behind what was met. -/
def SeenM (V : View) (r : Nat) (l : List Int) : Prop := ∃ es cl, V.see r = some (.map es cl) ∧ IntK es.toList ∧ ∀ k, (vlk k es.toList).getD (.int .i64 0) = .int .i64 (if k ∈ l then 1 else 0)
theorem SeenM.put {V : View} {r : Nat} {l : List Int} (h : SeenM V r l) (x : Int) : ∃ es cl f, V.see r = some (.map es cl) ∧ mfind (.int .i64 x) es.toList 0 = some f ∧ found (.int .i64 0) f = .int .i64 (if x ∈ l then 1 else 0) ∧ SeenM (V.put r (mput es cl f (.int .i64 x) (.int .i64 1))) r (l ++ [x]) := by
  obtain ⟨es, cl, hs, hk, hv⟩ := h
  obtain ⟨f, hf, hfd, es', cl', hm, hk', hv'⟩ := mput_int (cl := cl) (k := x) (v := .int .i64 1) hk
  refine ⟨es, cl, f, hs, hf, by rw [hfd, hv], es', cl', by rw [View.see_put_same, hm], hk', fun k => ?_⟩
  rw [hv']
  by_cases e : k = x
  · rw [if_pos e, if_pos (by simp [e])]; rfl
  · rw [if_neg e, hv]
    by_cases hm : k ∈ l
    · rw [if_pos hm, if_pos (by simp [hm])]
    · rw [if_neg hm, if_neg (by simp [hm, e])]
end Go.Proofs.YtoogangnldppaaaGreatDoor

/- Contracts of copies of trees, and of trees that are cleared. -/
namespace Go.Proofs.YtoogangnldppaaaGreatDoor
open Go
theorem cloneI_ok {s : Sl} {l : List Int} {V : View} (h : SlR V s l) (hl : l.length ≤ 1000) : CallV Tryz.prog 56 ⟨[.slice s.a s.n s.c]⟩ V fun r V' => ∃ x : Sl, r = .slice x.a x.n x.c ∧ SlR V' x l ∧ V.Le V' := by
  refine f56_x ?_
  unfold f56_n
  refine br_intro (fun hnil => ?_) (fun _ r hr => ?_)
  · have ha : s.a = none := Option.isNone_iff_eq_none.1 hnil
    have hl0 : l = [] := by
      cases l with
      | nil => rfl
      | cons b l => obtain ⟨ad, vs, h1, _⟩ := h.get 0 (by simp); rw [ha] at h1; cases h1
    subst hl0
    exact ⟨⟨none, 0, 0⟩, rfl, SlR.nil _ _ _, View.Le.refl V⟩
  · have hfr : V.see r = none := View.see_none_of_ge hr
    refine appRow (α := Int) (V0 := V) (l := []) (m := l) rfl (cs := []) ⟨rfl, Nat.le_refl _, Nat.zero_le _, .inr ⟨r, [], rfl, View.see_put_same _ _ _, rfl, rfl⟩⟩ rfl (h.mono ?_) ?_ (by simp; omega) (by simp; omega) ?_
    · exact put_le_hide hfr (View.Le.refl _)
    · exact put_le_hide hfr (View.Le.refl _)
    · intro z V' cs' hb hr' hle
      exact ⟨z, rfl, hb.slR hr' (View.minus_le _ _), hle.trans (View.minus_le _ _)⟩
theorem cloneE_ok {s : Sl} {l : List Ent} {V : View} (h : SlR V s l) (hl : l.length ≤ 1000) : CallV Tryz.prog 119 ⟨[.slice s.a s.n s.c]⟩ V fun r V' => ∃ x : Sl, r = .slice x.a x.n x.c ∧ SlR V' x l ∧ V.Le V' := by
  refine f119_x ?_
  unfold f119_n
  refine br_intro (fun hnil => ?_) (fun _ r hr => ?_)
  · have ha : s.a = none := Option.isNone_iff_eq_none.1 hnil
    have hl0 : l = [] := by
      cases l with
      | nil => rfl
      | cons b l => obtain ⟨ad, vs, h1, _⟩ := h.get 0 (by simp); rw [ha] at h1; cases h1
    subst hl0
    exact ⟨⟨none, 0, 0⟩, rfl, SlR.nil _ _ _, View.Le.refl V⟩
  · have hfr : V.see r = none := View.see_none_of_ge hr
    refine appRow (α := Ent) (V0 := V) (l := []) (m := l) rfl (cs := []) ⟨rfl, Nat.le_refl _, Nat.zero_le _, .inr ⟨r, [], rfl, View.see_put_same _ _ _, rfl, rfl⟩⟩ rfl (h.mono ?_) ?_ (by simp; omega) (by simp; omega) ?_
    · exact put_le_hide hfr (View.Le.refl _)
    · exact put_le_hide hfr (View.Le.refl _)
    · intro z V' cs' hb hr' hle
      exact ⟨z, rfl, hb.slR hr' (View.minus_le _ _), hle.trans (View.minus_le _ _)⟩
def LightN (n : Nod) : Prop := n.seqs.length ≤ 1000 ∧ n.ents.length ≤ 1000
theorem mayN_light {n : Nod} (h : mayN n = true) : LightN n := by
  have a := mayN_seqs h
  have b := mayL_len (mayN_ents h)
  exact ⟨by omega, by omega⟩
theorem copyN_ok {n : Nod} {s e : Sl} {V : View} (h : NodR V s e n) (hl : LightN n) : CallV Tryz.prog 71 ⟨[nodV n s e]⟩ V fun r V' => ∃ s' e' : Sl, r = nodV n s' e' ∧ NodR V' s' e' n ∧ V.Le V' := by
  refine f71_x ?_
  unfold f71_n
  refine fun _ _ => ⟨trivial, V, View.Le.refl _, (cloneI_ok h.seqs hl.1).mono ?_⟩
  rintro r V1 ⟨x, rfl, hx, hV1⟩
  refine ⟨x, rfl, hV1, (cloneE_ok (h.ents.mono hV1) hl.2).mono ?_⟩
  rintro r V2 ⟨y, rfl, hy, hV2⟩
  exact ⟨y, rfl, x, y, rfl, ⟨h.kind, h.links, h.size, hx.mono hV2, hy⟩, hV1.trans hV2⟩
/-- A tree of one's own: the row of its nodes is one's own. -/
def OwnT (V0 V : View) (x : Sl) (t : Tre) : Prop := ∃ cs, Buf V x 63 5 cs ∧ repL (V.minus x) cs t ∧ V0.Le (V.minus x)
theorem OwnT.slR {V0 V : View} {x : Sl} {t : Tre} (h : OwnT V0 V x t) : SlR V x t := by
  obtain ⟨cs, hb, hr, _⟩ := h
  exact hb.slR hr (View.minus_le _ _)
theorem OwnT.le {V0 V : View} {x : Sl} {t : Tre} (h : OwnT V0 V x t) : V0.Le V := by
  obtain ⟨cs, hb, hr, hle⟩ := h
  exact hle.trans (View.minus_le _ _)
theorem OwnT.mono {V0 V V' : View} {x : Sl} {t : Tre} (h : OwnT V0 V x t) (hV : V.Le V') : OwnT V0 V' x t := by
  obtain ⟨cs, hb, hr, hle⟩ := h
  have := minus_mono hV x
  exact ⟨cs, hb.mono hV, hr.mono this, hle.trans this⟩
theorem OwnT.from {U V0 V : View} {x : Sl} {t : Tre} (h : OwnT V0 V x t) (hV : U.Le V0) : OwnT U V x t := by
  obtain ⟨cs, hb, hr, hle⟩ := h
  exact ⟨cs, hb, hr, hV.trans hle⟩
/-- A node is set. -/
theorem OwnT.set {V0 V : View} {x : Sl} {t : Tre} (h : OwnT V0 V x t) {i : Nat} (hi : i < t.length) {n : Nod} {vs : List Value} (hn : ∀ cs, Buf V x 63 5 cs → Rep.rep (V.minus x) vs n) :
    ∃ ad, x.a = some ad ∧ canSet V (ad.add (i * 5)) 5 ∧ OwnT V0 (V.sets (ad.add (i * 5)) vs) x (t.set i n) := by
  obtain ⟨cs, hb, hr, hle⟩ := h
  have hd := hn cs hb
  have h5 : vs.length = 5 := Rep.len hd
  obtain ⟨ad, ha, h1, h2, h3, h4⟩ := hb.setE (α := Nod) hr hd hi
  rw [h5] at h1
  exact ⟨ad, ha, h1, _, h2, h3, hle.trans h4⟩
/-- A cell of a node is set. -/
theorem OwnT.setC {V0 V : View} {x : Sl} {t : Tre} (h : OwnT V0 V x t) {i : Nat} (hi : i < t.length) :
    ∃ ad sq en, x.a = some ad ∧ cellsAt V (ad.add (i * 5)) [.int .i64 (t.getD i default).kind, .int .i64 (t.getD i default).links, .int .i64 (t.getD i default).size, .slice sq.a sq.n sq.c, .slice en.a en.n en.c] ∧ NodR (V.minus x) sq en (t.getD i default) ∧
      (∀ k n, inI .i64 k → n = { t.getD i default with links := k } → canSet V ((ad.add (i * 5)).add 1) 1 ∧ OwnT V0 (V.sets ((ad.add (i * 5)).add 1) [.int .i64 k]) x (t.set i n)) ∧
      (∀ k n, inI .i64 k → n = { t.getD i default with size := k } → canSet V ((ad.add (i * 5)).add 2) 1 ∧ OwnT V0 (V.sets ((ad.add (i * 5)).add 2) [.int .i64 k]) x (t.set i n)) ∧
      (∀ q l n, SlR (V.minus x) q l → n = { t.getD i default with seqs := l } → canSet V ((ad.add (i * 5)).add 3) 1 ∧ OwnT V0 (V.sets ((ad.add (i * 5)).add 3) [.slice q.a q.n q.c]) x (t.set i n)) ∧
      (∀ q l n, SlR (V.minus x) q l → n = { t.getD i default with ents := l } → canSet V ((ad.add (i * 5)).add 4) 1 ∧ OwnT V0 (V.sets ((ad.add (i * 5)).add 4) [.slice q.a q.n q.c]) x (t.set i n)) := by
  obtain ⟨cs, hb, hr, hle⟩ := h
  obtain ⟨ad, vs, ha, hc, ⟨sq, en, rfl, h1, h2, h3, h4, h5⟩, hset⟩ := hb.setC (α := Nod) hr hi
  have e0 : t.getD i default = t[i] := getD_at hi
  rw [e0]
  refine ⟨ad, sq, en, ha, hc, ⟨h1, h2, h3, h4, h5⟩, fun k n hk hn => ?_, fun k n hk hn => ?_, fun q l n hq hn => ?_, fun q l n hq hn => ?_⟩
  · obtain ⟨a, b, c, d⟩ := hset 1 (.int .i64 k) n (by decide) ⟨sq, en, by rw [hn]; rfl, by rw [hn]; exact h1, by rw [hn]; exact hk, by rw [hn]; exact h3, by rw [hn]; exact h4, by rw [hn]; exact h5⟩
    exact ⟨a, _, b, c, hle.trans d⟩
  · obtain ⟨a, b, c, d⟩ := hset 2 (.int .i64 k) n (by decide) ⟨sq, en, by rw [hn]; rfl, by rw [hn]; exact h1, by rw [hn]; exact h2, by rw [hn]; exact hk, by rw [hn]; exact h4, by rw [hn]; exact h5⟩
    exact ⟨a, _, b, c, hle.trans d⟩
  · obtain ⟨a, b, c, d⟩ := hset 3 (.slice q.a q.n q.c) n (by decide) ⟨q, en, by rw [hn]; rfl, by rw [hn]; exact h1, by rw [hn]; exact h2, by rw [hn]; exact h3, by rw [hn]; exact hq, by rw [hn]; exact h5⟩
    exact ⟨a, _, b, c, hle.trans d⟩
  · obtain ⟨a, b, c, d⟩ := hset 4 (.slice q.a q.n q.c) n (by decide) ⟨sq, q, by rw [hn]; rfl, by rw [hn]; exact h1, by rw [hn]; exact h2, by rw [hn]; exact h3, by rw [hn]; exact h4, by rw [hn]; exact hq⟩
    exact ⟨a, _, b, c, hle.trans d⟩
theorem copyT_ok {s : Sl} {t : Tre} {V : View} (h : SlR V s t) (hl : t.length ≤ 1000 ∧ ∀ n ∈ t, LightN n) : CallV Tryz.prog 38 ⟨[treV s]⟩ V fun r V' => ∃ x : Sl, r = treV x ∧ OwnT V V' x t := by
  refine f38_x ?_
  unfold f38_n
  have hn := h.n
  refine fun _ _ _ => loop2 (k := .int .i64) (l := .sl) (fun (j : Int) (x : Sl) V' => ∃ i : Nat, j = i ∧ i ≤ t.length ∧ OwnT V V' x (t.take i)) (fun (j : Int) _ _ => t.length - j.toNat) ⟨0, rfl, by omega, [], Buf.nil _ _ _, rfl, View.Le.refl _⟩ ?_
  rintro (j : Int) (x : Sl) V1 ⟨i, rfl, hi, hO⟩
  have hV1 := hO.le
  refine br_intro (fun hlt => ?_) (fun hge => ?_)
  · have hlt : i < t.length := by have := of_decide_eq_true hlt; omega
    obtain ⟨cs, hb, hr, hle⟩ := hO
    obtain ⟨ad, sq, en, ha, hc, hN⟩ := (h.mono hle).nodN hlt
    have hmem : t.getD i default ∈ t := by rw [getD_at hlt]; exact List.getElem_mem _
    have hx := hb.n_eq (α := Nod) hr
    rw [List.length_take] at hx
    have hl1 := hl.1
    refine ⟨by omega, by omega, ad, ha, _, _, _, sq, en, cellsAt_mono (View.minus_le _ _) hc, fun _ => ⟨trivial, V, hV1, ((copyN_ok hN (hl.2 _ hmem)).besideB hb).mono ?_⟩⟩
    rintro r V2 ⟨U, ⟨s', e', rfl, hN', hU⟩, hU2, hb2⟩
    have hle2 := hle.trans (hU.trans hU2)
    have hV2 := hle2.trans (View.minus_le _ _)
    refine ⟨_, _, _, s', e', rfl, hV2, fun r hr1 => ⟨hV2.trans (View.put_le (View.see_none_of_ge hr1)), ?_⟩⟩
    refine app0 (α := Nod) rfl hb2 (hr.mono (hU.trans hU2)) (hN'.mono hU2).rep hle2 hr1 rfl (by show (x.n + 1) * 72 ≤ _; omega) (by show x.n + 1 ≤ _; omega) ?_
    intro z V3 cs3 hb3 hr3 hle3
    refine ⟨inI64 (by omega) (by omega), ⟨i + 1, by omega, by omega, cs3, hb3, ?_, hle3⟩, by omega⟩
    rw [List.take_add_one, List.getElem?_eq_getElem hlt]
    rw [getD_at hlt] at hr3; exact hr3
  · have hge : i = t.length := by have := of_decide_eq_false hge; omega
    subst hge
    rw [List.take_length] at hO
    exact ⟨x, rfl, hO⟩
theorem mayT_light {t : Tre} (h : mayT t = true) : t.length = 12 ∧ ∀ n ∈ t, LightN n := by
  unfold mayT at h
  simp only [Bool.and_eq_true, decide_eq_true_eq, List.all_eq_true] at h
  exact ⟨h.1.1.1.1, fun n hn => mayN_light (h.1.1.1.2 n hn)⟩
end Go.Proofs.YtoogangnldppaaaGreatDoor

/- Contracts of package span, and of the reference's pieces. -/
namespace Go.Proofs.YtoogangnldppaaaGreatDoor
open Go
/-- A piece: a page, a place in it, a length. -/
structure Pce where
  page : Int
  from_ : Int
  len : Int
  deriving DecidableEq
instance : Inhabited Pce := ⟨⟨0, 0, 0⟩⟩
instance : Rep Pce where
  sz := 3
  pos := by decide
  rep _ vs x := vs = [.int .i64 x.page, .int .i64 x.from_, .int .i64 x.len] ∧ inI .i64 x.page ∧ inI .i64 x.from_ ∧ inI .i64 x.len
  len h := by rw [h.1]; rfl
  one h := by rw [h.1]; rfl
  mono _ h := h
theorem SlR.pceN {V : View} {s : Sl} {l : List Pce} (h : SlR V s l) {i : Nat} (hi : i < l.length) :
    ∃ ad, s.a = some ad ∧ cellsAt V (ad.add (i * 3)) [.int .i64 (l.getD i default).page, .int .i64 (l.getD i default).from_, .int .i64 (l.getD i default).len] := by
  obtain ⟨ad, vs, ha, hc, hv⟩ := h.get i hi
  obtain ⟨e, _⟩ := hv
  subst e
  rw [show l.getD i default = l[i] by rw [List.getD_eq_getElem?_getD, List.getElem?_eq_getElem hi]; rfl]
  exact ⟨ad, ha, hc⟩
def fitsI (a n : Int) : Bool := decide (0 ≤ a ∧ a ≤ 80 ∧ 0 ≤ n ∧ n ≤ 80 - a)
def pcsF : Nat → Nat → Nat → List Pce
  | 0, _, _ => []
  | f + 1, a, n => if n = 0 then [] else ⟨(a / 16 : Nat), (a % 16 : Nat), (min n (16 - a % 16) : Nat)⟩ :: pcsF f (a + min n (16 - a % 16)) (n - min n (16 - a % 16))
def pcs (a n : Nat) : List Pce := pcsF n a n
def piecesI (a n : Int) : List Pce := if fitsI a n = true then pcs a.toNat n.toNat else []
theorem pcsF_fuel : ∀ (f g a n : Nat), n ≤ f → n ≤ g → pcsF f a n = pcsF g a n
  | 0, 0, _, _, _, _ => rfl
  | 0, g + 1, a, n, h, _ => by unfold pcsF; rw [if_pos (by omega)]
  | f + 1, 0, a, n, _, h => by unfold pcsF; rw [if_pos (by omega)]
  | f + 1, g + 1, a, n, h1, h2 => by
    unfold pcsF
    by_cases h0 : n = 0
    · rw [if_pos h0, if_pos h0]
    · rw [if_neg h0, if_neg h0, pcsF_fuel f g _ _ (by omega) (by omega)]
theorem pcs_zero (a : Nat) : pcs a 0 = [] := rfl
theorem pcs_step {a n : Nat} (h : 0 < n) : pcs a n = ⟨(a / 16 : Nat), (a % 16 : Nat), (min n (16 - a % 16) : Nat)⟩ :: pcs (a + min n (16 - a % 16)) (n - min n (16 - a % 16)) := by
  obtain ⟨m, rfl⟩ : ∃ m, n = m + 1 := ⟨n - 1, by omega⟩
  unfold pcs
  conv => lhs; unfold pcsF
  rw [if_neg (by omega)]
  congr 1
  exact pcsF_fuel _ _ _ _ (by omega) (Nat.le_refl _)
theorem spanFits_ok {a n : Int} {V : View} : CallV Tryz.prog 92 ⟨[.int .i64 a, .int .i64 n]⟩ V fun r V' => r = .bool (fitsI a n) ∧ V' = V := by
  refine f92_x ?_
  unfold f92_n
  refine joinP_cut (fun q V' => q.1 = fitsI a n ∧ V' = V) (br_intro (fun hb => ?_) (fun hb => ⟨?_, rfl⟩)) ?_
  · simp at hb
    refine ⟨inI64 (by omega) (by omega), ?_, rfl⟩
    unfold fitsI
    exact decide_eq_decide.2 ⟨fun h => by omega, fun h => by omega⟩
  · simp at hb
    unfold fitsI
    rw [decide_eq_false]
    omega
  rintro ⟨q, ⟨⟩⟩ V' ⟨h1, hV⟩
  have h1 : q = fitsI a n := h1
  have hV : V' = V := hV
  subst h1 hV
  exact ⟨rfl, rfl⟩
theorem spanPieces_ok {a n : Int} {V : View} : CallV Tryz.prog 57 ⟨[.int .i64 a, .int .i64 n]⟩ V fun r V' => ∃ x : Sl, r = .slice x.a x.n x.c ∧ SlR V' x (piecesI a n) ∧ V.Le V' := by
  refine f57_x ?_
  unfold f57_n
  refine spanFits_ok.mono ?_
  rintro r V0 ⟨rfl, rfl⟩
  refine ⟨_, rfl, br_intro (fun hf => ?_) (fun hf => ?_)⟩
  · unfold piecesI
    rw [if_neg (by simpa using hf)]
    exact ⟨⟨none, 0, 0⟩, rfl, SlR.nil _ _ _, View.Le.refl _⟩
  have hf := not_f hf
  unfold piecesI
  rw [if_pos hf]
  unfold fitsI at hf
  have hf := of_decide_eq_true hf
  refine loop3 (k := .int .i64) (l := .int .i64) (n := .sl) (fun (y z : Int) (x : Sl) V' => ∃ (b k : Nat) (done : List Pce) (cs : List Value), y = b ∧ z = k ∧ (b : Int) + k = a + n ∧ done ++ pcs b k = pcs a.toNat n.toNat ∧ done.length + k ≤ n.toNat ∧ Buf V' x 98 (Rep.sz Pce) cs ∧ repL (V'.minus x) cs done ∧ V0.Le (V'.minus x)) (fun _ (z : Int) _ _ => z.toNat)
    ⟨a.toNat, n.toNat, [], [], by omega, by omega, by omega, rfl, by simp, Buf.nil _ _ _, rfl, View.Le.refl _⟩ ?_
  rintro (y z : Int) x V1 ⟨b, k, done, cs, rfl, rfl, h1, h2, h3, h4, h5, h6⟩
  refine br_intro (fun hlt => ?_) (fun hge => ?_)
  · have hlt : 0 < k := by have := of_decide_eq_true hlt; omega
    have e1 : Int.tmod (b : Int) 16 = ((b % 16 : Nat) : Int) := rfl
    have e2 : Int.tdiv (b : Int) 16 = ((b / 16 : Nat) : Int) := rfl
    have e3 : (if (16 : Int) - ((b % 16 : Nat) : Int) < (k : Int) then (16 : Int) - ((b % 16 : Nat) : Int) else (k : Int)) = ((min k (16 - b % 16) : Nat) : Int) := by split <;> omega
    rw [e1, e2, e3]
    have hn := (h4.slR h5 (View.minus_le _ _)).n
    refine ⟨by decide, inI64 (by omega) (by omega), by decide, inI64 (by omega) (by omega), fun r hr => ?_⟩
    refine app0 (α := Pce) (d := ⟨((b / 16 : Nat) : Int), ((b % 16 : Nat) : Int), ((min k (16 - b % 16) : Nat) : Int)⟩) rfl h4 h5 ⟨rfl, inI64 (by dsimp only; omega) (by dsimp only; omega), inI64 (by dsimp only; omega) (by dsimp only; omega), inI64 (by dsimp only; omega) (by dsimp only; omega)⟩ h6 hr rfl (by show (x.n + 1) * 24 ≤ _; omega) (by show x.n + 1 ≤ _; omega) fun s V2 cs' g1 g2 g3 => ?_
    refine ⟨inI64 (by omega) (by omega), inI64 (by omega) (by omega), ⟨b + min k (16 - b % 16), k - min k (16 - b % 16), _, cs', by omega, by omega, by omega, ?_, ?_, g1, g2, g3⟩, by omega⟩
    · rw [← h2, pcs_step hlt, List.append_assoc]; rfl
    · rw [List.length_append, List.length_singleton]; omega
  · have hge : k = 0 := by have := of_decide_eq_false hge; omega
    subst hge
    rw [pcs_zero, List.append_nil] at h2
    rw [← h2]
    exact ⟨x, rfl, h4.slR h5 (View.minus_le _ _), h6.trans (View.minus_le _ _)⟩
/-- Pages that have a byte below a size. -/
def pagesI (z : Int) : Nat := (min z.toNat 80 + 15) / 16
theorem spanPages_ok {z : Int} {V : View} : CallV Tryz.prog 156 ⟨[.int .i64 z]⟩ V fun r V' => r = .int .i64 (pagesI z : Nat) ∧ V' = V := by
  refine f156_x ?_
  unfold f156_n
  have e0 : (if (0 : Int) > z then (0 : Int) else z) = (z.toNat : Int) := by split <;> omega
  have e1 : (if (80 : Int) < (z.toNat : Int) then (80 : Int) else (z.toNat : Int)) = ((min z.toNat 80 : Nat) : Int) := by split <;> omega
  rw [e0, e1]
  have e2 : ((min z.toNat 80 : Nat) : Int) + 16 - 1 = ((min z.toNat 80 + 15 : Nat) : Int) := by omega
  rw [e2]
  have e3 : Int.tdiv ((min z.toNat 80 + 15 : Nat) : Int) 16 = (pagesI z : Nat) := rfl
  rw [e3]
  unfold pagesI
  exact ⟨inI64 (by omega) (by omega), inI64 (by omega) (by omega), by decide, inI64 (by omega) (by omega), rfl, rfl⟩
/-- How many of some bytes are below a size. -/
def cutI (z a n : Int) : Int := if a < 0 ∨ n < 0 ∨ z ≤ a then 0 else if z - a < n then z - a else n
theorem spanCut_ok {z a n : Int} {V : View} (hz : z ≤ 9223372036854775807) : CallV Tryz.prog 157 ⟨[.int .i64 z, .int .i64 a, .int .i64 n]⟩ V fun r V' => r = .int .i64 (cutI z a n) ∧ V' = V := by
  refine f157_x ?_
  unfold f157_n
  refine br_intro (fun hb => ?_) (fun hb => ?_)
  · simp at hb
    unfold cutI; rw [if_pos (by omega)]; exact ⟨rfl, rfl⟩
  · simp at hb
    refine ⟨inI64 (by omega) (by omega), ?_, rfl⟩
    unfold cutI; rw [if_neg (show ¬ (a < 0 ∨ n < 0 ∨ z ≤ a) by omega)]
end Go.Proofs.YtoogangnldppaaaGreatDoor

/- Contracts: refs of nodes and trees. -/
namespace Go.Proofs.YtoogangnldppaaaGreatDoor
open Go
/-- The refs of a file's first pages. -/
def refsK (i : Int) (n : Nod) (k : Nat) : List Rf := (List.range k).filterMap fun (j : Nat) => if n.seqs.getD j 0 = 0 then none else some ⟨1 + i * 5 + j, n.seqs.getD j 0⟩
/-- The refs of a node. -/
def refsN (i : Int) (n : Nod) : List Rf := if n.kind = 1 ∧ mayN n = true ∧ within i 11 = true then refsK i n n.seqs.length else []
theorem refsK_len (i : Int) (n : Nod) (k : Nat) : (refsK i n k).length ≤ k := by
  unfold refsK
  have := List.length_filterMap_le (fun (j : Nat) => if n.seqs.getD j 0 = 0 then none else some (⟨1 + i * 5 + j, n.seqs.getD j 0⟩ : Rf)) (List.range k)
  rwa [List.length_range] at this
theorem refsK_succ (i : Int) (n : Nod) (k : Nat) : refsK i n (k + 1) = refsK i n k ++ (if n.seqs.getD k 0 = 0 then [] else [⟨1 + i * 5 + k, n.seqs.getD k 0⟩]) := by
  unfold refsK
  rw [List.range_succ, List.filterMap_append]
  congr 1
  simp only [List.filterMap_cons, List.filterMap_nil]
  split <;> rename_i h <;> split at h <;> simp_all
theorem refsN_len (i : Int) (n : Nod) : (refsN i n).length ≤ 5 := by
  unfold refsN
  split
  · rename_i h
    exact Nat.le_trans (refsK_len _ _ _) (mayN_seqs h.2.1)
  · simp
structure rfL (cs : List Value) (l : List Rf) : Prop where
  rep : ∀ {W : View}, repL W cs l
theorem refsN_ok {i : Int} {n : Nod} {s e : Sl} {V : View} (h : NodR V s e n) : CallV Tryz.prog 179 ⟨[.int .i64 i, nodV n s e]⟩ V fun r V' => ∃ x : Sl, r = .slice x.a x.n x.c ∧ SlR V' x (refsN i n) ∧ V.Le V' := by
  refine f179_x ?_
  unfold f179_n
  refine fun _ => joinP_cut (fun q V' => q.1 = (!decide (n.kind = 1 ∧ mayN n = true ∧ within i 11 = true)) ∧ V' = V) (br_intro (fun hb => ⟨?_, rfl⟩) (fun hb => (mayN_ok h).mono ?_)) ?_
  · have hb := of_decide_eq_false (not_t hb)
    rw [decide_eq_false (fun h => hb h.1)]; rfl
  · have hb := of_decide_eq_true (not_f hb)
    rintro r V1 ⟨rfl, rfl⟩
    refine ⟨_, rfl, br_intro (fun h1 => ⟨?_, rfl⟩) (fun h1 => within_ok.mono ?_)⟩
    · have h1 := not_t h1
      rw [decide_eq_false (fun h => by rw [h1] at h; exact absurd h.2.1 (by decide))]; rfl
    · have h1 := not_f h1
      rintro r V2 ⟨rfl, rfl⟩
      refine ⟨_, rfl, ?_, rfl⟩
      cases h2 : within i 11
      · rw [decide_eq_false (fun h => absurd h.2.2 (by decide))]
      · rw [decide_eq_true ⟨hb, h1, rfl⟩]
  · rintro ⟨q, ⟨⟩⟩ V1 ⟨h1, hV⟩
    simp only at h1 hV
    subst h1 hV
    dsimp only [unc]
    refine br_intro (fun hb => ⟨⟨none, 0, 0⟩, rfl, ?_, View.Le.refl _⟩) (fun hb => ?_)
    · have hb := of_decide_eq_false (not_t hb)
      unfold refsN; rw [if_neg hb]; exact SlR.nil _ _ _
    · have hb := of_decide_eq_true (not_f hb)
      have hw : 0 ≤ i ∧ i ≤ 11 := by
        have := hb.2.2
        unfold within at this; simpa using this
      have h5 := mayN_seqs hb.2.1
      have hR : refsN i n = refsK i n n.seqs.length := by unfold refsN; rw [if_pos hb]
      rw [hR]
      have hsn := h.seqs.n
      refine loop2 (k := .sl) (l := .int .i64) (fun (x : Sl) (j : Int) V' => ∃ (k : Nat) (cs : List Value), j = k ∧ k ≤ n.seqs.length ∧ Buf V' x 190 2 cs ∧ repL V1 cs (refsK i n k) ∧ V1.Le (V'.minus x)) (fun _ (j : Int) _ => n.seqs.length - j.toNat) ⟨0, [], rfl, by omega, Buf.nil _ _ _, rfl, View.Le.refl _⟩ ?_
      rintro (x : Sl) (j : Int) V2 ⟨k, cs, rfl, hk, hbuf, hrep, hV2⟩
      have q2 : V1.Le V2 := hV2.trans (View.minus_le _ _)
      refine br_intro (fun hlt => ?_) (fun hge => ?_)
      · have hlt : k < n.seqs.length := by have := of_decide_eq_true hlt; omega
        obtain ⟨ad, ha, hc, hin⟩ := (h.seqs.mono q2).intN hlt
        have hin' := inI64_iff.1 hin
        refine ⟨by omega, by omega, ad, ha, _, hc, ?_⟩
        refine joinP_cut (fun q V' => ∃ cs, Buf V' q.1 190 2 cs ∧ repL V1 cs (refsK i n (k + 1)) ∧ V1.Le (V'.minus q.1)) (br_intro (fun h0 => ?_) (fun h0 => ?_)) ?_
        · have h0 : ¬ n.seqs.getD k 0 = 0 := of_decide_eq_false (not_t h0)
          refine ⟨inI64 (by omega) (by omega), inI64 (by omega) (by omega), inI64 (by omega) (by omega), fun r hr => ?_⟩
          have hfr := View.see_none_of_ge hr
          have hxn := hbuf.n_eq (α := Rf) hrep
          have hrl := refsK_len i n k
          refine apV_buf rfl (hbuf.put hfr) (src := [.int .i64 (1 + i * 5 + k), .int .i64 (n.seqs.getD k 0)]) (m := 1) ⟨rfl, rowAt_new (View.see_put_same _ _ _) rfl⟩ rfl rfl (by show (x.n + 1) * 16 ≤ _; omega) (by show x.n + 1 ≤ _; omega) fun s V' hb' _ hle' => ?_
          refine ⟨_, hb', ?_, hV2.trans ((put_minus_le hfr).trans hle')⟩
          rw [refsK_succ, if_neg h0]
          exact hrep.snoc ⟨rfl, inI64 (by simp only; omega) (by simp only; omega), hin⟩
        · have h0 : n.seqs.getD k 0 = 0 := of_decide_eq_true (not_f h0)
          refine ⟨cs, hbuf, ?_, hV2⟩
          rw [refsK_succ, if_pos h0, List.append_nil]; exact hrep
        · rintro ⟨q, ⟨⟩⟩ V3 ⟨cs3, hb3, hr3, hV3⟩
          exact ⟨inI64 (by omega) (by omega), ⟨k + 1, cs3, by omega, by omega, hb3, hr3, hV3⟩, by omega⟩
      · have hge : k = n.seqs.length := by have := of_decide_eq_false hge; omega
        subst hge
        exact ⟨x, rfl, hbuf.slR hrep q2, q2⟩
end Go.Proofs.YtoogangnldppaaaGreatDoor

/- Contracts of package quota, and of the reference's counts. -/
namespace Go.Proofs.YtoogangnldppaaaGreatDoor
open Go
theorem pcsF_mem : ∀ {f a n : Nat} {p : Pce}, p ∈ pcsF f a n → a + n ≤ 80 → 0 ≤ p.page ∧ p.page < 5 ∧ 0 ≤ p.from_ ∧ 0 < p.len ∧ p.from_ + p.len ≤ 16
  | 0, _, _, _, h, _ => by unfold pcsF at h; cases h
  | f + 1, a, n, p, h, hle => by
    unfold pcsF at h
    split at h
    · cases h
    · rcases List.mem_cons.1 h with h | h
      · subst h; dsimp only; omega
      · exact pcsF_mem h (by omega)
theorem pieces_mem {a n : Int} {p : Pce} (h : p ∈ piecesI a n) : 0 ≤ p.page ∧ p.page < 5 ∧ 0 ≤ p.from_ ∧ 0 < p.len ∧ p.from_ + p.len ≤ 16 := by
  unfold piecesI at h
  split at h
  · rename_i hf
    unfold fitsI at hf
    have hf := of_decide_eq_true hf
    exact pcsF_mem h (by omega)
  · cases h
theorem pcsF_len : ∀ (f a n : Nat), (pcsF f a n).length ≤ n
  | 0, _, _ => by unfold pcsF; simp
  | f + 1, a, n => by
    unfold pcsF
    split
    · simp
    · rw [List.length_cons]
      have := pcsF_len f (a + min n (16 - a % 16)) (n - min n (16 - a % 16))
      omega
theorem pieces_len (a n : Int) : (piecesI a n).length ≤ 80 := by
  unfold piecesI
  split
  · rename_i hf
    unfold fitsI at hf
    have hf := of_decide_eq_true hf
    have := pcsF_len n.toNat a.toNat n.toNat
    unfold pcs
    omega
  · simp
def offQ (t : Tre) : Bool := !(decide (t.length = 12) && t.all mayN)
theorem offQ_len {t : Tre} (h : offQ t = false) : t.length = 12 := by
  unfold offQ at h
  exact of_decide_eq_true (Bool.and_eq_true_iff.1 (not_f h)).1
def usedN (n : Nod) : Nat := (refsN 0 n).length
theorem usedN_le (n : Nod) : usedN n ≤ 5 := refsN_len 0 n
def usedU (t : Tre) (k : Nat) : Nat := ((List.range k).map fun i => usedN (t.getD i default)).sum
theorem usedU_succ (t : Tre) (k : Nat) : usedU t (k + 1) = usedU t k + usedN (t.getD k default) := by
  unfold usedU; rw [List.range_succ]; simp
theorem usedU_le (t : Tre) : ∀ k, usedU t k ≤ 5 * k
  | 0 => by unfold usedU; simp
  | k + 1 => by
    rw [usedU_succ]
    have := usedU_le t k
    have := usedN_le (t.getD k default)
    omega
def usedT (t : Tre) : Nat := if offQ t = true then 0 else usedU t 12
theorem usedT_le (t : Tre) : usedT t ≤ 60 := by
  unfold usedT
  split
  · omega
  · exact usedU_le t 12
def freeU (t : Tre) (k : Nat) : Nat := (List.range k).countP fun i => decide ((t.getD i default).kind = 0)
theorem freeU_succ (t : Tre) (k : Nat) : freeU t (k + 1) = freeU t k + (if (t.getD k default).kind = 0 then 1 else 0) := by
  unfold freeU; rw [List.range_succ, List.countP_append, List.countP_singleton]; simp
theorem freeU_le (t : Tre) (k : Nat) : freeU t k ≤ k := by
  unfold freeU
  have := List.countP_le_length (p := fun i => decide ((t.getD i default).kind = 0)) (l := List.range k)
  rwa [List.length_range] at this
def freeQ (t : Tre) : Nat := if offQ t = true then 0 else freeU t 12
def leftT (t : Tre) (d : Int) : Int := if offQ t = true then 0 else if (usedT t : Int) < d then d - usedT t else 0
theorem offQC_ok {n : Nod} {s e : Sl} {V : View} (h : NodR V s e n) : CallV Tryz.prog 159 ⟨[nodV n s e]⟩ V fun r V' => r = .bool (!mayN n) ∧ V' = V := by
  refine f159_x ?_
  unfold f159_n
  refine fun _ => (mayN_ok h).mono ?_
  rintro r V' ⟨rfl, rfl⟩
  exact ⟨_, rfl, rfl, rfl⟩
theorem quotaOff_ok {s : Sl} {t : Tre} {V : View} (h : SlR V s t) : CallV Tryz.prog 111 ⟨[treV s]⟩ V fun r V' => r = .bool (offQ t) ∧ V' = V := by
  refine f111_x ?_
  unfold f111_n
  have hn := h.n
  refine fun _ => joinP_cut (fun q V' => q.1 = offQ t ∧ V' = V) (br_intro (fun hb => ⟨?_, rfl⟩) (fun hb => (containsFuncN_ok (xs := []) (ys := []) (p := fun n => !mayN n) h fun n _ a b hN => offQC_ok hN).mono ?_)) ?_
  · have := of_decide_eq_false (not_t hb)
    unfold offQ
    rw [decide_eq_false (show ¬ t.length = 12 by omega)]; rfl
  · rintro r V' ⟨rfl, rfl⟩
    have := of_decide_eq_true (not_f hb)
    have e1 : (t.any fun n => !mayN n) = !t.all mayN := by rw [List.any_eq_not_all_not]; simp
    refine ⟨_, rfl, ?_, rfl⟩
    unfold offQ
    rw [decide_eq_true (show t.length = 12 by omega), e1]; rfl
  rintro ⟨q, ⟨⟩⟩ V' ⟨h1, hV⟩
  have h1 : q = offQ t := h1
  have hV : V' = V := hV
  subst h1 hV
  exact ⟨rfl, rfl⟩
theorem quotaPages_ok {n : Nod} {s e : Sl} {V : View} (h : NodR V s e n) : CallV Tryz.prog 158 ⟨[nodV n s e]⟩ V fun r V' => r = .int .i64 (usedN n : Nat) ∧ V.Le V' := by
  refine f158_x ?_
  unfold f158_n
  refine fun _ => (refsN_ok (i := 0) h).mono ?_
  rintro r V' ⟨x, rfl, hx, hV⟩
  refine ⟨x, rfl, ?_, hV⟩
  rw [hx.n]; rfl
theorem quotaUsed_ok {s : Sl} {t : Tre} {V : View} (h : SlR V s t) : CallV Tryz.prog 110 ⟨[treV s]⟩ V fun r V' => r = .int .i64 (usedT t : Nat) ∧ V.Le V' := by
  refine f110_x ?_
  unfold f110_n
  have hn := h.n
  refine fun _ => (quotaOff_ok h).mono ?_
  rintro r V1 ⟨rfl, rfl⟩
  refine ⟨_, rfl, br_intro (fun ho => ⟨by unfold usedT; rw [if_pos ho]; rfl, View.Le.refl _⟩) (fun ho => ?_)⟩
  have hE : usedT t = usedU t 12 := by unfold usedT; rw [if_neg (by rw [ho]; decide)]
  have hl := offQ_len ho
  refine loop2 (k := .int .i64) (l := .int .i64) (fun (x j : Int) V' => V1.Le V' ∧ ∃ k : Nat, j = k ∧ k ≤ 12 ∧ x = (usedU t k : Nat)) (fun _ (j : Int) _ => 12 - j.toNat) ⟨View.Le.refl _, 0, rfl, by omega, rfl⟩ ?_
  rintro (x j : Int) V2 ⟨hV2, k, rfl, hk, rfl⟩
  refine br_intro (fun hlt => ?_) (fun hge => ?_)
  · have hlt : k < 12 := by have := of_decide_eq_true hlt; omega
    obtain ⟨ad, sq, en, ha, hc, hN⟩ := (h.mono hV2).nodN (i := k) (by omega)
    refine ⟨by omega, by omega, ad, ha, _, _, _, sq, en, hc, fun _ => (quotaPages_ok hN).mono ?_⟩
    rintro r V3 ⟨rfl, hV3⟩
    have := usedU_le t k
    have := usedN_le (t.getD k default)
    exact ⟨_, rfl, inI64 (by omega) (by omega), inI64 (by omega) (by omega), ⟨hV2.trans hV3, k + 1, by omega, by omega, by rw [usedU_succ]; omega⟩, by omega⟩
  · have hge : k = 12 := by have := of_decide_eq_false hge; omega
    subst hge
    exact ⟨by rw [hE], hV2⟩
theorem quotaLeft_ok {s : Sl} {t : Tre} {d : Int} {V : View} (h : SlR V s t) (hd : d ≤ 9223372036854775807) : CallV Tryz.prog 67 ⟨[treV s, .int .i64 d]⟩ V fun r V' => r = .int .i64 (leftT t d) ∧ V.Le V' := by
  refine f67_x ?_
  unfold f67_n
  refine fun _ => (quotaUsed_ok h).mono ?_
  rintro r V1 ⟨rfl, hV1⟩
  refine ⟨_, rfl, (quotaOff_ok (h.mono hV1)).mono ?_⟩
  rintro r V2 ⟨rfl, rfl⟩
  refine ⟨_, rfl, br_intro (fun hb => ?_) (fun hb => ⟨?_, hV1⟩)⟩
  · simp at hb
    refine ⟨inI64 (by omega) (by omega), ?_, hV1⟩
    unfold leftT; rw [if_neg (by rw [hb.1]; decide), if_pos hb.2]
  · unfold leftT
    split
    · rfl
    · rename_i ho
      have ho : offQ t = false := Bool.eq_false_iff.2 ho
      rw [ho] at hb
      rw [if_neg (of_decide_eq_false hb)]
theorem quotaNodes_ok {s : Sl} {t : Tre} {V : View} (h : SlR V s t) : CallV Tryz.prog 68 ⟨[treV s]⟩ V fun r V' => r = .int .i64 (freeQ t : Nat) ∧ V' = V := by
  refine f68_x ?_
  unfold f68_n
  have hn := h.n
  refine fun _ => (quotaOff_ok h).mono ?_
  rintro r V1 ⟨rfl, rfl⟩
  refine ⟨_, rfl, br_intro (fun ho => ⟨by unfold freeQ; rw [if_pos ho]; rfl, rfl⟩) (fun ho => ?_)⟩
  have hE : freeQ t = freeU t 12 := by unfold freeQ; rw [if_neg (by rw [ho]; decide)]
  have hl := offQ_len ho
  refine loop2 (k := .int .i64) (l := .int .i64) (fun (x j : Int) V' => V' = V1 ∧ ∃ k : Nat, j = k ∧ k ≤ 12 ∧ x = (freeU t k : Nat)) (fun _ (j : Int) _ => 12 - j.toNat) ⟨rfl, 0, rfl, by omega, rfl⟩ ?_
  rintro (x j : Int) V2 ⟨rfl, k, rfl, hk, rfl⟩
  have hfl := freeU_le t k
  have hfs := freeU_succ t k
  refine br_intro (fun hlt => ?_) (fun hge => ?_)
  · have hlt : k < 12 := by have := of_decide_eq_true hlt; omega
    obtain ⟨ad, sq, en, ha, hc, hN⟩ := h.nodN (i := k) (by omega)
    refine ⟨by omega, by omega, ad, ha, _, _, _, sq, en, hc, fun _ => joinP_cut (fun q V' => q.1 = (freeU t (k + 1) : Nat) ∧ V' = V2) (br_intro (fun h0 => ⟨inI64 (by omega) (by omega), ?_, rfl⟩) (fun h0 => ⟨?_, rfl⟩)) ?_⟩
    · rw [hfs, if_pos (of_decide_eq_true h0)]; rfl
    · rw [hfs, if_neg (of_decide_eq_false h0)]; rfl
    · rintro ⟨q, ⟨⟩⟩ V3 ⟨h1, hV⟩
      have h1 : q = (freeU t (k + 1) : Nat) := h1
      have hV : V3 = V2 := hV
      subst h1 hV
      exact ⟨inI64 (by omega) (by omega), ⟨rfl, k + 1, by omega, by omega, rfl⟩, by omega⟩
  · have hge : k = 12 := by have := of_decide_eq_false hge; omega
    subst hge
    exact ⟨by rw [hE], rfl⟩
end Go.Proofs.YtoogangnldppaaaGreatDoor

/- Contracts of package file, and of the reference's, first part: what a write needs more; what is a file; what is read. -/
namespace Go.Proofs.YtoogangnldppaaaGreatDoor
open Go
theorem mayN_five {n : Nod} (h : mayN n = true) (hk : n.kind = 1) : n.seqs.length = 5 := by
  unfold mayN at h
  rw [if_neg (by omega), if_pos hk] at h
  unfold fileB at h
  simp at h
  omega
def moreK (n : Nod) (l : List Pce) (k : Nat) : Nat := (l.take k).countP fun p => decide (n.seqs.getD p.page.toNat 0 = 0)
theorem moreK_succ (n : Nod) {l : List Pce} {k : Nat} (h : k < l.length) : moreK n l (k + 1) = moreK n l k + (if n.seqs.getD (l.getD k default).page.toNat 0 = 0 then 1 else 0) := by
  unfold moreK
  rw [List.take_add_one, List.getElem?_eq_getElem h, List.countP_append, Option.toList_some, List.countP_singleton]
  rw [show l.getD k default = l[k] by rw [List.getD_eq_getElem?_getD, List.getElem?_eq_getElem h]; rfl]
  simp
theorem moreK_le (n : Nod) (l : List Pce) (k : Nat) : moreK n l k ≤ l.length := by
  unfold moreK
  refine Nat.le_trans List.countP_le_length ?_
  rw [List.length_take]; omega
/-- How many pages a write needs more. -/
def moreN (n : Nod) (a z : Int) : Nat := if n.kind = 1 ∧ mayN n = true then moreK n (piecesI a z) (piecesI a z).length else 0
theorem moreN_le (n : Nod) (a z : Int) : moreN n a z ≤ 80 := by
  unfold moreN
  split
  · exact Nat.le_trans (moreK_le _ _ _) (pieces_len a z)
  · omega
theorem quotaMore_ok {n : Nod} {s e : Sl} {a z : Int} {V : View} (h : NodR V s e n) : CallV Tryz.prog 154 ⟨[nodV n s e, .int .i64 a, .int .i64 z]⟩ V fun r V' => r = .int .i64 (moreN n a z : Nat) ∧ V.Le V' := by
  refine f154_x ?_
  unfold f154_n
  refine fun _ => joinP_cut (fun q V' => q.1 = (!decide (n.kind = 1 ∧ mayN n = true)) ∧ V' = V) (br_intro (fun hb => ⟨?_, rfl⟩) (fun hb => (mayN_ok h).mono ?_)) ?_
  · have hb := of_decide_eq_false (not_t hb)
    rw [decide_eq_false (fun h => hb h.1)]; rfl
  · have hb := of_decide_eq_true (not_f hb)
    rintro r V1 ⟨rfl, rfl⟩
    refine ⟨_, rfl, ?_, rfl⟩
    cases hm : mayN n
    · rw [decide_eq_false (fun h => by cases h.2)]
    · rw [decide_eq_true ⟨hb, rfl⟩]
  rintro ⟨q, ⟨⟩⟩ V1 ⟨h1, hV⟩
  have h1 : q = !decide (n.kind = 1 ∧ mayN n = true) := h1
  have hV : V1 = V := hV
  subst h1 hV
  dsimp only [unc]
  refine br_intro (fun hb => ⟨?_, View.Le.refl _⟩) (fun hb => ?_)
  · have hb := of_decide_eq_false (not_t hb)
    unfold moreN; rw [if_neg hb]; rfl
  have hb := of_decide_eq_true (not_f hb)
  have h5 := mayN_five hb.2 hb.1
  have hE : moreN n a z = moreK n (piecesI a z) (piecesI a z).length := by unfold moreN; rw [if_pos hb]
  have hpl := pieces_len a z
  have hsn := h.seqs.n
  refine spanPieces_ok.mono ?_
  rintro r V2 ⟨x, rfl, hx, hV2⟩
  have hxn := hx.n
  refine ⟨x, rfl, ?_⟩
  refine loop2 (k := .int .i64) (l := .int .i64) (fun (c j : Int) V' => V' = V2 ∧ ∃ k : Nat, j = k ∧ k ≤ (piecesI a z).length ∧ c = (moreK n (piecesI a z) k : Nat)) (fun _ (j : Int) _ => (piecesI a z).length - j.toNat) ⟨rfl, 0, rfl, by omega, rfl⟩ ?_
  rintro (c j : Int) V3 ⟨rfl, k, rfl, hk, rfl⟩
  have hml := moreK_le n (piecesI a z) k
  refine br_intro (fun hlt => ?_) (fun hge => ?_)
  · have hlt : k < (piecesI a z).length := by have := of_decide_eq_true hlt; omega
    have hms := moreK_succ n hlt
    obtain ⟨ad, ha, hc⟩ := hx.pceN hlt
    have hmem : (piecesI a z).getD k default ∈ piecesI a z := by
      rw [show (piecesI a z).getD k default = (piecesI a z)[k] by rw [List.getD_eq_getElem?_getD, List.getElem?_eq_getElem hlt]; rfl]; exact List.getElem_mem _
    have hp := pieces_mem hmem
    obtain ⟨ad2, ha2, hc2, _⟩ := (h.seqs.mono hV2).intN (i := ((piecesI a z).getD k default).page.toNat) (by omega)
    refine ⟨by omega, by omega, ad, ha, _, _, _, hc, fun _ => ⟨by omega, by omega, ad2, ha2, _, hc2, joinP_cut (fun q V' => q.1 = (moreK n (piecesI a z) (k + 1) : Nat) ∧ V' = V3) (br_intro (fun h0 => ⟨inI64 (by omega) (by omega), ?_, rfl⟩) (fun h0 => ⟨?_, rfl⟩)) ?_⟩⟩
    · rw [hms, if_pos (of_decide_eq_true h0)]; rfl
    · rw [hms, if_neg (of_decide_eq_false h0)]; rfl
    · rintro ⟨q, ⟨⟩⟩ V4 ⟨h1, hV⟩
      have h1 : q = (moreK n (piecesI a z) (k + 1) : Nat) := h1
      have hV : V4 = V3 := hV
      subst h1 hV
      exact ⟨inI64 (by omega) (by omega), ⟨rfl, k + 1, by omega, by omega, rfl⟩, by omega⟩
  · have hge : k = (piecesI a z).length := by have := of_decide_eq_false hge; omega
    subst hge
    exact ⟨by rw [hE], hV2⟩
/-- Is a node a file of a tree that may be? -/
noncomputable def fileQ (t : Tre) (i : Int) : Bool := mayT t && decide (0 ≤ i ∧ i < t.length ∧ kindT t i.toNat = 1)
theorem fileIs_ok {s : Sl} {t : Tre} {i : Int} {V : View} (h : SlR V s t) : CallV Tryz.prog 70 ⟨[treV s, .int .i64 i]⟩ V fun r V' => r = .bool (fileQ t i) ∧ V.Le V' := by
  refine f70_x ?_
  unfold f70_n
  have hn := h.n
  refine fun _ => joinP_cut (fun q V' => q.1 = fileQ t i ∧ V.Le V') ((mayT_ok h).mono ?_) ?_
  · rintro r V1 ⟨rfl, hV⟩
    refine ⟨_, rfl, br_intro (fun hb => ?_) (fun hb => ⟨?_, hV⟩)⟩
    · simp at hb
      obtain ⟨ad, sq, en, ha, hc, _⟩ := (h.mono hV).nodN (i := i.toNat) (by omega)
      refine ⟨by omega, by omega, ad, ha, _, cellsAt_nth hc 0 rfl, ?_, hV⟩
      unfold fileQ
      rw [hb.1.1, Bool.true_and]
      exact decide_eq_decide.2 ⟨fun h => ⟨by omega, by omega, h⟩, fun h => h.2.2⟩
    · unfold fileQ
      cases hm : mayT t
      · rfl
      · rw [hm] at hb
        simp at hb
        rw [Bool.true_and, decide_eq_false]
        omega
  rintro ⟨q, ⟨⟩⟩ V1 ⟨h1, hV⟩
  have h1 : q = fileQ t i := h1
  have hV : V.Le V1 := hV
  subst h1
  exact ⟨rfl, hV⟩
end Go.Proofs.YtoogangnldppaaaGreatDoor

/- Contracts of what is read of a file (program and reference). -/
namespace Go.Proofs.YtoogangnldppaaaGreatDoor
open Go
theorem fileQ_iff {t : Tre} {i : Int} (h : fileQ t i = true) : mayT t = true ∧ 0 ≤ i ∧ i < t.length ∧ kindT t i.toNat = 1 := by
  unfold fileQ at h
  have h := Bool.and_eq_true_iff.1 h
  exact ⟨h.1, of_decide_eq_true h.2⟩
noncomputable def readI (t : Tre) (i a n : Int) : Except Int (List Pce) :=
  if fileQ t i = false ∨ a < 0 ∨ n < 0 then .error 1 else .ok (piecesI a (cutI (t.getD i.toNat default).size a n))
def outR (V V' : View) (r : Value) : Except Int (List Pce) → Prop
  | .ok l => ∃ x : Sl, r = .tuple ⟨[.slice x.a x.n x.c, .int .i64 0]⟩ ∧ SlR V' x l ∧ V.Le V'
  | .error e => r = .tuple ⟨[.slice none 0 0, .int .i64 e]⟩ ∧ V.Le V'
theorem fileRead_ok {s : Sl} {t : Tre} {i a n : Int} {V : View} (h : SlR V s t) : CallV Tryz.prog 109 ⟨[treV s, .int .i64 i, .int .i64 a, .int .i64 n]⟩ V fun r V' => outR V V' r (readI t i a n) := by
  refine f109_x ?_
  unfold f109_n
  have hn := h.n
  refine fun _ => (fileIs_ok h).mono ?_
  rintro r V1 ⟨rfl, hV1⟩
  refine ⟨_, rfl, br_intro (fun hb => ?_) (fun hb => ?_)⟩
  · have : fileQ t i = false ∨ a < 0 ∨ n < 0 := by
      cases hq : fileQ t i <;> simp [hq] at hb ⊢ <;> omega
    unfold readI; rw [if_pos this]; exact ⟨rfl, hV1⟩
  · have hc : fileQ t i = true ∧ 0 ≤ a ∧ 0 ≤ n := by
      cases hq : fileQ t i <;> simp [hq] at hb ⊢ <;> omega
    obtain ⟨hm, h0, h1, hk⟩ := fileQ_iff hc.1
    have hE : readI t i a n = .ok (piecesI a (cutI (t.getD i.toNat default).size a n)) := by
      unfold readI; rw [if_neg]; rintro (e | e | e)
      · rw [hc.1] at e; cases e
      · omega
      · omega
    rw [hE]
    obtain ⟨ad, sq, en, ha, hcc, hN⟩ := (h.mono hV1).nodN (i := i.toNat) (by omega)
    have hsz := inI64_iff.1 hN.size
    refine ⟨by omega, by omega, ad, ha, _, cellsAt_nth hcc 2 rfl, (spanCut_ok (by omega)).mono ?_⟩
    rintro r V2 ⟨rfl, rfl⟩
    refine ⟨_, rfl, spanPieces_ok.mono ?_⟩
    rintro r V3 ⟨x, rfl, hx, hV3⟩
    exact ⟨x, rfl, x, rfl, hx, hV1.trans hV3⟩
end Go.Proofs.YtoogangnldppaaaGreatDoor

/- Contracts of a page's new bytes (program and reference). -/
namespace Go.Proofs.YtoogangnldppaaaGreatDoor
open Go
/-- A page that is to be written. -/
structure Tod where
  node : Int
  page : Int
  old : Int
  keep : Int
  from_ : Int
  data : List UInt8
instance : Inhabited Tod := ⟨⟨0, 0, 0, 0, 0, []⟩⟩
structure TodR (V : View) (y : Sl) (x : Tod) : Prop where
  node : inI .i64 x.node
  page : inI .i64 x.page
  old : inI .i64 x.old
  keep : inI .i64 x.keep
  from_ : inI .i64 x.from_
  data : SlR V y x.data
theorem TodR.mono {V V' : View} {y : Sl} {x : Tod} (hV : V.Le V') (h : TodR V y x) : TodR V' y x := ⟨h.node, h.page, h.old, h.keep, h.from_, h.data.mono hV⟩
instance : Rep Tod where
  sz := 6
  pos := by decide
  rep V vs x := ∃ y : Sl, vs = [.int .i64 x.node, .int .i64 x.page, .int .i64 x.old, .int .i64 x.keep, .int .i64 x.from_, .slice y.a y.n y.c] ∧ TodR V y x
  len h := by obtain ⟨y, h, _⟩ := h; rw [h]; rfl
  one h := by obtain ⟨y, h, _⟩ := h; rw [h]; rfl
  mono hV h := let ⟨y, h, k⟩ := h; ⟨y, h, k.mono hV⟩
theorem SlR.todN {V : View} {s : Sl} {l : List Tod} (h : SlR V s l) {i : Nat} (hi : i < l.length) :
    ∃ ad y, s.a = some ad ∧ cellsAt V (ad.add (i * 6)) [.int .i64 (l.getD i default).node, .int .i64 (l.getD i default).page, .int .i64 (l.getD i default).old, .int .i64 (l.getD i default).keep, .int .i64 (l.getD i default).from_, .slice y.a y.n y.c] ∧ TodR V y (l.getD i default) := by
  obtain ⟨ad, vs, ha, hc, y, e, hv⟩ := h.get i hi
  subst e
  rw [getD_at hi]
  exact ⟨ad, y, ha, hc, hv⟩
theorem SlR.u8N {V : View} {s : Sl} {l : List UInt8} (h : SlR V s l) {i : Nat} (hi : i < l.length) :
    ∃ ad, s.a = some ad ∧ V.cell? (ad.add (i * 1)) = some (.int .u8 (l.getD i 0).toNat) := by
  obtain ⟨ad, hx, ha, hc⟩ := h.u8 (x := (i : Int)) (by omega) (by have := h.n; omega)
  have e : l.getD i 0 = l[i] := by rw [List.getD_eq_getElem?_getD, List.getElem?_eq_getElem hi]; rfl
  rw [e]
  exact ⟨ad, ha, hc⟩
def todV (x : Tod) (y : Sl) : Value := .agg ⟨[.int .i64 x.node, .int .i64 x.page, .int .i64 x.old, .int .i64 x.keep, .int .i64 x.from_, .slice y.a y.n y.c]⟩
/-- Bytes in a block, beside what was there. -/
structure B8 (V V' : View) (r : Nat) (l : List UInt8) : Prop where
  at_ : V'.see r = some (.cells ⟨u8s l⟩ 5 (0, 0))
  le : V.Le (V'.hide r)
theorem B8.vle {V V' : View} {r : Nat} {l : List UInt8} (h : B8 V V' r l) : V.Le V' := h.le.trans (View.hide_le _ _)
theorem u8s_set (l : List UInt8) (i : Nat) (b : UInt8) : (u8s l).set i (.int .u8 b.toNat) = u8s (l.set i b) := by unfold u8s; rw [List.map_set]
theorem B8.set {V V' : View} {r : Nat} {l : List UInt8} (h : B8 V V' r l) {q : Nat} (hq : q < l.length) (b : UInt8) : canSet V' ((⟨r, 0, none⟩ : Addr).add (q * 1)) 1 ∧ B8 V (V'.sets ((⟨r, 0, none⟩ : Addr).add (q * 1)) [.int .u8 b.toNat]) r (l.set q b) := by
  rw [addr0_add]
  refine ⟨canSet_of h.at_ (show 0 + q * 1 + 1 ≤ _ by rw [u8s_len]; omega), ?_, ?_⟩
  · rw [sets_see h.at_, View.see_put_same, putL_one, Nat.zero_add, Nat.mul_one, u8s_set]
  · rw [sets_see h.at_]
    exact h.le.trans (hide_le_put_hide r _)
theorem B8.slR {V V' : View} {r : Nat} {l : List UInt8} (h : B8 V V' r l) (hl : l.length ≤ 1000) : SlR V' ⟨some ⟨r, 0, none⟩, l.length, l.length⟩ l :=
  slR_block (W := V') h.at_ (u8s_rep l) (View.Le.refl _) (by omega)
/-- Bytes made one by one. -/
def mixB (f g : Nat → UInt8) (i : Nat) : List UInt8 := (List.range 16).map fun k => if k < i then f k else g k
theorem mixB_len (f g : Nat → UInt8) (i : Nat) : (mixB f g i).length = 16 := by unfold mixB; simp
theorem mixB_set (f g : Nat → UInt8) (i : Nat) : (mixB f g i).set i (f i) = mixB f g (i + 1) := by
  unfold mixB
  apply List.ext_getElem
  · simp
  · intro j h1 h2
    rw [List.getElem_set]
    simp only [List.getElem_map, List.getElem_range]
    split
    · rename_i e; subst e; rw [if_pos (by omega)]
    · rename_i e
      by_cases hj : j < i
      · rw [if_pos hj, if_pos (by omega)]
      · rw [if_neg hj, if_neg (by omega)]
theorem mixB_skip {f g : Nat → UInt8} {i : Nat} (h : f i = g i) : mixB f g i = mixB f g (i + 1) := by
  unfold mixB
  apply List.map_congr_left
  intro j _
  by_cases hj : j < i
  · rw [if_pos hj, if_pos (by omega)]
  · rw [if_neg hj]
    by_cases he : j = i
    · subst he; rw [if_pos (by omega), h]
    · rw [if_neg (by omega)]
theorem mixB_all (f g : Nat → UInt8) : mixB f g 16 = (List.range 16).map f := by
  unfold mixB
  apply List.map_congr_left
  intro j hj
  rw [if_pos (List.mem_range.1 hj)]
theorem mixB_zero (f g : Nat → UInt8) : mixB f g 0 = (List.range 16).map g := by
  unfold mixB
  apply List.map_congr_left
  intro j _
  rw [if_neg (by omega)]
def keepAt (old : List UInt8) (x : Tod) (k : Nat) : UInt8 := if (k : Int) < x.keep then old.getD k 0 else 0
def overAt (old : List UInt8) (x : Tod) (m : Nat) (k : Nat) : UInt8 := if x.from_ ≤ k ∧ (k : Int) - x.from_ < m then x.data.getD ((k : Int) - x.from_).toNat 0 else keepAt old x k
def makeAt (old : List UInt8) (x : Tod) (k : Nat) : UInt8 := overAt old x x.data.length k
/-- A page's new bytes. -/
def makeB (old : List UInt8) (x : Tod) : List UInt8 := (List.range 16).map (makeAt old x)
theorem makeB_len (old : List UInt8) (x : Tod) : (makeB old x).length = 16 := by unfold makeB; simp
theorem copied {old : List UInt8} {x : Tod} {m : Nat} (hm : m = min (min (max x.keep 0).toNat old.length) 16) : putL (u8s (List.replicate 16 0)) 0 (u8s (old.take m)) = u8s ((List.range 16).map (keepAt old x)) := by
  rw [putL_eq _ _ _ (by rw [u8s_len, u8s_len]; simp; omega)]
  rw [List.take_zero, List.nil_append, Nat.zero_add, u8s_len]
  unfold u8s
  rw [← List.map_drop, ← List.map_append]
  congr 1
  apply List.ext_getElem
  · simp; omega
  · intro j h1 h2
    have hj : j < 16 := by simpa using h2
    have hml : (old.take m).length = m := by simp; omega
    simp only [List.getElem_map, List.getElem_range]
    rw [List.getElem_append]
    unfold keepAt
    split
    · rename_i h
      rw [hml] at h
      rw [List.getElem_take, if_pos (by omega), List.getD_eq_getElem?_getD, List.getElem?_eq_getElem (by omega)]; rfl
    · rename_i h
      rw [hml] at h
      rw [List.getElem_drop, List.getElem_replicate]
      split
      · rename_i h3
        rw [List.getD_eq_getElem?_getD, List.getElem?_eq_none (by omega)]; rfl
      · rfl
theorem fileMake_ok {s y : Sl} {old : List UInt8} {x : Tod} {V : View} (hs : SlR V s old) (hx : TodR V y x) (hdl : x.data.length ≤ 1000000) : CallV Tryz.prog 35 ⟨[.slice s.a s.n s.c, todV x y]⟩ V fun r V' => ∃ b : Nat, V.size ≤ b ∧ r = .slice (some ⟨b, 0, none⟩) 16 16 ∧ B8 V V' b (makeB old x) := by
  refine f35_x ?_
  unfold f35_n
  have hn := hs.n
  have hyn := hx.data.n
  have hyl := hx.data.lim
  have hf := inI64_iff.1 hx.from_
  have hsc := hs.c
  refine fun _ => ⟨by decide, by decide, by decide, by decide, fun b hb => ?_⟩
  have hfr : V.see b = none := View.see_none_of_ge hb
  obtain ⟨m0, hm0⟩ : ∃ m0 : Nat, (if (s.n : Int) < if 0 > x.keep then 0 else x.keep then (s.n : Int) else if 0 > x.keep then 0 else x.keep) = m0 ∧ m0 = min (max x.keep 0).toNat old.length := by
    refine ⟨min (max x.keep 0).toNat old.length, ?_, rfl⟩
    split <;> split at * <;> omega
  rw [hm0.1]
  have hB : B8 V ((V.put b (.cells ⟨u8s (List.replicate 16 0)⟩ 5 (0, 0))).sets ⟨b, 0, none⟩ (u8s (old.take (min m0 16)))) b (mixB (makeAt old x) (keepAt old x) 0) := by
    have h1 : (V.put b (.cells ⟨u8s (List.replicate 16 0)⟩ 5 (0, 0))).see b = some (.cells ⟨u8s (List.replicate 16 0)⟩ 5 (0, 0)) := View.see_put_same _ _ _
    rw [sets_see h1, copied (by rw [hm0.2]), mixB_zero]
    exact ⟨View.see_put_same _ _ _, (put_le_hide hfr (View.Le.refl _)).trans (hide_le_put_hide b _)⟩
  refine ⟨by omega, by omega, by omega, u8s (old.take (min m0 16)), ?_, u8s_one _, ?_, ?_⟩
  · rw [map_add_zero, ite_self]
    have := ((hs.mono (View.put_le (o := .cells ⟨u8s (List.replicate 16 0)⟩ 5 (0, 0)) hfr)).take (j := min m0 16) (by omega)).row8
    rw [show min ((m0 : Int).toNat - 0) 16 = min m0 16 by omega]
    exact this
  · exact canSet_of (View.see_put_same _ _ _) (by rw [u8s_len]; simp; omega)
  refine loop1 (k := .int .i64) (fun (j : Int) V1 => ∃ i : Nat, j = i ∧ i ≤ 16 ∧ B8 V V1 b (mixB (makeAt old x) (keepAt old x) i)) (fun (j : Int) _ => 16 - j.toNat) ⟨0, rfl, by omega, hB⟩ ?_
  rintro (j : Int) V1 ⟨i, rfl, hi, hM⟩
  refine br_intro (fun hlt => ?_) (fun hge => ?_)
  · have hlt : i < 16 := by have := of_decide_eq_true hlt; omega
    obtain ⟨f, hf1⟩ : ∃ f : Int, (if 0 - (y.n : Int) > x.from_ then 0 - (y.n : Int) else x.from_) = f ∧ f = max x.from_ (-(x.data.length : Int)) := ⟨max x.from_ (-(x.data.length : Int)), by split <;> omega, rfl⟩
    rw [hf1.1]
    have hf2 := hf1.2
    refine ⟨inI64 (by omega) (by omega), inI64 (by omega) (by omega), joinP_cut (fun _ V2 => B8 V V2 b (mixB (makeAt old x) (keepAt old x) (i + 1))) (br_intro (fun hb => ?_) (fun hb => ?_)) ?_⟩
    · have hc : 0 ≤ (i : Int) - f ∧ (i : Int) - f < y.n := by
        by_cases h0 : 0 ≤ (i : Int) - f
        · rw [decide_eq_true h0] at hb; exact ⟨h0, of_decide_eq_true hb⟩
        · rw [decide_eq_false h0] at hb; cases hb
      have hff : f = x.from_ := by omega
      subst hff
      obtain ⟨ad, ha, hcc⟩ := (hx.data.mono hM.vle).u8N (i := ((i : Int) - x.from_).toNat) (by omega)
      obtain ⟨h1, h2⟩ := hM.set (q := i) (by rw [mixB_len]; omega) (makeAt old x i)
      rw [mixB_set] at h2
      have hm : makeAt old x i = x.data.getD ((i : Int) - x.from_).toNat 0 := by
        unfold makeAt overAt; rw [if_pos (by omega)]
      rw [hm] at h2
      exact ⟨by omega, by omega, ad, ha, _, hcc, by omega, by omega, _, rfl, h1, h2⟩
    · have hc : ¬ (0 ≤ (i : Int) - f ∧ (i : Int) - f < y.n) := by
        rintro ⟨h0, h1⟩
        rw [decide_eq_true h0, decide_eq_true h1] at hb; cases hb
      rw [← mixB_skip]
      · exact hM
      · unfold makeAt overAt; rw [if_neg (by omega)]
    · rintro ⟨⟩ V2 hM2
      exact ⟨inI64 (by omega) (by omega), ⟨i + 1, by omega, by omega, hM2⟩, by omega⟩
  · have hge : i = 16 := by have := of_decide_eq_false hge; omega
    subst hge
    rw [mixB_all] at hM
    exact ⟨b, hb, rfl, hM⟩
end Go.Proofs.YtoogangnldppaaaGreatDoor
