/- Texts joined: Ob, MayOk, PathOk, Data, DirLaw, NodeOk, Grow, NamesOk, BelowLaw, BelowOk, MapLaw, ApartOk, DirOk, Num, BytesOk, ReadOk. -/
import Derived.Test.YtpalkdmngckcoaaDoorSoundC
import Derived.Test.YtpalkdmngckcoaaDoorPk2
import Derived.Test.YtpalkdmngckcoaaDoorPk1
import Derived.KernelRfl
/- What the executor asks of these functions, written out. (Printed by wip/tools/gen.py.) -/
set_option maxRecDepth 100000
set_option linter.unusedVariables false
namespace Go.Proofs.YtpalkdmngckcoaaDoor
open Go
/-- potsherd/dir.hangs -/
def f46_n (a0_0 : Int) (a0_1 : Int) (a0_2 : Int) (a0_3 : Sl) (a0_4 : Sl) (a1 : Int) (a2 : Int) (a3 : Bool) (V : View) (Q : Value → View → Prop) : Prop :=
    ∀ (b : Nat), br (decide (a0_0 = (2 : Int))) (Q (Value.bool (bif a3 then bif decide (a1 = (0 : Int)) then true else decide (a2 = (1 : Int)) else false)) V) (br (decide (a0_0 = (1 : Int))) (Q (Value.bool (decide (a0_1 = a2))) V) (Q (Value.bool (decide (a2 = (0 : Int)))) V))
def f46_ac : AC := (.seq (.reg ⟨.done, false, [], [], none⟩) (.seq (.seq (.reg ⟨.done, false, [], [], none⟩) (.block none (.seq (.reg ⟨.done, false, [], [], none⟩) (.cond none (.seq (.reg ⟨.done, false, [], [], none⟩) .leaf) (.seq (.reg ⟨.done, false, [], [], none⟩) (.cond none (.seq (.reg ⟨.done, false, [], [], none⟩) .leaf) .leaf)))))) (.seq (.reg ⟨.done, false, [], [], none⟩) .leaf)))
theorem f46_x {a0_0 : Int} {a0_1 : Int} {a0_2 : Int} {a0_3 : Sl} {a0_4 : Sl} {a1 : Int} {a2 : Int} {a3 : Bool} {V : View} {Q : Value → View → Prop} (h : f46_n a0_0 a0_1 a0_2 a0_3 a0_4 a1 a2 a3 V Q) : CallV Tryd.prog 46 ⟨[(.agg ⟨[(.int .i64 a0_0), (.int .i64 a0_1), (.int .i64 a0_2), (.slice a0_3.a a0_3.n a0_3.c), (.slice a0_4.a a0_4.n a0_4.c)]⟩), (.int .i64 a1), (.int .i64 a2), (.bool a3)]⟩ V Q :=
  XF_sound (wr := false) Tryd.checked.mixed (enters_of (fn := Tryd.f46) (by kernel_rfl) (by kernel_rfl) (by kernel_rfl)) (fn := Tryd.f46) (by kernel_rfl) (ac := f46_ac)
    (Eq.mp (show f46_n a0_0 a0_1 a0_2 a0_3 a0_4 a1 a2 a3 V Q = XF Tryd.prog false Tryd.f46 (f46_ac) [(.agg ⟨[(.int .i64 a0_0), (.int .i64 a0_1), (.int .i64 a0_2), (.slice a0_3.a a0_3.n a0_3.c), (.slice a0_4.a a0_4.n a0_4.c)]⟩), (.int .i64 a1), (.int .i64 a2), (.bool a3)] V Q from by kernel_rfl) h)
/-- potsherd/dir.apart -/
def f47_n (a0_0 : Sl) (V : View) (Q : Value → View → Prop) : Prop :=
    ∀ (b : Nat), newB V (Obj.map (Array.mk []) (0 : Nat)) fun (r : Nat) (V : View) => loopP [K.int IntKind.i64] (fun (x : Int) (V : View) (J : CurP [K.int IntKind.i64]) => br (decide (x < (↑(Sl.n a0_0) : Int))) ((0 : Int) ≤ x ∧ x < (↑(Sl.n a0_0) : Int) ∧ ∃ (ad : Addr), Sl.a a0_0 = some ad ∧ ∃ (x_1 : Int), ∃ (x_2 : Int), ∃ (x_3 : Int), ∃ (x_4 : Sl), ∃ (x_5 : Sl), cellsAt V (Addr.add ad (Int.toNat x * (5 : Nat))) [Value.int IntKind.i64 x_1, Value.int IntKind.i64 x_2, Value.int IntKind.i64 x_3, Value.slice (Sl.a x_4) (Sl.n x_4) (Sl.c x_4), Value.slice (Sl.a x_5) (Sl.n x_5) (Sl.c x_5)] ∧ ∀ (b : Nat), loopP [K.int IntKind.i64] (fun (x_6 : Int) (V : View) (J_1 : CurP [K.int IntKind.i64]) => br (decide (x_6 < (↑(Sl.n x_4) : Int))) ((0 : Int) ≤ x_6 ∧ x_6 < (↑(Sl.n x_4) : Int) ∧ ∃ (ad : Addr), Sl.a x_4 = some ad ∧ ∃ (x : Int), View.cell? V (Addr.add ad (Int.toNat x_6 * (1 : Nat))) = some (Value.int IntKind.i64 x) ∧ True ∧ mapG V (some r) (Value.int IntKind.i64 x) fun (f : Option (Nat × Value)) => ∃ (x_7 : Int), found (Value.int IntKind.i64 (0 : Int)) f = Value.int IntKind.i64 x_7 ∧ inI IntKind.i64 (x_7 + (1 : Int)) ∧ True ∧ mapW V (some r) (Value.int IntKind.i64 x) fun (r_1 : Nat) (es : Array MapEntry) (cl : Nat) (f : Option (Nat × Value)) => joinP [K.bool] (fun (J : CurP [K.bool]) => br (!decide (x = (0 : Int))) (True ∧ mapG (View.put V r_1 (mput es cl f (Value.int IntKind.i64 x) (Value.int IntKind.i64 (x_7 + (1 : Int))))) (some r) (Value.int IntKind.i64 x) fun (f_1 : Option (Nat × Value)) => ∃ (x_8 : Int), found (Value.int IntKind.i64 (0 : Int)) f_1 = Value.int IntKind.i64 x_8 ∧ J (decide ((1 : Int) < x_8)) (View.put V r_1 (mput es cl f (Value.int IntKind.i64 x) (Value.int IntKind.i64 (x_7 + (1 : Int)))))) (J false (View.put V r_1 (mput es cl f (Value.int IntKind.i64 x) (Value.int IntKind.i64 (x_7 + (1 : Int))))))) fun (x : Bool) (V : View) => br x (Q (Value.bool false) V) (inI IntKind.i64 (x_6 + (1 : Int)) ∧ J_1 (x_6 + (1 : Int)) V)) (inI IntKind.i64 (x + (1 : Int)) ∧ J (x + (1 : Int)) V)) ((0 : Int), ()) V) (Q (Value.bool true) V)) ((0 : Int), ()) V
def f47_ac : AC := (.seq (.reg ⟨.done, false, [], [], none⟩) (.seq (.reg ⟨.done, false, [], [], none⟩) (.seq (.seq (.reg ⟨.done, false, [], [], none⟩) (.block none (.loop ⟨[5, 7, 13, 14, 15, 16, 17, 18, 19, 20, 21, 22, 23, 24, 25, 26, 27, 28, 29, 30, 31, 32, 33, 34, 35, 36], [(12, .int .i64)], []⟩ (.seq (.reg ⟨.done, false, [], [], none⟩) (.seq (.cond none .leaf .leaf) (.seq (.block none (.seq (.reg ⟨.done, false, [], [], none⟩) (.seq (.reg ⟨.done, false, [], [], none⟩) (.block none (.loop ⟨[7, 20, 21, 22, 23, 24, 25, 26, 27, 28, 29, 30, 31, 32, 33, 34, 35], [(19, .int .i64)], []⟩ (.seq (.reg ⟨.done, false, [], [], none⟩) (.seq (.cond none .leaf .leaf) (.seq (.block none (.seq (.reg ⟨.done, false, [], [], none⟩) (.seq (.reg ⟨.done, false, [], [], none⟩) (.seq (.reg ⟨.done, false, [], [], (some ⟨[27, 28, 29, 30, 31, 32, 33], [(34, .bool)], []⟩)⟩) (.cond none (.seq (.reg ⟨.done, false, [], [], none⟩) .leaf) .leaf))))) (.reg ⟨.done, false, [], [], none⟩))))))))) (.reg ⟨.done, false, [], [], none⟩))))))) (.seq (.reg ⟨.done, false, [], [], none⟩) .leaf))))
theorem f47_x {a0_0 : Sl} {V : View} {Q : Value → View → Prop} (h : f47_n a0_0 V Q) : CallV Tryd.prog 47 ⟨[(.agg ⟨[(.slice a0_0.a a0_0.n a0_0.c)]⟩)]⟩ V Q :=
  XF_sound (wr := false) Tryd.checked.mixed (enters_of (fn := Tryd.f47) (by kernel_rfl) (by kernel_rfl) (by kernel_rfl)) (fn := Tryd.f47) (by kernel_rfl) (ac := f47_ac)
    (Eq.mp (show f47_n a0_0 V Q = XF Tryd.prog false Tryd.f47 (f47_ac) [(.agg ⟨[(.slice a0_0.a a0_0.n a0_0.c)]⟩)] V Q from by kernel_rfl) h)
/-- potsherd/path.Split -/
def f49_n (a0 : ByteArray) (V : View) (Q : Value → View → Prop) : Prop :=
    CallV Tryd.prog (68 : Nat) (Array.mk [Value.string a0, Value.string (ByteArray.mk #[(47 : UInt8)])]) V fun (r : Value) (V : View) => ∃ (x : ByteArray), ∃ (x_1 : Bool), r = Value.tuple (Array.mk [Value.string x, Value.bool x_1]) ∧ br (bif !x_1 then true else decide ((60 : Int) < (↑(ByteArray.size a0) : Int))) (Q (Value.tuple (Array.mk [Value.slice none (0 : Nat) (0 : Nat), Value.int IntKind.i64 (7 : Int)])) V) (br (decide (x = ByteArray.mk #[])) (Q (Value.tuple (Array.mk [Value.slice none (0 : Nat) (0 : Nat), Value.int IntKind.i64 (0 : Int)])) V) (CallV Tryd.prog (69 : Nat) (Array.mk [Value.string x, Value.string (ByteArray.mk #[(47 : UInt8)])]) V fun (r : Value) (V : View) => ∃ (x : Sl), r = Value.slice (Sl.a x) (Sl.n x) (Sl.c x) ∧ CallV Tryd.prog (70 : Nat) (Array.mk [Value.slice (Sl.a x) (Sl.n x) (Sl.c x), Value.func (Fn.func (71 : Nat)) (Array.mk []) (Array.mk [])]) V fun (r : Value) (V : View) => ∃ (x_2 : Bool), r = Value.bool x_2 ∧ br x_2 (Q (Value.tuple (Array.mk [Value.slice none (0 : Nat) (0 : Nat), Value.int IntKind.i64 (7 : Int)])) V) (Q (Value.tuple (Array.mk [Value.slice (Sl.a x) (Sl.n x) (Sl.c x), Value.int IntKind.i64 (0 : Int)])) V)))
def f49_ac : AC := (.seq (.reg ⟨.done, false, [], [], none⟩) (.seq (.reg ⟨.done, false, [], [], none⟩) (.seq (.seq (.reg ⟨.done, false, [], [], none⟩) (.cond none (.seq (.reg ⟨.done, false, [], [], none⟩) .leaf) .leaf)) (.seq (.seq (.reg ⟨.done, false, [], [], none⟩) (.cond none (.seq (.reg ⟨.done, false, [], [], none⟩) .leaf) .leaf)) (.seq (.reg ⟨.done, false, [], [], none⟩) (.seq (.seq (.reg ⟨.done, false, [], [], none⟩) (.cond none (.seq (.reg ⟨.done, false, [], [], none⟩) .leaf) .leaf)) (.seq (.reg ⟨.done, false, [], [], none⟩) .leaf)))))))
theorem f49_x {a0 : ByteArray} {V : View} {Q : Value → View → Prop} (h : f49_n a0 V Q) : CallV Tryd.prog 49 ⟨[(.string a0)]⟩ V Q :=
  XF_sound (wr := false) Tryd.checked.mixed (enters_of (fn := Tryd.f49) (by kernel_rfl) (by kernel_rfl) (by kernel_rfl)) (fn := Tryd.f49) (by kernel_rfl) (ac := f49_ac)
    (Eq.mp (show f49_n a0 V Q = XF Tryd.prog false Tryd.f49 (f49_ac) [(.string a0)] V Q from by kernel_rfl) h)
/-- potsherd/dir.find -/
def f50_n (a0_0 : Sl) (a1 : Sl) (V : View) (Q : Value → View → Prop) : Prop :=
    ∀ (b : Nat), loopP [K.int IntKind.i64, K.int IntKind.i64] (fun (x x_1 : Int) (V : View) (J : CurP [K.int IntKind.i64, K.int IntKind.i64]) => br (decide (x_1 < (↑(Sl.n a1) : Int))) ((0 : Int) ≤ x_1 ∧ x_1 < (↑(Sl.n a1) : Int) ∧ ∃ (ad : Addr), Sl.a a1 = some ad ∧ ∃ (x_2 : ByteArray), View.cell? V (Addr.add ad (Int.toNat x_1 * (1 : Nat))) = some (Value.string x_2) ∧ (0 : Int) ≤ x ∧ x < (↑(Sl.n a0_0) : Int) ∧ ∃ (ad : Addr), Sl.a a0_0 = some ad ∧ ∃ (x_3 : Int), View.cell? V (Addr.add (Addr.add ad (Int.toNat x * (5 : Nat))) (0 : Nat)) = some (Value.int IntKind.i64 x_3) ∧ br (!decide (x_3 = (2 : Int))) (Q (Value.tuple (Array.mk [Value.int IntKind.i64 (0 : Int), Value.int IntKind.i64 (11 : Int)])) V) ((0 : Int) ≤ x ∧ x < (↑(Sl.n a0_0) : Int) ∧ ∃ (ad : Addr), Sl.a a0_0 = some ad ∧ ∃ (x_4 : Sl), View.cell? V (Addr.add (Addr.add ad (Int.toNat x * (5 : Nat))) (4 : Nat)) = some (Value.slice (Sl.a x_4) (Sl.n x_4) (Sl.c x_4)) ∧ CallV Tryd.prog (73 : Nat) (Array.mk [Value.slice (Sl.a x_4) (Sl.n x_4) (Sl.c x_4), Value.string x_2]) V fun (r : Value) (V : View) => ∃ (x : Int), r = Value.int IntKind.i64 x ∧ br (decide (x < (0 : Int))) (Q (Value.tuple (Array.mk [Value.int IntKind.i64 (0 : Int), Value.int IntKind.i64 (8 : Int)])) V) (inI IntKind.i64 (x_1 + (1 : Int)) ∧ J x (x_1 + (1 : Int)) V))) (Q (Value.tuple (Array.mk [Value.int IntKind.i64 x, Value.int IntKind.i64 (0 : Int)])) V)) ((0 : Int), (0 : Int), ()) V
def f50_ac : AC := (.seq (.reg ⟨.done, false, [], [], none⟩) (.seq (.reg ⟨.done, false, [], [], none⟩) (.seq (.seq (.reg ⟨.done, false, [], [], none⟩) (.block none (.loop ⟨[8, 12, 13, 14, 15, 16, 17, 18, 19, 20, 21, 22, 23, 24, 25, 26, 27, 28, 29, 30, 31, 32], [(6, .int .i64), (11, .int .i64)], []⟩ (.seq (.reg ⟨.done, false, [], [], none⟩) (.seq (.cond none .leaf .leaf) (.seq (.block none (.seq (.reg ⟨.done, false, [], [], none⟩) (.seq (.seq (.reg ⟨.done, false, [], [], none⟩) (.cond none (.seq (.reg ⟨.done, false, [], [], none⟩) .leaf) .leaf)) (.seq (.reg ⟨.done, false, [], [], none⟩) (.seq (.reg ⟨.done, false, [], [], none⟩) (.cond none (.seq (.reg ⟨.done, false, [], [], none⟩) .leaf) .leaf)))))) (.reg ⟨.done, false, [], [], none⟩))))))) (.seq (.reg ⟨.done, false, [], [], none⟩) .leaf))))
theorem f50_x {a0_0 : Sl} {a1 : Sl} {V : View} {Q : Value → View → Prop} (h : f50_n a0_0 a1 V Q) : CallV Tryd.prog 50 ⟨[(.agg ⟨[(.slice a0_0.a a0_0.n a0_0.c)]⟩), (.slice a1.a a1.n a1.c)]⟩ V Q :=
  XF_sound (wr := false) Tryd.checked.mixed (enters_of (fn := Tryd.f50) (by kernel_rfl) (by kernel_rfl) (by kernel_rfl)) (fn := Tryd.f50) (by kernel_rfl) (ac := f50_ac)
    (Eq.mp (show f50_n a0_0 a1 V Q = XF Tryd.prog false Tryd.f50 (f50_ac) [(.agg ⟨[(.slice a0_0.a a0_0.n a0_0.c)]⟩), (.slice a1.a a1.n a1.c)] V Q from by kernel_rfl) h)
/-- potsherd/path.Last -/
def f51_n (a0 : ByteArray) (V : View) (Q : Value → View → Prop) : Prop :=
    CallV Tryd.prog (49 : Nat) (Array.mk [Value.string a0]) V fun (r : Value) (V : View) => ∃ (x : Sl), ∃ (x_1 : Int), r = Value.tuple (Array.mk [Value.slice (Sl.a x) (Sl.n x) (Sl.c x), Value.int IntKind.i64 x_1]) ∧ br (!decide (x_1 = (0 : Int))) (Q (Value.tuple (Array.mk [Value.string (ByteArray.mk #[]), Value.string (ByteArray.mk #[]), Value.int IntKind.i64 x_1])) V) (br (decide ((↑(Sl.n x) : Int) = (0 : Int))) (Q (Value.tuple (Array.mk [Value.string (ByteArray.mk #[]), Value.string (ByteArray.mk #[]), Value.int IntKind.i64 (18 : Int)])) V) (inI IntKind.i64 ((↑(Sl.n x) : Int) - (1 : Int)) ∧ True ∧ ∃ (S : View), View.Le S V ∧ (0 : Int) ≤ (0 : Int) ∧ (0 : Int) ≤ (↑(Sl.n x) : Int) - (1 : Int) ∧ (↑(Sl.n x) : Int) - (1 : Int) ≤ (↑(Sl.c x) : Int) ∧ (0 : Int) ≤ (↑(Sl.n x) : Int) - (1 : Int) ∧ (↑(Sl.n x) : Int) - (1 : Int) < (↑(Sl.n x) : Int) ∧ ∃ (ad : Addr), Sl.a x = some ad ∧ ∃ (x_2 : ByteArray), View.cell? S (Addr.add ad (Int.toNat ((↑(Sl.n x) : Int) - (1 : Int)) * (1 : Nat))) = some (Value.string x_2) ∧ CallV Tryd.prog (67 : Nat) (Array.mk [Value.slice (if Sl.c x = (0 : Nat) then Sl.a x else Option.map (fun (x : Addr) => Addr.add x (0 : Nat)) (Sl.a x)) (Int.toNat ((↑(Sl.n x) : Int) - (1 : Int)) - (0 : Nat)) (Sl.c x - (0 : Nat))]) V fun (r : Value) (V : View) => ∃ (x : ByteArray), r = Value.string x ∧ View.Le S V ∧ Q (Value.tuple (Array.mk [Value.string x, Value.string x_2, Value.int IntKind.i64 (0 : Int)])) V))
def f51_ac : AC := (.seq (.reg ⟨.done, false, [], [], none⟩) (.seq (.reg ⟨.done, false, [], [], none⟩) (.seq (.block none (.seq (.reg ⟨.done, false, [], [], none⟩) (.cond none (.seq (.reg ⟨.done, false, [], [], none⟩) .leaf) (.seq (.reg ⟨.done, false, [], [], none⟩) (.cond none (.seq (.reg ⟨.done, false, [], [], none⟩) .leaf) .leaf))))) (.seq (.reg ⟨.done, false, [], [], none⟩) (.seq (.reg ⟨(.fl 0 (.fl 1 (.fl 2 (.fl 4 (.fl 5 (.fl 6 (.fl 7 (.alt 3 true false (.fl 8 (.fl 9 (.fl 10 .done))) .no)))))))), true, [], [], none⟩) .leaf)))))
theorem f51_x {a0 : ByteArray} {V : View} {Q : Value → View → Prop} (h : f51_n a0 V Q) : CallV Tryd.prog 51 ⟨[(.string a0)]⟩ V Q :=
  XF_sound (wr := false) Tryd.checked.mixed (enters_of (fn := Tryd.f51) (by kernel_rfl) (by kernel_rfl) (by kernel_rfl)) (fn := Tryd.f51) (by kernel_rfl) (ac := f51_ac)
    (Eq.mp (show f51_n a0 V Q = XF Tryd.prog false Tryd.f51 (f51_ac) [(.string a0)] V Q from by kernel_rfl) h)
/-- potsherd/root.Bytes -/
def f52_n (a0_0 : Sl) (V : View) (Q : Value → View → Prop) : Prop :=
    ∀ (b : Nat), CallV Tryd.prog (20 : Nat) (Array.mk [Value.agg (Array.mk [Value.slice (Sl.a a0_0) (Sl.n a0_0) (Sl.c a0_0)])]) V fun (r : Value) (V : View) => ∃ (x : Bool), r = Value.bool x ∧ br (!x) (Q (Value.tuple (Array.mk [Value.slice none (0 : Nat) (0 : Nat), Value.int IntKind.i64 (1 : Int)])) V) (loopP [K.sl, K.int IntKind.i64] (fun (x : Sl) (x_1 : Int) (V : View) (J : CurP [K.sl, K.int IntKind.i64]) => br (decide (x_1 < (↑(Sl.n a0_0) : Int))) ((0 : Int) ≤ x_1 ∧ x_1 < (↑(Sl.n a0_0) : Int) ∧ ∃ (ad : Addr), Sl.a a0_0 = some ad ∧ ∃ (x_2 : Int), ∃ (x_3 : Int), ∃ (x_4 : Int), ∃ (x_5 : Sl), ∃ (x_6 : Sl), cellsAt V (Addr.add ad (Int.toNat x_1 * (5 : Nat))) [Value.int IntKind.i64 x_2, Value.int IntKind.i64 x_3, Value.int IntKind.i64 x_4, Value.slice (Sl.a x_5) (Sl.n x_5) (Sl.c x_5), Value.slice (Sl.a x_6) (Sl.n x_6) (Sl.c x_6)] ∧ ∀ (b : Nat), newB V (Obj.cells (Array.mk (putL [Value.int IntKind.i64 (0 : Int)] (0 : Nat) [Value.int IntKind.i64 x_2])) (3 : Nat)) fun (r : Nat) (V : View) => CallV Tryd.prog (74 : Nat) (Array.mk [Value.slice (Sl.a x) (Sl.n x) (Sl.c x), Value.slice (some (Addr.mk r (0 : Nat) none)) (1 : Nat) (1 : Nat)]) V fun (r : Value) (V : View) => ∃ (x : Sl), r = Value.slice (Sl.a x) (Sl.n x) (Sl.c x) ∧ joinP [K.sl] (fun (J : CurP [K.sl]) => br (decide (x_2 = (1 : Int))) (True ∧ ∃ (S : View), View.Le S V ∧ newB V (Obj.cells (Array.mk (putL (putL [Value.int IntKind.i64 (0 : Int), Value.int IntKind.i64 (0 : Int)] (0 : Nat) [Value.int IntKind.i64 x_3]) (1 : Nat) [Value.int IntKind.i64 x_4])) (3 : Nat)) fun (r : Nat) (V : View) => View.Le S V ∧ CallV Tryd.prog (74 : Nat) (Array.mk [Value.slice (Sl.a x) (Sl.n x) (Sl.c x), Value.slice (some (Addr.mk r (0 : Nat) none)) (2 : Nat) (2 : Nat)]) V fun (r : Value) (V : View) => ∃ (x : Sl), r = Value.slice (Sl.a x) (Sl.n x) (Sl.c x) ∧ View.Le S V ∧ CallV Tryd.prog (74 : Nat) (Array.mk [Value.slice (Sl.a x) (Sl.n x) (Sl.c x), Value.slice (Sl.a x_5) (Sl.n x_5) (Sl.c x_5)]) V fun (r : Value) (V : View) => ∃ (x : Sl), r = Value.slice (Sl.a x) (Sl.n x) (Sl.c x) ∧ J (Sl.mk (Sl.a x) (Sl.n x) (Sl.c x)) V) (joinP [K.sl] (fun (J : CurP [K.sl]) => br (decide (x_2 = (2 : Int))) (newB V (Obj.cells (Array.mk (putL [Value.int IntKind.i64 (0 : Int)] (0 : Nat) [Value.int IntKind.i64 (↑(Sl.n x_6) : Int)])) (3 : Nat)) fun (r : Nat) (V : View) => CallV Tryd.prog (74 : Nat) (Array.mk [Value.slice (Sl.a x) (Sl.n x) (Sl.c x), Value.slice (some (Addr.mk r (0 : Nat) none)) (1 : Nat) (1 : Nat)]) V fun (r : Value) (V : View) => ∃ (x : Sl), r = Value.slice (Sl.a x) (Sl.n x) (Sl.c x) ∧ loopP [K.sl, K.int IntKind.i64] (fun (x : Sl) (x_7 : Int) (V : View) (J_1 : CurP [K.sl, K.int IntKind.i64]) => br (decide (x_7 < (↑(Sl.n x_6) : Int))) ((0 : Int) ≤ x_7 ∧ x_7 < (↑(Sl.n x_6) : Int) ∧ ∃ (ad : Addr), Sl.a x_6 = some ad ∧ ∃ (x_8 : ByteArray), ∃ (x_9 : Int), cellsAt V (Addr.add ad (Int.toNat x_7 * (2 : Nat))) [Value.string x_8, Value.int IntKind.i64 x_9] ∧ ∀ (b : Nat), joinP [K.sl] (fun (J : CurP [K.sl]) => True ∧ ∃ (S : View), View.Le S V ∧ (∀ (cap : Nat), ByteArray.size x_8 ≤ cap → newB V (Obj.cells (Array.mk (bytesV x_8 ++ List.replicate (cap - ByteArray.size x_8) (Value.int IntKind.u8 (0 : Int)))) (5 : Nat) (cap, Nat.succ (Nat.add cap (nat_lit 0)))) fun (r : Nat) (V : View) => View.Le S V ∧ (CallV Tryd.prog (75 : Nat) (Array.mk [Value.slice (Sl.a x) (Sl.n x) (Sl.c x), Value.slice (some (Addr.mk r (0 : Nat) none)) (ByteArray.size x_8) cap]) V fun (r : Value) (V : View) => ∃ (x : Sl), r = Value.slice (Sl.a x) (Sl.n x) (Sl.c x) ∧ View.Le S V ∧ newB V (Obj.cells (Array.mk (putL [Value.int IntKind.i64 (0 : Int)] (0 : Nat) [Value.int IntKind.i64 x_9])) (3 : Nat)) fun (r : Nat) (V : View) => View.Le S V ∧ CallV Tryd.prog (74 : Nat) (Array.mk [Value.slice (Sl.a x) (Sl.n x) (Sl.c x), Value.slice (some (Addr.mk r (0 : Nat) none)) (1 : Nat) (1 : Nat)]) V fun (r : Value) (V : View) => ∃ (x : Sl), r = Value.slice (Sl.a x) (Sl.n x) (Sl.c x) ∧ J (Sl.mk (Sl.a x) (Sl.n x) (Sl.c x)) V) ∧ newB V (Obj.cells (Array.mk (putL [Value.int IntKind.i64 (0 : Int)] (0 : Nat) [Value.int IntKind.i64 x_9])) (3 : Nat)) fun (r_1 : Nat) (V : View) => View.Le S V ∧ CallV Tryd.prog (75 : Nat) (Array.mk [Value.slice (Sl.a x) (Sl.n x) (Sl.c x), Value.slice (some (Addr.mk r (0 : Nat) none)) (ByteArray.size x_8) cap]) V fun (r : Value) (V : View) => ∃ (x : Sl), r = Value.slice (Sl.a x) (Sl.n x) (Sl.c x) ∧ View.Le S V ∧ CallV Tryd.prog (74 : Nat) (Array.mk [Value.slice (Sl.a x) (Sl.n x) (Sl.c x), Value.slice (some (Addr.mk r_1 (0 : Nat) none)) (1 : Nat) (1 : Nat)]) V fun (r : Value) (V : View) => ∃ (x : Sl), r = Value.slice (Sl.a x) (Sl.n x) (Sl.c x) ∧ J (Sl.mk (Sl.a x) (Sl.n x) (Sl.c x)) V) ∧ newB V (Obj.cells (Array.mk (putL [Value.int IntKind.i64 (0 : Int)] (0 : Nat) [Value.int IntKind.i64 x_9])) (3 : Nat)) fun (r : Nat) (V : View) => View.Le S V ∧ ∀ (cap : Nat), ByteArray.size x_8 ≤ cap → newB V (Obj.cells (Array.mk (bytesV x_8 ++ List.replicate (cap - ByteArray.size x_8) (Value.int IntKind.u8 (0 : Int)))) (5 : Nat) (cap, Nat.succ (Nat.add cap (nat_lit 0)))) fun (r_1 : Nat) (V : View) => View.Le S V ∧ CallV Tryd.prog (75 : Nat) (Array.mk [Value.slice (Sl.a x) (Sl.n x) (Sl.c x), Value.slice (some (Addr.mk r_1 (0 : Nat) none)) (ByteArray.size x_8) cap]) V fun (r_2 : Value) (V : View) => ∃ (x : Sl), r_2 = Value.slice (Sl.a x) (Sl.n x) (Sl.c x) ∧ View.Le S V ∧ CallV Tryd.prog (74 : Nat) (Array.mk [Value.slice (Sl.a x) (Sl.n x) (Sl.c x), Value.slice (some (Addr.mk r (0 : Nat) none)) (1 : Nat) (1 : Nat)]) V fun (r : Value) (V : View) => ∃ (x : Sl), r = Value.slice (Sl.a x) (Sl.n x) (Sl.c x) ∧ J (Sl.mk (Sl.a x) (Sl.n x) (Sl.c x)) V) fun (x : Sl) (V : View) => inI IntKind.i64 (x_7 + (1 : Int)) ∧ J_1 (Sl.mk (Sl.a x) (Sl.n x) (Sl.c x)) (x_7 + (1 : Int)) V) (J (Sl.mk (Sl.a x) (Sl.n x) (Sl.c x)) V)) (Sl.mk (Sl.a x) (Sl.n x) (Sl.c x), (0 : Int), ()) V) (J (Sl.mk (Sl.a x) (Sl.n x) (Sl.c x)) V)) fun (x : Sl) (V : View) => J (Sl.mk (Sl.a x) (Sl.n x) (Sl.c x)) V)) fun (x : Sl) (V : View) => inI IntKind.i64 (x_1 + (1 : Int)) ∧ J (Sl.mk (Sl.a x) (Sl.n x) (Sl.c x)) (x_1 + (1 : Int)) V) (Q (Value.tuple (Array.mk [Value.slice (Sl.a x) (Sl.n x) (Sl.c x), Value.int IntKind.i64 (0 : Int)])) V)) (Sl.mk none (0 : Nat) (0 : Nat), (0 : Int), ()) V)
def f52_ac : AC := (.seq (.reg ⟨.done, false, [], [], none⟩) (.seq (.seq (.reg ⟨.done, false, [], [], none⟩) (.cond none (.seq (.reg ⟨.done, false, [], [], none⟩) .leaf) .leaf)) (.seq (.reg ⟨.done, false, [], [], none⟩) (.seq (.seq (.reg ⟨.done, false, [], [], none⟩) (.block none (.loop ⟨[6, 8, 16, 17, 18, 19, 20, 21, 22, 23, 24, 25, 26, 27, 28, 29, 30, 31, 32, 33, 34, 35, 36, 37, 38, 39, 40, 41, 42, 43, 44, 45, 46, 47, 48, 49, 50, 51, 52, 53, 54, 55, 56, 57, 58, 59, 60, 61, 62, 63], [(4, .sl), (15, .int .i64)], []⟩ (.seq (.reg ⟨.done, false, [], [], none⟩) (.seq (.cond none .leaf .leaf) (.seq (.block none (.seq (.reg ⟨.done, false, [], [], none⟩) (.seq (.reg ⟨.done, false, [], [], none⟩) (.seq (.reg ⟨.done, false, [], [], none⟩) (.block none (.seq (.reg ⟨.done, false, [], [], none⟩) (.cond (some ⟨[8, 28, 29, 30, 31, 32, 33, 34, 35, 36, 37, 38, 39, 40, 41, 42, 43, 44, 45, 46, 47, 48, 49, 50, 51, 52, 53, 54, 55, 56, 57, 58, 59, 60, 61, 62], [(4, .sl)], []⟩) (.reg ⟨(.fl 0 (.fl 1 (.fl 2 (.fl 3 (.fl 4 (.fl 7 (.fl 8 (.alt 5 true false (.alt 6 true false (.alt 9 false false (.fl 10 .done) .no) .no) .no)))))))), true, [], [], none⟩) (.seq (.reg ⟨.done, false, [], [], none⟩) (.cond (some ⟨[8, 40, 41, 42, 43, 44, 45, 46, 47, 48, 49, 50, 51, 52, 53, 54, 55, 56, 57, 58, 59, 60, 61, 62], [(4, .sl)], []⟩) (.seq (.reg ⟨.done, false, [], [], none⟩) (.seq (.reg ⟨.done, false, [], [], none⟩) (.block none (.loop ⟨[8, 50, 51, 52, 53, 54, 55, 56, 57, 58, 59, 60, 61, 62], [(4, .sl), (49, .int .i64)], []⟩ (.seq (.reg ⟨.done, false, [], [], none⟩) (.seq (.cond none .leaf .leaf) (.seq (.block none (.seq (.reg ⟨.done, false, [], [], none⟩) (.reg ⟨(.fl 0 (.fl 1 (.fl 2 (.fl 5 (.fl 6 (.alt 3 true false (.alt 4 true false (.alt 7 true false (.alt 8 false false (.fl 9 .done) .no) .no) (.alt 7 true false (.alt 4 true false (.alt 8 false false (.fl 9 .done) .no) .no) .no)) (.alt 7 true false (.alt 3 true false (.alt 4 true false (.alt 8 false false (.fl 9 .done) .no) .no) .no) .no))))))), true, [], [], (some ⟨[53, 54, 55, 56, 57, 58, 59, 60, 61], [(4, .sl)], []⟩)⟩))) (.reg ⟨.done, false, [], [], none⟩)))))))) .leaf))))))))) (.reg ⟨.done, false, [], [], none⟩))))))) (.seq (.reg ⟨.done, false, [], [], none⟩) .leaf)))))
theorem f52_x {a0_0 : Sl} {V : View} {Q : Value → View → Prop} (h : f52_n a0_0 V Q) : CallV Tryd.prog 52 ⟨[(.agg ⟨[(.slice a0_0.a a0_0.n a0_0.c)]⟩)]⟩ V Q :=
  XF_sound (wr := false) Tryd.checked.mixed (enters_of (fn := Tryd.f52) (by kernel_rfl) (by kernel_rfl) (by kernel_rfl)) (fn := Tryd.f52) (by kernel_rfl) (ac := f52_ac)
    (Eq.mp (show f52_n a0_0 V Q = XF Tryd.prog false Tryd.f52 (f52_ac) [(.agg ⟨[(.slice a0_0.a a0_0.n a0_0.c)]⟩)] V Q from by kernel_rfl) h)
/-- potsherd/root.Parse -/
def f53_n (a0 : Sl) (V : View) (Q : Value → View → Prop) : Prop :=
    ∀ (b : Nat), CallV Tryd.prog (76 : Nat) (Array.mk [Value.slice (Sl.a a0) (Sl.n a0) (Sl.c a0)]) V fun (r : Value) (V : View) => ∃ (x : Option Addr), r = Value.pointer x ∧ ∀ (b : Nat), loopP [K.int IntKind.i64, K.sl] (fun (x_1 : Int) (x_2 : Sl) (V : View) (J : CurP [K.int IntKind.i64, K.sl]) => br (decide (x_1 < (12 : Int))) (True ∧ ∃ (S : View), View.Le S V ∧ CallV Tryd.prog (77 : Nat) (Array.mk [Value.pointer x]) V fun (r : Value) (V : View) => ∃ (x : Int), ∃ (x_3 : Int), ∃ (x_4 : Int), ∃ (x_5 : Sl), ∃ (x_6 : Sl), r = Value.agg (Array.mk [Value.int IntKind.i64 x, Value.int IntKind.i64 x_3, Value.int IntKind.i64 x_4, Value.slice (Sl.a x_5) (Sl.n x_5) (Sl.c x_5), Value.slice (Sl.a x_6) (Sl.n x_6) (Sl.c x_6)]) ∧ View.Le S V ∧ newB V (Obj.cells (Array.mk (putL [Value.int IntKind.i64 (0 : Int), Value.int IntKind.i64 (0 : Int), Value.int IntKind.i64 (0 : Int), Value.slice none (0 : Nat) (0 : Nat), Value.slice none (0 : Nat) (0 : Nat)] (0 : Nat) [Value.int IntKind.i64 x, Value.int IntKind.i64 x_3, Value.int IntKind.i64 x_4, Value.slice (Sl.a x_5) (Sl.n x_5) (Sl.c x_5), Value.slice (Sl.a x_6) (Sl.n x_6) (Sl.c x_6)])) (31 : Nat)) fun (r : Nat) (V : View) => View.Le S V ∧ apV V (31 : Nat) (5 : Nat) (72 : Nat) [Value.int IntKind.i64 (0 : Int), Value.int IntKind.i64 (0 : Int), Value.int IntKind.i64 (0 : Int), Value.slice none (0 : Nat) (0 : Nat), Value.slice none (0 : Nat) (0 : Nat)] (Sl.mk (Sl.a x_2) (Sl.n x_2) (Sl.c x_2)) (Value.slice (some (Addr.mk r (0 : Nat) none)) (1 : Nat) (1 : Nat)) fun (s : Sl) (V : View) => inI IntKind.i64 (x_1 + (1 : Int)) ∧ J (x_1 + (1 : Int)) (Sl.mk (Sl.a s) (Sl.n s) (Sl.c s)) V) (CallV Tryd.prog (78 : Nat) (Array.mk [Value.pointer x]) V fun (r : Value) (V : View) => ∃ (x_3 : Int), r = Value.int IntKind.i64 x_3 ∧ br (!decide (x_3 = (0 : Int))) (CallV Tryd.prog (78 : Nat) (Array.mk [Value.pointer x]) V fun (r : Value) (V : View) => ∃ (x : Int), r = Value.int IntKind.i64 x ∧ Q (Value.tuple (Array.mk [Value.agg (Array.mk [Value.slice none (0 : Nat) (0 : Nat)]), Value.int IntKind.i64 x])) V) (joinP [K.bool] (fun (J : CurP [K.bool]) => CallV Tryd.prog (79 : Nat) (Array.mk [Value.pointer x]) V fun (r : Value) (V : View) => ∃ (x : Int), r = Value.int IntKind.i64 x ∧ br (decide ((0 : Int) < x)) (J true V) (CallV Tryd.prog (20 : Nat) (Array.mk [Value.agg (Array.mk [Value.slice (Sl.a x_2) (Sl.n x_2) (Sl.c x_2)])]) V fun (r : Value) (V : View) => ∃ (x : Bool), r = Value.bool x ∧ J (!x) V)) fun (x : Bool) (V : View) => br x (Q (Value.tuple (Array.mk [Value.agg (Array.mk [Value.slice none (0 : Nat) (0 : Nat)]), Value.int IntKind.i64 (5 : Int)])) V) (Q (Value.tuple (Array.mk [Value.agg (Array.mk [Value.slice (Sl.a x_2) (Sl.n x_2) (Sl.c x_2)]), Value.int IntKind.i64 (0 : Int)])) V)))) ((0 : Int), Sl.mk none (0 : Nat) (0 : Nat), ()) V
def f53_ac : AC := (.seq (.reg ⟨.done, false, [], [], none⟩) (.seq (.reg ⟨.done, false, [], [], none⟩) (.seq (.reg ⟨.done, false, [], [], none⟩) (.seq (.seq (.reg ⟨.done, false, [], [], none⟩) (.block none (.loop ⟨[9, 10, 11, 12, 13, 14, 15, 16, 17], [(8, .int .i64)], [(1, [.sl])]⟩ (.seq (.reg ⟨.done, false, [], [], none⟩) (.seq (.cond none .leaf .leaf) (.seq (.block none (.reg ⟨(.fl 0 (.fl 1 (.fl 2 (.alt 3 true false (.alt 4 true false (.alt 5 false false (.fl 6 (.alt 7 false false .done .no)) .no) .no) .no)))), true, [], [], none⟩)) (.reg ⟨.done, false, [], [], none⟩))))))) (.seq (.block none (.seq (.reg ⟨.done, false, [], [], none⟩) (.cond none (.seq (.reg ⟨.done, false, [], [], none⟩) .leaf) (.seq (.reg ⟨.done, false, [], [], (some ⟨[26, 27, 28, 29, 30, 31, 32, 33], [(25, .bool)], []⟩)⟩) (.cond none (.seq (.reg ⟨.done, false, [], [], none⟩) .leaf) .leaf))))) (.seq (.reg ⟨.done, false, [], [], none⟩) .leaf))))))
theorem f53_x {a0 : Sl} {V : View} {Q : Value → View → Prop} (h : f53_n a0 V Q) : CallV Tryd.prog 53 ⟨[(.slice a0.a a0.n a0.c)]⟩ V Q :=
  XF_sound (wr := false) Tryd.checked.mixed (enters_of (fn := Tryd.f53) (by kernel_rfl) (by kernel_rfl) (by kernel_rfl)) (fn := Tryd.f53) (by kernel_rfl) (ac := f53_ac)
    (Eq.mp (show f53_n a0 V Q = XF Tryd.prog false Tryd.f53 (f53_ac) [(.slice a0.a a0.n a0.c)] V Q from by kernel_rfl) h)
/-- potsherd/potsherdref12.Ints -/
def f54_n (a0 : Sl) (a1 : Sl) (V : View) (Q : Value → View → Prop) : Prop :=
    br (!decide ((↑(Sl.n a0) : Int) = (↑(Sl.n a1) : Int))) (Q (Value.bool false) V) (loopP [K.int IntKind.i64] (fun (x : Int) (V : View) (J : CurP [K.int IntKind.i64]) => br (decide (x < (↑(Sl.n a0) : Int))) (True ∧ ∃ (S : View), View.Le S V ∧ (0 : Int) ≤ x ∧ x < (↑(Sl.n a0) : Int) ∧ ∃ (ad : Addr), Sl.a a0 = some ad ∧ ∃ (x_1 : Int), View.cell? S (Addr.add ad (Int.toNat x * (1 : Nat))) = some (Value.int IntKind.i64 x_1) ∧ (0 : Int) ≤ x ∧ x < (↑(Sl.n a1) : Int) ∧ ∃ (ad : Addr), Sl.a a1 = some ad ∧ ∃ (x_2 : Int), View.cell? S (Addr.add ad (Int.toNat x * (1 : Nat))) = some (Value.int IntKind.i64 x_2) ∧ br (!decide (x_1 = x_2)) (Q (Value.bool false) V) (inI IntKind.i64 (x + (1 : Int)) ∧ J (x + (1 : Int)) V)) (Q (Value.bool true) V)) ((0 : Int), ()) V)
def f54_ac : AC := (.seq (.reg ⟨.done, false, [], [], none⟩) (.seq (.seq (.reg ⟨.done, false, [], [], none⟩) (.cond none (.seq (.reg ⟨.done, false, [], [], none⟩) .leaf) .leaf)) (.seq (.seq (.reg ⟨.done, false, [], [], none⟩) (.block none (.loop ⟨[5, 14, 15, 16, 17, 18, 19, 20, 21, 22, 23, 24, 25], [(13, .int .i64)], []⟩ (.seq (.reg ⟨.done, false, [], [], none⟩) (.seq (.cond none .leaf .leaf) (.seq (.block none (.seq (.reg ⟨.done, false, [], [], none⟩) (.seq (.reg ⟨(.fl 0 (.fl 1 (.fl 2 (.fl 3 (.fl 4 (.fl 5 (.fl 6 (.fl 7 (.fl 8 .done))))))))), true, [], [], none⟩) (.cond none (.seq (.reg ⟨.done, false, [], [], none⟩) .leaf) .leaf)))) (.reg ⟨.done, false, [], [], none⟩))))))) (.seq (.reg ⟨.done, false, [], [], none⟩) .leaf))))
theorem f54_x {a0 : Sl} {a1 : Sl} {V : View} {Q : Value → View → Prop} (h : f54_n a0 a1 V Q) : CallV Tryd.prog 54 ⟨[(.slice a0.a a0.n a0.c), (.slice a1.a a1.n a1.c)]⟩ V Q :=
  XF_sound (wr := false) Tryd.checked.mixed (enters_of (fn := Tryd.f54) (by kernel_rfl) (by kernel_rfl) (by kernel_rfl)) (fn := Tryd.f54) (by kernel_rfl) (ac := f54_ac)
    (Eq.mp (show f54_n a0 a1 V Q = XF Tryd.prog false Tryd.f54 (f54_ac) [(.slice a0.a a0.n a0.c), (.slice a1.a a1.n a1.c)] V Q from by kernel_rfl) h)
/-- potsherd/potsherdref12.SameEntries -/
def f55_n (a0 : Sl) (a1 : Sl) (V : View) (Q : Value → View → Prop) : Prop :=
    br (!decide ((↑(Sl.n a0) : Int) = (↑(Sl.n a1) : Int))) (Q (Value.bool false) V) (loopP [K.int IntKind.i64] (fun (x : Int) (V : View) (J : CurP [K.int IntKind.i64]) => br (decide (x < (↑(Sl.n a0) : Int))) (True ∧ ∃ (S : View), View.Le S V ∧ (0 : Int) ≤ x ∧ x < (↑(Sl.n a0) : Int) ∧ ∃ (ad : Addr), Sl.a a0 = some ad ∧ ∃ (x_1 : ByteArray), ∃ (x_2 : Int), cellsAt S (Addr.add ad (Int.toNat x * (2 : Nat))) [Value.string x_1, Value.int IntKind.i64 x_2] ∧ (0 : Int) ≤ x ∧ x < (↑(Sl.n a1) : Int) ∧ ∃ (ad : Addr), Sl.a a1 = some ad ∧ ∃ (x_3 : ByteArray), ∃ (x_4 : Int), cellsAt S (Addr.add ad (Int.toNat x * (2 : Nat))) [Value.string x_3, Value.int IntKind.i64 x_4] ∧ True ∧ br (!(decide (x_1 = x_3) && (decide (x_2 = x_4) && true))) (Q (Value.bool false) V) (inI IntKind.i64 (x + (1 : Int)) ∧ J (x + (1 : Int)) V)) (Q (Value.bool true) V)) ((0 : Int), ()) V)
def f55_ac : AC := (.seq (.reg ⟨.done, false, [], [], none⟩) (.seq (.seq (.reg ⟨.done, false, [], [], none⟩) (.cond none (.seq (.reg ⟨.done, false, [], [], none⟩) .leaf) .leaf)) (.seq (.seq (.reg ⟨.done, false, [], [], none⟩) (.block none (.loop ⟨[5, 14, 15, 16, 17, 18, 19, 20, 21, 22, 23, 24, 25], [(13, .int .i64)], []⟩ (.seq (.reg ⟨.done, false, [], [], none⟩) (.seq (.cond none .leaf .leaf) (.seq (.block none (.seq (.reg ⟨.done, false, [], [], none⟩) (.seq (.reg ⟨(.fl 0 (.fl 1 (.fl 2 (.fl 3 (.fl 4 (.fl 5 (.fl 6 (.fl 7 (.fl 8 .done))))))))), true, [], [], none⟩) (.cond none (.seq (.reg ⟨.done, false, [], [], none⟩) .leaf) .leaf)))) (.reg ⟨.done, false, [], [], none⟩))))))) (.seq (.reg ⟨.done, false, [], [], none⟩) .leaf))))
theorem f55_x {a0 : Sl} {a1 : Sl} {V : View} {Q : Value → View → Prop} (h : f55_n a0 a1 V Q) : CallV Tryd.prog 55 ⟨[(.slice a0.a a0.n a0.c), (.slice a1.a a1.n a1.c)]⟩ V Q :=
  XF_sound (wr := false) Tryd.checked.mixed (enters_of (fn := Tryd.f55) (by kernel_rfl) (by kernel_rfl) (by kernel_rfl)) (fn := Tryd.f55) (by kernel_rfl) (ac := f55_ac)
    (Eq.mp (show f55_n a0 a1 V Q = XF Tryd.prog false Tryd.f55 (f55_ac) [(.slice a0.a a0.n a0.c), (.slice a1.a a1.n a1.c)] V Q from by kernel_rfl) h)
/-- potsherd/node.Refs -/
def f56_n (a0 : Int) (a1_0 : Int) (a1_1 : Int) (a1_2 : Int) (a1_3 : Sl) (a1_4 : Sl) (V : View) (Q : Value → View → Prop) : Prop :=
    ∀ (b : Nat), joinP [K.bool] (fun (J : CurP [K.bool]) => br (!decide (a1_0 = (1 : Int))) (J true V) (CallV Tryd.prog (44 : Nat) (Array.mk [Value.agg (Array.mk [Value.int IntKind.i64 a1_0, Value.int IntKind.i64 a1_1, Value.int IntKind.i64 a1_2, Value.slice (Sl.a a1_3) (Sl.n a1_3) (Sl.c a1_3), Value.slice (Sl.a a1_4) (Sl.n a1_4) (Sl.c a1_4)])]) V fun (r : Value) (V : View) => ∃ (x : Bool), r = Value.bool x ∧ br (!x) (J true V) (CallV Tryd.prog (80 : Nat) (Array.mk [Value.int IntKind.i64 a0, Value.int IntKind.i64 (11 : Int)]) V fun (r : Value) (V : View) => ∃ (x : Bool), r = Value.bool x ∧ J (!x) V))) fun (x : Bool) (V : View) => br x (Q (Value.slice none (0 : Nat) (0 : Nat)) V) (loopP [K.sl, K.int IntKind.i64] (fun (x : Sl) (x_1 : Int) (V : View) (J : CurP [K.sl, K.int IntKind.i64]) => br (decide (x_1 < (↑(Sl.n a1_3) : Int))) ((0 : Int) ≤ x_1 ∧ x_1 < (↑(Sl.n a1_3) : Int) ∧ ∃ (ad : Addr), Sl.a a1_3 = some ad ∧ ∃ (x_2 : Int), View.cell? V (Addr.add ad (Int.toNat x_1 * (1 : Nat))) = some (Value.int IntKind.i64 x_2) ∧ joinP [K.sl] (fun (J : CurP [K.sl]) => br (!decide (x_2 = (0 : Int))) (inI IntKind.i64 (a0 * (5 : Int)) ∧ inI IntKind.i64 ((1 : Int) + a0 * (5 : Int)) ∧ inI IntKind.i64 ((1 : Int) + a0 * (5 : Int) + x_1) ∧ newB V (Obj.cells (Array.mk (putL [Value.int IntKind.i64 (0 : Int), Value.int IntKind.i64 (0 : Int)] (0 : Nat) [Value.int IntKind.i64 ((1 : Int) + a0 * (5 : Int) + x_1), Value.int IntKind.i64 x_2])) (101 : Nat)) fun (r : Nat) (V : View) => apV V (101 : Nat) (2 : Nat) (16 : Nat) [Value.int IntKind.i64 (0 : Int), Value.int IntKind.i64 (0 : Int)] (Sl.mk (Sl.a x) (Sl.n x) (Sl.c x)) (Value.slice (some (Addr.mk r (0 : Nat) none)) (1 : Nat) (1 : Nat)) fun (s : Sl) (V : View) => J (Sl.mk (Sl.a s) (Sl.n s) (Sl.c s)) V) (J (Sl.mk (Sl.a x) (Sl.n x) (Sl.c x)) V)) fun (x : Sl) (V : View) => inI IntKind.i64 (x_1 + (1 : Int)) ∧ J (Sl.mk (Sl.a x) (Sl.n x) (Sl.c x)) (x_1 + (1 : Int)) V) (Q (Value.slice (Sl.a x) (Sl.n x) (Sl.c x)) V)) (Sl.mk none (0 : Nat) (0 : Nat), (0 : Int), ()) V)
def f56_ac : AC := (.seq (.reg ⟨.done, false, [], [], none⟩) (.seq (.seq (.reg ⟨.done, false, [], [], (some ⟨[8, 9, 10, 11, 12, 13, 14, 15, 16, 17, 18, 19], [(20, .bool)], []⟩)⟩) (.cond none (.seq (.reg ⟨.done, false, [], [], none⟩) .leaf) .leaf)) (.seq (.reg ⟨.done, false, [], [], none⟩) (.seq (.seq (.reg ⟨.done, false, [], [], none⟩) (.block none (.loop ⟨[6, 7, 25, 26, 27, 28, 29, 30, 31, 32, 33, 34, 35, 36, 37, 38, 39, 40, 41], [(5, .sl), (24, .int .i64)], []⟩ (.seq (.reg ⟨.done, false, [], [], none⟩) (.seq (.cond none .leaf .leaf) (.seq (.block none (.seq (.reg ⟨.done, false, [], [], none⟩) (.seq (.reg ⟨.done, false, [], [], none⟩) (.cond (some ⟨[31, 32, 33, 34, 35, 36, 37, 38, 39, 40], [(5, .sl)], []⟩) (.reg ⟨.done, false, [], [], none⟩) .leaf)))) (.reg ⟨.done, false, [], [], none⟩))))))) (.seq (.reg ⟨.done, false, [], [], none⟩) .leaf)))))
theorem f56_x {a0 : Int} {a1_0 : Int} {a1_1 : Int} {a1_2 : Int} {a1_3 : Sl} {a1_4 : Sl} {V : View} {Q : Value → View → Prop} (h : f56_n a0 a1_0 a1_1 a1_2 a1_3 a1_4 V Q) : CallV Tryd.prog 56 ⟨[(.int .i64 a0), (.agg ⟨[(.int .i64 a1_0), (.int .i64 a1_1), (.int .i64 a1_2), (.slice a1_3.a a1_3.n a1_3.c), (.slice a1_4.a a1_4.n a1_4.c)]⟩)]⟩ V Q :=
  XF_sound (wr := false) Tryd.checked.mixed (enters_of (fn := Tryd.f56) (by kernel_rfl) (by kernel_rfl) (by kernel_rfl)) (fn := Tryd.f56) (by kernel_rfl) (ac := f56_ac)
    (Eq.mp (show f56_n a0 a1_0 a1_1 a1_2 a1_3 a1_4 V Q = XF Tryd.prog false Tryd.f56 (f56_ac) [(.int .i64 a0), (.agg ⟨[(.int .i64 a1_0), (.int .i64 a1_1), (.int .i64 a1_2), (.slice a1_3.a a1_3.n a1_3.c), (.slice a1_4.a a1_4.n a1_4.c)]⟩)] V Q from by kernel_rfl) h)
/-- potsherd/potsherdlaw13.Light -/
def f57_n (a0 : Sl) (V : View) (Q : Value → View → Prop) : Prop :=
    loopP [K.int IntKind.i64, K.int IntKind.i64] (fun (x x_1 : Int) (V : View) (J : CurP [K.int IntKind.i64, K.int IntKind.i64]) => br (decide (x_1 < (↑(Sl.n a0) : Int))) ((0 : Int) ≤ x_1 ∧ x_1 < (↑(Sl.n a0) : Int) ∧ ∃ (ad : Addr), Sl.a a0 = some ad ∧ ∃ (x_2 : ByteArray), ∃ (x_3 : Int), cellsAt V (Addr.add ad (Int.toNat x_1 * (2 : Nat))) [Value.string x_2, Value.int IntKind.i64 x_3] ∧ ∀ (b : Nat), J (IntKind.wrap IntKind.i64 (x + (↑(ByteArray.size x_2) : Int))) (IntKind.wrap IntKind.i64 (x_1 + (1 : Int))) V) (br (bif decide ((60 : Int) < (↑(Sl.n a0) : Int)) then true else decide ((1000 : Int) < x)) (Q (Value.int IntKind.i64 (1 : Int)) V) (Q (Value.int IntKind.i64 (0 : Int)) V))) ((0 : Int), (0 : Int), ()) V
def f57_ac : AC := (.seq (.reg ⟨.done, false, [], [], none⟩) (.seq (.reg ⟨.done, false, [], [], none⟩) (.seq (.seq (.reg ⟨.done, false, [], [], none⟩) (.block none (.loop ⟨[5, 9, 10, 11, 12, 13, 14, 15, 16, 17], [(3, .int .i64), (8, .int .i64)], []⟩ (.seq (.reg ⟨.done, false, [], [], none⟩) (.seq (.cond none .leaf .leaf) (.seq (.block none (.seq (.reg ⟨.done, false, [], [], none⟩) (.reg ⟨.done, false, [], [], none⟩))) (.reg ⟨.done, false, [], [], none⟩))))))) (.seq (.seq (.reg ⟨.done, false, [], [], none⟩) (.cond none (.seq (.reg ⟨.done, false, [], [], none⟩) .leaf) .leaf)) (.seq (.reg ⟨.done, false, [], [], none⟩) .leaf)))))
theorem f57_x {a0 : Sl} {V : View} {Q : Value → View → Prop} (h : f57_n a0 V Q) : CallV Tryd.prog 57 ⟨[(.slice a0.a a0.n a0.c)]⟩ V Q :=
  XF_sound (wr := true) Tryd.checked.mixed (enters_of (fn := Tryd.f57) (by kernel_rfl) (by kernel_rfl) (by kernel_rfl)) (fn := Tryd.f57) (by kernel_rfl) (ac := f57_ac)
    (Eq.mp (show f57_n a0 V Q = XF Tryd.prog true Tryd.f57 (f57_ac) [(.slice a0.a a0.n a0.c)] V Q from by kernel_rfl) h)
/-- potsherd/potsherdref12.MayEntries -/
def f58_n (a0 : Sl) (V : View) (Q : Value → View → Prop) : Prop :=
    br (decide ((10 : Int) < (↑(Sl.n a0) : Int))) (Q (Value.bool false) V) (loopP [K.int IntKind.i64] (fun (x : Int) (V : View) (J : CurP [K.int IntKind.i64]) => br (decide (x < (↑(Sl.n a0) : Int))) ((0 : Int) ≤ x ∧ x < (↑(Sl.n a0) : Int) ∧ ∃ (ad : Addr), Sl.a a0 = some ad ∧ ∃ (x_1 : ByteArray), ∃ (x_2 : Int), cellsAt V (Addr.add ad (Int.toNat x * (2 : Nat))) [Value.string x_1, Value.int IntKind.i64 x_2] ∧ ∀ (b : Nat), joinP [K.bool] (fun (J : CurP [K.bool]) => True ∧ ∃ (S : View), View.Le S V ∧ CallV Tryd.prog (81 : Nat) (Array.mk [Value.string x_1]) V fun (r : Value) (V : View) => ∃ (x_3 : Bool), r = Value.bool x_3 ∧ View.Le S V ∧ ∃ (S' : View), View.Le S S' ∧ View.Le S' V ∧ br (!x_3) (J true V) (br (decide ((0 : Int) < x)) (inI IntKind.i64 (x - (1 : Int)) ∧ (0 : Int) ≤ x - (1 : Int) ∧ x - (1 : Int) < (↑(Sl.n a0) : Int) ∧ ∃ (ad : Addr), Sl.a a0 = some ad ∧ ∃ (x_4 : ByteArray), View.cell? S' (Addr.add (Addr.add ad (Int.toNat (x - (1 : Int)) * (2 : Nat))) (0 : Nat)) = some (Value.string x_4) ∧ J (bif bif !sLess x_4 x_1 then true else decide (x_2 < (1 : Int)) then true else decide ((12 : Int) ≤ x_2)) V) (J (bif decide (x_2 < (1 : Int)) then true else decide ((12 : Int) ≤ x_2)) V))) fun (x_3 : Bool) (V : View) => br x_3 (Q (Value.bool false) V) (inI IntKind.i64 (x + (1 : Int)) ∧ J (x + (1 : Int)) V)) (Q (Value.bool true) V)) ((0 : Int), ()) V)
def f58_ac : AC := (.seq (.reg ⟨.done, false, [], [], none⟩) (.seq (.seq (.reg ⟨.done, false, [], [], none⟩) (.cond none (.seq (.reg ⟨.done, false, [], [], none⟩) .leaf) .leaf)) (.seq (.seq (.reg ⟨.done, false, [], [], none⟩) (.block none (.loop ⟨[3, 4, 11, 12, 13, 14, 15, 16, 17, 18, 19, 20, 21, 22, 23, 24, 25, 26, 27, 28, 29, 30, 31, 32, 33, 34, 35, 36, 37, 38, 39, 40, 41, 42, 43, 44], [(10, .int .i64)], []⟩ (.seq (.reg ⟨.done, false, [], [], none⟩) (.seq (.cond none .leaf .leaf) (.seq (.block none (.seq (.reg ⟨.done, false, [], [], none⟩) (.seq (.reg ⟨(.fl 0 (.fl 1 (.alt 2 true true (.fl 3 (.fl 4 (.fl 5 (.fl 6 (.fl 7 (.fl 8 (.fl 9 (.fl 10 (.fl 11 (.fl 12 (.fl 13 (.fl 14 (.fl 15 (.fl 16 (.fl 17 (.fl 18 (.fl 19 (.fl 20 (.fl 21 (.fl 22 (.fl 23 (.fl 24 (.fl 25 (.fl 26 (.fl 27 (.fl 28 .done)))))))))))))))))))))))))) .no))), true, [], [], (some ⟨[15, 16, 17, 18, 19, 20, 21, 22, 23, 24, 25, 26, 27, 28, 29, 30, 31, 32, 33, 34, 35, 36, 37, 38, 39, 40, 41, 42], [(43, .bool)], []⟩)⟩) (.cond none (.seq (.reg ⟨.done, false, [], [], none⟩) .leaf) .leaf)))) (.reg ⟨.done, false, [], [], none⟩))))))) (.seq (.reg ⟨.done, false, [], [], none⟩) .leaf))))
theorem f58_x {a0 : Sl} {V : View} {Q : Value → View → Prop} (h : f58_n a0 V Q) : CallV Tryd.prog 58 ⟨[(.slice a0.a a0.n a0.c)]⟩ V Q :=
  XF_sound (wr := false) Tryd.checked.mixed (enters_of (fn := Tryd.f58) (by kernel_rfl) (by kernel_rfl) (by kernel_rfl)) (fn := Tryd.f58) (by kernel_rfl) (ac := f58_ac)
    (Eq.mp (show f58_n a0 V Q = XF Tryd.prog false Tryd.f58 (f58_ac) [(.slice a0.a a0.n a0.c)] V Q from by kernel_rfl) h)
/-- potsherd/node.Empty -/
def f59_n (a0 : Int) (V : View) (Q : Value → View → Prop) : Prop :=
    ∀ (b : Nat), br (decide (a0 = (1 : Int))) ((0 : Int) ≤ (5 : Int) ∧ (5 : Int) ≤ (5 : Int) ∧ (5 : Int) * (↑(TypeInfo.bytes (Tables.types (Program.toTables Tryd.prog))[(3 : Nat)]) : Int) ≤ (140737488355328 : Int) ∧ (5 : Int) ≤ (140737488355328 : Int) ∧ newB V (Obj.cells (Array.mk (List.flatten (List.replicate (5 : Nat) [Value.int IntKind.i64 (0 : Int)]))) (3 : Nat)) fun (r : Nat) (V : View) => Q (Value.agg (Array.mk [Value.int IntKind.i64 a0, Value.int IntKind.i64 (1 : Int), Value.int IntKind.i64 (0 : Int), Value.slice (some (Addr.mk r (0 : Nat) none)) (5 : Nat) (5 : Nat), Value.slice none (0 : Nat) (0 : Nat)])) V) (br (decide (a0 = (2 : Int))) (Q (Value.agg (Array.mk [Value.int IntKind.i64 a0, Value.int IntKind.i64 (1 : Int), Value.int IntKind.i64 (0 : Int), Value.slice none (0 : Nat) (0 : Nat), Value.slice none (0 : Nat) (0 : Nat)])) V) (Q (Value.agg (Array.mk [Value.int IntKind.i64 (0 : Int), Value.int IntKind.i64 (0 : Int), Value.int IntKind.i64 (0 : Int), Value.slice none (0 : Nat) (0 : Nat), Value.slice none (0 : Nat) (0 : Nat)])) V))
def f59_ac : AC := (.seq (.reg ⟨.done, false, [], [], none⟩) (.seq (.seq (.reg ⟨.done, false, [], [], none⟩) (.block none (.seq (.reg ⟨.done, false, [], [], none⟩) (.cond none (.seq (.reg ⟨.done, false, [], [], none⟩) .leaf) (.seq (.reg ⟨.done, false, [], [], none⟩) (.cond none (.seq (.reg ⟨.done, false, [], [], none⟩) .leaf) .leaf)))))) (.seq (.reg ⟨.done, false, [], [], none⟩) .leaf)))
theorem f59_x {a0 : Int} {V : View} {Q : Value → View → Prop} (h : f59_n a0 V Q) : CallV Tryd.prog 59 ⟨[(.int .i64 a0)]⟩ V Q :=
  XF_sound (wr := false) Tryd.checked.mixed (enters_of (fn := Tryd.f59) (by kernel_rfl) (by kernel_rfl) (by kernel_rfl)) (fn := Tryd.f59) (by kernel_rfl) (ac := f59_ac)
    (Eq.mp (show f59_n a0 V Q = XF Tryd.prog false Tryd.f59 (f59_ac) [(.int .i64 a0)] V Q from by kernel_rfl) h)
/-- slices.Equal[[]int,int] -/
def f60_n (a0 : Sl) (a1 : Sl) (V : View) (Q : Value → View → Prop) : Prop :=
    br (!decide ((↑(Sl.n a0) : Int) = (↑(Sl.n a1) : Int))) (Q (Value.bool false) V) (loopP [K.int IntKind.i64] (fun (x : Int) (V : View) (J : CurP [K.int IntKind.i64]) => br (decide (x < (↑(Sl.n a0) : Int))) (True ∧ ∃ (S : View), View.Le S V ∧ (0 : Int) ≤ x ∧ x < (↑(Sl.n a0) : Int) ∧ ∃ (ad : Addr), Sl.a a0 = some ad ∧ ∃ (x_1 : Int), View.cell? S (Addr.add ad (Int.toNat x * (1 : Nat))) = some (Value.int IntKind.i64 x_1) ∧ (0 : Int) ≤ x ∧ x < (↑(Sl.n a1) : Int) ∧ ∃ (ad : Addr), Sl.a a1 = some ad ∧ ∃ (x_2 : Int), View.cell? S (Addr.add ad (Int.toNat x * (1 : Nat))) = some (Value.int IntKind.i64 x_2) ∧ br (!decide (x_1 = x_2)) (Q (Value.bool false) V) (inI IntKind.i64 (x + (1 : Int)) ∧ J (x + (1 : Int)) V)) (Q (Value.bool true) V)) ((0 : Int), ()) V)
def f60_ac : AC := (.seq (.reg ⟨.done, false, [], [], none⟩) (.seq (.seq (.reg ⟨.done, false, [], [], none⟩) (.cond none (.seq (.reg ⟨.done, false, [], [], none⟩) .leaf) .leaf)) (.seq (.seq (.reg ⟨.done, false, [], [], none⟩) (.block none (.loop ⟨[5, 14, 15, 16, 17, 18, 19, 20, 21, 22, 23, 24, 25], [(13, .int .i64)], []⟩ (.seq (.reg ⟨.done, false, [], [], none⟩) (.seq (.cond none .leaf .leaf) (.seq (.block none (.seq (.reg ⟨.done, false, [], [], none⟩) (.seq (.reg ⟨(.fl 0 (.fl 1 (.fl 2 (.fl 3 (.fl 4 (.fl 5 (.fl 6 (.fl 7 (.fl 8 .done))))))))), true, [], [], none⟩) (.cond none (.seq (.reg ⟨.done, false, [], [], none⟩) .leaf) .leaf)))) (.reg ⟨.done, false, [], [], none⟩))))))) (.seq (.reg ⟨.done, false, [], [], none⟩) .leaf))))
theorem f60_x {a0 : Sl} {a1 : Sl} {V : View} {Q : Value → View → Prop} (h : f60_n a0 a1 V Q) : CallV Tryd.prog 60 ⟨[(.slice a0.a a0.n a0.c), (.slice a1.a a1.n a1.c)]⟩ V Q :=
  XF_sound (wr := false) Tryd.checked.mixed (enters_of (fn := Tryd.f60) (by kernel_rfl) (by kernel_rfl) (by kernel_rfl)) (fn := Tryd.f60) (by kernel_rfl) (ac := f60_ac)
    (Eq.mp (show f60_n a0 a1 V Q = XF Tryd.prog false Tryd.f60 (f60_ac) [(.slice a0.a a0.n a0.c), (.slice a1.a a1.n a1.c)] V Q from by kernel_rfl) h)
/-- slices.Equal[[]potsherd/api.Entry,potsherd/api.Entry] -/
def f61_n (a0 : Sl) (a1 : Sl) (V : View) (Q : Value → View → Prop) : Prop :=
    br (!decide ((↑(Sl.n a0) : Int) = (↑(Sl.n a1) : Int))) (Q (Value.bool false) V) (loopP [K.int IntKind.i64] (fun (x : Int) (V : View) (J : CurP [K.int IntKind.i64]) => br (decide (x < (↑(Sl.n a0) : Int))) (True ∧ ∃ (S : View), View.Le S V ∧ (0 : Int) ≤ x ∧ x < (↑(Sl.n a0) : Int) ∧ ∃ (ad : Addr), Sl.a a0 = some ad ∧ ∃ (x_1 : ByteArray), ∃ (x_2 : Int), cellsAt S (Addr.add ad (Int.toNat x * (2 : Nat))) [Value.string x_1, Value.int IntKind.i64 x_2] ∧ (0 : Int) ≤ x ∧ x < (↑(Sl.n a1) : Int) ∧ ∃ (ad : Addr), Sl.a a1 = some ad ∧ ∃ (x_3 : ByteArray), ∃ (x_4 : Int), cellsAt S (Addr.add ad (Int.toNat x * (2 : Nat))) [Value.string x_3, Value.int IntKind.i64 x_4] ∧ True ∧ br (!(decide (x_1 = x_3) && (decide (x_2 = x_4) && true))) (Q (Value.bool false) V) (inI IntKind.i64 (x + (1 : Int)) ∧ J (x + (1 : Int)) V)) (Q (Value.bool true) V)) ((0 : Int), ()) V)
def f61_ac : AC := (.seq (.reg ⟨.done, false, [], [], none⟩) (.seq (.seq (.reg ⟨.done, false, [], [], none⟩) (.cond none (.seq (.reg ⟨.done, false, [], [], none⟩) .leaf) .leaf)) (.seq (.seq (.reg ⟨.done, false, [], [], none⟩) (.block none (.loop ⟨[5, 14, 15, 16, 17, 18, 19, 20, 21, 22, 23, 24, 25], [(13, .int .i64)], []⟩ (.seq (.reg ⟨.done, false, [], [], none⟩) (.seq (.cond none .leaf .leaf) (.seq (.block none (.seq (.reg ⟨.done, false, [], [], none⟩) (.seq (.reg ⟨(.fl 0 (.fl 1 (.fl 2 (.fl 3 (.fl 4 (.fl 5 (.fl 6 (.fl 7 (.fl 8 .done))))))))), true, [], [], none⟩) (.cond none (.seq (.reg ⟨.done, false, [], [], none⟩) .leaf) .leaf)))) (.reg ⟨.done, false, [], [], none⟩))))))) (.seq (.reg ⟨.done, false, [], [], none⟩) .leaf))))
theorem f61_x {a0 : Sl} {a1 : Sl} {V : View} {Q : Value → View → Prop} (h : f61_n a0 a1 V Q) : CallV Tryd.prog 61 ⟨[(.slice a0.a a0.n a0.c), (.slice a1.a a1.n a1.c)]⟩ V Q :=
  XF_sound (wr := false) Tryd.checked.mixed (enters_of (fn := Tryd.f61) (by kernel_rfl) (by kernel_rfl) (by kernel_rfl)) (fn := Tryd.f61) (by kernel_rfl) (ac := f61_ac)
    (Eq.mp (show f61_n a0 a1 V Q = XF Tryd.prog false Tryd.f61 (f61_ac) [(.slice a0.a a0.n a0.c), (.slice a1.a a1.n a1.c)] V Q from by kernel_rfl) h)
/-- slices.Clone[[]int,int] -/
def f62_n (a0 : Sl) (V : View) (Q : Value → View → Prop) : Prop :=
    br (Option.isNone (Sl.a a0)) (Q (Value.slice none (0 : Nat) (0 : Nat)) V) (newB V (Obj.cells (Array.mk []) (3 : Nat)) fun (r : Nat) (V : View) => apV V (3 : Nat) (1 : Nat) (8 : Nat) [Value.int IntKind.i64 (0 : Int)] (Sl.mk (some (Addr.mk r (0 : Nat) none)) (0 : Nat) (0 : Nat)) (Value.slice (Sl.a a0) (Sl.n a0) (Sl.c a0)) fun (s : Sl) (V : View) => Q (Value.slice (Sl.a s) (Sl.n s) (Sl.c s)) V)
def f62_ac : AC := (.seq (.reg ⟨.done, false, [], [], none⟩) (.seq (.seq (.reg ⟨.done, false, [], [], none⟩) (.cond none (.seq (.reg ⟨.done, false, [], [], none⟩) .leaf) .leaf)) (.seq (.reg ⟨.done, false, [], [], none⟩) .leaf)))
theorem f62_x {a0 : Sl} {V : View} {Q : Value → View → Prop} (h : f62_n a0 V Q) : CallV Tryd.prog 62 ⟨[(.slice a0.a a0.n a0.c)]⟩ V Q :=
  XF_sound (wr := false) Tryd.checked.mixed (enters_of (fn := Tryd.f62) (by kernel_rfl) (by kernel_rfl) (by kernel_rfl)) (fn := Tryd.f62) (by kernel_rfl) (ac := f62_ac)
    (Eq.mp (show f62_n a0 V Q = XF Tryd.prog false Tryd.f62 (f62_ac) [(.slice a0.a a0.n a0.c)] V Q from by kernel_rfl) h)
/-- slices.Clone[[]potsherd/api.Entry,potsherd/api.Entry] -/
def f63_n (a0 : Sl) (V : View) (Q : Value → View → Prop) : Prop :=
    br (Option.isNone (Sl.a a0)) (Q (Value.slice none (0 : Nat) (0 : Nat)) V) (newB V (Obj.cells (Array.mk []) (39 : Nat)) fun (r : Nat) (V : View) => apV V (39 : Nat) (2 : Nat) (24 : Nat) [Value.string (ByteArray.mk #[]), Value.int IntKind.i64 (0 : Int)] (Sl.mk (some (Addr.mk r (0 : Nat) none)) (0 : Nat) (0 : Nat)) (Value.slice (Sl.a a0) (Sl.n a0) (Sl.c a0)) fun (s : Sl) (V : View) => Q (Value.slice (Sl.a s) (Sl.n s) (Sl.c s)) V)
def f63_ac : AC := (.seq (.reg ⟨.done, false, [], [], none⟩) (.seq (.seq (.reg ⟨.done, false, [], [], none⟩) (.cond none (.seq (.reg ⟨.done, false, [], [], none⟩) .leaf) .leaf)) (.seq (.reg ⟨.done, false, [], [], none⟩) .leaf)))
theorem f63_x {a0 : Sl} {V : View} {Q : Value → View → Prop} (h : f63_n a0 V Q) : CallV Tryd.prog 63 ⟨[(.slice a0.a a0.n a0.c)]⟩ V Q :=
  XF_sound (wr := false) Tryd.checked.mixed (enters_of (fn := Tryd.f63) (by kernel_rfl) (by kernel_rfl) (by kernel_rfl)) (fn := Tryd.f63) (by kernel_rfl) (ac := f63_ac)
    (Eq.mp (show f63_n a0 V Q = XF Tryd.prog false Tryd.f63 (f63_ac) [(.slice a0.a a0.n a0.c)] V Q from by kernel_rfl) h)
/-- potsherd/node.file -/
def f64_n (a0_0 : Int) (a0_1 : Int) (a0_2 : Int) (a0_3 : Sl) (a0_4 : Sl) (V : View) (Q : Value → View → Prop) : Prop :=
    ∀ (b : Nat), joinP [K.bool] (fun (J : CurP [K.bool]) => CallV Tryd.prog (80 : Nat) (Array.mk [Value.int IntKind.i64 a0_1, Value.int IntKind.i64 (120 : Int)]) V fun (r : Value) (V : View) => ∃ (x : Bool), r = Value.bool x ∧ br (!x) (J true V) (CallV Tryd.prog (80 : Nat) (Array.mk [Value.int IntKind.i64 a0_2, Value.int IntKind.i64 (80 : Int)]) V fun (r : Value) (V : View) => ∃ (x : Bool), r = Value.bool x ∧ J (bif bif !x then true else !decide ((↑(Sl.n a0_3) : Int) = (5 : Int)) then true else decide ((0 : Int) < (↑(Sl.n a0_4) : Int))) V)) fun (x : Bool) (V : View) => br x (Q (Value.bool false) V) (loopP [K.int IntKind.i64] (fun (x : Int) (V : View) (J : CurP [K.int IntKind.i64]) => br (decide (x < (↑(Sl.n a0_3) : Int))) ((0 : Int) ≤ x ∧ x < (↑(Sl.n a0_3) : Int) ∧ ∃ (ad : Addr), Sl.a a0_3 = some ad ∧ ∃ (x_1 : Int), View.cell? V (Addr.add ad (Int.toNat x * (1 : Nat))) = some (Value.int IntKind.i64 x_1) ∧ joinP [K.bool] (fun (J : CurP [K.bool]) => CallV Tryd.prog (80 : Nat) (Array.mk [Value.int IntKind.i64 x_1, Value.int IntKind.i64 (1099511627776 : Int)]) V fun (r : Value) (V : View) => ∃ (x_2 : Bool), r = Value.bool x_2 ∧ br (!x_2) (J true V) (inI IntKind.i64 (x * (16 : Int)) ∧ J (bif decide (a0_2 ≤ x * (16 : Int)) then !decide (x_1 = (0 : Int)) else false) V)) fun (x_2 : Bool) (V : View) => br x_2 (Q (Value.bool false) V) (inI IntKind.i64 (x + (1 : Int)) ∧ J (x + (1 : Int)) V)) (Q (Value.bool true) V)) ((0 : Int), ()) V)
def f64_ac : AC := (.seq (.reg ⟨.done, false, [], [], none⟩) (.seq (.seq (.reg ⟨.done, false, [], [], (some ⟨[5, 6, 7, 8, 9, 10, 11, 12, 13, 14, 15, 16, 17, 18, 19, 20, 21, 22, 23, 24, 25], [(26, .bool)], []⟩)⟩) (.cond none (.seq (.reg ⟨.done, false, [], [], none⟩) .leaf) .leaf)) (.seq (.seq (.reg ⟨.done, false, [], [], none⟩) (.block none (.loop ⟨[3, 4, 31, 32, 33, 34, 35, 36, 37, 38, 39, 40, 41, 42, 43, 44, 45, 46, 47, 48, 49], [(30, .int .i64)], []⟩ (.seq (.reg ⟨.done, false, [], [], none⟩) (.seq (.cond none .leaf .leaf) (.seq (.block none (.seq (.reg ⟨.done, false, [], [], none⟩) (.seq (.reg ⟨.done, false, [], [], (some ⟨[35, 36, 37, 38, 39, 40, 41, 42, 43, 44, 45, 46, 47], [(48, .bool)], []⟩)⟩) (.cond none (.seq (.reg ⟨.done, false, [], [], none⟩) .leaf) .leaf)))) (.reg ⟨.done, false, [], [], none⟩))))))) (.seq (.reg ⟨.done, false, [], [], none⟩) .leaf))))
theorem f64_x {a0_0 : Int} {a0_1 : Int} {a0_2 : Int} {a0_3 : Sl} {a0_4 : Sl} {V : View} {Q : Value → View → Prop} (h : f64_n a0_0 a0_1 a0_2 a0_3 a0_4 V Q) : CallV Tryd.prog 64 ⟨[(.agg ⟨[(.int .i64 a0_0), (.int .i64 a0_1), (.int .i64 a0_2), (.slice a0_3.a a0_3.n a0_3.c), (.slice a0_4.a a0_4.n a0_4.c)]⟩)]⟩ V Q :=
  XF_sound (wr := false) Tryd.checked.mixed (enters_of (fn := Tryd.f64) (by kernel_rfl) (by kernel_rfl) (by kernel_rfl)) (fn := Tryd.f64) (by kernel_rfl) (ac := f64_ac)
    (Eq.mp (show f64_n a0_0 a0_1 a0_2 a0_3 a0_4 V Q = XF Tryd.prog false Tryd.f64 (f64_ac) [(.agg ⟨[(.int .i64 a0_0), (.int .i64 a0_1), (.int .i64 a0_2), (.slice a0_3.a a0_3.n a0_3.c), (.slice a0_4.a a0_4.n a0_4.c)]⟩)] V Q from by kernel_rfl) h)
/-- potsherd/name.May -/
def f65_n (a0 : Sl) (V : View) (Q : Value → View → Prop) : Prop :=
    loopP [K.int IntKind.i64] (fun (x : Int) (V : View) (J : CurP [K.int IntKind.i64]) => br (decide (x < (↑(Sl.n a0) : Int))) ((0 : Int) ≤ x ∧ x < (↑(Sl.n a0) : Int) ∧ ∃ (ad : Addr), Sl.a a0 = some ad ∧ ∃ (x_1 : ByteArray), ∃ (x_2 : Int), cellsAt V (Addr.add ad (Int.toNat x * (2 : Nat))) [Value.string x_1, Value.int IntKind.i64 x_2] ∧ ∀ (b : Nat), joinP [K.bool] (fun (J : CurP [K.bool]) => True ∧ ∃ (S : View), View.Le S V ∧ CallV Tryd.prog (82 : Nat) (Array.mk [Value.agg (Array.mk [Value.string x_1, Value.int IntKind.i64 x_2])]) V fun (r : Value) (V : View) => ∃ (x_3 : Bool), r = Value.bool x_3 ∧ View.Le S V ∧ ∃ (S' : View), View.Le S S' ∧ View.Le S' V ∧ br (!x_3) (J true V) (br (decide ((0 : Int) < x)) (inI IntKind.i64 (x - (1 : Int)) ∧ (0 : Int) ≤ x - (1 : Int) ∧ x - (1 : Int) < (↑(Sl.n a0) : Int) ∧ ∃ (ad : Addr), Sl.a a0 = some ad ∧ ∃ (x_4 : ByteArray), View.cell? S' (Addr.add (Addr.add ad (Int.toNat (x - (1 : Int)) * (2 : Nat))) (0 : Nat)) = some (Value.string x_4) ∧ J (!sLess x_4 x_1) V) (J false V))) fun (x_3 : Bool) (V : View) => br x_3 (Q (Value.bool false) V) (inI IntKind.i64 (x + (1 : Int)) ∧ J (x + (1 : Int)) V)) (Q (Value.bool (decide ((↑(Sl.n a0) : Int) ≤ (10 : Int)))) V)) ((0 : Int), ()) V
def f65_ac : AC := (.seq (.reg ⟨.done, false, [], [], none⟩) (.seq (.seq (.reg ⟨.done, false, [], [], none⟩) (.block none (.loop ⟨[3, 4, 8, 9, 10, 11, 12, 13, 14, 15, 16, 17, 18, 19, 20, 21, 22, 23, 24, 25, 26, 27, 28, 29, 30], [(7, .int .i64)], []⟩ (.seq (.reg ⟨.done, false, [], [], none⟩) (.seq (.cond none .leaf .leaf) (.seq (.block none (.seq (.reg ⟨.done, false, [], [], none⟩) (.seq (.reg ⟨(.fl 0 (.alt 1 true true (.fl 2 (.fl 3 (.fl 4 (.fl 5 (.fl 6 (.fl 7 (.fl 8 (.fl 9 (.fl 10 (.fl 11 (.fl 12 (.fl 13 (.fl 14 (.fl 15 (.fl 16 (.fl 17 .done)))))))))))))))) .no)), true, [], [], (some ⟨[12, 13, 14, 15, 16, 17, 18, 19, 20, 21, 22, 23, 24, 25, 26, 27, 28], [(29, .bool)], []⟩)⟩) (.cond none (.seq (.reg ⟨.done, false, [], [], none⟩) .leaf) .leaf)))) (.reg ⟨.done, false, [], [], none⟩))))))) (.seq (.reg ⟨.done, false, [], [], none⟩) .leaf)))
theorem f65_x {a0 : Sl} {V : View} {Q : Value → View → Prop} (h : f65_n a0 V Q) : CallV Tryd.prog 65 ⟨[(.slice a0.a a0.n a0.c)]⟩ V Q :=
  XF_sound (wr := false) Tryd.checked.mixed (enters_of (fn := Tryd.f65) (by kernel_rfl) (by kernel_rfl) (by kernel_rfl)) (fn := Tryd.f65) (by kernel_rfl) (ac := f65_ac)
    (Eq.mp (show f65_n a0 V Q = XF Tryd.prog false Tryd.f65 (f65_ac) [(.slice a0.a a0.n a0.c)] V Q from by kernel_rfl) h)
/-- potsherd/path.Join -/
def f67_n (a0 : Sl) (V : View) (Q : Value → View → Prop) : Prop :=
    CallV Tryd.prog (83 : Nat) (Array.mk [Value.slice (Sl.a a0) (Sl.n a0) (Sl.c a0), Value.string (ByteArray.mk #[(47 : UInt8)])]) V fun (r : Value) (V : View) => ∃ (x : ByteArray), r = Value.string x ∧ (1 : Nat) + ByteArray.size x ≤ (9223372036854775807 : Nat) ∧ CallV Tryd.prog (49 : Nat) (Array.mk [Value.string (ByteArray.mk #[(47 : UInt8)] ++ x)]) V fun (r : Value) (V : View) => ∃ (x_1 : Sl), ∃ (x_2 : Int), r = Value.tuple (Array.mk [Value.slice (Sl.a x_1) (Sl.n x_1) (Sl.c x_1), Value.int IntKind.i64 x_2]) ∧ joinP [K.bool] (fun (J : CurP [K.bool]) => br (!decide (x_2 = (0 : Int))) (J true V) (CallV Tryd.prog (84 : Nat) (Array.mk [Value.slice (Sl.a x_1) (Sl.n x_1) (Sl.c x_1), Value.slice (Sl.a a0) (Sl.n a0) (Sl.c a0)]) V fun (r : Value) (V : View) => ∃ (x : Bool), r = Value.bool x ∧ J (!x) V)) fun (x_3 : Bool) (V : View) => br x_3 (Q (Value.string (ByteArray.mk #[])) V) (Q (Value.string (ByteArray.mk #[(47 : UInt8)] ++ x)) V)
def f67_ac : AC := (.seq (.reg ⟨.done, false, [], [], none⟩) (.seq (.reg ⟨.done, false, [], [], none⟩) (.seq (.reg ⟨.done, false, [], [], none⟩) (.seq (.seq (.reg ⟨.done, false, [], [], (some ⟨[14, 15, 16, 17, 18, 19, 20], [(21, .bool)], []⟩)⟩) (.cond none (.seq (.reg ⟨.done, false, [], [], none⟩) .leaf) .leaf)) (.seq (.reg ⟨.done, false, [], [], none⟩) .leaf)))))
theorem f67_x {a0 : Sl} {V : View} {Q : Value → View → Prop} (h : f67_n a0 V Q) : CallV Tryd.prog 67 ⟨[(.slice a0.a a0.n a0.c)]⟩ V Q :=
  XF_sound (wr := false) Tryd.checked.mixed (enters_of (fn := Tryd.f67) (by kernel_rfl) (by kernel_rfl) (by kernel_rfl)) (fn := Tryd.f67) (by kernel_rfl) (ac := f67_ac)
    (Eq.mp (show f67_n a0 V Q = XF Tryd.prog false Tryd.f67 (f67_ac) [(.slice a0.a a0.n a0.c)] V Q from by kernel_rfl) h)
/-- slices.ContainsFunc[[]string,string] -/
def f70_n (a0 : Sl) (g1 : FuncId) (x1 : List Value) (y1 : List Value) (V : View) (Q : Value → View → Prop) : Prop :=
    CallV Tryd.prog (87 : Nat) (Array.mk [Value.slice (Sl.a a0) (Sl.n a0) (Sl.c a0), Value.func (Fn.func g1) (Array.mk x1) (Array.mk y1)]) V fun (r : Value) (V : View) => ∃ (x : Int), r = Value.int IntKind.i64 x ∧ Q (Value.bool (decide ((0 : Int) ≤ x))) V
def f70_ac : AC := (.seq (.reg ⟨.done, false, [], [], none⟩) (.seq (.reg ⟨.done, false, [], [], none⟩) .leaf))
theorem f70_x {a0 : Sl} {g1 : FuncId} {x1 : List Value} {y1 : List Value} {V : View} {Q : Value → View → Prop} (h : f70_n a0 g1 x1 y1 V Q) : CallV Tryd.prog 70 ⟨[(.slice a0.a a0.n a0.c), (.func (.func g1) ⟨x1⟩ ⟨y1⟩)]⟩ V Q :=
  XF_sound (wr := false) Tryd.checked.mixed (enters_of (fn := Tryd.f70) (by kernel_rfl) (by kernel_rfl) (by kernel_rfl)) (fn := Tryd.f70) (by kernel_rfl) (ac := f70_ac)
    (Eq.mp (show f70_n a0 g1 x1 y1 V Q = XF Tryd.prog false Tryd.f70 (f70_ac) [(.slice a0.a a0.n a0.c), (.func (.func g1) ⟨x1⟩ ⟨y1⟩)] V Q from by kernel_rfl) h)
/-- potsherd/path.Split$1 -/
def f71_n (a0 : ByteArray) (V : View) (Q : Value → View → Prop) : Prop :=
    CallV Tryd.prog (72 : Nat) (Array.mk [Value.string a0]) V fun (r : Value) (V : View) => ∃ (x : Bool), r = Value.bool x ∧ Q (Value.bool !x) V
def f71_ac : AC := (.seq (.reg ⟨.done, false, [], [], none⟩) (.seq (.reg ⟨.done, false, [], [], none⟩) .leaf))
theorem f71_x {a0 : ByteArray} {V : View} {Q : Value → View → Prop} (h : f71_n a0 V Q) : CallV Tryd.prog 71 ⟨[(.string a0)]⟩ V Q :=
  XF_sound (wr := false) Tryd.checked.mixed (enters_of (fn := Tryd.f71) (by kernel_rfl) (by kernel_rfl) (by kernel_rfl)) (fn := Tryd.f71) (by kernel_rfl) (ac := f71_ac)
    (Eq.mp (show f71_n a0 V Q = XF Tryd.prog false Tryd.f71 (f71_ac) [(.string a0)] V Q from by kernel_rfl) h)
/-- potsherd/path.May -/
def f72_n (a0 : ByteArray) (V : View) (Q : Value → View → Prop) : Prop :=
    loopP [K.int IntKind.i64] (fun (x : Int) (V : View) (J : CurP [K.int IntKind.i64]) => br (decide (x < (↑(ByteArray.size a0) : Int))) ((0 : Int) ≤ x ∧ x < (↑(ByteArray.size a0) : Int) ∧ br (!bif bif bif bif bif decide ((97 : Int) ≤ (↑(UInt8.toNat (List.getD (Array.toList (ByteArray.data a0)) (Int.toNat x) (0 : UInt8))) : Int)) then decide ((↑(UInt8.toNat (List.getD (Array.toList (ByteArray.data a0)) (Int.toNat x) (0 : UInt8))) : Int) ≤ (122 : Int)) else false then true else bif decide ((48 : Int) ≤ (↑(UInt8.toNat (List.getD (Array.toList (ByteArray.data a0)) (Int.toNat x) (0 : UInt8))) : Int)) then decide ((↑(UInt8.toNat (List.getD (Array.toList (ByteArray.data a0)) (Int.toNat x) (0 : UInt8))) : Int) ≤ (57 : Int)) else false then true else decide ((↑(UInt8.toNat (List.getD (Array.toList (ByteArray.data a0)) (Int.toNat x) (0 : UInt8))) : Int) = (46 : Int)) then true else decide ((↑(UInt8.toNat (List.getD (Array.toList (ByteArray.data a0)) (Int.toNat x) (0 : UInt8))) : Int) = (95 : Int)) then true else decide ((↑(UInt8.toNat (List.getD (Array.toList (ByteArray.data a0)) (Int.toNat x) (0 : UInt8))) : Int) = (45 : Int))) (Q (Value.bool false) V) (inI IntKind.i64 (x + (1 : Int)) ∧ J (x + (1 : Int)) V)) (Q (Value.bool (bif bif bif decide ((1 : Int) ≤ (↑(ByteArray.size a0) : Int)) then decide ((↑(ByteArray.size a0) : Int) ≤ (8 : Int)) else false then !decide (a0 = ByteArray.mk #[(46 : UInt8)]) else false then !decide (a0 = ByteArray.mk #[(46 : UInt8), (46 : UInt8)]) else false)) V)) ((0 : Int), ()) V
def f72_ac : AC := (.seq (.reg ⟨.done, false, [], [], none⟩) (.seq (.seq (.reg ⟨.done, false, [], [], none⟩) (.block none (.loop ⟨[3, 4, 8, 9, 10, 11, 12, 13, 14, 15, 16, 17, 18, 19, 20, 21, 22, 23, 24, 25, 26, 27, 28, 29, 30, 31, 32, 33, 34, 35, 36, 37, 38, 39, 40], [(7, .int .i64)], []⟩ (.seq (.reg ⟨.done, false, [], [], none⟩) (.seq (.cond none .leaf .leaf) (.seq (.block none (.seq (.reg ⟨.done, false, [], [], none⟩) (.seq (.reg ⟨.done, false, [], [], none⟩) (.seq (.reg ⟨.done, false, [], [], none⟩) (.cond none (.seq (.reg ⟨.done, false, [], [], none⟩) .leaf) .leaf))))) (.reg ⟨.done, false, [], [], none⟩))))))) (.seq (.reg ⟨.done, false, [], [], none⟩) .leaf)))
theorem f72_x {a0 : ByteArray} {V : View} {Q : Value → View → Prop} (h : f72_n a0 V Q) : CallV Tryd.prog 72 ⟨[(.string a0)]⟩ V Q :=
  XF_sound (wr := false) Tryd.checked.mixed (enters_of (fn := Tryd.f72) (by kernel_rfl) (by kernel_rfl) (by kernel_rfl)) (fn := Tryd.f72) (by kernel_rfl) (ac := f72_ac)
    (Eq.mp (show f72_n a0 V Q = XF Tryd.prog false Tryd.f72 (f72_ac) [(.string a0)] V Q from by kernel_rfl) h)
/-- potsherd/name.Find -/
def f73_n (a0 : Sl) (a1 : ByteArray) (V : View) (Q : Value → View → Prop) : Prop :=
    CallV Tryd.prog (88 : Nat) (Array.mk [Value.slice (Sl.a a0) (Sl.n a0) (Sl.c a0), Value.string a1]) V fun (r : Value) (V : View) => ∃ (x : Int), r = Value.int IntKind.i64 x ∧ br (decide (x < (0 : Int))) (Q (Value.int IntKind.i64 (-1 : Int)) V) ((0 : Int) ≤ x ∧ x < (↑(Sl.n a0) : Int) ∧ ∃ (ad : Addr), Sl.a a0 = some ad ∧ ∃ (x_1 : Int), View.cell? V (Addr.add (Addr.add ad (Int.toNat x * (2 : Nat))) (1 : Nat)) = some (Value.int IntKind.i64 x_1) ∧ Q (Value.int IntKind.i64 x_1) V)
def f73_ac : AC := (.seq (.reg ⟨.done, false, [], [], none⟩) (.seq (.reg ⟨.done, false, [], [], none⟩) (.seq (.seq (.reg ⟨.done, false, [], [], none⟩) (.cond none (.seq (.reg ⟨.done, false, [], [], none⟩) .leaf) .leaf)) (.seq (.reg ⟨.done, false, [], [], none⟩) .leaf))))
theorem f73_x {a0 : Sl} {a1 : ByteArray} {V : View} {Q : Value → View → Prop} (h : f73_n a0 a1 V Q) : CallV Tryd.prog 73 ⟨[(.slice a0.a a0.n a0.c), (.string a1)]⟩ V Q :=
  XF_sound (wr := false) Tryd.checked.mixed (enters_of (fn := Tryd.f73) (by kernel_rfl) (by kernel_rfl) (by kernel_rfl)) (fn := Tryd.f73) (by kernel_rfl) (ac := f73_ac)
    (Eq.mp (show f73_n a0 a1 V Q = XF Tryd.prog false Tryd.f73 (f73_ac) [(.slice a0.a a0.n a0.c), (.string a1)] V Q from by kernel_rfl) h)
/-- potsherd/root.numbers -/
def f74_n (a0 : Sl) (a1 : Sl) (V : View) (Q : Value → View → Prop) : Prop :=
    loopP [K.sl, K.int IntKind.i64] (fun (x : Sl) (x_1 : Int) (V : View) (J : CurP [K.sl, K.int IntKind.i64]) => br (decide (x_1 < (↑(Sl.n a1) : Int))) ((0 : Int) ≤ x_1 ∧ x_1 < (↑(Sl.n a1) : Int) ∧ ∃ (ad : Addr), Sl.a a1 = some ad ∧ ∃ (x_2 : Int), View.cell? V (Addr.add ad (Int.toNat x_1 * (1 : Nat))) = some (Value.int IntKind.i64 x_2) ∧ CallV Tryd.prog (89 : Nat) (Array.mk [Value.slice (Sl.a x) (Sl.n x) (Sl.c x), Value.int IntKind.i64 x_2]) V fun (r : Value) (V : View) => ∃ (x : Sl), r = Value.slice (Sl.a x) (Sl.n x) (Sl.c x) ∧ inI IntKind.i64 (x_1 + (1 : Int)) ∧ J (Sl.mk (Sl.a x) (Sl.n x) (Sl.c x)) (x_1 + (1 : Int)) V) (Q (Value.slice (Sl.a x) (Sl.n x) (Sl.c x)) V)) (Sl.mk (Sl.a a0) (Sl.n a0) (Sl.c a0), (0 : Int), ()) V
def f74_ac : AC := (.seq (.reg ⟨.done, false, [], [], none⟩) (.seq (.seq (.reg ⟨.done, false, [], [], none⟩) (.block none (.loop ⟨[6, 10, 11, 12, 13, 14, 15, 16], [(0, .sl), (9, .int .i64)], []⟩ (.seq (.reg ⟨.done, false, [], [], none⟩) (.seq (.cond none .leaf .leaf) (.seq (.block none (.seq (.reg ⟨.done, false, [], [], none⟩) (.reg ⟨.done, false, [], [], none⟩))) (.reg ⟨.done, false, [], [], none⟩))))))) (.seq (.reg ⟨.done, false, [], [], none⟩) .leaf)))
theorem f74_x {a0 : Sl} {a1 : Sl} {V : View} {Q : Value → View → Prop} (h : f74_n a0 a1 V Q) : CallV Tryd.prog 74 ⟨[(.slice a0.a a0.n a0.c), (.slice a1.a a1.n a1.c)]⟩ V Q :=
  XF_sound (wr := false) Tryd.checked.mixed (enters_of (fn := Tryd.f74) (by kernel_rfl) (by kernel_rfl) (by kernel_rfl)) (fn := Tryd.f74) (by kernel_rfl) (ac := f74_ac)
    (Eq.mp (show f74_n a0 a1 V Q = XF Tryd.prog false Tryd.f74 (f74_ac) [(.slice a0.a a0.n a0.c), (.slice a1.a a1.n a1.c)] V Q from by kernel_rfl) h)
/-- potsherd/bytes.Text -/
def f75_n (a0 : Sl) (a1 : Sl) (V : View) (Q : Value → View → Prop) : Prop :=
    CallV Tryd.prog (89 : Nat) (Array.mk [Value.slice (Sl.a a0) (Sl.n a0) (Sl.c a0), Value.int IntKind.i64 (↑(Sl.n a1) : Int)]) V fun (r : Value) (V : View) => ∃ (x : Sl), r = Value.slice (Sl.a x) (Sl.n x) (Sl.c x) ∧ apV V (5 : Nat) (1 : Nat) (1 : Nat) [Value.int IntKind.u8 (0 : Int)] (Sl.mk (Sl.a x) (Sl.n x) (Sl.c x)) (Value.slice (Sl.a a1) (Sl.n a1) (Sl.c a1)) fun (s : Sl) (V : View) => Q (Value.slice (Sl.a s) (Sl.n s) (Sl.c s)) V
def f75_ac : AC := (.seq (.reg ⟨.done, false, [], [], none⟩) (.seq (.reg ⟨.done, false, [], [], none⟩) .leaf))
theorem f75_x {a0 : Sl} {a1 : Sl} {V : View} {Q : Value → View → Prop} (h : f75_n a0 a1 V Q) : CallV Tryd.prog 75 ⟨[(.slice a0.a a0.n a0.c), (.slice a1.a a1.n a1.c)]⟩ V Q :=
  XF_sound (wr := false) Tryd.checked.mixed (enters_of (fn := Tryd.f75) (by kernel_rfl) (by kernel_rfl) (by kernel_rfl)) (fn := Tryd.f75) (by kernel_rfl) (ac := f75_ac)
    (Eq.mp (show f75_n a0 a1 V Q = XF Tryd.prog false Tryd.f75 (f75_ac) [(.slice a0.a a0.n a0.c), (.slice a1.a a1.n a1.c)] V Q from by kernel_rfl) h)
/-- potsherd/bytes.NewReader -/
def f76_n (a0 : Sl) (V : View) (Q : Value → View → Prop) : Prop :=
    CallV Tryd.prog (90 : Nat) (Array.mk [Value.slice (Sl.a a0) (Sl.n a0) (Sl.c a0)]) V fun (r : Value) (V : View) => ∃ (x : Sl), r = Value.slice (Sl.a x) (Sl.n x) (Sl.c x) ∧ ∀ (b : Nat), View.see V b = none → Q (Value.pointer (some (Addr.mk b (0 : Nat) none))) (View.put V b (Obj.cells (Array.mk [Value.slice (Sl.a x) (Sl.n x) (Sl.c x), Value.int IntKind.i64 (0 : Int)]) (110 : Nat)))
def f76_ac : AC := (.seq (.reg ⟨.done, false, [], [], none⟩) (.seq (.reg ⟨.done, false, [(4, 0)], [], none⟩) .leaf))
theorem f76_x {a0 : Sl} {V : View} {Q : Value → View → Prop} (h : f76_n a0 V Q) : CallV Tryd.prog 76 ⟨[(.slice a0.a a0.n a0.c)]⟩ V Q :=
  XF_sound (wr := false) Tryd.checked.mixed (enters_of (fn := Tryd.f76) (by kernel_rfl) (by kernel_rfl) (by kernel_rfl)) (fn := Tryd.f76) (by kernel_rfl) (ac := f76_ac)
    (Eq.mp (show f76_n a0 V Q = XF Tryd.prog false Tryd.f76 (f76_ac) [(.slice a0.a a0.n a0.c)] V Q from by kernel_rfl) h)
/-- potsherd/root.read -/
def f77_n (a0 : Option Addr) (V : View) (Q : Value → View → Prop) : Prop :=
    ∀ (b : Nat), CallV Tryd.prog (91 : Nat) (Array.mk [Value.pointer a0, Value.int IntKind.i64 (2 : Int)]) V fun (r : Value) (V : View) => ∃ (x : Int), r = Value.int IntKind.i64 x ∧ ∀ (b : Nat), joinP [K.int IntKind.i64, K.int IntKind.i64, K.int IntKind.i64, K.sl, K.sl] (fun (J : CurP [K.int IntKind.i64, K.int IntKind.i64, K.int IntKind.i64, K.sl, K.sl]) => br (decide (x = (1 : Int))) (CallV Tryd.prog (91 : Nat) (Array.mk [Value.pointer a0, Value.int IntKind.i64 (120 : Int)]) V fun (r : Value) (V : View) => ∃ (x_1 : Int), r = Value.int IntKind.i64 x_1 ∧ CallV Tryd.prog (91 : Nat) (Array.mk [Value.pointer a0, Value.int IntKind.i64 (80 : Int)]) V fun (r : Value) (V : View) => ∃ (x_2 : Int), r = Value.int IntKind.i64 x_2 ∧ loopP [K.int IntKind.i64, K.int IntKind.i64, K.int IntKind.i64, K.int IntKind.i64, K.sl, K.sl] (fun (x x_3 x_4 x_5 : Int) (x_6 x_7 : Sl) (V : View) (J_1 : CurP [K.int IntKind.i64, K.int IntKind.i64, K.int IntKind.i64, K.int IntKind.i64, K.sl, K.sl]) => br (decide (x < (5 : Int))) (True ∧ ∃ (S : View), View.Le S V ∧ CallV Tryd.prog (91 : Nat) (Array.mk [Value.pointer a0, Value.int IntKind.i64 (1099511627776 : Int)]) V fun (r : Value) (V : View) => ∃ (x_8 : Int), r = Value.int IntKind.i64 x_8 ∧ View.Le S V ∧ newB V (Obj.cells (Array.mk (putL [Value.int IntKind.i64 (0 : Int)] (0 : Nat) [Value.int IntKind.i64 x_8])) (3 : Nat)) fun (r : Nat) (V : View) => View.Le S V ∧ apV V (3 : Nat) (1 : Nat) (8 : Nat) [Value.int IntKind.i64 (0 : Int)] (Sl.mk (Sl.a x_6) (Sl.n x_6) (Sl.c x_6)) (Value.slice (some (Addr.mk r (0 : Nat) none)) (1 : Nat) (1 : Nat)) fun (s : Sl) (V : View) => inI IntKind.i64 (x + (1 : Int)) ∧ J_1 (x + (1 : Int)) x_3 x_4 x_5 (Sl.mk (Sl.a s) (Sl.n s) (Sl.c s)) (Sl.mk (Sl.a x_7) (Sl.n x_7) (Sl.c x_7)) V) (J x_3 x_4 x_5 (Sl.mk (Sl.a x_6) (Sl.n x_6) (Sl.c x_6)) (Sl.mk (Sl.a x_7) (Sl.n x_7) (Sl.c x_7)) V)) ((0 : Int), x, x_1, x_2, Sl.mk none (0 : Nat) (0 : Nat), Sl.mk none (0 : Nat) (0 : Nat), ()) V) (joinP [K.int IntKind.i64, K.int IntKind.i64, K.int IntKind.i64, K.sl, K.sl] (fun (J : CurP [K.int IntKind.i64, K.int IntKind.i64, K.int IntKind.i64, K.sl, K.sl]) => br (decide (x = (2 : Int))) (CallV Tryd.prog (91 : Nat) (Array.mk [Value.pointer a0, Value.int IntKind.i64 (10 : Int)]) V fun (r : Value) (V : View) => ∃ (x_1 : Int), r = Value.int IntKind.i64 x_1 ∧ loopP [K.int IntKind.i64, K.int IntKind.i64, K.int IntKind.i64, K.int IntKind.i64, K.sl, K.sl] (fun (x x_2 x_3 x_4 : Int) (x_5 x_6 : Sl) (V : View) (J_1 : CurP [K.int IntKind.i64, K.int IntKind.i64, K.int IntKind.i64, K.int IntKind.i64, K.sl, K.sl]) => br (decide (x < x_1)) (True ∧ ∃ (S : View), View.Le S V ∧ CallV Tryd.prog (92 : Nat) (Array.mk [Value.pointer a0, Value.int IntKind.i64 (8 : Int)]) V fun (r : Value) (V : View) => ∃ (x_7 : Sl), r = Value.slice (Sl.a x_7) (Sl.n x_7) (Sl.c x_7) ∧ View.Le S V ∧ ∃ (S' : View), View.Le S S' ∧ View.Le S' V ∧ ∃ (b : ByteArray), rowAt S' (Sl.a x_7) (Sl.n x_7) (bytesV b) ∧ CallV Tryd.prog (91 : Nat) (Array.mk [Value.pointer a0, Value.int IntKind.i64 (11 : Int)]) V fun (r : Value) (V : View) => ∃ (x_8 : Int), r = Value.int IntKind.i64 x_8 ∧ View.Le S' V ∧ newB V (Obj.cells (Array.mk (putL [Value.string (ByteArray.mk #[]), Value.int IntKind.i64 (0 : Int)] (0 : Nat) [Value.string b, Value.int IntKind.i64 x_8])) (39 : Nat)) fun (r : Nat) (V : View) => View.Le S' V ∧ apV V (39 : Nat) (2 : Nat) (24 : Nat) [Value.string (ByteArray.mk #[]), Value.int IntKind.i64 (0 : Int)] (Sl.mk (Sl.a x_6) (Sl.n x_6) (Sl.c x_6)) (Value.slice (some (Addr.mk r (0 : Nat) none)) (1 : Nat) (1 : Nat)) fun (s : Sl) (V : View) => inI IntKind.i64 (x + (1 : Int)) ∧ J_1 (x + (1 : Int)) x_2 x_3 x_4 (Sl.mk (Sl.a x_5) (Sl.n x_5) (Sl.c x_5)) (Sl.mk (Sl.a s) (Sl.n s) (Sl.c s)) V) (J x_2 x_3 x_4 (Sl.mk (Sl.a x_5) (Sl.n x_5) (Sl.c x_5)) (Sl.mk (Sl.a x_6) (Sl.n x_6) (Sl.c x_6)) V)) ((0 : Int), x, (1 : Int), (0 : Int), Sl.mk none (0 : Nat) (0 : Nat), Sl.mk none (0 : Nat) (0 : Nat), ()) V) (J x (0 : Int) (0 : Int) (Sl.mk none (0 : Nat) (0 : Nat)) (Sl.mk none (0 : Nat) (0 : Nat)) V)) fun (x x_1 x_2 : Int) (x_3 x_4 : Sl) (V : View) => J x x_1 x_2 (Sl.mk (Sl.a x_3) (Sl.n x_3) (Sl.c x_3)) (Sl.mk (Sl.a x_4) (Sl.n x_4) (Sl.c x_4)) V)) fun (x x_1 x_2 : Int) (x_3 x_4 : Sl) (V : View) => Q (Value.agg (Array.mk [Value.int IntKind.i64 x, Value.int IntKind.i64 x_1, Value.int IntKind.i64 x_2, Value.slice (Sl.a x_3) (Sl.n x_3) (Sl.c x_3), Value.slice (Sl.a x_4) (Sl.n x_4) (Sl.c x_4)])) V
def f77_ac : AC := (.seq (.reg ⟨.done, false, [], [], none⟩) (.seq (.reg ⟨.done, false, [], [], none⟩) (.seq (.seq (.reg ⟨.done, false, [], [], none⟩) (.block none (.seq (.reg ⟨.done, false, [], [], none⟩) (.cond (some ⟨[11, 12, 13, 14, 15, 16, 17, 18, 19, 20, 21, 22, 23, 24, 25, 26, 27, 28, 29, 30, 31, 32, 33, 34, 35, 36, 37, 38, 39, 40, 41, 42, 43, 44, 45], [], [(1, [.int .i64, .int .i64, .int .i64, .sl, .sl])]⟩) (.seq (.reg ⟨.done, false, [], [], none⟩) (.seq (.reg ⟨.done, false, [], [], none⟩) (.block none (.loop ⟨[18, 19, 20, 21, 22, 23, 24, 25, 26], [(17, .int .i64)], [(1, [.int .i64, .int .i64, .int .i64, .sl, .sl])]⟩ (.seq (.reg ⟨.done, false, [], [], none⟩) (.seq (.cond none .leaf .leaf) (.seq (.block none (.reg ⟨(.fl 0 (.fl 1 (.fl 2 (.alt 3 true false (.alt 4 true false (.alt 5 false false (.fl 6 (.alt 7 false false .done .no)) .no) .no) .no)))), true, [], [], none⟩)) (.reg ⟨.done, false, [], [], none⟩)))))))) (.seq (.reg ⟨.done, false, [], [], none⟩) (.cond (some ⟨[29, 30, 31, 32, 33, 34, 35, 36, 37, 38, 39, 40, 41, 42, 43, 44, 45], [], [(1, [.int .i64, .int .i64, .int .i64, .sl, .sl])]⟩) (.seq (.reg ⟨.done, false, [], [], none⟩) (.seq (.reg ⟨.done, false, [], [], none⟩) (.block none (.loop ⟨[33, 34, 35, 36, 37, 38, 39, 40, 41, 42, 43, 44, 45], [(32, .int .i64)], [(1, [.int .i64, .int .i64, .int .i64, .sl, .sl])]⟩ (.seq (.reg ⟨.done, false, [], [], none⟩) (.seq (.cond none .leaf .leaf) (.seq (.block none (.reg ⟨(.fl 0 (.fl 1 (.fl 2 (.fl 5 (.alt 3 true true (.fl 4 (.alt 6 true false (.fl 7 (.alt 8 true false (.alt 9 false false (.fl 10 (.alt 11 false false .done .no)) .no) .no)) .no)) .no))))), true, [], [], none⟩)) (.reg ⟨.done, false, [], [], none⟩)))))))) .leaf)))))) (.seq (.reg ⟨.done, false, [], [], none⟩) .leaf))))
theorem f77_x {a0 : Option Addr} {V : View} {Q : Value → View → Prop} (h : f77_n a0 V Q) : CallV Tryd.prog 77 ⟨[(.pointer a0)]⟩ V Q :=
  XF_sound (wr := false) Tryd.checked.mixed (enters_of (fn := Tryd.f77) (by kernel_rfl) (by kernel_rfl) (by kernel_rfl)) (fn := Tryd.f77) (by kernel_rfl) (ac := f77_ac)
    (Eq.mp (show f77_n a0 V Q = XF Tryd.prog false Tryd.f77 (f77_ac) [(.pointer a0)] V Q from by kernel_rfl) h)
/-- (*potsherd/bytes.Reader).Err -/
def f78_n (a0 : Option Addr) (V : View) (Q : Value → View → Prop) : Prop :=
    br (Option.isNone a0) (Q (Value.int IntKind.i64 (1 : Int)) V) (∃ (a : Addr), a0 = some a ∧ ∃ (x : Int), View.cell? V (Addr.add a (1 : Nat)) = some (Value.int IntKind.i64 x) ∧ Q (Value.int IntKind.i64 x) V)
def f78_ac : AC := (.seq (.reg ⟨.done, false, [], [], none⟩) (.seq (.seq (.reg ⟨.done, false, [], [], none⟩) (.cond none (.seq (.reg ⟨.done, false, [], [], none⟩) .leaf) .leaf)) (.seq (.reg ⟨.done, false, [], [], none⟩) .leaf)))
theorem f78_x {a0 : Option Addr} {V : View} {Q : Value → View → Prop} (h : f78_n a0 V Q) : CallV Tryd.prog 78 ⟨[(.pointer a0)]⟩ V Q :=
  XF_sound (wr := false) Tryd.checked.mixed (enters_of (fn := Tryd.f78) (by kernel_rfl) (by kernel_rfl) (by kernel_rfl)) (fn := Tryd.f78) (by kernel_rfl) (ac := f78_ac)
    (Eq.mp (show f78_n a0 V Q = XF Tryd.prog false Tryd.f78 (f78_ac) [(.pointer a0)] V Q from by kernel_rfl) h)
/-- (*potsherd/bytes.Reader).Left -/
def f79_n (a0 : Option Addr) (V : View) (Q : Value → View → Prop) : Prop :=
    br (Option.isNone a0) (Q (Value.int IntKind.i64 (0 : Int)) V) (∃ (a : Addr), a0 = some a ∧ ∃ (x : Sl), View.cell? V (Addr.add a (0 : Nat)) = some (Value.slice (Sl.a x) (Sl.n x) (Sl.c x)) ∧ Q (Value.int IntKind.i64 (↑(Sl.n x) : Int)) V)
def f79_ac : AC := (.seq (.reg ⟨.done, false, [], [], none⟩) (.seq (.seq (.reg ⟨.done, false, [], [], none⟩) (.cond none (.seq (.reg ⟨.done, false, [], [], none⟩) .leaf) .leaf)) (.seq (.reg ⟨.done, false, [], [], none⟩) .leaf)))
theorem f79_x {a0 : Option Addr} {V : View} {Q : Value → View → Prop} (h : f79_n a0 V Q) : CallV Tryd.prog 79 ⟨[(.pointer a0)]⟩ V Q :=
  XF_sound (wr := false) Tryd.checked.mixed (enters_of (fn := Tryd.f79) (by kernel_rfl) (by kernel_rfl) (by kernel_rfl)) (fn := Tryd.f79) (by kernel_rfl) (ac := f79_ac)
    (Eq.mp (show f79_n a0 V Q = XF Tryd.prog false Tryd.f79 (f79_ac) [(.pointer a0)] V Q from by kernel_rfl) h)
/-- potsherd/node.within -/
def f80_n (a0 : Int) (a1 : Int) (V : View) (Q : Value → View → Prop) : Prop :=
    Q (Value.bool (bif decide ((0 : Int) ≤ a0) then decide (a0 ≤ a1) else false)) V
def f80_ac : AC := (.seq (.reg ⟨.done, false, [], [], none⟩) (.seq (.reg ⟨.done, false, [], [], none⟩) .leaf))
theorem f80_x {a0 : Int} {a1 : Int} {V : View} {Q : Value → View → Prop} (h : f80_n a0 a1 V Q) : CallV Tryd.prog 80 ⟨[(.int .i64 a0), (.int .i64 a1)]⟩ V Q :=
  XF_sound (wr := false) Tryd.checked.mixed (enters_of (fn := Tryd.f80) (by kernel_rfl) (by kernel_rfl) (by kernel_rfl)) (fn := Tryd.f80) (by kernel_rfl) (ac := f80_ac)
    (Eq.mp (show f80_n a0 a1 V Q = XF Tryd.prog false Tryd.f80 (f80_ac) [(.int .i64 a0), (.int .i64 a1)] V Q from by kernel_rfl) h)
/-- potsherd/potsherdref12.Name -/
def f81_n (a0 : ByteArray) (V : View) (Q : Value → View → Prop) : Prop :=
    br (bif bif bif decide ((↑(ByteArray.size a0) : Int) < (1 : Int)) then true else decide ((8 : Int) < (↑(ByteArray.size a0) : Int)) then true else decide (a0 = ByteArray.mk #[(46 : UInt8)]) then true else decide (a0 = ByteArray.mk #[(46 : UInt8), (46 : UInt8)])) (Q (Value.bool false) V) (loopP [K.int IntKind.i64] (fun (x : Int) (V : View) (J : CurP [K.int IntKind.i64]) => br (decide (x < (↑(ByteArray.size a0) : Int))) ((0 : Int) ≤ x ∧ x < (↑(ByteArray.size a0) : Int) ∧ br (bif bif bif bif bif decide ((↑(UInt8.toNat (List.getD (Array.toList (ByteArray.data a0)) (Int.toNat x) (0 : UInt8))) : Int) < (97 : Int)) then true else decide ((122 : Int) < (↑(UInt8.toNat (List.getD (Array.toList (ByteArray.data a0)) (Int.toNat x) (0 : UInt8))) : Int)) then bif decide ((↑(UInt8.toNat (List.getD (Array.toList (ByteArray.data a0)) (Int.toNat x) (0 : UInt8))) : Int) < (48 : Int)) then true else decide ((57 : Int) < (↑(UInt8.toNat (List.getD (Array.toList (ByteArray.data a0)) (Int.toNat x) (0 : UInt8))) : Int)) else false then !decide ((↑(UInt8.toNat (List.getD (Array.toList (ByteArray.data a0)) (Int.toNat x) (0 : UInt8))) : Int) = (46 : Int)) else false then !decide ((↑(UInt8.toNat (List.getD (Array.toList (ByteArray.data a0)) (Int.toNat x) (0 : UInt8))) : Int) = (95 : Int)) else false then !decide ((↑(UInt8.toNat (List.getD (Array.toList (ByteArray.data a0)) (Int.toNat x) (0 : UInt8))) : Int) = (45 : Int)) else false) (Q (Value.bool false) V) (inI IntKind.i64 (x + (1 : Int)) ∧ J (x + (1 : Int)) V)) (Q (Value.bool true) V)) ((0 : Int), ()) V)
def f81_ac : AC := (.seq (.reg ⟨.done, false, [], [], none⟩) (.seq (.seq (.reg ⟨.done, false, [], [], none⟩) (.cond none (.seq (.reg ⟨.done, false, [], [], none⟩) .leaf) .leaf)) (.seq (.seq (.reg ⟨.done, false, [], [], none⟩) (.block none (.loop ⟨[3, 4, 24, 25, 26, 27, 28, 29, 30, 31, 32, 33, 34, 35, 36, 37, 38, 39, 40, 41, 42, 43, 44, 45, 46, 47, 48, 49, 50, 51, 52, 53, 54, 55], [(23, .int .i64)], []⟩ (.seq (.reg ⟨.done, false, [], [], none⟩) (.seq (.cond none .leaf .leaf) (.seq (.block none (.seq (.reg ⟨.done, false, [], [], none⟩) (.seq (.reg ⟨.done, false, [], [], none⟩) (.seq (.reg ⟨.done, false, [], [], none⟩) (.cond none (.seq (.reg ⟨.done, false, [], [], none⟩) .leaf) .leaf))))) (.reg ⟨.done, false, [], [], none⟩))))))) (.seq (.reg ⟨.done, false, [], [], none⟩) .leaf))))
theorem f81_x {a0 : ByteArray} {V : View} {Q : Value → View → Prop} (h : f81_n a0 V Q) : CallV Tryd.prog 81 ⟨[(.string a0)]⟩ V Q :=
  XF_sound (wr := false) Tryd.checked.mixed (enters_of (fn := Tryd.f81) (by kernel_rfl) (by kernel_rfl) (by kernel_rfl)) (fn := Tryd.f81) (by kernel_rfl) (ac := f81_ac)
    (Eq.mp (show f81_n a0 V Q = XF Tryd.prog false Tryd.f81 (f81_ac) [(.string a0)] V Q from by kernel_rfl) h)
/-- potsherd/name.sole -/
def f82_n (a0_0 : ByteArray) (a0_1 : Int) (V : View) (Q : Value → View → Prop) : Prop :=
    ∀ (b : Nat), CallV Tryd.prog (72 : Nat) (Array.mk [Value.string a0_0]) V fun (r : Value) (V : View) => ∃ (x : Bool), r = Value.bool x ∧ Q (Value.bool (bif bif x then decide ((1 : Int) ≤ a0_1) else false then decide (a0_1 < (12 : Int)) else false)) V
def f82_ac : AC := (.seq (.reg ⟨.done, false, [], [], none⟩) (.seq (.reg ⟨.done, false, [], [], none⟩) .leaf))
theorem f82_x {a0_0 : ByteArray} {a0_1 : Int} {V : View} {Q : Value → View → Prop} (h : f82_n a0_0 a0_1 V Q) : CallV Tryd.prog 82 ⟨[(.agg ⟨[(.string a0_0), (.int .i64 a0_1)]⟩)]⟩ V Q :=
  XF_sound (wr := false) Tryd.checked.mixed (enters_of (fn := Tryd.f82) (by kernel_rfl) (by kernel_rfl) (by kernel_rfl)) (fn := Tryd.f82) (by kernel_rfl) (ac := f82_ac)
    (Eq.mp (show f82_n a0_0 a0_1 V Q = XF Tryd.prog false Tryd.f82 (f82_ac) [(.agg ⟨[(.string a0_0), (.int .i64 a0_1)]⟩)] V Q from by kernel_rfl) h)
/-- slices.Equal[[]string,string] -/
def f84_n (a0 : Sl) (a1 : Sl) (V : View) (Q : Value → View → Prop) : Prop :=
    br (!decide ((↑(Sl.n a0) : Int) = (↑(Sl.n a1) : Int))) (Q (Value.bool false) V) (loopP [K.int IntKind.i64] (fun (x : Int) (V : View) (J : CurP [K.int IntKind.i64]) => br (decide (x < (↑(Sl.n a0) : Int))) (True ∧ ∃ (S : View), View.Le S V ∧ (0 : Int) ≤ x ∧ x < (↑(Sl.n a0) : Int) ∧ ∃ (ad : Addr), Sl.a a0 = some ad ∧ ∃ (x_1 : ByteArray), View.cell? S (Addr.add ad (Int.toNat x * (1 : Nat))) = some (Value.string x_1) ∧ (0 : Int) ≤ x ∧ x < (↑(Sl.n a1) : Int) ∧ ∃ (ad : Addr), Sl.a a1 = some ad ∧ ∃ (x_2 : ByteArray), View.cell? S (Addr.add ad (Int.toNat x * (1 : Nat))) = some (Value.string x_2) ∧ br (!decide (x_1 = x_2)) (Q (Value.bool false) V) (inI IntKind.i64 (x + (1 : Int)) ∧ J (x + (1 : Int)) V)) (Q (Value.bool true) V)) ((0 : Int), ()) V)
def f84_ac : AC := (.seq (.reg ⟨.done, false, [], [], none⟩) (.seq (.seq (.reg ⟨.done, false, [], [], none⟩) (.cond none (.seq (.reg ⟨.done, false, [], [], none⟩) .leaf) .leaf)) (.seq (.seq (.reg ⟨.done, false, [], [], none⟩) (.block none (.loop ⟨[5, 14, 15, 16, 17, 18, 19, 20, 21, 22, 23, 24, 25], [(13, .int .i64)], []⟩ (.seq (.reg ⟨.done, false, [], [], none⟩) (.seq (.cond none .leaf .leaf) (.seq (.block none (.seq (.reg ⟨.done, false, [], [], none⟩) (.seq (.reg ⟨(.fl 0 (.fl 1 (.fl 2 (.fl 3 (.fl 4 (.fl 5 (.fl 6 (.fl 7 (.fl 8 .done))))))))), true, [], [], none⟩) (.cond none (.seq (.reg ⟨.done, false, [], [], none⟩) .leaf) .leaf)))) (.reg ⟨.done, false, [], [], none⟩))))))) (.seq (.reg ⟨.done, false, [], [], none⟩) .leaf))))
theorem f84_x {a0 : Sl} {a1 : Sl} {V : View} {Q : Value → View → Prop} (h : f84_n a0 a1 V Q) : CallV Tryd.prog 84 ⟨[(.slice a0.a a0.n a0.c), (.slice a1.a a1.n a1.c)]⟩ V Q :=
  XF_sound (wr := false) Tryd.checked.mixed (enters_of (fn := Tryd.f84) (by kernel_rfl) (by kernel_rfl) (by kernel_rfl)) (fn := Tryd.f84) (by kernel_rfl) (ac := f84_ac)
    (Eq.mp (show f84_n a0 a1 V Q = XF Tryd.prog false Tryd.f84 (f84_ac) [(.slice a0.a a0.n a0.c), (.slice a1.a a1.n a1.c)] V Q from by kernel_rfl) h)
/-- slices.IndexFunc[[]string,string] -/
def f87_n (a0 : Sl) (g1 : FuncId) (x1 : List Value) (y1 : List Value) (V : View) (Q : Value → View → Prop) : Prop :=
    loopP [K.int IntKind.i64] (fun (x : Int) (V : View) (J : CurP [K.int IntKind.i64]) => br (decide (x < (↑(Sl.n a0) : Int))) ((0 : Int) ≤ x ∧ x < (↑(Sl.n a0) : Int) ∧ ∃ (ad : Addr), Sl.a a0 = some ad ∧ ∃ (x_1 : ByteArray), View.cell? V (Addr.add ad (Int.toNat x * (1 : Nat))) = some (Value.string x_1) ∧ CallV Tryd.prog g1 (Array.mk (Array.toList (Array.mk x1) ++ [Value.string x_1] ++ Array.toList (Array.mk y1))) V fun (r : Value) (V : View) => ∃ (x_2 : Bool), r = Value.bool x_2 ∧ br x_2 (Q (Value.int IntKind.i64 x) V) (inI IntKind.i64 (x + (1 : Int)) ∧ J (x + (1 : Int)) V)) (Q (Value.int IntKind.i64 (-1 : Int)) V)) ((0 : Int), ()) V
def f87_ac : AC := (.seq (.reg ⟨.done, false, [], [], none⟩) (.seq (.seq (.reg ⟨.done, false, [], [], none⟩) (.block none (.loop ⟨[5, 9, 10, 11, 12, 13, 14, 15, 16, 18], [(8, .int .i64)], []⟩ (.seq (.reg ⟨.done, false, [], [], none⟩) (.seq (.cond none .leaf .leaf) (.seq (.block none (.seq (.reg ⟨.done, false, [], [], none⟩) (.seq (.reg ⟨.done, false, [], [], none⟩) (.cond none (.seq (.reg ⟨.done, false, [], [], none⟩) .leaf) .leaf)))) (.reg ⟨.done, false, [], [], none⟩))))))) (.seq (.reg ⟨.done, false, [], [], none⟩) .leaf)))
theorem f87_x {a0 : Sl} {g1 : FuncId} {x1 : List Value} {y1 : List Value} {V : View} {Q : Value → View → Prop} (h : f87_n a0 g1 x1 y1 V Q) : CallV Tryd.prog 87 ⟨[(.slice a0.a a0.n a0.c), (.func (.func g1) ⟨x1⟩ ⟨y1⟩)]⟩ V Q :=
  XF_sound (wr := false) Tryd.checked.mixed (enters_of (fn := Tryd.f87) (by kernel_rfl) (by kernel_rfl) (by kernel_rfl)) (fn := Tryd.f87) (by kernel_rfl) (ac := f87_ac)
    (Eq.mp (show f87_n a0 g1 x1 y1 V Q = XF Tryd.prog false Tryd.f87 (f87_ac) [(.slice a0.a a0.n a0.c), (.func (.func g1) ⟨x1⟩ ⟨y1⟩)] V Q from by kernel_rfl) h)
/-- potsherd/name.place -/
def f88_n (a0 : Sl) (a1 : ByteArray) (V : View) (Q : Value → View → Prop) : Prop :=
    ∀ (b : Nat), View.see V b = none → CallV Tryd.prog (100 : Nat) (Array.mk [Value.slice (Sl.a a0) (Sl.n a0) (Sl.c a0), Value.func (Fn.func (101 : Nat)) (Array.mk []) (Array.mk [Value.pointer (some (Addr.mk b (0 : Nat) none))])]) (View.put V b (Obj.cells (Array.mk [Value.string a1]) (9 : Nat))) fun (r : Value) (V : View) => ∃ (x : Int), r = Value.int IntKind.i64 x ∧ Q (Value.int IntKind.i64 x) V
def f88_ac : AC := (.seq (.reg ⟨.done, false, [(1, 0)], [], none⟩) (.seq (.reg ⟨.done, false, [], [], none⟩) .leaf))
theorem f88_x {a0 : Sl} {a1 : ByteArray} {V : View} {Q : Value → View → Prop} (h : f88_n a0 a1 V Q) : CallV Tryd.prog 88 ⟨[(.slice a0.a a0.n a0.c), (.string a1)]⟩ V Q :=
  XF_sound (wr := false) Tryd.checked.mixed (enters_of (fn := Tryd.f88) (by kernel_rfl) (by kernel_rfl) (by kernel_rfl)) (fn := Tryd.f88) (by kernel_rfl) (ac := f88_ac)
    (Eq.mp (show f88_n a0 a1 V Q = XF Tryd.prog false Tryd.f88 (f88_ac) [(.slice a0.a a0.n a0.c), (.string a1)] V Q from by kernel_rfl) h)
/-- potsherd/bytes.Number -/
def f89_n (a0 : Sl) (a1 : Int) (V : View) (Q : Value → View → Prop) : Prop :=
    (128 : Int) ≠ (0 : Int) ∧ newB V (Obj.cells (Array.mk (putL [Value.int IntKind.u8 (0 : Int)] (0 : Nat) [Value.int IntKind.u8 (IntKind.wrap IntKind.u8 (Int.tmod (if (1099511627776 : Int) < if (0 : Int) > a1 then (0 : Int) else a1 then (1099511627776 : Int) else if (0 : Int) > a1 then (0 : Int) else a1) (128 : Int)))])) (5 : Nat)) fun (r : Nat) (V : View) => (128 : Int) ≠ (0 : Int) ∧ inI IntKind.i64 (Int.tdiv (if (1099511627776 : Int) < if (0 : Int) > a1 then (0 : Int) else a1 then (1099511627776 : Int) else if (0 : Int) > a1 then (0 : Int) else a1) (128 : Int)) ∧ loopP [K.int IntKind.i64, K.sl] (fun (x : Int) (x_1 : Sl) (V : View) (J : CurP [K.int IntKind.i64, K.sl]) => br (decide ((0 : Int) < x)) ((128 : Int) ≠ (0 : Int) ∧ inI IntKind.i64 (Int.tmod x (128 : Int) + (128 : Int)) ∧ newB V (Obj.cells (Array.mk (putL [Value.int IntKind.u8 (0 : Int)] (0 : Nat) [Value.int IntKind.u8 (IntKind.wrap IntKind.u8 (Int.tmod x (128 : Int) + (128 : Int)))])) (5 : Nat)) fun (r : Nat) (V : View) => apV V (5 : Nat) (1 : Nat) (1 : Nat) [Value.int IntKind.u8 (0 : Int)] (Sl.mk (Sl.a x_1) (Sl.n x_1) (Sl.c x_1)) (Value.slice (some (Addr.mk r (0 : Nat) none)) (1 : Nat) (1 : Nat)) fun (s : Sl) (V : View) => (128 : Int) ≠ (0 : Int) ∧ inI IntKind.i64 (Int.tdiv x (128 : Int)) ∧ J (Int.tdiv x (128 : Int)) (Sl.mk (Sl.a s) (Sl.n s) (Sl.c s)) V) (CallV Tryd.prog (102 : Nat) (Array.mk [Value.slice (Sl.a x_1) (Sl.n x_1) (Sl.c x_1)]) V fun (r : Value) (V : View) => r = Value.tuple (Array.mk []) ∧ newB V (Obj.cells (Array.mk (putL (putL [Value.slice none (0 : Nat) (0 : Nat), Value.slice none (0 : Nat) (0 : Nat)] (0 : Nat) [Value.slice (Sl.a a0) (Sl.n a0) (Sl.c a0)]) (1 : Nat) [Value.slice (Sl.a x_1) (Sl.n x_1) (Sl.c x_1)])) (72 : Nat)) fun (r : Nat) (V : View) => CallV Tryd.prog (103 : Nat) (Array.mk [Value.slice (some (Addr.mk r (0 : Nat) none)) (2 : Nat) (2 : Nat)]) V fun (r : Value) (V : View) => ∃ (x : Sl), r = Value.slice (Sl.a x) (Sl.n x) (Sl.c x) ∧ Q (Value.slice (Sl.a x) (Sl.n x) (Sl.c x)) V)) (Int.tdiv (if (1099511627776 : Int) < if (0 : Int) > a1 then (0 : Int) else a1 then (1099511627776 : Int) else if (0 : Int) > a1 then (0 : Int) else a1) (128 : Int), Sl.mk (some (Addr.mk r (0 : Nat) none)) (1 : Nat) (1 : Nat), ()) V
def f89_ac : AC := (.seq (.reg ⟨.done, false, [], [], none⟩) (.seq (.reg ⟨.done, false, [], [], none⟩) (.seq (.reg ⟨.done, false, [], [], none⟩) (.seq (.seq (.reg ⟨.done, false, [], [], none⟩) (.block none (.loop ⟨[15, 16, 17, 18, 19, 20, 21, 22, 23, 24, 25], [(1, .int .i64), (5, .sl)], []⟩ (.seq (.seq (.reg ⟨.done, false, [], [], none⟩) (.cond none .leaf .leaf)) (.seq (.block none (.reg ⟨.done, false, [], [], none⟩)) (.reg ⟨.done, false, [], [], none⟩)))))) (.seq (.reg ⟨.done, false, [], [], none⟩) (.seq (.reg ⟨.done, false, [], [], none⟩) .leaf))))))
theorem f89_x {a0 : Sl} {a1 : Int} {V : View} {Q : Value → View → Prop} (h : f89_n a0 a1 V Q) : CallV Tryd.prog 89 ⟨[(.slice a0.a a0.n a0.c), (.int .i64 a1)]⟩ V Q :=
  XF_sound (wr := false) Tryd.checked.mixed (enters_of (fn := Tryd.f89) (by kernel_rfl) (by kernel_rfl) (by kernel_rfl)) (fn := Tryd.f89) (by kernel_rfl) (ac := f89_ac)
    (Eq.mp (show f89_n a0 a1 V Q = XF Tryd.prog false Tryd.f89 (f89_ac) [(.slice a0.a a0.n a0.c), (.int .i64 a1)] V Q from by kernel_rfl) h)
/-- slices.Clone[[]byte,byte] -/
def f90_n (a0 : Sl) (V : View) (Q : Value → View → Prop) : Prop :=
    br (Option.isNone (Sl.a a0)) (Q (Value.slice none (0 : Nat) (0 : Nat)) V) (newB V (Obj.cells (Array.mk []) (5 : Nat)) fun (r : Nat) (V : View) => apV V (5 : Nat) (1 : Nat) (1 : Nat) [Value.int IntKind.u8 (0 : Int)] (Sl.mk (some (Addr.mk r (0 : Nat) none)) (0 : Nat) (0 : Nat)) (Value.slice (Sl.a a0) (Sl.n a0) (Sl.c a0)) fun (s : Sl) (V : View) => Q (Value.slice (Sl.a s) (Sl.n s) (Sl.c s)) V)
def f90_ac : AC := (.seq (.reg ⟨.done, false, [], [], none⟩) (.seq (.seq (.reg ⟨.done, false, [], [], none⟩) (.cond none (.seq (.reg ⟨.done, false, [], [], none⟩) .leaf) .leaf)) (.seq (.reg ⟨.done, false, [], [], none⟩) .leaf)))
theorem f90_x {a0 : Sl} {V : View} {Q : Value → View → Prop} (h : f90_n a0 V Q) : CallV Tryd.prog 90 ⟨[(.slice a0.a a0.n a0.c)]⟩ V Q :=
  XF_sound (wr := false) Tryd.checked.mixed (enters_of (fn := Tryd.f90) (by kernel_rfl) (by kernel_rfl) (by kernel_rfl)) (fn := Tryd.f90) (by kernel_rfl) (ac := f90_ac)
    (Eq.mp (show f90_n a0 V Q = XF Tryd.prog false Tryd.f90 (f90_ac) [(.slice a0.a a0.n a0.c)] V Q from by kernel_rfl) h)
/-- (*potsherd/bytes.Reader).Number -/
def f91_n (a0 : Option Addr) (a1 : Int) (V : View) (Q : Value → View → Prop) : Prop :=
    CallV Tryd.prog (104 : Nat) (Array.mk [Value.pointer a0]) V fun (r : Value) (V : View) => ∃ (x : Bool), r = Value.bool x ∧ br x (Q (Value.int IntKind.i64 (0 : Int)) V) (∃ (a : Addr), a0 = some a ∧ ∃ (x : Sl), View.cell? V (Addr.add a (0 : Nat)) = some (Value.slice (Sl.a x) (Sl.n x) (Sl.c x)) ∧ CallV Tryd.prog (105 : Nat) (Array.mk [Value.slice (Sl.a x) (Sl.n x) (Sl.c x), Value.int IntKind.i64 a1]) V fun (r : Value) (V : View) => ∃ (x : Int), ∃ (x_1 : Int), r = Value.tuple (Array.mk [Value.int IntKind.i64 x, Value.int IntKind.i64 x_1]) ∧ joinP [] (fun (J : CurP []) => br (decide (x_1 = (0 : Int))) (∃ (a : Addr), a0 = some a ∧ canSet V (Addr.add a (1 : Nat)) (1 : Nat) ∧ J (View.sets V (Addr.add a (1 : Nat)) [Value.int IntKind.i64 (5 : Int)])) (J V)) fun (V : View) => ∃ (a : Addr), a0 = some a ∧ ∃ (x_2 : Sl), View.cell? V (Addr.add a (0 : Nat)) = some (Value.slice (Sl.a x_2) (Sl.n x_2) (Sl.c x_2)) ∧ (0 : Int) ≤ x_1 ∧ x_1 ≤ (↑(Sl.n x_2) : Int) ∧ (↑(Sl.n x_2) : Int) ≤ (↑(Sl.c x_2) : Int) ∧ ∃ (a : Addr), a0 = some a ∧ canSet V (Addr.add a (0 : Nat)) (nat_lit 1) ∧ Q (Value.int IntKind.i64 x) (View.sets V (Addr.add a (0 : Nat)) [Value.slice (if Sl.c x_2 = Int.toNat x_1 then Sl.a x_2 else Option.map (fun (x : Addr) => Addr.add x (Int.toNat x_1 * (1 : Nat))) (Sl.a x_2)) (Int.toNat (↑(Sl.n x_2) : Int) - Int.toNat x_1) (Sl.c x_2 - Int.toNat x_1)]))
def f91_ac : AC := (.seq (.reg ⟨.done, false, [], [], none⟩) (.seq (.seq (.reg ⟨.done, false, [], [], none⟩) (.cond none (.seq (.reg ⟨.done, false, [], [], none⟩) .leaf) .leaf)) (.seq (.reg ⟨.done, false, [], [], none⟩) (.seq (.seq (.reg ⟨.done, false, [], [], none⟩) (.cond (some ⟨[20, 21, 22], [], []⟩) (.reg ⟨.done, false, [], [], none⟩) .leaf)) (.seq (.reg ⟨.done, false, [], [], none⟩) (.seq (.reg ⟨.done, false, [], [], none⟩) .leaf))))))
theorem f91_x {a0 : Option Addr} {a1 : Int} {V : View} {Q : Value → View → Prop} (h : f91_n a0 a1 V Q) : CallV Tryd.prog 91 ⟨[(.pointer a0), (.int .i64 a1)]⟩ V Q :=
  XF_sound (wr := false) Tryd.checked.mixed (enters_of (fn := Tryd.f91) (by kernel_rfl) (by kernel_rfl) (by kernel_rfl)) (fn := Tryd.f91) (by kernel_rfl) (ac := f91_ac)
    (Eq.mp (show f91_n a0 a1 V Q = XF Tryd.prog false Tryd.f91 (f91_ac) [(.pointer a0), (.int .i64 a1)] V Q from by kernel_rfl) h)
/-- (*potsherd/bytes.Reader).Text -/
def f92_n (a0 : Option Addr) (a1 : Int) (V : View) (Q : Value → View → Prop) : Prop :=
    CallV Tryd.prog (104 : Nat) (Array.mk [Value.pointer a0]) V fun (r : Value) (V : View) => ∃ (x : Bool), r = Value.bool x ∧ br x (Q (Value.slice none (0 : Nat) (0 : Nat)) V) (∃ (a : Addr), a0 = some a ∧ ∃ (x : Sl), View.cell? V (Addr.add a (0 : Nat)) = some (Value.slice (Sl.a x) (Sl.n x) (Sl.c x)) ∧ CallV Tryd.prog (105 : Nat) (Array.mk [Value.slice (Sl.a x) (Sl.n x) (Sl.c x), Value.int IntKind.i64 a1]) V fun (r : Value) (V : View) => ∃ (x : Int), ∃ (x_1 : Int), r = Value.tuple (Array.mk [Value.int IntKind.i64 x, Value.int IntKind.i64 x_1]) ∧ joinP [K.bool] (fun (J : CurP [K.bool]) => br (decide (x_1 = (0 : Int))) (J true V) (∃ (a : Addr), a0 = some a ∧ ∃ (x_2 : Sl), View.cell? V (Addr.add a (0 : Nat)) = some (Value.slice (Sl.a x_2) (Sl.n x_2) (Sl.c x_2)) ∧ inI IntKind.i64 ((↑(Sl.n x_2) : Int) - x_1) ∧ J (decide ((↑(Sl.n x_2) : Int) - x_1 < x)) V)) fun (x_2 : Bool) (V : View) => br x_2 (∃ (a : Addr), a0 = some a ∧ canSet V (Addr.add a (1 : Nat)) (1 : Nat) ∧ Q (Value.slice none (0 : Nat) (0 : Nat)) (View.sets V (Addr.add a (1 : Nat)) [Value.int IntKind.i64 (5 : Int)])) (∃ (a : Addr), a0 = some a ∧ ∃ (x_3 : Sl), View.cell? V (Addr.add a (0 : Nat)) = some (Value.slice (Sl.a x_3) (Sl.n x_3) (Sl.c x_3)) ∧ inI IntKind.i64 (x_1 + x) ∧ (0 : Int) ≤ x_1 ∧ x_1 ≤ x_1 + x ∧ x_1 + x ≤ (↑(Sl.c x_3) : Int) ∧ CallV Tryd.prog (90 : Nat) (Array.mk [Value.slice (if Sl.c x_3 = Int.toNat x_1 then Sl.a x_3 else Option.map (fun (x : Addr) => Addr.add x (Int.toNat x_1 * (1 : Nat))) (Sl.a x_3)) (Int.toNat (x_1 + x) - Int.toNat x_1) (Sl.c x_3 - Int.toNat x_1)]) V fun (r : Value) (V : View) => ∃ (x_4 : Sl), r = Value.slice (Sl.a x_4) (Sl.n x_4) (Sl.c x_4) ∧ ∃ (a : Addr), a0 = some a ∧ ∃ (x_5 : Sl), View.cell? V (Addr.add a (0 : Nat)) = some (Value.slice (Sl.a x_5) (Sl.n x_5) (Sl.c x_5)) ∧ inI IntKind.i64 (x_1 + x) ∧ (0 : Int) ≤ x_1 + x ∧ x_1 + x ≤ (↑(Sl.n x_5) : Int) ∧ (↑(Sl.n x_5) : Int) ≤ (↑(Sl.c x_5) : Int) ∧ ∃ (a : Addr), a0 = some a ∧ canSet V (Addr.add a (0 : Nat)) (nat_lit 1) ∧ Q (Value.slice (Sl.a x_4) (Sl.n x_4) (Sl.c x_4)) (View.sets V (Addr.add a (0 : Nat)) [Value.slice (if Sl.c x_5 = Int.toNat (x_1 + x) then Sl.a x_5 else Option.map (fun (x_6 : Addr) => Addr.add x_6 (Int.toNat (x_1 + x) * (1 : Nat))) (Sl.a x_5)) (Int.toNat (↑(Sl.n x_5) : Int) - Int.toNat (x_1 + x)) (Sl.c x_5 - Int.toNat (x_1 + x))])))
def f92_ac : AC := (.seq (.reg ⟨.done, false, [], [], none⟩) (.seq (.seq (.reg ⟨.done, false, [], [], none⟩) (.cond none (.seq (.reg ⟨.done, false, [], [], none⟩) .leaf) .leaf)) (.seq (.reg ⟨.done, false, [], [], none⟩) (.seq (.seq (.reg ⟨.done, false, [], [], (some ⟨[19, 20, 21, 22, 23, 24, 25, 26, 27, 28, 29, 30], [(31, .bool)], []⟩)⟩) (.cond none (.seq (.reg ⟨.done, false, [], [], none⟩) (.seq (.reg ⟨.done, false, [], [], none⟩) .leaf)) .leaf)) (.seq (.reg ⟨.done, false, [], [], none⟩) (.seq (.reg ⟨.done, false, [], [], none⟩) (.seq (.reg ⟨.done, false, [], [], none⟩) .leaf)))))))
theorem f92_x {a0 : Option Addr} {a1 : Int} {V : View} {Q : Value → View → Prop} (h : f92_n a0 a1 V Q) : CallV Tryd.prog 92 ⟨[(.pointer a0), (.int .i64 a1)]⟩ V Q :=
  XF_sound (wr := false) Tryd.checked.mixed (enters_of (fn := Tryd.f92) (by kernel_rfl) (by kernel_rfl) (by kernel_rfl)) (fn := Tryd.f92) (by kernel_rfl) (ac := f92_ac)
    (Eq.mp (show f92_n a0 a1 V Q = XF Tryd.prog false Tryd.f92 (f92_ac) [(.pointer a0), (.int .i64 a1)] V Q from by kernel_rfl) h)
/-- slices.IndexFunc[[]potsherd/api.Entry,potsherd/api.Entry] -/
def f100_n (a0 : Sl) (g1 : FuncId) (x1 : List Value) (y1 : List Value) (V : View) (Q : Value → View → Prop) : Prop :=
    loopP [K.int IntKind.i64] (fun (x : Int) (V : View) (J : CurP [K.int IntKind.i64]) => br (decide (x < (↑(Sl.n a0) : Int))) ((0 : Int) ≤ x ∧ x < (↑(Sl.n a0) : Int) ∧ ∃ (ad : Addr), Sl.a a0 = some ad ∧ ∃ (x_1 : ByteArray), ∃ (x_2 : Int), cellsAt V (Addr.add ad (Int.toNat x * (2 : Nat))) [Value.string x_1, Value.int IntKind.i64 x_2] ∧ CallV Tryd.prog g1 (Array.mk (Array.toList (Array.mk x1) ++ [Value.agg (Array.mk [Value.string x_1, Value.int IntKind.i64 x_2])] ++ Array.toList (Array.mk y1))) V fun (r : Value) (V : View) => ∃ (x_3 : Bool), r = Value.bool x_3 ∧ br x_3 (Q (Value.int IntKind.i64 x) V) (inI IntKind.i64 (x + (1 : Int)) ∧ J (x + (1 : Int)) V)) (Q (Value.int IntKind.i64 (-1 : Int)) V)) ((0 : Int), ()) V
def f100_ac : AC := (.seq (.reg ⟨.done, false, [], [], none⟩) (.seq (.seq (.reg ⟨.done, false, [], [], none⟩) (.block none (.loop ⟨[5, 9, 10, 11, 12, 13, 14, 15, 16, 18], [(8, .int .i64)], []⟩ (.seq (.reg ⟨.done, false, [], [], none⟩) (.seq (.cond none .leaf .leaf) (.seq (.block none (.seq (.reg ⟨.done, false, [], [], none⟩) (.seq (.reg ⟨.done, false, [], [], none⟩) (.cond none (.seq (.reg ⟨.done, false, [], [], none⟩) .leaf) .leaf)))) (.reg ⟨.done, false, [], [], none⟩))))))) (.seq (.reg ⟨.done, false, [], [], none⟩) .leaf)))
theorem f100_x {a0 : Sl} {g1 : FuncId} {x1 : List Value} {y1 : List Value} {V : View} {Q : Value → View → Prop} (h : f100_n a0 g1 x1 y1 V Q) : CallV Tryd.prog 100 ⟨[(.slice a0.a a0.n a0.c), (.func (.func g1) ⟨x1⟩ ⟨y1⟩)]⟩ V Q :=
  XF_sound (wr := false) Tryd.checked.mixed (enters_of (fn := Tryd.f100) (by kernel_rfl) (by kernel_rfl) (by kernel_rfl)) (fn := Tryd.f100) (by kernel_rfl) (ac := f100_ac)
    (Eq.mp (show f100_n a0 g1 x1 y1 V Q = XF Tryd.prog false Tryd.f100 (f100_ac) [(.slice a0.a a0.n a0.c), (.func (.func g1) ⟨x1⟩ ⟨y1⟩)] V Q from by kernel_rfl) h)
/-- potsherd/name.place$1 -/
def f101_n (a0_0 : ByteArray) (a0_1 : Int) (z0 : Addr) (V : View) (Q : Value → View → Prop) : Prop :=
    ∀ (b : Nat), ∃ (x : ByteArray), View.cell? V z0 = some (Value.string x) ∧ Q (Value.bool (decide (a0_0 = x))) V
def f101_ac : AC := (.seq (.reg ⟨.done, false, [], [], none⟩) (.seq (.reg ⟨.done, false, [], [], none⟩) .leaf))
theorem f101_x {a0_0 : ByteArray} {a0_1 : Int} {z0 : Addr} {V : View} {Q : Value → View → Prop} (h : f101_n a0_0 a0_1 z0 V Q) : CallV Tryd.prog 101 ⟨[(.agg ⟨[(.string a0_0), (.int .i64 a0_1)]⟩), (.pointer (some z0))]⟩ V Q :=
  XF_sound (wr := false) Tryd.checked.mixed (enters_of (fn := Tryd.f101) (by kernel_rfl) (by kernel_rfl) (by kernel_rfl)) (fn := Tryd.f101) (by kernel_rfl) (ac := f101_ac)
    (Eq.mp (show f101_n a0_0 a0_1 z0 V Q = XF Tryd.prog false Tryd.f101 (f101_ac) [(.agg ⟨[(.string a0_0), (.int .i64 a0_1)]⟩), (.pointer (some z0))] V Q from by kernel_rfl) h)
/-- slices.Reverse[[]byte,byte] -/
def f102_n (a0 : Sl) (V : View) (Q : Value → View → Prop) : Prop :=
    inI IntKind.i64 ((↑(Sl.n a0) : Int) - (1 : Int)) ∧ loopP [K.int IntKind.i64, K.int IntKind.i64] (fun (x x_1 : Int) (V : View) (J : CurP [K.int IntKind.i64, K.int IntKind.i64]) => br (decide (x < x_1)) (True ∧ ∃ (S : View), View.Le S V ∧ (0 : Int) ≤ x_1 ∧ x_1 < (↑(Sl.n a0) : Int) ∧ ∃ (ad : Addr), Sl.a a0 = some ad ∧ ∃ (x_2 : Int), View.cell? S (Addr.add ad (Int.toNat x_1 * (1 : Nat))) = some (Value.int IntKind.u8 x_2) ∧ (0 : Int) ≤ x ∧ x < (↑(Sl.n a0) : Int) ∧ ∃ (ad : Addr), Sl.a a0 = some ad ∧ ∃ (x_3 : Int), View.cell? S (Addr.add ad (Int.toNat x * (1 : Nat))) = some (Value.int IntKind.u8 x_3) ∧ (0 : Int) ≤ x ∧ x < (↑(Sl.n a0) : Int) ∧ ∃ (ad : Addr), Sl.a a0 = some ad ∧ canSet V (Addr.add ad (Int.toNat x * (1 : Nat))) (nat_lit 1) ∧ (0 : Int) ≤ x_1 ∧ x_1 < (↑(Sl.n a0) : Int) ∧ ∃ (ad_1 : Addr), Sl.a a0 = some ad_1 ∧ canSet (View.sets V (Addr.add ad (Int.toNat x * (1 : Nat))) [Value.int IntKind.u8 x_2]) (Addr.add ad_1 (Int.toNat x_1 * (1 : Nat))) (nat_lit 1) ∧ inI IntKind.i64 (x + (1 : Int)) ∧ inI IntKind.i64 (x_1 - (1 : Int)) ∧ J (x + (1 : Int)) (x_1 - (1 : Int)) (View.sets (View.sets V (Addr.add ad (Int.toNat x * (1 : Nat))) [Value.int IntKind.u8 x_2]) (Addr.add ad_1 (Int.toNat x_1 * (1 : Nat))) [Value.int IntKind.u8 x_3])) (Q (Value.tuple (Array.mk [])) V)) ((0 : Int), (↑(Sl.n a0) : Int) - (1 : Int), ()) V
def f102_ac : AC := (.seq (.reg ⟨.done, false, [], [], none⟩) (.block none (.loop ⟨[7, 8, 9, 10, 11, 12, 13, 14, 15, 16, 17, 18, 19, 20, 21, 22, 23, 24, 25, 26, 27], [(2, .int .i64), (3, .int .i64)], []⟩ (.seq (.seq (.reg ⟨.done, false, [], [], none⟩) (.cond none .leaf .leaf)) (.seq (.block none (.reg ⟨(.fl 0 (.fl 1 (.fl 2 (.fl 3 (.fl 4 (.fl 5 (.fl 6 (.fl 7 (.fl 8 (.fl 9 (.fl 10 (.fl 11 (.fl 12 (.alt 13 false false (.fl 14 (.alt 15 false false .done .no)) .no)))))))))))))), true, [], [], none⟩)) (.reg ⟨.done, false, [], [], none⟩))))))
theorem f102_x {a0 : Sl} {V : View} {Q : Value → View → Prop} (h : f102_n a0 V Q) : CallV Tryd.prog 102 ⟨[(.slice a0.a a0.n a0.c)]⟩ V Q :=
  XF_sound (wr := false) Tryd.checked.mixed (enters_of (fn := Tryd.f102) (by kernel_rfl) (by kernel_rfl) (by kernel_rfl)) (fn := Tryd.f102) (by kernel_rfl) (ac := f102_ac)
    (Eq.mp (show f102_n a0 V Q = XF Tryd.prog false Tryd.f102 (f102_ac) [(.slice a0.a a0.n a0.c)] V Q from by kernel_rfl) h)
/-- slices.Concat[[]byte,byte] -/
def f103_n (a0 : Sl) (V : View) (Q : Value → View → Prop) : Prop :=
    loopP [K.int IntKind.i64, K.int IntKind.i64] (fun (x x_1 : Int) (V : View) (J : CurP [K.int IntKind.i64, K.int IntKind.i64]) => br (decide (x_1 < (↑(Sl.n a0) : Int))) ((0 : Int) ≤ x_1 ∧ x_1 < (↑(Sl.n a0) : Int) ∧ ∃ (ad : Addr), Sl.a a0 = some ad ∧ ∃ (x_2 : Sl), View.cell? V (Addr.add ad (Int.toNat x_1 * (1 : Nat))) = some (Value.slice (Sl.a x_2) (Sl.n x_2) (Sl.c x_2)) ∧ inI IntKind.i64 (x + (↑(Sl.n x_2) : Int)) ∧ joinP [] (fun (J : CurP []) => br (decide (x + (↑(Sl.n x_2) : Int) < (0 : Int))) False (J V)) fun (V : View) => inI IntKind.i64 (x_1 + (1 : Int)) ∧ J (x + (↑(Sl.n x_2) : Int)) (x_1 + (1 : Int)) V) (CallV Tryd.prog (112 : Nat) (Array.mk [Value.slice none (0 : Nat) (0 : Nat), Value.int IntKind.i64 x]) V fun (r : Value) (V : View) => ∃ (x : Sl), r = Value.slice (Sl.a x) (Sl.n x) (Sl.c x) ∧ loopP [K.sl, K.int IntKind.i64] (fun (x : Sl) (x_2 : Int) (V : View) (J : CurP [K.sl, K.int IntKind.i64]) => br (decide (x_2 < (↑(Sl.n a0) : Int))) ((0 : Int) ≤ x_2 ∧ x_2 < (↑(Sl.n a0) : Int) ∧ ∃ (ad : Addr), Sl.a a0 = some ad ∧ ∃ (x_3 : Sl), View.cell? V (Addr.add ad (Int.toNat x_2 * (1 : Nat))) = some (Value.slice (Sl.a x_3) (Sl.n x_3) (Sl.c x_3)) ∧ apV V (5 : Nat) (1 : Nat) (1 : Nat) [Value.int IntKind.u8 (0 : Int)] (Sl.mk (Sl.a x) (Sl.n x) (Sl.c x)) (Value.slice (Sl.a x_3) (Sl.n x_3) (Sl.c x_3)) fun (s : Sl) (V : View) => inI IntKind.i64 (x_2 + (1 : Int)) ∧ J (Sl.mk (Sl.a s) (Sl.n s) (Sl.c s)) (x_2 + (1 : Int)) V) (Q (Value.slice (Sl.a x) (Sl.n x) (Sl.c x)) V)) (Sl.mk (Sl.a x) (Sl.n x) (Sl.c x), (0 : Int), ()) V)) ((0 : Int), (0 : Int), ()) V
def f103_ac : AC := (.seq (.reg ⟨.done, false, [], [], none⟩) (.seq (.reg ⟨.done, false, [], [], none⟩) (.seq (.seq (.reg ⟨.done, false, [], [], none⟩) (.block none (.loop ⟨[5, 12, 13, 14, 15, 16, 17, 18, 19, 20, 21, 22], [(3, .int .i64), (11, .int .i64)], []⟩ (.seq (.reg ⟨.done, false, [], [], none⟩) (.seq (.cond none .leaf .leaf) (.seq (.block none (.seq (.reg ⟨.done, false, [], [], none⟩) (.seq (.reg ⟨.done, false, [], [], none⟩) (.seq (.reg ⟨.done, false, [], [], none⟩) (.cond (some ⟨[21], [], []⟩) (.reg ⟨.done, false, [], [], none⟩) .leaf))))) (.reg ⟨.done, false, [], [], none⟩))))))) (.seq (.reg ⟨.done, false, [], [], none⟩) (.seq (.seq (.reg ⟨.done, false, [], [], none⟩) (.block none (.loop ⟨[8, 28, 29, 30, 31, 32, 33, 34], [(6, .sl), (27, .int .i64)], []⟩ (.seq (.reg ⟨.done, false, [], [], none⟩) (.seq (.cond none .leaf .leaf) (.seq (.block none (.seq (.reg ⟨.done, false, [], [], none⟩) (.reg ⟨.done, false, [], [], none⟩))) (.reg ⟨.done, false, [], [], none⟩))))))) (.seq (.reg ⟨.done, false, [], [], none⟩) .leaf))))))
theorem f103_x {a0 : Sl} {V : View} {Q : Value → View → Prop} (h : f103_n a0 V Q) : CallV Tryd.prog 103 ⟨[(.slice a0.a a0.n a0.c)]⟩ V Q :=
  XF_sound (wr := false) Tryd.checked.mixed (enters_of (fn := Tryd.f103) (by kernel_rfl) (by kernel_rfl) (by kernel_rfl)) (fn := Tryd.f103) (by kernel_rfl) (ac := f103_ac)
    (Eq.mp (show f103_n a0 V Q = XF Tryd.prog false Tryd.f103 (f103_ac) [(.slice a0.a a0.n a0.c)] V Q from by kernel_rfl) h)
/-- (*potsherd/bytes.Reader).off -/
def f104_n (a0 : Option Addr) (V : View) (Q : Value → View → Prop) : Prop :=
    joinP [K.bool] (fun (J : CurP [K.bool]) => br (Option.isNone a0) (J true V) (∃ (a : Addr), a0 = some a ∧ ∃ (x : Int), View.cell? V (Addr.add a (1 : Nat)) = some (Value.int IntKind.i64 x) ∧ J (!decide (x = (0 : Int))) V)) fun (x : Bool) (V : View) => Q (Value.bool x) V
def f104_ac : AC := (.seq (.reg ⟨.done, false, [], [], none⟩) (.seq (.reg ⟨.done, false, [], [], (some ⟨[3, 4, 5, 6, 7, 8, 9, 10, 11], [(2, .bool)], []⟩)⟩) .leaf))
theorem f104_x {a0 : Option Addr} {V : View} {Q : Value → View → Prop} (h : f104_n a0 V Q) : CallV Tryd.prog 104 ⟨[(.pointer a0)]⟩ V Q :=
  XF_sound (wr := false) Tryd.checked.mixed (enters_of (fn := Tryd.f104) (by kernel_rfl) (by kernel_rfl) (by kernel_rfl)) (fn := Tryd.f104) (by kernel_rfl) (ac := f104_ac)
    (Eq.mp (show f104_n a0 V Q = XF Tryd.prog false Tryd.f104 (f104_ac) [(.pointer a0)] V Q from by kernel_rfl) h)
/-- potsherd/bytes.number -/
def f105_n (a0 : Sl) (a1 : Int) (V : View) (Q : Value → View → Prop) : Prop :=
    (0 : Int) ≤ (0 : Int) ∧ ((0 : Int) ≤ if (6 : Int) < (↑(Sl.n a0) : Int) then (6 : Int) else (↑(Sl.n a0) : Int)) ∧ (if (6 : Int) < (↑(Sl.n a0) : Int) then (6 : Int) else (↑(Sl.n a0) : Int)) ≤ (↑(Sl.c a0) : Int) ∧ loopP [K.int IntKind.i64, K.int IntKind.i64] (fun (x x_1 : Int) (V : View) (J : CurP [K.int IntKind.i64, K.int IntKind.i64]) => br (decide (x_1 < (↑(Int.toNat (if (6 : Int) < (↑(Sl.n a0) : Int) then (6 : Int) else (↑(Sl.n a0) : Int)) - (0 : Nat)) : Int))) ((0 : Int) ≤ x_1 ∧ x_1 < (↑(Int.toNat (if (6 : Int) < (↑(Sl.n a0) : Int) then (6 : Int) else (↑(Sl.n a0) : Int)) - (0 : Nat)) : Int) ∧ ∃ (ad : Addr), (if Sl.c a0 = (0 : Nat) then Sl.a a0 else Option.map (fun (x : Addr) => Addr.add x (0 : Nat)) (Sl.a a0)) = some ad ∧ ∃ (x_2 : Int), View.cell? V (Addr.add ad (Int.toNat x_1 * (1 : Nat))) = some (Value.int IntKind.u8 x_2) ∧ br (bif decide (x_1 = (0 : Int)) then decide (x_2 = (128 : Int)) else false) (Q (Value.tuple (Array.mk [Value.int IntKind.i64 (0 : Int), Value.int IntKind.i64 (0 : Int)])) V) (inI IntKind.i64 (x * (128 : Int)) ∧ inI IntKind.i64 x_2 ∧ (128 : Int) ≠ (0 : Int) ∧ inI IntKind.i64 (x * (128 : Int) + Int.tmod x_2 (128 : Int)) ∧ br (decide ((128 : Int) ≤ x_2)) (inI IntKind.i64 (x_1 + (1 : Int)) ∧ J (x * (128 : Int) + Int.tmod x_2 (128 : Int)) (x_1 + (1 : Int)) V) (br (decide (a1 < x * (128 : Int) + Int.tmod x_2 (128 : Int))) (Q (Value.tuple (Array.mk [Value.int IntKind.i64 (0 : Int), Value.int IntKind.i64 (0 : Int)])) V) (inI IntKind.i64 (x_1 + (1 : Int)) ∧ Q (Value.tuple (Array.mk [Value.int IntKind.i64 (x * (128 : Int) + Int.tmod x_2 (128 : Int)), Value.int IntKind.i64 (x_1 + (1 : Int))])) V)))) (Q (Value.tuple (Array.mk [Value.int IntKind.i64 (0 : Int), Value.int IntKind.i64 (0 : Int)])) V)) ((0 : Int), (0 : Int), ()) V
def f105_ac : AC := (.seq (.reg ⟨.done, false, [], [], none⟩) (.seq (.reg ⟨.done, false, [], [], none⟩) (.seq (.seq (.reg ⟨.done, false, [], [], none⟩) (.block none (.loop ⟨[7, 8, 16, 17, 18, 19, 20, 21, 22, 23, 24, 25, 26, 27, 28, 29, 30, 31, 32, 33, 40], [(6, .int .i64), (15, .int .i64)], []⟩ (.seq (.reg ⟨.done, false, [], [], none⟩) (.seq (.cond none .leaf .leaf) (.seq (.block none (.seq (.reg ⟨.done, false, [], [], none⟩) (.seq (.seq (.reg ⟨.done, false, [], [], none⟩) (.cond none (.seq (.reg ⟨.done, false, [], [], none⟩) .leaf) .leaf)) (.seq (.reg ⟨.done, false, [], [], none⟩) (.seq (.seq (.reg ⟨.done, false, [], [], none⟩) (.cond none .leaf .leaf)) (.seq (.seq (.reg ⟨.done, false, [], [], none⟩) (.cond none (.seq (.reg ⟨.done, false, [], [], none⟩) .leaf) .leaf)) (.seq (.reg ⟨.done, false, [], [], none⟩) .leaf))))))) (.reg ⟨.done, false, [], [], none⟩))))))) (.seq (.reg ⟨.done, false, [], [], none⟩) .leaf))))
theorem f105_x {a0 : Sl} {a1 : Int} {V : View} {Q : Value → View → Prop} (h : f105_n a0 a1 V Q) : CallV Tryd.prog 105 ⟨[(.slice a0.a a0.n a0.c), (.int .i64 a1)]⟩ V Q :=
  XF_sound (wr := false) Tryd.checked.mixed (enters_of (fn := Tryd.f105) (by kernel_rfl) (by kernel_rfl) (by kernel_rfl)) (fn := Tryd.f105) (by kernel_rfl) (ac := f105_ac)
    (Eq.mp (show f105_n a0 a1 V Q = XF Tryd.prog false Tryd.f105 (f105_ac) [(.slice a0.a a0.n a0.c), (.int .i64 a1)] V Q from by kernel_rfl) h)
/-- slices.Grow[[]byte,byte] -/
def f112_n (a0 : Sl) (a1 : Int) (V : View) (Q : Value → View → Prop) : Prop :=
    joinP [] (fun (J : CurP []) => br (decide (a1 < (0 : Int))) False (J V)) fun (V : View) => inI IntKind.i64 ((↑(Sl.c a0) : Int) - (↑(Sl.n a0) : Int)) ∧ inI IntKind.i64 (a1 - ((↑(Sl.c a0) : Int) - (↑(Sl.n a0) : Int))) ∧ joinP [K.sl] (fun (J : CurP [K.sl]) => br (decide ((0 : Int) < a1 - ((↑(Sl.c a0) : Int) - (↑(Sl.n a0) : Int)))) ((0 : Int) ≤ (0 : Int) ∧ (0 : Int) ≤ (↑(Sl.c a0) : Int) ∧ (↑(Sl.c a0) : Int) ≤ (↑(Sl.c a0) : Int) ∧ apV V (5 : Nat) (1 : Nat) (1 : Nat) [Value.int IntKind.u8 (0 : Int)] (Sl.mk (if Sl.c a0 = (0 : Nat) then Sl.a a0 else Option.map (fun (x : Addr) => Addr.add x (0 : Nat)) (Sl.a a0)) (Int.toNat (↑(Sl.c a0) : Int) - (0 : Nat)) (Sl.c a0 - (0 : Nat))) (Value.int IntKind.i64 (a1 - ((↑(Sl.c a0) : Int) - (↑(Sl.n a0) : Int)))) fun (s : Sl) (V : View) => (0 : Int) ≤ (0 : Int) ∧ (0 : Int) ≤ (↑(Sl.n a0) : Int) ∧ (↑(Sl.n a0) : Int) ≤ (↑(Sl.c s) : Int) ∧ J (Sl.mk (if Sl.c s = (0 : Nat) then Sl.a s else Option.map (fun (x : Addr) => Addr.add x (0 : Nat)) (Sl.a s)) (Int.toNat (↑(Sl.n a0) : Int) - (0 : Nat)) (Sl.c s - (0 : Nat))) V) (J (Sl.mk (Sl.a a0) (Sl.n a0) (Sl.c a0)) V)) fun (x : Sl) (V : View) => Q (Value.slice (Sl.a x) (Sl.n x) (Sl.c x)) V
def f112_ac : AC := (.seq (.reg ⟨.done, false, [], [], none⟩) (.seq (.seq (.reg ⟨.done, false, [], [], none⟩) (.cond (some ⟨[7], [], []⟩) (.reg ⟨.done, false, [], [], none⟩) .leaf)) (.seq (.seq (.reg ⟨.done, false, [], [], none⟩) (.seq (.reg ⟨.done, false, [], [], none⟩) (.cond (some ⟨[17, 18, 19, 20, 21, 22, 23, 24, 25], [(0, .sl)], []⟩) (.reg ⟨.done, false, [], [], none⟩) .leaf))) (.seq (.reg ⟨.done, false, [], [], none⟩) .leaf))))
theorem f112_x {a0 : Sl} {a1 : Int} {V : View} {Q : Value → View → Prop} (h : f112_n a0 a1 V Q) : CallV Tryd.prog 112 ⟨[(.slice a0.a a0.n a0.c), (.int .i64 a1)]⟩ V Q :=
  XF_sound (wr := false) Tryd.checked.mixed (enters_of (fn := Tryd.f112) (by kernel_rfl) (by kernel_rfl) (by kernel_rfl)) (fn := Tryd.f112) (by kernel_rfl) (ac := f112_ac)
    (Eq.mp (show f112_n a0 a1 V Q = XF Tryd.prog false Tryd.f112 (f112_ac) [(.slice a0.a a0.n a0.c), (.int .i64 a1)] V Q from by kernel_rfl) h)
end Go.Proofs.YtpalkdmngckcoaaDoor

/- The contract of path.May. -/
namespace Go.Proofs.YtpalkdmngckcoaaDoor
open Go
theorem pathMay_ok {s : ByteArray} {V : View} (hs : s.size ≤ 9223372036854775807) : CallV Tryd.prog 72 ⟨[.string s]⟩ V fun r V' => r = .bool (mayB s) ∧ V' = V := by
  refine f72_x ?_
  unfold f72_n
  refine loop1 (k := .int .i64) (fun (x : Int) V' => V' = V ∧ 0 ≤ x ∧ x ≤ s.size ∧ (s.data.toList.take x.toNat).all (fun b => okB b.toNat) = true) (fun (x : Int) _ => s.size - x.toNat) ⟨rfl, by omega, by omega, rfl⟩ ?_
  rintro (x : Int) V' ⟨rfl, h0, h1, h2⟩
  have hsz : s.data.toList.length = s.size := by simp
  refine br_intro (fun hlt => ?_) (fun hge => ?_)
  · have hlt : x < s.size := by simpa using hlt
    have hx : x.toNat < s.data.toList.length := by omega
    have hg : s.data.toList.getD x.toNat 0 = s.data.toList[x.toNat] := by rw [List.getD_eq_getElem?_getD, List.getElem?_eq_getElem hx]; rfl
    refine ⟨h0, hlt, ?_⟩
    rw [hg]
    generalize hb : s.data.toList[x.toNat] = b
    refine br_intro (fun hn => ⟨?_, rfl⟩) (fun hn => ⟨inI64 (by omega) (by omega), ⟨rfl, by omega, by omega, ?_⟩, by omega⟩)
    · have hk : okB b.toNat = false := by
        unfold okB
        simp at hn ⊢
        omega
      unfold mayB
      have : (s.data.toList.all fun b => okB b.toNat) = false := by
        rw [List.all_eq_false]
        exact ⟨b, hb ▸ List.getElem_mem hx, by simp [hk]⟩
      rw [show bl s = s.data.toList from rfl, this]; rfl
    · have hk : okB b.toNat = true := by
        unfold okB
        simp at hn ⊢
        omega
      rw [show (x + 1).toNat = x.toNat + 1 by omega, List.take_add_one, List.all_append, h2, List.getElem?_eq_getElem hx, hb]
      simp [hk]
  · have hge : ¬ x < s.size := by simpa using hge
    rw [List.take_of_length_le (by omega)] at h2
    refine ⟨?_, rfl⟩
    unfold mayB
    rw [show bl s = s.data.toList from rfl, h2]
    congr 1
    rw [Bool.eq_iff_iff]
    simp
    omega
end Go.Proofs.YtpalkdmngckcoaaDoor

/- Contracts of package path. -/
namespace Go.Proofs.YtpalkdmngckcoaaDoor
open Go
theorem splitC_ok {s : ByteArray} {V : View} (hs : s.size ≤ 9223372036854775807) : CallV Tryd.prog 71 ⟨[.string s]⟩ V fun r V' => r = .bool (!mayB s) ∧ V' = V := by
  refine f71_x ?_
  unfold f71_n
  refine (pathMay_ok hs).mono ?_
  rintro r V' ⟨rfl, rfl⟩
  exact ⟨_, rfl, rfl, rfl⟩
theorem indexFuncS_ok {p : ByteArray → Bool} {s : Sl} {l : List ByteArray} {V : View} {g : FuncId} {xs ys : List Value} (h : SlR V s l)
    (hp : ∀ b ∈ l, CallV Tryd.prog g ⟨xs ++ [.string b] ++ ys⟩ V fun r V' => r = .bool (p b) ∧ V' = V) :
    CallV Tryd.prog 87 ⟨[.slice s.a s.n s.c, .func (.func g) ⟨xs⟩ ⟨ys⟩]⟩ V fun r V' => r = .int .i64 (idxI p l) ∧ V' = V := by
  refine f87_x ?_
  unfold f87_n
  have hn := h.n; have hlim := h.lim
  refine loop1 (k := .int .i64) (fun (x : Int) V' => V' = V ∧ 0 ≤ x ∧ x ≤ s.n ∧ ∀ j (hj : j < l.length), (j : Int) < x → p l[j] = false) (fun (x : Int) _ => s.n - x.toNat) ⟨rfl, by omega, by omega, fun j _ hj => by omega⟩ ?_
  rintro (x : Int) V' ⟨rfl, h0, h1, h2⟩
  refine br_intro (fun hlt => ?_) (fun hge => ?_)
  · have hlt : x < s.n := by simpa using hlt
    obtain ⟨ad, hx, ha, hc, _⟩ := h.str h0 hlt
    refine ⟨h0, hlt, ad, ha, _, hc, (hp _ (List.getElem_mem hx)).mono ?_⟩
    rintro r V1 ⟨rfl, rfl⟩
    refine ⟨_, rfl, br_intro (fun hb => ⟨?_, rfl⟩) (fun hb => ⟨inI64 (by omega) (by omega), ⟨rfl, by omega, by omega, fun j hj hjx => ?_⟩, by omega⟩)⟩
    · rw [idxI_first p l x.toNat hx (fun j hj => h2 j (by omega) (by omega)) hb]
      congr 1; omega
    · by_cases e : (j : Int) < x
      · exact h2 j hj e
      · have : j = x.toNat := by omega
        subst this; exact hb
  · have hge : ¬ x < s.n := by simpa using hge
    refine ⟨?_, rfl⟩
    rw [idxI_none p l fun y hy => ?_]
    obtain ⟨j, hj, rfl⟩ := List.getElem_of_mem hy
    exact h2 j hj (by omega)
theorem containsFuncS_ok {p : ByteArray → Bool} {s : Sl} {l : List ByteArray} {V : View} {g : FuncId} {xs ys : List Value} (h : SlR V s l)
    (hp : ∀ b ∈ l, CallV Tryd.prog g ⟨xs ++ [.string b] ++ ys⟩ V fun r V' => r = .bool (p b) ∧ V' = V) :
    CallV Tryd.prog 70 ⟨[.slice s.a s.n s.c, .func (.func g) ⟨xs⟩ ⟨ys⟩]⟩ V fun r V' => r = .bool (l.any p) ∧ V' = V := by
  refine f70_x ?_
  unfold f70_n
  refine (indexFuncS_ok h hp).mono ?_
  rintro r V' ⟨rfl, rfl⟩
  refine ⟨_, rfl, ?_, rfl⟩
  congr 1
  rcases idxI_range p l with ⟨h1, h2⟩ | ⟨h1, h2, h3⟩
  · rw [h1, h2]; rfl
  · rw [h3]; simpa using h1
theorem equalS_ok {s t : Sl} {l m : List ByteArray} {V : View} (h : SlR V s l) (k : SlR V t m) : CallV Tryd.prog 84 ⟨[.slice s.a s.n s.c, .slice t.a t.n t.c]⟩ V fun r V' => r = .bool (decide (l = m)) ∧ V' = V := by
  refine f84_x ?_
  unfold f84_n
  have hn := h.n; have hlim := h.lim; have kn := k.n
  refine br_intro (fun hne => ⟨?_, rfl⟩) (fun heq => ?_)
  · have hne : ¬ (s.n : Int) = t.n := by simpa using hne
    rw [decide_eq_false]
    intro e; subst e; omega
  have heq : (s.n : Int) = t.n := by simpa using heq
  refine loop1 (k := .int .i64) (fun (x : Int) V' => V' = V ∧ 0 ≤ x ∧ x ≤ s.n ∧ l.take x.toNat = m.take x.toNat) (fun (x : Int) _ => s.n - x.toNat) ⟨rfl, by omega, by omega, rfl⟩ ?_
  rintro (x : Int) V' ⟨rfl, h0, h1, h2⟩
  refine br_intro (fun hlt => ?_) (fun hge => ?_)
  · have hlt : x < s.n := by simpa using hlt
    obtain ⟨ad, hx, ha, hc, _⟩ := h.str h0 hlt
    obtain ⟨ad', hx', ha', hc', _⟩ := k.str h0 (by omega)
    refine ⟨trivial, V', View.Le.refl _, h0, hlt, ad, ha, _, hc, h0, by omega, ad', ha', _, hc', br_intro (fun hb => ⟨?_, rfl⟩) (fun hb => ⟨inI64 (by omega) (by omega), ⟨rfl, by omega, by omega, ?_⟩, by omega⟩)⟩
    · have hb : ¬ l[x.toNat] = m[x.toNat] := by simpa using hb
      rw [decide_eq_false]
      intro e; subst e; exact hb rfl
    · have hb : l[x.toNat] = m[x.toNat] := by simpa using hb
      rw [show (x + 1).toNat = x.toNat + 1 by omega, List.take_add_one, List.take_add_one, h2, List.getElem?_eq_getElem hx, List.getElem?_eq_getElem hx', hb]
  · have hge : ¬ x < s.n := by simpa using hge
    rw [List.take_of_length_le (by omega), List.take_of_length_le (by omega)] at h2
    exact ⟨by rw [h2]; simp, rfl⟩
/-- What path.Split answers. -/
def splitR (V : View) (o : Option (List ByteArray)) (r : Value) : Prop :=
  ∃ (x : Sl) (e : Int), r = .tuple ⟨[.slice x.a x.n x.c, .int .i64 e]⟩ ∧ match o with
    | none => e = 7 ∧ x = ⟨none, 0, 0⟩
    | some l => e = 0 ∧ SlR V x l
theorem pathSplit_ok {s : ByteArray} {V : View} (_hs : s.size ≤ 9223372036854775807) (hg : Glo V) : CallV Tryd.prog 49 ⟨[.string s]⟩ V fun r V' => splitR V' (splitP s) r ∧ V.Le V' := by
  refine f49_x ?_
  unfold f49_n
  refine (cutPrefix_ok (s := s)).mono ?_
  rintro r V' ⟨rfl, rfl⟩
  refine ⟨_, _, rfl, ?_⟩
  have hno : (∀ e : splitP s = none, splitR V' (splitP s) (.tuple ⟨[.slice none 0 0, .int .i64 7]⟩) ∧ V'.Le V') := fun e => ⟨⟨⟨none, 0, 0⟩, 7, rfl, by rw [e]; exact ⟨rfl, rfl⟩⟩, View.Le.refl _⟩
  refine br_intro (fun h => hno ?_) (fun h => ?_)
  · unfold splitP
    split
    · rfl
    · rename_i c r hb
      rw [if_neg]
      rintro ⟨rfl, hle⟩
      rw [hb] at h
      simp [Lib.hasPrefix] at h
      omega
  · cases hb : bl s with
    | nil => rw [hb] at h; simp [Lib.hasPrefix] at h
    | cons c t =>
      rw [hb] at h
      have hc : c = 47 ∧ s.size ≤ 60 := by
        simp [Lib.hasPrefix, List.isPrefixOf] at h
        exact ⟨h.1.symm, by omega⟩
      obtain ⟨rfl, h60⟩ := hc
      have htr : Lib.trimPrefix (47 :: t) [47] = t := by simp [Lib.trimPrefix, Lib.hasPrefix, List.isPrefixOf]
      rw [htr]
      have hlen : (ba t).size ≤ 60 := by rw [← bl_len, hb] at h60; rw [ba_size]; simp at h60; omega
      refine br_intro (fun h => ?_) (fun h => ?_)
      · have ht : t = [] := by
          have : ba t = ByteArray.mk #[] := by simpa using h
          have := congrArg bl this
          simpa using this
        refine ⟨⟨⟨none, 0, 0⟩, 0, rfl, ?_⟩, View.Le.refl _⟩
        unfold splitP
        rw [hb]
        simp only
        rw [if_pos ⟨trivial, h60⟩, if_pos ht]
        exact ⟨trivial, SlR.nil _ _ _⟩
      · have ht : t ≠ [] := fun e => by
          subst e
          simp [ba] at h
        refine (strSplit_ok (by omega) hg).mono ?_
        rintro r V1 ⟨x, rfl, hle, hx⟩
        refine ⟨_, rfl, (containsFuncS_ok (p := fun b => !mayB b) hx fun b hb => ?_).mono ?_⟩
        · have hbs : b.size ≤ 9223372036854775807 := by
            obtain ⟨j, hj, rfl⟩ := List.getElem_of_mem hb
            obtain ⟨_, _, _, _, _, h⟩ := hx.get j hj
            omega
          exact splitC_ok hbs
        rintro r V2 ⟨rfl, rfl⟩
        have hsp : splitP s = if ((splitS t).map ba).all mayB then some ((splitS t).map ba) else none := by
          unfold splitP
          rw [hb]
          simp only
          rw [if_pos ⟨trivial, h60⟩, if_neg ht]
        have hall : (((splitS (bl (ba t))).map ba).any fun b => !mayB b) = !((splitS t).map ba).all mayB := by
          rw [List.not_all_eq_any_not]; rfl
        refine ⟨_, rfl, br_intro (fun h => ?_) (fun h => ?_)⟩
        · rw [hall] at h
          refine ⟨⟨⟨none, 0, 0⟩, 7, rfl, ?_⟩, hle⟩
          rw [hsp, if_neg (by simpa using h)]
          exact ⟨rfl, rfl⟩
        · rw [hall] at h
          refine ⟨⟨x, 0, rfl, ?_⟩, hle⟩
          rw [hsp, if_pos (by simpa using h)]
          exact ⟨rfl, hx⟩
theorem pathJoin_ok {x : Sl} {l : List ByteArray} {V : View} (h : SlR V x l) (hl : (Lib.join (l.map bl) [47]).length ≤ 140737488355327) (hg : Glo V) : CallV Tryd.prog 67 ⟨[.slice x.a x.n x.c]⟩ V fun r V' => r = .string (joinP1 l) ∧ V.Le V' := by
  refine f67_x ?_
  unfold f67_n
  refine (strJoin_ok h hl).mono ?_
  rintro r V' ⟨rfl, rfl⟩
  refine ⟨_, rfl, by rw [ba_size]; omega, ?_⟩
  have e : ByteArray.mk #[47] ++ ba (Lib.join (l.map bl) [47]) = ba (47 :: Lib.join (l.map bl) [47]) := ba_append [47] _
  rw [e]
  refine (pathSplit_ok (by rw [ba_size]; simp; omega) hg).mono ?_
  rintro r V1 ⟨⟨y, n, rfl, hr⟩, hle⟩
  refine ⟨_, _, rfl, joinP_cut (fun s V2 => s.1 = !decide (splitP (ba (47 :: Lib.join (l.map bl) [47])) = some l) ∧ V'.Le V2) ?_ ?_⟩
  · unfold cur cur
    cases ho : splitP (ba (47 :: Lib.join (l.map bl) [47])) with
    | none =>
      rw [ho] at hr
      obtain ⟨rfl, rfl⟩ := hr
      simp [br, hle]
    | some m =>
      rw [ho] at hr
      obtain ⟨rfl, hy⟩ := hr
      simp only [decide_true, Bool.not_true, br_false]
      refine (equalS_ok hy (h.mono hle)).mono ?_
      rintro r V2 ⟨rfl, rfl⟩
      exact ⟨_, rfl, by simp, hle⟩
  · rintro ⟨b, ⟨⟩⟩ V2 ⟨hb, hle⟩
    simp only at hb
    subst hb
    unfold joinP1 unc unc
    by_cases hs : splitP (ba (47 :: Lib.join (l.map bl) [47])) = some l
    · simp [hs, hle]
    · simp [hs, hle]; rfl
theorem pathLast_ok {s : ByteArray} {V : View} (hs : s.size ≤ 9223372036854775807) (hg : Glo V) : CallV Tryd.prog 51 ⟨[.string s]⟩ V fun r V' => r = .tuple ⟨[.string (lastP s).1, .string (lastP s).2.1, .int .i64 (lastP s).2.2]⟩ ∧ V.Le V' := by
  refine f51_x ?_
  unfold f51_n
  refine (pathSplit_ok hs hg).mono ?_
  rintro r V1 ⟨⟨y, n, rfl, hr⟩, hle⟩
  refine ⟨_, _, rfl, ?_⟩
  unfold lastP
  cases ho : splitP s with
  | none =>
    rw [ho] at hr
    obtain ⟨rfl, rfl⟩ := hr
    simp [hle]; rfl
  | some l =>
    rw [ho] at hr
    obtain ⟨rfl, hy⟩ := hr
    have hn := hy.n; have hlim := hy.lim; have hc := hy.c
    simp only [decide_true, Bool.not_true, br_false]
    refine br_intro (fun h => ?_) (fun h => ?_)
    · have h : (y.n : Int) = 0 := by simpa using h
      have : l = [] := List.eq_nil_of_length_eq_zero (by omega)
      simp [this, hle]; rfl
    · have h : ¬ (y.n : Int) = 0 := by simpa using h
      have hne : l ≠ [] := fun e => by subst e; simp at hn; omega
      obtain ⟨ad, hx, ha, hcell, _⟩ := hy.str (x := (y.n : Int) - 1) (by omega) (by omega)
      refine ⟨inI64 (by omega) (by omega), trivial, V1, View.Le.refl _, by omega, by omega, by omega, by omega, by omega, ad, ha, _, hcell, ?_⟩
      have hsp := splitP_some ho
      have htl := hy.take (j := l.length - 1) (by omega)
      have e1 : ((y.n : Int) - 1).toNat - 0 = l.length - 1 := by omega
      have e2 : l.take (l.length - 1) = l.dropLast := (List.dropLast_eq_take).symm
      have e3 : (if y.c = 0 then y.a else Option.map (fun (x : Addr) => x.add 0) y.a) = y.a := by rw [map_add_zero]; simp
      rw [e1, e3, Nat.sub_zero]
      rw [e2] at htl
      have hjl : (Lib.join (l.dropLast.map bl) [47]).length ≤ 140737488355327 := by
        have h60 : (Lib.join (l.map bl) [47]).length ≤ 60 := by
          have := hsp.2.2
          have := congrArg List.length this
          rw [bl_len] at this
          simp at this
          omega
        have hl2 : l = l.dropLast ++ [l.getLast hne] := (List.dropLast_concat_getLast hne).symm
        by_cases hd : l.dropLast = []
        · rw [hd]; simp [Lib.join_nil]
        · rw [hl2, joinS_snoc _ _ hd] at h60
          simp only [List.length_append, List.length_cons] at h60
          omega
      refine (pathJoin_ok (x := ⟨y.a, l.length - 1, y.c⟩) htl hjl (hg.mono hle)).mono ?_
      rintro r V2 ⟨rfl, hle2⟩
      refine ⟨_, rfl, hle2, ?_, hle.trans hle2⟩
      rw [dif_neg hne]
      have e4 : l[((y.n : Int) - 1).toNat] = l.getLast hne := by
        rw [List.getLast_eq_getElem]
        congr 1 <;> omega
      simp only [e4]
end Go.Proofs.YtpalkdmngckcoaaDoor

/- Trees as plain data; how they lie in a view, and in what comes in. -/
namespace Go.Proofs.YtpalkdmngckcoaaDoor
open Go
structure Ent where
  name : ByteArray
  node : Int
  deriving DecidableEq
structure Nod where
  kind : Int
  links : Int
  size : Int
  seqs : List Int
  ents : List Ent
  deriving DecidableEq
abbrev Tre := List Nod
def Nod.zero : Nod := ⟨0, 0, 0, [], []⟩
instance : Inhabited Ent := ⟨⟨⟨#[]⟩, 0⟩⟩
instance : Inhabited Nod := ⟨Nod.zero⟩
structure Rf where
  page : Int
  seq : Int
  deriving DecidableEq
instance : Rep Ent where
  sz := 2
  pos := by decide
  rep _ vs x := vs = [.string x.name, .int .i64 x.node] ∧ x.name.size ≤ 9223372036854775807 ∧ inI .i64 x.node
  len h := by rw [h.1]; rfl
  one h := by rw [h.1]; rfl
  mono _ h := h
instance : Rep Rf where
  sz := 2
  pos := by decide
  rep _ vs x := vs = [.int .i64 x.page, .int .i64 x.seq] ∧ inI .i64 x.page ∧ inI .i64 x.seq
  len h := by rw [h.1]; rfl
  one h := by rw [h.1]; rfl
  mono _ h := h
instance : Rep Nod where
  sz := 5
  pos := by decide
  rep V vs x := ∃ s e : Sl, vs = [.int .i64 x.kind, .int .i64 x.links, .int .i64 x.size, .slice s.a s.n s.c, .slice e.a e.n e.c] ∧ inI .i64 x.kind ∧ inI .i64 x.links ∧ inI .i64 x.size ∧ SlR V s x.seqs ∧ SlR V e x.ents
  len h := by obtain ⟨s, e, h, _⟩ := h; rw [h]; rfl
  one h := by obtain ⟨s, e, h, _⟩ := h; rw [h]; rfl
  mono hV h := let ⟨s, e, h, a, b, c, d, f⟩ := h; ⟨s, e, h, a, b, c, d.mono hV, f.mono hV⟩
theorem SlR.ent {V : View} {s : Sl} {l : List Ent} (h : SlR V s l) {x : Int} (h0 : 0 ≤ x) (h1 : x < s.n) :
    ∃ ad, ∃ hx : x.toNat < l.length, s.a = some ad ∧ cellsAt V (ad.add (x.toNat * 2)) [.string l[x.toNat].name, .int .i64 l[x.toNat].node] ∧ l[x.toNat].name.size ≤ 9223372036854775807 ∧ inI .i64 l[x.toNat].node := by
  obtain ⟨ad, vs, hx, ha, hc, rfl, hi⟩ := h.ld h0 h1
  exact ⟨ad, hx, ha, hc, hi⟩
theorem SlR.rf {V : View} {s : Sl} {l : List Rf} (h : SlR V s l) {x : Int} (h0 : 0 ≤ x) (h1 : x < s.n) :
    ∃ ad, ∃ hx : x.toNat < l.length, s.a = some ad ∧ cellsAt V (ad.add (x.toNat * 2)) [.int .i64 l[x.toNat].page, .int .i64 l[x.toNat].seq] ∧ inI .i64 l[x.toNat].page ∧ inI .i64 l[x.toNat].seq := by
  obtain ⟨ad, vs, hx, ha, hc, rfl, hi⟩ := h.ld h0 h1
  exact ⟨ad, hx, ha, hc, hi⟩
/-- A node's cells: two rows besides three numbers. -/
structure NodR (V : View) (s e : Sl) (x : Nod) : Prop where
  kind : inI .i64 x.kind
  links : inI .i64 x.links
  size : inI .i64 x.size
  seqs : SlR V s x.seqs
  ents : SlR V e x.ents
theorem NodR.mono {V V' : View} {s e : Sl} {x : Nod} (hV : V.Le V') (h : NodR V s e x) : NodR V' s e x := ⟨h.kind, h.links, h.size, h.seqs.mono hV, h.ents.mono hV⟩
theorem NodR.rep {V : View} {s e : Sl} {x : Nod} (h : NodR V s e x) : Rep.rep V [.int .i64 x.kind, .int .i64 x.links, .int .i64 x.size, .slice s.a s.n s.c, .slice e.a e.n e.c] x := ⟨s, e, rfl, h.kind, h.links, h.size, h.seqs, h.ents⟩
theorem SlR.nod {V : View} {s : Sl} {l : List Nod} (h : SlR V s l) {x : Int} (h0 : 0 ≤ x) (h1 : x < s.n) :
    ∃ ad sq en, ∃ hx : x.toNat < l.length, s.a = some ad ∧ cellsAt V (ad.add (x.toNat * 5)) [.int .i64 l[x.toNat].kind, .int .i64 l[x.toNat].links, .int .i64 l[x.toNat].size, .slice sq.a sq.n sq.c, .slice en.a en.n en.c] ∧ NodR V sq en l[x.toNat] := by
  obtain ⟨ad, vs, hx, ha, hc, sq, en, rfl, h1, h2, h3, h4, h5⟩ := h.ld h0 h1
  exact ⟨ad, sq, en, hx, ha, hc, ⟨h1, h2, h3, h4, h5⟩⟩
theorem cellsAt_nth {V : View} {a : Addr} {vs : List Value} (h : cellsAt V a vs) (j : Nat) {v : Value} (hj : vs[j]? = some v) : V.cell? (a.add j) = some v := h j v hj

/-! ### what comes in -/
section
variable {H : Type} {enc : TypeId × Value → H} {P : Program} {w : World} {base : Nat} {sp : Nat → Bool} {held : Bool}
/-- Data of this type that come in are such data. -/
class TrodRep (P : Program) (α : Type) [Rep α] (t : TypeId) : Prop where
  of : ∀ {H : Type} {enc : TypeId × Value → H} {w : World} {base : Nat} {sp : Nat → Bool} {held : Bool} {fuel : Nat} {cs : List Value} {x : DataW H × List MemPlace}, DataW.trod enc P w base sp held fuel t cs = some x → ∃ d : α, Rep.rep (View.all w) cs d
theorem wf_int {k : IntKind} {n : Int} (h : (Lit.int k n).wf = true) : inI k n := by
  simpa [Lit.wf, inI] using h
theorem trodRep_int {t : TypeId} (ht : P.underlying t = some (.int .i64)) : TrodRep P Int t := ⟨fun h => by
  obtain ⟨n, hc, _, hw⟩ := DataW.trod_int ht h
  exact ⟨n, hc, wf_int hw⟩⟩
theorem trodRep_u8 {t : TypeId} (ht : P.underlying t = some (.int .u8)) : TrodRep P UInt8 t := ⟨fun h => by
  obtain ⟨n, hc, _, hw⟩ := DataW.trod_int ht h
  have h2 : 0 ≤ n ∧ n ≤ 255 := by simpa [Lit.wf, IntKind.min, IntKind.max, IntKind.signed, IntKind.bits] using hw
  refine ⟨UInt8.ofNat n.toNat, ?_⟩
  show _ = [Value.int .u8 (UInt8.ofNat n.toNat).toNat]
  rw [hc, UInt8.toNat_ofNat']
  congr 2
  omega⟩
theorem trodRep_string {t : TypeId} (ht : P.underlying t = some .string) : TrodRep P ByteArray t := ⟨fun h => by
  obtain ⟨s, hc, _, hw⟩ := DataW.trod_string ht h
  exact ⟨s, hc, hw⟩⟩
theorem cells_all {w : World} {b : Nat} {a : Addr} {n : Nat} {cs : List Value} (h : w.cells? b a n = some cs) : cs.length = n ∧ cellsAt (View.all w) a cs := by
  obtain ⟨_, hl, hc⟩ := World.cells?_some h
  refine ⟨hl, fun j v hj => ?_⟩
  have hjn : j < n := by rw [← hl]; exact (List.getElem?_eq_some_iff.1 hj).1
  have := hc j hjn
  rw [hj] at this
  exact this
theorem trodRep_slice {α : Type} [Rep α] {t e : TypeId} (ht : P.underlying t = some (.slice e)) (hs : P.cellsOf e = Rep.sz α) (he : TrodRep P α e) : TrodRep P (List α) t := ⟨fun {H enc w base sp held fuel cs x} h => by
  rcases DataW.trod_slice ht h with ⟨rfl, _⟩ | ⟨a, len, cap, elems, rest, n, _, rfl, _, _, hlc, hcm, hel, hget, _, _⟩
  · exact ⟨[], ⟨none, 0, 0⟩, rfl, SlR.nil _ _ _⟩
  have hex : ∀ i : Fin len, ∃ d : α, ∃ vs, cellsAt (View.all w) (a.add (i.val * Rep.sz α)) vs ∧ Rep.rep (View.all w) vs d := by
    intro i
    have := hget i.val i.isLt
    rw [List.getElem?_eq_getElem (by rw [hel]; exact i.isLt), Option.bind_eq_some_iff] at this
    obtain ⟨cs, hc, hy⟩ := this
    obtain ⟨d, hd⟩ := he.of hy
    rw [hs] at hc
    exact ⟨d, cs, (cells_all hc).2, hd⟩
  refine ⟨List.ofFn fun i => Classical.choose (hex i), ⟨some a, len, cap⟩, rfl, by simp, hlc, ?_, fun i hi => ?_⟩
  · have : cap ≤ 9223372036854775807 := hcm
    show len ≤ _; omega
  · have hi' : i < len := by simpa using hi
    obtain ⟨vs, h1, h2⟩ := Classical.choose_spec (hex ⟨i, hi'⟩)
    exact ⟨a, vs, rfl, h1, by rw [List.getElem_ofFn]; exact h2⟩⟩
theorem trod_field {t : TypeId} {i o : Nat} {ft : TypeId} {fuel : Nat} {cs : List Value} {x : DataW H × List MemPlace} (hf : fieldX P t i = some (o, ft)) (h : DataW.trod enc P w base sp held fuel t cs = some x) :
    cs.length = P.cellsOf t ∧ ∃ n y, DataW.trod enc P w base sp held n ft ((cs.drop o).take (P.cellsOf ft)) = some y := by
  obtain ⟨fs, fd, hu, hfd, rfl, rfl⟩ := fieldX_spec hf
  obtain ⟨xs, n, _, _, hl, hxl, hget⟩ := DataW.trod_struct hu h
  have := hget i fd hfd
  have hi : i < xs.length := by rw [hxl]; exact (Array.getElem?_eq_some_iff.1 hfd).1
  rw [List.getElem?_eq_getElem hi] at this
  exact ⟨hl, n, _, this⟩
theorem trodRep_ent {t ts ti : TypeId} (h0 : fieldX P t 0 = some (0, ts)) (h1 : fieldX P t 1 = some (1, ti)) (hc : P.cellsOf t = 2) (hcs : P.cellsOf ts = 1) (hci : P.cellsOf ti = 1)
    (hs : P.underlying ts = some .string) (hi : P.underlying ti = some (.int .i64)) : TrodRep P Ent t := ⟨fun {H enc w base sp held fuel cs x} h => by
  obtain ⟨hl, n0, y0, g0⟩ := trod_field h0 h
  obtain ⟨_, n1, y1, g1⟩ := trod_field h1 h
  rw [hc] at hl
  match cs, hl with
  | [a, b], _ =>
    rw [hcs] at g0; rw [hci] at g1
    obtain ⟨s, e0, w0⟩ := (trodRep_string hs).of g0
    obtain ⟨m, e1, w1⟩ := (trodRep_int hi).of g1
    simp at e0 e1
    exact ⟨⟨s, m⟩, by rw [e0, e1], w0, w1⟩⟩
theorem trodRep_nod {t ti tq te : TypeId} (h0 : fieldX P t 0 = some (0, ti)) (h1 : fieldX P t 1 = some (1, ti)) (h2 : fieldX P t 2 = some (2, ti)) (h3 : fieldX P t 3 = some (3, tq)) (h4 : fieldX P t 4 = some (4, te))
    (hc : P.cellsOf t = 5) (hci : P.cellsOf ti = 1) (hcq : P.cellsOf tq = 1) (hce : P.cellsOf te = 1) (hi : P.underlying ti = some (.int .i64)) (hq : TrodRep P (List Int) tq) (he : TrodRep P (List Ent) te) : TrodRep P Nod t := ⟨fun {H enc w base sp held fuel cs x} h => by
  obtain ⟨hl, n0, y0, g0⟩ := trod_field h0 h
  obtain ⟨_, n1, y1, g1⟩ := trod_field h1 h
  obtain ⟨_, n2, y2, g2⟩ := trod_field h2 h
  obtain ⟨_, n3, y3, g3⟩ := trod_field h3 h
  obtain ⟨_, n4, y4, g4⟩ := trod_field h4 h
  rw [hc] at hl
  match cs, hl with
  | [a, b, c, d, e], _ =>
    rw [hci] at g0 g1 g2
    rw [hcq] at g3
    rw [hce] at g4
    obtain ⟨m0, e0, w0⟩ := (trodRep_int hi).of g0
    obtain ⟨m1, e1, w1⟩ := (trodRep_int hi).of g1
    obtain ⟨m2, e2, w2⟩ := (trodRep_int hi).of g2
    obtain ⟨l3, s3, e3, w3⟩ := hq.of g3
    obtain ⟨l4, s4, e4, w4⟩ := he.of g4
    simp at e0 e1 e2 e3 e4
    exact ⟨⟨m0, m1, m2, l3, l4⟩, s3, s4, by rw [e0, e1, e2, e3, e4], w0, w1, w2, w3, w4⟩⟩
end
/-! ### this program's types -/
theorem bytesIn : TrodRep Tryd.prog (List UInt8) 72 := trodRep_slice (e := 5) Tryd.underlying72 (by kernel_rfl) (trodRep_u8 Tryd.underlying5)
theorem entIn : TrodRep Tryd.prog Ent 39 := trodRep_ent (ts := 9) (ti := 3) (by kernel_rfl) (by kernel_rfl) (by kernel_rfl) (by kernel_rfl) (by kernel_rfl) Tryd.underlying9 Tryd.underlying3
theorem intsIn : TrodRep Tryd.prog (List Int) 28 := trodRep_slice (e := 3) Tryd.underlying28 (by kernel_rfl) (trodRep_int Tryd.underlying3)
theorem entsIn : TrodRep Tryd.prog (List Ent) 29 := trodRep_slice (e := 39) Tryd.underlying29 (by kernel_rfl) entIn
theorem nodIn : TrodRep Tryd.prog Nod 31 := trodRep_nod (ti := 3) (tq := 28) (te := 29) (by kernel_rfl) (by kernel_rfl) (by kernel_rfl) (by kernel_rfl) (by kernel_rfl) (by kernel_rfl) (by kernel_rfl) (by kernel_rfl) (by kernel_rfl) Tryd.underlying3 intsIn entsIn
theorem nodsIn : TrodRep Tryd.prog (List Nod) 22 := trodRep_slice (e := 31) Tryd.underlying22 (by kernel_rfl) nodIn
end Go.Proofs.YtpalkdmngckcoaaDoor

/- Trees that may be: plain functions. No program in this text. -/
namespace Go.Proofs.YtpalkdmngckcoaaDoor
open Go
theorem getD_at {α : Type} [Inhabited α] {l : List α} {i : Nat} (h : i < l.length) : l.getD i default = l[i] := by
  rw [List.getD_eq_getElem?_getD, List.getElem?_eq_getElem h]; rfl
theorem getD_at0 {l : List Int} {i : Nat} (h : i < l.length) : l.getD i 0 = l[i] := by
  rw [List.getD_eq_getElem?_getD, List.getElem?_eq_getElem h]; rfl
def soleE (x : Ent) : Bool := mayB x.name && decide (1 ≤ x.node) && decide (x.node < 12)
def okE (l : List Ent) (i : Nat) : Bool := soleE (l.getD i default) && (decide (i = 0) || sLess (l.getD (i - 1) default).name (l.getD i default).name)
/-- May a directory's entries be? -/
def mayL (l : List Ent) : Bool := (List.range l.length).all (okE l) && decide (l.length ≤ 10)
def within (n m : Int) : Bool := decide (0 ≤ n) && decide (n ≤ m)
def okS (size : Int) (l : List Int) (i : Nat) : Bool := within (l.getD i 0) 1099511627776 && !(decide (size ≤ i * 16) && !decide (l.getD i 0 = 0))
def fileB (n : Nod) : Bool := within n.links 120 && within n.size 80 && decide (n.seqs.length = 5) && decide (n.ents.length = 0) && (List.range n.seqs.length).all (okS n.size n.seqs)
/-- May a node be? -/
def mayN (n : Nod) : Bool :=
  if n.kind = 0 then decide (n.links = 0) && decide (n.size = 0) && decide (n.seqs.length = 0) && decide (n.ents.length = 0)
  else if n.kind = 1 then fileB n
  else if n.kind = 2 then decide (n.links = 1) && decide (n.size = 0) && decide (n.seqs.length = 0) && mayL n.ents
  else false
/-- How many entries name each node. -/
def cnt (n : Nat) (es : List Ent) : List Int := (List.range n).map fun (j : Nat) => ((es.countP (fun (x : Ent) => decide (x.node = (j : Int))) : Nat) : Int)
def allE (t : Tre) : List Ent := t.flatMap Nod.ents
/-- Which nodes one comes to. -/
inductive Reach (t : Tre) (a : Nat) : Nat → Prop where
  | refl : Reach t a a
  | step {i : Nat} {x : Ent} (h : Reach t a i) (hx : x ∈ (t.getD i default).ents) : Reach t a x.node.toNat
open Classical in
noncomputable def metB (t : Tre) (a j : Nat) : Bool := decide (Reach t a j)
theorem metB_iff {t : Tre} {a j : Nat} : metB t a j = true ↔ Reach t a j := by simp [metB]
def hangB (n : Nod) (i named : Int) (met : Bool) : Bool :=
  if n.kind = 2 then met && (decide (i = 0) || decide (named = 1)) else if n.kind = 1 then decide (n.links = named) else decide (named = 0)
/-- Does no writing stand twice? -/
def apartL (l : List Int) : Bool := decide ((l.filter fun s => decide (s ≠ 0)).Nodup)
def allS (t : Tre) : List Int := t.flatMap Nod.seqs
/-- May a tree be? -/
noncomputable def mayT (t : Tre) : Bool :=
  decide (t.length = 12) && t.all mayN && decide ((t.getD 0 default).kind = 2) && (List.range 12).all (fun i => hangB (t.getD i default) i ((cnt 12 (allE t)).getD i 0) (metB t 0 i)) && apartL (allS t)
theorem mayL_len {l : List Ent} (h : mayL l = true) : l.length ≤ 10 := by
  unfold mayL at h; simp at h; exact h.2
theorem mayL_node {l : List Ent} (h : mayL l = true) {x : Ent} (hx : x ∈ l) : 1 ≤ x.node ∧ x.node < 12 ∧ mayB x.name = true := by
  unfold mayL at h
  simp only [Bool.and_eq_true, List.all_eq_true, List.mem_range] at h
  obtain ⟨i, hi, rfl⟩ := List.getElem_of_mem hx
  have := h.1 i hi
  unfold okE soleE at this
  rw [List.getD_eq_getElem?_getD, List.getElem?_eq_getElem hi] at this
  simp at this
  exact ⟨this.1.1.2, this.1.2, this.1.1.1⟩
theorem mayN_ents {n : Nod} (h : mayN n = true) : mayL n.ents = true := by
  have nil : n.ents.length = 0 → mayL n.ents = true := fun h => by
    rw [List.length_eq_zero_iff] at h
    rw [h]; rfl
  unfold mayN at h
  split at h
  · simp at h; exact nil (by simp [h])
  · split at h
    · unfold fileB at h; simp at h; exact nil (by simp [h])
    · split at h
      · simp at h; exact h.2
      · cases h
end Go.Proofs.YtpalkdmngckcoaaDoor

/- Contracts of what tells whether nodes may be. -/
namespace Go.Proofs.YtpalkdmngckcoaaDoor
open Go
theorem dec_not {p q : Prop} [Decidable p] [Decidable q] (h : p ↔ ¬ q) : decide p = !decide q := by
  by_cases hq : q <;> simp [h, hq]
theorem not_t {b : Bool} (h : (!b) = true) : b = false := by cases b <;> simp_all
theorem not_f {b : Bool} (h : (!b) = false) : b = true := by cases b <;> simp_all
theorem SlR.entN {V : View} {s : Sl} {l : List Ent} (h : SlR V s l) {i : Nat} (hi : i < l.length) :
    ∃ ad, s.a = some ad ∧ cellsAt V (ad.add (i * 2)) [.string (l.getD i default).name, .int .i64 (l.getD i default).node] ∧ (l.getD i default).name.size ≤ 9223372036854775807 ∧ inI .i64 (l.getD i default).node := by
  obtain ⟨ad, hx, ha, hc, h1, h2⟩ := h.ent (x := (i : Int)) (by omega) (by have := h.n; omega)
  rw [getD_at hi]
  exact ⟨ad, ha, hc, h1, h2⟩
theorem SlR.intN {V : View} {s : Sl} {l : List Int} (h : SlR V s l) {i : Nat} (hi : i < l.length) :
    ∃ ad, s.a = some ad ∧ V.cell? (ad.add (i * 1)) = some (.int .i64 (l.getD i 0)) ∧ inI .i64 (l.getD i 0) := by
  obtain ⟨ad, hx, ha, hc, h1⟩ := h.int (x := (i : Int)) (by omega) (by have := h.n; omega)
  rw [getD_at0 hi]
  exact ⟨ad, ha, hc, h1⟩
theorem SlR.nodN {V : View} {s : Sl} {l : List Nod} (h : SlR V s l) {i : Nat} (hi : i < l.length) :
    ∃ ad sq en, s.a = some ad ∧ cellsAt V (ad.add (i * 5)) [.int .i64 (l.getD i default).kind, .int .i64 (l.getD i default).links, .int .i64 (l.getD i default).size, .slice sq.a sq.n sq.c, .slice en.a en.n en.c] ∧ NodR V sq en (l.getD i default) := by
  obtain ⟨ad, sq, en, hx, ha, hc, h1⟩ := h.nod (x := (i : Int)) (by omega) (by have := h.n; omega)
  rw [getD_at hi]
  exact ⟨ad, sq, en, ha, hc, h1⟩
theorem all_step {P : Nat → Bool} {i : Nat} (h : (List.range i).all P = true) (hp : P i = true) : (List.range (i + 1)).all P = true := by
  rw [List.range_succ, List.all_append, h]; simp [hp]
theorem all_stop {P : Nat → Bool} {i n : Nat} (h : i < n) (hp : P i = false) : (List.range n).all P = false := by
  rw [List.all_eq_false]
  exact ⟨i, List.mem_range.2 h, by simp [hp]⟩
/-- A node as an argument. -/
def nodV (n : Nod) (s e : Sl) : Value := .agg ⟨[.int .i64 n.kind, .int .i64 n.links, .int .i64 n.size, .slice s.a s.n s.c, .slice e.a e.n e.c]⟩
def entV (x : Ent) : Value := .agg ⟨[.string x.name, .int .i64 x.node]⟩
def treV (s : Sl) : Value := .agg ⟨[.slice s.a s.n s.c]⟩
theorem within_ok {a b : Int} {V : View} : CallV Tryd.prog 80 ⟨[.int .i64 a, .int .i64 b]⟩ V fun r V' => r = .bool (within a b) ∧ V' = V := by
  refine f80_x ?_
  unfold f80_n
  refine ⟨?_, rfl⟩
  unfold within
  cases decide (0 ≤ a) <;> rfl
theorem sole_ok {x : Ent} {V : View} (hx : x.name.size ≤ 9223372036854775807) : CallV Tryd.prog 82 ⟨[entV x]⟩ V fun r V' => r = .bool (soleE x) ∧ V' = V := by
  refine f82_x ?_
  unfold f82_n
  refine fun _ => (pathMay_ok hx).mono ?_
  rintro r V' ⟨rfl, rfl⟩
  refine ⟨_, rfl, ?_, rfl⟩
  unfold soleE
  cases mayB x.name <;> cases decide (1 ≤ x.node) <;> rfl
theorem mayL_ok {s : Sl} {l : List Ent} {V : View} (h : SlR V s l) : CallV Tryd.prog 65 ⟨[.slice s.a s.n s.c]⟩ V fun r V' => r = .bool (mayL l) ∧ V' = V := by
  refine f65_x ?_
  unfold f65_n
  have hn := h.n; have hc := h.c; have hm := h.lim
  refine loop1 (k := .int .i64) (fun (x : Int) V' => V' = V ∧ ∃ i : Nat, x = i ∧ i ≤ l.length ∧ (List.range i).all (okE l) = true) (fun (x : Int) _ => s.n - x.toNat) ⟨rfl, 0, rfl, by omega, rfl⟩ ?_
  rintro (x : Int) V' ⟨rfl, i, rfl, hi, hall⟩
  refine br_intro (fun hlt => ?_) (fun hge => ?_)
  · have hlt : i < l.length := by have := of_decide_eq_true hlt; omega
    obtain ⟨ad, ha, hcell, hsz, hin⟩ := h.entN hlt
    refine ⟨by omega, by omega, ad, ha, _, _, hcell, fun _ => ?_⟩
    refine joinP_cut (fun q V1 => q.1 = (!okE l i) ∧ V1 = V') ⟨trivial, V', View.Le.refl _, (sole_ok (x := l.getD i default) hsz).mono ?_⟩ ?_
    · rintro r V1 ⟨rfl, rfl⟩
      refine ⟨_, rfl, View.Le.refl _, V1, View.Le.refl _, View.Le.refl _, br_intro (fun hs => ⟨?_, rfl⟩) (fun hs => br_intro (fun h0 => ?_) (fun h0 => ⟨?_, rfl⟩))⟩
      · have hs : soleE (l.getD i default) = false := by simpa using hs
        unfold okE; rw [hs]; rfl
      · have h0 : 0 < i := by have := of_decide_eq_true h0; omega
        have hs : soleE (l.getD i default) = true := by simpa using hs
        obtain ⟨j, rfl⟩ : ∃ j, i = j + 1 := ⟨i - 1, by omega⟩
        obtain ⟨ad2, ha2, hcell2, _, _⟩ := h.entN (i := j) (by omega)
        have e1 : (((j + 1 : Nat) : Int) - 1).toNat = j := by omega
        refine ⟨inI64 (by omega) (by omega), by omega, by omega, ad2, ha2, (l.getD j default).name, ?_, ?_, rfl⟩
        · rw [e1]; exact cellsAt_nth hcell2 0 rfl
        · unfold okE; rw [hs]; simp
      · have h0 : i = 0 := by have := of_decide_eq_false h0; omega
        have hs : soleE (l.getD i default) = true := by simpa using hs
        unfold okE; rw [hs, h0]; rfl
    · rintro ⟨q, ⟨⟩⟩ V1 ⟨h1, hV⟩
      simp only at h1 hV
      subst h1 hV
      dsimp only [unc]
      refine br_intro (fun hb => ⟨?_, rfl⟩) (fun hb => ⟨inI64 (by omega) (by omega), ⟨rfl, i + 1, by omega, by omega, all_step hall (by simpa using hb)⟩, by omega⟩)
      unfold mayL
      rw [all_stop hlt (by simpa using hb)]; rfl
  · have hge : i = l.length := by have := of_decide_eq_false hge; omega
    subst hge
    refine ⟨?_, rfl⟩
    unfold mayL
    rw [hall, hn, Bool.true_and]
    congr 1
    exact decide_eq_decide.2 (by omega)
theorem fileB_ok {n : Nod} {s e : Sl} {V : View} (h : NodR V s e n) : CallV Tryd.prog 64 ⟨[nodV n s e]⟩ V fun r V' => r = .bool (fileB n) ∧ V' = V := by
  refine f64_x ?_
  unfold f64_n
  have hsn := h.seqs.n; have hen := h.ents.n
  refine fun _ => joinP_cut (fun q V1 => q.1 = !(within n.links 120 && within n.size 80 && decide (n.seqs.length = 5) && decide (n.ents.length = 0)) ∧ V1 = V) (within_ok.mono ?_) ?_
  · rintro r V1 ⟨rfl, rfl⟩
    refine ⟨_, rfl, br_intro (fun h1 => ⟨?_, rfl⟩) (fun h1 => within_ok.mono ?_)⟩
    · have h1 : within n.links 120 = false := by simpa using h1
      rw [h1]; rfl
    · have h1 : within n.links 120 = true := by simpa using h1
      rintro r V2 ⟨rfl, rfl⟩
      refine ⟨_, rfl, ?_, rfl⟩
      rw [h1, hsn, hen]
      have e1 : decide (((n.seqs.length : Nat) : Int) = 5) = decide (n.seqs.length = 5) := decide_eq_decide.2 (by omega)
      have e2 : decide ((0 : Int) < ((n.ents.length : Nat) : Int)) = !decide (n.ents.length = 0) := dec_not (by omega)
      rw [e1, e2]
      cases within n.size 80 <;> cases decide (n.seqs.length = 5) <;> cases decide (n.ents.length = 0) <;> rfl
  · rintro ⟨q, ⟨⟩⟩ V1 ⟨h1, hV⟩
    simp only at h1 hV
    subst h1 hV
    dsimp only [unc]
    refine br_intro (fun hb => ⟨?_, rfl⟩) (fun hb => ?_)
    · have hb : (within n.links 120 && within n.size 80 && decide (n.seqs.length = 5) && decide (n.ents.length = 0)) = false := not_t hb
      unfold fileB; rw [hb]; rfl
    · have hb : (within n.links 120 && within n.size 80 && decide (n.seqs.length = 5) && decide (n.ents.length = 0)) = true := not_f hb
      have h5 : n.seqs.length = 5 := by simp at hb; exact hb.1.2
      refine loop1 (k := .int .i64) (fun (x : Int) V' => V' = V1 ∧ ∃ i : Nat, x = i ∧ i ≤ n.seqs.length ∧ (List.range i).all (okS n.size n.seqs) = true) (fun (x : Int) _ => s.n - x.toNat) ⟨rfl, 0, rfl, by omega, rfl⟩ ?_
      rintro (x : Int) V' ⟨rfl, i, rfl, hi, hall⟩
      refine br_intro (fun hlt => ?_) (fun hge => ?_)
      · have hlt : i < n.seqs.length := by have := of_decide_eq_true hlt; omega
        obtain ⟨ad, ha, hcell, hin⟩ := h.seqs.intN hlt
        refine ⟨by omega, by omega, ad, ha, _, hcell, ?_⟩
        refine joinP_cut (fun q V1 => q.1 = (!okS n.size n.seqs i) ∧ V1 = V') (within_ok.mono ?_) ?_
        · rintro r V2 ⟨rfl, rfl⟩
          refine ⟨_, rfl, br_intro (fun h1 => ⟨?_, rfl⟩) (fun h1 => ⟨inI64 (by omega) (by omega), ?_, rfl⟩)⟩
          · have h1 : within (n.seqs.getD i 0) 1099511627776 = false := by simpa using h1
            unfold okS; rw [h1]; rfl
          · have h1 : within (n.seqs.getD i 0) 1099511627776 = true := by simpa using h1
            unfold okS; rw [h1]
            cases decide (n.size ≤ (i : Int) * 16) <;> cases decide (n.seqs.getD i 0 = 0) <;> rfl
        · rintro ⟨q, ⟨⟩⟩ V2 ⟨h1, hV⟩
          simp only at h1 hV
          subst h1 hV
          dsimp only [unc]
          refine br_intro (fun hq => ⟨?_, rfl⟩) (fun hq => ⟨inI64 (by omega) (by omega), ⟨rfl, i + 1, by omega, by omega, all_step hall (by simpa using hq)⟩, by omega⟩)
          unfold fileB
          rw [all_stop hlt (by simpa using hq), Bool.and_false]
      · have hge : i = n.seqs.length := by have := of_decide_eq_false hge; omega
        subst hge
        refine ⟨?_, rfl⟩
        unfold fileB; rw [hb, hall]; rfl
theorem mayN_ok {n : Nod} {s e : Sl} {V : View} (h : NodR V s e n) : CallV Tryd.prog 44 ⟨[nodV n s e]⟩ V fun r V' => r = .bool (mayN n) ∧ V' = V := by
  refine f44_x ?_
  unfold f44_n
  have hsn := h.seqs.n; have hen := h.ents.n
  have e1 : decide (((s.n : Nat) : Int) = 0) = decide (n.seqs.length = 0) := decide_eq_decide.2 (by omega)
  have e2 : decide (((e.n : Nat) : Int) = 0) = decide (n.ents.length = 0) := decide_eq_decide.2 (by omega)
  rw [e1, e2]
  refine fun _ => br_intro (fun h0 => ⟨?_, rfl⟩) (fun h0 => br_intro (fun h1 => (fileB_ok h).mono ?_) (fun h1 => br_intro (fun h2 => ?_) (fun h2 => ⟨?_, rfl⟩)))
  · have h0 : n.kind = 0 := of_decide_eq_true h0
    unfold mayN; rw [if_pos h0]
    cases decide (n.links = 0) <;> cases decide (n.size = 0) <;> cases decide (n.seqs.length = 0) <;> rfl
  · have h0 : ¬ n.kind = 0 := of_decide_eq_false h0
    have h1 : n.kind = 1 := of_decide_eq_true h1
    rintro r V1 ⟨rfl, rfl⟩
    refine ⟨_, rfl, ?_, rfl⟩
    unfold mayN; rw [if_neg h0, if_pos h1]
  · have h0 : ¬ n.kind = 0 := of_decide_eq_false h0
    have h1 : ¬ n.kind = 1 := of_decide_eq_false h1
    have h2 : n.kind = 2 := of_decide_eq_true h2
    have hm : mayN n = (decide (n.links = 1) && decide (n.size = 0) && decide (n.seqs.length = 0) && mayL n.ents) := by unfold mayN; rw [if_neg h0, if_neg h1, if_pos h2]
    refine joinP_cut (fun q V1 => q.1 = mayN n ∧ V1 = V) (br_intro (fun hb => (mayL_ok h.ents).mono ?_) (fun hb => ⟨?_, rfl⟩)) ?_
    · rintro r V1 ⟨rfl, rfl⟩
      refine ⟨_, rfl, ?_, rfl⟩
      rw [hm]
      cases hA : decide (n.links = 1) <;> cases hB : decide (n.size = 0) <;> cases hC : decide (n.seqs.length = 0) <;> simp_all
    · rw [hm]
      cases hA : decide (n.links = 1) <;> cases hB : decide (n.size = 0) <;> cases hC : decide (n.seqs.length = 0) <;> simp_all
    · rintro ⟨q, ⟨⟩⟩ V1 ⟨h1, hV⟩
      simp only at h1 hV
      subst h1 hV
      exact ⟨rfl, rfl⟩
  · have h0 : ¬ n.kind = 0 := of_decide_eq_false h0
    have h1 : ¬ n.kind = 1 := of_decide_eq_false h1
    have h2 : ¬ n.kind = 2 := of_decide_eq_false h2
    unfold mayN; rw [if_neg h0, if_neg h1, if_neg h2]
end Go.Proofs.YtpalkdmngckcoaaDoor

/- Rows that grow beside other blocks that are this call's own. -/
namespace Go.Proofs.YtpalkdmngckcoaaDoor
open Go
theorem hide_mono {V V' : View} (h : V.Le V') (p : Nat) : (V.hide p).Le (V'.hide p) := by
  refine ⟨h.size, fun i o ho => ?_, h.out⟩
  unfold View.hide at *
  simp only at *
  split at ho
  · cases ho
  · rename_i hne; rw [if_neg hne]; exact h.see i o ho
theorem hide_see (V : View) (p i : Nat) : (V.hide p).see i = if i = p then none else V.see i := rfl
theorem hide_minus_see (V : View) (p : Nat) (x : Sl) (i : Nat) : ((V.hide p).minus x).see i = if i = p then none else (V.minus x).see i := by
  unfold View.minus
  split
  · rfl
  · simp only [hide_see]
    split <;> split <;> rfl
theorem minus_hide_le (V : View) (p : Nat) (x : Sl) : ((V.hide p).minus x).Le ((V.minus x).hide p) := by
  refine ⟨by unfold View.minus; split <;> exact Nat.le_refl _, fun i o ho => ?_, by unfold View.minus; split <;> rfl⟩
  rw [hide_minus_see] at ho
  rw [hide_see]; exact ho
theorem hide_minus_le (V : View) (p : Nat) (x : Sl) : ((V.minus x).hide p).Le ((V.hide p).minus x) := by
  refine ⟨by unfold View.minus; split <;> exact Nat.le_refl _, fun i o ho => ?_, by unfold View.minus; split <;> rfl⟩
  rw [hide_minus_see]
  rw [hide_see] at ho; exact ho
/-- A block beside a row of one's own is seen when that row is not. -/
theorem Buf.see_minus {V : View} {p : Nat} {o : Obj} {x : Sl} {e : TypeId} {sz : Nat} {cs : List Value} (h : Buf (V.hide p) x e sz cs) (ho : V.see p = some o) : (V.minus x).see p = some o := by
  unfold View.minus
  rcases h.own with ⟨ha, _⟩ | ⟨b, all, ha, hs, _⟩
  · rw [ha]; exact ho
  · rw [ha, hide_see]
    rw [hide_see] at hs
    split at hs
    · cases hs
    · rename_i hne; rw [if_neg (fun e => hne e.symm)]; exact ho
theorem Buf.hide {V : View} {p : Nat} {o : Obj} {x : Sl} {e : TypeId} {sz : Nat} {cs : List Value} (h : Buf V x e sz cs) (ho : (V.minus x).see p = some o) : Buf (V.hide p) x e sz cs := by
  refine ⟨h.len, h.le, h.lim, ?_⟩
  rcases h.own with h1 | ⟨b, all, ha, hs, h3⟩
  · exact .inl h1
  · refine .inr ⟨b, all, ha, ?_, h3⟩
    rw [hide_see]
    unfold View.minus at ho
    rw [ha, hide_see] at ho
    split at ho
    · cases ho
    · rename_i hne; rw [if_neg (fun e => hne e.symm)]; exact hs
theorem put_minus_le {V : View} {x : Sl} {r : Nat} {o : Obj} (h : V.see r = none) : (V.minus x).Le ((V.put r o).minus x) := minus_mono (View.put_le h) x
theorem Buf.put {V : View} {x : Sl} {e : TypeId} {sz : Nat} {cs : List Value} (h : Buf V x e sz cs) {r : Nat} {o : Obj} (hr : V.see r = none) : Buf (V.put r o) x e sz cs := h.mono (View.put_le hr)
/-- The first ones of a row of one's own. -/
theorem Buf.cut {V : View} {x : Sl} {e : TypeId} {sz : Nat} {cs : List Value} (h : Buf V x e sz cs) {k : Nat} (hk : k ≤ x.n) : Buf V ⟨x.a, k, x.c⟩ e sz (cs.take (k * sz)) := by
  have hle := Nat.mul_le_mul_right sz hk
  refine ⟨by simp only [List.length_take, h.len, Nat.min_eq_left hle], Nat.le_trans hk h.le, Nat.le_trans hk h.lim, ?_⟩
  rcases h.own with h1 | ⟨r, all, h1, h2, h3, h4⟩
  · exact .inl h1
  · refine .inr ⟨r, all, h1, h2, h3, ?_⟩
    rw [← h4, List.take_take, Nat.min_eq_left hle]
/-- What is appended, beside a block of one's own. -/
theorem apV_beside {V V0 : View} {p : Nat} {o : Obj} {e : TypeId} {sz bytes : Nat} {zero : List Value} {x : Sl} {y : Value} {C : Sl → View → Prop} {cs src : List Value} {m : Nat} (hz : zero.length = sz)
    (ho : V.see p = some o) (hb : Buf (V.hide p) x e sz cs) (hle : V0.Le ((V.hide p).minus x)) (hs : srcAt V sz zero y m src) (hl : src.length = m * sz) (h1 : src.all Value.oneCell' = true) (hm : (x.n + m) * bytes ≤ 140737488355328) (hm2 : x.n + m ≤ 140737488355328)
    (hC : ∀ s V', V'.see p = some o → Buf (V'.hide p) s e sz (cs ++ src) → V0.Le ((V'.hide p).minus s) → s.n = x.n + m → C s V') : apV V e sz bytes zero x y C := by
  refine apV_buf hz (hb.mono (View.hide_le V p)) hs hl h1 hm hm2 fun s V' hb' hn hle' => ?_
  have h2 := hle'.see _ _ (hb.see_minus ho)
  refine hC s V' ((View.minus_le V' s).see _ _ h2) (hb'.hide h2) ?_ hn
  exact hle.trans ((minus_hide_le V p x).trans ((hide_mono hle' p).trans (hide_minus_le V' p s)))
/-- A call that needs nothing of a row of one's own leaves it as it was. -/
theorem CallV.besideB {P : Program} {f : FuncId} {args : Array Value} {V : View} {x : Sl} {e : TypeId} {sz : Nat} {cs : List Value} {K : Value → View → Prop} (h : CallV P f args (V.minus x) K) (hb : Buf V x e sz cs) :
    CallV P f args V fun r V' => ∃ U', K r U' ∧ U'.Le (V'.minus x) ∧ Buf V' x e sz cs := by
  rcases hb.own with ⟨ha, hc⟩ | ⟨b, all, ha, hs, h3⟩
  · have e1 : V.minus x = V := by unfold View.minus; rw [ha]
    rw [e1] at h
    refine h.mono fun r V' hk => ⟨V', hk, ?_, ⟨hb.len, hb.le, hb.lim, .inl ⟨ha, hc⟩⟩⟩
    unfold View.minus; rw [ha]; exact View.Le.refl _
  · have e1 : V.minus x = V.hide b := by unfold View.minus; rw [ha]
    rw [e1] at h
    refine (CallV.frame (View.hide_le V b) h).mono ?_
    rintro r V' ⟨U', hk, hle, hrest⟩
    have hp : (V.hide b).see b = none := by simp [View.hide]
    obtain ⟨h4, h5⟩ := hrest b _ hp hs
    refine ⟨U', hk, ?_, ⟨hb.len, hb.le, hb.lim, .inr ⟨b, all, ha, h4, h3⟩⟩⟩
    have e2 : V'.minus x = V'.hide b := by unfold View.minus; rw [ha]
    rw [e2]
    refine ⟨hle.size, fun i o ho => ?_, hle.out⟩
    have hne : i ≠ b := fun e => by rw [e, h5] at ho; cases ho
    rw [hide_see, if_neg hne]; exact hle.see i o ho
theorem Buf.n_eq {α : Type} [Rep α] {W V : View} {x : Sl} {e : TypeId} {cs : List Value} {l : List α} (h : Buf V x e (Rep.sz α) cs) (hr : repL W cs l) : x.n = l.length :=
  Nat.eq_of_mul_eq_mul_right (Rep.pos (α := α)) (h.len.symm.trans hr.len)
/-- The cells of a new block, as a row. -/
theorem rowAt_new {V : View} {r : Nat} {cs : List Value} {e : TypeId} {f : Nat × Nat} (h : V.see r = some (.cells ⟨cs⟩ e f)) {k : Nat} (hk : cs.length = k) : rowAt V (some ⟨r, 0, none⟩) k cs :=
  ⟨hk, cellsAt_of_see h fun j v hj => by simpa using hj⟩
theorem put_le_hide {V U : View} {r : Nat} {o : Obj} (hr : V.see r = none) (h : U.Le V) : U.Le ((V.put r o).hide r) :=
  h.trans ⟨Nat.le_max_left _ _, fun i o' ho => by
    have hne : i ≠ r := fun e => by rw [e, hr] at ho; cases ho
    rw [hide_see, if_neg hne, View.see_put_ne V _ hne]; exact ho, rfl⟩
theorem minus_see_none {V : View} {x : Sl} {r : Nat} (h : V.see r = none) : (V.minus x).see r = none := by
  unfold View.minus; split
  · exact h
  · rw [hide_see]; split
    · rfl
    · exact h
end Go.Proofs.YtpalkdmngckcoaaDoor

/- Contracts: rows of nodes, names of nodes. -/
namespace Go.Proofs.YtpalkdmngckcoaaDoor
open Go
theorem indexFuncN_ok {p : Nod → Bool} {s : Sl} {l : List Nod} {V : View} {g : FuncId} {xs ys : List Value} (h : SlR V s l)
    (hp : ∀ n ∈ l, ∀ a b, NodR V a b n → CallV Tryd.prog g ⟨xs ++ [nodV n a b] ++ ys⟩ V fun r V' => r = .bool (p n) ∧ V' = V) :
    CallV Tryd.prog 34 ⟨[.slice s.a s.n s.c, .func (.func g) ⟨xs⟩ ⟨ys⟩]⟩ V fun r V' => r = .int .i64 (idxI p l) ∧ V' = V := by
  refine f34_x ?_
  unfold f34_n
  have hn := h.n; have hlim := h.lim
  refine loop1 (k := .int .i64) (fun (x : Int) V' => V' = V ∧ 0 ≤ x ∧ x ≤ s.n ∧ ∀ j (hj : j < l.length), (j : Int) < x → p l[j] = false) (fun (x : Int) _ => s.n - x.toNat) ⟨rfl, by omega, by omega, fun j _ hj => by omega⟩ ?_
  rintro (x : Int) V' ⟨rfl, h0, h1, h2⟩
  refine br_intro (fun hlt => ?_) (fun hge => ?_)
  · have hlt : x < s.n := by simpa using hlt
    obtain ⟨ad, sq, en, hx, ha, hc, hN⟩ := h.nod h0 hlt
    refine ⟨h0, hlt, ad, ha, _, _, _, sq, en, hc, (hp _ (List.getElem_mem hx) _ _ hN).mono ?_⟩
    rintro r V1 ⟨rfl, rfl⟩
    refine ⟨_, rfl, br_intro (fun hb => ⟨?_, rfl⟩) (fun hb => ⟨inI64 (by omega) (by omega), ⟨rfl, by omega, by omega, fun j hj hjx => ?_⟩, by omega⟩)⟩
    · rw [idxI_first p l x.toNat hx (fun j hj => h2 j (by omega) (by omega)) hb]
      congr 1; omega
    · by_cases e : (j : Int) < x
      · exact h2 j hj e
      · have : j = x.toNat := by omega
        subst this; exact hb
  · have hge : ¬ x < s.n := by simpa using hge
    refine ⟨?_, rfl⟩
    rw [idxI_none p l fun y hy => ?_]
    obtain ⟨j, hj, rfl⟩ := List.getElem_of_mem hy
    exact h2 j hj (by omega)
theorem containsFuncN_ok {p : Nod → Bool} {s : Sl} {l : List Nod} {V : View} {g : FuncId} {xs ys : List Value} (h : SlR V s l)
    (hp : ∀ n ∈ l, ∀ a b, NodR V a b n → CallV Tryd.prog g ⟨xs ++ [nodV n a b] ++ ys⟩ V fun r V' => r = .bool (p n) ∧ V' = V) :
    CallV Tryd.prog 42 ⟨[.slice s.a s.n s.c, .func (.func g) ⟨xs⟩ ⟨ys⟩]⟩ V fun r V' => r = .bool (l.any p) ∧ V' = V := by
  refine f42_x ?_
  unfold f42_n
  refine (indexFuncN_ok h hp).mono ?_
  rintro r V' ⟨rfl, rfl⟩
  refine ⟨_, rfl, ?_, rfl⟩
  congr 1
  rcases idxI_range p l with ⟨h1, h2⟩ | ⟨h1, h2, h3⟩
  · rw [h1, h2]; rfl
  · rw [h3]; simpa using h1
theorem may1_ok {n : Nod} {s e : Sl} {V : View} (h : NodR V s e n) : CallV Tryd.prog 43 ⟨[nodV n s e]⟩ V fun r V' => r = .bool (!mayN n) ∧ V' = V := by
  refine f43_x ?_
  unfold f43_n
  refine fun _ => (mayN_ok h).mono ?_
  rintro r V' ⟨rfl, rfl⟩
  exact ⟨_, rfl, rfl, rfl⟩
theorem hangs_ok {n : Nod} {s e : Sl} {i named : Int} {met : Bool} {V : View} : CallV Tryd.prog 46 ⟨[nodV n s e, .int .i64 i, .int .i64 named, .bool met]⟩ V fun r V' => r = .bool (hangB n i named met) ∧ V' = V := by
  refine f46_x ?_
  unfold f46_n
  refine fun _ => br_intro (fun h2 => ⟨?_, rfl⟩) (fun h2 => br_intro (fun h1 => ⟨?_, rfl⟩) (fun h1 => ⟨?_, rfl⟩))
  · have h2 : n.kind = 2 := of_decide_eq_true h2
    unfold hangB; rw [if_pos h2]
    cases met <;> cases decide (i = 0) <;> rfl
  · have h2 : ¬ n.kind = 2 := of_decide_eq_false h2
    have h1 : n.kind = 1 := of_decide_eq_true h1
    unfold hangB; rw [if_neg h2, if_pos h1]
  · have h2 : ¬ n.kind = 2 := of_decide_eq_false h2
    have h1 : ¬ n.kind = 1 := of_decide_eq_false h1
    unfold hangB; rw [if_neg h2, if_neg h1]
/-! ### rows of numbers that are one's own -/
def intsV (l : List Int) : List Value := l.map fun n => .int .i64 n
def boolsV (l : List Bool) : List Value := l.map fun b => .bool b
theorem putL_one (cs : List Value) (i : Nat) (v : Value) : putL cs i [v] = cs.set i v := rfl
theorem intsV_set (l : List Int) (i : Nat) (n : Int) : (intsV l).set i (.int .i64 n) = intsV (l.set i n) := by unfold intsV; rw [List.map_set]
theorem boolsV_set (l : List Bool) (i : Nat) (n : Bool) : (boolsV l).set i (.bool n) = boolsV (l.set i n) := by unfold boolsV; rw [List.map_set]
theorem rows_int {W : View} : ∀ {l : List Int}, (∀ n ∈ l, inI .i64 n) → repL W (intsV l) l
  | [], _ => rfl
  | n :: l, h => ⟨[.int .i64 n], intsV l, rfl, ⟨rfl, h n (by simp)⟩, rows_int fun m hm => h m (by simp [hm])⟩
theorem rows_bool {W : View} : ∀ {l : List Bool}, repL W (boolsV l) l
  | [] => rfl
  | n :: l => ⟨[.bool n], boolsV l, rfl, rfl, rows_bool⟩
theorem repL_intsV {W : View} : ∀ {cs : List Value} {l : List Int}, repL W cs l → cs = intsV l
  | _, [], h => h
  | _, n :: l, ⟨vs, us, e, h1, h2⟩ => by rw [e, h1.1, repL_intsV h2]; rfl
/-- All the cells of a block, as a row of data. -/
theorem slR_block {α : Type} [Rep α] {V W : View} {r : Nat} {cs : List Value} {te : TypeId} {l : List α} (h : V.see r = some (.cells ⟨cs⟩ te (0, 0))) (hr : repL W cs l) (hW : W.Le V) (hl : l.length ≤ 140737488355328) : SlR V ⟨some ⟨r, 0, none⟩, l.length, l.length⟩ l := by
  have hlen := hr.len
  exact Buf.slR (e := te) (cs := cs) ⟨hlen, Nat.le_refl _, hl, .inr ⟨r, cs, rfl, h, hlen, by rw [List.take_of_length_le (by rw [hlen]; exact Nat.le_refl _)]⟩⟩ hr hW
theorem cnt_len (n : Nat) (es : List Ent) : (cnt n es).length = n := by simp [cnt]
theorem cnt_get (n : Nat) (es : List Ent) {j : Nat} (h : j < n) : (cnt n es).getD j 0 = ((es.countP (fun (x : Ent) => decide (x.node = (j : Int))) : Nat) : Int) := by
  rw [List.getD_eq_getElem?_getD]; simp [cnt, h]
theorem cnt_get' (n : Nat) (es : List Ent) {j : Nat} (h : j < n) : (cnt n es)[j]? = some ((es.countP (fun (x : Ent) => decide (x.node = (j : Int))) : Nat) : Int) := by
  simp [cnt, h]
theorem cnt_out {n : Nat} {es : List Ent} {x : Ent} (h : ¬ (0 ≤ x.node ∧ x.node < n)) : cnt n (es ++ [x]) = cnt n es := by
  unfold cnt
  apply List.map_congr_left
  intro j hj
  have hj := List.mem_range.1 hj
  rw [List.countP_append]
  have : decide (x.node = (j : Int)) = false := decide_eq_false (by omega)
  simp [this]
theorem cnt_in {n : Nat} {es : List Ent} {x : Ent} {k : Nat} (h : x.node = k) (hk : k < n) : cnt n (es ++ [x]) = (cnt n es).set k ((cnt n es).getD k 0 + 1) := by
  apply List.ext_getElem?
  intro j
  by_cases hj : j < n
  · rw [cnt_get' n _ hj, List.getElem?_set]
    by_cases e : k = j
    · subst e
      rw [if_pos rfl, if_pos (by rw [cnt_len]; exact hk), cnt_get n es hk, List.countP_append]
      simp [h]
    · rw [if_neg e, cnt_get' n es hj, List.countP_append]
      have : decide (x.node = (j : Int)) = false := decide_eq_false (by omega)
      simp [this]
  · rw [List.getElem?_eq_none (by rw [cnt_len]; omega), List.getElem?_eq_none (by rw [List.length_set, cnt_len]; omega)]
theorem allE_take {t : Tre} {i : Nat} (h : i < t.length) : allE (t.take (i + 1)) = allE (t.take i) ++ (t.getD i default).ents := by
  unfold allE
  rw [List.take_add_one, List.getElem?_eq_getElem h, List.flatMap_append, getD_at h]
  simp
theorem allE_len : ∀ {t : Tre} {m : Nat}, (∀ n ∈ t, n.ents.length ≤ m) → (allE t).length ≤ m * t.length
  | [], _, _ => by simp [allE]
  | n :: t, m, h => by
    have h1 := allE_len (t := t) (m := m) fun k hk => h k (by simp [hk])
    have h2 := h n (by simp)
    have e : allE (n :: t) = n.ents ++ allE t := by simp [allE]
    rw [e, List.length_append, List.length_cons, Nat.mul_add]
    omega
theorem names_ok {s : Sl} {t : Tre} {V : View} (h : SlR V s t) (h12 : t.length = 12) (he : ∀ n ∈ t, n.ents.length ≤ 10) : CallV Tryd.prog 45 ⟨[treV s]⟩ V fun r V' => ∃ x : Sl, r = .slice x.a x.n x.c ∧ SlR V' x (cnt 12 (allE t)) ∧ V.Le V' := by
  refine f45_x ?_
  unfold f45_n
  have hn : s.n = 12 := by rw [h.n, h12]
  rw [hn]
  refine fun _ => ⟨by decide, by decide, by decide, by decide, fun r hr => ?_⟩
  have hfr : V.see r = none := View.see_none_of_ge hr
  refine loop1 (k := .int .i64) (fun (x : Int) V' => ∃ i : Nat, x = i ∧ i ≤ 12 ∧ V'.see r = some (.cells ⟨intsV (cnt 12 (allE (t.take i)))⟩ 3 (0, 0)) ∧ V.Le (V'.hide r)) (fun (x : Int) _ => 12 - x.toNat) ⟨0, rfl, by omega, View.see_put_same _ _ _, put_le_hide hfr (View.Le.refl _)⟩ ?_
  rintro (x : Int) V1 ⟨i, rfl, hi, hs1, hV1⟩
  have hV1' : V.Le V1 := hV1.trans (View.hide_le _ _)
  refine br_intro (fun hlt => ?_) (fun hge => ?_)
  · have hlt : i < 12 := by have := of_decide_eq_true hlt; omega
    obtain ⟨ad, sq, en, ha, hc, hN⟩ := h.nodN (i := i) (by omega)
    have hmem : t.getD i default ∈ t := by rw [getD_at (by omega)]; exact List.getElem_mem _
    have hle := he _ hmem
    have htk : (allE (t.take i)).length ≤ 10 * 12 := Nat.le_trans (allE_len fun n hn => he n (List.mem_of_mem_take hn)) (Nat.mul_le_mul_left _ (by simp; omega))
    refine ⟨by omega, by omega, ad, ha, _, _, _, sq, en, cellsAt_mono hV1' hc, fun _ => ?_⟩
    generalize hnd : t.getD i default = nd at *
    have hen := hN.ents.n
    refine loop1 (k := .int .i64) (fun (x : Int) V' => ∃ k : Nat, x = k ∧ k ≤ nd.ents.length ∧ V'.see r = some (.cells ⟨intsV (cnt 12 (allE (t.take i) ++ nd.ents.take k))⟩ 3 (0, 0)) ∧ V.Le (V'.hide r)) (fun (x : Int) _ => nd.ents.length - x.toNat) ⟨0, rfl, by omega, by simpa using hs1, hV1⟩ ?_
    rintro (x : Int) V2 ⟨k, rfl, hk, hs2, hV2⟩
    have hV2' : V.Le V2 := hV2.trans (View.hide_le _ _)
    refine br_intro (fun hlt => ?_) (fun hge => ?_)
    · have hlt : k < nd.ents.length := by have := of_decide_eq_true hlt; omega
      obtain ⟨ad, ha, hc, hsz, hin⟩ := (hN.ents.mono hV2').entN hlt
      refine ⟨by omega, by omega, ad, ha, _, _, hc, fun _ => ?_⟩
      have etk : nd.ents.take (k + 1) = nd.ents.take k ++ [nd.ents.getD k default] := by rw [List.take_add_one, List.getElem?_eq_getElem hlt, getD_at hlt]; rfl
      generalize hx : nd.ents.getD k default = x at *
      refine joinP_cut (fun _ V3 => V3.see r = some (.cells ⟨intsV (cnt 12 (allE (t.take i) ++ nd.ents.take (k + 1)))⟩ 3 (0, 0)) ∧ V.Le (V3.hide r)) (br_intro (fun hb => ?_) (fun hb => ?_)) ?_
      · have hb : 0 ≤ x.node ∧ x.node < 12 := by
          cases h1 : decide (0 ≤ x.node) <;> rw [h1] at hb
          · cases hb
          · exact ⟨of_decide_eq_true h1, by have := of_decide_eq_true hb; omega⟩
        obtain ⟨q, hq⟩ : ∃ q : Nat, x.node = q := ⟨x.node.toNat, by omega⟩
        have hq12 : q < 12 := by omega
        have hqs : (cnt 12 (allE (t.take i) ++ nd.ents.take k)).getD q 0 ≤ 130 ∧ 0 ≤ (cnt 12 (allE (t.take i) ++ nd.ents.take k)).getD q 0 := by
          rw [cnt_get 12 _ hq12]
          have := List.countP_le_length (p := fun (x : Ent) => decide (x.node = (q : Int))) (l := allE (t.take i) ++ nd.ents.take k)
          simp only [List.length_append, List.length_take] at this
          omega
        have eset := cnt_in (es := allE (t.take i) ++ nd.ents.take k) hq hq12
        rw [List.append_assoc, ← etk] at eset
        have hgc : V2.cell? (Addr.add ⟨r, 0, none⟩ (x.node.toNat * 1)) = some (.int .i64 ((cnt 12 (allE (t.take i) ++ nd.ents.take k)).getD q 0)) := by
          rw [hq, addr0_add]
          refine cell_of_see hs2 ?_
          rw [cnt_get 12 _ hq12]
          simp [intsV, cnt_get' 12 _ hq12]
        refine ⟨hb.1, by omega, _, rfl, _, hgc, inI64 (by omega) (by omega), hb.1, by omega, _, rfl, ?_, ?_, ?_⟩
        · rw [hq, addr0_add]
          exact canSet_of hs2 (show 0 + q * 1 + 1 ≤ _ by simp [intsV, cnt_len]; omega)
        · rw [hq, addr0_add, sets_see hs2, putL_one, View.see_put_same]
          simp only [Int.toNat_natCast, Nat.zero_add, Nat.mul_one]
          rw [intsV_set, ← eset]
        · rw [hq, addr0_add, sets_see hs2]
          exact hV2.trans (hide_le_put_hide r _)
      · have hb : ¬ (0 ≤ x.node ∧ x.node < 12) := by
          rintro ⟨h1, h2⟩
          rw [decide_eq_true h1] at hb
          have := of_decide_eq_false hb
          omega
        refine ⟨?_, hV2⟩
        rw [etk, ← List.append_assoc, cnt_out hb]; exact hs2
      · rintro ⟨⟩ V3 ⟨hs3, hV3⟩
        exact ⟨inI64 (by omega) (by omega), ⟨k + 1, by omega, by omega, hs3, hV3⟩, by omega⟩
    · have hge : k = nd.ents.length := by have := of_decide_eq_false hge; omega
      subst hge
      rw [List.take_length] at hs2
      refine ⟨inI64 (by omega) (by omega), ⟨i + 1, by omega, by omega, ?_, hV2⟩, by omega⟩
      rw [allE_take (by omega), hnd]; exact hs2
  · have hge : i = 12 := by have := of_decide_eq_false hge; omega
    subst hge
    rw [List.take_of_length_le (by omega)] at hs1
    refine ⟨⟨some ⟨r, 0, none⟩, 12, 12⟩, rfl, ?_, hV1'⟩
    have := slR_block (W := V1) hs1 (rows_int fun n hn => ?_) (View.Le.refl _) (by rw [cnt_len]; omega)
    · rw [cnt_len] at this; exact this
    · unfold cnt at hn
      obtain ⟨j, _, rfl⟩ := List.mem_map.1 hn
      have h1 := List.countP_le_length (p := fun (x : Ent) => decide (x.node = (j : Int))) (l := allE t)
      have h2 := allE_len he
      exact inI64 (by omega) (by omega)
end Go.Proofs.YtpalkdmngckcoaaDoor

/- Which nodes one comes to: a stack and marks. No program in this text. -/
namespace Go.Proofs.YtpalkdmngckcoaaDoor
open Go
/-- Marks and a stack; of node i the first 'lim i' entries are done, unless it is on the stack. -/
structure DI (t : Tre) (a : Nat) (lim : Nat → Nat) (met : List Bool) (l : List Int) : Prop where
  len : met.length = 12
  start : met.getD a false = true
  sound : ∀ j, met.getD j false = true → Reach t a j
  stack : ∀ y ∈ l, 0 ≤ y ∧ y < 12 ∧ met.getD y.toNat false = true
  done : ∀ i, met.getD i false = true → (i : Int) ∈ l ∨ ∀ e ∈ (t.getD i default).ents.take (lim i), met.getD e.node.toNat false = true
  room : l.length + met.countP (fun b => !b) ≤ 12
def full (t : Tre) (i : Nat) : Nat := (t.getD i default).ents.length
def upto (t : Tre) (c k i : Nat) : Nat := if i = c then k else full t i
theorem getD_set_bool (met : List Bool) (q j : Nat) (h : q < met.length) : (met.set q true).getD j false = if j = q then true else met.getD j false := by
  rw [List.getD_eq_getElem?_getD, List.getD_eq_getElem?_getD, List.getElem?_set]
  by_cases e : q = j
  · rw [if_pos e, if_pos e.symm, if_pos h]; rfl
  · rw [if_neg e, if_neg (fun h => e h.symm)]
theorem countP_set : ∀ (met : List Bool) (q : Nat), q < met.length → met.getD q false = false → (met.set q true).countP (fun b => !b) + 1 = met.countP (fun b => !b)
  | b :: met, 0, _, h => by
    have h : b = false := by simpa using h
    subst h
    simp
  | b :: met, q + 1, hq, h => by
    have := countP_set met q (by simpa using hq) (by simpa using h)
    simp only [List.set_cons_succ, List.countP_cons]
    omega
theorem DI.first {t : Tre} {a : Nat} (ha : a < 12) : DI t a (full t) ((List.replicate 12 false).set a true) [(a : Int)] := by
  have hl : a < (List.replicate 12 false).length := by simpa using ha
  have hg := fun j => getD_set_bool (List.replicate 12 false) a j hl
  have hr : ∀ j, (List.replicate 12 false).getD j false = false := fun j => by
    rw [List.getD_eq_getElem?_getD, List.getElem?_replicate]; split <;> rfl
  have hc := countP_set _ a hl (hr a)
  have hc2 : (List.replicate 12 false).countP (fun b => !b) = 12 := rfl
  refine ⟨by simp, by rw [hg, if_pos rfl], fun j hj => ?_, fun y hy => ?_, fun i hi => ?_, by simp only [List.length_cons, List.length_nil]; omega⟩
  · rw [hg, hr] at hj
    split at hj
    · rename_i e; subst e; exact .refl
    · cases hj
  · have hy : y = a := by simpa using hy
    subst hy
    exact ⟨by omega, by omega, by rw [Int.toNat_natCast, hg, if_pos rfl]⟩
  · rw [hg, hr] at hi
    split at hi
    · rename_i e; subst e; left; simp
    · cases hi
theorem DI.pop {t : Tre} {a : Nat} {met : List Bool} {l : List Int} {c : Nat} (h : DI t a (full t) met (l ++ [(c : Int)])) : DI t a (upto t c 0) met l := by
  refine ⟨h.len, h.start, h.sound, fun y hy => h.stack y (by simp [hy]), fun i hi => ?_, by have := h.room; simp at this; omega⟩
  unfold upto
  by_cases e : i = c
  · right; rw [if_pos e]; simp
  · rw [if_neg e]
    rcases h.done i hi with h1 | h1
    · left
      rcases List.mem_append.1 h1 with h2 | h2
      · exact h2
      · exact absurd (Int.ofNat.inj (by simpa using h2)) e
    · exact .inr h1
theorem DI.old {t : Tre} {a : Nat} {met : List Bool} {l : List Int} {c k : Nat} (h : DI t a (upto t c k) met l) (hk : k < full t c) (hm : met.getD ((t.getD c default).ents.getD k default).node.toNat false = true) : DI t a (upto t c (k + 1)) met l := by
  refine ⟨h.len, h.start, h.sound, h.stack, fun i hi => ?_, h.room⟩
  rcases h.done i hi with h1 | h1
  · exact .inl h1
  · right
    unfold upto at h1 ⊢
    by_cases e : i = c
    · subst e
      rw [if_pos rfl] at h1 ⊢
      rw [List.take_add_one, List.getElem?_eq_getElem hk]
      intro x hx
      rcases List.mem_append.1 hx with h2 | h2
      · exact h1 x h2
      · have h2 : x = (t.getD i default).ents[k] := by simpa using h2
        rw [getD_at hk] at hm
        rw [h2]; exact hm
    · rw [if_neg e] at h1 ⊢; exact h1
theorem DI.new {t : Tre} {a : Nat} {met : List Bool} {l : List Int} {c k q : Nat} (h : DI t a (upto t c k) met l) (hk : k < full t c) (hq : ((t.getD c default).ents.getD k default).node = q) (hq12 : q < 12) (hc : met.getD c false = true) (hm : met.getD q false = false) :
    DI t a (upto t c (k + 1)) (met.set q true) (l ++ [(q : Int)]) ∧ (met.set q true).countP (fun b => !b) + 1 = met.countP (fun b => !b) := by
  have hl : q < met.length := by rw [h.len]; exact hq12
  have hg := fun j => getD_set_bool met q j hl
  have hcp := countP_set met q hl hm
  have up : ∀ j, met.getD j false = true → (met.set q true).getD j false = true := fun j hj => by rw [hg, hj]; simp
  have hreach : Reach t a q := by
    have hx : (t.getD c default).ents.getD k default ∈ (t.getD c default).ents := by
      rw [getD_at hk]; exact List.getElem_mem hk
    have := Reach.step (h.sound c hc) hx
    rw [hq, Int.toNat_natCast] at this
    exact this
  refine ⟨⟨by simp [h.len], up _ h.start, fun j hj => ?_, fun y hy => ?_, fun i hi => ?_, by have := h.room; simp; omega⟩, hcp⟩
  · rw [hg] at hj
    split at hj
    · rename_i e; subst e; exact hreach
    · exact h.sound j hj
  · rcases List.mem_append.1 hy with h1 | h1
    · obtain ⟨y1, y2, y3⟩ := h.stack y h1
      exact ⟨y1, y2, up _ y3⟩
    · have h1 : y = q := by simpa using h1
      subst h1
      exact ⟨by omega, by omega, by rw [Int.toNat_natCast, hg, if_pos rfl]⟩
  · rw [hg] at hi
    by_cases e : i = q
    · left; subst e; simp
    · rw [if_neg e] at hi
      rcases h.done i hi with h1 | h1
      · left; simp [h1]
      · right
        unfold upto at h1 ⊢
        by_cases e : i = c
        · subst e
          rw [if_pos rfl] at h1 ⊢
          rw [List.take_add_one, List.getElem?_eq_getElem hk]
          intro x hx
          rcases List.mem_append.1 hx with h2 | h2
          · exact up _ (h1 x h2)
          · have h2 : x = (t.getD i default).ents[k] := by simpa using h2
            rw [getD_at hk] at hq
            rw [h2, hq, Int.toNat_natCast, hg, if_pos rfl]
        · rw [if_neg e] at h1 ⊢
          exact fun x hx => up _ (h1 x hx)
theorem DI.close {t : Tre} {a : Nat} {met : List Bool} {l : List Int} {c : Nat} (h : DI t a (upto t c (full t c)) met l) : DI t a (full t) met l := by
  have e : upto t c (full t c) = full t := by
    funext i
    unfold upto
    by_cases e : i = c
    · rw [if_pos e, e]
    · rw [if_neg e]
  rw [e] at h; exact h
theorem DI.end {t : Tre} {a : Nat} {met : List Bool} (h : DI t a (full t) met []) : met = (List.range 12).map (metB t a) := by
  have hall : ∀ j, Reach t a j → met.getD j false = true := by
    intro j hj
    induction hj with
    | refl => exact h.start
    | step hi hx ih =>
      rcases h.done _ ih with h1 | h1
      · cases h1
      · exact h1 _ (by unfold full; rw [List.take_length]; exact hx)
  apply List.ext_getElem (by simp [h.len])
  intro j h1 h2
  have e : met.getD j false = met[j] := by rw [List.getD_eq_getElem?_getD, List.getElem?_eq_getElem h1]; rfl
  rw [List.getElem_map, List.getElem_range, Bool.eq_iff_iff, metB_iff, ← e]
  exact ⟨h.sound j, hall j⟩
end Go.Proofs.YtpalkdmngckcoaaDoor

/- The contract of dir.below. -/
namespace Go.Proofs.YtpalkdmngckcoaaDoor
open Go
def isF : Value → Bool
  | .bool b => !b
  | _ => false
def unm : Option Obj → Nat
  | some (.cells c _ _) => c.toList.countP isF
  | _ => 0
theorem unm_bools (met : List Bool) (e : TypeId) (f : Nat × Nat) : unm (some (.cells ⟨boolsV met⟩ e f)) = met.countP (fun b => !b) := by
  show (boolsV met).countP isF = _
  unfold boolsV
  rw [List.countP_map]
  rfl
/-- Marks in a block, a stack in a row of one's own, beside what was there. -/
structure BI (V V' : View) (r : Nat) (x : Sl) (met : List Bool) (l : List Int) : Prop where
  marks : V'.see r = some (.cells ⟨boolsV met⟩ 4 (0, 0))
  stack : Buf (V'.hide r) x 3 1 (intsV l)
  le : V.Le ((V'.hide r).minus x)
theorem intsV_len (l : List Int) : (intsV l).length = l.length := by simp [intsV]
theorem boolsV_len (l : List Bool) : (boolsV l).length = l.length := by simp [boolsV]
theorem BI.n {V V' : View} {r : Nat} {x : Sl} {met : List Bool} {l : List Int} (h : BI V V' r x met l) : x.n = l.length := by
  have := h.stack.len; rw [intsV_len, Nat.mul_one] at this; exact this.symm
theorem BI.vle {V V' : View} {r : Nat} {x : Sl} {met : List Bool} {l : List Int} (h : BI V V' r x met l) : V.Le V' := h.le.trans ((View.minus_le _ _).trans (View.hide_le _ _))
theorem below_ok {s : Sl} {t : Tre} {a : Nat} {V : View} (h : SlR V s t) (h12 : t.length = 12) (ha : a < 12) (hnode : ∀ n ∈ t, ∀ e ∈ n.ents, 0 ≤ e.node ∧ e.node < 12) :
    CallV Tryd.prog 37 ⟨[treV s, .int .i64 a]⟩ V fun r V' => ∃ x : Sl, r = .slice x.a x.n x.c ∧ SlR V' x ((List.range 12).map (metB t a)) ∧ V.Le V' := by
  refine f37_x ?_
  unfold f37_n
  have hn : s.n = 12 := by rw [h.n, h12]
  rw [hn]
  refine fun _ => ⟨by decide, by decide, by decide, by decide, fun r hr r1 hr1 => ?_⟩
  have hfr : V.see r = none := View.see_none_of_ge hr
  have hfr1 := View.see_none_of_ge hr1
  have hne : r ≠ r1 := fun e => by rw [← e, View.see_put_same] at hfr1; cases hfr1
  generalize hU : (V.put r _) = U at *
  have hUr : U.see r = some (.cells ⟨boolsV (List.replicate 12 false)⟩ 4 (0, 0)) := by rw [← hU, View.see_put_same]; rfl
  have hVU : V.Le (U.hide r) := by rw [← hU]; exact put_le_hide hfr (View.Le.refl _)
  generalize hU1 : (U.put r1 _) = U1
  have hU1r : U1.see r = some (.cells ⟨boolsV (List.replicate 12 false)⟩ 4 (0, 0)) := by rw [← hU1, View.see_put_ne _ _ hne]; exact hUr
  have hU1s : U1.see r1 = some (.cells ⟨[.int .i64 a]⟩ 3 (0, 0)) := by rw [← hU1, View.see_put_same]; rfl
  have hVU1 : V.Le ((U1.hide r).hide r1) := by
    refine hVU.trans ?_
    rw [← hU1]
    refine ⟨Nat.le_max_left _ _, fun i o ho => ?_, rfl⟩
    rw [hide_see] at ho
    split at ho
    · cases ho
    · rename_i hi
      have hi1 : i ≠ r1 := fun e => by rw [e, hfr1] at ho; cases ho
      rw [hide_see, if_neg hi1, hide_see, if_neg hi, View.see_put_ne _ _ hi1]; exact ho
  refine ⟨by omega, by omega, _, rfl, ?_, ?_⟩
  · rw [addr0_add]; exact canSet_of hU1r (show 0 + ((a : Int)).toNat * 1 + 1 ≤ _ by rw [boolsV_len]; simp; omega)
  have hst : U1.sets ((⟨r, 0, none⟩ : Addr).add ((a : Int).toNat * 1)) [.bool true] = U1.put r (.cells ⟨boolsV ((List.replicate 12 false).set a true)⟩ 4 (0, 0)) := by
    rw [addr0_add, sets_see hU1r, putL_one]
    simp only [Int.toNat_natCast, Nat.zero_add, Nat.mul_one]
    rw [boolsV_set]
  rw [hst]
  refine loop1 (k := .sl) (fun (x : Sl) V' => ∃ met l, BI V V' r x met l ∧ DI t a (full t) met l) (fun (x : Sl) V' => 2 * unm (V'.see r) + x.n) ⟨_, [(a : Int)], ⟨View.see_put_same _ _ _, ⟨rfl, Nat.le_refl _, (by decide : 1 ≤ 140737488355328), .inr ⟨r1, [.int .i64 a], rfl, ?_, rfl, rfl⟩⟩, ?_⟩, DI.first ha⟩ ?_
  · rw [hide_see, if_neg (fun e => hne e.symm), View.see_put_ne _ _ (fun e => hne e.symm)]; exact hU1s
  · refine hVU1.trans ?_
    show ((U1.hide r).hide r1).Le (((U1.put r _).hide r).hide r1)
    exact hide_mono (hide_le_put_hide r _) r1
  rintro (x : Sl) V1 ⟨met, l, hB, hD⟩
  have hxn := hB.n
  have hxc := hB.stack.le
  have hroom := hD.room
  have hxl : x.n ≤ 140737488355328 := hB.stack.lim
  have hV1 := hB.vle
  refine br_intro (fun hlt => ?_) (fun hge => ?_)
  · have hlt : 0 < x.n := by have := of_decide_eq_true hlt; omega
    obtain ⟨l', y, rfl⟩ : ∃ l' y, l = l' ++ [y] := by
      rcases List.eq_nil_or_concat l with h1 | ⟨l', y, h1⟩
      · rw [h1] at hxn; simp at hxn; omega
      · exact ⟨l', y, by simpa using h1⟩
    obtain ⟨y1, y2, y3⟩ := hD.stack y (by simp)
    obtain ⟨c, rfl⟩ : ∃ c : Nat, y = c := ⟨y.toNat, by omega⟩
    rw [Int.toNat_natCast] at y3
    simp only [List.length_append, List.length_cons, List.length_nil] at hxn hroom
    have hrow := hB.stack.row
    cases hxa : x.a with
    | none => rw [hxa] at hrow; simp [rowAt, intsV] at hrow
    | some ad =>
      rw [hxa] at hrow
      have hcell : V1.cell? (ad.add (((x.n : Int) - 1).toNat * 1)) = some (.int .i64 c) := by
        have e1 : (((x.n : Int) - 1).toNat * 1) = l'.length := by omega
        rw [e1]
        have := hrow.2 l'.length (.int .i64 c) (by simp [intsV])
        exact (View.hide_le V1 r).cell this
      obtain ⟨ad2, sq, en, ha2, hc2, hN⟩ := h.nodN (i := c) (by omega)
      have hmem : t.getD c default ∈ t := by rw [getD_at (by omega)]; exact List.getElem_mem _
      have hnd := hnode _ hmem
      have hc24 := cellsAt_nth (cellsAt_mono hV1 hc2) 4 rfl
      refine ⟨inI64 (by omega) (by omega), by omega, by omega, ad, rfl, _, hcell, inI64 (by omega) (by omega), by omega, by omega, by omega, by omega, by omega, ad2, ha2, en, hc24, ?_⟩
      have e2 : (if x.c = 0 then some ad else Option.map (fun (x : Addr) => x.add 0) (some ad)) = some ad := by rw [map_add_zero]; simp
      rw [e2, Nat.sub_zero, Nat.sub_zero]
      have hen := hN.ents.n
      have helim := hN.ents.lim
      have hfl : full t c = en.n := hen.symm
      have hbuf' : Buf (V1.hide r) ⟨some ad, ((x.n : Int) - 1).toNat, x.c⟩ 3 1 (intsV l') := by
        have := hB.stack.cut (k := ((x.n : Int) - 1).toNat) (by omega)
        rw [hxa] at this
        have e3 : (intsV (l' ++ [(c : Int)])).take ((((x.n : Int) - 1).toNat) * 1) = intsV l' := by
          have e1 : (((x.n : Int) - 1).toNat * 1) = l'.length := by omega
          rw [e1]; unfold intsV; rw [List.map_append, List.take_left' (by simp)]
        rw [e3] at this
        exact this
      have hle' : V.Le ((V1.hide r).minus ⟨some ad, ((x.n : Int) - 1).toNat, x.c⟩) := by
        have := hB.le
        unfold View.minus at this ⊢
        rw [hxa] at this
        exact this
      have hmeas : 2 * unm (V1.see r) + x.n = 2 * met.countP (fun b => !b) + l'.length + 1 := by rw [hB.marks, unm_bools]; omega
      rw [hmeas]
      generalize hM : 2 * met.countP (fun b => !b) + l'.length + 1 = M
      refine loop2 (k := .sl) (l := .int .i64) (fun (x : Sl) (i : Int) V' => ∃ (k : Nat) (met : List Bool) (l : List Int), i = k ∧ k ≤ full t c ∧ BI V V' r x met l ∧ DI t a (upto t c k) met l ∧ met.getD c false = true ∧ 2 * met.countP (fun b => !b) + l.length + 1 ≤ M) (fun _ (i : Int) _ => full t c - i.toNat)
        ⟨0, met, l', rfl, Nat.zero_le _, ⟨hB.marks, hbuf', hle'⟩, hD.pop, y3, by omega⟩ ?_
      rintro (z : Sl) (i : Int) V2 ⟨k, met2, l2, rfl, hk, hB2, hD2, hc', hM2⟩
      have hV2 := hB2.vle
      have hzn := hB2.n
      have hroom2 := hD2.room
      refine br_intro (fun hlt => ?_) (fun hge => ?_)
      · have hlt : k < full t c := by have := of_decide_eq_true hlt; omega
        obtain ⟨ad3, ha3, hc3, _, _⟩ := (hN.ents.mono hV2).entN (i := k) hlt
        have hxm : (t.getD c default).ents.getD k default ∈ (t.getD c default).ents := by rw [getD_at hlt]; exact List.getElem_mem _
        have hq := hnd _ hxm
        obtain ⟨q, hqe⟩ : ∃ q : Nat, ((t.getD c default).ents.getD k default).node = q := ⟨((t.getD c default).ents.getD k default).node.toNat, by omega⟩
        have hq12 : q < 12 := by omega
        have hcm : V2.cell? (Addr.add ⟨r, 0, none⟩ (((t.getD c default).ents.getD k default).node.toNat * 1)) = some (.bool (met2.getD q false)) := by
          rw [hqe, addr0_add]
          refine cell_of_see hB2.marks ?_
          have hql : q < met2.length := by rw [hD2.len]; exact hq12
          rw [List.getD_eq_getElem?_getD, List.getElem?_eq_getElem hql]
          show (boolsV met2)[0 + ((q : Int)).toNat * 1]? = _
          unfold boolsV
          rw [Int.toNat_natCast, Nat.zero_add, Nat.mul_one, List.getElem?_map, List.getElem?_eq_getElem hql]
          rfl
        refine ⟨by omega, by omega, ad3, ha3, _, _, hc3, fun _ => ⟨hq.1, by omega, _, rfl, _, hcm, ?_⟩⟩
        refine joinP_cut (fun w V3 => ∃ met l, BI V V3 r w.1 met l ∧ DI t a (upto t c (k + 1)) met l ∧ met.getD c false = true ∧ 2 * met.countP (fun b => !b) + l.length + 1 ≤ M) (br_intro (fun hb => ?_) (fun hb => ?_)) ?_
        · have hb : met2.getD q false = false := not_t hb
          obtain ⟨hD3, hcp⟩ := hD2.new hlt hqe hq12 hc' hb
          have hup : (met2.set q true).getD c false = true := by rw [getD_set_bool _ _ _ (by rw [hD2.len]; exact hq12), hc']; simp
          have hset : V2.sets ((⟨r, 0, none⟩ : Addr).add (((t.getD c default).ents.getD k default).node.toNat * 1)) [.bool true] = V2.put r (.cells ⟨boolsV (met2.set q true)⟩ 4 (0, 0)) := by
            rw [hqe, addr0_add, sets_see hB2.marks, putL_one]
            simp only [Int.toNat_natCast, Nat.zero_add, Nat.mul_one]
            rw [boolsV_set]
          refine ⟨hq.1, by omega, _, rfl, ?_, ?_⟩
          · rw [hqe, addr0_add]; exact canSet_of hB2.marks (show 0 + ((q : Int)).toNat * 1 + 1 ≤ _ by rw [boolsV_len, hD2.len]; simp; omega)
          · rw [hset]
            intro r2 hr2
            have hfr2 := View.see_none_of_ge hr2
            have hne2 : r ≠ r2 := fun e => by rw [← e, View.see_put_same] at hfr2; cases hfr2
            have hbuf2 : Buf ((V2.put r (.cells ⟨boolsV (met2.set q true)⟩ 4 (0, 0))).hide r) z 3 1 (intsV l2) := hB2.stack.mono (hide_le_put_hide r _)
            have hle2 : V.Le (((V2.put r (.cells ⟨boolsV (met2.set q true)⟩ 4 (0, 0))).hide r).minus z) := hB2.le.trans (minus_mono (hide_le_put_hide r _) z)
            have hsee2 : (V2.put r (.cells ⟨boolsV (met2.set q true)⟩ 4 (0, 0))).see r = some (.cells ⟨boolsV (met2.set q true)⟩ 4 (0, 0)) := View.see_put_same _ _ _
            generalize (V2.put r (.cells ⟨boolsV (met2.set q true)⟩ 4 (0, 0))) = W at *
            have hW := View.put_le (o := .cells ⟨putL [.int .i64 0] 0 [.int .i64 ((t.getD c default).ents.getD k default).node]⟩ 3 (0, 0)) hfr2
            refine apV_beside (V0 := V) (p := r) (cs := intsV l2) (src := [.int .i64 q]) (m := 1) rfl (hW.see _ _ hsee2) (hbuf2.mono (hide_mono hW r)) (hle2.trans (minus_mono (hide_mono hW r) z)) ⟨rfl, rowAt_new (by rw [View.see_put_same, hqe]; rfl) rfl⟩ rfl rfl (by show (z.n + 1) * 8 ≤ _; omega) (by show z.n + 1 ≤ _; omega) ?_
            intro s3 V3 hsee3 hbuf3 hle3 _
            have e4 : intsV l2 ++ [.int .i64 (q : Int)] = intsV (l2 ++ [(q : Int)]) := by simp [intsV]
            rw [e4] at hbuf3
            exact ⟨_, _, ⟨hsee3, hbuf3, hle3⟩, hD3, hup, by simp; omega⟩
        · have hb : met2.getD q false = true := not_f hb
          exact ⟨met2, l2, ⟨hB2.marks, hB2.stack, hB2.le⟩, hD2.old hlt (by rw [hqe, Int.toNat_natCast]; exact hb), hc', hM2⟩
        · rintro ⟨w, ⟨⟩⟩ V3 ⟨met3, l3, hB3, hD3, hc3, hM3⟩
          exact ⟨inI64 (by omega) (by omega), ⟨k + 1, met3, l3, by omega, by omega, hB3, hD3, hc3, hM3⟩, by omega⟩
      · have hge : k = full t c := by have := of_decide_eq_false hge; omega
        subst hge
        refine ⟨⟨met2, l2, ⟨hB2.marks, hB2.stack, hB2.le⟩, hD2.close⟩, ?_⟩
        rw [hB2.marks, unm_bools]
        show 2 * _ + z.n < _
        omega
  · have hge : l = [] := List.eq_nil_of_length_eq_zero (by have := of_decide_eq_false hge; omega)
    subst hge
    refine ⟨⟨some ⟨r, 0, none⟩, 12, 12⟩, rfl, ?_, hV1⟩
    have := slR_block (W := V1) hB.marks rows_bool (View.Le.refl _) (by rw [hD.len]; omega)
    rw [hD.len, hD.end] at this
    exact this
end Go.Proofs.YtpalkdmngckcoaaDoor

/- Maps with numbers as keys: what is found behind a key, and behind what is put. No program in this text. -/
namespace Go.Proofs.YtpalkdmngckcoaaDoor
open Go
def keyI (e : MapEntry) : Int := match e.key with
  | .int _ n => n
  | _ => 0
/-- All keys are numbers. -/
def IntK (es : List MapEntry) : Prop := ∀ e ∈ es, ∃ n, e.key = .int .i64 n
/-- What stands behind a key. -/
def vlk (k : Int) : List MapEntry → Option Value
  | [] => none
  | e :: es => if keyI e = k then some e.val else vlk k es
theorem mfind_int {k : Int} : ∀ {es : List MapEntry} (_ : IntK es) (i : Nat), ∃ f, mfind (.int .i64 k) es i = some f ∧
    ((f = none ∧ vlk k es = none) ∨ ∃ j v, f = some (i + j, v) ∧ vlk k es = some v ∧ j < es.length ∧ ∀ (u : MapEntry → MapEntry) (w : Value), (∀ e, keyI e = k → keyI (u e) = k ∧ (u e).val = w ∧ ∃ n, (u e).key = .int .i64 n) → IntK (es.modify j u) ∧ ∀ k', vlk k' (es.modify j u) = if k' = k then some w else vlk k' es)
  | [], _, i => ⟨none, rfl, .inl ⟨rfl, rfl⟩⟩
  | e :: es, h, i => by
    obtain ⟨n, hn⟩ := h e (by simp)
    have hk : keyI e = n := by unfold keyI; rw [hn]
    have h' : IntK es := fun e he => h e (by simp [he])
    have hq : keyEq (.int .i64 k) (.int .i64 n) = some (decide (k = n)) := rfl
    by_cases hkn : k = n
    · subst hkn
      refine ⟨some (i, e.val), ?_, .inr ⟨0, e.val, rfl, by unfold vlk; rw [if_pos hk], by simp, fun u w hu => ⟨?_, fun k' => ?_⟩⟩⟩
      · unfold mfind; rw [hn, hq, decide_eq_true rfl]
      · intro e' he'
        rw [List.modify_zero_cons] at he'
        rcases List.mem_cons.1 he' with h1 | h1
        · rw [h1]; exact (hu e hk).2.2
        · exact h' e' h1
      · rw [List.modify_zero_cons]
        unfold vlk
        rw [(hu e hk).1, (hu e hk).2.1, hk]
        by_cases e1 : k = k'
        · rw [if_pos e1, if_pos e1.symm]
        · rw [if_neg e1, if_neg (fun h => e1 h.symm), if_neg e1]
    · have hne : ¬ keyI e = k := fun e => hkn (by rw [← e, hk])
      obtain ⟨f, hf, hr⟩ := mfind_int (k := k) h' (i + 1)
      refine ⟨f, by unfold mfind; rw [hn, hq, decide_eq_false hkn]; exact hf, ?_⟩
      rcases hr with ⟨h1, h2⟩ | ⟨j, v, h1, h2, h3, h4⟩
      · exact .inl ⟨h1, by unfold vlk; rw [if_neg hne]; exact h2⟩
      · refine .inr ⟨j + 1, v, by rw [h1]; congr 2; omega, by unfold vlk; rw [if_neg hne]; exact h2, by simpa using h3, fun u w hu => ?_⟩
        obtain ⟨h5, h6⟩ := h4 u w hu
        rw [List.modify_succ_cons]
        refine ⟨fun e' he' => ?_, fun k' => ?_⟩
        · rcases List.mem_cons.1 he' with h7 | h7
          · rw [h7]; exact ⟨n, hn⟩
          · exact h5 e' h7
        · unfold vlk
          by_cases e1 : keyI e = k'
          · rw [if_pos e1, if_pos e1, if_neg (fun h => hne (by rw [e1, h]))]
          · rw [if_neg e1, if_neg e1]; exact h6 k'
theorem vlk_append (k : Int) : ∀ (es ds : List MapEntry), vlk k (es ++ ds) = (vlk k es).or (vlk k ds)
  | [], ds => by simp [vlk]
  | e :: es, ds => by
    show (if keyI e = k then some e.val else vlk k (es ++ ds)) = (if keyI e = k then some e.val else vlk k es).or (vlk k ds)
    split
    · rfl
    · exact vlk_append k es ds
/-- What is put is found; all else is as it was. -/
theorem mput_int {es : Array MapEntry} {cl : Nat} {k : Int} {v : Value} (h : IntK es.toList) :
    ∃ f, mfind (.int .i64 k) es.toList 0 = some f ∧ (∀ z, found z f = (vlk k es.toList).getD z) ∧ ∃ es' cl', mput es cl f (.int .i64 k) v = .map es' cl' ∧ IntK es'.toList ∧ ∀ k', vlk k' es'.toList = if k' = k then some v else vlk k' es.toList := by
  obtain ⟨f, hf, hr⟩ := mfind_int (k := k) h 0
  refine ⟨f, hf, ?_, ?_⟩
  · intro z
    rcases hr with ⟨rfl, h2⟩ | ⟨j, w, rfl, h2, _⟩
    · rw [h2]; rfl
    · rw [h2]; rfl
  · rcases hr with ⟨rfl, h2⟩ | ⟨j, w, rfl, h2, h3, h4⟩
    · refine ⟨_, _, rfl, ?_, fun k' => ?_⟩
      · intro e he
        rw [Array.toList_push] at he
        rcases List.mem_append.1 he with h5 | h5
        · exact h e h5
        · rw [List.mem_singleton.1 h5]; exact ⟨k, rfl⟩
      · rw [Array.toList_push, vlk_append]
        by_cases e1 : k' = k
        · rw [if_pos e1, e1, h2]; simp [vlk, keyI]
        · rw [if_neg e1]
          have e2 : ¬ k = k' := fun h => e1 h.symm
          have : vlk k' [{ key := .int .i64 k, val := v, born := cl }] = none := by simp [vlk, keyI, e2]
          rw [this]; simp
    · obtain ⟨h5, h6⟩ := h4 (fun e => { e with key := .int .i64 k, val := v }) v (fun e _ => ⟨rfl, rfl, k, rfl⟩)
      refine ⟨_, _, rfl, ?_, fun k' => ?_⟩
      · rw [Array.toList_modify, Nat.zero_add]; exact h5
      · rw [Array.toList_modify, Nat.zero_add]; exact h6 k'
end Go.Proofs.YtpalkdmngckcoaaDoor

/- The contract of dir.apart. -/
namespace Go.Proofs.YtpalkdmngckcoaaDoor
open Go
/-- A map that counts. -/
def CountM (V : View) (r : Nat) (l : List Int) : Prop := ∃ es cl, V.see r = some (.map es cl) ∧ IntK es.toList ∧ ∀ k, (vlk k es.toList).getD (.int .i64 0) = .int .i64 (l.count k)
theorem count_snoc (l : List Int) (x k : Int) : (l ++ [x]).count k = l.count k + if k = x then 1 else 0 := by
  rw [List.count_append]
  by_cases e : k = x
  · subst e; simp
  · rw [if_neg e]; simp [Ne.symm e]
theorem CountM.bump {V : View} {r : Nat} {l : List Int} (h : CountM V r l) (x : Int) : ∃ es cl f, V.see r = some (.map es cl) ∧ mfind (.int .i64 x) es.toList 0 = some f ∧ found (.int .i64 0) f = .int .i64 (l.count x) ∧ CountM (V.put r (mput es cl f (.int .i64 x) (.int .i64 ((l.count x : Int) + 1)))) r (l ++ [x]) := by
  obtain ⟨es, cl, hs, hk, hv⟩ := h
  obtain ⟨f, hf, hfd, es', cl', hm, hk', hv'⟩ := mput_int (cl := cl) (k := x) (v := .int .i64 ((l.count x : Int) + 1)) hk
  refine ⟨es, cl, f, hs, hf, by rw [hfd, hv], es', cl', by rw [View.see_put_same, hm], hk', fun k => ?_⟩
  rw [hv', count_snoc]
  by_cases e : k = x
  · rw [if_pos e, if_pos e, e]; rfl
  · rw [if_neg e, if_neg e, hv]; simp
theorem CountM.look {V : View} {r : Nat} {l : List Int} (h : CountM V r l) (x : Int) : ∃ es cl f, V.see r = some (.map es cl) ∧ mfind (.int .i64 x) es.toList 0 = some f ∧ found (.int .i64 0) f = .int .i64 (l.count x) := by
  obtain ⟨es, cl, f, h1, h2, h3, _⟩ := h.bump x
  exact ⟨es, cl, f, h1, h2, h3⟩
theorem allS_take {t : Tre} {i : Nat} (h : i < t.length) : allS (t.take (i + 1)) = allS (t.take i) ++ (t.getD i default).seqs := by
  unfold allS
  rw [List.take_add_one, List.getElem?_eq_getElem h, List.flatMap_append, getD_at h]
  simp
theorem allS_len : ∀ {t : Tre} {m : Nat}, (∀ n ∈ t, n.seqs.length ≤ m) → (allS t).length ≤ m * t.length
  | [], _, _ => by simp [allS]
  | n :: t, m, h => by
    have h1 := allS_len (t := t) (m := m) fun k hk => h k (by simp [hk])
    have h2 := h n (by simp)
    have e : allS (n :: t) = n.seqs ++ allS t := by simp [allS]
    rw [e, List.length_append, List.length_cons, Nat.mul_add]
    omega
theorem allS_prefix (t : Tre) (i : Nat) : allS (t.take i) <+: allS t := by
  have : allS t = allS (t.take i) ++ allS (t.drop i) := by unfold allS; rw [← List.flatMap_append, List.take_append_drop]
  rw [this]; exact List.prefix_append _ _
theorem apart_prefix {l m : List Int} (h : l <+: m) (ha : apartL l = false) : apartL m = false := by
  unfold apartL at *
  rw [decide_eq_false_iff_not] at *
  exact fun hm => ha (hm.sublist (h.sublist.filter _))
theorem apart_snoc {l : List Int} {x : Int} (h : apartL l = true) : apartL (l ++ [x]) = !(!decide (x = 0) && decide (1 < (l ++ [x]).count x)) := by
  unfold apartL at *
  have h := of_decide_eq_true h
  rw [List.filter_append, count_snoc, if_pos rfl]
  by_cases hx : x = 0
  · subst hx; simpa using h
  · have e1 : [x].filter (fun s => decide (s ≠ 0)) = [x] := by simp [hx]
    rw [e1]
    by_cases hm : x ∈ l
    · have hc := List.count_pos_iff.2 hm
      have : ¬ (l.filter (fun s => decide (s ≠ 0)) ++ [x]).Nodup := by
        rw [List.nodup_append]
        intro hn
        exact hn.2.2 x (by simp [hm, hx]) x (by simp) rfl
      rw [decide_eq_false this, decide_eq_true (show 1 < l.count x + 1 by omega)]
      simp [hx]
    · have hc := List.count_eq_zero.2 hm
      have : (l.filter (fun s => decide (s ≠ 0)) ++ [x]).Nodup := by
        rw [List.nodup_append]
        refine ⟨h, by simp, fun a ha b hb hab => ?_⟩
        have hb : b = x := by simpa using hb
        rw [hab, hb] at ha
        exact hm ((List.mem_filter.1 ha).1)
      rw [decide_eq_true this, hc]
      simp
theorem apart_ok {s : Sl} {t : Tre} {V : View} (h : SlR V s t) (h12 : t.length = 12) (h5 : ∀ n ∈ t, n.seqs.length ≤ 5) : CallV Tryd.prog 47 ⟨[treV s]⟩ V fun r V' => r = .bool (apartL (allS t)) ∧ V.Le V' := by
  refine f47_x ?_
  unfold f47_n
  have hn : s.n = 12 := by rw [h.n, h12]
  rw [hn]
  refine fun _ r hr => ?_
  have hfr : V.see r = none := View.see_none_of_ge hr
  refine loop1 (k := .int .i64) (fun (x : Int) V' => ∃ i : Nat, x = i ∧ i ≤ 12 ∧ CountM V' r (allS (t.take i)) ∧ apartL (allS (t.take i)) = true ∧ V.Le (V'.hide r)) (fun (x : Int) _ => 12 - x.toNat) ⟨0, rfl, by omega, ⟨_, _, View.see_put_same _ _ _, fun e he => (by cases he), fun k => rfl⟩, rfl, put_le_hide hfr (View.Le.refl _)⟩ ?_
  rintro (x : Int) V1 ⟨i, rfl, hi, hs1, hp1, hV1⟩
  have hV1' : V.Le V1 := hV1.trans (View.hide_le _ _)
  refine br_intro (fun hlt => ?_) (fun hge => ?_)
  · have hlt : i < 12 := by have := of_decide_eq_true hlt; omega
    obtain ⟨ad, sq, en, ha, hc, hN⟩ := h.nodN (i := i) (by omega)
    have hmem : t.getD i default ∈ t := by rw [getD_at (by omega)]; exact List.getElem_mem _
    have hle := h5 _ hmem
    have htk : (allS (t.take i)).length ≤ 5 * 12 := Nat.le_trans (allS_len fun n hn => h5 n (List.mem_of_mem_take hn)) (Nat.mul_le_mul_left _ (by simp; omega))
    have hpre := allS_prefix t (i + 1)
    rw [allS_take (by omega)] at hpre
    refine ⟨by omega, by omega, ad, ha, _, _, _, sq, en, cellsAt_mono hV1' hc, fun _ => ?_⟩
    generalize hnd : t.getD i default = nd at *
    have hsn := hN.seqs.n
    refine loop1 (k := .int .i64) (fun (x : Int) V' => ∃ k : Nat, x = k ∧ k ≤ nd.seqs.length ∧ CountM V' r (allS (t.take i) ++ nd.seqs.take k) ∧ apartL (allS (t.take i) ++ nd.seqs.take k) = true ∧ V.Le (V'.hide r)) (fun (x : Int) _ => nd.seqs.length - x.toNat) ⟨0, rfl, by omega, by simpa using hs1, by simpa using hp1, hV1⟩ ?_
    rintro (x : Int) V2 ⟨k, rfl, hk, hs2, hp2, hV2⟩
    have hV2' : V.Le V2 := hV2.trans (View.hide_le _ _)
    refine br_intro (fun hlt => ?_) (fun hge => ?_)
    · have hlt : k < nd.seqs.length := by have := of_decide_eq_true hlt; omega
      obtain ⟨ad, ha, hc, hin⟩ := (hN.seqs.mono hV2').intN hlt
      refine ⟨by omega, by omega, ad, ha, _, hc, ?_⟩
      have etk : nd.seqs.take (k + 1) = nd.seqs.take k ++ [nd.seqs.getD k 0] := by rw [List.take_add_one, List.getElem?_eq_getElem hlt, getD_at0 hlt]; rfl
      have hpre2 : allS (t.take i) ++ nd.seqs.take (k + 1) <+: allS t := by
        refine List.IsPrefix.trans ?_ hpre
        rw [List.prefix_append_right_inj]
        exact List.take_prefix _ _
      rw [etk, ← List.append_assoc] at hpre2
      generalize hx : nd.seqs.getD k 0 = x at *
      obtain ⟨es, cl, f, hse, hmf, hfd, hbump⟩ := hs2.bump x
      have hcl : (allS (t.take i) ++ nd.seqs.take k).count x ≤ 65 := by
        refine Nat.le_trans List.count_le_length ?_
        simp only [List.length_append, List.length_take]; omega
      refine ⟨trivial, es, cl, f, hse, hmf, _, hfd, inI64 (by omega) (by omega), trivial, r, es, cl, f, rfl, hse, hmf, ?_⟩
      dsimp only
      have hV3 : V.Le ((V2.put r (mput es cl f (.int .i64 x) (.int .i64 (((allS (t.take i) ++ nd.seqs.take k).count x : Int) + 1)))).hide r) := hV2.trans (hide_le_put_hide r _)
      generalize (V2.put r (mput es cl f (.int .i64 x) (.int .i64 (((allS (t.take i) ++ nd.seqs.take k).count x : Int) + 1)))) = V3 at *
      refine joinP_cut (fun q V' => q.1 = !apartL (allS (t.take i) ++ nd.seqs.take k ++ [x]) ∧ V' = V3) (br_intro (fun hx0 => ?_) (fun hx0 => ⟨?_, rfl⟩)) ?_
      · obtain ⟨es, cl, f, h1, h2, h3⟩ := hbump.look x
        refine ⟨trivial, es, cl, f, h1, h2, _, h3, ?_, rfl⟩
        rw [apart_snoc hp2, hx0]
        simp only [Bool.true_and, Bool.not_not]
        exact decide_eq_decide.2 (by omega)
      · rw [apart_snoc hp2, hx0]; rfl
      · rintro ⟨q, ⟨⟩⟩ V4 ⟨h1, hV⟩
        simp only at h1 hV
        subst h1 hV
        dsimp only [unc]
        refine br_intro (fun hb => ⟨?_, hV3.trans (View.hide_le _ _)⟩) (fun hb => ⟨inI64 (by omega) (by omega), ⟨k + 1, by omega, by omega, ?_, ?_, hV3⟩, by omega⟩)
        · rw [apart_prefix hpre2 (not_t hb)]
        · rw [etk, ← List.append_assoc]; exact hbump
        · rw [etk, ← List.append_assoc]; exact not_f hb
    · have hge : k = nd.seqs.length := by have := of_decide_eq_false hge; omega
      subst hge
      rw [List.take_length] at hs2 hp2
      refine ⟨inI64 (by omega) (by omega), ⟨i + 1, by omega, by omega, ?_, ?_, hV2⟩, by omega⟩
      · rw [allS_take (by omega), hnd]; exact hs2
      · rw [allS_take (by omega), hnd]; exact hp2
  · have hge : i = 12 := by have := of_decide_eq_false hge; omega
    subst hge
    rw [List.take_of_length_le (by omega)] at hp1
    exact ⟨by rw [hp1], hV1'⟩
end Go.Proofs.YtpalkdmngckcoaaDoor

/- The contract of dir.May. -/
namespace Go.Proofs.YtpalkdmngckcoaaDoor
open Go
theorem mayN_seqs {n : Nod} (h : mayN n = true) : n.seqs.length ≤ 5 := by
  unfold mayN at h
  split at h
  · simp at h; rw [h.1.2]; simp
  · split at h
    · unfold fileB at h; simp at h; omega
    · split at h
      · simp at h; rw [h.1.2]; simp
      · cases h
theorem mayT_ok {s : Sl} {t : Tre} {V : View} (h : SlR V s t) : CallV Tryd.prog 20 ⟨[treV s]⟩ V fun r V' => r = .bool (mayT t) ∧ V.Le V' := by
  refine f20_x ?_
  unfold f20_n
  have hn := h.n
  refine fun _ => joinP_cut (fun q V' => q.1 = (!(decide (t.length = 12) && t.all mayN && decide ((t.getD 0 default).kind = 2))) ∧ V' = V) (br_intro (fun hb => ⟨?_, rfl⟩) (fun hb => ?_)) ?_
  · have hb : ¬ t.length = 12 := by have := of_decide_eq_false (not_t hb); omega
    rw [decide_eq_false hb]; rfl
  · have hb : t.length = 12 := by have := of_decide_eq_true (not_f hb); omega
    refine (containsFuncN_ok (p := fun n => !mayN n) h fun n _ a b hN => ?_).mono ?_
    · exact may1_ok hN
    · rintro r V' ⟨rfl, rfl⟩
      have e1 : (t.any fun n => !mayN n) = !t.all mayN := by rw [List.any_eq_not_all_not]; simp
      refine ⟨_, rfl, br_intro (fun h1 => ⟨?_, rfl⟩) (fun h1 => ?_)⟩
      · rw [e1] at h1
        rw [not_t h1, Bool.and_false]; rfl
      · rw [e1] at h1
        obtain ⟨ad, sq, en, ha, hc, hN⟩ := h.nodN (i := 0) (by omega)
        refine ⟨by omega, by omega, ad, ha, _, cellsAt_nth hc 0 rfl, ?_, rfl⟩
        rw [decide_eq_true hb, not_f h1]; rfl
  · rintro ⟨q, ⟨⟩⟩ V1 ⟨h1, hV⟩
    simp only at h1 hV
    subst h1 hV
    dsimp only [unc]
    refine br_intro (fun hb => ⟨?_, View.Le.refl _⟩) (fun hb => ?_)
    · have hb := not_t hb
      unfold mayT
      have : (decide (t.length = 12) && t.all mayN && decide ((t.getD 0 default).kind = 2)) = false := by simpa using hb
      rw [this]; rfl
    · have hb := not_f hb
      have h3 : (decide (t.length = 12) && t.all mayN && decide ((t.getD 0 default).kind = 2)) = true := hb
      have hM : mayT t = ((List.range 12).all (fun i => hangB (t.getD i default) i ((cnt 12 (allE t)).getD i 0) (metB t 0 i)) && apartL (allS t)) := by
        unfold mayT; rw [h3, Bool.true_and]
      rw [hM]
      simp only [Bool.and_eq_true, decide_eq_true_eq, List.all_eq_true] at h3
      obtain ⟨⟨h12, hall⟩, _⟩ := h3
      have hE : ∀ n ∈ t, n.ents.length ≤ 10 := fun n hn => mayL_len (mayN_ents (hall n hn))
      have hnode : ∀ n ∈ t, ∀ e ∈ n.ents, 0 ≤ e.node ∧ e.node < 12 := fun n hn e he => by
        have := mayL_node (mayN_ents (hall n hn)) he; omega
      refine ⟨trivial, V1, View.Le.refl _, (names_ok h h12 hE).mono ?_⟩
      rintro r V2 ⟨x, rfl, hx, hV2⟩
      refine ⟨x, rfl, hV2, (below_ok (a := 0) (h.mono hV2) h12 (by decide) hnode).mono ?_⟩
      rintro r V3 ⟨y, rfl, hy, hV3⟩
      refine ⟨y, rfl, ?_⟩
      have hx3 := hx.mono hV3
      refine loop1 (k := .int .i64) (fun (x : Int) V' => V' = V3 ∧ ∃ i : Nat, x = i ∧ i ≤ 12 ∧ (List.range i).all (fun i => hangB (t.getD i default) i ((cnt 12 (allE t)).getD i 0) (metB t 0 i)) = true) (fun (x : Int) _ => 12 - x.toNat) ⟨rfl, 0, rfl, by omega, rfl⟩ ?_
      rintro (i : Int) V4 ⟨rfl, i, rfl, hi, hP⟩
      have hV14 := hV2.trans hV3
      refine br_intro (fun hlt => ?_) (fun hge => ?_)
      · have hlt : i < 12 := by have := of_decide_eq_true hlt; omega
        obtain ⟨ad, sq, en, ha, hc, hN⟩ := (h.mono hV14).nodN (i := i) (by omega)
        obtain ⟨ad2, ha2, hc2, _⟩ := hx3.intN (i := i) (by rw [cnt_len]; exact hlt)
        obtain ⟨ad3, hx', ha3, hc3⟩ := hy.bool (x := (i : Int)) (by omega) (by have := hy.n; simp at this; omega)
        have e3 : ((List.range 12).map (metB t 0))[((i : Int)).toNat] = metB t 0 i := by simp
        rw [e3] at hc3
        have hxn := hx3.n
        rw [cnt_len] at hxn
        have hyn := hy.n
        simp only [List.length_map, List.length_range] at hyn
        refine ⟨by omega, by omega, ad, ha, _, _, _, sq, en, hc, fun _ => ⟨trivial, V4, View.Le.refl _, by omega, by omega, ad2, ha2, _, hc2, by omega, by omega, ad3, ha3, _, hc3, hangs_ok.mono ?_⟩⟩
        rintro r V5 ⟨rfl, rfl⟩
        refine ⟨_, rfl, br_intro (fun hb => ⟨?_, hV14⟩) (fun hb => ⟨inI64 (by omega) (by omega), ⟨rfl, i + 1, by omega, by omega, all_step hP (not_f hb)⟩, by omega⟩)⟩
        rw [all_stop hlt (not_t hb)]; rfl
      · have hge : i = 12 := by have := of_decide_eq_false hge; omega
        subst hge
        refine (apart_ok (h.mono hV14) h12 fun n hn => mayN_seqs (hall n hn)).mono ?_
        rintro r V5 ⟨rfl, hV5⟩
        refine ⟨_, rfl, ?_, hV14.trans hV5⟩
        rw [hP, Bool.true_and]
end Go.Proofs.YtpalkdmngckcoaaDoor

/- Numbers and texts as bytes: plain functions and what they answer. No program in this text. -/
namespace Go.Proofs.YtpalkdmngckcoaaDoor
/-- The digits of a number ahead of its last one, the greatest first. -/
def hiL : Nat → Nat → List UInt8
  | 0, _ => []
  | f + 1, n => if n = 0 then [] else hiL f (n / 128) ++ [UInt8.ofNat (n % 128 + 128)]
/-- A number as bytes. -/
def numL (n : Nat) : List UInt8 := hiL 6 (n / 128) ++ [UInt8.ofNat (n % 128)]
/-- What is laid for a number that is handed in. -/
def clampN (n : Int) : Nat := (min (max n 0) 1099511627776).toNat
def numI (n : Int) : List UInt8 := numL (clampN n)
/-- A number in front, and what is behind it. -/
def numGo (most : Nat) : Nat → Nat → List UInt8 → Option (Nat × List UInt8)
  | 0, _, _ => none
  | _, _, [] => none
  | f + 1, m, c :: b => if 128 ≤ c.toNat then numGo most f (m * 128 + c.toNat % 128) b else if most < m * 128 + c.toNat % 128 then none else some (m * 128 + c.toNat % 128, b)
theorem numGo_cons (most f m : Nat) (c : UInt8) (b : List UInt8) : numGo most (f + 1) m (c :: b) = if 128 ≤ c.toNat then numGo most f (m * 128 + c.toNat % 128) b else if most < m * 128 + c.toNat % 128 then none else some (m * 128 + c.toNat % 128, b) := rfl
def numP (most : Nat) (b : List UInt8) : Option (Nat × List UInt8) :=
  match b with
  | [] => none
  | c :: r => if c.toNat = 128 then none else numGo most 6 0 (c :: r)
theorem hiL_len : ∀ (f n : Nat), (hiL f n).length ≤ f
  | 0, _ => Nat.le_refl _
  | f + 1, n => by
    unfold hiL
    split
    · simp
    · have := hiL_len f (n / 128)
      simp; omega
theorem hiL_bound : ∀ (f n : Nat), n < 128 ^ f → hiL f n = hiL (f + 1) n
  | 0, n, h => by
    have : n = 0 := by simpa using h
    subst this; rfl
  | f + 1, n, h => by
    by_cases h0 : n = 0
    · subst h0; rfl
    · rw [hiL, hiL, if_neg h0, if_neg h0, hiL_bound f (n / 128) (Nat.div_lt_of_lt_mul (by rw [Nat.pow_succ] at h; omega))]
theorem toNat_ofNat_lt {n : Nat} (h : n < 256) : (UInt8.ofNat n).toNat = n := by rw [UInt8.toNat_ofNat']; omega
/-- Reading goes through the digits ahead. -/
theorem numGo_hi (most : Nat) : ∀ (f n : Nat) (g m : Nat) (r : List UInt8), n < 128 ^ f → (hiL f n).length ≤ g →
    numGo most g m (hiL f n ++ r) = numGo most (g - (hiL f n).length) (m * 128 ^ (hiL f n).length + n) r
  | 0, n, g, m, r, h, _ => by
    have : n = 0 := by simpa using h
    subst this
    simp [hiL]
  | f + 1, n, g, m, r, h, hg => by
    by_cases h0 : n = 0
    · subst h0; simp [hiL]
    · have hd : n / 128 < 128 ^ f := Nat.div_lt_of_lt_mul (by rw [Nat.pow_succ] at h; omega)
      have e : hiL (f + 1) n = hiL f (n / 128) ++ [UInt8.ofNat (n % 128 + 128)] := by rw [hiL, if_neg h0]
      rw [e] at hg ⊢
      simp only [List.length_append, List.length_cons, List.length_nil, Nat.zero_add] at hg ⊢
      rw [List.append_assoc, numGo_hi most f (n / 128) g m _ hd (by omega)]
      obtain ⟨k, hk⟩ : ∃ k, g - (hiL f (n / 128)).length = k + 1 := ⟨g - (hiL f (n / 128)).length - 1, by omega⟩
      rw [hk, List.singleton_append, numGo_cons]
      have h1 : (UInt8.ofNat (n % 128 + 128)).toNat = n % 128 + 128 := toNat_ofNat_lt (by omega)
      have e3 : (m * 128 ^ (hiL f (n / 128)).length + n / 128) * 128 + (n % 128 + 128) % 128 = m * 128 ^ ((hiL f (n / 128)).length + 1) + n := by
        rw [Nat.pow_succ, ← Nat.mul_assoc, Nat.add_mul]
        omega
      rw [h1, if_pos (by omega), show g - ((hiL f (n / 128)).length + 1) = k by omega, e3]
theorem hiL_head : ∀ (f n : Nat), n < 128 ^ f → ∀ c r, hiL f n = c :: r → 128 < c.toNat
  | 0, n, _, c, r, e => by simp [hiL] at e
  | f + 1, n, h, c, r, e => by
    unfold hiL at e
    split at e
    · simp at e
    · rename_i h0
      have hd : n / 128 < 128 ^ f := Nat.div_lt_of_lt_mul (by rw [Nat.pow_succ] at h; omega)
      cases hh : hiL f (n / 128) with
      | nil =>
        rw [hh] at e
        simp only [List.nil_append, List.cons.injEq] at e
        have hz : n / 128 = 0 := by
          cases f with
          | zero => simpa using hd
          | succ f =>
            apply Classical.byContradiction
            intro hne
            rw [hiL, if_neg hne] at hh
            simp at hh
        rw [← e.1, toNat_ofNat_lt (by omega)]
        omega
      | cons d s =>
        rw [hh] at e
        simp only [List.cons_append, List.cons.injEq] at e
        rw [← e.1]
        exact hiL_head f _ hd d s hh
theorem num_lt {n : Nat} (h : n ≤ 1099511627776) : n / 128 < 128 ^ 5 := by
  have : (128 : Nat) ^ 5 = 34359738368 := by decide
  omega
theorem hi_len5 {n : Nat} (h : n ≤ 1099511627776) : (hiL 6 (n / 128)).length ≤ 5 := by
  rw [← hiL_bound 5 _ (num_lt h)]
  exact hiL_len 5 _
/-- What is laid is read as it was. -/
theorem numP_numL {n most : Nat} (h : n ≤ 1099511627776) (hm : n ≤ most) (r : List UInt8) : numP most (numL n ++ r) = some (n, r) := by
  have hb : n / 128 < 128 ^ 6 := Nat.lt_of_lt_of_le (num_lt h) (Nat.pow_le_pow_right (by decide) (by decide))
  have hgo : numGo most 6 0 (numL n ++ r) = some (n, r) := by
    unfold numL
    rw [List.append_assoc, numGo_hi most 6 (n / 128) 6 0 _ hb (by have := hi_len5 h; omega)]
    obtain ⟨k, hk⟩ : ∃ k, 6 - (hiL 6 (n / 128)).length = k + 1 := ⟨6 - (hiL 6 (n / 128)).length - 1, by have := hi_len5 h; omega⟩
    rw [hk, List.singleton_append, Nat.zero_mul, Nat.zero_add, numGo_cons]
    rw [toNat_ofNat_lt (by omega), if_neg (by omega), Nat.mod_mod, Nat.mul_comm, Nat.div_add_mod, if_neg (by omega)]
  unfold numP
  cases hc : numL n ++ r with
  | nil => unfold numL at hc; simp at hc
  | cons c s =>
    rw [← hc]
    simp only [hc]
    rw [if_neg, ← hc, hgo]
    unfold numL at hc
    cases hh : hiL 6 (n / 128) with
    | nil =>
      rw [hh] at hc
      simp only [List.nil_append, List.cons_append, List.cons.injEq] at hc
      rw [← hc.1, toNat_ofNat_lt (by omega)]
      omega
    | cons d t =>
      rw [hh] at hc
      simp only [List.cons_append, List.cons.injEq] at hc
      have := hiL_head 6 _ hb d t hh
      rw [← hc.1]
      omega
/-- What is read was laid so. -/
theorem numGo_inv (most : Nat) : ∀ (g m : Nat) (b : List UInt8) (n : Nat) (r : List UInt8), numGo most g m b = some (n, r) →
    n ≤ most ∧ ∃ ds : List UInt8, ∃ c : UInt8, b = ds ++ c :: r ∧ c.toNat < 128 ∧ ds.length < g ∧ (∀ d ∈ ds, 128 ≤ d.toNat) ∧ n = (ds.foldl (fun a d => a * 128 + d.toNat % 128) m) * 128 + c.toNat
  | 0, m, b, n, r, h => by simp [numGo] at h
  | g + 1, m, [], n, r, h => by simp [numGo] at h
  | g + 1, m, c :: b, n, r, h => by
    rw [numGo_cons] at h
    split at h
    · rename_i hc
      obtain ⟨h1, ds, c', h2, h3, h4, h5, h6⟩ := numGo_inv most g _ b n r h
      refine ⟨h1, c :: ds, c', by rw [h2]; rfl, h3, by simp; omega, fun d hd => ?_, h6⟩
      rcases List.mem_cons.1 hd with rfl | hd
      · exact hc
      · exact h5 d hd
    · rename_i hc
      split at h
      · cases h
      · rename_i hm
        cases h
        exact ⟨by omega, [], c, rfl, by omega, by simp, by simp, by simp; omega⟩
theorem fold_hi : ∀ (f : Nat) (ds : List UInt8), ds.length ≤ f → (∀ d ∈ ds, 128 ≤ d.toNat) → (∀ d r, ds = d :: r → d.toNat ≠ 128) → hiL f (ds.foldl (fun a d => a * 128 + d.toNat % 128) 0) = ds
  | f, ds, hf, hall, hhd => by
    induction f generalizing ds with
    | zero =>
      have : ds = [] := List.eq_nil_of_length_eq_zero (by omega)
      subst this; rfl
    | succ f ih =>
      rcases List.eq_nil_or_concat ds with rfl | ⟨ds', c, rfl⟩
      · rfl
      · rw [List.concat_eq_append] at *
        rw [List.foldl_append]
        simp only [List.foldl_cons, List.foldl_nil]
        have hc := hall c (by simp)
        have hc2 : c.toNat < 256 := c.toNat_lt
        have hdiv : (ds'.foldl (fun a d => a * 128 + d.toNat % 128) 0 * 128 + c.toNat % 128) / 128 = ds'.foldl (fun a d => a * 128 + d.toNat % 128) 0 := by omega
        have hmod : (ds'.foldl (fun a d => a * 128 + d.toNat % 128) 0 * 128 + c.toNat % 128) % 128 + 128 = c.toNat := by omega
        have hne : ds'.foldl (fun a d => a * 128 + d.toNat % 128) 0 * 128 + c.toNat % 128 ≠ 0 := by
          intro h0
          have h1 : ds'.foldl (fun a d => a * 128 + d.toNat % 128) 0 = 0 := by omega
          have h2 := ih ds' (by simp at hf; omega) (fun d hd => hall d (by simp [hd])) (fun d r e => hhd d (r ++ [c]) (by rw [e]; rfl))
          rw [h1] at h2
          have h3 : ds' = [] := by
            cases f with
            | zero => exact h2.symm
            | succ f => rw [hiL, if_pos rfl] at h2; exact h2.symm
          subst h3
          exact hhd c [] rfl (by simp at h0; omega)
        rw [hiL, if_neg hne, hdiv, hmod, ih ds' (by simp at hf; omega) (fun d hd => hall d (by simp [hd])) (fun d r e => hhd d (r ++ [c]) (by rw [e]; rfl))]
        congr 2
        exact UInt8.ofNat_toNat
theorem numL_numP {most : Nat} {b : List UInt8} {n : Nat} {r : List UInt8} (h : numP most b = some (n, r)) : n ≤ most ∧ b = numL n ++ r := by
  unfold numP at h
  split at h
  · cases h
  · rename_i c0 b0
    split at h
    · cases h
    · rename_i h128
      obtain ⟨h1, ds, c, h2, h3, h4, h5, h6⟩ := numGo_inv most 6 0 _ n r h
      refine ⟨h1, ?_⟩
      have hds := fold_hi 6 ds (by omega) h5 (fun d s e => by
        subst e
        rw [List.cons_append, List.cons.injEq] at h2
        rw [← h2.1]; exact h128)
      unfold numL
      rw [h6, h2]
      rw [show (ds.foldl (fun a d => a * 128 + d.toNat % 128) 0 * 128 + c.toNat) / 128 = ds.foldl (fun a d => a * 128 + d.toNat % 128) 0 by omega, hds,
        show (ds.foldl (fun a d => a * 128 + d.toNat % 128) 0 * 128 + c.toNat) % 128 = c.toNat by omega, UInt8.ofNat_toNat, List.append_assoc]
      rfl
/-- A text behind its length. -/
def textL (s : List UInt8) : List UInt8 := numI s.length ++ s
def textP (most : Nat) (b : List UInt8) : Option (List UInt8 × List UInt8) :=
  match numP most b with
  | none => none
  | some (n, r) => if r.length < n then none else some (r.take n, r.drop n)
end Go.Proofs.YtpalkdmngckcoaaDoor

/- Contracts of package bytes. -/
namespace Go.Proofs.YtpalkdmngckcoaaDoor
open Go
/-- Bytes as cells. -/
def u8s (l : List UInt8) : List Value := l.map fun b => .int .u8 b.toNat
theorem u8s_append (l m : List UInt8) : u8s (l ++ m) = u8s l ++ u8s m := List.map_append
theorem u8s_len (l : List UInt8) : (u8s l).length = l.length := List.length_map _
theorem u8s_one (l : List UInt8) : (u8s l).all Value.oneCell' = true := by
  rw [List.all_eq_true]
  intro v hv
  obtain ⟨b, _, rfl⟩ := List.mem_map.1 hv
  rfl
theorem u8s_rep {W : View} : ∀ l : List UInt8, repL W (u8s l) l
  | [] => rfl
  | b :: l => ⟨[.int .u8 b.toNat], u8s l, rfl, rfl, u8s_rep l⟩
theorem repL_u8 {W : View} : ∀ {cs : List Value} {l : List UInt8}, repL W cs l → cs = u8s l
  | _, [], h => h
  | _, b :: l, ⟨vs, us, e, h1, h2⟩ => by
    have h1 : vs = [Value.int .u8 b.toNat] := h1
    rw [e, h1, repL_u8 h2]; rfl
theorem SlR.row8 {V : View} {s : Sl} {l : List UInt8} (h : SlR V s l) : rowAt V s.a (s.n * 1) (u8s l) := by
  obtain ⟨cs, h1, h2⟩ := h.row
  rw [repL_u8 h2] at h1
  exact h1
/-- Bytes that a call made: in a row of its own. -/
structure Fresh8 (V V' : View) (x : Sl) (l : List UInt8) : Prop where
  buf : Buf V' x 5 1 (u8s l)
  le : V.Le (V'.minus x)
theorem Fresh8.slR {V V' : View} {x : Sl} {l : List UInt8} (h : Fresh8 V V' x l) : SlR V' x l := h.buf.slR (W := V) (u8s_rep l) (h.le.trans (View.minus_le _ _))
theorem Fresh8.vle {V V' : View} {x : Sl} {l : List UInt8} (h : Fresh8 V V' x l) : V.Le V' := h.le.trans (View.minus_le _ _)
theorem clone8_ok {s : Sl} {l : List UInt8} {V : View} (h : SlR V s l) (hl : l.length ≤ 140737488355328) : CallV Tryd.prog 90 ⟨[.slice s.a s.n s.c]⟩ V fun r V' => ∃ x : Sl, r = .slice x.a x.n x.c ∧ Fresh8 V V' x l := by
  refine f90_x ?_
  unfold f90_n
  have hn := h.n
  refine br_intro (fun hnil => ?_) (fun _ => ?_)
  · have ha : s.a = none := Option.isNone_iff_eq_none.1 hnil
    have hl0 : l = [] := by
      cases l with
      | nil => rfl
      | cons b l => obtain ⟨ad, vs, h1, _⟩ := h.get 0 (by simp); rw [ha] at h1; cases h1
    subst hl0
    exact ⟨⟨none, 0, 0⟩, rfl, Buf.nil _ _ _, View.Le.refl V⟩
  · intro r hr
    have hfr : V.see r = none := View.see_none_of_ge hr
    refine apV_buf (cs := []) (src := u8s l) (m := s.n) rfl ⟨rfl, Nat.le_refl _, Nat.zero_le _, .inr ⟨r, [], rfl, View.see_put_same _ _ _, rfl, rfl⟩⟩ ?_ (by rw [u8s_len, hn]; omega) (u8s_one l) (by simp; omega) (by simp; omega) ?_
    · exact ⟨rfl, (h.mono (View.put_le hfr)).row8⟩
    · intro x V' hb _ hle
      refine ⟨x, rfl, hb, View.Le.trans ?_ hle⟩
      refine ⟨Nat.le_max_left _ _, fun i o ho => ?_, rfl⟩
      have hne : i ≠ r := fun e => by rw [e, hfr] at ho; cases ho
      show (if i = r then none else View.see (V.put r _) i) = some o
      rw [if_neg hne, View.see_put_ne V _ hne]; exact ho
theorem grow8_ok {n : Int} {V : View} (h0 : 0 ≤ n) (h1 : n ≤ 140737488355328) : CallV Tryd.prog 112 ⟨[.slice none 0 0, .int .i64 n]⟩ V fun r V' => ∃ x : Sl, r = .slice x.a x.n x.c ∧ Fresh8 V V' x [] := by
  refine f112_x (a0 := ⟨none, 0, 0⟩) ?_
  unfold f112_n
  refine joinP_cut (fun _ V' => V' = V) (br_intro (fun h => absurd h (by simp; omega)) (fun _ => rfl)) ?_
  rintro ⟨⟩ V' rfl
  refine ⟨inI64 (by simp) (by simp), inI64 (by simp; omega) (by simp; omega), joinP_cut (fun s V1 => Fresh8 V' V1 s.1 []) ?_ (fun s V1 h => ⟨s.1, rfl, h⟩)⟩
  refine br_intro (fun _ => ⟨by omega, by simp, by simp, ?_⟩) (fun _ => ⟨Buf.nil _ _ _, View.Le.refl _⟩)
  have e1 : (n - (((0 : Nat) : Int) - ((0 : Nat) : Int))) = n := by simp
  rw [e1]
  refine apV_buf (cs := []) (src := (List.replicate n.toNat [Value.int .u8 0]).flatten) (m := n.toNat) rfl (Buf.nil _ _ _) ⟨h0, rfl, rfl⟩ (by simp) ?_ (by simp; omega) (by simp; omega) ?_
  · rw [List.all_eq_true]
    intro v hv
    obtain ⟨l, hl, hvl⟩ := List.mem_flatten.1 hv
    rw [(List.mem_replicate.1 hl).2] at hvl
    rw [List.mem_singleton.1 hvl]; rfl
  · intro s V1 hb hsn hle
    have hcut := hb.cut (Nat.zero_le s.n)
    have e2 : (if s.c = 0 then s.a else Option.map (fun (x : Addr) => x.add 0) s.a) = s.a := by rw [map_add_zero]; simp
    refine ⟨by omega, by simp, by simp, ?_⟩
    rw [e2]
    exact ⟨by simpa [u8s] using hcut, hle⟩
theorem flat_len8 : ∀ (ls : List (List UInt8)) (i : Nat), (ls.take i).flatten.length ≤ ls.flatten.length
  | [], i => by simp
  | x :: ls, 0 => by simp
  | x :: ls, i + 1 => by
    have := flat_len8 ls i
    simp only [List.take_succ_cons, List.flatten_cons, List.length_append]
    omega
theorem SlR.sl8 {V : View} {s : Sl} {ls : List (List UInt8)} (h : SlR V s ls) {x : Int} (h0 : 0 ≤ x) (h1 : x < s.n) :
    ∃ ad, ∃ y : Sl, ∃ hx : x.toNat < ls.length, s.a = some ad ∧ V.cell? (ad.add (x.toNat * 1)) = some (.slice y.a y.n y.c) ∧ SlR V y ls[x.toNat] := by
  obtain ⟨ad, vs, hx, ha, hc, y, rfl, hy⟩ := h.ld h0 h1
  exact ⟨ad, y, hx, ha, cellsAt_one.1 hc, hy⟩
theorem concat8_ok {s : Sl} {ls : List (List UInt8)} {V : View} (h : SlR V s ls) (hl : ls.flatten.length ≤ 140737488355328) : CallV Tryd.prog 103 ⟨[.slice s.a s.n s.c]⟩ V fun r V' => ∃ x : Sl, r = .slice x.a x.n x.c ∧ Fresh8 V V' x ls.flatten := by
  refine f103_x ?_
  unfold f103_n
  have hn := h.n; have hlim := h.lim
  refine loop2 (k := .int .i64) (l := .int .i64) (fun (x : Int) (i : Int) V' => V' = V ∧ 0 ≤ i ∧ i ≤ s.n ∧ x = (ls.take i.toNat).flatten.length) (fun _ (i : Int) _ => s.n - i.toNat) ⟨rfl, by omega, by omega, by simp⟩ ?_
  rintro (x : Int) (i : Int) V' ⟨rfl, h0, h1, rfl⟩
  have hle1 := flat_len8 ls i.toNat
  refine br_intro (fun hlt => ?_) (fun hge => ?_)
  · have hlt : i < s.n := by simpa using hlt
    obtain ⟨ad, y, hx, ha, hc, hy⟩ := h.sl8 h0 hlt
    have hyn := hy.n
    have hnext : (ls.take (i + 1).toNat).flatten.length = (ls.take i.toNat).flatten.length + y.n := by
      rw [show (i + 1).toNat = i.toNat + 1 by omega, List.take_add_one, List.getElem?_eq_getElem hx, List.flatten_append]
      simp [hyn]
    have hle2 := flat_len8 ls (i + 1).toNat
    refine ⟨h0, hlt, ad, ha, y, hc, inI64 (by omega) (by omega), joinP_cut (fun _ V2 => V2 = V') (br_intro (fun h => absurd h (by simp; omega)) (fun _ => rfl)) ?_⟩
    rintro ⟨⟩ V2 rfl
    exact ⟨inI64 (by omega) (by omega), ⟨rfl, by omega, by omega, by rw [hnext]; omega⟩, by omega⟩
  · have hge : ¬ i < s.n := by simpa using hge
    refine (grow8_ok (n := ((ls.take i.toNat).flatten.length : Int)) (by omega) (by omega)).mono ?_
    rintro r V1 ⟨x, rfl, hx⟩
    refine ⟨x, rfl, ?_⟩
    refine loop2 (k := .sl) (l := .int .i64) (fun (x : Sl) (i : Int) V2 => 0 ≤ i ∧ i ≤ s.n ∧ Fresh8 V' V2 x (ls.take i.toNat).flatten) (fun _ (i : Int) _ => s.n - i.toNat) ⟨by omega, by omega, hx⟩ ?_
    rintro (x : Sl) (j : Int) V2 ⟨k0, k1, hf⟩
    refine br_intro (fun hlt => ?_) (fun hge => ?_)
    · have hlt : j < s.n := by simpa using hlt
      obtain ⟨ad, y, hx, ha, hc, hy⟩ := (h.mono hf.vle).sl8 k0 hlt
      have hyn := hy.n
      have hbl := hf.buf.len
      rw [u8s_len] at hbl
      have hnext : (ls.take (j + 1).toNat).flatten = (ls.take j.toNat).flatten ++ ls[j.toNat] := by
        rw [show (j + 1).toNat = j.toNat + 1 by omega, List.take_add_one, List.getElem?_eq_getElem hx, List.flatten_append]
        simp
      have hle2 := flat_len8 ls (j + 1).toNat
      rw [hnext, List.length_append] at hle2
      refine ⟨k0, hlt, ad, ha, y, hc, apV_buf (cs := u8s (ls.take j.toNat).flatten) (src := u8s ls[j.toNat]) (m := y.n) rfl hf.buf ⟨rfl, hy.row8⟩ (by rw [u8s_len]; omega) (u8s_one _) (by show (x.n + y.n) * 1 ≤ _; omega) (by show x.n + y.n ≤ _; omega) ?_⟩
      intro z V3 hb _ hle
      refine ⟨inI64 (by omega) (by omega), ⟨by omega, by omega, ?_, ?_⟩, by omega⟩
      · rw [hnext, u8s_append]; exact hb
      · exact hf.le.trans hle
    · have hge : ¬ j < s.n := by simpa using hge
      refine ⟨x, rfl, ?_⟩
      rw [List.take_of_length_le (by omega)] at hf
      exact hf
/-- Digits, the least first. -/
def loL : Nat → Nat → List UInt8
  | 0, _ => []
  | f + 1, n => if n = 0 then [] else UInt8.ofNat (n % 128 + 128) :: loL f (n / 128)
theorem loL_rev : ∀ (f n : Nat), (loL f n).reverse = hiL f n
  | 0, _ => rfl
  | f + 1, n => by
    unfold loL hiL
    split
    · rfl
    · rw [List.reverse_cons, loL_rev f]
theorem numL_rev (n : Nat) : (UInt8.ofNat (n % 128) :: loL 6 (n / 128)).reverse = numL n := by
  rw [List.reverse_cons, loL_rev]; rfl
theorem loL_len : ∀ (f n : Nat), (loL f n).length ≤ f := fun f n => by rw [← List.length_reverse, loL_rev]; exact hiL_len f n
theorem numL_len (n : Nat) : (numL n).length ≤ 7 := by
  unfold numL
  have := hiL_len 6 (n / 128)
  simp; omega
/-- A row of one's own is turned round. -/
theorem reverse8_ok {s : Sl} {l : List UInt8} {V : View} (h : Buf V s 5 1 (u8s l)) : CallV Tryd.prog 102 ⟨[.slice s.a s.n s.c]⟩ V fun r V' => r = .tuple ⟨[]⟩ ∧ Buf V' s 5 1 (u8s l.reverse) ∧ (V.minus s).Le (V'.minus s) := by
  refine f102_x ?_
  unfold f102_n
  have hlen := h.len
  rw [u8s_len, Nat.mul_one] at hlen
  have hlim := h.lim
  refine ⟨inI64 (by omega) (by omega), ?_⟩
  refine loop2 (k := .int .i64) (l := .int .i64) (fun (i : Int) (j : Int) V' => 0 ≤ i ∧ i + j = s.n - 1 ∧ i ≤ j + 2 ∧ (∃ m : List UInt8, m.length = l.length ∧ Buf V' s 5 1 (u8s m) ∧ (∀ k, k < l.length → m[k]? = if (k : Int) < i ∨ j < (k : Int) then l.reverse[k]? else l[k]?)) ∧ (V.minus s).Le (V'.minus s)) (fun (i : Int) (j : Int) _ => (j - i + 3).toNat)
    ⟨by omega, by omega, by omega, ⟨l, rfl, h, fun k hk => by rw [if_neg (by omega)]⟩, View.Le.refl _⟩ ?_
  rintro (i : Int) (j : Int) V' ⟨h0, h1, h2, ⟨m, hm, hb, hget⟩, hle⟩
  refine br_intro (fun hlt => ?_) (fun hge => ?_)
  · have hlt : i < j := by simpa using hlt
    have hi : i.toNat < m.length := by omega
    have hj : j.toNat < m.length := by omega
    rcases hb.own with ⟨_, hc⟩ | ⟨r, all, ha, hs, hal, htk⟩
    · have := hb.le; omega
    have hcell : ∀ k, (hk : k < m.length) → V'.cell? ((⟨r, 0, none⟩ : Addr).add (k * 1)) = some (.int .u8 m[k].toNat) := fun k hk => by
      rw [addr0_add]
      refine cell_of_see hs ?_
      have e1 : (u8s m)[k]? = some (.int .u8 m[k].toNat) := by simp [u8s, List.getElem?_eq_getElem hk]
      rw [← htk, List.getElem?_take] at e1
      split at e1
      · simpa using e1
      · cases e1
    have hall : s.n * 1 ≤ all.length := by rw [hal]; exact Nat.mul_le_mul_right _ hb.le
    have e0 : ∀ k : Nat, (⟨r, 0, none⟩ : Addr).add (k * 1) = ⟨r, k, none⟩ := fun k => by rw [addr0_add]; simp
    refine ⟨trivial, V', View.Le.refl _, by omega, by omega, _, ha, _, hcell j.toNat hj, by omega, by omega, _, ha, _, hcell i.toNat hi, by omega, by omega, _, ha, ?_, by omega, by omega, _, ha, ?_, inI64 (by omega) (by omega), inI64 (by omega) (by omega), ?_⟩
    · rw [e0]; exact canSet_of hs (show i.toNat + 1 ≤ all.length by omega)
    · rw [e0, e0, sets_see hs]
      refine canSet_of (View.see_put_same _ _ _) ?_
      show j.toNat + 1 ≤ (all.set i.toNat _).length
      rw [List.length_set]; omega
    · rw [e0, e0, sets_see hs, sets_see (View.see_put_same _ _ _)]
      have hput : ∀ (cs : List Value) (k : Nat) (v : Value), k < cs.length → putL cs k [v] = cs.set k v := fun cs k v hk => rfl
      rw [hput _ _ _ (by omega), hput _ _ _ (by simp; omega)]
      refine ⟨⟨by omega, by omega, by omega, ⟨(m.set i.toNat m[j.toNat]).set j.toNat m[i.toNat], by simp [hm], ⟨?_, hb.le, hb.lim, .inr ⟨r, _, ha, View.see_put_same _ _ _, by simp [hal], ?_⟩⟩, fun k hk => ?_⟩, ?_⟩, by omega⟩
      · rw [u8s_len]; simp [hm]; omega
      · rw [List.take_set, List.take_set, htk]
        simp [u8s, List.map_set]
      · have hr1 : ∀ k, k < l.length → l.reverse[k]? = l[l.length - 1 - k]? := fun k hk => List.getElem?_reverse hk
        have hmi := hget i.toNat (by omega)
        have hmj := hget j.toNat (by omega)
        rw [if_neg (by omega)] at hmi hmj
        rw [List.getElem?_set, List.getElem?_set]
        by_cases kj : j.toNat = k
        · subst kj
          rw [if_pos rfl, if_pos (by simp; omega), if_pos (by omega), hr1 _ hk, ← List.getElem?_eq_getElem hi, hmi]
          congr 1; omega
        · rw [if_neg kj]
          by_cases ki : i.toNat = k
          · subst ki
            rw [if_pos rfl, if_pos hi, if_pos (by omega), hr1 _ hk, ← List.getElem?_eq_getElem hj, hmj]
            congr 1; omega
          · rw [if_neg ki, hget k hk]
            by_cases c1 : (k : Int) < i ∨ j < (k : Int)
            · rw [if_pos c1, if_pos (by omega)]
            · rw [if_neg c1, if_neg (by omega)]
      · refine hle.trans ?_
        unfold View.minus
        rw [ha]
        exact (hide_le_put_hide r _).trans (hide_le_put_hide r _)
  · have hge : ¬ i < j := by simpa using hge
    have hml : m = l.reverse := by
      apply List.ext_getElem?
      intro k
      by_cases hk : k < l.length
      · rw [hget k hk]
        by_cases c1 : (k : Int) < i ∨ j < (k : Int)
        · rw [if_pos c1]
        · rw [if_neg c1, List.getElem?_reverse hk]
          congr 1; omega
      · rw [List.getElem?_eq_none (by omega), List.getElem?_eq_none (by simp; omega)]
    rw [hml] at hb
    exact ⟨rfl, hb, hle⟩
theorem wrap_u8 {n : Int} (h0 : 0 ≤ n) (h1 : n ≤ 255) : IntKind.u8.wrap n = n := by
  unfold IntKind.wrap
  simp [IntKind.signed, IntKind.bits]
  omega
theorem clamp_eq (n : Int) : (if (1099511627776 : Int) < (if (0 : Int) > n then 0 else n) then (1099511627776 : Int) else if (0 : Int) > n then 0 else n) = (clampN n : Int) := by
  unfold clampN
  split <;> split <;> omega
theorem clampN_le (n : Int) : clampN n ≤ 1099511627776 := by unfold clampN; omega
theorem numI_len (n : Int) : (numI n).length ≤ 7 := numL_len _
theorem number8_ok {s : Sl} {l : List UInt8} {n : Int} {V : View} (h : SlR V s l) (hl : l.length ≤ 140737488355000) : CallV Tryd.prog 89 ⟨[.slice s.a s.n s.c, .int .i64 n]⟩ V fun r V' => ∃ x : Sl, r = .slice x.a x.n x.c ∧ Fresh8 V V' x (l ++ numI n) := by
  refine f89_x ?_
  unfold f89_n
  rw [clamp_eq]
  have hc := clampN_le n
  generalize hk : clampN n = k at *
  have e1 : Int.tmod (k : Int) 128 = ((k % 128 : Nat) : Int) := by rw [Int.tmod_eq_emod_of_nonneg (by omega)]; omega
  have e2 : Int.tdiv (k : Int) 128 = ((k / 128 : Nat) : Int) := by rw [Int.tdiv_eq_ediv_of_nonneg (by omega)]; omega
  rw [e1, e2, wrap_u8 (by omega) (by omega)]
  refine ⟨by decide, fun r hr => ⟨by decide, inI64 (by omega) (by omega), ?_⟩⟩
  have hfr : V.see r = none := View.see_none_of_ge hr
  have hd0 : (UInt8.ofNat (k % 128)).toNat = k % 128 := toNat_ofNat_lt (by omega)
  refine loop2 (k := .int .i64) (l := .sl) (fun (x : Int) (o : Sl) V1 => ∃ (q : Nat) (f : Nat) (pre : List UInt8), x = q ∧ q ≤ 8589934592 ∧ UInt8.ofNat (k % 128) :: (pre ++ loL f q) = UInt8.ofNat (k % 128) :: loL 6 (k / 128) ∧ pre.length + f = 6 ∧ q < 128 ^ f ∧ Buf V1 o 5 1 (u8s (UInt8.ofNat (k % 128) :: pre)) ∧ V.Le (V1.minus o)) (fun (x : Int) _ _ => x.toNat)
    ⟨k / 128, 6, [], rfl, by omega, rfl, rfl, by
      have : (128 : Nat) ^ 6 = 4398046511104 := by decide
      omega, ⟨by simp [u8s], Nat.le_refl _, (by decide : 1 ≤ 140737488355328), .inr ⟨r, _, rfl, View.see_put_same _ _ _, by simp [putL], by simp [putL, u8s, hd0]⟩⟩, ?_⟩ ?_
  · refine ⟨Nat.le_max_left _ _, fun i o ho => ?_, rfl⟩
    have hne : i ≠ r := fun e => by rw [e, hfr] at ho; cases ho
    show (if i = r then none else View.see (V.put r _) i) = some o
    rw [if_neg hne, View.see_put_ne V _ hne]; exact ho
  rintro (x : Int) (o : Sl) V1 ⟨q, f, pre, rfl, hq, hpre, hpf, hqf, hb, hle⟩
  have hbl := hb.len
  rw [u8s_len, Nat.mul_one, List.length_cons] at hbl
  refine br_intro (fun hlt => ?_) (fun hge => ?_)
  · have hlt : 0 < q := by simpa using hlt
    obtain ⟨f, rfl⟩ : ∃ g, f = g + 1 := by
      cases f with
      | zero => simp at hqf; omega
      | succ g => exact ⟨g, rfl⟩
    have e1 : Int.tmod (q : Int) 128 = ((q % 128 : Nat) : Int) := by rw [Int.tmod_eq_emod_of_nonneg (by omega)]; omega
    have e2 : Int.tdiv (q : Int) 128 = ((q / 128 : Nat) : Int) := by rw [Int.tdiv_eq_ediv_of_nonneg (by omega)]; omega
    rw [e1, e2, wrap_u8 (by omega) (by omega)]
    have hd : (UInt8.ofNat (q % 128 + 128)).toNat = q % 128 + 128 := toNat_ofNat_lt (by omega)
    refine ⟨by decide, inI64 (by omega) (by omega), fun r1 hr1 => ?_⟩
    have hfr1 : V1.see r1 = none := View.see_none_of_ge hr1
    refine apV_buf (cs := u8s (UInt8.ofNat (k % 128) :: pre)) (src := u8s [UInt8.ofNat (q % 128 + 128)]) (m := 1) rfl (hb.put hfr1) ⟨rfl, ⟨rfl, ?_⟩⟩ rfl (u8s_one _) (by show (o.n + 1) * 1 ≤ _; have := loL_len 6 (k / 128); omega) (by show o.n + 1 ≤ _; omega) ?_
    · refine cellsAt_of_see (View.see_put_same _ _ _) fun j v hj => ?_
      cases j with
      | succ j => simp [u8s] at hj
      | zero =>
        simp only [u8s, List.map_cons, List.map_nil, List.getElem?_cons_zero, Option.some.injEq, hd] at hj
        subst hj
        simp [putL]
    · intro o2 V2 hb2 _ hle2
      refine ⟨by decide, inI64 (by omega) (by omega), ⟨q / 128, f, pre ++ [UInt8.ofNat (q % 128 + 128)], rfl, by omega, ?_, by simp; omega, Nat.div_lt_of_lt_mul (by rw [Nat.pow_succ] at hqf; omega), ?_, ?_⟩, by omega⟩
      · rw [← hpre, loL, if_neg (by omega)]; simp
      · rw [← u8s_append] at hb2; exact hb2
      · exact (hle.trans (put_minus_le hfr1)).trans hle2
  · have hge : q = 0 := by simpa using hge
    subst hge
    have hpre2 : UInt8.ofNat (k % 128) :: pre = UInt8.ofNat (k % 128) :: loL 6 (k / 128) := by
      rw [← hpre]
      cases f <;> simp [loL]
    refine (reverse8_ok hb).mono ?_
    rintro r2 V2 ⟨rfl, hb2, hle2⟩
    rw [hpre2, numL_rev] at hb2
    have hle12 := hle.trans hle2
    refine ⟨rfl, fun r3 hr3 => ?_⟩
    have hfr3 : V2.see r3 = none := View.see_none_of_ge hr3
    have hV2 : V.Le V2 := hle12.trans (View.minus_le _ _)
    have hin : SlR (V2.put r3 (.cells ⟨putL (putL [.slice none 0 0, .slice none 0 0] 0 [.slice s.a s.n s.c]) 1 [.slice o.a o.n o.c]⟩ 72)) ⟨some ⟨r3, 0, none⟩, 2, 2⟩ [l, numL k] := by
      have hp := View.put_le (V := V2) (o := .cells ⟨putL (putL [.slice none 0 0, .slice none 0 0] 0 [.slice s.a s.n s.c]) 1 [.slice o.a o.n o.c]⟩ 72) hfr3
      refine ⟨rfl, Nat.le_refl _, (by decide : 2 ≤ 9223372036854775807), fun i hi => ?_⟩
      have hcell : ∀ (i : Nat) v, ([Value.slice s.a s.n s.c, .slice o.a o.n o.c] : List Value)[i]? = some v → (V2.put r3 (.cells ⟨putL (putL [.slice none 0 0, .slice none 0 0] 0 [.slice s.a s.n s.c]) 1 [.slice o.a o.n o.c]⟩ 72)).cell? ((⟨r3, 0, none⟩ : Addr).add (i * 1)) = some v := fun i v hv => by
        rw [addr0_add]
        refine cell_of_see (View.see_put_same _ _ _) ?_
        simpa [putL] using hv
      match i, hi with
      | 0, _ => exact ⟨_, _, rfl, cellsAt_one.2 (hcell 0 _ rfl), s, rfl, (h.mono hV2).mono hp⟩
      | 1, _ => exact ⟨_, _, rfl, cellsAt_one.2 (hcell 1 _ rfl), o, rfl, (hb2.slR (W := V2) (u8s_rep _) (View.Le.refl _)).mono hp⟩
    have hnl := numL_len k
    refine (concat8_ok hin (by simp; omega)).mono ?_
    rintro r4 V4 ⟨x, rfl, hx⟩
    refine ⟨x, rfl, x, rfl, ?_, (hV2.trans (View.put_le hfr3)).trans hx.le⟩
    have hb4 := hx.buf
    simp only [List.flatten_cons, List.flatten_nil, List.append_nil] at hb4
    show Buf V4 x _ 1 (u8s (l ++ numI n))
    unfold numI
    rw [hk]; exact hb4
theorem text8_ok {s t : Sl} {l m : List UInt8} {V : View} (h : SlR V s l) (k : SlR V t m) (hl : l.length + m.length ≤ 140737488354000) : CallV Tryd.prog 75 ⟨[.slice s.a s.n s.c, .slice t.a t.n t.c]⟩ V fun r V' => ∃ x : Sl, r = .slice x.a x.n x.c ∧ Fresh8 V V' x (l ++ textL m) := by
  refine f75_x ?_
  unfold f75_n
  have kn := k.n
  refine (number8_ok (n := (t.n : Int)) h (by omega)).mono ?_
  rintro r V1 ⟨x, rfl, hx⟩
  have hbl := hx.buf.len
  rw [u8s_len, Nat.mul_one, List.length_append] at hbl
  have hnl := numI_len (t.n : Int)
  refine ⟨x, rfl, apV_buf (cs := u8s (l ++ numI t.n)) (src := u8s m) (m := t.n) rfl hx.buf ⟨rfl, (k.mono hx.vle).row8⟩ (by rw [u8s_len]; omega) (u8s_one _) (by show (x.n + t.n) * 1 ≤ _; omega) (by show x.n + t.n ≤ _; omega) ?_⟩
  intro y V2 hb _ hle
  refine ⟨y, rfl, ?_, hx.le.trans hle⟩
  rw [← u8s_append, List.append_assoc] at hb
  unfold textL
  rw [← kn]
  exact hb
/-- Numbers behind one another. -/
def numsL (l : List Int) : List UInt8 := (l.map numI).flatten
theorem numsL_append (l m : List Int) : numsL (l ++ m) = numsL l ++ numsL m := by simp [numsL]
theorem numsL_one (n : Int) : numsL [n] = numI n := by simp [numsL]
theorem numsL_len : ∀ l : List Int, (numsL l).length ≤ 7 * l.length
  | [] => by simp [numsL]
  | n :: l => by
    have h1 := numI_len n
    have h2 := numsL_len l
    have e : numsL (n :: l) = numI n ++ numsL l := rfl
    rw [e, List.length_append, List.length_cons]
    omega
theorem numbers8_ok {s t : Sl} {l : List UInt8} {ns : List Int} {V : View} (h : SlR V s l) (k : SlR V t ns) (hl : l.length + 7 * ns.length ≤ 140737488350000) : CallV Tryd.prog 74 ⟨[.slice s.a s.n s.c, .slice t.a t.n t.c]⟩ V fun r V' => ∃ x : Sl, r = .slice x.a x.n x.c ∧ V.Le V' ∧ SlR V' x (l ++ numsL ns) := by
  refine f74_x ?_
  unfold f74_n
  have kn := k.n
  refine loop2 (k := .sl) (l := .int .i64) (fun (x : Sl) (i : Int) V1 => 0 ≤ i ∧ i ≤ t.n ∧ V.Le V1 ∧ SlR V1 x (l ++ numsL (ns.take i.toNat))) (fun _ (i : Int) _ => t.n - i.toNat) ⟨by omega, by omega, View.Le.refl V, by simpa [numsL] using h⟩ ?_
  rintro (x : Sl) (i : Int) V1 ⟨h0, h1, hle, hx⟩
  refine br_intro (fun hlt => ?_) (fun hge => ?_)
  · have hlt : i < t.n := by simpa using hlt
    obtain ⟨ad, hi, ha, hc, hr⟩ := (k.mono hle).int h0 hlt
    have hnl := numsL_len (ns.take i.toNat)
    refine ⟨h0, hlt, ad, ha, _, hc, (number8_ok hx (by simp at hnl ⊢; omega)).mono ?_⟩
    rintro r V2 ⟨y, rfl, hy⟩
    refine ⟨y, rfl, inI64 (by omega) (by omega), ⟨by omega, by omega, hle.trans hy.vle, ?_⟩, by omega⟩
    have := hy.slR
    rw [List.append_assoc] at this
    have e : numsL (ns.take (i + 1).toNat) = numsL (ns.take i.toNat) ++ numI ns[i.toNat] := by
      rw [show (i + 1).toNat = i.toNat + 1 by omega, List.take_add_one, List.getElem?_eq_getElem hi, numsL_append]
      exact congrArg _ (numsL_one _)
    rw [e]; exact this
  · have hge : ¬ i < t.n := by simpa using hge
    rw [List.take_of_length_le (by omega)] at hx
    exact ⟨x, rfl, hle, hx⟩
end Go.Proofs.YtpalkdmngckcoaaDoor

/- Contracts of bytes.Reader. -/
namespace Go.Proofs.YtpalkdmngckcoaaDoor
open Go
/-- What a reader's cells are. -/
def RdC (V : View) (p : Nat) (s : Sl) (e : Int) : Prop := ∃ ty, V.see p = some (.cells ⟨[.slice s.a s.n s.c, .int .i64 e]⟩ ty (0, 0))
/-- A reader: what is left; none: there was an error. -/
def Rd (V : View) (p : Nat) (st : Option (List UInt8)) : Prop :=
  ∃ (s : Sl) (e : Int) (bs : List UInt8), RdC V p s e ∧ SlR (V.hide p) s bs ∧ bs.length ≤ 140737488350000 ∧ (st = some bs ∧ e = 0 ∨ st = none ∧ e = 5)
theorem RdC.c0 {V : View} {p : Nat} {s : Sl} {e : Int} (h : RdC V p s e) : V.cell? ((⟨p, 0, none⟩ : Addr).add 0) = some (.slice s.a s.n s.c) := by
  obtain ⟨ty, h⟩ := h
  exact cell_of_see h rfl
theorem RdC.c1 {V : View} {p : Nat} {s : Sl} {e : Int} (h : RdC V p s e) : V.cell? ((⟨p, 0, none⟩ : Addr).add 1) = some (.int .i64 e) := by
  obtain ⟨ty, h⟩ := h
  exact cell_of_see h rfl
theorem RdC.set1 {V : View} {p : Nat} {s : Sl} {e : Int} (h : RdC V p s e) (e' : Int) : canSet V ((⟨p, 0, none⟩ : Addr).add 1) 1 ∧ RdC (V.sets ((⟨p, 0, none⟩ : Addr).add 1) [.int .i64 e']) p s e' ∧ (V.hide p).Le ((V.sets ((⟨p, 0, none⟩ : Addr).add 1) [.int .i64 e']).hide p) := by
  obtain ⟨ty, h⟩ := h
  have e1 : (⟨p, 0, none⟩ : Addr).add 1 = ⟨p, 1, none⟩ := rfl
  rw [e1, sets_see h]
  exact ⟨canSet_of h (show 1 + 1 ≤ 2 by decide), ⟨ty, by rw [View.see_put_same]; rfl⟩, hide_le_put_hide p _⟩
theorem RdC.set0 {V : View} {p : Nat} {s : Sl} {e : Int} (h : RdC V p s e) (s' : Sl) : canSet V ((⟨p, 0, none⟩ : Addr).add 0) 1 ∧ RdC (V.sets ((⟨p, 0, none⟩ : Addr).add 0) [.slice s'.a s'.n s'.c]) p s' e ∧ (V.hide p).Le ((V.sets ((⟨p, 0, none⟩ : Addr).add 0) [.slice s'.a s'.n s'.c]).hide p) := by
  obtain ⟨ty, h⟩ := h
  have e1 : (⟨p, 0, none⟩ : Addr).add 0 = ⟨p, 0, none⟩ := rfl
  rw [e1, sets_see h]
  exact ⟨canSet_of h (show 0 + 1 ≤ 2 by decide), ⟨ty, by rw [View.see_put_same]; rfl⟩, hide_le_put_hide p _⟩
theorem Rd.mono {V V' : View} {p : Nat} {st : Option (List UInt8)} (h : Rd V p st) (hV : V.Le V') : Rd V' p st := by
  obtain ⟨s, e, bs, ⟨ty, h1⟩, h2, h3, h4⟩ := h
  have hh : (V.hide p).Le (V'.hide p) := by
    refine ⟨hV.size, fun i o ho => ?_, hV.out⟩
    unfold View.hide at *
    simp only at *
    split at ho
    · cases ho
    · rename_i hne; rw [if_neg hne]; exact hV.see i o ho
  exact ⟨s, e, bs, ⟨ty, hV.see _ _ h1⟩, h2.mono hh, h3, h4⟩
theorem off_ok {p : Nat} {st : Option (List UInt8)} {V : View} (h : Rd V p st) : CallV Tryd.prog 104 ⟨[.pointer (some ⟨p, 0, none⟩)]⟩ V fun r V' => r = .bool st.isNone ∧ V' = V := by
  refine f104_x ?_
  unfold f104_n
  obtain ⟨s, e, bs, h1, _, _, h4⟩ := h
  refine joinP_cut (fun b V' => b.1 = st.isNone ∧ V' = V) (br_intro (fun h => absurd h (by simp)) fun _ => ⟨_, rfl, _, h1.c1, ?_, rfl⟩) (fun b V' h => ⟨by rw [h.1], h.2⟩)
  rcases h4 with ⟨rfl, rfl⟩ | ⟨rfl, rfl⟩ <;> rfl
theorem err_ok {p : Nat} {st : Option (List UInt8)} {V : View} (h : Rd V p st) : CallV Tryd.prog 78 ⟨[.pointer (some ⟨p, 0, none⟩)]⟩ V fun r V' => r = .int .i64 (if st.isNone then 5 else 0) ∧ V' = V := by
  refine f78_x ?_
  unfold f78_n
  obtain ⟨s, e, bs, h1, _, _, h4⟩ := h
  refine br_intro (fun h => absurd h (by simp)) fun _ => ⟨_, rfl, _, h1.c1, ?_, rfl⟩
  rcases h4 with ⟨rfl, rfl⟩ | ⟨rfl, rfl⟩ <;> rfl
theorem left_ok {p : Nat} {bs : List UInt8} {V : View} (h : Rd V p (some bs)) : CallV Tryd.prog 79 ⟨[.pointer (some ⟨p, 0, none⟩)]⟩ V fun r V' => r = .int .i64 bs.length ∧ V' = V := by
  refine f79_x ?_
  unfold f79_n
  obtain ⟨s, e, bs', h1, h2, _, h4⟩ := h
  refine br_intro (fun h => absurd h (by simp)) fun _ => ⟨_, rfl, s, h1.c0, ?_, rfl⟩
  rcases h4 with ⟨h4, rfl⟩ | ⟨h4, _⟩
  · cases h4; rw [h2.n]
  · cases h4
theorem newReader_ok {s : Sl} {l : List UInt8} {V : View} (h : SlR V s l) (hl : l.length ≤ 140737488350000) : CallV Tryd.prog 76 ⟨[.slice s.a s.n s.c]⟩ V fun r V' => ∃ p, r = .pointer (some ⟨p, 0, none⟩) ∧ Rd V' p (some l) ∧ V.Le (V'.hide p) := by
  refine f76_x ?_
  unfold f76_n
  refine (clone8_ok h (by omega)).mono ?_
  rintro r V1 ⟨x, rfl, hx⟩
  refine ⟨x, rfl, fun b hb => ⟨b, rfl, ?_, ?_⟩⟩
  · refine ⟨x, 0, l, ⟨_, View.see_put_same _ _ _⟩, ?_, hl, .inl ⟨rfl, rfl⟩⟩
    refine hx.slR.mono ⟨Nat.le_max_left _ _, fun i o ho => ?_, rfl⟩
    have hne : i ≠ b := fun e => by rw [e, hb] at ho; cases ho
    show (if i = b then none else View.see (V1.put b _) i) = some o
    rw [if_neg hne, View.see_put_ne V1 _ hne]; exact ho
  · refine ⟨Nat.le_trans hx.vle.size (Nat.le_max_left _ _), fun i o ho => ?_, hx.vle.out⟩
    have ho1 := hx.vle.see i o ho
    have hne : i ≠ b := fun e => by rw [e, hb] at ho1; cases ho1
    show (if i = b then none else View.see (V1.put b _) i) = some o
    rw [if_neg hne, View.see_put_ne V1 _ hne]; exact ho1
/-- What 'number' answers. -/
def numR (most : Nat) (b : List UInt8) : Int × Nat := match numP most b with
  | none => (0, 0)
  | some (n, r) => (n, b.length - r.length)
theorem numGo_len (most : Nat) : ∀ (g m : Nat) (b : List UInt8) (n : Nat) (r : List UInt8), numGo most g m b = some (n, r) → ∃ k, 1 ≤ k ∧ k ≤ b.length ∧ r = b.drop k
  | 0, m, b, n, r, h => by simp [numGo] at h
  | g + 1, m, [], n, r, h => by simp [numGo] at h
  | g + 1, m, c :: b, n, r, h => by
    rw [numGo_cons] at h
    split at h
    · obtain ⟨k, h1, h2, h3⟩ := numGo_len most g _ b n r h
      exact ⟨k + 1, by omega, by simp; omega, by rw [h3]; rfl⟩
    · split at h
      · cases h
      · cases h; exact ⟨1, by omega, by simp, rfl⟩
theorem numP_len {most : Nat} {b : List UInt8} {n : Nat} {r : List UInt8} (h : numP most b = some (n, r)) : ∃ k, 1 ≤ k ∧ k ≤ b.length ∧ r = b.drop k := by
  unfold numP at h
  split at h
  · cases h
  · split at h
    · cases h
    · exact numGo_len most 6 0 _ n r h
theorem numP_le {most : Nat} {b : List UInt8} {n : Nat} {r : List UInt8} (h : numP most b = some (n, r)) : n ≤ most := (numL_numP h).1
theorem number_ok {s : Sl} {l : List UInt8} {most : Nat} {V : View} (h : SlR V s l) (_hm : most ≤ 1099511627776) : CallV Tryd.prog 105 ⟨[.slice s.a s.n s.c, .int .i64 most]⟩ V fun r V' => r = .tuple ⟨[.int .i64 (numR most l).1, .int .i64 (numR most l).2]⟩ ∧ V' = V := by
  refine f105_x ?_
  unfold f105_n
  have hn := h.n; have hc := h.c
  have e1 : (if (6 : Int) < (s.n : Int) then (6 : Int) else (s.n : Int)) = ((min 6 l.length : Nat) : Int) := by rw [hn]; split <;> omega
  have e3 : (if s.c = 0 then s.a else Option.map (fun (x : Addr) => x.add 0) s.a) = s.a := by rw [map_add_zero]; simp
  rw [e1, e3]
  simp only [Int.toNat_natCast, Nat.sub_zero]
  refine ⟨by omega, by omega, by omega, ?_⟩
  refine loop2 (k := .int .i64) (l := .int .i64) (fun (x : Int) (i : Int) V' => V' = V ∧ ∃ m k : Nat, x = m ∧ i = k ∧ k ≤ min 6 l.length ∧ m < 128 ^ k ∧ (k = 0 ∨ numP most l = numGo most (6 - k) m (l.drop k))) (fun _ (i : Int) _ => 7 - i.toNat) ⟨rfl, 0, 0, rfl, rfl, by omega, by decide, .inl rfl⟩ ?_
  rintro (x : Int) (i : Int) V' ⟨rfl, m, k, rfl, rfl, hk, hmk, hnum⟩
  have hpow : (128 : Nat) ^ k ≤ 4398046511104 := Nat.le_trans (Nat.pow_le_pow_right (by decide) (show k ≤ 6 by omega)) (by decide)
  refine br_intro (fun hlt => ?_) (fun hge => ?_)
  · have hlt : k < min 6 l.length := by simpa using hlt
    obtain ⟨ad, hx, ha, hcell⟩ := h.u8 (x := (k : Int)) (by omega) (by omega)
    refine ⟨by omega, by omega, ad, ha, _, hcell, ?_⟩
    have hx' : k < l.length := by omega
    have e2 : l[((k : Int)).toNat] = l[k] := by congr 1
    rw [e2]
    have hdrop : l.drop k = l[k] :: l.drop (k + 1) := (List.getElem_cons_drop (h := hx')).symm
    generalize l[k] = c at *
    have hc256 : c.toNat < 256 := c.toNat_lt
    refine br_intro (fun hb => ⟨?_, rfl⟩) (fun hb => ?_)
    · have hb2 : k = 0 ∧ c.toNat = 128 := by simp at hb; omega
      obtain ⟨rfl, hb2⟩ := hb2
      have : numP most l = none := by
        rw [List.drop_zero] at hdrop
        rw [hdrop]
        unfold numP
        simp only
        rw [if_pos hb2]
      unfold numR
      rw [this]
      rfl
    · have hstep : numP most l = if 128 ≤ c.toNat then numGo most (6 - (k + 1)) (m * 128 + c.toNat % 128) (l.drop (k + 1)) else if most < m * 128 + c.toNat % 128 then none else some (m * 128 + c.toNat % 128, l.drop (k + 1)) := by
        have h6 : 6 - k = (6 - (k + 1)) + 1 := by omega
        rcases hnum with rfl | hnum
        · have hne : c.toNat ≠ 128 := fun e => by simp [e] at hb
          have hm0 : m = 0 := by simpa using hmk
          subst hm0
          rw [List.drop_zero] at hdrop
          have : numP most l = numGo most 6 0 l := by
            rw [hdrop]
            unfold numP
            simp only
            rw [if_neg hne]
          rw [this]
          conv => lhs; rw [hdrop]
          exact numGo_cons most 5 0 c _
        · rw [hnum, hdrop, h6, numGo_cons]
      have etm : Int.tmod (c.toNat : Int) 128 = ((c.toNat % 128 : Nat) : Int) := by rw [Int.tmod_eq_emod_of_nonneg (by omega)]; omega
      rw [etm]
      refine ⟨inI64 (by omega) (by omega), inI64 (by omega) (by omega), by decide, inI64 (by omega) (by omega), br_intro (fun h128 => ?_) (fun h128 => ?_)⟩
      · have h128 : 128 ≤ c.toNat := by have := of_decide_eq_true h128; omega
        rw [if_pos h128] at hstep
        refine ⟨inI64 (by omega) (by omega), ⟨rfl, m * 128 + c.toNat % 128, k + 1, by omega, by omega, by omega, by rw [Nat.pow_succ]; omega, .inr hstep⟩, by omega⟩
      · have h128 : ¬ 128 ≤ c.toNat := by have := of_decide_eq_false h128; omega
        rw [if_neg h128] at hstep
        refine br_intro (fun hgt => ⟨?_, rfl⟩) (fun hgt => ⟨inI64 (by omega) (by omega), ?_, rfl⟩)
        · rw [if_pos (by simp at hgt; omega)] at hstep
          unfold numR
          rw [hstep]
          rfl
        · rw [if_neg (by simp at hgt; omega)] at hstep
          unfold numR
          rw [hstep]
          simp only [List.length_drop]
          have e4 : l.length - (l.length - (k + 1)) = k + 1 := by omega
          rw [e4]
          congr 2
  · have hge : ¬ k < min 6 l.length := by simpa using hge
    refine ⟨?_, rfl⟩
    have : numP most l = none := by
      rcases hnum with rfl | hnum
      · have : l = [] := List.eq_nil_of_length_eq_zero (by omega)
        subst this; rfl
      · rw [hnum]
        by_cases h6 : k = 6
        · subst h6; simp [numGo]
        · have : l.drop k = [] := List.drop_of_length_le (by omega)
          rw [this]
          cases 6 - k <;> rfl
    unfold numR
    rw [this]
    rfl
/-- A reader's number. -/
def rdN (st : Option (List UInt8)) (most : Nat) : Int × Option (List UInt8) := match st with
  | none => (0, none)
  | some b => match numP most b with
    | none => (0, none)
    | some (n, r) => (n, some r)
def rdT (st : Option (List UInt8)) (most : Nat) : List UInt8 × Option (List UInt8) := match st with
  | none => ([], none)
  | some b => match textP most b with
    | none => ([], none)
    | some (t, r) => (t, some r)
theorem rdN_range (st : Option (List UInt8)) (most : Nat) : 0 ≤ (rdN st most).1 ∧ (rdN st most).1 ≤ most := by
  unfold rdN
  split
  · exact ⟨by simp, by simp⟩
  · split
    · exact ⟨by simp, by simp⟩
    · rename_i h; have := numP_le h; exact ⟨by simp, by simpa using this⟩
theorem sub_from {V : View} {s : Sl} {l : List UInt8} (h : SlR V s l) {k : Nat} (hk : k ≤ l.length) : SlR V ⟨if s.c = k then s.a else Option.map (fun (x : Addr) => x.add (k * 1)) s.a, s.n - k, s.c - k⟩ (l.drop k) := by
  have := h.sub (i := k) (j := l.length) hk (Nat.le_refl _)
  rw [List.take_length] at this
  rw [h.n]
  exact this
theorem rdNumber_ok {p : Nat} {st : Option (List UInt8)} {most : Nat} {V : View} (h : Rd V p st) (hm : most ≤ 1099511627776) : CallV Tryd.prog 91 ⟨[.pointer (some ⟨p, 0, none⟩), .int .i64 most]⟩ V fun r V' => r = .int .i64 (rdN st most).1 ∧ Rd V' p (rdN st most).2 ∧ (V.hide p).Le (V'.hide p) := by
  refine f91_x ?_
  unfold f91_n
  refine (off_ok h).mono ?_
  rintro r V' ⟨rfl, rfl⟩
  refine ⟨_, rfl, ?_⟩
  obtain ⟨s, e, bs, h1, h2, h3, h4⟩ := h
  rcases h4 with ⟨rfl, rfl⟩ | ⟨rfl, rfl⟩
  · refine br_intro (fun h => absurd h (by simp)) fun _ => ?_
    refine ⟨_, rfl, s, h1.c0, (number_ok (h2.mono (View.hide_le _ _)) hm).mono ?_⟩
    rintro r V1 ⟨rfl, rfl⟩
    refine ⟨_, _, rfl, ?_⟩
    have hn := h2.n; have hc := h2.c
    cases hp : numP most bs with
    | none =>
      have hR : numR most bs = (0, 0) := by unfold numR; rw [hp]
      have hD : rdN (some bs) most = (0, none) := by simp only [rdN, hp]
      rw [hR, hD]
      obtain ⟨k1, k2, k3⟩ := h1.set1 5
      refine joinP_cut (fun _ V2 => RdC V2 p s 5 ∧ (V1.hide p).Le (V2.hide p)) (br_intro (fun _ => ⟨_, rfl, k1, k2, k3⟩) (fun h => absurd h (by decide))) ?_
      rintro ⟨⟩ V2 ⟨j1, j2⟩
      obtain ⟨m1, m2, m3⟩ := j1.set0 ⟨if s.c = 0 then s.a else Option.map (fun (x : Addr) => x.add (0 * 1)) s.a, s.n - 0, s.c - 0⟩
      refine ⟨_, rfl, s, j1.c0, by omega, by omega, by omega, _, rfl, m1, rfl, ⟨_, 5, bs, m2, ?_, h3, .inr ⟨rfl, rfl⟩⟩, j2.trans m3⟩
      have := (sub_from h2 (Nat.zero_le _)).mono (j2.trans m3)
      rw [List.drop_zero] at this
      exact this
    | some q =>
      obtain ⟨n, r⟩ := q
      obtain ⟨k, k1, k2, rfl⟩ := numP_len hp
      have hk : bs.length - (bs.drop k).length = k := by rw [List.length_drop]; omega
      have hR : numR most bs = ((n : Int), k) := by unfold numR; rw [hp]; simp only; rw [hk]
      have hD : rdN (some bs) most = ((n : Int), some (bs.drop k)) := by simp only [rdN, hp]
      rw [hR, hD]
      refine joinP_cut (fun _ V2 => V2 = V1) (br_intro (fun h => absurd h (by simp; omega)) (fun _ => rfl)) ?_
      rintro ⟨⟩ V2 rfl
      obtain ⟨m1, m2, m3⟩ := h1.set0 ⟨if s.c = k then s.a else Option.map (fun (x : Addr) => x.add (k * 1)) s.a, s.n - k, s.c - k⟩
      refine ⟨_, rfl, s, h1.c0, by omega, by omega, by omega, _, rfl, m1, rfl, ⟨_, 0, bs.drop k, m2, (sub_from h2 k2).mono m3, by simp; omega, .inl ⟨rfl, rfl⟩⟩, m3⟩
  · refine br_intro (fun _ => ⟨rfl, ⟨s, 5, bs, h1, h2, h3, .inr ⟨rfl, rfl⟩⟩, View.Le.refl _⟩) (fun h => absurd h (by simp))
/-- A call that does not need block p leaves it as it was. -/
theorem CallV.beside {P : Program} {f : FuncId} {args : Array Value} {V : View} {p : Nat} {K : Value → View → Prop} {o : Obj} (h : CallV P f args (V.hide p) K) (ho : V.see p = some o) :
    CallV P f args V fun r V' => ∃ U', K r U' ∧ U'.Le (V'.hide p) ∧ V'.see p = some o := by
  refine (CallV.frame (View.hide_le V p) h).mono ?_
  rintro r V' ⟨U', hk, hle, hrest⟩
  have hp : (V.hide p).see p = none := by simp [View.hide]
  obtain ⟨h1, h2⟩ := hrest p o hp ho
  refine ⟨U', hk, ⟨hle.size, fun i x hx => ?_, hle.out⟩, h1⟩
  have hne : i ≠ p := fun e => by rw [e, h2] at hx; cases hx
  show (if i = p then none else View.see V' i) = some x
  rw [if_neg hne]; exact hle.see i x hx
theorem rdText_ok {p : Nat} {st : Option (List UInt8)} {most : Nat} {V : View} (h : Rd V p st) (hm : most ≤ 1099511627776) : CallV Tryd.prog 92 ⟨[.pointer (some ⟨p, 0, none⟩), .int .i64 most]⟩ V fun r V' =>
    ∃ x : Sl, r = .slice x.a x.n x.c ∧ SlR (V'.hide p) x (rdT st most).1 ∧ Rd V' p (rdT st most).2 ∧ (V.hide p).Le (V'.hide p) := by
  refine f92_x ?_
  unfold f92_n
  refine (off_ok h).mono ?_
  rintro r V' ⟨rfl, rfl⟩
  refine ⟨_, rfl, ?_⟩
  obtain ⟨s, e, bs, h1, h2, h3, h4⟩ := h
  rcases h4 with ⟨rfl, rfl⟩ | ⟨rfl, rfl⟩
  · refine br_intro (fun h => absurd h (by simp)) fun _ => ?_
    refine ⟨_, rfl, s, h1.c0, (number_ok (h2.mono (View.hide_le _ _)) hm).mono ?_⟩
    rintro r V1 ⟨rfl, rfl⟩
    refine ⟨_, _, rfl, ?_⟩
    have hn := h2.n; have hc := h2.c
    have bad : rdT (some bs) most = ([], none) → ∃ (a : Addr), (some ⟨p, 0, none⟩ : Option Addr) = some a ∧ canSet V1 (Addr.add a 1) 1 ∧
        ∃ x : Sl, Value.slice none 0 0 = .slice x.a x.n x.c ∧ SlR ((V1.sets (Addr.add a 1) [.int .i64 5]).hide p) x (rdT (some bs) most).1 ∧ Rd (V1.sets (Addr.add a 1) [.int .i64 5]) p (rdT (some bs) most).2 ∧ (V1.hide p).Le ((V1.sets (Addr.add a 1) [.int .i64 5]).hide p) := by
      intro hb
      rw [hb]
      obtain ⟨k1, k2, k3⟩ := h1.set1 5
      exact ⟨_, rfl, k1, ⟨none, 0, 0⟩, rfl, SlR.nil _ _ _, ⟨s, 5, bs, k2, h2.mono k3, h3, .inr ⟨rfl, rfl⟩⟩, k3⟩
    cases hp : numP most bs with
    | none =>
      have hb : rdT (some bs) most = ([], none) := by simp only [rdT, textP, hp]
      have hR : numR most bs = (0, 0) := by unfold numR; rw [hp]
      rw [hR]
      refine joinP_cut (fun b V2 => b.1 = true ∧ V2 = V1) (br_intro (fun _ => ⟨rfl, rfl⟩) (fun h => absurd h (by decide))) ?_
      rintro ⟨b, ⟨⟩⟩ V2 ⟨hb1, hV⟩
      simp only at hb1 hV
      subst hb1 hV
      simp only [unc]
      exact br_intro (fun _ => bad hb) (fun h => absurd h (by decide))
    | some q =>
      obtain ⟨n, r⟩ := q
      obtain ⟨k, k1, k2, rfl⟩ := numP_len hp
      have hk : bs.length - (bs.drop k).length = k := by rw [List.length_drop]; omega
      have hnm := numP_le hp
      have hR : numR most bs = ((n : Int), k) := by unfold numR; rw [hp]; simp only; rw [hk]
      rw [hR]
      refine joinP_cut (fun b V2 => b.1 = decide (bs.length - k < n) ∧ V2 = V1) (br_intro (fun h => absurd h (by simp; omega)) (fun _ => ⟨_, rfl, s, h1.c0, inI64 (by omega) (by omega), ?_, rfl⟩)) ?_
      · show decide (((s.n : Int) - k) < n) = decide (bs.length - k < n)
        rw [hn]
        congr 1
        apply propext
        omega
      rintro ⟨b, ⟨⟩⟩ V2 ⟨hb1, hV⟩
      simp only at hb1 hV
      subst hb1 hV
      simp only [unc]
      refine br_intro (fun hlt => bad ?_) (fun hge => ?_)
      · have hlt : bs.length - k < n := by simpa using hlt
        simp only [rdT, textP, hp]
        rw [if_pos (by simp; omega)]
      · have hge : ¬ bs.length - k < n := by simpa using hge
        have hgood : rdT (some bs) most = ((bs.drop k).take n, some ((bs.drop k).drop n)) := by
          simp only [rdT, textP, hp]
          rw [if_neg (by simp; omega)]
        rw [hgood]
        have hsub := h2.sub (i := k) (j := k + n) (by omega) (by omega)
        have e1 : ((k : Int) + (n : Int)).toNat - ((k : Int)).toNat = (k + n) - k := by omega
        refine ⟨_, rfl, s, h1.c0, inI64 (by omega) (by omega), by omega, by omega, by omega, ?_⟩
        rw [e1]
        have hcl := clone8_ok hsub (by simp; omega)
        obtain ⟨ty, hsee⟩ := h1
        refine (CallV.beside hcl hsee).mono ?_
        rintro r V3 ⟨U, ⟨x, rfl, hx⟩, hU, hsee3⟩
        have hU2 : (V2.hide p).Le (V3.hide p) := hx.vle.trans hU
        obtain ⟨m1, m2, m3⟩ := RdC.set0 (V := V3) (p := p) (s := s) (e := 0) ⟨ty, hsee3⟩ ⟨if s.c = k + n then s.a else Option.map (fun (x : Addr) => x.add ((k + n) * 1)) s.a, s.n - (k + n), s.c - (k + n)⟩
        have e2 : ((k : Int) + (n : Int)).toNat = k + n := by omega
        rw [e2]
        refine ⟨x, rfl, _, rfl, s, RdC.c0 ⟨ty, hsee3⟩, inI64 (by omega) (by omega), by omega, by omega, by omega, _, rfl, m1, x, rfl, ?_, ⟨_, 0, (bs.drop k).drop n, m2, ?_, by simp; omega, .inl ⟨rfl, rfl⟩⟩, hU2.trans m3⟩
        · have h5 := (hx.slR.mono hU).mono m3
          rw [List.drop_take, show k + n - k = n by omega] at h5
          exact h5
        · have h6 := (sub_from h2 (k := k + n) (by omega)).mono (hU2.trans m3)
          rw [List.drop_drop]
          exact h6
  · refine br_intro (fun _ => ⟨⟨none, 0, 0⟩, rfl, SlR.nil _ _ _, ⟨s, 5, bs, h1, h2, h3, .inr ⟨rfl, rfl⟩⟩, View.Le.refl _⟩) (fun h => absurd h (by simp))
end Go.Proofs.YtpalkdmngckcoaaDoor
