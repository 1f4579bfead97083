/- Texts joined: Shelf, Lib, PathOk, ReadOk, ReadNOk, RootLaw, RootOk, EqOk, AwakeOk, FindOk, BackLaw, RootCutOk, Dir1Ok, TreeLaw, Dir2Ok, Dir3Ok, DrFast, RootBackOk, Dir4Ok, BitsLaw, Ref3Ok, Put3Ok, Ref4Ok, Dir5Ok, CopXOk, WalkLaw, WalksLaw, WalkOk, RootClearsOk, DirWalksOk, TrLaw, TreOk, Tr1Law, Tr2Ok, Tr3Ok, Tr4Ok, Tr5Ok, Tr2Law, Tr3Law, Tr4Law. -/
import Derived.Shelf.Strings.Builder1
import Derived.Shelf.Strings.Builder2
import Derived.Shelf.Strings.OnBuilder
import Derived.Shelf.Small.Wraps
import Derived.Shelf.Strings.Search1
import Derived.Shelf.Strings.Search2
import Derived.Shelf.Strings.Search3
import Derived.Shelf.Strings.Count
import Derived.Shelf.LaysM
import Derived.Shelf.Strings.Shaped
import Derived.Shelf.Strings.Prefix
import Derived.Shelf.Strings.Split
import Derived.Shelf.Strings.SplitShaped
import Derived.Shelf.Bits.Mul64
import Derived.Shelf.Unicode.DecodeSlow
import Derived.Test.YtoogangnldppaaaGreatDoorProg
import Derived.Test.YtoogangnldppaaaGreatDoorPk1
import Derived.Test.YtoogangnldppaaaGreatDoorPk3
import Derived.Test.YtoogangnldppaaaGreatDoorSoundC
import Derived.Test.YtoogangnldppaaaGreatDoorCore
set_option linter.unusedVariables false
/- Contracts of the library's functions at this seat's program: laid by the kit's own tools (lay-shelf, lay-plain), those that are used. -/
namespace Go.Proofs
open Go.Shelf
def Tryz.lays156_ren : Go.Shelf.Ren := ⟨fun | 156 => 199 | 165 => 205 | 166 => 206 | 169 => 207 | 240 => 213 | 241 => 214 | 276 => 217 | 277 => 218 | n => n, fun | 31 => 30 | 9 => 9 | 3 => 3 | 4 => 4 | 0 => 0 | 20 => 20 | 72 => 205 | 76 => 209 | 70 => 203 | 37 => 23 | 75 => 208 | 127 => 212 | 164 => 218 | 5 => 5 | 80 => 211 | n => n, fun | n => n⟩
theorem Tryz.lays156 : Go.Proofs.Lays.n156 Tryz.prog Tryz.lays156_ren := {
  mixed := by kernel_rfl
  f156 := Tryz.func199.trans (congrArg some (by kernel_rfl))
  f165 := Tryz.func205.trans (congrArg some (by kernel_rfl))
  f166 := Tryz.func206.trans (congrArg some (by kernel_rfl))
  f169 := Tryz.func207.trans (congrArg some (by kernel_rfl))
  f240 := Tryz.func213.trans (congrArg some (by kernel_rfl))
  f241 := Tryz.func214.trans (congrArg some (by kernel_rfl))
  f276 := Tryz.func217.trans (congrArg some (by kernel_rfl))
  f277 := Tryz.func218.trans (congrArg some (by kernel_rfl))
  t0 := Tryz.underlying0
  a0 := Tryz.isAgg0
  z0 := Tryz.sizeOf0
  v0 := Tryz.zeroValue0
  t3 := Tryz.underlying3
  a3 := Tryz.isAgg3
  z3 := Tryz.sizeOf3
  v3 := Tryz.zeroValue3
  t4 := Tryz.underlying4
  a4 := Tryz.isAgg4
  z4 := Tryz.sizeOf4
  v4 := Tryz.zeroValue4
  t9 := Tryz.underlying9
  a9 := Tryz.isAgg9
  z9 := Tryz.sizeOf9
  v9 := Tryz.zeroValue9
  t20 := Tryz.underlying20
  a20 := Tryz.isAgg20
  z20 := Tryz.sizeOf20
  v20 := Tryz.zeroValue20
  t31 := Tryz.underlying30
  a31 := Tryz.isAgg30
  z31 := Tryz.sizeOf30
  v31 := Tryz.zeroValue30
  t37 := Tryz.underlying23
  a37 := Tryz.isAgg23
  z37 := Tryz.sizeOf23
  v37 := Tryz.zeroValue23
  t70 := Tryz.underlying203
  a70 := Tryz.isAgg203
  z70 := Tryz.sizeOf203
  v70 := Tryz.zeroValue203
  t72 := Tryz.underlying205
  a72 := Tryz.isAgg205
  z72 := Tryz.sizeOf205
  v72 := Tryz.zeroValue205
  t75 := Tryz.underlying208
  a75 := Tryz.isAgg208
  z75 := Tryz.sizeOf208
  v75 := Tryz.zeroValue208
  t76 := Tryz.underlying209
  a76 := Tryz.isAgg209
  z76 := Tryz.sizeOf209
  v76 := Tryz.zeroValue209
  t127 := Tryz.underlying212
  a127 := Tryz.isAgg212
  z127 := Tryz.sizeOf212
  v127 := Tryz.zeroValue212
  t164 := Tryz.underlying218
  a164 := Tryz.isAgg218
  z164 := Tryz.sizeOf218
  v164 := Tryz.zeroValue218 }
theorem Tryz.Builder_Extra_156 : Builder.Extra Tryz.prog Tryz.lays156_ren := {
  sizeBuilder := by kernel_rfl
  liesBuilder := by kernel_rfl
  t5 := Tryz.underlying5
  a5 := Tryz.isAgg5
  z5 := Tryz.sizeOf5
  v5 := Tryz.zeroValue5
  infoByte := by kernel_rfl
  cellsByte := by kernel_rfl
  sizeByte := by kernel_rfl
  neB5 := by decide }
open Go.RowKit in
theorem Tryz.strings_Join_none (a : Option Addr) (c : Nat) (sep : ByteArray) (w : World) :
    Calls Tryz.prog 199 #[.slice a 0 c, .string sep] w fun e w' => e = .returned (.string ⟨#[]⟩) ∧ w' = w := Any.strings_Join_none Tryz.lays156 Tryz.Builder_Extra_156 a c sep w
open Go.RowKit in
theorem Tryz.strings_Join (bk o c : Nat) (xs : List ByteArray) (sep : ByteArray) (w : World) (hcells : ∀ (j : Nat) x, xs[j]? = some x → w.cell? ⟨bk, o + j, none⟩ = some (.string x)) (hbk : bk < w.heap.size) (hN : xs.length ≤ 140737488355328) (hcap : xs.length ≤ c) (hlen : (Lib.join (xs.map (·.data.toList)) sep.data.toList).length ≤ 140737488355328) :
    Calls Tryz.prog 199 #[.slice (some ⟨bk, o, none⟩) xs.length c, .string sep] w fun e w' => e = .returned (.string ⟨(Lib.join (xs.map (·.data.toList)) sep.data.toList).toArray⟩) ∧ Below w.heap.size w w' := Any.strings_Join Tryz.lays156 Tryz.Builder_Extra_156 bk o c xs sep w hcells hbk hN hcap hlen
def Tryz.lays103_ren : Go.Shelf.Ren := ⟨fun | 103 => 174 | 210 => 188 | 206 => 195 | n => n, fun | 9 => 9 | 4 => 4 | 24 => 177 | 3 => 3 | n => n, fun | n => n⟩
theorem Tryz.lays103 : Go.Proofs.Lays.n103 Tryz.prog Tryz.lays103_ren := {
  mixed := by kernel_rfl
  f103 := Tryz.func174.trans (congrArg some (by kernel_rfl))
  f206 := Tryz.func195.trans (congrArg some (by kernel_rfl))
  f210 := Tryz.func188.trans (congrArg some (by kernel_rfl))
  t3 := Tryz.underlying3
  a3 := Tryz.isAgg3
  z3 := Tryz.sizeOf3
  v3 := Tryz.zeroValue3
  t4 := Tryz.underlying4
  a4 := Tryz.isAgg4
  z4 := Tryz.sizeOf4
  v4 := Tryz.zeroValue4
  t9 := Tryz.underlying9
  a9 := Tryz.isAgg9
  z9 := Tryz.sizeOf9
  v9 := Tryz.zeroValue9
  t24 := Tryz.underlying177
  a24 := Tryz.isAgg177
  z24 := Tryz.sizeOf177
  v24 := Tryz.zeroValue177 }
open Go.RowKit in
theorem Tryz.strings_CutPrefix (s p : ByteArray) (w : World) :
    Calls Tryz.prog 174 #[.string s, .string p] w fun e w' => e = .returned (.tuple #[.string ⟨(Lib.trimPrefix s.data.toList p.data.toList).toArray⟩, .bool (Lib.hasPrefix s.data.toList p.data.toList)]) ∧ w' = w := Any.strings_CutPrefix Tryz.lays103 s p w
def Tryz.lays146_ren : Go.Shelf.Ren := ⟨fun | 146 => 175 | 221 => 189 | 268 => 196 | 138 => 197 | 143 => 198 | 195 => 201 | 197 => 202 | 218 => 203 | 219 => 204 | 260 => 208 | 217 => 209 | 225 => 210 | 224 => 211 | 267 => 212 | 266 => 215 | 314 => 216 | n => n, fun | 9 => 9 | 31 => 30 | 3 => 3 | 4 => 4 | 0 => 0 | 105 => 200 | 21 => 21 | 5 => 5 | 46 => 129 | 119 => 213 | 139 => 216 | 138 => 215 | 146 => 154 | 51 => 153 | n => n, fun | 1 => 0 | 3 => 1 | 4 => 2 | n => n⟩
theorem Tryz.lays146 : Go.Proofs.Lays.n146 Tryz.prog Tryz.lays146_ren := {
  mixed := by kernel_rfl
  f138 := Tryz.func197.trans (congrArg some (by kernel_rfl))
  f143 := Tryz.func198.trans (congrArg some (by kernel_rfl))
  f146 := Tryz.func175.trans (congrArg some (by kernel_rfl))
  f195 := Tryz.func201.trans (congrArg some (by kernel_rfl))
  f197 := Tryz.func202.trans (congrArg some (by kernel_rfl))
  f217 := Tryz.func209.trans (congrArg some (by kernel_rfl))
  f218 := Tryz.func203.trans (congrArg some (by kernel_rfl))
  f219 := Tryz.func204.trans (congrArg some (by kernel_rfl))
  f221 := Tryz.func189.trans (congrArg some (by kernel_rfl))
  f224 := Tryz.func211.trans (congrArg some (by kernel_rfl))
  f225 := Tryz.func210.trans (congrArg some (by kernel_rfl))
  f260 := Tryz.func208.trans (congrArg some (by kernel_rfl))
  f266 := Tryz.func215.trans (congrArg some (by kernel_rfl))
  f267 := Tryz.func212.trans (congrArg some (by kernel_rfl))
  f268 := Tryz.func196.trans (congrArg some (by kernel_rfl))
  f314 := Tryz.func216.trans (congrArg some (by kernel_rfl))
  t0 := Tryz.underlying0
  a0 := Tryz.isAgg0
  z0 := Tryz.sizeOf0
  v0 := Tryz.zeroValue0
  t3 := Tryz.underlying3
  a3 := Tryz.isAgg3
  z3 := Tryz.sizeOf3
  v3 := Tryz.zeroValue3
  t4 := Tryz.underlying4
  a4 := Tryz.isAgg4
  z4 := Tryz.sizeOf4
  v4 := Tryz.zeroValue4
  t5 := Tryz.underlying5
  a5 := Tryz.isAgg5
  z5 := Tryz.sizeOf5
  v5 := Tryz.zeroValue5
  t9 := Tryz.underlying9
  a9 := Tryz.isAgg9
  z9 := Tryz.sizeOf9
  v9 := Tryz.zeroValue9
  t21 := Tryz.underlying21
  a21 := Tryz.isAgg21
  z21 := Tryz.sizeOf21
  v21 := Tryz.zeroValue21
  t31 := Tryz.underlying30
  a31 := Tryz.isAgg30
  z31 := Tryz.sizeOf30
  v31 := Tryz.zeroValue30
  t46 := Tryz.underlying129
  a46 := Tryz.isAgg129
  z46 := Tryz.sizeOf129
  v46 := Tryz.zeroValue129
  t51 := Tryz.underlying153
  a51 := Tryz.isAgg153
  z51 := Tryz.sizeOf153
  v51 := Tryz.zeroValue153
  t105 := Tryz.underlying200
  a105 := Tryz.isAgg200
  z105 := Tryz.sizeOf200
  v105 := Tryz.zeroValue200
  t119 := Tryz.underlying213
  a119 := Tryz.isAgg213
  z119 := Tryz.sizeOf213
  t138 := Tryz.underlying215
  a138 := Tryz.isAgg215
  z138 := Tryz.sizeOf215
  v138 := Tryz.zeroValue215
  t139 := Tryz.underlying216
  a139 := Tryz.isAgg216
  z139 := Tryz.sizeOf216
  v139 := Tryz.zeroValue216
  t146 := Tryz.underlying154
  a146 := Tryz.isAgg154
  z146 := Tryz.sizeOf154
  v146 := Tryz.zeroValue154
  g1 := by kernel_rfl
  g3 := by kernel_rfl
  g4 := by kernel_rfl }
open Go.RowKit Go.Lib in
theorem Tryz.strings_Split (s sep : ByteArray) (m : Int) (w : World) (hs : s.size < 4294967281) (hm : w.cell? ⟨0, 0, none⟩ = some (.int .i64 m)) (h1 : 1 ≤ sep.size) :
    Calls Tryz.prog 175 #[.string s, .string sep] w fun e w' =>
      e = .returned (.slice (some ⟨w.heap.size, 0, none⟩) (Lib.countB s sep + 1) (Lib.countB s sep + 1)) ∧ w' = w.alloc (.cells ((Lib.splitB sep 0 (Lib.countB s sep) s).map Value.string).toArray 9) := Any.strings_Split Tryz.lays146 (by kernel_rfl) s sep m w hs hm h1
def Tryz.laysM146_ren : Go.Shelf.Ren := ⟨fun | 146 => 175 | 221 => 189 | 268 => 196 | 138 => 197 | 143 => 198 | 195 => 201 | 197 => 202 | 218 => 203 | 219 => 204 | 260 => 208 | 217 => 209 | 225 => 210 | 224 => 211 | 267 => 212 | 266 => 215 | 314 => 216 | n => n, fun | 9 => 9 | 31 => 30 | 3 => 3 | 4 => 4 | 0 => 0 | 105 => 200 | 21 => 21 | 5 => 5 | 46 => 129 | 119 => 213 | 139 => 216 | 138 => 215 | 146 => 154 | 51 => 153 | n => n, fun | 1 => 0 | 3 => 1 | 4 => 2 | n => n⟩
theorem Tryz.laysM146 : Go.Proofs.LaysM.n146 Tryz.prog Tryz.laysM146_ren := {
  mixed := by kernel_rfl
  f138 := Tryz.func197.trans (congrArg some (by kernel_rfl))
  f143 := Tryz.func198.trans (congrArg some (by kernel_rfl))
  f146 := Tryz.func175.trans (congrArg some (by kernel_rfl))
  f195 := Tryz.func201.trans (congrArg some (by kernel_rfl))
  f197 := Tryz.func202.trans (congrArg some (by kernel_rfl))
  f217 := Tryz.func209.trans (congrArg some (by kernel_rfl))
  f218 := Tryz.func203.trans (congrArg some (by kernel_rfl))
  f219 := Tryz.func204.trans (congrArg some (by kernel_rfl))
  f221 := Tryz.func189.trans (congrArg some (by kernel_rfl))
  f224 := Tryz.func211.trans (congrArg some (by kernel_rfl))
  f225 := Tryz.func210.trans (congrArg some (by kernel_rfl))
  f260 := Tryz.func208.trans (congrArg some (by kernel_rfl))
  f266 := Tryz.func215.trans (congrArg some (by kernel_rfl))
  f267 := Tryz.func212.trans (congrArg some (by kernel_rfl))
  f268 := Tryz.func196.trans (congrArg some (by kernel_rfl))
  f314 := Tryz.func216.trans (congrArg some (by kernel_rfl))
  t0 := Tryz.underlying0
  a0 := Tryz.isAgg0
  z0 := Tryz.sizeOf0
  v0 := Tryz.zeroValue0
  t3 := Tryz.underlying3
  a3 := Tryz.isAgg3
  z3 := Tryz.sizeOf3
  v3 := Tryz.zeroValue3
  t4 := Tryz.underlying4
  a4 := Tryz.isAgg4
  z4 := Tryz.sizeOf4
  v4 := Tryz.zeroValue4
  t5 := Tryz.underlying5
  a5 := Tryz.isAgg5
  z5 := Tryz.sizeOf5
  v5 := Tryz.zeroValue5
  t9 := Tryz.underlying9
  a9 := Tryz.isAgg9
  z9 := Tryz.sizeOf9
  v9 := Tryz.zeroValue9
  t21 := Tryz.underlying21
  a21 := Tryz.isAgg21
  z21 := Tryz.sizeOf21
  v21 := Tryz.zeroValue21
  t31 := Tryz.underlying30
  a31 := Tryz.isAgg30
  z31 := Tryz.sizeOf30
  v31 := Tryz.zeroValue30
  t46 := Tryz.underlying129
  a46 := Tryz.isAgg129
  z46 := Tryz.sizeOf129
  v46 := Tryz.zeroValue129
  t51 := Tryz.underlying153
  a51 := Tryz.isAgg153
  z51 := Tryz.sizeOf153
  v51 := Tryz.zeroValue153
  t105 := Tryz.underlying200
  a105 := Tryz.isAgg200
  z105 := Tryz.sizeOf200
  v105 := Tryz.zeroValue200
  t119 := Tryz.underlying213
  a119 := Tryz.isAgg213
  z119 := Tryz.sizeOf213
  t138 := Tryz.underlying215
  a138 := Tryz.isAgg215
  z138 := Tryz.sizeOf215
  v138 := Tryz.zeroValue215
  t139 := Tryz.underlying216
  a139 := Tryz.isAgg216
  z139 := Tryz.sizeOf216
  v139 := Tryz.zeroValue216
  t146 := Tryz.underlying154
  a146 := Tryz.isAgg154
  z146 := Tryz.sizeOf154
  v146 := Tryz.zeroValue154
  g1 := by kernel_rfl
  g3 := by kernel_rfl
  g4 := by kernel_rfl
  i0 := by kernel_rfl
  i3 := by kernel_rfl
  i4 := by kernel_rfl
  i5 := by kernel_rfl
  i9 := by kernel_rfl
  i21 := by kernel_rfl
  i31 := by kernel_rfl
  i46 := by kernel_rfl
  i51 := by kernel_rfl
  i105 := by kernel_rfl
  i138 := by kernel_rfl
  i139 := by kernel_rfl
  i146 := by kernel_rfl
  m1 := by kernel_rfl
  s1_3 := fun w h => Go.Proofs.cell_of_shapedOpen_int (zero := #[.int .i64 0]) (t := 3) h (of_decide_eq_true (by kernel_rfl)) (by kernel_rfl) rfl (by kernel_rfl) (by kernel_rfl) Tryz.underlying3
  m3 := by kernel_rfl
  m4 := by kernel_rfl }
end Go.Proofs

/- Contracts of the library's functions over views. -/
namespace Go.Proofs.YtoogangnldppaaaGreatDoor
open Go Go.RowKit
/-- What is asked of the variables: internal/bytealg.MaxLen holds some number. -/
def Glo (V : View) : Prop := ∃ m : Int, V.cell? ⟨0, 0, none⟩ = some (.int .i64 m)
theorem Glo.mono {V V' : View} (h : V.Le V') (g : Glo V) : Glo V' := let ⟨m, hm⟩ := g; ⟨m, h.cell hm⟩
theorem CallV.quiet {P : Program} {f : FuncId} {args : Array Value} {V : View} {r : Value} (he : Enters P f) (h : ∀ w, V.In w → Calls P f args w fun e w' => e = .returned r ∧ w' = w) :
    CallV P f args V fun r' V' => r' = r ∧ V' = V :=
  ⟨he, fun w hw => (h w hw).mono fun e w' ⟨h1, h2⟩ => ⟨r, V, h1, by rw [h2]; exact hw, by rw [h2]; exact Fr.refl V w, rfl, rfl⟩⟩
theorem CallV.below {P : Program} {f : FuncId} {args : Array Value} {V : View} {r : Value} (he : Enters P f) (h : ∀ w, V.In w → Calls P f args w fun e w' => e = .returned r ∧ Below w.heap.size w w') :
    CallV P f args V fun r' V' => r' = r ∧ V' = V :=
  ⟨he, fun w hw => (h w hw).mono fun e w' ⟨h1, h2⟩ => ⟨r, V, h1,
    ⟨Nat.le_trans hw.size h2.size, fun i o ho => by
      have := hw.see i o ho
      rw [h2.block i (lt_of_some this)]; exact this, by
      have := hw.out
      unfold World.outer at *
      rw [h2.os, h2.tape, h2.output]; exact this⟩, ⟨h2.size, fun i hi hn => ⟨hn, h2.block i hi⟩, fun h => (show False from h).elim⟩, rfl, rfl⟩⟩
theorem cutPrefix_ok {s : ByteArray} {V : View} : CallV Tryz.prog 174 ⟨[.string s, .string (ba [47])]⟩ V fun r V' =>
    r = .tuple ⟨[.string (ba (Lib.trimPrefix (bl s) [47])), .bool (Lib.hasPrefix (bl s) [47])]⟩ ∧ V' = V :=
  CallV.quiet (enters_of (fn := Tryz.f174) (by kernel_rfl) (by kernel_rfl) (by kernel_rfl)) fun w _ => Tryz.strings_CutPrefix s (ba [47]) w
theorem strSplit_ok {s : ByteArray} {V : View} (hs : s.size < 4294967281) (hg : Glo V) : CallV Tryz.prog 175 ⟨[.string s, .string (ba [47])]⟩ V fun r V' =>
    ∃ x : Sl, r = .slice x.a x.n x.c ∧ V.Le V' ∧ SlR V' x ((splitS (bl s)).map ba) := by
  refine ⟨enters_of (fn := Tryz.f175) (by kernel_rfl) (by kernel_rfl) (by kernel_rfl), fun w hw => ?_⟩
  obtain ⟨m, hm⟩ := hg
  refine (Tryz.strings_Split s (ba [47]) m w hs (hw.cell hm) (Nat.le_refl _)).mono fun e w' ⟨h1, h2⟩ => ?_
  have hlen := Lib.splitB_all (ba [47]) (Nat.le_refl _) 0 _ s rfl
  rw [splitB_eq] at hlen h2
  have hle := Lib.countB_le (ba [47]) (Nat.le_refl _) s.size s (Nat.le_refl _)
  have hfr : V.see w.heap.size = none := View.see_none_of_ge hw.size
  have hnew : (View.put V w.heap.size (.cells (((splitS (bl s)).map ba).map Value.string).toArray 9)).In w' := by
    rw [h2]
    refine ⟨?_, fun i o ho => ?_, hw.out⟩
    · show max V.size (w.heap.size + 1) ≤ (w.heap.push _).size
      have := hw.size; simp; omega
    · by_cases e : i = w.heap.size
      · subst e
        rw [View.see_put_same] at ho; cases ho
        show (w.heap.push _)[w.heap.size]? = _
        simp
      · rw [View.see_put_ne V _ e] at ho
        have := hw.see i o ho
        show (w.heap.push _)[i]? = _
        rw [Array.getElem?_push, if_neg e]; exact this
  refine ⟨_, _, h1, hnew, ⟨by rw [h2]; show w.heap.size ≤ (w.heap.push _).size; simp, fun i hi hn => ⟨by rw [View.see_put_ne V _ (Nat.ne_of_lt hi)]; exact hn, by
    rw [h2]; show (w.heap.push _)[i]? = _; rw [Array.getElem?_push, if_neg (Nat.ne_of_lt hi)]⟩, fun h => (show False from h).elim⟩, ⟨_, _, _⟩, rfl, View.put_le hfr, ?_⟩
  refine ⟨hlen.symm, Nat.le_refl _, by show Lib.countB s (ba [47]) + 1 ≤ _; omega, fun i hi => ⟨_, [.string ((splitS (bl s)).map ba)[i]], rfl, ?_, rfl, ?_⟩⟩
  · rw [addr0_add]
    refine cellsAt_of_see (cs := ((splitS (bl s)).map ba).map Value.string) (View.see_put_same _ _ _) fun j v hj => ?_
    cases j with
    | succ j => simp at hj
    | zero =>
      simp only [List.getElem?_cons_zero, Option.some.injEq] at hj
      subst hj
      show (((splitS (bl s)).map ba).map Value.string)[0 + i * 1 + 0]? = _
      rw [Nat.zero_add, Nat.mul_one, Nat.add_zero, List.getElem?_map, List.getElem?_eq_getElem hi]; rfl
  · have : ∀ t : List UInt8, ∀ x ∈ splitS t, x.length ≤ t.length := by
      intro t
      induction t with
      | nil => intro x hx; simp [splitS] at hx; simp [hx]
      | cons c t ih =>
        intro x hx
        unfold splitS at hx
        split at hx
        · rcases List.mem_cons.1 hx with rfl | hx
          · simp
          · have := ih x hx; simp; omega
        · split at hx
          · rename_i h y he
            rcases List.mem_cons.1 hx with rfl | hx
            · have := ih h (by rw [he]; simp); simp; omega
            · have := ih x (by rw [he]; simp [hx]); simp; omega
          · rename_i he; exact absurd he (splitS_ne t)
    have hm := this (bl s) _ (List.getElem_mem (by simpa using hi) : (splitS (bl s))[i]'(by simpa using hi) ∈ _)
    simp only [List.getElem_map, ba_size]
    rw [bl_len] at hm
    omega
theorem strJoin_ok {x : Sl} {l : List ByteArray} {V : View} (h : SlR V x l) (hl : (Lib.join (l.map bl) [47]).length ≤ 140737488355327) : CallV Tryz.prog 199 ⟨[.slice x.a x.n x.c, .string (ba [47])]⟩ V fun r V' =>
    r = .string (ba (Lib.join (l.map bl) [47])) ∧ V' = V := by
  have he : Enters Tryz.prog 199 := enters_of (fn := Tryz.f199) (by kernel_rfl) (by kernel_rfl) (by kernel_rfl)
  cases l with
  | nil =>
    have h0 : x.n = 0 := h.n
    rw [h0]
    exact CallV.quiet he fun w _ => Tryz.strings_Join_none x.a x.c (ba [47]) w
  | cons y l =>
    obtain ⟨ad, vs, ha, hc, hr⟩ := h.get 0 (by simp)
    obtain ⟨rfl, _⟩ := hr
    rw [Nat.zero_mul, Addr.add_zero, cellsAt_one] at hc
    obtain ⟨b, off, sp⟩ := ad
    have hsp : sp = none := by
      unfold View.cell? at hc
      split at hc
      · split at hc
        · cases hc
        · rename_i hsp; simpa using hsp
      · cases hc
    subst hsp
    have hb : ∀ w, V.In w → b < w.heap.size := fun w hw => by
      unfold View.cell? at hc
      split at hc
      · rename_i hs
        exact Nat.lt_of_lt_of_le (V.lt _ _ hs) hw.size
      · cases hc
    rw [ha, h.n]
    refine CallV.below he fun w hw => Tryz.strings_Join b off x.c (y :: l) (ba [47]) w (fun j z hj => ?_) (hb w hw) (by
      rw [List.map_cons, Lib.join_length] at hl
      simp at hl ⊢
      omega) (by rw [← h.n]; exact h.c) (Nat.le_trans hl (by decide))
    have hj' := (List.getElem?_eq_some_iff.1 hj)
    obtain ⟨ad, vs, ha', hc', hr'⟩ := h.get j hj'.1
    rw [ha] at ha'; cases ha'
    obtain ⟨rfl, _⟩ := hr'
    rw [cellsAt_one, addr0_add, hj'.2] at hc'
    have e1 : Rep.sz ByteArray = 1 := rfl
    rw [e1, Nat.mul_one] at hc'
    exact hw.cell hc'
end Go.Proofs.YtoogangnldppaaaGreatDoor

/- Contracts of package path. -/
namespace Go.Proofs.YtoogangnldppaaaGreatDoor
open Go
theorem splitC_ok {s : ByteArray} {V : View} (hs : s.size ≤ 9223372036854775807) : CallV Tryz.prog 177 ⟨[.string s]⟩ V fun r V' => r = .bool (!mayB s) ∧ V' = V := by
  refine f177_x ?_
  unfold f177_n
  refine (pathMay_ok hs).mono ?_
  rintro r V' ⟨rfl, rfl⟩
  exact ⟨_, rfl, rfl, rfl⟩
theorem indexFuncS_ok {p : ByteArray → Bool} {s : Sl} {l : List ByteArray} {V : View} {g : FuncId} {xs ys : List Value} (h : SlR V s l)
    (hp : ∀ b ∈ l, CallV Tryz.prog g ⟨xs ++ [.string b] ++ ys⟩ V fun r V' => r = .bool (p b) ∧ V' = V) :
    CallV Tryz.prog 190 ⟨[.slice s.a s.n s.c, .func (.func g) ⟨xs⟩ ⟨ys⟩]⟩ V fun r V' => r = .int .i64 (idxI p l) ∧ V' = V := by
  refine f190_x ?_
  unfold f190_n
  have hn := h.n; have hlim := h.lim
  refine loop1 (k := .int .i64) (fun (x : Int) V' => V' = V ∧ 0 ≤ x ∧ x ≤ s.n ∧ ∀ j (hj : j < l.length), (j : Int) < x → p l[j] = false) (fun (x : Int) _ => s.n - x.toNat) ⟨rfl, by omega, by omega, fun j _ hj => by omega⟩ ?_
  rintro (x : Int) V' ⟨rfl, h0, h1, h2⟩
  refine br_intro (fun hlt => ?_) (fun hge => ?_)
  · have hlt : x < s.n := by simpa using hlt
    obtain ⟨ad, hx, ha, hc, _⟩ := h.str h0 hlt
    refine ⟨h0, hlt, ad, ha, _, hc, (hp _ (List.getElem_mem hx)).mono ?_⟩
    rintro r V1 ⟨rfl, rfl⟩
    refine ⟨_, rfl, br_intro (fun hb => ⟨?_, rfl⟩) (fun hb => ⟨inI64 (by omega) (by omega), ⟨rfl, by omega, by omega, fun j hj hjx => ?_⟩, by omega⟩)⟩
    · rw [idxI_first p l x.toNat hx (fun j hj => h2 j (by omega) (by omega)) hb]
      congr 1; omega
    · by_cases e : (j : Int) < x
      · exact h2 j hj e
      · have : j = x.toNat := by omega
        subst this; exact hb
  · have hge : ¬ x < s.n := by simpa using hge
    refine ⟨?_, rfl⟩
    rw [idxI_none p l fun y hy => ?_]
    obtain ⟨j, hj, rfl⟩ := List.getElem_of_mem hy
    exact h2 j hj (by omega)
theorem containsFuncS_ok {p : ByteArray → Bool} {s : Sl} {l : List ByteArray} {V : View} {g : FuncId} {xs ys : List Value} (h : SlR V s l)
    (hp : ∀ b ∈ l, CallV Tryz.prog g ⟨xs ++ [.string b] ++ ys⟩ V fun r V' => r = .bool (p b) ∧ V' = V) :
    CallV Tryz.prog 176 ⟨[.slice s.a s.n s.c, .func (.func g) ⟨xs⟩ ⟨ys⟩]⟩ V fun r V' => r = .bool (l.any p) ∧ V' = V := by
  refine f176_x ?_
  unfold f176_n
  refine (indexFuncS_ok h hp).mono ?_
  rintro r V' ⟨rfl, rfl⟩
  refine ⟨_, rfl, ?_, rfl⟩
  congr 1
  rcases idxI_range p l with ⟨h1, h2⟩ | ⟨h1, h2, h3⟩
  · rw [h1, h2]; rfl
  · rw [h3]; simpa using h1
theorem equalS_ok {s t : Sl} {l m : List ByteArray} {V : View} (h : SlR V s l) (k : SlR V t m) : CallV Tryz.prog 200 ⟨[.slice s.a s.n s.c, .slice t.a t.n t.c]⟩ V fun r V' => r = .bool (decide (l = m)) ∧ V' = V := by
  refine f200_x ?_
  unfold f200_n
  have hn := h.n; have hlim := h.lim; have kn := k.n
  refine br_intro (fun hne => ⟨?_, rfl⟩) (fun heq => ?_)
  · have hne : ¬ (s.n : Int) = t.n := by simpa using hne
    rw [decide_eq_false]
    intro e; subst e; omega
  have heq : (s.n : Int) = t.n := by simpa using heq
  refine loop1 (k := .int .i64) (fun (x : Int) V' => V' = V ∧ 0 ≤ x ∧ x ≤ s.n ∧ l.take x.toNat = m.take x.toNat) (fun (x : Int) _ => s.n - x.toNat) ⟨rfl, by omega, by omega, rfl⟩ ?_
  rintro (x : Int) V' ⟨rfl, h0, h1, h2⟩
  refine br_intro (fun hlt => ?_) (fun hge => ?_)
  · have hlt : x < s.n := by simpa using hlt
    obtain ⟨ad, hx, ha, hc, _⟩ := h.str h0 hlt
    obtain ⟨ad', hx', ha', hc', _⟩ := k.str h0 (by omega)
    refine ⟨trivial, V', View.Le.refl _, h0, hlt, ad, ha, _, hc, h0, by omega, ad', ha', _, hc', br_intro (fun hb => ⟨?_, rfl⟩) (fun hb => ⟨inI64 (by omega) (by omega), ⟨rfl, by omega, by omega, ?_⟩, by omega⟩)⟩
    · have hb : ¬ l[x.toNat] = m[x.toNat] := by simpa using hb
      rw [decide_eq_false]
      intro e; subst e; exact hb rfl
    · have hb : l[x.toNat] = m[x.toNat] := by simpa using hb
      rw [show (x + 1).toNat = x.toNat + 1 by omega, List.take_add_one, List.take_add_one, h2, List.getElem?_eq_getElem hx, List.getElem?_eq_getElem hx', hb]
  · have hge : ¬ x < s.n := by simpa using hge
    rw [List.take_of_length_le (by omega), List.take_of_length_le (by omega)] at h2
    exact ⟨by rw [h2]; simp, rfl⟩
/-- What path.Split answers. -/
def splitR (V : View) (o : Option (List ByteArray)) (r : Value) : Prop :=
  ∃ (x : Sl) (e : Int), r = .tuple ⟨[.slice x.a x.n x.c, .int .i64 e]⟩ ∧ match o with
    | none => e = 7 ∧ x = ⟨none, 0, 0⟩
    | some l => e = 0 ∧ SlR V x l
theorem pathSplit_ok {s : ByteArray} {V : View} (_hs : s.size ≤ 9223372036854775807) (hg : Glo V) : CallV Tryz.prog 151 ⟨[.string s]⟩ V fun r V' => splitR V' (splitP s) r ∧ V.Le V' := by
  refine f151_x ?_
  unfold f151_n
  refine (cutPrefix_ok (s := s)).mono ?_
  rintro r V' ⟨rfl, rfl⟩
  refine ⟨_, _, rfl, ?_⟩
  have hno : (∀ e : splitP s = none, splitR V' (splitP s) (.tuple ⟨[.slice none 0 0, .int .i64 7]⟩) ∧ V'.Le V') := fun e => ⟨⟨⟨none, 0, 0⟩, 7, rfl, by rw [e]; exact ⟨rfl, rfl⟩⟩, View.Le.refl _⟩
  refine br_intro (fun h => hno ?_) (fun h => ?_)
  · unfold splitP
    split
    · rfl
    · rename_i c r hb
      rw [if_neg]
      rintro ⟨rfl, hle⟩
      rw [hb] at h
      simp [Lib.hasPrefix] at h
      omega
  · cases hb : bl s with
    | nil => rw [hb] at h; simp [Lib.hasPrefix] at h
    | cons c t =>
      rw [hb] at h
      have hc : c = 47 ∧ s.size ≤ 60 := by
        simp [Lib.hasPrefix, List.isPrefixOf] at h
        exact ⟨h.1.symm, by omega⟩
      obtain ⟨rfl, h60⟩ := hc
      have htr : Lib.trimPrefix (47 :: t) [47] = t := by simp [Lib.trimPrefix, Lib.hasPrefix, List.isPrefixOf]
      rw [htr]
      have hlen : (ba t).size ≤ 60 := by rw [← bl_len, hb] at h60; rw [ba_size]; simp at h60; omega
      refine br_intro (fun h => ?_) (fun h => ?_)
      · have ht : t = [] := by
          have : ba t = ByteArray.mk #[] := by simpa using h
          have := congrArg bl this
          simpa using this
        refine ⟨⟨⟨none, 0, 0⟩, 0, rfl, ?_⟩, View.Le.refl _⟩
        unfold splitP
        rw [hb]
        simp only
        rw [if_pos ⟨trivial, h60⟩, if_pos ht]
        exact ⟨trivial, SlR.nil _ _ _⟩
      · have ht : t ≠ [] := fun e => by
          subst e
          simp [ba] at h
        refine (strSplit_ok (by omega) hg).mono ?_
        rintro r V1 ⟨x, rfl, hle, hx⟩
        refine ⟨_, rfl, (containsFuncS_ok (p := fun b => !mayB b) hx fun b hb => ?_).mono ?_⟩
        · have hbs : b.size ≤ 9223372036854775807 := by
            obtain ⟨j, hj, rfl⟩ := List.getElem_of_mem hb
            obtain ⟨_, _, _, _, _, h⟩ := hx.get j hj
            omega
          exact splitC_ok hbs
        rintro r V2 ⟨rfl, rfl⟩
        have hsp : splitP s = if ((splitS t).map ba).all mayB then some ((splitS t).map ba) else none := by
          unfold splitP
          rw [hb]
          simp only
          rw [if_pos ⟨trivial, h60⟩, if_neg ht]
        have hall : (((splitS (bl (ba t))).map ba).any fun b => !mayB b) = !((splitS t).map ba).all mayB := by
          rw [List.not_all_eq_any_not]; rfl
        refine ⟨_, rfl, br_intro (fun h => ?_) (fun h => ?_)⟩
        · rw [hall] at h
          refine ⟨⟨⟨none, 0, 0⟩, 7, rfl, ?_⟩, hle⟩
          rw [hsp, if_neg (by simpa using h)]
          exact ⟨rfl, rfl⟩
        · rw [hall] at h
          refine ⟨⟨x, 0, rfl, ?_⟩, hle⟩
          rw [hsp, if_pos (by simpa using h)]
          exact ⟨rfl, hx⟩
theorem pathJoin_ok {x : Sl} {l : List ByteArray} {V : View} (h : SlR V x l) (hl : (Lib.join (l.map bl) [47]).length ≤ 140737488355327) (hg : Glo V) : CallV Tryz.prog 194 ⟨[.slice x.a x.n x.c]⟩ V fun r V' => r = .string (joinP1 l) ∧ V.Le V' := by
  refine f194_x ?_
  unfold f194_n
  refine (strJoin_ok h hl).mono ?_
  rintro r V' ⟨rfl, rfl⟩
  refine ⟨_, rfl, by rw [ba_size]; omega, ?_⟩
  have e : ByteArray.mk #[47] ++ ba (Lib.join (l.map bl) [47]) = ba (47 :: Lib.join (l.map bl) [47]) := ba_append [47] _
  rw [e]
  refine (pathSplit_ok (by rw [ba_size]; simp; omega) hg).mono ?_
  rintro r V1 ⟨⟨y, n, rfl, hr⟩, hle⟩
  refine ⟨_, _, rfl, joinP_cut (fun s V2 => s.1 = !decide (splitP (ba (47 :: Lib.join (l.map bl) [47])) = some l) ∧ V'.Le V2) ?_ ?_⟩
  · unfold cur cur
    cases ho : splitP (ba (47 :: Lib.join (l.map bl) [47])) with
    | none =>
      rw [ho] at hr
      obtain ⟨rfl, rfl⟩ := hr
      simp [br, hle]
    | some m =>
      rw [ho] at hr
      obtain ⟨rfl, hy⟩ := hr
      simp only [decide_true, Bool.not_true, br_false]
      refine (equalS_ok hy (h.mono hle)).mono ?_
      rintro r V2 ⟨rfl, rfl⟩
      exact ⟨_, rfl, by simp, hle⟩
  · rintro ⟨b, ⟨⟩⟩ V2 ⟨hb, hle⟩
    simp only at hb
    subst hb
    unfold joinP1 unc unc
    by_cases hs : splitP (ba (47 :: Lib.join (l.map bl) [47])) = some l
    · simp [hs, hle]
    · simp [hs, hle]; rfl
theorem pathLast_ok {s : ByteArray} {V : View} (hs : s.size ≤ 9223372036854775807) (hg : Glo V) : CallV Tryz.prog 187 ⟨[.string s]⟩ V fun r V' => r = .tuple ⟨[.string (lastP s).1, .string (lastP s).2.1, .int .i64 (lastP s).2.2]⟩ ∧ V.Le V' := by
  refine f187_x ?_
  unfold f187_n
  refine (pathSplit_ok hs hg).mono ?_
  rintro r V1 ⟨⟨y, n, rfl, hr⟩, hle⟩
  refine ⟨_, _, rfl, ?_⟩
  unfold lastP
  cases ho : splitP s with
  | none =>
    rw [ho] at hr
    obtain ⟨rfl, rfl⟩ := hr
    simp [hle]; rfl
  | some l =>
    rw [ho] at hr
    obtain ⟨rfl, hy⟩ := hr
    have hn := hy.n; have hlim := hy.lim; have hc := hy.c
    simp only [decide_true, Bool.not_true, br_false]
    refine br_intro (fun h => ?_) (fun h => ?_)
    · have h : (y.n : Int) = 0 := by simpa using h
      have : l = [] := List.eq_nil_of_length_eq_zero (by omega)
      simp [this, hle]; rfl
    · have h : ¬ (y.n : Int) = 0 := by simpa using h
      have hne : l ≠ [] := fun e => by subst e; simp at hn; omega
      obtain ⟨ad, hx, ha, hcell, _⟩ := hy.str (x := (y.n : Int) - 1) (by omega) (by omega)
      refine ⟨inI64 (by omega) (by omega), trivial, V1, View.Le.refl _, by omega, by omega, by omega, by omega, by omega, ad, ha, _, hcell, ?_⟩
      have hsp := splitP_some ho
      have htl := hy.take (j := l.length - 1) (by omega)
      have e1 : ((y.n : Int) - 1).toNat - 0 = l.length - 1 := by omega
      have e2 : l.take (l.length - 1) = l.dropLast := (List.dropLast_eq_take).symm
      have e3 : (if y.c = 0 then y.a else Option.map (fun (x : Addr) => x.add 0) y.a) = y.a := by rw [map_add_zero]; simp
      rw [e1, e3, Nat.sub_zero]
      rw [e2] at htl
      have hjl : (Lib.join (l.dropLast.map bl) [47]).length ≤ 140737488355327 := by
        have h60 : (Lib.join (l.map bl) [47]).length ≤ 60 := by
          have := hsp.2.2
          have := congrArg List.length this
          rw [bl_len] at this
          simp at this
          omega
        have hl2 : l = l.dropLast ++ [l.getLast hne] := (List.dropLast_concat_getLast hne).symm
        by_cases hd : l.dropLast = []
        · rw [hd]; simp [Lib.join_nil]
        · rw [hl2, joinS_snoc _ _ hd] at h60
          simp only [List.length_append, List.length_cons] at h60
          omega
      refine (pathJoin_ok (x := ⟨y.a, l.length - 1, y.c⟩) htl hjl (hg.mono hle)).mono ?_
      rintro r V2 ⟨rfl, hle2⟩
      refine ⟨_, rfl, hle2, ?_, hle.trans hle2⟩
      rw [dif_neg hne]
      have e4 : l[((y.n : Int) - 1).toNat] = l.getLast hne := by
        rw [List.getLast_eq_getElem]
        congr 1 <;> omega
      simp only [e4]
end Go.Proofs.YtoogangnldppaaaGreatDoor

/- Contracts of bytes.Reader. -/
namespace Go.Proofs.YtoogangnldppaaaGreatDoor
open Go
/-- What a reader's cells are. -/
def RdC (V : View) (p : Nat) (s : Sl) (e : Int) : Prop := ∃ ty, V.see p = some (.cells ⟨[.slice s.a s.n s.c, .int .i64 e]⟩ ty (0, 0))
/-- A reader: what is left; none: there was an error. -/
def Rd (V : View) (p : Nat) (st : Option (List UInt8)) : Prop :=
  ∃ (s : Sl) (e : Int) (bs : List UInt8), RdC V p s e ∧ SlR (V.hide p) s bs ∧ bs.length ≤ 140737488350000 ∧ (st = some bs ∧ e = 0 ∨ st = none ∧ e = 5)
theorem RdC.c1 {V : View} {p : Nat} {s : Sl} {e : Int} (h : RdC V p s e) : V.cell? ((⟨p, 0, none⟩ : Addr).add 1) = some (.int .i64 e) := by
  obtain ⟨ty, h⟩ := h
  exact cell_of_see h rfl
theorem Rd.mono {V V' : View} {p : Nat} {st : Option (List UInt8)} (h : Rd V p st) (hV : V.Le V') : Rd V' p st := by
  obtain ⟨s, e, bs, ⟨ty, h1⟩, h2, h3, h4⟩ := h
  have hh : (V.hide p).Le (V'.hide p) := by
    refine ⟨hV.size, fun i o ho => ?_, hV.out⟩
    unfold View.hide at *
    simp only at *
    split at ho
    · cases ho
    · rename_i hne; rw [if_neg hne]; exact hV.see i o ho
  exact ⟨s, e, bs, ⟨ty, hV.see _ _ h1⟩, h2.mono hh, h3, h4⟩
end Go.Proofs.YtoogangnldppaaaGreatDoor

/- Contracts of what reads nodes. -/
namespace Go.Proofs.YtoogangnldppaaaGreatDoor
open Go
/-- Cells of numbers need nothing. -/
structure intL (cs : List Value) (l : List Int) : Prop where
  rep : ∀ {W : View}, repL W cs l
theorem repL.int {W : View} : ∀ {cs : List Value} {l : List Int}, repL W cs l → intL cs l
  | _, [], h => ⟨h⟩
  | _, _ :: _, ⟨vs, us, e, h1, h2⟩ => ⟨⟨vs, us, e, h1, (repL.int h2).rep⟩⟩
structure entL (cs : List Value) (l : List Ent) : Prop where
  rep : ∀ {W : View}, repL W cs l
theorem repL.ent {W : View} : ∀ {cs : List Value} {l : List Ent}, repL W cs l → entL cs l
  | _, [], h => ⟨h⟩
  | _, _ :: _, ⟨vs, us, e, h1, h2⟩ => ⟨⟨vs, us, e, h1, (repL.ent h2).rep⟩⟩
end Go.Proofs.YtoogangnldppaaaGreatDoor

/- Trees as bytes: plain functions and what they answer. No program in this text. -/
namespace Go.Proofs.YtoogangnldppaaaGreatDoor
open Go
end Go.Proofs.YtoogangnldppaaaGreatDoor

/- Contracts of package root: trees to bytes and back. -/
namespace Go.Proofs.YtoogangnldppaaaGreatDoor
open Go
/-! ### to bytes -/
end Go.Proofs.YtoogangnldppaaaGreatDoor

/- Contracts: equal rows, equal trees. -/
namespace Go.Proofs.YtoogangnldppaaaGreatDoor
open Go
theorem equalI_ok {s t : Sl} {l m : List Int} {V : View} (h : SlR V s l) (k : SlR V t m) : CallV Tryz.prog 120 ⟨[.slice s.a s.n s.c, .slice t.a t.n t.c]⟩ V fun r V' => r = .bool (decide (l = m)) ∧ V' = V := by
  refine f120_x ?_
  unfold f120_n
  have hn := h.n; have hlim := h.lim; have kn := k.n
  refine br_intro (fun hne => ⟨?_, rfl⟩) (fun heq => ?_)
  · have hne : ¬ (s.n : Int) = t.n := by simpa using hne
    rw [decide_eq_false]
    intro e; subst e; omega
  have heq : (s.n : Int) = t.n := by simpa using heq
  refine loop1 (k := .int .i64) (fun (x : Int) V' => V' = V ∧ 0 ≤ x ∧ x ≤ s.n ∧ l.take x.toNat = m.take x.toNat) (fun (x : Int) _ => s.n - x.toNat) ⟨rfl, by omega, by omega, rfl⟩ ?_
  rintro (x : Int) V' ⟨rfl, h0, h1, h2⟩
  refine br_intro (fun hlt => ?_) (fun hge => ?_)
  · have hlt : x < s.n := by simpa using hlt
    obtain ⟨ad, hx, ha, hc, _⟩ := h.int h0 hlt
    obtain ⟨ad', hx', ha', hc', _⟩ := k.int h0 (by omega)
    refine ⟨trivial, V', View.Le.refl _, h0, hlt, ad, ha, _, hc, h0, by omega, ad', ha', _, hc', br_intro (fun hb => ⟨?_, rfl⟩) (fun hb => ⟨inI64 (by omega) (by omega), ⟨rfl, by omega, by omega, ?_⟩, by omega⟩)⟩
    · have hb : ¬ l[x.toNat] = m[x.toNat] := by simpa using hb
      rw [decide_eq_false]
      intro e; subst e; exact hb rfl
    · have hb : l[x.toNat] = m[x.toNat] := by simpa using hb
      rw [show (x + 1).toNat = x.toNat + 1 by omega, List.take_add_one, List.take_add_one, h2, List.getElem?_eq_getElem hx, List.getElem?_eq_getElem hx', hb]
  · have hge : ¬ x < s.n := by simpa using hge
    rw [List.take_of_length_le (by omega), List.take_of_length_le (by omega)] at h2
    exact ⟨by rw [h2]; simp, rfl⟩
theorem ent_eq {x y : Ent} : (decide (x.name = y.name) && (decide (x.node = y.node) && true)) = decide (x = y) := by
  cases x; cases y
  rw [Bool.eq_iff_iff]; simp
theorem equalE_ok {s t : Sl} {l m : List Ent} {V : View} (h : SlR V s l) (k : SlR V t m) : CallV Tryz.prog 121 ⟨[.slice s.a s.n s.c, .slice t.a t.n t.c]⟩ V fun r V' => r = .bool (decide (l = m)) ∧ V' = V := by
  refine f121_x ?_
  unfold f121_n
  have hn := h.n; have hlim := h.lim; have kn := k.n
  refine br_intro (fun hne => ⟨?_, rfl⟩) (fun heq => ?_)
  · have hne : ¬ (s.n : Int) = t.n := by simpa using hne
    rw [decide_eq_false]
    intro e; subst e; omega
  have heq : (s.n : Int) = t.n := by simpa using heq
  refine loop1 (k := .int .i64) (fun (x : Int) V' => V' = V ∧ 0 ≤ x ∧ x ≤ s.n ∧ l.take x.toNat = m.take x.toNat) (fun (x : Int) _ => s.n - x.toNat) ⟨rfl, by omega, by omega, rfl⟩ ?_
  rintro (x : Int) V' ⟨rfl, h0, h1, h2⟩
  refine br_intro (fun hlt => ?_) (fun hge => ?_)
  · have hlt : x < s.n := by simpa using hlt
    obtain ⟨ad, hx, ha, hc, _⟩ := h.ent h0 hlt
    obtain ⟨ad', hx', ha', hc', _⟩ := k.ent h0 (by omega)
    refine ⟨trivial, V', View.Le.refl _, h0, hlt, ad, ha, _, _, hc, h0, by omega, ad', ha', _, _, hc', trivial, ?_⟩
    rw [ent_eq]
    refine br_intro (fun hb => ⟨?_, rfl⟩) (fun hb => ⟨inI64 (by omega) (by omega), ⟨rfl, by omega, by omega, ?_⟩, by omega⟩)
    · have hb : ¬ l[x.toNat] = m[x.toNat] := by simpa using hb
      rw [decide_eq_false]
      intro e; subst e; exact hb rfl
    · have hb : l[x.toNat] = m[x.toNat] := by simpa using hb
      rw [show (x + 1).toNat = x.toNat + 1 by omega, List.take_add_one, List.take_add_one, h2, List.getElem?_eq_getElem hx, List.getElem?_eq_getElem hx', hb]
  · have hge : ¬ x < s.n := by simpa using hge
    rw [List.take_of_length_le (by omega), List.take_of_length_le (by omega)] at h2
    exact ⟨by rw [h2]; simp, rfl⟩
theorem nod_eq (a b : Nod) : decide (a = b) = (decide (a.kind = b.kind) && decide (a.links = b.links) && decide (a.size = b.size) && (decide (a.seqs = b.seqs) && decide (a.ents = b.ents))) := by
  cases a; cases b
  rw [Bool.eq_iff_iff]; simp [and_assoc]
theorem sameN_ok {a b : Nod} {s e s' e' : Sl} {V : View} (h : NodR V s e a) (k : NodR V s' e' b) : CallV Tryz.prog 73 ⟨[nodV a s e, nodV b s' e']⟩ V fun r V' => r = .bool (decide (a = b)) ∧ V' = V := by
  refine f73_x ?_
  unfold f73_n
  rw [nod_eq]
  refine fun _ _ => joinP_cut (fun q V' => q.1 = (decide (a.kind = b.kind) && decide (a.links = b.links) && decide (a.size = b.size) && (decide (a.seqs = b.seqs) && decide (a.ents = b.ents))) ∧ V' = V) (br_intro (fun hb => (equalI_ok h.seqs k.seqs).mono ?_) (fun hb => ⟨?_, rfl⟩)) ?_
  · have hb : (decide (a.kind = b.kind) && decide (a.links = b.links) && decide (a.size = b.size)) = true := by
      cases h1 : decide (a.kind = b.kind) <;> cases h2 : decide (a.links = b.links) <;> cases h3 : decide (a.size = b.size) <;> simp_all
    rw [hb]
    rintro r V1 ⟨rfl, rfl⟩
    refine ⟨_, rfl, br_intro (fun h1 => (equalE_ok h.ents k.ents).mono ?_) (fun h1 => ⟨by rw [h1]; rfl, rfl⟩)⟩
    rintro r V2 ⟨rfl, rfl⟩
    exact ⟨_, rfl, by rw [h1]; rfl, rfl⟩
  · have hb : (decide (a.kind = b.kind) && decide (a.links = b.links) && decide (a.size = b.size)) = false := by
      cases h1 : decide (a.kind = b.kind) <;> cases h2 : decide (a.links = b.links) <;> cases h3 : decide (a.size = b.size) <;> simp_all
    rw [hb]; rfl
  · rintro ⟨q, ⟨⟩⟩ V1 ⟨h1, hV⟩
    simp only at h1 hV
    subst h1 hV
    exact ⟨rfl, rfl⟩
theorem equalFuncN_ok {s t : Sl} {l m : List Nod} {V : View} {g : FuncId} {xs ys : List Value} (h : SlR V s l) (k : SlR V t m)
    (hp : ∀ a b s e s' e', NodR V s e a → NodR V s' e' b → CallV Tryz.prog g ⟨xs ++ [nodV a s e, nodV b s' e'] ++ ys⟩ V fun r V' => r = .bool (decide (a = b)) ∧ V' = V) :
    CallV Tryz.prog 72 ⟨[.slice s.a s.n s.c, .slice t.a t.n t.c, .func (.func g) ⟨xs⟩ ⟨ys⟩]⟩ V fun r V' => r = .bool (decide (l = m)) ∧ V' = V := by
  refine f72_x ?_
  unfold f72_n
  have hn := h.n; have hlim := h.lim; have kn := k.n
  refine br_intro (fun hne => ⟨?_, rfl⟩) (fun heq => ?_)
  · have hne : ¬ (s.n : Int) = t.n := by simpa using hne
    rw [decide_eq_false]
    intro e; subst e; omega
  have heq : (s.n : Int) = t.n := by simpa using heq
  refine loop1 (k := .int .i64) (fun (x : Int) V' => V' = V ∧ 0 ≤ x ∧ x ≤ s.n ∧ l.take x.toNat = m.take x.toNat) (fun (x : Int) _ => s.n - x.toNat) ⟨rfl, by omega, by omega, rfl⟩ ?_
  rintro (x : Int) V' ⟨rfl, h0, h1, h2⟩
  refine br_intro (fun hlt => ?_) (fun hge => ?_)
  · have hlt : x < s.n := by simpa using hlt
    obtain ⟨ad, sq, en, hx, ha, hc, hN⟩ := h.nod h0 hlt
    obtain ⟨ad', sq', en', hx', ha', hc', hN'⟩ := k.nod h0 (by omega)
    refine ⟨h0, hlt, ad, ha, _, _, _, sq, en, hc, fun _ => ⟨h0, by omega, ad', ha', _, _, _, sq', en', hc', fun _ => (hp _ _ _ _ _ _ hN hN').mono ?_⟩⟩
    rintro r V1 ⟨rfl, rfl⟩
    refine ⟨_, rfl, br_intro (fun hb => ⟨?_, rfl⟩) (fun hb => ⟨inI64 (by omega) (by omega), ⟨rfl, by omega, by omega, ?_⟩, by omega⟩)⟩
    · have hb : ¬ l[x.toNat] = m[x.toNat] := of_decide_eq_false (not_t hb)
      rw [decide_eq_false]
      intro e; subst e; exact hb rfl
    · have hb : l[x.toNat] = m[x.toNat] := of_decide_eq_true (not_f hb)
      rw [show (x + 1).toNat = x.toNat + 1 by omega, List.take_add_one, List.take_add_one, h2, List.getElem?_eq_getElem hx, List.getElem?_eq_getElem hx', hb]
  · have hge : ¬ x < s.n := by simpa using hge
    rw [List.take_of_length_le (by omega), List.take_of_length_le (by omega)] at h2
    exact ⟨by rw [h2]; simp, rfl⟩
theorem sameT_ok {s t : Sl} {l m : Tre} {V : View} (h : SlR V s l) (k : SlR V t m) : CallV Tryz.prog 39 ⟨[treV s, treV t]⟩ V fun r V' => r = .bool (decide (l = m)) ∧ V' = V := by
  refine f39_x ?_
  unfold f39_n
  refine fun _ _ => (equalFuncN_ok (xs := []) (ys := []) h k fun a b s e s' e' hN hN' => ?_).mono ?_
  · exact sameN_ok hN hN'
  · rintro r V' ⟨rfl, rfl⟩
    exact ⟨_, rfl, rfl, rfl⟩
end Go.Proofs.YtoogangnldppaaaGreatDoor

/- Contracts: the first tree; the law that every program must know. -/
namespace Go.Proofs.YtoogangnldppaaaGreatDoor
open Go
def dirN : Nod := ⟨2, 1, 0, [], []⟩
def firstT : Tre := dirN :: List.replicate 11 Nod.zero
theorem hang_first : ∀ i, i < 12 → ∀ met : Bool, (i = 0 → met = true) → hangB (firstT.getD i default) (i : Nat) ((cnt 12 (allE firstT)).getD i 0) met = true := by decide
theorem mayT_first : mayT firstT = true := by
  unfold mayT
  have h1 : (decide (firstT.length = 12) && firstT.all mayN && decide ((firstT.getD 0 default).kind = 2)) = true := by decide
  have h2 : apartL (allS firstT) = true := by decide
  rw [h1, h2, Bool.true_and, Bool.and_true, List.all_eq_true]
  intro i hi
  exact hang_first i (List.mem_range.1 hi) _ fun h => by subst h; exact metB_iff.2 .refl
theorem empty2_ok {V : View} : CallV Tryz.prog 61 ⟨[.int .i64 2]⟩ V fun r V' => r = nodV dirN ⟨none, 0, 0⟩ ⟨none, 0, 0⟩ ∧ V' = V := by
  refine f61_x ?_
  unfold f61_n
  exact fun _ => br_intro (fun h => absurd h (by decide)) (fun _ => br_intro (fun _ => ⟨rfl, rfl⟩) (fun h => absurd h (by decide)))
def nodCs (n : Nod) : List Value := [.int .i64 n.kind, .int .i64 n.links, .int .i64 n.size, .slice none 0 0, .slice none 0 0]
theorem rep_bare {W : View} {n : Nod} (h1 : inI .i64 n.kind) (h2 : inI .i64 n.links) (h3 : inI .i64 n.size) (h4 : n.seqs = []) (h5 : n.ents = []) : Rep.rep W (nodCs n) n :=
  ⟨⟨none, 0, 0⟩, ⟨none, 0, 0⟩, rfl, h1, h2, h3, by rw [h4]; exact SlR.nil _ _ _, by rw [h5]; exact SlR.nil _ _ _⟩
theorem rep_zeros {W : View} : ∀ k, repL W (List.replicate k (nodCs Nod.zero)).flatten (List.replicate k Nod.zero)
  | 0 => rfl
  | k + 1 => ⟨nodCs Nod.zero, (List.replicate k (nodCs Nod.zero)).flatten, by rw [List.replicate_succ, List.flatten_cons], rep_bare zero64 zero64 zero64 rfl rfl, rep_zeros k⟩
theorem first_ok {V : View} : CallV Tryz.prog 32 ⟨[]⟩ V fun r V' => ∃ x : Sl, r = treV x ∧ SlR V' x firstT ∧ V.Le V' := by
  refine f32_x (_u := ()) ?_
  unfold f32_n
  refine fun _ => ⟨by decide, by decide, by decide, by decide, fun r hr => ?_⟩
  have hfr := View.see_none_of_ge hr
  have hp := View.put_le (o := .cells ⟨(List.replicate 12 (nodCs Nod.zero)).flatten⟩ 63 (0, 0)) hfr
  refine fun _ => ⟨trivial, V, hp, empty2_ok.mono ?_⟩
  rintro r1 V1 ⟨rfl, rfl⟩
  refine ⟨_, _, _, ⟨none, 0, 0⟩, ⟨none, 0, 0⟩, rfl, hp, by decide, by decide, _, rfl, ?_, ⟨some ⟨r, 0, none⟩, 12, 12⟩, rfl, ?_, ?_⟩
  · exact canSet_of (View.see_put_same _ _ _) (by decide)
  · have e : (⟨r, 0, none⟩ : Addr).add 0 = ⟨r, 0, none⟩ := rfl
    rw [e, sets_see (View.see_put_same _ _ _)]
    have := slR_block (α := Nod) (l := firstT) (W := (V.put r (.cells ⟨(List.replicate 12 (nodCs Nod.zero)).flatten⟩ 63 (0, 0))).put r (.cells ⟨nodCs dirN ++ (List.replicate 11 (nodCs Nod.zero)).flatten⟩ 63 (0, 0))) (View.see_put_same _ _ _) ⟨nodCs dirN, _, rfl, rep_bare two64 one64 zero64 rfl rfl, rep_zeros 11⟩ (View.Le.refl _) (by decide)
    exact this
  · have e : (⟨r, 0, none⟩ : Addr).add 0 = ⟨r, 0, none⟩ := rfl
    rw [e, sets_see (View.see_put_same _ _ _)]
    exact (put_le_hide hfr (View.Le.refl _)).trans (hide_le_put r _)
theorem u8_row {V : View} {x : Sl} {l : List UInt8} (h : SlR V x l) : rowAt V x.a x.n (bytesV (ba l)) := by
  have := h.row8
  rw [Nat.mul_one] at this
  exact this
end Go.Proofs.YtoogangnldppaaaGreatDoor

/- Contracts of what finds nodes by paths. -/
namespace Go.Proofs.YtoogangnldppaaaGreatDoor
open Go
/-! ### plain -/
/-- The node of a name; -1: there is none. -/
def atI (l : List Ent) (s : ByteArray) : Int := match l.find? fun x => decide (x.name = s) with
  | some x => x.node
  | none => -1
theorem idxI_find {α : Type} (p : α → Bool) : ∀ l : List α, (idxI p l = -1 ∧ l.find? p = none) ∨ ∃ i, ∃ h : i < l.length, idxI p l = (i : Int) ∧ l.find? p = some l[i]
  | [] => .inl ⟨rfl, rfl⟩
  | x :: l => by
    unfold idxI
    by_cases hx : p x = true
    · right; exact ⟨0, by simp, by rw [if_pos hx]; rfl, by simp [hx]⟩
    · rw [if_neg hx]
      rcases idxI_find p l with ⟨h1, h2⟩ | ⟨i, h, h1, h2⟩
      · left; rw [h1]; exact ⟨rfl, by simp [hx, h2]⟩
      · right
        refine ⟨i + 1, by simpa using h, ?_, by simp [hx, h2]⟩
        rw [h1]; simp
/-- Name by name from a node on. -/
def goF (t : Tre) : Nat → List ByteArray → Except Int Nat
  | i, [] => .ok i
  | i, s :: l => if kindT t i = 2 then (if atI (entsT t i) s < 0 then .error 8 else goF t (atI (entsT t i) s).toNat l) else .error 11
theorem goF_cons (t : Tre) (i : Nat) (s : ByteArray) (l : List ByteArray) : goF t i (s :: l) = if kindT t i = 2 then (if atI (entsT t i) s < 0 then .error 8 else goF t (atI (entsT t i) s).toNat l) else .error 11 := rfl
noncomputable def findT (t : Tre) (s : ByteArray) : Except Int Nat := if mayT t then match splitP s with
  | none => .error 7
  | some l => goF t 0 l
  else .error 1
noncomputable def parentT (t : Tre) (s : ByteArray) : Except Int (Nat × ByteArray) := if mayT t then
    (if (lastP s).2.2 = 0 then match findT t (lastP s).1 with
      | .error e => .error e
      | .ok i => if kindT t i = 2 then .ok (i, (lastP s).2.1) else .error 11
    else .error (lastP s).2.2)
  else .error 1
noncomputable def insideT (t : Tre) (a b : Int) : Bool := mayT t && decide (0 ≤ a) && decide (a < 12) && decide (0 ≤ b) && decide (b < 12) && decide (kindT t a.toNat = 2) && metB t a.toNat b.toNat
noncomputable def freeT (t : Tre) : Int := if mayT t then idxI (fun n => decide (n.kind = 0)) t else -1
theorem mayT_all {t : Tre} (h : mayT t = true) : t.length = 12 ∧ (∀ n ∈ t, mayN n = true) ∧ kindT t 0 = 2 ∧ (∀ i, i < 12 → hangB (t.getD i default) i ((cnt 12 (allE t)).getD i 0) (metB t 0 i) = true) ∧ apartL (allS t) = true := by
  unfold mayT at h
  simp only [Bool.and_eq_true, decide_eq_true_eq, List.all_eq_true, List.mem_range] at h
  exact ⟨h.1.1.1.1, h.1.1.1.2, h.1.1.2, h.1.2, h.2⟩
theorem mayT_node {t : Tre} (h : mayT t = true) : ∀ n ∈ t, ∀ e ∈ n.ents, 1 ≤ e.node ∧ e.node < 12 := fun n hn e he => by
  have := mayL_node (mayN_ents ((mayT_all h).2.1 n hn)) he
  exact ⟨this.1, this.2.1⟩
theorem getD_mem {t : Tre} {i : Nat} (h : i < t.length) : t.getD i default ∈ t := by rw [getD_at h]; exact List.getElem_mem _
theorem atI_range {l : List Ent} {s : ByteArray} (h : ∀ e ∈ l, 1 ≤ e.node ∧ e.node < 12) : atI l s = -1 ∨ (1 ≤ atI l s ∧ atI l s < 12) := by
  unfold atI
  split
  · rename_i x hx; right; exact h x (List.mem_of_find?_eq_some hx)
  · left; rfl
theorem goF_range {t : Tre} (h12 : t.length = 12) (hn : ∀ n ∈ t, ∀ e ∈ n.ents, 1 ≤ e.node ∧ e.node < 12) : ∀ {l : List ByteArray} {i q : Nat}, i < 12 → goF t i l = .ok q → q < 12
  | [], i, q, hi, h => by cases h; exact hi
  | s :: l, i, q, hi, h => by
    unfold goF at h
    split at h
    · split at h
      · cases h
      · rename_i h0
        have := atI_range (s := s) (hn _ (getD_mem (t := t) (i := i) (by omega)))
        refine goF_range h12 hn ?_ h
        unfold entsT at h0 ⊢
        omega
    · cases h
theorem findT_range {t : Tre} {s : ByteArray} {q : Nat} (h : findT t s = .ok q) : q < 12 := by
  unfold findT at h
  split at h
  · rename_i hM
    split at h
    · cases h
    · exact goF_range (mayT_all hM).1 (mayT_node hM) (by omega) h
  · cases h
def outF : Except Int Nat → Value
  | .ok i => .tuple ⟨[.int .i64 (i : Int), .int .i64 0]⟩
  | .error e => .tuple ⟨[.int .i64 0, .int .i64 e]⟩
def outP : Except Int (Nat × ByteArray) → Value
  | .ok (i, s) => .tuple ⟨[.int .i64 (i : Int), .string s, .int .i64 0]⟩
  | .error e => .tuple ⟨[.int .i64 0, .string (ba []), .int .i64 e]⟩
theorem ends_only {t : Tre} {s : ByteArray} {e : Int} (h : findT t s = .error e) : e ≠ 0 := by
  have go : ∀ {l : List ByteArray} {i : Nat}, goF t i l = .error e → e ≠ 0 := by
    intro l
    induction l with
    | nil => intro i h; cases h
    | cons s l ih =>
      intro i h
      unfold goF at h
      split at h
      · split at h
        · cases h; decide
        · exact ih h
      · cases h; decide
  unfold findT at h
  split at h
  · split at h
    · cases h; decide
    · exact go h
  · cases h; decide
theorem lastP_size {s : ByteArray} (_hs : s.size ≤ 9223372036854775807) : (lastP s).1.size ≤ 9223372036854775807 := by
  unfold lastP
  split
  · simp [ba_size]
  · rename_i l hl
    split
    · simp [ba_size]
    · unfold joinP1
      split
      · rename_i h2
        have := (splitP_some h2).1
        dsimp only
        omega
      · simp [ba_size]
/-! ### the program's -/
theorem placeC_ok {x : Ent} {s : ByteArray} {z : Addr} {V : View} (h : V.cell? z = some (.string s)) : CallV Tryz.prog 192 ⟨[entV x, .pointer (some z)]⟩ V fun r V' => r = .bool (decide (x.name = s)) ∧ V' = V := by
  refine f192_x ?_
  unfold f192_n
  exact fun _ => ⟨s, h, rfl, rfl⟩
theorem indexFuncE_ok {p : Ent → Bool} {s : Sl} {l : List Ent} {V : View} {g : FuncId} {xs ys : List Value} (h : SlR V s l)
    (hp : ∀ n ∈ l, CallV Tryz.prog g ⟨xs ++ [entV n] ++ ys⟩ V fun r V' => r = .bool (p n) ∧ V' = V) :
    CallV Tryz.prog 191 ⟨[.slice s.a s.n s.c, .func (.func g) ⟨xs⟩ ⟨ys⟩]⟩ V fun r V' => r = .int .i64 (idxI p l) ∧ V' = V := by
  refine f191_x ?_
  unfold f191_n
  have hn := h.n; have hlim := h.lim
  refine loop1 (k := .int .i64) (fun (x : Int) V' => V' = V ∧ 0 ≤ x ∧ x ≤ s.n ∧ ∀ j (hj : j < l.length), (j : Int) < x → p l[j] = false) (fun (x : Int) _ => s.n - x.toNat) ⟨rfl, by omega, by omega, fun j _ hj => by omega⟩ ?_
  rintro (x : Int) V' ⟨rfl, h0, h1, h2⟩
  refine br_intro (fun hlt => ?_) (fun hge => ?_)
  · have hlt : x < s.n := by simpa using hlt
    obtain ⟨ad, hx, ha, hc, _⟩ := h.ent h0 hlt
    refine ⟨h0, hlt, ad, ha, _, _, hc, (hp _ (List.getElem_mem hx)).mono ?_⟩
    rintro r V1 ⟨rfl, rfl⟩
    refine ⟨_, rfl, br_intro (fun hb => ⟨?_, rfl⟩) (fun hb => ⟨inI64 (by omega) (by omega), ⟨rfl, by omega, by omega, fun j hj hjx => ?_⟩, by omega⟩)⟩
    · rw [idxI_first p l x.toNat hx (fun j hj => h2 j (by omega) (by omega)) hb]
      congr 1; omega
    · by_cases e : (j : Int) < x
      · exact h2 j hj e
      · have : j = x.toNat := by omega
        subst this; exact hb
  · have hge : ¬ x < s.n := by simpa using hge
    refine ⟨?_, rfl⟩
    rw [idxI_none p l fun y hy => ?_]
    obtain ⟨j, hj, rfl⟩ := List.getElem_of_mem hy
    exact h2 j hj (by omega)
theorem place_ok {x : Sl} {l : List Ent} {s : ByteArray} {V : View} (h : SlR V x l) : CallV Tryz.prog 185 ⟨[.slice x.a x.n x.c, .string s]⟩ V fun r V' => r = .int .i64 (idxI (fun e : Ent => decide (e.name = s)) l) ∧ V.Le V' := by
  refine f185_x ?_
  unfold f185_n
  intro b hb
  have hle := View.put_le (o := .cells ⟨[.string s]⟩ 9 (0, 0)) hb
  refine (indexFuncE_ok (xs := []) (ys := [.pointer (some ⟨b, 0, none⟩)]) (p := fun e : Ent => decide (e.name = s)) (h.mono hle) (fun n _ => placeC_ok (x := n) (cell_of_see (View.see_put_same _ _ _) rfl))).mono ?_
  rintro r V1 ⟨rfl, rfl⟩
  exact ⟨_, rfl, rfl, hle⟩
theorem nameFind_ok {x : Sl} {l : List Ent} {s : ByteArray} {V : View} (h : SlR V x l) : CallV Tryz.prog 171 ⟨[.slice x.a x.n x.c, .string s]⟩ V fun r V' => r = .int .i64 (atI l s) ∧ V.Le V' := by
  refine f171_x ?_
  unfold f171_n
  refine (place_ok h).mono ?_
  rintro r V1 ⟨rfl, hV1⟩
  refine ⟨_, rfl, ?_⟩
  have hn := h.n
  unfold atI
  rcases idxI_find (fun e : Ent => decide (e.name = s)) l with ⟨h1, h2⟩ | ⟨i, hi, h1, h2⟩
  · rw [h1, h2]
    exact br_intro (fun _ => ⟨rfl, hV1⟩) (fun hc => absurd (of_decide_eq_false hc) (by omega))
  · rw [h1, h2]
    refine br_intro (fun hc => ?_) (fun _ => ?_)
    · have := of_decide_eq_true hc; omega
    · obtain ⟨ad, ha, hc, _⟩ := (h.mono hV1).entN hi
      rw [getD_at hi] at hc
      exact ⟨by omega, by omega, ad, ha, _, cellsAt_nth hc 1 rfl, rfl, hV1⟩
theorem SlR.strN {V : View} {s : Sl} {l : List ByteArray} (h : SlR V s l) {i : Nat} (hi : i < l.length) :
    ∃ ad, s.a = some ad ∧ V.cell? (ad.add (((i : Int)).toNat * 1)) = some (.string l[i]) ∧ l[i].size ≤ 9223372036854775807 := by
  have hn := h.n
  obtain ⟨ad, hx, ha, hc, hs⟩ := h.str (x := (i : Int)) (by omega) (by omega)
  exact ⟨ad, ha, hc, hs⟩
theorem dirGo_ok {s x : Sl} {t : Tre} {l : List ByteArray} {V : View} (h : SlR V s t) (k : SlR V x l) (h12 : t.length = 12) (hnode : ∀ n ∈ t, ∀ e ∈ n.ents, 1 ≤ e.node ∧ e.node < 12) : CallV Tryz.prog 152 ⟨[treV s, .slice x.a x.n x.c]⟩ V fun r V' => r = outF (goF t 0 l) ∧ V.Le V' := by
  refine f152_x ?_
  unfold f152_n
  have hn := h.n; have kn := k.n; have klim := k.lim
  refine fun _ => loop2 (k := .int .i64) (l := .int .i64) (fun (y : Int) (j : Int) V' => ∃ q i : Nat, y = q ∧ j = i ∧ q < 12 ∧ i ≤ l.length ∧ goF t 0 l = goF t q (l.drop i) ∧ V.Le V') (fun _ (j : Int) _ => l.length - j.toNat) ⟨0, 0, rfl, rfl, by omega, by omega, rfl, View.Le.refl _⟩ ?_
  rintro (y : Int) (j : Int) V1 ⟨q, i, rfl, rfl, hq, hi, hG, hV1⟩
  refine br_intro (fun hlt => ?_) (fun hge => ?_)
  · have hlt : i < l.length := by have := of_decide_eq_true hlt; omega
    obtain ⟨ad, ha, hc, hsz⟩ := (k.mono hV1).strN hlt
    obtain ⟨ad2, sq, en, ha2, hc2, hN⟩ := (h.mono hV1).nodN (i := q) (by omega)
    have hd : l.drop i = l[i] :: l.drop (i + 1) := (List.getElem_cons_drop (h := hlt)).symm
    rw [hd, goF_cons] at hG
    refine ⟨by omega, by omega, ad, ha, _, hc, by omega, by omega, ad2, ha2, _, cellsAt_nth hc2 0 rfl, br_intro (fun hb => ?_) (fun hb => ⟨by omega, by omega, ad2, ha2, en, cellsAt_nth hc2 4 rfl, (nameFind_ok hN.ents).mono ?_⟩)⟩
    · have hb : ¬ kindT t q = 2 := of_decide_eq_false (not_t hb)
      rw [if_neg hb] at hG
      rw [hG]; exact ⟨rfl, hV1⟩
    · have hb : kindT t q = 2 := of_decide_eq_true (not_f hb)
      rw [if_pos hb] at hG
      rintro r V2 ⟨rfl, hV2⟩
      have hr := atI_range (s := l[i]) (hnode _ (getD_mem (t := t) (i := q) (by omega)))
      refine ⟨_, rfl, br_intro (fun h0 => ?_) (fun h0 => ?_)⟩
      · have h0 := of_decide_eq_true h0
        rw [if_pos (show atI (entsT t q) l[i] < 0 from h0)] at hG
        rw [hG]; exact ⟨rfl, hV1.trans hV2⟩
      · have h0 := of_decide_eq_false h0
        rw [if_neg (show ¬ atI (entsT t q) l[i] < 0 from h0)] at hG
        exact ⟨inI64 (by omega) (by omega), ⟨(atI (entsT t q) l[i]).toNat, i + 1, by unfold entsT; omega, by omega, by unfold entsT; omega, by omega, hG, hV1.trans hV2⟩, by omega⟩
  · have hge : i = l.length := by have := of_decide_eq_false hge; omega
    subst hge
    rw [List.drop_length] at hG
    rw [hG]; exact ⟨rfl, hV1⟩
theorem dirFind_ok {s : Sl} {t : Tre} {p : ByteArray} {V : View} (h : SlR V s t) (hp : p.size ≤ 9223372036854775807) (hg : Glo V) : CallV Tryz.prog 102 ⟨[treV s, .string p]⟩ V fun r V' => r = outF (findT t p) ∧ V.Le V' := by
  refine f102_x ?_
  unfold f102_n
  refine fun _ => (mayT_ok h).mono ?_
  rintro r V1 ⟨rfl, hV1⟩
  unfold findT
  refine ⟨_, rfl, br_intro (fun hb => ⟨by rw [if_neg (by rw [not_t hb]; decide)]; rfl, hV1⟩) (fun hb => ?_)⟩
  have hM := not_f hb
  rw [if_pos hM]
  refine (pathSplit_ok hp (hg.mono hV1)).mono ?_
  rintro r V2 ⟨⟨x, e, rfl, hx⟩, hV2⟩
  have hV02 := hV1.trans hV2
  refine ⟨x, e, rfl, ?_⟩
  cases hS : splitP p with
  | none =>
    rw [hS] at hx
    obtain ⟨rfl, rfl⟩ := hx
    exact br_intro (fun _ => ⟨rfl, hV02⟩) (fun h => absurd h (by decide))
  | some l =>
    rw [hS] at hx
    obtain ⟨rfl, hx⟩ := hx
    refine br_intro (fun h => absurd h (by decide)) (fun _ => (dirGo_ok (h.mono hV02) hx (mayT_all hM).1 (mayT_node hM)).mono ?_)
    rintro r V3 ⟨rfl, hV3⟩
    show ∃ _ _, outF _ = _ ∧ _
    cases hG : goF t 0 l with
    | ok q => exact ⟨_, _, rfl, by simp only [hG]; rfl, hV02.trans hV3⟩
    | error e => exact ⟨_, _, rfl, by simp only [hG]; rfl, hV02.trans hV3⟩
theorem dirParent_ok {s : Sl} {t : Tre} {p : ByteArray} {V : View} (h : SlR V s t) (hp : p.size ≤ 9223372036854775807) (hg : Glo V) : CallV Tryz.prog 170 ⟨[treV s, .string p]⟩ V fun r V' => r = outP (parentT t p) ∧ V.Le V' := by
  refine f170_x ?_
  unfold f170_n
  refine fun _ => (mayT_ok h).mono ?_
  rintro r V1 ⟨rfl, hV1⟩
  unfold parentT
  refine ⟨_, rfl, br_intro (fun hb => ⟨by rw [if_neg (by rw [not_t hb]; decide)]; rfl, hV1⟩) (fun hb => ?_)⟩
  have hM := not_f hb
  rw [if_pos hM]
  refine (pathLast_ok hp (hg.mono hV1)).mono ?_
  rintro r V2 ⟨rfl, hV2⟩
  have hV02 := hV1.trans hV2
  refine ⟨_, _, _, rfl, br_intro (fun h0 => ?_) (fun h0 => ?_)⟩
  · have h0 := of_decide_eq_false (not_t h0)
    rw [if_neg h0]; exact ⟨rfl, hV02⟩
  · have h0 := of_decide_eq_true (not_f h0)
    rw [if_pos h0]
    refine (dirFind_ok (h.mono hV02) (lastP_size hp) (hg.mono hV02)).mono ?_
    rintro r V3 ⟨rfl, hV3⟩
    have hV03 := hV02.trans hV3
    have hn := h.n
    cases hF : findT t (lastP p).1 with
    | error e =>
      have he := ends_only hF
      refine ⟨0, e, rfl, br_intro (fun _ => ⟨rfl, hV03⟩) (fun hc => ?_)⟩
      exact absurd (of_decide_eq_true (not_f hc)) he
    | ok q =>
      have hq := findT_range hF
      refine ⟨q, 0, rfl, br_intro (fun h => absurd h (by decide)) (fun _ => ?_)⟩
      have h12 := (mayT_all hM).1
      obtain ⟨ad2, sq, en, ha2, hc2, hN⟩ := (h.mono hV03).nodN (i := q) (by omega)
      refine ⟨by omega, by omega, ad2, ha2, _, cellsAt_nth hc2 0 rfl, br_intro (fun hb => ?_) (fun hb => ?_)⟩
      · have hb : ¬ kindT t q = 2 := of_decide_eq_false (not_t hb)
        simp only [if_neg hb]; exact ⟨rfl, hV03⟩
      · have hb : kindT t q = 2 := of_decide_eq_true (not_f hb)
        simp only [if_pos hb]; exact ⟨rfl, hV03⟩
theorem free1_ok {n : Nod} {s e : Sl} {V : View} : CallV Tryz.prog 184 ⟨[nodV n s e]⟩ V fun r V' => r = .bool (decide (n.kind = 0)) ∧ V' = V := by
  refine f184_x ?_
  unfold f184_n
  exact fun _ => ⟨rfl, rfl⟩
theorem free_ok {s : Sl} {t : Tre} {V : View} (h : SlR V s t) : CallV Tryz.prog 168 ⟨[treV s]⟩ V fun r V' => r = .int .i64 (freeT t) ∧ V.Le V' := by
  refine f168_x ?_
  unfold f168_n
  refine fun _ => (mayT_ok h).mono ?_
  rintro r V1 ⟨rfl, hV1⟩
  unfold freeT
  refine ⟨_, rfl, br_intro (fun hb => ⟨by rw [if_neg (by rw [not_t hb]; decide)], hV1⟩) (fun hb => ?_)⟩
  rw [if_pos (not_f hb)]
  refine (indexFuncN_ok (xs := []) (ys := []) (p := fun n => decide (n.kind = 0)) (h.mono hV1) (fun n _ a b _ => free1_ok (n := n) (s := a) (e := b))).mono ?_
  rintro r V2 ⟨rfl, rfl⟩
  exact ⟨_, rfl, rfl, hV1⟩
theorem has_ok {s : Sl} {z : Addr} {a : Int} {V : View} (h : V.cell? (z.add 0) = some (.slice s.a s.n s.c)) : CallV Tryz.prog 172 ⟨[.int .i64 a, .pointer (some z)]⟩ V fun r V' => r = .bool (decide (0 ≤ a) && decide (a < s.n)) ∧ V' = V := by
  refine f172_x ?_
  unfold f172_n
  refine joinP_cut (fun q V' => q.1 = (decide (0 ≤ a) && decide (a < s.n)) ∧ V' = V) (br_intro (fun h0 => ⟨s, h, by rw [h0]; rfl, rfl⟩) (fun h0 => ⟨by rw [h0]; rfl, rfl⟩)) ?_
  rintro ⟨q, ⟨⟩⟩ V1 ⟨h1, hV⟩
  simp only at h1 hV
  subst h1 hV
  exact ⟨rfl, rfl⟩
theorem inside_ok {s : Sl} {t : Tre} {a b : Int} {V : View} (h : SlR V s t) : CallV Tryz.prog 148 ⟨[treV s, .int .i64 a, .int .i64 b]⟩ V fun r V' => r = .bool (insideT t a b) ∧ V.Le V' := by
  refine f148_x ?_
  unfold f148_n
  intro z hz
  have hp := View.put_le (o := .cells ⟨[.slice s.a s.n s.c]⟩ 40 (0, 0)) hz
  have hsee : (V.put z (.cells ⟨[.slice s.a s.n s.c]⟩ 40 (0, 0))).see z = some (.cells ⟨[.slice s.a s.n s.c]⟩ 40 (0, 0)) := View.see_put_same _ _ _
  generalize V.put z (.cells ⟨[.slice s.a s.n s.c]⟩ 40 (0, 0)) = V0 at *
  have hcell : ∀ {V' : View}, V0.Le V' → V'.cell? ⟨z, 0, none⟩ = some (.slice s.a s.n s.c) := fun hV => cell_of_see (hV.see _ _ hsee) rfl
  have h' := h.mono hp
  have hn := h.n
  refine joinP_cut (fun q V' => q.1 = insideT t a b ∧ V0.Le V') ⟨s, cellsAt_one.2 (hcell (View.Le.refl _)), (mayT_ok h').mono ?_⟩ ?_
  · rintro r V1 ⟨rfl, hV1⟩
    unfold insideT
    refine ⟨_, rfl, br_intro (fun hM => ?_) (fun hM => ⟨by rw [hM]; rfl, hV1⟩)⟩
    have h12 := (mayT_all hM).1
    have hs12 : (s.n : Int) = 12 := by omega
    refine (has_ok (s := s) (hcell hV1)).mono ?_
    rintro r V2 ⟨rfl, rfl⟩
    rw [hs12]
    refine ⟨_, rfl, br_intro (fun ha => (has_ok (s := s) (hcell hV1)).mono ?_) (fun ha => ⟨by
      rw [hM, Bool.true_and, ha]; rfl, hV1⟩)⟩
    rintro r V3 ⟨rfl, rfl⟩
    rw [hs12]
    refine ⟨_, rfl, br_intro (fun hb => ?_) (fun hb => ⟨by
      rw [hM, Bool.true_and, ha, Bool.true_and, hb]; rfl, hV1⟩)⟩
    have ha' : 0 ≤ a ∧ a < 12 := by simpa using ha
    have hb' : 0 ≤ b ∧ b < 12 := by simpa using hb
    obtain ⟨ad, sq, en, had, hc, hN⟩ := (h'.mono hV1).nodN (i := a.toNat) (by omega)
    refine ⟨s, hcell hV1, by omega, by omega, ad, had, _, cellsAt_nth hc 0 rfl, br_intro (fun hk => ?_) (fun hk => ⟨?_, hV1⟩)⟩
    · have hk : kindT t a.toNat = 2 := of_decide_eq_true hk
      have hbl := below_ok (a := a.toNat) (h'.mono hV1) h12 (by omega) (fun n hn e he => by have := mayT_node hM n hn e he; omega)
      rw [show ((a.toNat : Nat) : Int) = a by omega] at hbl
      refine ⟨s, cellsAt_one.2 (hcell hV1), hbl.mono ?_⟩
      rintro r V4 ⟨y, rfl, hy, hV4⟩
      have hyn := hy.n
      simp only [List.length_map, List.length_range] at hyn
      obtain ⟨ad4, hx4, ha4, hc4⟩ := hy.bool (x := b) (by omega) (by omega)
      refine ⟨y, rfl, by omega, by omega, ad4, ha4, _, hc4, ?_, hV1.trans hV4⟩
      rw [hM, decide_eq_true ha'.1, decide_eq_true ha'.2, decide_eq_true hb'.1, decide_eq_true hb'.2, decide_eq_true hk]
      simp
    · have hk : ¬ kindT t a.toNat = 2 := of_decide_eq_false hk
      rw [decide_eq_false hk]; simp
  · rintro ⟨q, ⟨⟩⟩ V1 ⟨h1, hV⟩
    simp only at h1
    subst h1
    exact ⟨rfl, hp.trans hV⟩
/-! ### awake -/
theorem free_first : freeT firstT = 1 := by
  unfold freeT; rw [if_pos mayT_first]; decide
end Go.Proofs.YtoogangnldppaaaGreatDoor

/- What is written is read as it was. No program in this text. -/
namespace Go.Proofs.YtoogangnldppaaaGreatDoor
open Go
end Go.Proofs.YtoogangnldppaaaGreatDoor

/- RootCut: bytes that are cut short, or have one more behind, are no tree. -/
namespace Go.Proofs.YtoogangnldppaaaGreatDoor
open Go
theorem wrap_u64_nn (a : Int) : 0 ≤ IntKind.u64.wrap a := by
  unfold IntKind.wrap
  simp [IntKind.signed, IntKind.bits]
  omega
end Go.Proofs.YtoogangnldppaaaGreatDoor

/- DirFrees, DirInside. -/
namespace Go.Proofs.YtoogangnldppaaaGreatDoor
open Go
end Go.Proofs.YtoogangnldppaaaGreatDoor

/- How the nodes of a tree that may be hang together: plain laws. -/
namespace Go.Proofs.YtoogangnldppaaaGreatDoor
open Go
theorem Reach.trans {t : Tre} {a b c : Nat} (h : Reach t a b) (k : Reach t b c) : Reach t a c := by
  induction k with
  | refl => exact h
  | step _ hx ih => exact .step ih hx
theorem allE_cons (n : Nod) (t : Tre) : allE (n :: t) = n.ents ++ allE t := by simp [allE]
theorem named_one {t : Tre} {x : Int} : ∀ {i : Nat} {e : Ent}, e ∈ (t.getD i default).ents → e.node = x → 1 ≤ namedT t x := by
  intro i e he hx
  refine List.countP_pos_iff.2 ⟨e, ?_, decide_eq_true hx⟩
  unfold allE
  refine List.mem_flatMap.2 ⟨t.getD i default, ?_, he⟩
  by_cases hi : i < t.length
  · exact getD_mem hi
  · rw [List.getD_eq_getElem?_getD, List.getElem?_eq_none (by omega)] at he
    cases he
theorem named_two {x : Int} : ∀ {t : Tre} {i p : Nat} {e e' : Ent}, i < p → e ∈ (t.getD i default).ents → e' ∈ (t.getD p default).ents → e.node = x → e'.node = x → 2 ≤ namedT t x
  | [], i, p, e, e', _, he, _, _, _ => by cases he
  | n :: t, 0, p + 1, e, e', _, he, he', hx, hx' => by
    unfold namedT
    rw [allE_cons, List.countP_append]
    have h1 : 1 ≤ n.ents.countP fun x_1 => decide (x_1.node = x) := List.countP_pos_iff.2 ⟨e, by simpa using he, decide_eq_true hx⟩
    have h2 : 1 ≤ namedT t x := named_one (i := p) (e := e') (by simpa using he') hx'
    unfold namedT at h2
    omega
  | n :: t, i + 1, p + 1, e, e', hip, he, he', hx, hx' => by
    have h := named_two (t := t) (i := i) (p := p) (by omega) (by simpa using he) (by simpa using he') hx hx'
    unfold namedT at h ⊢
    rw [allE_cons, List.countP_append]
    omega
theorem named_same {t : Tre} {x : Int} (h : namedT t x ≤ 1) {i p : Nat} {e e' : Ent} (he : e ∈ (t.getD i default).ents) (he' : e' ∈ (t.getD p default).ents) (hx : e.node = x) (hx' : e'.node = x) : i = p := by
  rcases Nat.lt_trichotomy i p with hl | hl | hl
  · have := named_two hl he he' hx hx'; omega
  · exact hl
  · have := named_two hl he' he hx' hx; omega
/-- What is known of a tree that may be. -/
structure MayF (t : Tre) : Prop where
  len : t.length = 12
  may : ∀ n ∈ t, mayN n = true
  top : kindT t 0 = 2
  dir : ∀ i, i < 12 → kindT t i = 2 → Reach t 0 i ∧ (i = 0 ∨ namedT t i = 1)
  file : ∀ i, i < 12 → kindT t i = 1 → (t.getD i default).links = (namedT t i : Nat)
  none : ∀ i, i < 12 → kindT t i = 0 → namedT t i = 0
theorem mayF {t : Tre} (h : mayT t = true) : MayF t := by
  obtain ⟨h12, hall, hk, hh, _⟩ := mayT_all h
  have hc : ∀ i, i < 12 → (cnt 12 (allE t)).getD i 0 = (namedT t i : Nat) := fun i hi => cnt_get 12 (allE t) hi
  refine ⟨h12, hall, hk, fun i hi hk2 => ?_, fun i hi hk1 => ?_, fun i hi hk0 => ?_⟩
  · have hb := hh i hi
    rw [hc i hi] at hb
    unfold hangB at hb
    rw [if_pos (show (t.getD i default).kind = 2 from hk2)] at hb
    simp only [Bool.and_eq_true, Bool.or_eq_true, decide_eq_true_eq] at hb
    exact ⟨metB_iff.1 hb.1, by omega⟩
  · have hb := hh i hi
    rw [hc i hi] at hb
    unfold hangB at hb
    rw [if_neg (show ¬ (t.getD i default).kind = 2 by unfold kindT at hk1; omega), if_pos (show (t.getD i default).kind = 1 from hk1)] at hb
    exact of_decide_eq_true hb
  · have hb := hh i hi
    rw [hc i hi] at hb
    unfold hangB at hb
    rw [if_neg (show ¬ (t.getD i default).kind = 2 by unfold kindT at hk0; omega), if_neg (show ¬ (t.getD i default).kind = 1 by unfold kindT at hk0; omega)] at hb
    have := of_decide_eq_true hb
    omega
theorem MayF.at {t : Tre} (h : MayF t) {i : Nat} (hi : i < 12) : mayN (t.getD i default) = true := h.may _ (getD_mem (by rw [h.len]; exact hi))
theorem MayF.ent {t : Tre} (h : MayF t) {i : Nat} {e : Ent} (he : e ∈ entsT t i) : i < 12 ∧ kindT t i = 2 ∧ 1 ≤ e.node ∧ e.node < 12 ∧ mayB e.name = true ∧ kindT t e.node.toNat ≠ 0 := by
  have hi : i < 12 := by
    apply Classical.byContradiction
    intro hi
    unfold entsT at he
    rw [List.getD_eq_getElem?_getD, List.getElem?_eq_none (by rw [h.len]; omega)] at he
    cases he
  have hm := h.at hi
  have hn := mayL_node (mayN_ents hm) he
  refine ⟨hi, ?_, hn.1, hn.2.1, hn.2.2, fun hk => ?_⟩
  · rcases kind_of hm with hk | hk | hk
    · exfalso
      unfold mayN at hm
      rw [if_pos hk] at hm
      simp only [Bool.and_eq_true, decide_eq_true_eq] at hm
      have : (t.getD i default).ents = [] := List.eq_nil_of_length_eq_zero hm.2
      unfold entsT at he
      rw [this] at he; cases he
    · exfalso
      unfold mayN at hm
      rw [if_neg (by omega), if_pos hk] at hm
      unfold fileB at hm
      simp only [Bool.and_eq_true, decide_eq_true_eq] at hm
      have : (t.getD i default).ents = [] := List.eq_nil_of_length_eq_zero hm.1.2
      unfold entsT at he
      rw [this] at he; cases he
    · exact hk
  · have h0 := h.none e.node.toNat (by omega) hk
    have h1 := named_one (t := t) (x := ((e.node.toNat : Nat) : Int)) (i := i) he (by omega)
    omega
/-- The root is named by nobody. -/
theorem MayF.zero {t : Tre} (h : MayF t) {i : Nat} {e : Ent} (he : e ∈ entsT t i) : e.node.toNat ≠ 0 := by
  have := h.ent he; omega
/-- A file leads nowhere. -/
theorem reach_leaf {t : Tre} {a b : Nat} (h : entsT t a = []) (hr : Reach t a b) : b = a := by
  induction hr with
  | refl => rfl
  | step _ hx ih =>
    subst ih
    unfold entsT at h
    rw [h] at hx; cases hx
theorem reach_first {t : Tre} {a b : Nat} (hr : Reach t a b) : a = b ∨ ∃ e ∈ entsT t a, Reach t e.node.toNat b := by
  induction hr with
  | refl => exact .inl rfl
  | step h hx ih =>
    right
    rcases ih with rfl | ⟨e, he, hr⟩
    · exact ⟨_, hx, .refl⟩
    · exact ⟨e, he, .step hr hx⟩
/-- One comes back nowhere. -/
theorem MayF.nocycle {t : Tre} (h : MayF t) {a : Nat} {e0 : Ent} (he0 : e0 ∈ entsT t a) (hba : Reach t e0.node.toNat a) : False := by
  have ha := (h.ent he0).1
  let C : Nat → Prop := fun x => Reach t a x ∧ Reach t x a
  have pred : ∀ x, C x → ∃ p e, C p ∧ e ∈ entsT t p ∧ e.node.toNat = x := by
    rintro x ⟨h1, h2⟩
    by_cases hx : x = a
    · subst hx
      rcases Nat.decEq e0.node.toNat x with hne | heq
      · cases hba with
        | refl => exact absurd rfl hne
        | step hp hx => exact ⟨_, _, ⟨(Reach.step .refl he0).trans hp, .step .refl hx⟩, hx, rfl⟩
      · exact ⟨x, e0, ⟨.refl, .refl⟩, he0, heq⟩
    · cases h1 with
      | refl => exact absurd rfl hx
      | step hp he => exact ⟨_, _, ⟨hp, (Reach.step .refl he).trans h2⟩, he, rfl⟩
  have dirC : ∀ x, C x → kindT t x = 2 := by
    rintro x ⟨h1, h2⟩
    by_cases hx : x = a
    · subst hx
      exact (h.ent he0).2.1
    · rcases reach_first h2 with e | ⟨e, he, _⟩
      · exact absurd e hx
      · exact (h.ent he).2.1
  have no : ∀ x, Reach t 0 x → ¬ C x := by
    intro x hr
    induction hr with
    | refl =>
      intro hc
      obtain ⟨p, e, _, he, h0⟩ := pred _ hc
      exact h.zero he h0
    | @step i e hi he ih =>
      intro hc
      obtain ⟨p, e', hp, he', hx⟩ := pred _ hc
      have hq := h.ent he
      have hq' := h.ent he'
      have hd := (h.dir e.node.toNat (by omega) (dirC _ hc)).2
      have hn1 : namedT t ((e.node.toNat : Nat) : Int) ≤ 1 := by
        rcases hd with h0 | h1
        · exact absurd h0 (h.zero he)
        · omega
      have := named_same hn1 he he' (by omega) (by omega)
      subst this
      exact ih hp
  have hCa : C a := ⟨.refl, .refl⟩
  exact no a (h.dir a ha (dirC a hCa)).1 hCa
theorem MayF.met {t : Tre} (h : MayF t) {c : Nat} (hc : c < 12) : metB t 0 c = (decide (0 < namedT t c) || decide (c = 0)) := by
  rw [Bool.eq_iff_iff, metB_iff, Bool.or_eq_true, decide_eq_true_eq, decide_eq_true_eq]
  constructor
  · intro hr
    cases hr with
    | refl => exact .inr rfl
    | step _ hx => have := h.ent hx; exact .inl (named_one hx (by omega))
  · rintro (hn | rfl)
    · obtain ⟨e, he, hd⟩ := List.countP_pos_iff.1 hn
      obtain ⟨n, hn, hen⟩ := List.mem_flatMap.1 he
      obtain ⟨j, hj, rfl⟩ := List.getElem_of_mem hn
      have hx : e ∈ entsT t j := by unfold entsT; rw [getD_at hj]; exact hen
      have hq := h.ent hx
      have := Reach.step (h.dir j hq.1 hq.2.1).1 hx
      rwa [of_decide_eq_true hd, Int.toNat_natCast] at this
    · exact .refl
theorem insideT_iff {t : Tre} (hM : mayT t = true) {a b : Nat} (ha : a < 12) (hb : b < 12) : insideT t a b = (decide (kindT t a = 2) && metB t a b) := by
  unfold insideT
  rw [hM, decide_eq_true (show (0 : Int) ≤ a by omega), decide_eq_true (show (a : Int) < 12 by omega), decide_eq_true (show (0 : Int) ≤ b by omega), decide_eq_true (show (b : Int) < 12 by omega)]
  simp
end Go.Proofs.YtoogangnldppaaaGreatDoor

/- DirInside. -/
namespace Go.Proofs.YtoogangnldppaaaGreatDoor
open Go
end Go.Proofs.YtoogangnldppaaaGreatDoor

/- DirCounts. -/
namespace Go.Proofs.YtoogangnldppaaaGreatDoor
open Go
/-! ### a name less -/
theorem mayT_light' {t : Tre} (h : mayT t = true) : t.length ≤ 1000 ∧ ∀ n ∈ t, LightN n := by
  have := mayT_light h
  exact ⟨by omega, this.2⟩
end Go.Proofs.YtoogangnldppaaaGreatDoor

/- May operations be taken in an order: the same check over bits of a number. -/
namespace Go.Proofs.YtoogangnldppaaaGreatDoor
open Go
/-- The listed ones are the bits of m. -/
structure BitsR (ops : Array Oper) (listed : Array Bool) (m : Nat) : Prop where
  size : listed.size = ops.size
  bit : ∀ j d, j < ops.size → listed.getD j d = Nat.testBit m j
  out : ∀ j, ops.size ≤ j → Nat.testBit m j = false
theorem BitsR.get {ops : Array Oper} {listed : Array Bool} {m : Nat} (h : BitsR ops listed m) (j : Nat) : listed.getD j false = Nat.testBit m j := by
  by_cases hj : j < ops.size
  · exact h.bit j false hj
  · rw [h.out j (by omega)]
    unfold Array.getD
    rw [dif_neg (by rw [h.size]; exact hj)]
theorem BitsR.set {ops : Array Oper} {listed : Array Bool} {m : Nat} (h : BitsR ops listed m) {i : Nat} (hi : i < ops.size) : BitsR ops (listed.setIfInBounds i true) (m ||| 2 ^ i) := by
  refine ⟨by rw [Array.size_setIfInBounds]; exact h.size, fun j d hj => ?_, fun j hj => ?_⟩
  · have hb := h.bit j d hj
    rw [Nat.testBit_or, Nat.testBit_two_pow]
    rw [Array.getD_eq_getD_getElem?] at hb ⊢
    rw [Array.getElem?_setIfInBounds]
    by_cases e : i = j
    · subst e
      rw [if_pos rfl, if_pos (by rw [h.size]; exact hi)]
      simp
    · rw [if_neg e, hb, decide_eq_false e, Bool.or_false]
  · rw [Nat.testBit_or, Nat.testBit_two_pow, h.out j hj, decide_eq_false (by omega)]; rfl
/-- The numbers that come up, written out. -/
inductive MT where
  | nil
  | fl (m : Nat) (t : MT)
  | alt (m : Nat) (d : Bool) (t r : MT)
end Go.Proofs.YtoogangnldppaaaGreatDoor

/- RootBack: what is written is read as it was. -/
namespace Go.Proofs.YtoogangnldppaaaGreatDoor
open Go
theorem refInts_ok {s t : Sl} {l m : List Int} {V : View} (h : SlR V s l) (k : SlR V t m) : CallV Tryz.prog 26 ⟨[.slice s.a s.n s.c, .slice t.a t.n t.c]⟩ V fun r V' => r = .bool (decide (l = m)) ∧ V' = V := by
  refine f26_x ?_
  unfold f26_n
  have hn := h.n; have hlim := h.lim; have kn := k.n
  refine br_intro (fun hne => ⟨?_, rfl⟩) (fun heq => ?_)
  · have hne : ¬ (s.n : Int) = t.n := by simpa using hne
    rw [decide_eq_false]
    intro e; subst e; omega
  have heq : (s.n : Int) = t.n := by simpa using heq
  refine loop1 (k := .int .i64) (fun (x : Int) V' => V' = V ∧ 0 ≤ x ∧ x ≤ s.n ∧ l.take x.toNat = m.take x.toNat) (fun (x : Int) _ => s.n - x.toNat) ⟨rfl, by omega, by omega, rfl⟩ ?_
  rintro (x : Int) V' ⟨rfl, h0, h1, h2⟩
  refine br_intro (fun hlt => ?_) (fun hge => ?_)
  · have hlt : x < s.n := by simpa using hlt
    obtain ⟨ad, hx, ha, hc, _⟩ := h.int h0 hlt
    obtain ⟨ad', hx', ha', hc', _⟩ := k.int h0 (by omega)
    refine ⟨trivial, V', View.Le.refl _, h0, hlt, ad, ha, _, hc, h0, by omega, ad', ha', _, hc', br_intro (fun hb => ⟨?_, rfl⟩) (fun hb => ⟨inI64 (by omega) (by omega), ⟨rfl, by omega, by omega, ?_⟩, by omega⟩)⟩
    · have hb : ¬ l[x.toNat] = m[x.toNat] := by simpa using hb
      rw [decide_eq_false]
      intro e; subst e; exact hb rfl
    · have hb : l[x.toNat] = m[x.toNat] := by simpa using hb
      rw [show (x + 1).toNat = x.toNat + 1 by omega, List.take_add_one, List.take_add_one, h2, List.getElem?_eq_getElem hx, List.getElem?_eq_getElem hx', hb]
  · have hge : ¬ x < s.n := by simpa using hge
    rw [List.take_of_length_le (by omega), List.take_of_length_le (by omega)] at h2
    exact ⟨by rw [h2]; simp, rfl⟩
theorem refEnts_ok {s t : Sl} {l m : List Ent} {V : View} (h : SlR V s l) (k : SlR V t m) : CallV Tryz.prog 59 ⟨[.slice s.a s.n s.c, .slice t.a t.n t.c]⟩ V fun r V' => r = .bool (decide (l = m)) ∧ V' = V := by
  refine f59_x ?_
  unfold f59_n
  have hn := h.n; have hlim := h.lim; have kn := k.n
  refine br_intro (fun hne => ⟨?_, rfl⟩) (fun heq => ?_)
  · have hne : ¬ (s.n : Int) = t.n := by simpa using hne
    rw [decide_eq_false]
    intro e; subst e; omega
  have heq : (s.n : Int) = t.n := by simpa using heq
  refine loop1 (k := .int .i64) (fun (x : Int) V' => V' = V ∧ 0 ≤ x ∧ x ≤ s.n ∧ l.take x.toNat = m.take x.toNat) (fun (x : Int) _ => s.n - x.toNat) ⟨rfl, by omega, by omega, rfl⟩ ?_
  rintro (x : Int) V' ⟨rfl, h0, h1, h2⟩
  refine br_intro (fun hlt => ?_) (fun hge => ?_)
  · have hlt : x < s.n := by simpa using hlt
    obtain ⟨ad, hx, ha, hc, _⟩ := h.ent h0 hlt
    obtain ⟨ad', hx', ha', hc', _⟩ := k.ent h0 (by omega)
    refine ⟨trivial, V', View.Le.refl _, h0, hlt, ad, ha, _, _, hc, h0, by omega, ad', ha', _, _, hc', trivial, ?_⟩
    rw [ent_eq]
    refine br_intro (fun hb => ⟨?_, rfl⟩) (fun hb => ⟨inI64 (by omega) (by omega), ⟨rfl, by omega, by omega, ?_⟩, by omega⟩)
    · have hb : ¬ l[x.toNat] = m[x.toNat] := by simpa using hb
      rw [decide_eq_false]
      intro e; subst e; exact hb rfl
    · have hb : l[x.toNat] = m[x.toNat] := by simpa using hb
      rw [show (x + 1).toNat = x.toNat + 1 by omega, List.take_add_one, List.take_add_one, h2, List.getElem?_eq_getElem hx, List.getElem?_eq_getElem hx', hb]
  · have hge : ¬ x < s.n := by simpa using hge
    rw [List.take_of_length_le (by omega), List.take_of_length_le (by omega)] at h2
    exact ⟨by rw [h2]; simp, rfl⟩
theorem refSameN_ok {a b : Nod} {s e s' e' : Sl} {V : View} (h : NodR V s e a) (k : NodR V s' e' b) : CallV Tryz.prog 30 ⟨[nodV a s e, nodV b s' e']⟩ V fun r V' => r = .bool (decide (a = b)) ∧ V' = V := by
  refine f30_x ?_
  unfold f30_n
  rw [nod_eq]
  refine fun _ _ => joinP_cut (fun q V' => q.1 = (decide (a.kind = b.kind) && decide (a.links = b.links) && decide (a.size = b.size) && (decide (a.seqs = b.seqs) && decide (a.ents = b.ents))) ∧ V' = V) (br_intro (fun hb => (refInts_ok h.seqs k.seqs).mono ?_) (fun hb => ⟨?_, rfl⟩)) ?_
  · have hb : (decide (a.kind = b.kind) && decide (a.links = b.links) && decide (a.size = b.size)) = true := by
      cases h1 : decide (a.kind = b.kind) <;> cases h2 : decide (a.links = b.links) <;> cases h3 : decide (a.size = b.size) <;> simp_all
    rw [hb]
    rintro r V1 ⟨rfl, rfl⟩
    refine ⟨_, rfl, br_intro (fun h1 => (refEnts_ok h.ents k.ents).mono ?_) (fun h1 => ⟨by rw [h1]; rfl, rfl⟩)⟩
    rintro r V2 ⟨rfl, rfl⟩
    exact ⟨_, rfl, by rw [h1]; rfl, rfl⟩
  · have hb : (decide (a.kind = b.kind) && decide (a.links = b.links) && decide (a.size = b.size)) = false := by
      cases h1 : decide (a.kind = b.kind) <;> cases h2 : decide (a.links = b.links) <;> cases h3 : decide (a.size = b.size) <;> simp_all
    rw [hb]; rfl
  · rintro ⟨q, ⟨⟩⟩ V1 ⟨h1, hV⟩
    simp only at h1 hV
    subst h1 hV
    exact ⟨rfl, rfl⟩
theorem refSameT_ok {s t : Sl} {l m : Tre} {V : View} (h : SlR V s l) (k : SlR V t m) : CallV Tryz.prog 17 ⟨[treV s, treV t]⟩ V fun r V' => r = .bool (decide (l = m)) ∧ V' = V := by
  refine f17_x ?_
  unfold f17_n
  have hn := h.n; have hlim := h.lim; have kn := k.n
  refine fun _ _ => br_intro (fun hne => ⟨?_, rfl⟩) (fun heq => ?_)
  · have hne : ¬ (s.n : Int) = t.n := by simpa using hne
    rw [decide_eq_false]
    intro e; subst e; omega
  have heq : (s.n : Int) = t.n := by simpa using heq
  refine loop1 (k := .int .i64) (fun (x : Int) V' => V' = V ∧ 0 ≤ x ∧ x ≤ s.n ∧ l.take x.toNat = m.take x.toNat) (fun (x : Int) _ => s.n - x.toNat) ⟨rfl, by omega, by omega, rfl⟩ ?_
  rintro (x : Int) V' ⟨rfl, h0, h1, h2⟩
  refine br_intro (fun hlt => ?_) (fun hge => ?_)
  · have hlt : x < s.n := by simpa using hlt
    obtain ⟨ad, sq, en, hx, ha, hc, hN⟩ := h.nod h0 hlt
    obtain ⟨ad', sq', en', hx', ha', hc', hN'⟩ := k.nod h0 (by omega)
    refine ⟨trivial, V', View.Le.refl _, h0, hlt, ad, ha, _, _, _, sq, en, hc, h0, by omega, ad', ha', _, _, _, sq', en', hc', (refSameN_ok hN hN').mono ?_⟩
    rintro r V1 ⟨rfl, rfl⟩
    refine ⟨_, rfl, br_intro (fun hb => ⟨?_, rfl⟩) (fun hb => ⟨inI64 (by omega) (by omega), ⟨rfl, by omega, by omega, ?_⟩, by omega⟩)⟩
    · have hb : ¬ l[x.toNat] = m[x.toNat] := of_decide_eq_false (not_t hb)
      rw [decide_eq_false]
      intro e; subst e; exact hb rfl
    · have hb : l[x.toNat] = m[x.toNat] := of_decide_eq_true (not_f hb)
      rw [show (x + 1).toNat = x.toNat + 1 by omega, List.take_add_one, List.take_add_one, h2, List.getElem?_eq_getElem hx, List.getElem?_eq_getElem hx', hb]
  · have hge : ¬ x < s.n := by simpa using hge
    rw [List.take_of_length_le (by omega), List.take_of_length_le (by omega)] at h2
    exact ⟨by rw [h2]; simp, rfl⟩
/-! ### sheets -/
end Go.Proofs.YtoogangnldppaaaGreatDoor

/- DirCopies. -/
namespace Go.Proofs.YtoogangnldppaaaGreatDoor
open Go
/-- A row that U does not see. -/
def RowS (W U : View) (s : Sl) (sz : Nat) : Prop := s.n = 0 ∨ ∃ r all e, s.a = some ⟨r, 0, none⟩ ∧ W.see r = some (.cells ⟨all⟩ e (0, 0)) ∧ s.n * sz ≤ all.length ∧ U.see r = none ∧ s.n ≤ 140737488355328
theorem RowS.lim {W U : View} {s : Sl} {sz : Nat} (h : RowS W U s sz) : s.n ≤ 140737488355328 := by
  rcases h with h | ⟨_, _, _, _, _, _, _, h⟩
  · omega
  · exact h
theorem see_none_le {U V : View} (h : U.Le V) {r : Nat} (hr : V.see r = none) : U.see r = none := by
  cases hs : U.see r with
  | none => rfl
  | some o => rw [h.see _ _ hs] at hr; cases hr
theorem RowS.mono {W W' U U' : View} {s : Sl} {sz : Nat} (hW : W.Le W') (hU : U'.Le U) (h : RowS W U s sz) : RowS W' U' s sz := by
  rcases h with h | ⟨r, all, e, h1, h2, h3, h4, h5⟩
  · exact .inl h
  · exact .inr ⟨r, all, e, h1, hW.see _ _ h2, h3, see_none_le hU h4, h5⟩
theorem minus_none {V : View} {x : Sl} {ad : Addr} (h : x.a = some ad) : (V.minus x).see ad.block = none := by
  unfold View.minus; rw [h, hide_see, if_pos rfl]
/-- A node of which only this is known: its rows are not U's. -/
structure SpN where
  u : View
instance : Rep SpN where
  sz := 5
  pos := by decide
  rep W vs x := ∃ (k l z : Int) (sq en : Sl), vs = [.int .i64 k, .int .i64 l, .int .i64 z, .slice sq.a sq.n sq.c, .slice en.a en.n en.c] ∧ RowS W x.u sq 1 ∧ RowS W x.u en 2
  len h := by obtain ⟨_, _, _, _, _, h, _⟩ := h; rw [h]; rfl
  one h := by obtain ⟨_, _, _, _, _, h, _⟩ := h; rw [h]; rfl
  mono hV h := let ⟨k, l, z, sq, en, h, a, b⟩ := h; ⟨k, l, z, sq, en, h, a.mono hV (View.Le.refl _), b.mono hV (View.Le.refl _)⟩
/-- A copy none of whose rows is U's; what it holds. -/
structure Cop (U V : View) (x : Sl) (t : Tre) (cs : List Value) : Prop where
  buf : Buf V x 63 5 cs
  rep : repL (V.minus x) cs t
  sp : repL (V.minus x) cs (List.replicate t.length (SpN.mk U))
  le : U.Le (V.minus x)
/-- Views of one shape. -/
def Shp (W W' : View) : Prop := ∀ r all e, W.see r = some (.cells ⟨all⟩ e (0, 0)) → ∃ all', W'.see r = some (.cells ⟨all'⟩ e (0, 0)) ∧ all'.length = all.length
theorem RowS.shp {W W' U : View} {s : Sl} {sz : Nat} (hS : Shp W W') (h : RowS W U s sz) : RowS W' U s sz := by
  rcases h with h | ⟨r, all, e, h1, h2, h3, h4, h7⟩
  · exact .inl h
  · obtain ⟨all', h5, h6⟩ := hS r all e h2
    exact .inr ⟨r, all', e, h1, h5, by omega, h4, h7⟩
theorem shp_rep {W W' : View} (hS : Shp W W') : ∀ {cs : List Value} {l : List SpN}, repL W cs l → repL W' cs l
  | _, [], h => h
  | _, _ :: _, ⟨vs, us, e, ⟨k, l, z, sq, en, h1, h2, h3⟩, h⟩ => ⟨vs, us, e, ⟨k, l, z, sq, en, h1, h2.shp hS, h3.shp hS⟩, shp_rep hS h⟩
/-- What is spoilt. -/
structure Spo (U V : View) (x : Sl) (m : Nat) (cs : List Value) : Prop where
  buf : Buf V x 63 5 cs
  sp : repL (V.minus x) cs (List.replicate m (SpN.mk U))
  le : U.Le (V.minus x)
theorem Spo.write {U V : View} {x : Sl} {m : Nat} {cs : List Value} (h : Spo U V x m cs) {s : Sl} {sz : Nat} (hs : RowS (V.minus x) U s sz) {off : Nat} (ho : off < s.n * sz) (v : Value) :
    ∃ ad, s.a = some ad ∧ canSet V (ad.add off) 1 ∧ Spo U (V.sets (ad.add off) [v]) x m cs := by
  rcases hs with hs | ⟨r, all, e, h1, h2, h3, h4, _⟩
  · rw [hs] at ho; omega
  · have hsee := (View.minus_le V x).see _ _ h2
    have e0 : (⟨r, 0, none⟩ : Addr).add off = ⟨r, off, none⟩ := by rw [addr0_add]; simp
    have hne : ∀ ad, x.a = some ad → ad.block ≠ r := fun ad ha e => by
      have := minus_none (V := V) ha
      rw [e, h2] at this; cases this
    refine ⟨_, h1, ?_, ?_⟩
    · rw [e0]; exact canSet_of hsee (by omega)
    · rw [e0, sets_see hsee]
      have hput : ∀ i, i ≠ r → (V.put r (.cells ⟨putL all off [v]⟩ e (0, 0))).see i = V.see i := fun i hi => View.see_put_ne V _ hi
      have hms : ∀ i, i ≠ r → ((V.put r (.cells ⟨putL all off [v]⟩ e (0, 0))).minus x).see i = (V.minus x).see i := fun i hi => by
        unfold View.minus
        split
        · exact hput i hi
        · simp only [hide_see, hput i hi]
      have hmr : ((V.put r (.cells ⟨putL all off [v]⟩ e (0, 0))).minus x).see r = some (.cells ⟨putL all off [v]⟩ e (0, 0)) := by
        unfold View.minus
        split
        · exact View.see_put_same _ _ _
        · rename_i ad ha
          rw [hide_see, if_neg (fun e => hne ad ha e.symm)]; exact View.see_put_same _ _ _
      refine ⟨⟨h.buf.len, h.buf.le, h.buf.lim, ?_⟩, shp_rep ?_ h.sp, ⟨?_, ?_, ?_⟩⟩
      · rcases h.buf.own with h5 | ⟨q, al, h5, h6, h7⟩
        · exact .inl h5
        · exact .inr ⟨q, al, h5, by rw [hput q (hne _ h5)]; exact h6, h7⟩
      · intro i al e' hi
        by_cases hir : i = r
        · subst hir
          rw [h2] at hi
          cases hi
          exact ⟨_, hmr, by show (all.set off v).length = _; rw [List.length_set]⟩
        · exact ⟨al, by rw [hms i hir]; exact hi, rfl⟩
      · have h7 := h.le.size
        have h8 : (V.minus x).size = V.size := by unfold View.minus; split <;> rfl
        have h9 : ((V.put r (.cells ⟨putL all off [v]⟩ e (0, 0))).minus x).size = max V.size (r + 1) := by unfold View.minus; split <;> rfl
        omega
      · intro i o hi
        have hir : i ≠ r := fun e => by rw [e, h4] at hi; cases hi
        rw [hms i hir]; exact h.le.see _ _ hi
      · have h8 : (V.minus x).out = V.out := by unfold View.minus; split <;> rfl
        have h9 : ((V.put r (.cells ⟨putL all off [v]⟩ e (0, 0))).minus x).out = V.out := by unfold View.minus; split <;> rfl
        rw [h9, ← h8]; exact h.le.out
theorem Spo.node {U V : View} {x : Sl} {m : Nat} {cs : List Value} (h : Spo U V x m cs) {i : Nat} (hi : i < m) :
    ∃ ad sq en, x.a = some ad ∧ cs[i * 5 + 3]? = some (.slice sq.a sq.n sq.c) ∧ cs[i * 5 + 4]? = some (.slice en.a en.n en.c) ∧ RowS (V.minus x) U sq 1 ∧ RowS (V.minus x) U en 2 := by
  obtain ⟨vs, ⟨k, l, z, sq, en, rfl, h1, h2⟩, hg⟩ := h.sp.get i (by simpa using hi)
  rw [List.getElem_replicate] at h1 h2
  have hn := h.buf.n_eq (α := SpN) h.sp
  rw [List.length_replicate] at hn
  rcases h.buf.own with ⟨_, h5⟩ | ⟨q, al, h5, _⟩
  · have := h.buf.le; omega
  · exact ⟨_, sq, en, h5, hg 3 _ rfl, hg 4 _ rfl, h1, h2⟩
theorem Spo.cell {U V : View} {x : Sl} {m : Nat} {cs : List Value} (h : Spo U V x m cs) {ad : Addr} (ha : x.a = some ad) {i j : Nat} {v : Value} (hv : cs[i * 5 + j]? = some v) : V.cell? ((ad.add (i * 5)).add j) = some v := by
  have := h.buf.row
  rw [ha] at this
  rw [Addr.add_add]
  exact this.2 _ _ hv
theorem Spo.rows {U V' : View} {x : Sl} {m : Nat} {cs : List Value} (h : Spo U V' x m cs) {i : Nat} (hi : i < m) {s : Sl} {j : Nat} (hj : j = 3 ∨ j = 4) (hv : cs[i * 5 + j]? = some (.slice s.a s.n s.c)) : RowS (V'.minus x) U s (if j = 3 then 1 else 2) := by
  obtain ⟨ad, sq, en, _, h3, h4, h5, h6⟩ := h.node hi
  rcases hj with rfl | rfl
  · rw [h3] at hv
    simp only [Option.some.injEq, Value.slice.injEq] at hv
    obtain ⟨e1, e2, e3⟩ := hv
    have : sq = s := by cases sq; cases s; simp_all
    rw [if_pos rfl, ← this]; exact h5
  · rw [h4] at hv
    simp only [Option.some.injEq, Value.slice.injEq] at hv
    obtain ⟨e1, e2, e3⟩ := hv
    have : en = s := by cases en; cases s; simp_all
    rw [if_neg (by decide), ← this]; exact h6
theorem Cop.slR {U V : View} {x : Sl} {t : Tre} {cs : List Value} (h : Cop U V x t cs) : SlR V x t := h.buf.slR h.rep (View.minus_le _ _)
theorem Cop.vle {U V : View} {x : Sl} {t : Tre} {cs : List Value} (h : Cop U V x t cs) : U.Le V := h.le.trans (View.minus_le _ _)
end Go.Proofs.YtoogangnldppaaaGreatDoor

/- Bits of numbers: plain lemmas. -/
namespace Go.Proofs.YtoogangnldppaaaGreatDoor
open Go
end Go.Proofs.YtoogangnldppaaaGreatDoor

/- Contracts of the reference's numbers and its reader. -/
namespace Go.Proofs.YtoogangnldppaaaGreatDoor
open Go
end Go.Proofs.YtoogangnldppaaaGreatDoor

/- Contracts of the reference's numbers and texts that are laid behind bytes. -/
namespace Go.Proofs.YtoogangnldppaaaGreatDoor
open Go
/-- Two rows of one's own apart from one another. -/
theorem Buf.swap {V : View} {x y : Sl} {e e' : TypeId} {sz sz' : Nat} {cs ds : List Value} (h : Buf (V.minus y) x e sz cs) (k : Buf V y e' sz' ds) : Buf (V.minus x) y e' sz' ds := by
  refine ⟨k.len, k.le, k.lim, ?_⟩
  rcases k.own with k1 | ⟨r, all, k1, k2, k3⟩
  · exact .inl k1
  · refine .inr ⟨r, all, k1, ?_, k3⟩
    rcases h.own with ⟨h1, _⟩ | ⟨q, all', h1, h2, _⟩
    · unfold View.minus; rw [h1]; exact k2
    · unfold View.minus at h2 ⊢
      rw [k1] at h2
      rw [h1]
      simp only [hide_see] at h2 ⊢
      split at h2
      · cases h2
      · rename_i hne; rw [if_neg (fun e => hne e.symm)]; exact k2
theorem minus_minus_le (V : View) (x y : Sl) : ((V.minus x).minus y).Le ((V.minus y).minus x) := by
  refine ⟨by unfold View.minus; split <;> split <;> exact Nat.le_refl _, fun i o ho => ?_, by unfold View.minus; split <;> split <;> rfl⟩
  unfold View.minus at *
  cases hx : x.a <;> cases hy : y.a <;> simp only [hx, hy, hide_see] at ho ⊢
  · exact ho
  · exact ho
  · exact ho
  · split at ho
    · cases ho
    · rename_i h1
      split at ho
      · cases ho
      · rename_i h2
        rw [if_neg h2, if_neg h1]; exact ho
end Go.Proofs.YtoogangnldppaaaGreatDoor

/- Contracts of the reference's roots: bytes, tree, refs. -/
namespace Go.Proofs.YtoogangnldppaaaGreatDoor
open Go
/-- A call beside two rows of one's own. -/
theorem CallV.besideB2 {P : Program} {f : FuncId} {args : Array Value} {V : View} {x y : Sl} {e e' : TypeId} {sz sz' : Nat} {cs ds : List Value} {K : Value → View → Prop} (h : CallV P f args ((V.minus x).minus y) K) (hx : Buf V x e sz cs) (hy : Buf (V.minus x) y e' sz' ds) :
    CallV P f args V fun r V' => ∃ U', K r U' ∧ U'.Le ((V'.minus x).minus y) ∧ Buf V' x e sz cs ∧ Buf (V'.minus x) y e' sz' ds := by
  refine ((h.besideB hy).besideB hx).mono ?_
  rintro r V' ⟨U2, ⟨U1, hk, h1, hy2⟩, h2, hx2⟩
  exact ⟨U1, hk, h1.trans (minus_mono h2 y), hx2, hy2.mono h2⟩
/-! ### refs -/
end Go.Proofs.YtoogangnldppaaaGreatDoor

/- DirApart. -/
namespace Go.Proofs.YtoogangnldppaaaGreatDoor
open Go
/-! ### bits -/
/-! ### views of one's own -/
/-- A write that a smaller view may do. -/
theorem lift_sets {U V : View} {a : Addr} {k : Nat} (hU : U.Le V) (h : canSet U a k) (vs : List Value) :
    canSet V a k ∧ (U.sets a vs).Le (V.sets a vs) ∧ ∀ W : View, W.Le V → W.see a.block = none → W.Le (V.sets a vs) := by
  obtain ⟨h0, c, e, f, h1, h2, h3⟩ := h
  have h4 := hU.see _ _ h1
  refine ⟨⟨h0, c, e, f, h4, h2, h3⟩, ?_, fun W hW hn => ?_⟩
  · unfold View.sets
    simp only [h1, h4]
    refine ⟨?_, fun i o hi => ?_, hU.out⟩
    · show max U.size _ ≤ max V.size _
      have := hU.size; omega
    · show (if i = a.block then _ else V.see i) = some o
      change (if i = a.block then _ else U.see i) = some o at hi
      split at hi
      · rename_i e; rw [if_pos e]; exact hi
      · rename_i e; rw [if_neg e]; exact hU.see _ _ hi
  · unfold View.sets
    simp only [h4]
    refine ⟨?_, fun i o hi => ?_, hW.out⟩
    · show W.size ≤ max V.size _
      have := hW.size; omega
    · have hne : i ≠ a.block := fun e => by rw [e, hn] at hi; cases hi
      rw [View.see_put_ne V _ hne]; exact hW.see _ _ hi
theorem sets_see_ne {U : View} {a : Addr} {vs : List Value} {i : Nat} (h : i ≠ a.block) : (U.sets a vs).see i = U.see i := by
  unfold View.sets
  split
  · exact View.see_put_ne U _ h
  · rfl
/-- Nothing but V's is in both. -/
def Dj (V A B : View) : Prop := ∀ i o, V.see i = none → A.see i = some o → B.see i = none
theorem Dj.symm {V A B : View} (h : Dj V A B) : Dj V B A := fun i o hv hb => by
  cases ha : A.see i with
  | none => rfl
  | some o' => rw [h i o' hv ha] at hb; cases hb
theorem OwnT.blk {V0 V : View} {x : Sl} {t : Tre} (h : OwnT V0 V x t) {ad : Addr} (ha : x.a = some ad) : V0.see ad.block = none := by
  obtain ⟨cs, _, _, hle⟩ := h
  exact see_none_le hle (minus_none ha)
/-! ### a copy whose one row of Seqs lies apart from all else -/
structure NodX where
  n : Nod
  f : Option Sl
instance : Rep NodX where
  sz := 5
  pos := by decide
  rep W vs x := ∃ sq en : Sl, vs = [.int .i64 x.n.kind, .int .i64 x.n.links, .int .i64 x.n.size, .slice sq.a sq.n sq.c, .slice en.a en.n en.c] ∧ inI .i64 x.n.kind ∧ inI .i64 x.n.links ∧ inI .i64 x.n.size ∧ (match x.f with
    | none => SlR W sq x.n.seqs
    | some y => sq = y) ∧ SlR W en x.n.ents
  len h := by obtain ⟨_, _, h, _⟩ := h; rw [h]; rfl
  one h := by obtain ⟨_, _, h, _⟩ := h; rw [h]; rfl
  mono {V V' vs x} hV h := by
    obtain ⟨sq, en, h, a, b, c, d, e⟩ := h
    refine ⟨sq, en, h, a, b, c, ?_, e.mono hV⟩
    cases hf : x.f with
    | none => rw [hf] at d; exact SlR.mono hV d
    | some y => rw [hf] at d; exact d
def flg (y : Sl) : Nat → Tre → List NodX
  | _, [] => []
  | 0, n :: l => ⟨n, some y⟩ :: l.map fun n => ⟨n, none⟩
  | k + 1, n :: l => ⟨n, none⟩ :: flg y k l
theorem flg_short {y : Sl} : ∀ {k : Nat} {l : Tre}, l.length ≤ k → flg y k l = l.map fun n => (⟨n, none⟩ : NodX)
  | 0, [], _ => rfl
  | 0, _ :: _, h => by simp at h
  | _ + 1, [], _ => rfl
  | k + 1, n :: l, h => by
    simp only [flg, List.map_cons]
    rw [flg_short (by simpa using h)]
theorem flg_snoc {y : Sl} (n : Nod) : ∀ (k : Nat) (l : Tre), flg y k (l ++ [n]) = flg y k l ++ [⟨n, if k = l.length then some y else none⟩]
  | 0, [] => rfl
  | 0, m :: l => by simp [flg]
  | k + 1, [] => by simp [flg]
  | k + 1, m :: l => by
    simp only [List.cons_append, flg, flg_snoc n k l, List.length_cons, Nat.add_right_cancel_iff]
theorem flg_len {y : Sl} : ∀ (k : Nat) (l : Tre), (flg y k l).length = l.length
  | 0, [] => rfl
  | _ + 1, [] => rfl
  | 0, n :: l => by simp [flg]
  | k + 1, n :: l => by simp [flg, flg_len k l]
theorem plain_rep {W : View} : ∀ {cs : List Value} {l : Tre}, repL W cs (l.map fun n => (⟨n, none⟩ : NodX)) → repL W cs l
  | _, [], h => h
  | _, n :: l, ⟨vs, us, e, ⟨sq, en, h1, h2, h3, h4, h5, h6⟩, h⟩ => ⟨vs, us, e, ⟨sq, en, h1, h2, h3, h4, h5, h6⟩, plain_rep h⟩
/-- The row that lies apart holds these. -/
theorem flg_fill {W : View} {y : Sl} {q : List Int} (hy : SlR W y q) : ∀ {k : Nat} {cs : List Value} {l : Tre}, repL W cs (flg y k l) → k < l.length → repL W cs (l.set k { l.getD k default with seqs := q })
  | _, _, [], _, hk => absurd hk (by simp)
  | 0, _, n :: l, ⟨vs, us, e, ⟨sq, en, h1, h2, h3, h4, h5, h6⟩, h⟩, _ => by
    refine ⟨vs, us, e, ⟨sq, en, h1, h2, h3, h4, ?_, h6⟩, plain_rep h⟩
    have h5 : sq = y := h5
    rw [h5]; exact hy
  | k + 1, _, n :: l, ⟨vs, us, e, ⟨sq, en, h1, h2, h3, h4, h5, h6⟩, h⟩, hk => ⟨vs, us, e, ⟨sq, en, h1, h2, h3, h4, h5, h6⟩, by
    have := flg_fill hy h (by simpa using hk)
    simpa using this⟩
theorem flg_at {y : Sl} : ∀ {k : Nat} {l : Tre} (h : k < (flg y k l).length), (flg y k l)[k] = ⟨l.getD k default, some y⟩
  | _, [], h => absurd h (by simp [flg])
  | 0, n :: l, _ => by simp [flg]
  | k + 1, n :: l, h => by
    simp only [flg, List.getElem_cons_succ]
    rw [flg_at]
    simp
/-- What such a copy is. -/
structure CopX (V V' : View) (x y : Sl) (k : Nat) (t : Tre) (cs ds : List Value) : Prop where
  buf : Buf V' x 63 5 cs
  row : Buf (V'.minus x) y 3 1 ds
  rep : repL ((V'.minus x).minus y) cs (flg y k t)
  ints : intL ds (t.getD k default).seqs
  le : V.Le ((V'.minus x).minus y)
theorem CopX.vle {V V' : View} {x y : Sl} {k : Nat} {t : Tre} {cs ds : List Value} (h : CopX V V' x y k t cs ds) : V.Le V' := h.le.trans ((View.minus_le _ _).trans (View.minus_le _ _))
theorem CopX.slR {V V' : View} {x y : Sl} {k : Nat} {t : Tre} {cs ds : List Value} (h : CopX V V' x y k t cs ds) (hk : k < t.length) : SlR V' x t := by
  have hA : ((V'.minus x).minus y).Le V' := (View.minus_le _ _).trans (View.minus_le _ _)
  have hy : SlR V' y (t.getD k default).seqs := (h.row.mono (View.minus_le _ _)).slR (W := V') h.ints.rep (View.Le.refl _)
  have := flg_fill hy (h.rep.mono hA) hk
  have e : t.set k { t.getD k default with seqs := (t.getD k default).seqs } = t := by
    show t.set k (t.getD k default) = t
    rw [getD_at hk]; exact List.set_getElem_self _
  rw [e] at this
  exact h.buf.slR this (View.Le.refl _)
/-- Its node k: the row that lies apart is read there. -/
theorem CopX.cell {V V' : View} {x y : Sl} {k : Nat} {t : Tre} {cs ds : List Value} (h : CopX V V' x y k t cs ds) (hk : k < t.length) : ∃ ad, x.a = some ad ∧ V'.cell? ((ad.add (k * 5)).add 3) = some (.slice y.a y.n y.c) := by
  have hk' : k < (flg y k t).length := by rw [flg_len]; exact hk
  obtain ⟨vs, hv, hg⟩ := h.rep.get k hk'
  rw [flg_at hk'] at hv
  obtain ⟨sq, en, rfl, _, _, _, h5, _⟩ := hv
  have h5 : sq = y := h5
  subst h5
  have hn := h.buf.n_eq (α := NodX) h.rep
  rw [flg_len] at hn
  rcases h.buf.own with ⟨_, h1⟩ | ⟨q, al, h1, _⟩
  · have := h.buf.le; omega
  · refine ⟨_, h1, ?_⟩
    have hrow := h.buf.row
    rw [h1] at hrow
    rw [Addr.add_add]
    exact hrow.2 _ _ (hg 3 _ rfl)
/-- One element of the row that lies apart is set. -/
theorem CopX.set {V V' : View} {x y : Sl} {k : Nat} {t : Tre} {cs ds : List Value} (h : CopX V V' x y k t cs ds) (hk : k < t.length) {i : Nat} (hi : i < (t.getD k default).seqs.length) {v : Int} (hv : inI .i64 v) :
    ∃ ad, y.a = some ad ∧ V.see ad.block = none ∧ canSet V' (ad.add (i * 1)) 1 ∧ SlR (V'.sets (ad.add (i * 1)) [.int .i64 v]) x (t.set k { t.getD k default with seqs := (t.getD k default).seqs.set i v }) := by
  have hyB := h.row.mono (View.minus_le V' x)
  obtain ⟨ad, ha, h1, h2, h3, h4⟩ := hyB.setE (α := Int) (i := i) (d := v) (vs := [.int .i64 v]) h.ints.rep ⟨rfl, hv⟩ hi
  refine ⟨ad, ha, see_none_le h.le (minus_none ha), h1, ?_⟩
  have hxB := (h.row.swap h.buf).mono h4
  have hA := ((minus_minus_le V' x y).trans (View.minus_le _ _)).trans (h4.trans (View.minus_le _ _))
  have hx2 := hxB.mono (View.minus_le _ _)
  exact hx2.slR (flg_fill (h2.slR h3 (View.minus_le _ _)) (h.rep.mono hA) hk) (View.Le.refl _)
theorem Dj.of {V A A' B : View} (h : Dj V A B) (hA : A'.Le A) : Dj V A' B := fun i o hv ha => h i o hv (hA.see _ _ ha)
/-- Three copies, apart from one another. -/
structure Three (V V' : View) (u v w : Sl) (t : Tre) (k : Nat) : Prop where
  ex : ∃ (Uu Uv Uw : View) (y : Sl) (cs ds : List Value), OwnT V Uu u t ∧ OwnT V Uv v t ∧ CopX V Uw w y k t cs ds ∧ Uu.Le V' ∧ Uv.Le V' ∧ Uw.Le V' ∧ Dj V Uu Uv ∧ Dj V Uu Uw ∧ Dj V Uv Uw
/-! ### Light, to the number -/
end Go.Proofs.YtoogangnldppaaaGreatDoor

/- Copies whose one row of Seqs lies apart: the program's own; cells of them set. -/
namespace Go.Proofs.YtoogangnldppaaaGreatDoor
open Go
theorem cloneI3_ok {s : Sl} {l : List Int} {V : View} (h : SlR V s l) (hl : l.length ≤ 1000) : CallV Tryz.prog 56 ⟨[.slice s.a s.n s.c]⟩ V fun r V' => ∃ (x : Sl) (cs : List Value), r = .slice x.a x.n x.c ∧ Buf V' x 3 1 cs ∧ intL cs l ∧ V.Le (V'.minus x) := by
  refine f56_x ?_
  unfold f56_n
  refine br_intro (fun hnil => ?_) (fun _ r hr => ?_)
  · have ha : s.a = none := Option.isNone_iff_eq_none.1 hnil
    have hl0 : l = [] := by
      cases l with
      | nil => rfl
      | cons b l => obtain ⟨ad, vs, h1, _⟩ := h.get 0 (by simp); rw [ha] at h1; cases h1
    subst hl0
    exact ⟨⟨none, 0, 0⟩, [], rfl, Buf.nil _ _ _, (show repL V [] ([] : List Int) from rfl).int, View.Le.refl V⟩
  · have hfr : V.see r = none := View.see_none_of_ge hr
    refine appRow (α := Int) (V0 := V) (l := []) (m := l) rfl (cs := []) ⟨rfl, Nat.le_refl _, Nat.zero_le _, .inr ⟨r, [], rfl, View.see_put_same _ _ _, rfl, rfl⟩⟩ rfl (h.mono ?_) ?_ (by simp; omega) (by simp; omega) ?_
    · exact put_le_hide hfr (View.Le.refl _)
    · exact put_le_hide hfr (View.Le.refl _)
    · intro z V' cs' hb hr' hle
      exact ⟨z, cs', rfl, hb, hr'.int, hle⟩
theorem copyN3_ok {n : Nod} {s e : Sl} {V : View} (h : NodR V s e n) (hl : LightN n) : CallV Tryz.prog 71 ⟨[nodV n s e]⟩ V fun r V' => ∃ (s' e' : Sl) (qs : List Value), r = nodV n s' e' ∧ Buf V' s' 3 1 qs ∧ intL qs n.seqs ∧ SlR (V'.minus s') e' n.ents ∧ V.Le (V'.minus s') := by
  refine f71_x ?_
  unfold f71_n
  refine fun _ _ => ⟨trivial, V, View.Le.refl _, (cloneI3_ok h.seqs hl.1).mono ?_⟩
  rintro r V1 ⟨x, cs, rfl, hb, hqs, hV1⟩
  refine ⟨x, rfl, hV1.trans (View.minus_le _ _), ((cloneE_ok (h.ents.mono hV1) hl.2).besideB hb).mono ?_⟩
  rintro r V2 ⟨U, ⟨y, rfl, hy, hU⟩, hU2, hb2⟩
  exact ⟨y, rfl, x, y, cs, rfl, hb2, hqs, hy.mono hU2, hV1.trans (hU.trans hU2)⟩
theorem copyX_ok {s : Sl} {t : Tre} {V : View} {k : Nat} (hk : k < t.length) (h : SlR V s t) (hl : t.length ≤ 1000 ∧ ∀ n ∈ t, LightN n) : CallV Tryz.prog 38 ⟨[treV s]⟩ V fun r V' => ∃ (x y : Sl) (cs ds : List Value), r = treV x ∧ CopX V V' x y k t cs ds := by
  refine f38_x ?_
  unfold f38_n
  have hn := h.n
  refine fun _ _ _ => loop2 (k := .int .i64) (l := .sl) (fun (j : Int) (x : Sl) V' => ∃ (i : Nat) (y : Sl) (cs ds : List Value), j = i ∧ i ≤ t.length ∧ Buf V' x 63 5 cs ∧ Buf (V'.minus x) y 3 1 ds ∧ repL ((V'.minus x).minus y) cs (flg y k (t.take i)) ∧ V.Le ((V'.minus x).minus y) ∧
      ((i ≤ k ∧ y = ⟨none, 0, 0⟩ ∧ ds = []) ∨ (k < i ∧ intL ds (t.getD k default).seqs))) (fun (j : Int) _ _ => t.length - j.toNat) ⟨0, ⟨none, 0, 0⟩, [], [], rfl, by omega, Buf.nil _ _ _, Buf.nil _ _ _, (by cases k <;> rfl), View.Le.refl _, .inl ⟨by omega, rfl, rfl⟩⟩ ?_
  rintro (j : Int) (x : Sl) V1 ⟨i, y, cs, ds, rfl, hi, hb, hy, hr, hle, hcase⟩
  have hV1 := hle.trans ((View.minus_le _ _).trans (View.minus_le _ _))
  refine br_intro (fun hlt => ?_) (fun hge => ?_)
  · have hlt : i < t.length := by have := of_decide_eq_true hlt; omega
    obtain ⟨ad, sq, en, ha, hc, hN⟩ := (h.mono hle).nodN hlt
    have hmem : t.getD i default ∈ t := by rw [getD_at hlt]; exact List.getElem_mem _
    have hx := hb.n_eq (α := NodX) hr
    rw [flg_len, List.length_take] at hx
    have hl1 := hl.1
    have htk : t.take (i + 1) = t.take i ++ [t.getD i default] := by rw [List.take_add_one, List.getElem?_eq_getElem hlt, getD_at hlt]; rfl
    have hil : (t.take i).length = i := by rw [List.length_take]; omega
    have hsn : ∀ y, flg y k (t.take (i + 1)) = flg y k (t.take i) ++ [⟨t.getD i default, if k = i then some y else none⟩] := fun y => by rw [htk, flg_snoc, hil]
    refine ⟨by omega, by omega, ad, ha, _, _, _, sq, en, cellsAt_mono ((View.minus_le _ _).trans (View.minus_le _ _)) hc, fun _ => ⟨trivial, V, hV1, ((copyN3_ok hN (hl.2 _ hmem)).besideB2 hb hy).mono ?_⟩⟩
    rintro r V2 ⟨U, ⟨s', e', qs, rfl, hs', hqs, he', hU⟩, hU2, hb2, hy2⟩
    have hstep := (hU.trans (View.minus_le _ _)).trans hU2
    have hle2 := hle.trans hstep
    have hV2 := hle2.trans ((View.minus_le _ _).trans (View.minus_le _ _))
    refine ⟨_, _, _, s', e', rfl, hV2, fun r hr1 => ?_⟩
    have hfr := View.see_none_of_ge hr1
    refine ⟨hV2.trans (View.put_le hfr), ?_⟩
    rcases hcase with ⟨hik, rfl, rfl⟩ | ⟨hki, hds⟩
    · by_cases hke : k = i
      · subst hke
        have hs2 : Buf (V2.minus x) s' 3 1 qs := hs'.mono hU2
        have hU3 : (U.minus s').Le ((V2.minus x).minus s') := minus_mono hU2 s'
        have hold : repL ((V2.minus x).minus s') cs (flg s' k (t.take k)) := by
          rw [flg_short (by omega)]
          rw [flg_short (by omega)] at hr
          exact hr.mono (hU.trans hU3)
        have hp := minus_mono (put_minus_le (x := x) (o := .cells ⟨[.int .i64 (t.getD k default).kind, .int .i64 (t.getD k default).links, .int .i64 (t.getD k default).size, .slice s'.a s'.n s'.c, .slice e'.a e'.n e'.c]⟩ 63 (0, 0)) hfr) s'
        refine app0b (α := NodX) (V0 := (V2.minus x).minus s') rfl (hb2.put hfr) (hs2.mono (put_minus_le hfr)) hold (d := ⟨t.getD k default, some s'⟩) (vs := [.int .i64 (t.getD k default).kind, .int .i64 (t.getD k default).links, .int .i64 (t.getD k default).size, .slice s'.a s'.n s'.c, .slice e'.a e'.n e'.c]) ⟨s', e', rfl, hN.kind, hN.links, hN.size, rfl, he'.mono hU3⟩ hp (rowAt_new (View.see_put_same _ _ _) rfl) (by rw [flg_len]; omega) (by rw [flg_len]; omega) ?_
        intro z V3 hz hzs hzr hzle
        refine ⟨inI64 (by omega) (by omega), ⟨k + 1, s', _, qs, by omega, by omega, hz, hzs, ?_, (hle.trans (hU.trans hU3)).trans hzle, .inr ⟨by omega, hqs⟩⟩, by omega⟩
        rw [hsn, if_pos rfl]; exact hzr.mono hzle
      · have hd : NodR (V2.minus x) s' e' (t.getD i default) := ⟨hN.kind, hN.links, hN.size, (hs'.slR (W := U) hqs.rep (View.Le.refl _)).mono hU2, (he'.mono (View.minus_le _ _)).mono hU2⟩
        have hp := put_minus_le (x := x) (o := .cells ⟨[.int .i64 (t.getD i default).kind, .int .i64 (t.getD i default).links, .int .i64 (t.getD i default).size, .slice s'.a s'.n s'.c, .slice e'.a e'.n e'.c]⟩ 63 (0, 0)) hfr
        refine app0b (α := NodX) (y := ⟨none, 0, 0⟩) (V0 := V2.minus x) (e' := 3) (sz' := 1) (ds := []) rfl (hb2.put hfr) (Buf.nil _ _ _) (hr.mono hstep) (d := ⟨t.getD i default, none⟩) (vs := [.int .i64 (t.getD i default).kind, .int .i64 (t.getD i default).links, .int .i64 (t.getD i default).size, .slice s'.a s'.n s'.c, .slice e'.a e'.n e'.c]) ⟨s', e', rfl, hd.kind, hd.links, hd.size, hd.seqs, hd.ents⟩ hp (rowAt_new (View.see_put_same _ _ _) rfl) (by rw [flg_len]; omega) (by rw [flg_len]; omega) ?_
        intro z V3 hz hzs hzr hzle
        refine ⟨inI64 (by omega) (by omega), ⟨i + 1, ⟨none, 0, 0⟩, _, [], by omega, by omega, hz, hzs, ?_, hle2.trans hzle, .inl ⟨by omega, rfl, rfl⟩⟩, by omega⟩
        rw [hsn, if_neg hke]; exact hzr.mono hzle
    · have hd : NodR ((V2.minus x).minus y) s' e' (t.getD i default) := ⟨hN.kind, hN.links, hN.size, (hs'.slR (W := U) hqs.rep (View.Le.refl _)).mono hU2, (he'.mono (View.minus_le _ _)).mono hU2⟩
      have hp := minus_mono (put_minus_le (x := x) (o := .cells ⟨[.int .i64 (t.getD i default).kind, .int .i64 (t.getD i default).links, .int .i64 (t.getD i default).size, .slice s'.a s'.n s'.c, .slice e'.a e'.n e'.c]⟩ 63 (0, 0)) hfr) y
      refine app0b (α := NodX) (V0 := (V2.minus x).minus y) rfl (hb2.put hfr) (hy2.mono (put_minus_le hfr)) (hr.mono hstep) (d := ⟨t.getD i default, none⟩) (vs := [.int .i64 (t.getD i default).kind, .int .i64 (t.getD i default).links, .int .i64 (t.getD i default).size, .slice s'.a s'.n s'.c, .slice e'.a e'.n e'.c]) ⟨s', e', rfl, hd.kind, hd.links, hd.size, hd.seqs, hd.ents⟩ hp (rowAt_new (View.see_put_same _ _ _) rfl) (by rw [flg_len]; omega) (by rw [flg_len]; omega) ?_
      intro z V3 hz hzs hzr hzle
      refine ⟨inI64 (by omega) (by omega), ⟨i + 1, y, _, ds, by omega, by omega, hz, hzs, ?_, hle2.trans hzle, .inr ⟨by omega, hds⟩⟩, by omega⟩
      rw [hsn, if_neg (by omega)]; exact hzr.mono hzle
  · have hge : i = t.length := by have := of_decide_eq_false hge; omega
    subst hge
    rw [List.take_length] at hr
    rcases hcase with ⟨h1, _⟩ | ⟨_, hds⟩
    · omega
    · exact ⟨x, y, cs, ds, rfl, hb, hy, hr, hds, hle⟩

/-- Of the row that lies apart the node says nothing. -/
theorem flg_seqs {W : View} {y : Sl} {q : List Int} : ∀ {k : Nat} {cs : List Value} {l : Tre}, repL W cs (flg y k l) → repL W cs (flg y k (l.set k { l.getD k default with seqs := q }))
  | _, _, [], h => by simpa using h
  | 0, _, n :: l, ⟨vs, us, e, ⟨sq, en, h1, h2, h3, h4, h5, h6⟩, h⟩ => ⟨vs, us, e, ⟨sq, en, h1, h2, h3, h4, h5, h6⟩, h⟩
  | k + 1, _, n :: l, ⟨vs, us, e, h0, h⟩ => ⟨vs, us, e, h0, by
    have := flg_seqs (y := y) (q := q) h
    simpa using this⟩
theorem flg_set {y : Sl} : ∀ {k : Nat} {l : Tre} {n : Nod}, k < l.length → (flg y k l).set k ⟨n, some y⟩ = flg y k (l.set k n)
  | _, [], _, h => absurd h (by simp)
  | 0, m :: l, n, _ => by simp [flg]
  | k + 1, m :: l, n, h => by
    simp only [List.set_cons_succ, flg]
    rw [flg_set (by simpa using h)]
theorem getD_setK {t : Tre} {k : Nat} {n : Nod} (hk : k < t.length) : (t.set k n).getD k default = n := by
  rw [getD_at (by simpa using hk), List.getElem_set_self]
/-- One element of the row that lies apart is set, and one may go on. -/
theorem CopX.put {V V' : View} {x y : Sl} {k : Nat} {t : Tre} {cs ds : List Value} (h : CopX V V' x y k t cs ds) (hk : k < t.length) {i : Nat} (hi : i < (t.getD k default).seqs.length) {v : Int} (hv : inI .i64 v) :
    ∃ ad ds', y.a = some ad ∧ canSet V' (ad.add (i * 1)) 1 ∧ CopX V (V'.sets (ad.add (i * 1)) [.int .i64 v]) x y k (t.set k { t.getD k default with seqs := (t.getD k default).seqs.set i v }) cs ds' := by
  have hyB := h.row.mono (View.minus_le V' x)
  obtain ⟨ad, ha, h1, h2, h3, h4⟩ := hyB.setE (α := Int) (i := i) (d := v) (vs := [.int .i64 v]) h.ints.rep ⟨rfl, hv⟩ hi
  have hxB := (h.row.swap h.buf).mono h4
  have hrow := hxB.swap h2
  have hbuf : Buf (V'.sets (ad.add (i * 1)) [.int .i64 v]) x 63 5 cs := hxB.mono (View.minus_le _ _)
  have hmm : ((V'.minus x).minus y).Le (((V'.sets (ad.add (i * 1)) [.int .i64 v]).minus x).minus y) :=
    (minus_minus_le V' x y).trans ((minus_mono h4 x).trans (minus_minus_le _ y x))
  refine ⟨ad, _, ha, h1, hbuf, hrow, flg_seqs (h.rep.mono hmm), ?_, h.le.trans hmm⟩
  rw [getD_setK hk]
  exact h3.int
/-- Its Size is set. -/
theorem CopX.size {V V' : View} {x y : Sl} {k : Nat} {t : Tre} {cs ds : List Value} (h : CopX V V' x y k t cs ds) (hk : k < t.length) {v : Int} (hv : inI .i64 v) :
    ∃ ad cs', x.a = some ad ∧ canSet V' ((ad.add (k * 5)).add 2) 1 ∧ CopX V (V'.sets ((ad.add (k * 5)).add 2) [.int .i64 v]) x y k (t.set k { t.getD k default with size := v }) cs' ds := by
  have hk' : k < (flg y k t).length := by rw [flg_len]; exact hk
  have hxB := h.row.swap h.buf
  have hyB : Buf V' y 3 1 ds := h.row.mono (View.minus_le V' x)
  obtain ⟨ad, vs, ha, hc, hrep, hset⟩ := Buf.setC (α := NodX) (V := V'.minus y) hxB (h.rep.mono (minus_minus_le V' x y)) hk'
  rw [flg_at hk'] at hrep
  obtain ⟨sq, en, rfl, r1, r2, r3, r4, r5⟩ := hrep
  obtain ⟨s1, s2, s3, s4⟩ := hset 2 (.int .i64 v) ⟨{ t.getD k default with size := v }, some y⟩ (by decide) ⟨sq, en, rfl, r1, r2, hv, r4, r5⟩
  rw [flg_set hk] at s3
  obtain ⟨l1, l2, l3⟩ := lift_sets (View.minus_le V' y) s1 [.int .i64 v]
  have hyb : ∀ a, y.a = some a → a.block ≠ ad.block := by
    intro a ha' e
    have h1 := minus_none (V := V') ha'
    obtain ⟨_, c, te, f, h2, _⟩ := s1
    rw [Addr.add_block, Addr.add_block] at h2
    rw [e] at h1
    rw [h1] at h2; cases h2
  have hms : (((V'.minus y).sets ((ad.add (k * 5)).add 2) [.int .i64 v])).Le ((V'.sets ((ad.add (k * 5)).add 2) [.int .i64 v]).minus y) := by
    unfold View.minus
    cases hya : y.a with
    | none => exact View.Le.refl _
    | some a =>
      have hne := hyb a hya
      obtain ⟨h0, c, te, f, h2, _⟩ := s1
      unfold View.minus at h2
      rw [hya] at h2
      simp only [hide_see] at h2
      split at h2
      · cases h2
      · rename_i hne2
        have hne2 : ¬ ((ad.add (k * 5)).add 2).block = a.block := hne2
        have h2 : V'.see ((ad.add (k * 5)).add 2).block = some (.cells c te f) := h2
        unfold View.sets
        simp only
        rw [hide_see, if_neg hne2, h2]
        refine ⟨Nat.le_refl _, fun i o hi => ?_, rfl⟩
        rw [hide_see]
        by_cases hib : i = ((ad.add (k * 5)).add 2).block
        · subst hib
          rw [View.see_put_same] at hi
          rw [if_neg hne2, View.see_put_same]; exact hi
        · rw [View.see_put_ne _ _ hib, hide_see] at hi
          split at hi
          · cases hi
          · rename_i h7; rw [if_neg h7, View.see_put_ne _ _ hib]; exact hi
  have hB2 : Buf (V'.sets ((ad.add (k * 5)).add 2) [.int .i64 v]) x 63 5 _ := s2.mono l2
  have hYm : Buf (V'.sets ((ad.add (k * 5)).add 2) [.int .i64 v]) y 3 1 ds := by
    refine ⟨hyB.len, hyB.le, hyB.lim, hyB.own.imp id ?_⟩
    rintro ⟨q, all, q1, q2, q3⟩
    refine ⟨q, all, q1, ?_, q3⟩
    rw [sets_see_ne]; exact q2
    have := hyb _ q1
    rw [Addr.add_block, Addr.add_block]; exact this
  have hBm : Buf ((V'.sets ((ad.add (k * 5)).add 2) [.int .i64 v]).minus y) x 63 5 _ := s2.mono hms
  have hrow := hBm.swap hYm
  have hmm : ((V'.minus x).minus y).Le (((V'.sets ((ad.add (k * 5)).add 2) [.int .i64 v]).minus x).minus y) :=
    (minus_minus_le V' x y).trans (s4.trans ((minus_mono hms x).trans (minus_minus_le _ y x)))
  refine ⟨ad, _, ha, l1, hB2, hrow, ?_, ?_, h.le.trans hmm⟩
  · exact s3.mono ((minus_mono hms x).trans (minus_minus_le _ y x))
  · rw [getD_setK hk]; exact h.ints
end Go.Proofs.YtoogangnldppaaaGreatDoor

/- The paths of all names: plain. -/
namespace Go.Proofs.YtoogangnldppaaaGreatDoor
open Go
noncomputable def below (t : Tre) (i : Nat) : List Nat := (List.range 12).filter fun j => metB t i j
end Go.Proofs.YtoogangnldppaaaGreatDoor

/- Each path that is told is found, and no other: plain. -/
namespace Go.Proofs.YtoogangnldppaaaGreatDoor
open Go
/-! ### names of a directory -/
theorem bytesLess_trans : ∀ (a b c : List UInt8), Op.bytesLess a b = true → Op.bytesLess b c = true → Op.bytesLess a c = true
  | _, [], _, h, _ => by cases ‹List UInt8› <;> simp [Op.bytesLess] at h
  | _, _ :: _, [], _, h => by simp [Op.bytesLess] at h
  | [], _ :: _, _ :: _, _, _ => by simp [Op.bytesLess]
  | x :: a, y :: b, z :: c, h, k => by
    have ih := bytesLess_trans a b c
    simp only [Op.bytesLess, Bool.or_eq_true, decide_eq_true_eq, Bool.and_eq_true, beq_iff_eq] at h k ⊢
    rcases h with h | ⟨rfl, h⟩ <;> rcases k with k | ⟨rfl, k⟩
    · left; exact UInt8.lt_trans h k
    · left; exact h
    · left; exact k
    · right; exact ⟨rfl, ih h k⟩
theorem sLess_trans {a b c : ByteArray} (h : sLess a b = true) (k : sLess b c = true) : sLess a c = true := bytesLess_trans _ _ _ h k
theorem sLess_irr (a : ByteArray) : sLess a a = false := bytesLess_irr _
theorem mayL_less {l : List Ent} (h : mayL l = true) : ∀ (k i : Nat), i + k + 1 < l.length → sLess (l.getD i default).name (l.getD (i + k + 1) default).name = true := by
  have hst : ∀ j, j + 1 < l.length → sLess (l.getD j default).name (l.getD (j + 1) default).name = true := by
    intro j hj
    unfold mayL at h
    simp only [Bool.and_eq_true, List.all_eq_true, List.mem_range] at h
    have := h.1 (j + 1) hj
    unfold okE at this
    simp only [Bool.and_eq_true, Bool.or_eq_true, decide_eq_true_eq] at this
    rcases this.2 with h0 | h0
    · omega
    · simpa using h0
  intro k
  induction k with
  | zero => intro i hi; exact hst i hi
  | succ k ih =>
    intro i hi
    have a := ih i (by omega)
    have b := hst (i + k + 1) (by omega)
    exact sLess_trans a b
theorem mayL_pair {l : List Ent} (h : mayL l = true) : l.Pairwise fun a b => a.name ≠ b.name := by
  rw [List.pairwise_iff_getElem]
  intro i j hi hj hij e
  have := mayL_less h (j - i - 1) i (by omega)
  rw [show i + (j - i - 1) + 1 = j by omega, getD_at hi, getD_at hj, e, sLess_irr] at this
  cases this
theorem atI_mem {l : List Ent} {s : ByteArray} (h : ¬ atI l s < 0) : ∃ e ∈ l, e.name = s ∧ e.node = atI l s := by
  unfold atI at h ⊢
  cases hf : l.find? fun x => decide (x.name = s) with
  | none => rw [hf] at h; exact absurd (show (-1 : Int) < 0 by decide) h
  | some x =>
    have := List.find?_some hf
    exact ⟨x, List.mem_of_find?_eq_some hf, of_decide_eq_true this, rfl⟩
theorem atI_of {l : List Ent} (h : l.Pairwise fun a b => a.name ≠ b.name) {e : Ent} (he : e ∈ l) : atI l e.name = e.node := by
  unfold atI
  induction l with
  | nil => cases he
  | cons x l ih =>
    rw [List.find?_cons]
    rcases List.mem_cons.1 he with rfl | he
    · rw [decide_eq_true rfl]
    · have hne := (List.pairwise_cons.1 h).1 e he
      rw [decide_eq_false hne]
      exact ih (List.pairwise_cons.1 h).2 he
theorem MayF.pair {t : Tre} (h : MayF t) (i : Nat) : (entsT t i).Pairwise fun a b => a.name ≠ b.name := by
  by_cases hi : i < 12
  · exact mayL_pair (mayN_ents (h.at hi))
  · unfold entsT
    rw [List.getD_eq_getElem?_getD, List.getElem?_eq_none (by rw [h.len]; omega)]
    exact List.Pairwise.nil
theorem nil_or_snoc {α : Type} (l : List α) : l = [] ∨ ∃ m s, l = m ++ [s] := by
  rcases List.eq_nil_or_concat l with h | ⟨m, s, h⟩
  · exact .inl h
  · exact .inr ⟨m, s, by rw [h, List.concat_eq_append]⟩
/-! ### ways -/
theorem goF_snoc (t : Tre) (s : ByteArray) : ∀ (l : List ByteArray) (i q : Nat), goF t i (l ++ [s]) = .ok q ↔ ∃ p, goF t i l = .ok p ∧ goF t p [s] = .ok q
  | [], i, q => by
    constructor
    · intro h; exact ⟨i, rfl, h⟩
    · rintro ⟨p, hp, h⟩; cases hp; exact h
  | x :: l, i, q => by
    rw [List.cons_append, goF_cons, goF_cons]
    split
    · split
      · simp
      · exact goF_snoc t s l _ q
    · simp
theorem goF_one {t : Tre} {p q : Nat} {s : ByteArray} (h : goF t p [s] = .ok q) : kindT t p = 2 ∧ ∃ e ∈ entsT t p, e.name = s ∧ e.node.toNat = q := by
  rw [goF_cons] at h
  split at h
  · rename_i hk
    split at h
    · cases h
    · rename_i h0
      cases h
      obtain ⟨e, he, h1, h2⟩ := atI_mem h0
      exact ⟨hk, e, he, h1, by rw [h2]⟩
  · cases h
theorem goF_reach {t : Tre} : ∀ {l : List ByteArray} {i q : Nat}, goF t i l = .ok q → Reach t i q
  | [], i, q, h => by cases h; exact .refl
  | s :: l, i, q, h => by
    rw [goF_cons] at h
    split at h
    · split at h
      · cases h
      · rename_i h0
        obtain ⟨e, he, _, h2⟩ := atI_mem h0
        rw [← h2] at h
        exact (Reach.step .refl he).trans (goF_reach h)
    · cases h
/-! ### how many -/
/-! ### texts -/
theorem join_drop_le : ∀ (l : List ByteArray) (s : ByteArray), (Lib.join (l.map bl) [47]).length ≤ (Lib.join ((l ++ [s]).map bl) [47]).length
  | [], s => by simp [Lib.join_nil]
  | x :: l, s => by
    rw [joinS_snoc (x :: l) s (by simp), List.length_append]; omega
theorem split_drop {s n : ByteArray} {l : List ByteArray} (h : splitP s = some (l ++ [n])) : splitP (joinP1 l) = some l := by
  obtain ⟨h1, h2, h3⟩ := splitP_some h
  have hl : (Lib.join ((l ++ [n]).map bl) [47]).length ≤ 59 := by
    have := congrArg List.length h3
    rw [bl_len, List.length_cons] at this
    omega
  have hd := join_drop_le l n
  have hall : l.all mayB = true := by
    rw [List.all_append, Bool.and_eq_true] at h2
    exact h2.1
  have := splitP_join hall (by omega)
  unfold joinP1
  rw [if_pos this]; exact this
theorem last_of {s n : ByteArray} {l : List ByteArray} (h : splitP s = some (l ++ [n])) : lastP s = (joinP1 l, n, 0) := by
  unfold lastP
  rw [h]
  simp
theorem find_of {t : Tre} (hM : mayT t = true) {s : ByteArray} {l : List ByteArray} (h : splitP s = some l) : findT t s = goF t 0 l := by
  unfold findT
  rw [if_pos hM, h]
/-! ### what is told -/
/-- A path that is told. -/
structure Told (t : Tre) (s : ByteArray) (d q : Nat) (n : ByteArray) : Prop where
  find : findT t s = .ok q
  parent : parentT t s = .ok (d, n)
  d12 : d < 12
  q12 : q < 12
  at_ : atI (entsT t d) n = q
  inside : insideT t (d : Int) (q : Int) = true
end Go.Proofs.YtoogangnldppaaaGreatDoor

/- Contracts of Walk. -/
namespace Go.Proofs.YtoogangnldppaaaGreatDoor
open Go
structure strL (cs : List Value) (l : List ByteArray) : Prop where
  rep : ∀ {W : View}, repL W cs l
end Go.Proofs.YtoogangnldppaaaGreatDoor

/- RootClears. -/
namespace Go.Proofs.YtoogangnldppaaaGreatDoor
open Go
/-! ### plain -/
end Go.Proofs.YtoogangnldppaaaGreatDoor

/- DirWalks. -/
namespace Go.Proofs.YtoogangnldppaaaGreatDoor
open Go
end Go.Proofs.YtoogangnldppaaaGreatDoor

/- Calls on names, as plain functions of trees. No program in this text. -/
namespace Go.Proofs.YtoogangnldppaaaGreatDoor
open Go
/-! ### entries -/
def insE (l : List Ent) (x : Ent) : List Ent := l.takeWhile (fun e => sLess e.name x.name) ++ x :: l.dropWhile (fun e => sLess e.name x.name)
def cutE (l : List Ent) (s : ByteArray) : List Ent := l.filter fun e => !decide (e.name = s)
def hasE (l : List Ent) (s : ByteArray) : Bool := l.any fun e => decide (e.name = s)
def withE (l : List Ent) (x : Ent) : Except Int (List Ent) :=
  if (mayL l && soleE x) = true then (if hasE l x.name = true then .error 9 else if 10 ≤ l.length then .error 14 else .ok (insE l x)) else .error 1
def withoutE (l : List Ent) (s : ByteArray) : Except Int (List Ent) := if mayL l = true then (if hasE l s = true then .ok (cutE l s) else .error 8) else .error 1
theorem idx_has (l : List Ent) (s : ByteArray) : decide (0 ≤ idxI (fun e : Ent => decide (e.name = s)) l) = hasE l s := by
  rcases idxI_find (fun e : Ent => decide (e.name = s)) l with ⟨h1, h2⟩ | ⟨i, hi, h1, h2⟩
  · rw [h1]
    unfold hasE
    rw [decide_eq_false (by decide), eq_comm, List.any_eq_false]
    intro e he
    have := List.find?_eq_none.1 h2 e he
    simpa using this
  · rw [h1, decide_eq_true (by omega), eq_comm]
    unfold hasE
    rw [List.any_eq_true]
    exact ⟨_, List.mem_of_find?_eq_some h2, by have := List.find?_some h2; simpa using this⟩
theorem at_has {l : List Ent} (h : ∀ e ∈ l, 0 ≤ e.node) (s : ByteArray) : decide (0 ≤ atI l s) = hasE l s := by
  unfold atI
  cases hf : l.find? (fun x => decide (x.name = s)) with
  | none =>
    unfold hasE
    rw [decide_eq_false (by decide), eq_comm, List.any_eq_false]
    intro e he
    have := List.find?_eq_none.1 hf e he
    simpa using this
  | some x =>
    have hm := List.mem_of_find?_eq_some hf
    rw [decide_eq_true (h x hm), eq_comm]
    unfold hasE
    rw [List.any_eq_true]
    exact ⟨x, hm, by have := List.find?_some hf; simpa using this⟩
theorem has_false {l : List Ent} {s : ByteArray} : hasE l s = false ↔ ∀ e ∈ l, e.name ≠ s := by
  unfold hasE; rw [List.any_eq_false]
  exact ⟨fun h e he => by simpa using h e he, fun h e he => by simpa using h e he⟩
theorem has_true {l : List Ent} {s : ByteArray} : hasE l s = true ↔ ∃ e ∈ l, e.name = s := by
  unfold hasE; rw [List.any_eq_true]
  exact ⟨fun ⟨e, h1, h2⟩ => ⟨e, h1, of_decide_eq_true h2⟩, fun ⟨e, h1, h2⟩ => ⟨e, h1, decide_eq_true h2⟩⟩
theorem cut_none {l : List Ent} {s : ByteArray} (h : hasE l s = false) : cutE l s = l := by
  unfold cutE; rw [List.filter_eq_self]
  intro e he
  rw [decide_eq_false (has_false.1 h e he)]; rfl
theorem cut_len (l : List Ent) (s : ByteArray) : (cutE l s).length ≤ l.length := List.length_filter_le _ _
theorem cut_has (l : List Ent) (s : ByteArray) : hasE (cutE l s) s = false := has_false.2 fun e he => by
  unfold cutE at he
  simpa using (List.mem_filter.1 he).2
theorem cut_mem {l : List Ent} {s : ByteArray} {e : Ent} : e ∈ cutE l s ↔ e ∈ l ∧ e.name ≠ s := by
  unfold cutE; rw [List.mem_filter]; simp
/-- Where it is taken away: by its place. -/
theorem cut_erase : ∀ {l : List Ent} {s : ByteArray} {i : Nat} (hi : i < l.length), (l.Pairwise fun a b => a.name ≠ b.name) → l[i].name = s → cutE l s = l.take i ++ l.drop (i + 1)
  | e :: l, s, 0, _, hp, hs => by
    rw [List.pairwise_cons] at hp
    have h1 : cutE (e :: l) s = cutE l s := by
      unfold cutE
      rw [List.filter_cons_of_neg (by simpa using hs)]
    rw [h1, cut_none (has_false.2 fun x hx hxs => hp.1 x hx (by rw [hxs]; exact hs))]; rfl
  | e :: l, s, i + 1, hi, hp, hs => by
    rw [List.pairwise_cons] at hp
    have hi' : i < l.length := by simpa using hi
    have hs' : l[i].name = s := by simpa using hs
    have h1 : cutE (e :: l) s = e :: cutE l s := by
      unfold cutE
      rw [List.filter_cons_of_pos]
      have := hp.1 l[i] (List.getElem_mem hi')
      simp; rw [← hs']; exact this
    rw [h1, cut_erase hi' hp.2 hs']; rfl
/-! ### trees -/
def entT (t : Tre) (d : Nat) (l : List Ent) : Tre := t.set d { t.getD d default with ents := l }
def emptyN (k : Int) : Nod := if k = 1 then ⟨1, 1, 0, [0, 0, 0, 0, 0], []⟩ else if k = 2 then ⟨2, 1, 0, [], []⟩ else Nod.zero
def heldB (held : List Bool) (i : Nat) : Bool := held.getD i false
/-- A name less of a node. -/
def lessT (t : Tre) (i : Nat) (held : List Bool) : Tre :=
  if kindT t i = 1 ∧ (0 < (t.getD i default).links - 1 ∨ heldB held i = true) then t.set i { t.getD i default with links := (t.getD i default).links - 1 } else t.set i Nod.zero
noncomputable def makesT (t : Tre) (p : ByteArray) (k : Int) : Except Int Tre := match parentT t p with
  | .error e => .error e
  | .ok (d, s) => if 0 ≤ atI (entsT t d) s then .error 9 else if freeT t < 0 then .error 14 else if 10 ≤ (entsT t d).length then .error 14 else
    .ok ((entT t d (insE (entsT t d) ⟨s, freeT t⟩)).set (freeT t).toNat (emptyN k))
noncomputable def unlinkT (t : Tre) (p : ByteArray) (held : List Bool) : Except Int Tre := match parentT t p with
  | .error e => .error e
  | .ok (d, s) => if atI (entsT t d) s < 0 then .error 8 else if kindT t (atI (entsT t d) s).toNat = 2 then .error 10 else
    .ok (lessT (entT t d (cutE (entsT t d) s)) (atI (entsT t d) s).toNat held)
noncomputable def rmdirT (t : Tre) (p : ByteArray) : Except Int Tre := match parentT t p with
  | .error e => .error e
  | .ok (d, s) => if atI (entsT t d) s < 0 then .error 8 else if kindT t (atI (entsT t d) s).toNat ≠ 2 then .error 11 else if 0 < (entsT t (atI (entsT t d) s).toNat).length then .error 12 else
    .ok ((entT t d (cutE (entsT t d) s)).set (atI (entsT t d) s).toNat Nod.zero)
noncomputable def linkT (t : Tre) (p q : ByteArray) : Except Int Tre := match findT t p with
  | .error e => .error e
  | .ok i => if kindT t i = 2 then .error 10 else match parentT t q with
    | .error e => .error e
    | .ok (d, s) => if 0 ≤ atI (entsT t d) s then .error 9 else if 10 ≤ (entsT t d).length then .error 14 else
      .ok ((entT t d (insE (entsT t d) ⟨s, i⟩)).set i { t.getD i default with links := (t.getD i default).links + 1 })
def replN (a b : Nod) : Int := if a.kind = 2 ∧ b.kind ≠ 2 then 11 else if a.kind ≠ 2 ∧ b.kind = 2 then 10 else if 0 < b.ents.length then 12 else 0
/-- Behind the checks: out of one place, into another one. -/
def moveT (t : Tre) (d : Nat) (s : ByteArray) (_i : Nat) (f : Nat) (r : ByteArray) (k : Int) (held : List Bool) : Tre :=
  if 0 ≤ k then lessT (entT (entT t d (cutE (entsT t d) s)) f (cutE (entsT (entT t d (cutE (entsT t d) s)) f) r)) k.toNat held else entT t d (cutE (entsT t d) s)
noncomputable def renameT (t : Tre) (p q : ByteArray) (held : List Bool) : Except Int Tre := match parentT t p with
  | .error e => .error e
  | .ok (d, s) => if atI (entsT t d) s < 0 then .error 8 else match parentT t q with
    | .error e => .error e
    | .ok (f, r) => if atI (entsT t f) r = atI (entsT t d) s then .ok t else if insideT t (atI (entsT t d) s) f = true then .error 17 else
      if 0 ≤ atI (entsT t f) r ∧ replN (t.getD (atI (entsT t d) s).toNat default) (t.getD (atI (entsT t f) r).toNat default) ≠ 0 then .error (replN (t.getD (atI (entsT t d) s).toNat default) (t.getD (atI (entsT t f) r).toNat default)) else
      if 10 ≤ (entsT (moveT t d s (atI (entsT t d) s).toNat f r (atI (entsT t f) r) held) f).length then .error 14 else
      .ok (entT (moveT t d s (atI (entsT t d) s).toNat f r (atI (entsT t f) r) held) f (insE (entsT (moveT t d s (atI (entsT t d) s).toNat f r (atI (entsT t f) r) held) f) ⟨r, atI (entsT t d) s⟩))
noncomputable def dropT (t : Tre) (i : Int) : Except Int Tre := if mayT t = true then (if 0 ≤ i ∧ i < 12 ∧ kindT t i.toNat = 1 ∧ (t.getD i.toNat default).links ≤ 0 then .ok (t.set i.toNat Nod.zero) else .error 18) else .error 1
/-! ### what is told of a parent -/
theorem mayB_of {s : ByteArray} {l : List ByteArray} (h : splitP s = some l) {n : ByteArray} (hn : n ∈ l) : mayB n = true := List.all_eq_true.1 (splitP_some h).2.1 n hn
structure Par (t : Tre) (p : ByteArray) (ld : List ByteArray) (d : Nat) (s : ByteArray) : Prop where
  may : mayT t = true
  split : splitP p = some (ld ++ [s])
  go : goF t 0 ld = .ok d
  kind : kindT t d = 2
theorem Par.eq {t : Tre} {p s : ByteArray} {ld : List ByteArray} {d : Nat} (h : Par t p ld d s) : parentT t p = .ok (d, s) := by
  unfold parentT
  rw [if_pos h.may, last_of h.split]
  show (if (0 : Int) = 0 then _ else _) = _
  rw [if_pos rfl, find_of h.may (split_drop h.split), h.go]
  show (if kindT t d = 2 then _ else _) = _
  rw [if_pos h.kind]
theorem par_of {t : Tre} {p s : ByteArray} {d : Nat} (h : parentT t p = .ok (d, s)) : ∃ ld, Par t p ld d s := by
  unfold parentT at h
  split at h
  · rename_i hM
    split at h
    · rename_i h0
      have hsp : ∃ l n, splitP p = some (l ++ [n]) := by
        unfold lastP at h0
        split at h0
        · exact absurd h0 (by decide)
        · rename_i l hl
          rcases nil_or_snoc l with rfl | ⟨m, n, rfl⟩
          · simp at h0
          · exact ⟨m, n, hl⟩
      obtain ⟨l, n, hl⟩ := hsp
      rw [last_of hl] at h
      rw [find_of hM (split_drop hl)] at h
      cases hg : goF t 0 l with
      | error e => simp only [hg] at h; cases h
      | ok i =>
        simp only [hg] at h
        split at h
        · rename_i hk
          cases h
          exact ⟨l, hM, hl, hg, hk⟩
        · cases h
    · cases h
  · cases h
theorem Par.sole {t : Tre} {p s : ByteArray} {ld : List ByteArray} {d : Nat} (h : Par t p ld d s) : mayB s = true := mayB_of h.split (by simp)
theorem Par.size {t : Tre} {p s : ByteArray} {ld : List ByteArray} {d : Nat} (h : Par t p ld d s) : s.size ≤ 8 := (mayB_size h.sole).2
theorem Par.d12 {t : Tre} {p s : ByteArray} {ld : List ByteArray} {d : Nat} (h : Par t p ld d s) : d < 12 := goF_range (mayT_all h.may).1 (mayT_node h.may) (by omega) h.go
theorem Par.mayL {t : Tre} {p s : ByteArray} {ld : List ByteArray} {d : Nat} (h : Par t p ld d s) : mayL (entsT t d) = true := mayN_ents ((mayF h.may).at h.d12)
theorem Par.find {t : Tre} {p s : ByteArray} {ld : List ByteArray} {d : Nat} (h : Par t p ld d s) : findT t p = goF t 0 (ld ++ [s]) := find_of h.may h.split
theorem Par.at {t : Tre} {p s : ByteArray} {ld : List ByteArray} {d : Nat} (h : Par t p ld d s) : atI (entsT t d) s = -1 ∨ (1 ≤ atI (entsT t d) s ∧ atI (entsT t d) s < 12) := atI_range (mayT_node h.may _ (getD_mem (by rw [(mayT_all h.may).1]; exact h.d12)))
theorem mayL_pos {l : List Ent} (h : mayL l = true) : ∀ e ∈ l, 0 ≤ e.node := fun e he => by have := mayL_node h he; omega
end Go.Proofs.YtoogangnldppaaaGreatDoor

/- Contracts of calls on names: rows of entries, names that enter and leave. -/
namespace Go.Proofs.YtoogangnldppaaaGreatDoor
open Go
theorem grow_ok {V : View} {a : Int} (h0 : 0 ≤ a) (h1 : a ≤ 100000) : CallV Tryz.prog 193 ⟨[.slice none 0 0, .int .i64 a]⟩ V fun r V' => ∃ x : Sl, r = .slice x.a x.n x.c ∧ Buf V' x 85 2 [] ∧ V.Le (V'.minus x) := by
  refine f193_x (a0 := ⟨none, 0, 0⟩) ?_
  unfold f193_n
  refine joinP_cut (fun _ V' => V' = V) (br_intro (fun h => absurd (of_decide_eq_true h) (by omega)) (fun _ => rfl)) ?_
  rintro ⟨⟩ V1 rfl
  refine ⟨inI64 (by show -9223372036854775808 ≤ (0 : Int) - 0; omega) (by show (0 : Int) - 0 ≤ _; omega), inI64 (by show -9223372036854775808 ≤ a - ((0 : Int) - 0); omega) (by show a - ((0 : Int) - 0) ≤ _; omega), ?_⟩
  refine joinP_cut (fun s V' => Buf V' s.1 85 2 [] ∧ V1.Le (V'.minus s.1)) (br_intro (fun hp => ?_) (fun _ => ⟨Buf.nil _ _ _, View.Le.refl _⟩)) ?_
  · refine ⟨Int.le_refl _, Int.le_refl _, Int.le_refl _, ?_⟩
    refine apV_buf (cs := []) (src := (List.replicate a.toNat [.string (ba []), .int .i64 0]).flatten) (m := a.toNat) (x := ⟨none, 0, 0⟩) rfl (Buf.nil _ _ _) ⟨?_, ?_, ?_⟩ ?_ ?_ ?_ ?_ ?_
    · show 0 ≤ a - ((0 : Int) - 0); omega
    · show a.toNat = (a - ((0 : Int) - 0)).toNat; congr 1; omega
    · rfl
    · rw [List.length_flatten, List.map_replicate, List.sum_replicate_nat]; simp
    · rw [List.all_flatten, List.all_eq_true]
      intro l hl
      rw [List.eq_of_mem_replicate hl]; rfl
    · show (0 + a.toNat) * 24 ≤ _; omega
    · show 0 + a.toNat ≤ _; omega
    · intro s V2 hb hn hle
      have hcut := hb.cut (k := 0) (Nat.zero_le _)
      refine ⟨Int.le_refl _, Int.le_refl _, by show (0 : Int) ≤ s.c; omega, ?_⟩
      have e : (⟨if s.c = 0 then s.a else s.a.map fun q => q.add 0, (0 : Int).toNat - 0, s.c - 0⟩ : Sl) = ⟨s.a, 0, s.c⟩ := by
        rw [map_add_zero]; split <;> rfl
      show Buf V2 ⟨if s.c = 0 then s.a else s.a.map fun q => q.add 0, (0 : Int).toNat - 0, s.c - 0⟩ _ _ _ ∧ V1.Le (V2.minus ⟨if s.c = 0 then s.a else s.a.map fun q => q.add 0, (0 : Int).toNat - 0, s.c - 0⟩)
      rw [e]
      exact ⟨by simpa using hcut, hle⟩
  · rintro ⟨s, ⟨⟩⟩ V2 ⟨g1, g2⟩
    exact ⟨s, rfl, g1, g2⟩
theorem SlR.slN {α : Type} [Rep α] {V : View} {s : Sl} {ls : List (List α)} (h : SlR V s ls) {i : Nat} (hi : i < ls.length) : ∃ ad y, s.a = some ad ∧ V.cell? (ad.add (((i : Int)).toNat * 1)) = some (.slice y.a y.n y.c) ∧ SlR V y ls[i] := by
  have hn := h.n
  obtain ⟨ad, vs, hx, ha, hc, y, rfl, hy⟩ := h.ld (x := (i : Int)) (by omega) (by omega)
  exact ⟨ad, y, ha, cellsAt_one.1 hc, hy⟩
theorem flat_take {α : Type} {ls : List (List α)} {i : Nat} (hi : i < ls.length) : (ls.take (i + 1)).flatten = (ls.take i).flatten ++ ls[i] := by
  rw [List.take_add_one, List.getElem?_eq_getElem hi, List.flatten_append]; simp
theorem flatten_len {α : Type} : ∀ {ls : List (List α)}, ∀ i, (ls.take i).flatten.length ≤ ls.flatten.length
  | [], i => by simp
  | l :: ls, 0 => by simp
  | l :: ls, i + 1 => by
    have := flatten_len (ls := ls) i
    simp only [List.take_succ_cons, List.flatten_cons, List.length_append]; omega
theorem concat_ok {V : View} {s : Sl} {ls : List (List Ent)} (h : SlR V s ls) (hl : ls.flatten.length ≤ 1000) : CallV Tryz.prog 186 ⟨[.slice s.a s.n s.c]⟩ V fun r V' => ∃ x : Sl, r = .slice x.a x.n x.c ∧ SlR V' x ls.flatten ∧ V.Le V' := by
  refine f186_x ?_
  unfold f186_n
  have hn := h.n; have hlim := h.lim
  refine loop2 (k := .int .i64) (l := .int .i64) (fun (x j : Int) V' => V' = V ∧ ∃ i : Nat, j = i ∧ i ≤ ls.length ∧ x = ((ls.take i).flatten.length : Nat)) (fun _ (j : Int) _ => ls.length - j.toNat) ⟨rfl, 0, rfl, by omega, by simp⟩ ?_
  rintro (x : Int) (j : Int) V1 ⟨rfl, i, rfl, hi, rfl⟩
  refine br_intro (fun hlt => ?_) (fun hge => ?_)
  · have hlt : i < ls.length := by have := of_decide_eq_true hlt; omega
    obtain ⟨ad, y, ha, hc, hy⟩ := h.slN hlt
    have hf := flat_take hlt
    have h1 := flatten_len (ls := ls) (i + 1)
    have hyn := hy.n
    have hf2 := congrArg List.length hf
    rw [List.length_append] at hf2
    refine ⟨by omega, by omega, ad, ha, y, hc, inI64 (by omega) (by omega), joinP_cut (fun _ V' => V' = V1) (br_intro (fun hb => absurd (of_decide_eq_true hb) (by omega)) (fun _ => rfl)) ?_⟩
    rintro ⟨⟩ V2 rfl
    exact ⟨inI64 (by omega) (by omega), ⟨rfl, i + 1, by omega, by omega, by omega⟩, by omega⟩
  · have hge : i = ls.length := by have := of_decide_eq_false hge; omega
    subst hge
    rw [List.take_length]
    refine (grow_ok (by omega) (by omega)).mono ?_
    rintro r V2 ⟨x, rfl, hb, hle⟩
    refine ⟨x, rfl, loop2 (k := .sl) (l := .int .i64) (fun (x : Sl) (j : Int) V' => ∃ i : Nat, j = i ∧ i ≤ ls.length ∧ ∃ cs, Buf V' x 85 (Rep.sz Ent) cs ∧ repL (V'.minus x) cs (ls.take i).flatten ∧ V1.Le (V'.minus x)) (fun _ (j : Int) _ => ls.length - j.toNat) ⟨0, rfl, by omega, [], hb, rfl, hle⟩ ?_⟩
    rintro (x : Sl) (j : Int) V3 ⟨i, rfl, hi, cs, hb3, hr3, hle3⟩
    refine br_intro (fun hlt => ?_) (fun hge => ?_)
    · have hlt : i < ls.length := by have := of_decide_eq_true hlt; omega
      obtain ⟨ad, y, ha, hc, hy⟩ := (h.mono hle3).slN hlt
      have hf := flat_take hlt
      have h1 := flatten_len (ls := ls) (i + 1)
      have hf2 := congrArg List.length hf
      rw [List.length_append] at hf2
      refine ⟨by omega, by omega, ad, ha, y, (View.minus_le _ _).cell hc, ?_⟩
      refine appRow (α := Ent) rfl hb3 hr3 hy hle3 (by omega) (by omega) fun s V4 cs4 g1 g2 g3 => ⟨inI64 (by omega) (by omega), ⟨i + 1, by omega, by omega, cs4, g1, by rw [hf]; exact g2, g3⟩, by omega⟩
    · have hge : i = ls.length := by have := of_decide_eq_false hge; omega
      subst hge
      rw [List.take_length] at hr3
      exact ⟨x, rfl, hb3.slR hr3 (View.minus_le _ _), hle3.trans (View.minus_le _ _)⟩
/-- What a With or a Without tells. -/
def outE (V : View) (r : Value) (o : Except Int (List Ent)) : Prop := ∃ (x : Sl) (e : Int), r = .tuple ⟨[.slice x.a x.n x.c, .int .i64 e]⟩ ∧ (match o with
  | .ok l => e = 0 ∧ SlR V x l
  | .error c => e = c ∧ SlR (α := Ent) V x [])
theorem tw_split {l : List Ent} {s : ByteArray} {i : Nat} (h1 : ∀ e ∈ l.take i, sLess e.name s = true) (h2 : ∀ hi : i < l.length, sLess l[i].name s = false) : l.takeWhile (fun e => sLess e.name s) = l.take i ∧ l.dropWhile (fun e => sLess e.name s) = l.drop i := by
  induction l generalizing i with
  | nil => simp
  | cons e l ih =>
    cases i with
    | zero =>
      have := h2 (by simp)
      have : sLess e.name s = false := this
      rw [List.takeWhile_cons, List.dropWhile_cons, this]; exact ⟨rfl, rfl⟩
    | succ i =>
      have he : sLess e.name s = true := h1 e (by simp)
      obtain ⟨a, b⟩ := ih (i := i) (fun x hx => h1 x (by simp [hx])) (fun hi => h2 (by simpa using hi))
      rw [List.takeWhile_cons, List.dropWhile_cons, he]
      exact ⟨by simp [a], by simp [b]⟩
theorem with_ok {V : View} {x : Sl} {l : List Ent} {s : ByteArray} {i : Int} (h : SlR V x l) (hs : s.size ≤ 9223372036854775807) (hi : inI .i64 i) : CallV Tryz.prog 173 ⟨[.slice x.a x.n x.c, .string s, .int .i64 i]⟩ V fun r V' => outE V' r (withE l ⟨s, i⟩) ∧ V.Le V' := by
  refine f173_x ?_
  unfold f173_n
  have hn := h.n; have hc := h.c
  intro _
  refine joinP_cut (fun q V' => V' = V ∧ q.1 = !(mayL l && soleE ⟨s, i⟩)) ((mayL_ok h).mono ?_) ?_
  · rintro r V1 ⟨rfl, rfl⟩
    refine ⟨_, rfl, br_intro (fun hb => ⟨rfl, by rw [not_t hb]; rfl⟩) (fun hb => (sole_ok (x := ⟨s, i⟩) hs).mono ?_)⟩
    rintro r V2 ⟨rfl, rfl⟩
    exact ⟨_, rfl, rfl, by rw [not_f hb]; rfl⟩
  rintro ⟨q, ⟨⟩⟩ V1 ⟨rfl, hq⟩
  dsimp only [unc] at *
  unfold withE
  refine br_intro (fun hb => ?_) (fun hb => ?_)
  · rw [hq] at hb
    rw [if_neg (by rw [not_t hb]; decide)]
    exact ⟨⟨⟨none, 0, 0⟩, 1, rfl, rfl, SlR.nil _ _ _⟩, View.Le.refl _⟩
  have hM : (mayL l && soleE ⟨s, i⟩) = true := by rw [hq] at hb; exact not_f hb
  have hM1 : mayL l = true := by rw [Bool.and_eq_true] at hM; exact hM.1
  have hlen := mayL_len hM1
  rw [if_pos hM]
  refine (place_ok h).mono ?_
  rintro r V2 ⟨rfl, hV2⟩
  refine ⟨_, rfl, ?_⟩
  rw [idx_has]
  refine br_intro (fun hb => ?_) (fun hb => ?_)
  · rw [if_pos hb]
    exact ⟨⟨⟨none, 0, 0⟩, 9, rfl, rfl, SlR.nil _ _ _⟩, hV2⟩
  rw [if_neg (by rw [hb]; decide)]
  refine br_intro (fun hb => ?_) (fun hb => ?_)
  · rw [if_pos (show 10 ≤ l.length by have := of_decide_eq_true hb; omega)]
    exact ⟨⟨⟨none, 0, 0⟩, 14, rfl, rfl, SlR.nil _ _ _⟩, hV2⟩
  rw [if_neg (show ¬ 10 ≤ l.length by have := of_decide_eq_false hb; omega)]
  refine loop1 (k := .int .i64) (fun (y : Int) V' => V' = V2 ∧ 0 ≤ y ∧ y ≤ l.length ∧ ∀ e ∈ l.take y.toNat, sLess e.name s = true) (fun (y : Int) _ => l.length - y.toNat) ⟨rfl, by omega, by omega, by simp⟩ ?_
  rintro (y : Int) V3 ⟨rfl, h0, h1, h2⟩
  refine joinP_cut (fun q V' => V' = V3 ∧ ((q.1 = true ∧ ∃ hx : y.toNat < l.length, sLess l[y.toNat].name s = true) ∨ (q.1 = false ∧ ∀ hx : y.toNat < l.length, sLess l[y.toNat].name s = false))) (br_intro (fun hlt => ?_) (fun hge => ?_)) ?_
  · have hlt : y < x.n := by simpa using hlt
    obtain ⟨ad, hx, ha, hcc, _⟩ := (h.mono hV2).ent h0 hlt
    refine ⟨h0, hlt, ad, ha, l[y.toNat].name, hcc 0 _ rfl, rfl, ?_⟩
    · cases hq : sLess l[y.toNat].name s with
      | true => exact .inl ⟨rfl, hx, hq⟩
      | false => exact .inr ⟨rfl, fun _ => hq⟩
  · have hge : ¬ y < x.n := by simpa using hge
    exact ⟨rfl, .inr ⟨rfl, fun hx => by omega⟩⟩
  · rintro ⟨q, ⟨⟩⟩ V4 ⟨rfl, hJ⟩
    dsimp only [unc] at *
    refine br_intro (fun hq => ?_) (fun hq => ?_)
    · subst hq
      rcases hJ with ⟨_, hx, hl⟩ | ⟨hf, _⟩
      · refine ⟨inI64 (by omega) (by omega), ⟨rfl, by omega, by omega, ?_⟩, by omega⟩
        rw [show (y + 1).toNat = y.toNat + 1 by omega, List.take_add_one, List.getElem?_eq_getElem hx]
        intro p hp
        rcases List.mem_append.1 hp with hp | hp
        · exact h2 p hp
        · simp at hp; rw [hp]; exact hl
      · cases hf
    · subst hq
      have hl : ∀ hx : y.toNat < l.length, sLess l[y.toNat].name s = false := by
        rcases hJ with ⟨hf, _⟩ | ⟨_, h6⟩
        · cases hf
        · exact h6
      obtain ⟨e1, e2⟩ := tw_split h2 hl
      have h4 := h.mono hV2
      refine ⟨trivial, Int.le_refl _, h0, by omega, h0, by omega, by omega, fun r hr => ?_⟩
      intro r2 hr2
      have f1 := View.see_none_of_ge hr
      have f2 := View.see_none_of_ge hr2
      have p1 := View.put_le (o := .cells ⟨[.string s, .int .i64 i]⟩ 85 (0, 0)) f1
      have hne : r ≠ r2 := by
        rintro rfl
        have : r < (V4.put r (.cells ⟨[.string s, .int .i64 i]⟩ 85 (0, 0))).size := Nat.lt_of_lt_of_le (Nat.lt_succ_self _) (Nat.le_max_right _ _)
        have hr2' : (V4.put r (.cells ⟨[.string s, .int .i64 i]⟩ 85 (0, 0))).size ≤ r := hr2
        omega
      have s1 := h4.sub (i := 0) (j := y.toNat) (Nat.zero_le _) (by omega)
      have s2 : SlR (V4.put r (.cells ⟨[.string s, .int .i64 i]⟩ 85 (0, 0))) ⟨some ⟨r, 0, none⟩, 1, 1⟩ [(⟨s, i⟩ : Ent)] :=
        slR_block (l := [(⟨s, i⟩ : Ent)]) (W := V4) (View.see_put_same _ _ _) ⟨[.string s, .int .i64 i], [], rfl, ⟨rfl, hs, hi⟩, rfl⟩ p1 (show 1 ≤ 140737488355328 by decide)
      have s3 := h4.sub (i := y.toNat) (j := l.length) (by omega) (Nat.le_refl _)
      rw [List.take_length] at s3
      rw [List.drop_zero] at s1
      have p2 := View.put_le (o := .cells ⟨[.slice (if x.c = 0 then x.a else x.a.map fun q => q.add 0) (y.toNat - 0) (x.c - 0), .slice (some ⟨r, 0, none⟩) 1 1, .slice (if x.c = y.toNat then x.a else x.a.map fun q => q.add (y.toNat * 2)) ((x.n : Int).toNat - y.toNat) (x.c - y.toNat)]⟩ 61 (0, 0)) f2
      have hall : SlR (V4.put r (.cells ⟨[.string s, .int .i64 i]⟩ 85 (0, 0)) |>.put r2 (.cells ⟨[.slice (if x.c = 0 then x.a else x.a.map fun q => q.add 0) (y.toNat - 0) (x.c - 0), .slice (some ⟨r, 0, none⟩) 1 1, .slice (if x.c = y.toNat then x.a else x.a.map fun q => q.add (y.toNat * 2)) ((x.n : Int).toNat - y.toNat) (x.c - y.toNat)]⟩ 61 (0, 0))) ⟨some ⟨r2, 0, none⟩, 3, 3⟩ [l.take y.toNat, [(⟨s, i⟩ : Ent)], l.drop y.toNat] := by
        refine slR_block (l := [l.take y.toNat, [(⟨s, i⟩ : Ent)], l.drop y.toNat]) (View.see_put_same _ _ _) (W := V4.put r (.cells ⟨[.string s, .int .i64 i]⟩ 85 (0, 0))) ?_ p2 (show 3 ≤ 140737488355328 by decide)
        refine ⟨[_], [_, _], rfl, ⟨_, rfl, s1.mono p1⟩, [_], [_], rfl, ⟨_, rfl, s2⟩, [_], [], rfl, ⟨⟨if x.c = y.toNat then x.a else x.a.map fun q => q.add (y.toNat * 2), (x.n : Int).toNat - y.toNat, x.c - y.toNat⟩, rfl, ?_⟩, rfl⟩
        rw [show (x.n : Int).toNat = l.length by omega]
        exact s3.mono p1
      have ef : insE l ⟨s, i⟩ = [l.take y.toNat, [(⟨s, i⟩ : Ent)], l.drop y.toNat].flatten := by
        unfold insE
        dsimp only
        rw [e1, e2]; simp
      refine (concat_ok hall (by rw [← ef]; unfold insE; dsimp only; rw [e1, e2]; simp; omega)).mono ?_
      rintro r3 V5 ⟨z, rfl, hz, hV5⟩
      refine ⟨z, rfl, ⟨z, 0, rfl, rfl, by rw [ef]; exact hz⟩, (hV2.trans p1).trans (p2.trans hV5)⟩
theorem without_ok {V : View} {x : Sl} {l : List Ent} {s : ByteArray} (h : SlR V x l) : CallV Tryz.prog 169 ⟨[.slice x.a x.n x.c, .string s]⟩ V fun r V' => outE V' r (withoutE l s) ∧ V.Le V' := by
  refine f169_x ?_
  unfold f169_n
  have hn := h.n; have hc := h.c
  refine (mayL_ok h).mono ?_
  rintro r V1 ⟨rfl, rfl⟩
  unfold withoutE
  refine ⟨_, rfl, br_intro (fun hb => ?_) (fun hb => ?_)⟩
  · rw [if_neg (by rw [not_t hb]; decide)]
    exact ⟨⟨⟨none, 0, 0⟩, 1, rfl, rfl, SlR.nil _ _ _⟩, View.Le.refl _⟩
  have hM := not_f hb
  have hlen := mayL_len hM
  rw [if_pos hM]
  refine (place_ok h).mono ?_
  rintro r V2 ⟨rfl, hV2⟩
  have hi := idx_has l s
  have hidx := idxI_find (fun e : Ent => decide (e.name = s)) l
  generalize hx : idxI (fun e : Ent => decide (e.name = s)) l = y at *
  refine ⟨_, rfl, br_intro (fun hb => ?_) (fun hb => ?_)⟩
  · rw [decide_eq_false (by have := of_decide_eq_true hb; omega)] at hi
    rw [if_neg (by rw [← hi]; decide)]
    exact ⟨⟨⟨none, 0, 0⟩, 8, rfl, rfl, SlR.nil _ _ _⟩, hV2⟩
  · have hb := of_decide_eq_false hb
    rw [decide_eq_true (by omega)] at hi
    rw [if_pos hi.symm]
    obtain ⟨k, hk, rfl, hf⟩ : ∃ i, ∃ h : i < l.length, y = (i : Int) ∧ l.find? (fun e => decide (e.name = s)) = some l[i] := by
      rcases hidx with ⟨h1, _⟩ | h1
      · omega
      · exact h1
    have hname : l[k].name = s := by simpa using List.find?_some hf
    have ecut := cut_erase hk (mayL_pair hM) hname
    refine ⟨trivial, Int.le_refl _, by omega, by omega, inI64 (by omega) (by omega), by omega, by omega, by omega, fun r hr => ?_⟩
    have f1 := View.see_none_of_ge hr
    have h4 := h.mono hV2
    have s1 := h4.sub (i := 0) (j := k) (Nat.zero_le _) (by omega)
    have s3 := h4.sub (i := k + 1) (j := l.length) (by omega) (Nat.le_refl _)
    rw [List.take_length] at s3
    rw [List.drop_zero] at s1
    have e1 : ((k : Int) + 1).toNat = k + 1 := by omega
    have e2 : ((k : Int)).toNat = k := by omega
    have e3 : (x.n : Int).toNat = l.length := by omega
    rw [e1, e2, e3]
    have p2 := View.put_le (o := .cells ⟨[.slice (if x.c = 0 then x.a else x.a.map fun q => q.add 0) (k - 0) (x.c - 0), .slice (if x.c = k + 1 then x.a else x.a.map fun q => q.add ((k + 1) * 2)) (l.length - (k + 1)) (x.c - (k + 1))]⟩ 61 (0, 0)) f1
    have hall : SlR (V2.put r (.cells ⟨[.slice (if x.c = 0 then x.a else x.a.map fun q => q.add 0) (k - 0) (x.c - 0), .slice (if x.c = k + 1 then x.a else x.a.map fun q => q.add ((k + 1) * 2)) (l.length - (k + 1)) (x.c - (k + 1))]⟩ 61 (0, 0))) ⟨some ⟨r, 0, none⟩, 2, 2⟩ [l.take k, l.drop (k + 1)] := by
      refine slR_block (l := [l.take k, l.drop (k + 1)]) (View.see_put_same _ _ _) (W := V2) ?_ p2 (show 2 ≤ 140737488355328 by decide)
      exact ⟨[_], [_], rfl, ⟨_, rfl, s1⟩, [_], [], rfl, ⟨_, rfl, s3⟩, rfl⟩
    have ef : cutE l s = [l.take k, l.drop (k + 1)].flatten := by rw [ecut]; simp
    refine (concat_ok hall (by rw [← ef]; have := cut_len l s; omega)).mono ?_
    rintro r3 V5 ⟨z, rfl, hz, hV5⟩
    exact ⟨z, rfl, ⟨z, 0, rfl, rfl, by rw [ef]; exact hz⟩, hV2.trans (p2.trans hV5)⟩
end Go.Proofs.YtoogangnldppaaaGreatDoor

/- Rows of entries: one more, one less. No program in this text. -/
namespace Go.Proofs.YtoogangnldppaaaGreatDoor
open Go
theorem sLess_tot {a b : ByteArray} (h : sLess a b = false) (hne : a ≠ b) : sLess b a = true := by
  have := bytesLess_tri a.data.toList b.data.toList
  unfold sLess at h ⊢
  rw [h] at this
  have hb : (a.data.toList == b.data.toList) = false := by
    rw [beq_eq_false_iff_ne]
    intro e; exact hne (bl_inj e)
  rw [hb] at this
  cases hq : Op.bytesLess b.data.toList a.data.toList with
  | true => rfl
  | false => rw [hq] at this; cases this
theorem mayL_iff {l : List Ent} : mayL l = true ↔ (∀ e ∈ l, soleE e = true) ∧ (l.Pairwise fun a b => sLess a.name b.name = true) ∧ l.length ≤ 10 := by
  constructor
  · intro h
    refine ⟨fun e he => ?_, ?_, mayL_len h⟩
    · have := mayL_node h he
      unfold soleE
      rw [this.2.2, decide_eq_true this.1, decide_eq_true this.2.1]; rfl
    · rw [List.pairwise_iff_getElem]
      intro i j hi hj hij
      have := mayL_less h (j - i - 1) i (by omega)
      rw [show i + (j - i - 1) + 1 = j by omega, getD_at hi, getD_at hj] at this
      exact this
  · rintro ⟨h1, h2, h3⟩
    unfold mayL
    rw [decide_eq_true h3, Bool.and_true, List.all_eq_true]
    intro i hi
    have hi := List.mem_range.1 hi
    unfold okE
    rw [getD_at hi, h1 _ (List.getElem_mem hi), Bool.true_and, Bool.or_eq_true, decide_eq_true_eq]
    by_cases h0 : i = 0
    · exact .inl h0
    · right
      rw [getD_at (by omega)]
      exact List.pairwise_iff_getElem.1 h2 (i - 1) i (by omega) hi (by omega)
theorem mayL_cut {l : List Ent} (h : mayL l = true) (s : ByteArray) : mayL (cutE l s) = true := by
  obtain ⟨h1, h2, h3⟩ := mayL_iff.1 h
  exact mayL_iff.2 ⟨fun e he => h1 e (cut_mem.1 he).1, h2.sublist List.filter_sublist, Nat.le_trans (cut_len l s) h3⟩
theorem ins_mem {l : List Ent} {x e : Ent} : e ∈ insE l x ↔ e = x ∨ e ∈ l := by
  unfold insE
  rw [List.mem_append, List.mem_cons]
  have : e ∈ l ↔ e ∈ l.takeWhile (fun e => sLess e.name x.name) ∨ e ∈ l.dropWhile (fun e => sLess e.name x.name) := by
    rw [← List.mem_append, List.takeWhile_append_dropWhile]
  rw [this]
  constructor
  · rintro (h | h | h)
    · exact .inr (.inl h)
    · exact .inl h
    · exact .inr (.inr h)
  · rintro (h | h | h)
    · exact .inr (.inl h)
    · exact .inl h
    · exact .inr (.inr h)
theorem ins_perm (l : List Ent) (x : Ent) : (insE l x).Perm (x :: l) := by
  unfold insE
  refine List.perm_middle.trans ?_
  rw [List.takeWhile_append_dropWhile]
theorem ins_len (l : List Ent) (x : Ent) : (insE l x).length = l.length + 1 := by
  rw [(ins_perm l x).length_eq]; rfl
theorem mem_takeW {α : Type} {p : α → Bool} : ∀ {l : List α} {a : α}, a ∈ l.takeWhile p → p a = true ∧ a ∈ l
  | [], _, h => by cases h
  | x :: l, a, h => by
    rw [List.takeWhile_cons] at h
    split at h
    · rename_i hx
      rcases List.mem_cons.1 h with rfl | h
      · exact ⟨hx, by simp⟩
      · have := mem_takeW h; exact ⟨this.1, by simp [this.2]⟩
    · cases h
theorem mayL_ins {l : List Ent} {x : Ent} (h : mayL l = true) (hx : soleE x = true) (hn : hasE l x.name = false) (hl : l.length < 10) : mayL (insE l x) = true := by
  obtain ⟨h1, h2, h3⟩ := mayL_iff.1 h
  refine mayL_iff.2 ⟨fun e he => ?_, ?_, by rw [ins_len]; omega⟩
  · rcases ins_mem.1 he with rfl | he
    · exact hx
    · exact h1 e he
  · have hn := has_false.1 hn
    have hd : ∀ e ∈ l.dropWhile (fun e => sLess e.name x.name), sLess x.name e.name = true := by
      have key : ∀ m : List Ent, (m.Pairwise fun a b => sLess a.name b.name = true) → (∀ e ∈ m, e.name ≠ x.name) → ∀ e ∈ m.dropWhile (fun e => sLess e.name x.name), sLess x.name e.name = true := by
        intro m
        induction m with
        | nil => intro _ _ e he; cases he
        | cons y m ih =>
          intro hp hne e he
          rw [List.pairwise_cons] at hp
          rw [List.dropWhile_cons] at he
          split at he
          · exact ih hp.2 (fun e he => hne e (by simp [he])) e he
          · rename_i hy
            have hy : sLess y.name x.name = false := by simpa using hy
            have hxy := sLess_tot hy (hne y (by simp))
            rcases List.mem_cons.1 he with rfl | he
            · exact hxy
            · exact sLess_trans hxy (hp.1 e he)
      exact key l h2 hn
    unfold insE
    have hsp : (l.takeWhile (fun e => sLess e.name x.name) ++ l.dropWhile (fun e => sLess e.name x.name)).Pairwise fun a b => sLess a.name b.name = true := by
      rw [List.takeWhile_append_dropWhile]; exact h2
    rw [List.pairwise_append] at hsp
    rw [List.pairwise_append]
    refine ⟨hsp.1, ?_, fun a ha b hb => ?_⟩
    · rw [List.pairwise_cons]; exact ⟨hd, hsp.2.1⟩
    · rcases List.mem_cons.1 hb with rfl | hb
      · exact (mem_takeW ha).1
      · exact hsp.2.2 a ha b hb
/-- One is taken away, and put back again. -/
theorem ins_cut {l : List Ent} {x : Ent} (h : mayL l = true) (hx : x ∈ l) : insE (cutE l x.name) x = l := by
  obtain ⟨_, h2, _⟩ := mayL_iff.1 h
  obtain ⟨a, b, rfl⟩ := List.append_of_mem hx
  have hp := List.pairwise_append.1 h2
  have hpb := List.pairwise_cons.1 hp.2.1
  have ha : ∀ e ∈ a, sLess e.name x.name = true := fun e he => hp.2.2 e he x (by simp)
  have hb : ∀ e ∈ b, sLess x.name e.name = true := hpb.1
  have ne1 : ∀ e ∈ a, e.name ≠ x.name := fun e he q => by have := ha e he; rw [q, sLess_irr] at this; cases this
  have ne2 : ∀ e ∈ b, e.name ≠ x.name := fun e he q => by have := hb e he; rw [q, sLess_irr] at this; cases this
  have hc : cutE (a ++ x :: b) x.name = a ++ b := by
    unfold cutE
    rw [List.filter_append, List.filter_cons_of_neg (by simp)]
    congr 1
    · rw [List.filter_eq_self]; intro e he; simp [ne1 e he]
    · rw [List.filter_eq_self]; intro e he; simp [ne2 e he]
  have hnb : ∀ e ∈ b, sLess e.name x.name = false := fun e he => by
    cases hq : sLess e.name x.name with
    | false => rfl
    | true => have := sLess_trans hq (hb e he); rw [sLess_irr] at this; cases this
  rw [hc]
  unfold insE
  have t1 : (a ++ b).takeWhile (fun e => sLess e.name x.name) = a := by
    rw [List.takeWhile_append_of_pos (fun e he => ha e he)]
    cases b with
    | nil => simp
    | cons y b => rw [List.takeWhile_cons, hnb y (by simp)]; simp
  have t2 : (a ++ b).dropWhile (fun e => sLess e.name x.name) = b := by
    rw [List.dropWhile_append_of_pos (fun e he => ha e he)]
    cases b with
    | nil => simp
    | cons y b => rw [List.dropWhile_cons, hnb y (by simp)]; simp
  rw [t1, t2]
theorem with_ok_of {l : List Ent} {x : Ent} (h : mayL l = true) (hx : soleE x = true) : withE l x = if hasE l x.name = true then .error 9 else if 10 ≤ l.length then .error 14 else .ok (insE l x) := by
  unfold withE; rw [h, hx]; rfl
theorem without_ok_of {l : List Ent} {s : ByteArray} (h : mayL l = true) (hs : hasE l s = true) : withoutE l s = .ok (cutE l s) := by
  unfold withoutE; rw [if_pos h, if_pos hs]
end Go.Proofs.YtoogangnldppaaaGreatDoor

/- Contracts of calls on names: a tree of one's own behind a pointer. -/
namespace Go.Proofs.YtoogangnldppaaaGreatDoor
open Go
/-- A call that needs nothing of a row of one's own, and only adds to what it needs. -/
theorem CallV.besideG {P : Program} {f : FuncId} {args : Array Value} {V : View} {x : Sl} {e : TypeId} {sz : Nat} {cs : List Value} {K : Value → View → Prop} (hb : Buf V x e sz cs) (h : CallV P f args (V.minus x) fun r U' => K r U' ∧ (V.minus x).Le U') :
    CallV P f args V fun r V' => ∃ U', K r U' ∧ (V.minus x).Le U' ∧ U'.Le (V'.minus x) ∧ V.Le V' := by
  rcases hb.own with ⟨ha, _⟩ | ⟨b, all, ha, hs, _⟩
  · have e1 : ∀ W : View, W.minus x = W := fun W => by unfold View.minus; rw [ha]
    rw [e1] at h
    refine h.mono fun r V' hk => ⟨V', hk.1, by rw [e1]; exact hk.2, by rw [e1]; exact View.Le.refl _, hk.2⟩
  · have e1 : ∀ W : View, W.minus x = W.hide b := fun W => by unfold View.minus; rw [ha]
    rw [e1] at h
    refine (CallV.frameG (View.hide_le V b) h).mono ?_
    rintro r V' ⟨U', hk, h1, h2, h3, h4⟩
    have h5 := h4 b _ (by simp [View.hide]) hs
    refine ⟨U', hk, by rw [e1]; exact h1, ?_, h3⟩
    rw [e1]
    refine ⟨h2.size, fun i o ho => ?_, h2.out⟩
    have hne : i ≠ b := fun e => by rw [e, h5] at ho; cases ho
    rw [hide_see, if_neg hne]; exact h2.see i o ho
/-- A tree of one's own, and the box that holds it. -/
structure BoxT (V0 V : View) (b : Nat) (x : Sl) (t : Tre) : Prop where
  own : OwnT V0 V x t
  box : (V.minus x).see b = some (.cells ⟨[.slice x.a x.n x.c]⟩ 40 (0, 0))
theorem BoxT.mono {V0 V V' : View} {b : Nat} {x : Sl} {t : Tre} (h : BoxT V0 V b x t) (hV : V.Le V') : BoxT V0 V' b x t := ⟨h.own.mono hV, (minus_mono hV x).see _ _ h.box⟩
theorem BoxT.cell {V0 V : View} {b : Nat} {x : Sl} {t : Tre} (h : BoxT V0 V b x t) : V.cell? ((⟨b, 0, none⟩ : Addr).add 0) = some (.slice x.a x.n x.c) := by
  rw [Addr.add_zero]; exact cell_of_see ((View.minus_le _ _).see _ _ h.box) rfl
theorem BoxT.cell0 {V0 V : View} {b : Nat} {x : Sl} {t : Tre} (h : BoxT V0 V b x t) : V.cell? (⟨b, 0, none⟩ : Addr) = some (.slice x.a x.n x.c) := cell_of_see ((View.minus_le _ _).see _ _ h.box) rfl
theorem BoxT.cells {V0 V : View} {b : Nat} {x : Sl} {t : Tre} (h : BoxT V0 V b x t) : cellsAt V (⟨b, 0, none⟩ : Addr) [.slice x.a x.n x.c] := cellsAt_one.2 h.cell0
theorem OwnT.n {V0 V : View} {x : Sl} {t : Tre} (h : OwnT V0 V x t) : x.n = t.length := h.slR.n
theorem box_new {V0 V : View} {x : Sl} {t : Tre} {b : Nat} (h : OwnT V0 V x t) (hb : V.see b = none) :
    canSet (V.put b (.cells ⟨[.slice none 0 0]⟩ 40 (0, 0))) ⟨b, 0, none⟩ 1 ∧ BoxT V0 ((V.put b (.cells ⟨[.slice none 0 0]⟩ 40 (0, 0))).sets ⟨b, 0, none⟩ [.slice x.a x.n x.c]) b x t := by
  refine ⟨canSet_of (View.see_put_same _ _ _) (by simp), ?_⟩
  rw [sets_see (View.see_put_same _ _ _)]
  have hle : V.Le ((V.put b (.cells ⟨[.slice none 0 0]⟩ 40 (0, 0))).put b (.cells ⟨putL [.slice none 0 0] 0 [.slice x.a x.n x.c]⟩ 40 (0, 0))) :=
    ⟨Nat.le_trans (Nat.le_max_left _ _) (Nat.le_max_left _ _), fun i o ho => by
      have hne : i ≠ b := fun e => by rw [e, hb] at ho; cases ho
      rw [View.see_put_ne _ _ hne, View.see_put_ne _ _ hne]; exact ho, rfl⟩
  refine ⟨h.mono hle, ?_⟩
  obtain ⟨cs, hB, _, _⟩ := h
  rcases hB.own with ⟨ha, _⟩ | ⟨r, all, ha, hs, _⟩
  · unfold View.minus; rw [ha]; exact View.see_put_same _ _ _
  · have hne : b ≠ r := fun e => by rw [← e, hb] at hs; cases hs
    unfold View.minus; rw [ha]
    show (View.hide _ r).see b = _
    rw [hide_see, if_neg hne]; exact View.see_put_same _ _ _
/-- What beside a tree of one's own is called leaves it as it is. -/
theorem BoxT.call {P : Program} {f : FuncId} {args : Array Value} {V0 V : View} {b : Nat} {x : Sl} {t : Tre} {K : Value → View → Prop} (h : BoxT V0 V b x t) (hc : CallV P f args (V.minus x) fun r U' => K r U' ∧ (V.minus x).Le U') :
    CallV P f args V fun r V' => ∃ U', K r U' ∧ U'.Le (V'.minus x) ∧ V.Le V' ∧ BoxT V0 V' b x t := by
  obtain ⟨cs, hB, _, _⟩ := h.own
  refine (CallV.besideG hB hc).mono ?_
  rintro r V' ⟨U', h1, _, h2, h3⟩
  exact ⟨U', h1, h2, h3, h.mono h3⟩
/-- A write into the tree leaves the box. -/
theorem BoxT.write {V0 V V' : View} {b : Nat} {x : Sl} {t u : Tre} (h : BoxT V0 V b x t) (hle : (V.minus x).Le (V'.minus x)) (ho : OwnT V0 V' x u) : BoxT V0 V' b x u := ⟨ho, hle.see _ _ h.box⟩
theorem sets_minus {V : View} {x : Sl} {ad : Addr} (ha : x.a = some ad) (k : Nat) (vs : List Value) : (V.minus x).Le ((V.sets (ad.add k) vs).minus x) := by
  unfold View.minus View.sets
  rw [ha, Addr.add_block]
  show (V.hide ad.block).Le (View.hide _ ad.block)
  cases V.see ad.block with
  | some o => exact hide_le_put_hide _ _
  | none => exact View.Le.refl _
theorem inI_pred {k : Int} (h : inI .i64 k) (h0 : 0 ≤ k) : inI .i64 (k - 1) := by
  have h2 : k ≤ 9223372036854775807 := h.2
  exact inI64 (by omega) (by omega)
theorem sets_minus2 {V : View} {x : Sl} {ad : Addr} (ha : x.a = some ad) (k j : Nat) (vs : List Value) : (V.minus x).Le ((V.sets ((ad.add k).add j) vs).minus x) := by
  rw [Addr.add_add]; exact sets_minus ha _ _
theorem with_box {V0 V : View} {b : Nat} {x : Sl} {t : Tre} {l : List Ent} {y : Sl} {s : ByteArray} {i : Int} (h : BoxT V0 V b x t) (hl : SlR (V.minus x) y l) (hs : s.size ≤ 9223372036854775807) (hi : inI .i64 i) :
    CallV Tryz.prog 173 ⟨[.slice y.a y.n y.c, .string s, .int .i64 i]⟩ V fun r V' => ∃ U', outE U' r (withE l ⟨s, i⟩) ∧ U'.Le (V'.minus x) ∧ V.Le V' ∧ BoxT V0 V' b x t := h.call (with_ok hl hs hi)
theorem enters_ok {V0 V : View} {b : Nat} {x : Sl} {t : Tre} {d : Nat} {s : ByteArray} {i j : Int} {o : Except Int (List Ent)} (h : BoxT V0 V b x t) (hd : d < t.length) (hs : s.size ≤ 9223372036854775807) (hi : inI .i64 i) (ho : withE (entsT t d) ⟨s, i⟩ = o) (hc : ∀ c, o = .error c → c ≠ 0) :
    CallV Tryz.prog 150 ⟨[.pointer (some ⟨b, 0, none⟩), .agg ⟨[.int .i64 d, .string s, .int .i64 j]⟩, .int .i64 i]⟩ V fun r V' => (∀ l, o = .ok l → r = .int .i64 0 ∧ BoxT V0 V' b x (entT t d l)) ∧ (∀ c, o = .error c → r = .int .i64 c) ∧ V0.Le V' := by
  refine f150_x ?_
  unfold f150_n
  obtain ⟨ad, sq, en, ha, hcs, hN, _, _, _, hset⟩ := h.own.setC hd
  have hn := h.own.n
  refine fun _ => ⟨trivial, V, View.Le.refl _, _, rfl, x, h.cell, by omega, by omega, ad, ha, en, cellsAt_nth hcs 4 rfl, (with_box h hN.ents hs hi).mono ?_⟩
  rintro r V1 ⟨U, ⟨y, e, rfl, hy⟩, hU, hV1, h1⟩
  have ho' : withE (t.getD d default).ents ⟨s, i⟩ = o := ho
  rw [ho'] at hy
  refine ⟨y, e, rfl, ?_⟩
  obtain ⟨ad', sq', en', ha', hcs', _, _, _, _, hset'⟩ := h1.own.setC hd
  cases o with
  | error c =>
    obtain ⟨rfl, _⟩ := hy
    have := hc e rfl
    refine joinP_cut (fun _ V' => V' = V1) (br_intro (fun h => absurd (of_decide_eq_true h) this) (fun _ => rfl)) ?_
    rintro ⟨⟩ V2 rfl
    exact ⟨fun l h => (by cases h), fun c' h => (by cases h; rfl), h1.own.le⟩
  | ok l =>
    obtain ⟨rfl, hy⟩ := hy
    obtain ⟨a1, a2⟩ := hset' y l _ (hy.mono hU) rfl
    refine joinP_cut (fun _ V' => BoxT V0 V' b x (entT t d l)) (br_intro (fun _ => ⟨trivial, V1, View.Le.refl _, _, rfl, x, h1.cell, by omega, by omega, ad', ha', a1, ?_⟩) (fun h => absurd h (by decide))) ?_
    · exact h1.write (sets_minus2 ha' _ _ _) a2
    · rintro ⟨⟩ V2 h2
      exact ⟨fun l' h => (by cases h; exact ⟨rfl, h2⟩), fun c h => (by cases h), h2.own.le⟩
theorem leaves_ok {V0 V : View} {b : Nat} {x : Sl} {t : Tre} {d : Nat} {s : ByteArray} {j : Int} {l : List Ent} (h : BoxT V0 V b x t) (hd : d < t.length) (ho : withoutE (entsT t d) s = .ok l) :
    CallV Tryz.prog 145 ⟨[.pointer (some ⟨b, 0, none⟩), .agg ⟨[.int .i64 d, .string s, .int .i64 j]⟩]⟩ V fun r V' => r = .tuple ⟨[]⟩ ∧ BoxT V0 V' b x (entT t d l) := by
  refine f145_x ?_
  unfold f145_n
  obtain ⟨ad, sq, en, ha, hcs, hN, _, _, _, hset⟩ := h.own.setC hd
  have hn := h.own.n
  refine fun _ => ⟨trivial, V, View.Le.refl _, _, rfl, x, h.cell, _, rfl, x, h.cell, by omega, by omega, ad, ha, en, cellsAt_nth hcs 4 rfl, (h.call (without_ok hN.ents)).mono ?_⟩
  rintro r V1 ⟨U, ⟨y, e, rfl, hy⟩, hU, hV1, h1⟩
  have ho' : withoutE (t.getD d default).ents s = .ok l := ho
  rw [ho'] at hy
  obtain ⟨rfl, hy⟩ := hy
  obtain ⟨ad', sq', en', ha', hcs', _, _, _, _, hset'⟩ := h1.own.setC hd
  obtain ⟨a1, a2⟩ := hset' y l _ (hy.mono hU) rfl
  exact ⟨y, _, rfl, hV1, by omega, by omega, ad', ha', a1, rfl, h1.write (sets_minus2 ha' _ _ _) a2⟩
theorem zeroN_rep {W : View} : Rep.rep W [.int .i64 0, .int .i64 0, .int .i64 0, .slice none 0 0, .slice none 0 0] Nod.zero := ⟨⟨none, 0, 0⟩, ⟨none, 0, 0⟩, rfl, zero64, zero64, zero64, SlR.nil _ _ _, SlR.nil _ _ _⟩
theorem less_ok {V0 V : View} {b : Nat} {x y : Sl} {t : Tre} {i : Nat} {held : List Bool} (h : BoxT V0 V b x t) (hi : i < t.length) (hl : 0 ≤ (t.getD i default).links) (hy : SlR V0 y held) :
    CallV Tryz.prog 146 ⟨[.pointer (some ⟨b, 0, none⟩), .int .i64 i, .slice y.a y.n y.c]⟩ V fun r V' => r = .tuple ⟨[]⟩ ∧ BoxT V0 V' b x (lessT t i held) := by
  refine f146_x ?_
  unfold f146_n
  obtain ⟨ad, sq, en, ha, hcs, hN, hset, _⟩ := h.own.setC hi
  have hn := h.own.n
  have hyn := hy.n
  refine ⟨_, rfl, x, h.cell, by omega, by omega, ad, ha, _, rfl, _, cellsAt_nth hcs 0 rfl, ?_⟩
  refine joinP_cut (fun _ V' => ∃ t' : Tre, BoxT V0 V' b x t' ∧ t'.length = t.length ∧ t'.set i Nod.zero = lessT t i held) (br_intro (fun hk => ?_) (fun hk => ?_)) ?_
  · have hk : kindT t i = 1 := of_decide_eq_true hk
    have hlim := hN.links
    obtain ⟨a1, a2⟩ := hset ((t.getD i default).links - 1) _ (inI_pred hlim hl) rfl
    have hB1 := h.write (sets_minus2 ha (i * 5) 1 [.int .i64 ((t.getD i default).links - 1)]) a2
    have hi1 : i < (t.set i { t.getD i default with links := (t.getD i default).links - 1 }).length := by simpa using hi
    obtain ⟨ad1, sq1, en1, ha1, hcs1, hN1, _⟩ := hB1.own.setC hi1
    have e1 : (t.set i { t.getD i default with links := (t.getD i default).links - 1 }).getD i default = { t.getD i default with links := (t.getD i default).links - 1 } := by
      rw [getD_at hi1]; simp
    rw [ha] at ha1; cases ha1
    rw [e1] at hcs1
    have hle1 := hB1.own.le
    refine ⟨_, rfl, _, cellsAt_nth hcs 1 rfl, inI_pred hlim hl, _, rfl, a1, ?_⟩
    have hstep : t.set i { t.getD i default with links := (t.getD i default).links - 1 } |>.set i Nod.zero |> (· = t.set i Nod.zero) := List.set_set ..
    refine joinP_cut (fun q V' => BoxT V0 V' b x (t.set i { t.getD i default with links := (t.getD i default).links - 1 }) ∧ q.1 = (decide (0 < (t.getD i default).links - 1) || heldB held i)) ⟨_, rfl, _, cellsAt_nth hcs1 1 rfl, br_intro (fun hp => ⟨hB1, by rw [hp]; rfl⟩) (fun hp => br_intro (fun hlt => ?_) (fun hge => ⟨hB1, ?_⟩))⟩ ?_
    · have hlt := of_decide_eq_true hlt
      obtain ⟨ad3, hx3, ha3, hc3⟩ := (hy.mono hle1).bool (x := (i : Int)) (by omega) (by omega)
      refine ⟨by omega, by omega, ad3, ha3, _, hc3, hB1, ?_⟩
      rw [hp, Bool.false_or]
      unfold heldB
      have e : ((i : Int)).toNat = i := by omega
      rw [List.getD_eq_getElem?_getD, List.getElem?_eq_getElem (by omega)]
      simp only [e]; rfl
    · have hge := of_decide_eq_false hge
      rw [hp, Bool.false_or]
      unfold heldB
      rw [List.getD_eq_getElem?_getD, List.getElem?_eq_none (by omega)]; rfl
    · rintro ⟨q, ⟨⟩⟩ V2 ⟨hB2, hq⟩
      dsimp only [unc] at *
      have hcase : lessT t i held = if q = true then t.set i { t.getD i default with links := (t.getD i default).links - 1 } else t.set i Nod.zero := by
        unfold lessT
        rw [hq]
        by_cases h1 : 0 < (t.getD i default).links - 1 ∨ heldB held i = true
        · rw [if_pos ⟨hk, h1⟩, if_pos (by simpa using h1)]
        · rw [if_neg (fun h => h1 h.2), if_neg (by simpa using h1)]
      refine br_intro (fun hq1 => ⟨rfl, ?_⟩) (fun hq1 => ⟨_, hB2, by simp, ?_⟩)
      · rw [hcase, if_pos hq1]; exact hB2
      · rw [hcase, if_neg (by rw [hq1]; decide)]; exact hstep
  · have hk : ¬ kindT t i = 1 := of_decide_eq_false hk
    refine ⟨t, h, rfl, ?_⟩
    unfold lessT
    rw [if_neg (fun h => hk h.1)]
  · rintro ⟨⟩ V1 ⟨t', h1, hlen, e⟩
    obtain ⟨ad2, ha2, a1, a2⟩ := h1.own.set (i := i) (by omega) (n := Nod.zero) (vs := [.int .i64 0, .int .i64 0, .int .i64 0, .slice none 0 0, .slice none 0 0]) fun _ _ => zeroN_rep
    rw [ha] at ha2; cases ha2
    rw [e] at a2
    exact ⟨_, rfl, a1, rfl, h1.write (sets_minus ha (i * 5) _) a2⟩
end Go.Proofs.YtoogangnldppaaaGreatDoor

/- Contracts of calls on names: what is made, linked, renamed, taken away. -/
namespace Go.Proofs.YtoogangnldppaaaGreatDoor
open Go
theorem par_err {t : Tre} {p : ByteArray} {e : Int} (h : parentT t p = .error e) : e ≠ 0 := by
  unfold parentT at h
  split at h
  · split at h
    · split at h
      · rename_i hf; cases h; exact ends_only hf
      · split at h
        · cases h
        · cases h; decide
    · rename_i h0; cases h; exact h0
  · cases h; decide
theorem free_spec {t : Tre} (hM : mayT t = true) : freeT t = -1 ∨ (1 ≤ freeT t ∧ freeT t < 12 ∧ kindT t (freeT t).toNat = 0) := by
  have h12 := (mayT_all hM).1
  have h0 : kindT t 0 = 2 := (mayT_all hM).2.2.1
  unfold freeT
  rw [if_pos hM]
  rcases idxI_find (fun n : Nod => decide (n.kind = 0)) t with ⟨h1, _⟩ | ⟨i, hi, h1, h2⟩
  · exact .inl h1
  · have hk := List.find?_some h2
    have hk : t[i].kind = 0 := by simpa using hk
    have hk2 : kindT t i = 0 := by unfold kindT; rw [getD_at hi]; exact hk
    right
    rw [h1]
    refine ⟨?_, by omega, by rw [Int.toNat_natCast]; exact hk2⟩
    by_cases hi0 : i = 0
    · subst hi0; omega
    · omega
/-- What a call on names tells. -/
def outT (V V' : View) (r : Value) (o : Except Int Tre) : Prop := (∃ (x : Sl) (e : Int), r = .tuple ⟨[treV x, .int .i64 e]⟩ ∧ (match o with
  | .ok u => e = 0 ∧ SlR V' x u
  | .error c => e = c ∧ c ≠ 0 ∧ SlR (α := Nod) V' x [])) ∧ V.Le V'
theorem none_ok {V0 V : View} {c : Int} (hc : c ≠ 0) (hle : V0.Le V) : CallV Tryz.prog 76 ⟨[.int .i64 c]⟩ V fun r V' => outT V0 V' r (.error c) := by
  refine f76_x ?_
  unfold f76_n
  exact fun _ => ⟨⟨⟨none, 0, 0⟩, c, rfl, rfl, hc, SlR.nil _ _ _⟩, hle⟩
/-- How 'none' is returned. -/
theorem none_ret {V0 V : View} {c : Int} (hc : c ≠ 0) (hle : V0.Le V) {o : Except Int Tre} (ho : o = .error c) : CallV Tryz.prog 76 ⟨[.int .i64 c]⟩ V fun r V => ∃ x : Sl, ∃ e : Int, r = .tuple ⟨[.agg ⟨[.slice x.a x.n x.c]⟩, .int .i64 e]⟩ ∧ outT V0 V (.tuple ⟨[.agg ⟨[.slice x.a x.n x.c]⟩, .int .i64 e]⟩) o := by
  refine (none_ok hc hle).mono ?_
  rintro r V' ⟨⟨x, e, rfl, h⟩, h2⟩
  exact ⟨x, e, rfl, ⟨x, e, rfl, by rw [ho]; exact h⟩, h2⟩
/-- A place that is told. -/
noncomputable def atV (t : Tre) (p : ByteArray) : Value := match parentT t p with
  | .error e => .tuple ⟨[.agg ⟨[.int .i64 0, .string (ba []), .int .i64 0]⟩, .int .i64 e]⟩
  | .ok (d, s) => .tuple ⟨[.agg ⟨[.int .i64 d, .string s, .int .i64 (atI (entsT t d) s)]⟩, .int .i64 0]⟩
theorem at_ok {s : Sl} {t : Tre} {p : ByteArray} {V : View} (h : SlR V s t) (hp : p.size ≤ 9223372036854775807) (hg : Glo V) : CallV Tryz.prog 147 ⟨[treV s, .string p]⟩ V fun r V' => r = atV t p ∧ V.Le V' := by
  refine f147_x ?_
  unfold f147_n
  have hn := h.n
  refine fun _ _ => (dirParent_ok h hp hg).mono ?_
  rintro r V1 ⟨rfl, hV1⟩
  unfold atV
  cases hq : parentT t p with
  | error e =>
    exact ⟨_, _, _, rfl, br_intro (fun _ => ⟨rfl, hV1⟩) (fun h => absurd (of_decide_eq_true (not_f h)) (par_err hq))⟩
  | ok q =>
    obtain ⟨d, n⟩ := q
    obtain ⟨ld, P⟩ := par_of hq
    have hd := P.d12
    have h12 := (mayT_all P.may).1
    obtain ⟨ad, sq, en, ha, hc, hN⟩ := (h.mono hV1).nodN (i := d) (by omega)
    refine ⟨_, _, _, rfl, br_intro (fun h => absurd h (by decide)) (fun _ => ⟨by omega, by omega, ad, ha, en, cellsAt_nth hc 4 rfl, (nameFind_ok hN.ents).mono ?_⟩)⟩
    rintro r V2 ⟨rfl, hV2⟩
    exact ⟨_, rfl, rfl, hV1.trans hV2⟩
/-- A place that must be there. -/
noncomputable def thereV (t : Tre) (p : ByteArray) : Value := match parentT t p with
  | .error e => .tuple ⟨[.agg ⟨[.int .i64 0, .string (ba []), .int .i64 0]⟩, .int .i64 e]⟩
  | .ok (d, s) => .tuple ⟨[.agg ⟨[.int .i64 d, .string s, .int .i64 (atI (entsT t d) s)]⟩, .int .i64 (if atI (entsT t d) s < 0 then 8 else 0)]⟩
theorem there_ok {s : Sl} {t : Tre} {p : ByteArray} {V : View} (h : SlR V s t) (hp : p.size ≤ 9223372036854775807) (hg : Glo V) : CallV Tryz.prog 144 ⟨[treV s, .string p]⟩ V fun r V' => r = thereV t p ∧ V.Le V' := by
  refine f144_x ?_
  unfold f144_n
  refine fun _ _ => (at_ok h hp hg).mono ?_
  rintro r V1 ⟨rfl, hV1⟩
  unfold atV thereV
  cases hq : parentT t p with
  | error e =>
    have he := par_err hq
    refine ⟨_, _, _, _, rfl, fun _ => joinP_cut (fun q V' => q.1 = e ∧ V' = V1) (br_intro (fun h => ?_) (fun _ => ⟨rfl, rfl⟩)) ?_⟩
    · rw [decide_eq_false he] at h; cases h
    · rintro ⟨q, ⟨⟩⟩ V2 ⟨e1, rfl⟩
      dsimp only [unc] at *
      exact ⟨by rw [e1], hV1⟩
  | ok q =>
    obtain ⟨d, n⟩ := q
    refine ⟨_, _, _, _, rfl, fun _ => joinP_cut (fun q V' => q.1 = (if atI (entsT t d) n < 0 then 8 else 0) ∧ V' = V1) (br_intro (fun h => ⟨?_, rfl⟩) (fun h => ⟨?_, rfl⟩)) ?_⟩
    · rw [if_pos (of_decide_eq_true h)]
    · rw [if_neg (of_decide_eq_false h)]
    · rintro ⟨q, ⟨⟩⟩ V2 ⟨e1, rfl⟩
      dsimp only [unc] at *
      exact ⟨by rw [e1], hV1⟩
theorem empty_ok {k : Int} {V : View} : CallV Tryz.prog 61 ⟨[.int .i64 k]⟩ V fun r V' => (∃ s e : Sl, r = nodV (emptyN k) s e ∧ NodR V' s e (emptyN k)) ∧ V.Le V' := by
  refine f61_x ?_
  unfold f61_n
  refine fun _ => br_intro (fun h1 => ⟨by decide, by decide, by decide, by decide, fun r hr => ?_⟩) (fun h1 => br_intro (fun h2 => ?_) (fun h2 => ?_))
  · have h1 : k = 1 := of_decide_eq_true h1
    subst h1
    have hp := View.put_le (o := .cells ⟨(List.replicate 5 [.int .i64 0]).flatten⟩ 3 (0, 0)) (View.see_none_of_ge hr)
    refine ⟨⟨⟨some ⟨r, 0, none⟩, 5, 5⟩, ⟨none, 0, 0⟩, rfl, one64, one64, zero64, ?_, SlR.nil _ _ _⟩, hp⟩
    exact slR_block (l := [0, 0, 0, 0, 0]) (W := V) (View.see_put_same _ _ _) (rows_int (l := [0, 0, 0, 0, 0]) fun n hn => by
      have : n = 0 := by simpa using hn
      rw [this]; exact zero64) hp (show 5 ≤ 140737488355328 by decide)
  · have h2 : k = 2 := of_decide_eq_true h2
    subst h2
    exact ⟨⟨⟨none, 0, 0⟩, ⟨none, 0, 0⟩, rfl, two64, one64, zero64, SlR.nil _ _ _, SlR.nil _ _ _⟩, View.Le.refl _⟩
  · have e : emptyN k = Nod.zero := by
      unfold emptyN
      rw [if_neg (of_decide_eq_false h1), if_neg (of_decide_eq_false h2)]
    rw [e]
    exact ⟨⟨⟨none, 0, 0⟩, ⟨none, 0, 0⟩, rfl, zero64, zero64, zero64, SlR.nil _ _ _, SlR.nil _ _ _⟩, View.Le.refl _⟩
theorem entT_len (t : Tre) (d : Nat) (l : List Ent) : (entT t d l).length = t.length := by unfold entT; simp
theorem mayT_lightT {t : Tre} (h : mayT t = true) : t.length ≤ 1000 ∧ ∀ n ∈ t, LightN n := mayT_light' h
/-- With what is entered, of a tree that may be. -/
theorem with_par {t : Tre} {p s : ByteArray} {ld : List ByteArray} {d : Nat} (P : Par t p ld d s) {i : Int} (h1 : 1 ≤ i) (h2 : i < 12) (hat : ¬ 0 ≤ atI (entsT t d) s) : withE (entsT t d) ⟨s, i⟩ = if 10 ≤ (entsT t d).length then .error 14 else .ok (insE (entsT t d) ⟨s, i⟩) := by
  rw [with_ok_of P.mayL (by unfold soleE; rw [show mayB (⟨s, i⟩ : Ent).name = true from P.sole, decide_eq_true (show 1 ≤ (⟨s, i⟩ : Ent).node from h1), decide_eq_true (show (⟨s, i⟩ : Ent).node < 12 from h2)]; rfl)]
  have := at_has (mayL_pos P.mayL) s
  rw [decide_eq_false hat] at this
  rw [if_neg (by show ¬ hasE (entsT t d) s = true; rw [← this]; decide)]
theorem without_par {t : Tre} {p s : ByteArray} {ld : List ByteArray} {d : Nat} (P : Par t p ld d s) (hat : ¬ atI (entsT t d) s < 0) : withoutE (entsT t d) s = .ok (cutE (entsT t d) s) := by
  have := at_has (mayL_pos P.mayL) s
  rw [decide_eq_true (by omega)] at this
  exact without_ok_of P.mayL this.symm
theorem makes_ok {s : Sl} {t : Tre} {p : ByteArray} {k : Int} {V : View} (h : SlR V s t) (hp : p.size ≤ 9223372036854775807) (hg : Glo V) : CallV Tryz.prog 143 ⟨[treV s, .string p, .int .i64 k]⟩ V fun r V' => outT V V' r (makesT t p k) := by
  refine f143_x ?_
  unfold f143_n
  have hn := h.n
  refine fun _ _ => (at_ok h hp hg).mono ?_
  rintro r V1 ⟨rfl, hV1⟩
  unfold atV
  cases hq : parentT t p with
  | error e =>
    exact ⟨_, _, _, _, rfl, fun _ => br_intro (fun _ => none_ret (par_err hq) hV1 (by unfold makesT; rw [hq])) (fun h => absurd (of_decide_eq_true (not_f h)) (par_err hq))⟩
  | ok q =>
    obtain ⟨d, n⟩ := q
    obtain ⟨ld, P⟩ := par_of hq
    have hd := P.d12
    have h12 := (mayT_all P.may).1
    have hE : makesT t p k = if 0 ≤ atI (entsT t d) n then .error 9 else if freeT t < 0 then .error 14 else if 10 ≤ (entsT t d).length then .error 14 else .ok ((entT t d (insE (entsT t d) ⟨n, freeT t⟩)).set (freeT t).toNat (emptyN k)) := by unfold makesT; rw [hq]
    refine ⟨_, _, _, _, rfl, fun _ => br_intro (fun h => absurd h (by decide)) (fun _ => br_intro (fun h0 => none_ret (by decide) hV1 (by rw [hE, if_pos (of_decide_eq_true h0)])) (fun h0 => ?_))⟩
    have h0 := of_decide_eq_false h0
    rw [if_neg h0] at hE
    refine (free_ok (h.mono hV1)).mono ?_
    rintro r V2 ⟨rfl, hV2⟩
    have q2 := hV1.trans hV2
    refine ⟨_, rfl, br_intro (fun hf => none_ret (by decide) q2 (by rw [hE, if_pos (of_decide_eq_true hf)])) (fun hf => ?_)⟩
    have hf := of_decide_eq_false hf
    rw [if_neg hf] at hE
    obtain ⟨f1, f2, f3⟩ : 1 ≤ freeT t ∧ freeT t < 12 ∧ kindT t (freeT t).toNat = 0 := by
      rcases free_spec P.may with h | h
      · omega
      · exact h
    refine (copyT_ok (h.mono q2) (mayT_lightT P.may)).mono ?_
    rintro r V3 ⟨x, rfl, hO⟩
    refine ⟨x, rfl, fun b hb => ?_⟩
    obtain ⟨b1, b2⟩ := box_new hO hb
    have hlen := P.size
    refine ⟨b1, (enters_ok b2 (d := d) (by omega) (by omega) (inI64 (by omega) (by omega)) (with_par P f1 f2 h0) (fun c hc => ?_)).mono ?_⟩
    · split at hc <;> cases hc; decide
    rintro r V4 ⟨h4, h4e, hle4⟩
    by_cases hfull : 10 ≤ (entsT t d).length
    · rw [if_pos hfull] at hE
      obtain rfl := h4e 14 (if_pos hfull)
      exact ⟨_, rfl, br_intro (fun _ => none_ret (by decide) (q2.trans hle4) hE) (fun h => absurd h (by decide))⟩
    · rw [if_neg hfull] at hE
      obtain ⟨rfl, hb4⟩ := h4 _ (if_neg hfull)
      refine ⟨_, rfl, br_intro (fun h => absurd h (by decide)) (fun _ => ⟨trivial, V4, View.Le.refl _, x, hb4.cell0, (hb4.call empty_ok).mono ?_⟩)⟩
      rintro r V5 ⟨U, ⟨sq, en, rfl, hN⟩, hU, hV5, h5⟩
      have hn5 := h5.own.n
      rw [entT_len] at hn5
      obtain ⟨ad, ha, c1, c2⟩ := h5.own.set (i := (freeT t).toNat) (by rw [entT_len]; omega) (n := emptyN k) (vs := [.int .i64 (emptyN k).kind, .int .i64 (emptyN k).links, .int .i64 (emptyN k).size, .slice sq.a sq.n sq.c, .slice en.a en.n en.c]) fun _ _ => (hN.mono hU).rep
      have h6 := h5.write (sets_minus ha ((freeT t).toNat * 5) _) c2
      rw [hE]
      exact ⟨_, _, _, sq, en, rfl, hV5, by omega, by omega, ad, ha, c1, x, h6.cells, ⟨x, 0, rfl, rfl, h6.own.slR⟩, q2.trans h6.own.le⟩
theorem create_ok {s : Sl} {t : Tre} {p : ByteArray} {V : View} (h : SlR V s t) (hp : p.size ≤ 9223372036854775807) (hg : Glo V) : CallV Tryz.prog 96 ⟨[treV s, .string p]⟩ V fun r V' => outT V V' r (makesT t p 1) := by
  refine f96_x ?_
  unfold f96_n
  refine fun _ _ => (makes_ok h hp hg).mono ?_
  rintro r V1 ⟨⟨x, e, rfl, h1⟩, h2⟩
  exact ⟨x, e, rfl, ⟨x, e, rfl, h1⟩, h2⟩
theorem mkdir_ok {s : Sl} {t : Tre} {p : ByteArray} {V : View} (h : SlR V s t) (hp : p.size ≤ 9223372036854775807) (hg : Glo V) : CallV Tryz.prog 97 ⟨[treV s, .string p]⟩ V fun r V' => outT V V' r (makesT t p 2) := by
  refine f97_x ?_
  unfold f97_n
  refine fun _ _ => (makes_ok h hp hg).mono ?_
  rintro r V1 ⟨⟨x, e, rfl, h1⟩, h2⟩
  exact ⟨x, e, rfl, ⟨x, e, rfl, h1⟩, h2⟩
end Go.Proofs.YtoogangnldppaaaGreatDoor

/- Contracts of calls on names: unlinked, linked, renamed, dropped. -/
namespace Go.Proofs.YtoogangnldppaaaGreatDoor
open Go
theorem entT_at {t : Tre} {d i : Nat} {l : List Ent} (h : i ≠ d) : (entT t d l).getD i default = t.getD i default := by
  unfold entT
  rw [List.getD_eq_getElem?_getD, List.getElem?_set_ne (fun e => h e.symm), ← List.getD_eq_getElem?_getD]
theorem entT_same {t : Tre} {d : Nat} {l : List Ent} (h : d < t.length) : (entT t d l).getD d default = { t.getD d default with ents := l } := by
  rw [getD_at (by rw [entT_len]; exact h)]
  unfold entT
  rw [List.getElem_set_self]
theorem at_kind {t : Tre} (hM : mayT t = true) {d : Nat} {s : ByteArray} (h : ¬ atI (entsT t d) s < 0) : kindT t d = 2 ∧ 1 ≤ atI (entsT t d) s ∧ atI (entsT t d) s < 12 ∧ kindT t (atI (entsT t d) s).toNat ≠ 0 ∧ ∃ e ∈ entsT t d, e.name = s ∧ e.node = atI (entsT t d) s := by
  obtain ⟨e, he, h1, h2⟩ := atI_mem h
  have := (mayF hM).ent he
  rw [← h2]
  exact ⟨this.2.1, this.2.2.1, this.2.2.2.1, this.2.2.2.2.2, e, he, h1, rfl⟩
theorem file_links {t : Tre} (hM : mayT t = true) {i : Nat} (hi : i < 12) : 0 ≤ (t.getD i default).links ∧ (t.getD i default).links ≤ 120 := by
  have h := (mayF hM).at hi
  unfold mayN at h
  split at h
  · simp only [Bool.and_eq_true, decide_eq_true_eq] at h; omega
  · split at h
    · unfold fileB within at h
      simp only [Bool.and_eq_true, decide_eq_true_eq] at h
      exact h.1.1.1.1
    · split at h
      · simp only [Bool.and_eq_true, decide_eq_true_eq] at h; omega
      · cases h
theorem cutd_self {t : Tre} (hM : mayT t = true) {d : Nat} {s : ByteArray} (h : ¬ atI (entsT t d) s < 0) : (atI (entsT t d) s).toNat ≠ d := by
  obtain ⟨_, h1, _, _, e, he, _, h2⟩ := at_kind hM h
  intro hd
  refine (mayF hM).nocycle he ?_
  rw [h2, hd]; exact .refl
theorem thereV_err {t : Tre} {p : ByteArray} {e : Int} (h : parentT t p = .error e) : thereV t p = .tuple ⟨[.agg ⟨[.int .i64 0, .string (ba []), .int .i64 0]⟩, .int .i64 e]⟩ := by
  unfold thereV; rw [h]
theorem thereV_ok {t : Tre} {p s : ByteArray} {d : Nat} (h : parentT t p = .ok (d, s)) : thereV t p = .tuple ⟨[.agg ⟨[.int .i64 d, .string s, .int .i64 (atI (entsT t d) s)]⟩, .int .i64 (if atI (entsT t d) s < 0 then 8 else 0)]⟩ := by
  unfold thereV; rw [h]
theorem atV_err {t : Tre} {p : ByteArray} {e : Int} (h : parentT t p = .error e) : atV t p = .tuple ⟨[.agg ⟨[.int .i64 0, .string (ba []), .int .i64 0]⟩, .int .i64 e]⟩ := by
  unfold atV; rw [h]
theorem atV_ok {t : Tre} {p s : ByteArray} {d : Nat} (h : parentT t p = .ok (d, s)) : atV t p = .tuple ⟨[.agg ⟨[.int .i64 d, .string s, .int .i64 (atI (entsT t d) s)]⟩, .int .i64 0]⟩ := by
  unfold atV; rw [h]
theorem int_nat {a : Int} (h : 1 ≤ a) : Value.int .i64 a = Value.int .i64 ((a.toNat : Nat) : Int) := by congr 1; omega
theorem unlink_ok {s y : Sl} {t : Tre} {p : ByteArray} {held : List Bool} {V : View} (h : SlR V s t) (hy : SlR V y held) (hp : p.size ≤ 9223372036854775807) (hg : Glo V) : CallV Tryz.prog 98 ⟨[treV s, .string p, .slice y.a y.n y.c]⟩ V fun r V' => outT V V' r (unlinkT t p held) := by
  refine f98_x ?_
  unfold f98_n
  have hn := h.n
  refine fun _ _ => (there_ok h hp hg).mono ?_
  rintro r V1 ⟨rfl, hV1⟩
  cases hq : parentT t p with
  | error e =>
    rw [thereV_err hq]
    exact ⟨_, _, _, _, rfl, fun _ => br_intro (fun _ => none_ret (par_err hq) hV1 (by unfold unlinkT; rw [hq])) (fun h => absurd (of_decide_eq_true (not_f h)) (par_err hq))⟩
  | ok q =>
    obtain ⟨d, n⟩ := q
    obtain ⟨ld, P⟩ := par_of hq
    have hd := P.d12
    have h12 := (mayT_all P.may).1
    rw [thereV_ok hq]
    have hE : unlinkT t p held = if atI (entsT t d) n < 0 then .error 8 else if kindT t (atI (entsT t d) n).toNat = 2 then .error 10 else .ok (lessT (entT t d (cutE (entsT t d) n)) (atI (entsT t d) n).toNat held) := by unfold unlinkT; rw [hq]
    by_cases h0 : atI (entsT t d) n < 0
    · rw [if_pos h0] at hE ⊢
      exact ⟨_, _, _, _, rfl, fun _ => br_intro (fun _ => none_ret (by decide) hV1 hE) (fun h => absurd h (by decide))⟩
    rw [if_neg h0] at hE ⊢
    obtain ⟨k0, k1, k2, k3, _⟩ := at_kind P.may h0
    have hne := cutd_self P.may h0
    obtain ⟨ad, sq, en, ha, hc, hN⟩ := (h.mono hV1).nodN (i := (atI (entsT t d) n).toNat) (by omega)
    refine ⟨_, _, _, _, rfl, fun _ => br_intro (fun h => absurd h (by decide)) (fun _ => ⟨by omega, by omega, ad, ha, _, cellsAt_nth hc 0 rfl, br_intro (fun hk => none_ret (by decide) hV1 (by rw [hE, if_pos (of_decide_eq_true hk)])) (fun hk => ?_)⟩)⟩
    rw [if_neg (show ¬ kindT t (atI (entsT t d) n).toNat = 2 from of_decide_eq_false hk)] at hE
    refine (copyT_ok (h.mono hV1) (mayT_lightT P.may)).mono ?_
    rintro r V3 ⟨x, rfl, hO⟩
    refine ⟨x, rfl, fun b hb => ?_⟩
    obtain ⟨b1, b2⟩ := box_new hO hb
    refine ⟨b1, (leaves_ok b2 (d := d) (by omega) (without_par P h0)).mono ?_⟩
    rintro r V4 ⟨rfl, h4⟩
    have hl := file_links P.may (i := (atI (entsT t d) n).toNat) (by omega)
    have e1 := entT_at (t := t) (l := cutE (entsT t d) n) hne
    rw [int_nat k1]
    refine ⟨rfl, (less_ok h4 (i := (atI (entsT t d) n).toNat) (by rw [entT_len]; omega) (by rw [e1]; exact hl.1) (hy.mono hV1)).mono ?_⟩
    rintro r V5 ⟨rfl, h5⟩
    rw [hE]
    exact ⟨rfl, x, h5.cells, ⟨x, 0, rfl, rfl, h5.own.slR⟩, hV1.trans h5.own.le⟩
theorem rmdir_ok {s : Sl} {t : Tre} {p : ByteArray} {V : View} (h : SlR V s t) (hp : p.size ≤ 9223372036854775807) (hg : Glo V) : CallV Tryz.prog 99 ⟨[treV s, .string p]⟩ V fun r V' => outT V V' r (rmdirT t p) := by
  refine f99_x ?_
  unfold f99_n
  have hn := h.n
  refine fun _ _ => (there_ok h hp hg).mono ?_
  rintro r V1 ⟨rfl, hV1⟩
  cases hq : parentT t p with
  | error e =>
    rw [thereV_err hq]
    exact ⟨_, _, _, _, rfl, fun _ => br_intro (fun _ => none_ret (par_err hq) hV1 (by unfold rmdirT; rw [hq])) (fun h => absurd (of_decide_eq_true (not_f h)) (par_err hq))⟩
  | ok q =>
    obtain ⟨d, n⟩ := q
    obtain ⟨ld, P⟩ := par_of hq
    have hd := P.d12
    have h12 := (mayT_all P.may).1
    rw [thereV_ok hq]
    have hE : rmdirT t p = if atI (entsT t d) n < 0 then .error 8 else if kindT t (atI (entsT t d) n).toNat ≠ 2 then .error 11 else if 0 < (entsT t (atI (entsT t d) n).toNat).length then .error 12 else .ok ((entT t d (cutE (entsT t d) n)).set (atI (entsT t d) n).toNat Nod.zero) := by unfold rmdirT; rw [hq]
    by_cases h0 : atI (entsT t d) n < 0
    · rw [if_pos h0] at hE ⊢
      exact ⟨_, _, _, _, rfl, fun _ => br_intro (fun _ => none_ret (by decide) hV1 hE) (fun h => absurd h (by decide))⟩
    rw [if_neg h0] at hE ⊢
    obtain ⟨k0, k1, k2, k3, _⟩ := at_kind P.may h0
    have hne := cutd_self P.may h0
    obtain ⟨ad, sq, en, ha, hc, hN⟩ := (h.mono hV1).nodN (i := (atI (entsT t d) n).toNat) (by omega)
    have hen : en.n = (entsT t (atI (entsT t d) n).toNat).length := hN.ents.n
    refine ⟨_, _, _, _, rfl, fun _ => br_intro (fun h => absurd h (by decide)) (fun _ => ⟨by omega, by omega, ad, ha, _, cellsAt_nth hc 0 rfl, br_intro (fun hk => none_ret (by decide) hV1 (by rw [hE, if_pos (show kindT t (atI (entsT t d) n).toNat ≠ 2 from of_decide_eq_false (not_t hk))])) (fun hk => ⟨by omega, by omega, ad, ha, en, cellsAt_nth hc 4 rfl, br_intro (fun hl => none_ret (by decide) hV1 ?_) (fun hl => ?_)⟩)⟩)⟩
    · have hk : kindT t (atI (entsT t d) n).toNat = 2 := of_decide_eq_true (not_f hk)
      have hl := of_decide_eq_true hl
      rw [hE, if_neg (fun h => h hk), if_pos (show 0 < (entsT t (atI (entsT t d) n).toNat).length by omega)]
    have hk : kindT t (atI (entsT t d) n).toNat = 2 := of_decide_eq_true (not_f hk)
    have hl := of_decide_eq_false hl
    rw [if_neg (fun h => h hk), if_neg (show ¬ 0 < (entsT t (atI (entsT t d) n).toNat).length by omega)] at hE
    refine (copyT_ok (h.mono hV1) (mayT_lightT P.may)).mono ?_
    rintro r V3 ⟨x, rfl, hO⟩
    refine ⟨x, rfl, fun b hb => ?_⟩
    obtain ⟨b1, b2⟩ := box_new hO hb
    refine ⟨b1, (leaves_ok b2 (d := d) (by omega) (without_par P h0)).mono ?_⟩
    rintro r V4 ⟨rfl, h4⟩
    have hl := file_links P.may (i := (atI (entsT t d) n).toNat) (by omega)
    have e1 := entT_at (t := t) (l := cutE (entsT t d) n) hne
    rw [int_nat k1]
    refine ⟨rfl, (less_ok (y := ⟨none, 0, 0⟩) (held := []) h4 (i := (atI (entsT t d) n).toNat) (by rw [entT_len]; omega) (by rw [e1]; exact hl.1) (SlR.nil _ _ _)).mono ?_⟩
    rintro r V5 ⟨rfl, h5⟩
    have e2 : lessT (entT t d (cutE (entsT t d) n)) (atI (entsT t d) n).toNat [] = (entT t d (cutE (entsT t d) n)).set (atI (entsT t d) n).toNat Nod.zero := by
      unfold lessT
      rw [if_neg]
      rintro ⟨h, _⟩
      unfold kindT at h hk
      rw [e1] at h; omega
    rw [e2] at h5
    rw [hE]
    exact ⟨rfl, x, h5.cells, ⟨x, 0, rfl, rfl, h5.own.slR⟩, hV1.trans h5.own.le⟩
theorem link_ok {s : Sl} {t : Tre} {p q : ByteArray} {V : View} (h : SlR V s t) (hp : p.size ≤ 9223372036854775807) (hq' : q.size ≤ 9223372036854775807) (hg : Glo V) : CallV Tryz.prog 101 ⟨[treV s, .string p, .string q]⟩ V fun r V' => outT V V' r (linkT t p q) := by
  refine f101_x ?_
  unfold f101_n
  have hn := h.n
  refine fun _ _ => (dirFind_ok h hp hg).mono ?_
  rintro r V1 ⟨rfl, hV1⟩
  cases hf : findT t p with
  | error e =>
    exact ⟨_, _, rfl, br_intro (fun _ => none_ret (ends_only hf) hV1 (by unfold linkT; rw [hf])) (fun h => absurd (of_decide_eq_true (not_f h)) (ends_only hf))⟩
  | ok i =>
    have hi := findT_range hf
    have hM : mayT t = true := by unfold findT at hf; split at hf; assumption; cases hf
    have h12 := (mayT_all hM).1
    have hE : linkT t p q = if kindT t i = 2 then .error 10 else match parentT t q with
      | .error e => .error e
      | .ok (d, s) => if 0 ≤ atI (entsT t d) s then .error 9 else if 10 ≤ (entsT t d).length then .error 14 else
        .ok ((entT t d (insE (entsT t d) ⟨s, i⟩)).set i { t.getD i default with links := (t.getD i default).links + 1 }) := by unfold linkT; rw [hf] <;> rfl
    obtain ⟨ad, sq, en, ha, hc, hN⟩ := (h.mono hV1).nodN (i := i) (by omega)
    refine ⟨_, _, rfl, br_intro (fun h => absurd h (by decide)) (fun _ => ⟨by omega, by omega, ad, ha, _, cellsAt_nth hc 0 rfl, br_intro (fun hk => none_ret (by decide) hV1 (by rw [hE, if_pos (show kindT t i = 2 from of_decide_eq_true hk)])) (fun hk => ?_)⟩)⟩
    have hk : ¬ kindT t i = 2 := of_decide_eq_false hk
    rw [if_neg hk] at hE
    refine (at_ok (h.mono hV1) hq' (hg.mono hV1)).mono ?_
    rintro r V2 ⟨rfl, hV2⟩
    have q2 := hV1.trans hV2
    cases hr : parentT t q with
    | error e =>
      rw [atV_err hr]
      exact ⟨_, _, _, _, rfl, fun _ => br_intro (fun _ => none_ret (par_err hr) q2 (by rw [hE, hr])) (fun h => absurd (of_decide_eq_true (not_f h)) (par_err hr))⟩
    | ok z =>
      obtain ⟨d, n⟩ := z
      obtain ⟨ld, P⟩ := par_of hr
      have hd := P.d12
      rw [hr] at hE
      dsimp only at hE
      rw [atV_ok hr]
      have hid : i ≠ d := fun e => hk (by rw [e]; exact P.kind)
      have hi0 : i ≠ 0 := fun e => hk (by rw [e]; exact (mayF hM).top)
      refine ⟨_, _, _, _, rfl, fun _ => br_intro (fun h => absurd h (by decide)) (fun _ => br_intro (fun h0 => none_ret (by decide) q2 (by rw [hE, if_pos (of_decide_eq_true h0)])) (fun h0 => ?_))⟩
      have h0 := of_decide_eq_false h0
      rw [if_neg h0] at hE
      refine (copyT_ok (h.mono q2) (mayT_lightT P.may)).mono ?_
      rintro r V3 ⟨x, rfl, hO⟩
      refine ⟨x, rfl, fun b hb => ?_⟩
      obtain ⟨b1, b2⟩ := box_new hO hb
      have hlen := P.size
      refine ⟨b1, (enters_ok b2 (d := d) (i := (i : Int)) (by omega) (by omega) (inI64 (by omega) (by omega)) (with_par P (by omega) (by omega) h0) (fun c hc => ?_)).mono ?_⟩
      · split at hc <;> cases hc; decide
      rintro r V4 ⟨h4, h4e, hle4⟩
      by_cases hfull : 10 ≤ (entsT t d).length
      · rw [if_pos hfull] at hE
        obtain rfl := h4e 14 (if_pos hfull)
        exact ⟨_, rfl, br_intro (fun _ => none_ret (by decide) (q2.trans hle4) hE) (fun h => absurd h (by decide))⟩
      · rw [if_neg hfull] at hE
        obtain ⟨rfl, hb4⟩ := h4 _ (if_neg hfull)
        have hl := file_links hM hi
        obtain ⟨ad5, sq5, en5, ha5, hc5, hN5, hset, _⟩ := hb4.own.setC (i := i) (by rw [entT_len]; omega)
        have hn5 := hb4.own.n
        rw [entT_len] at hn5
        have e1 := entT_at (t := t) (l := insE (entsT t d) ⟨n, (i : Int)⟩) hid
        rw [e1] at hc5 hset
        obtain ⟨c1, c2⟩ := hset ((t.getD i default).links + 1) _ (inI64 (by omega) (by omega)) rfl
        have h6 := hb4.write (sets_minus2 ha5 (i * 5) 1 _) c2
        rw [hE]
        exact ⟨_, rfl, br_intro (fun h => absurd h (by decide)) (fun _ => ⟨x, hb4.cell0, by omega, by omega, ad5, ha5, _, cellsAt_nth hc5 1 rfl, inI64 (by omega) (by omega), by omega, by omega, ad5, ha5, c1, x, h6.cells, ⟨x, 0, rfl, rfl, h6.own.slR⟩, q2.trans h6.own.le⟩)⟩
theorem drop_ok {s : Sl} {t : Tre} {i : Int} {V : View} (h : SlR V s t) : CallV Tryz.prog 47 ⟨[treV s, .int .i64 i]⟩ V fun r V' => outT V V' r (dropT t i) := by
  refine f47_x ?_
  unfold f47_n
  have hn := h.n
  refine fun _ _ => (mayT_ok h).mono ?_
  rintro r V1 ⟨rfl, hV1⟩
  refine ⟨_, rfl, br_intro (fun hb => none_ret (by decide) hV1 (by unfold dropT; rw [if_neg (by rw [not_t hb]; decide)])) (fun hb => ?_)⟩
  have hM := not_f hb
  have h12 := (mayT_all hM).1
  have hE : dropT t i = if 0 ≤ i ∧ i < 12 ∧ kindT t i.toNat = 1 ∧ (t.getD i.toNat default).links ≤ 0 then .ok (t.set i.toNat Nod.zero) else .error 18 := by unfold dropT; rw [if_pos hM]
  refine joinP_cut (fun q V' => V' = V1 ∧ q.1 = !decide (0 ≤ i ∧ i < 12 ∧ kindT t i.toNat = 1 ∧ (t.getD i.toNat default).links ≤ 0)) (br_intro (fun hr => ⟨rfl, ?_⟩) (fun hr => ?_)) ?_
  · rw [decide_eq_false]; · rfl
    rintro ⟨h0, h1, _⟩
    rw [decide_eq_false (by omega), decide_eq_false (by omega)] at hr; cases hr
  · have h0 : 0 ≤ i := by
      rcases Int.lt_or_le i 0 with h | h
      · rw [decide_eq_true h] at hr; cases hr
      · exact h
    rw [decide_eq_false (by omega)] at hr
    have h1 : i < 12 := by have := of_decide_eq_false hr; omega
    obtain ⟨ad, sq, en, ha, hc, hN⟩ := (h.mono hV1).nodN (i := i.toNat) (by omega)
    refine ⟨h0, by omega, ad, ha, _, cellsAt_nth hc 0 rfl, br_intro (fun hk => ⟨rfl, ?_⟩) (fun hk => ⟨h0, by omega, ad, ha, _, cellsAt_nth hc 1 rfl, rfl, ?_⟩)⟩
    · have hk : ¬ kindT t i.toNat = 1 := of_decide_eq_false (not_t hk)
      rw [decide_eq_false (fun h => hk h.2.2.1)]; rfl
    · have hk : kindT t i.toNat = 1 := of_decide_eq_true (not_f hk)
      by_cases hl : 0 < (t.getD i.toNat default).links
      · rw [decide_eq_false (show ¬ (0 ≤ i ∧ i < 12 ∧ kindT t i.toNat = 1 ∧ (t.getD i.toNat default).links ≤ 0) from fun h => by have := h.2.2.2; omega)]; exact decide_eq_true hl
      · rw [decide_eq_true (show 0 ≤ i ∧ i < 12 ∧ kindT t i.toNat = 1 ∧ (t.getD i.toNat default).links ≤ 0 from ⟨h0, h1, hk, by omega⟩)]; exact decide_eq_false hl
  · rintro ⟨q, ⟨⟩⟩ V2 ⟨rfl, hq⟩
    dsimp only [unc] at *
    refine br_intro (fun hb => none_ret (by decide) hV1 ?_) (fun hb => ?_)
    · rw [hq] at hb
      rw [hE, if_neg (of_decide_eq_false (not_t hb))]
    · rw [hq] at hb
      have hc := of_decide_eq_true (not_f hb)
      rw [if_pos hc] at hE
      refine (copyT_ok (h.mono hV1) (mayT_lightT hM)).mono ?_
      rintro r V3 ⟨x, rfl, hO⟩
      have hxn := hO.n
      obtain ⟨ad2, ha2, a1, a2⟩ := hO.set (i := i.toNat) (by omega) (n := Nod.zero) (vs := [.int .i64 0, .int .i64 0, .int .i64 0, .slice none 0 0, .slice none 0 0]) fun _ _ => zeroN_rep
      rw [hE]
      exact ⟨x, rfl, fun _ => ⟨by omega, by omega, ad2, ha2, a1, ⟨x, 0, rfl, rfl, a2.slR⟩, hV1.trans a2.le⟩⟩
end Go.Proofs.YtoogangnldppaaaGreatDoor

/- Contract of Rename. -/
namespace Go.Proofs.YtoogangnldppaaaGreatDoor
open Go
theorem entT_ents {t : Tre} {d j : Nat} {l : List Ent} (h : d < t.length) : entsT (entT t d l) j = if j = d then l else entsT t j := by
  unfold entsT
  by_cases e : j = d
  · subst e; rw [if_pos rfl, entT_same h]
  · rw [if_neg e, entT_at e]
theorem lessT_at {t : Tre} {i j : Nat} {held : List Bool} (h : j ≠ i) : (lessT t i held).getD j default = t.getD j default := by
  unfold lessT
  split
  · rw [List.getD_eq_getElem?_getD, List.getElem?_set_ne (fun e => h e.symm), ← List.getD_eq_getElem?_getD]
  · rw [List.getD_eq_getElem?_getD, List.getElem?_set_ne (fun e => h e.symm), ← List.getD_eq_getElem?_getD]
theorem lessT_len (t : Tre) (i : Nat) (held : List Bool) : (lessT t i held).length = t.length := by
  unfold lessT; split <;> simp
theorem has_cut {l : List Ent} {s r : ByteArray} (h : s ≠ r) : hasE (cutE l s) r = hasE l r := by
  rw [Bool.eq_iff_iff, has_true, has_true]
  constructor
  · rintro ⟨e, he, h1⟩; exact ⟨e, (cut_mem.1 he).1, h1⟩
  · rintro ⟨e, he, h1⟩; exact ⟨e, cut_mem.2 ⟨he, fun h2 => h (h2.symm.trans h1)⟩, h1⟩
theorem has_of_at {t : Tre} {p s : ByteArray} {ld : List ByteArray} {d : Nat} (P : Par t p ld d s) : hasE (entsT t d) s = decide (0 ≤ atI (entsT t d) s) := (at_has (mayL_pos P.mayL) s).symm
/-- The entries behind the first step. -/
def E1 (t : Tre) (d : Nat) (n : ByteArray) (f : Nat) : List Ent := if f = d then cutE (entsT t d) n else entsT t f
theorem E1_may {t : Tre} {p q n r : ByteArray} {ld lf : List ByteArray} {d f : Nat} (P : Par t p ld d n) (Q : Par t q lf f r) : mayL (E1 t d n f) = true := by
  unfold E1; split
  · exact mayL_cut P.mayL n
  · exact Q.mayL
theorem E1_has {t : Tre} {p q n r : ByteArray} {ld lf : List ByteArray} {d f : Nat} (_P : Par t p ld d n) (Q : Par t q lf f r) (hne : atI (entsT t f) r ≠ atI (entsT t d) n) : hasE (E1 t d n f) r = decide (0 ≤ atI (entsT t f) r) := by
  unfold E1; split
  · rename_i e; subst e
    rw [has_cut (fun h => hne (by rw [h])), has_of_at Q]
  · exact has_of_at Q
theorem move_ents {t : Tre} {p q n r : ByteArray} {ld lf : List ByteArray} {d f : Nat} (P : Par t p ld d n) (Q : Par t q lf f r) {held : List Bool} (i : Nat) :
    entsT (moveT t d n i f r (atI (entsT t f) r) held) f = if 0 ≤ atI (entsT t f) r then cutE (E1 t d n f) r else E1 t d n f := by
  have h12 := (mayT_all P.may).1
  have hd := P.d12; have hf := Q.d12
  have e1 : entsT (entT t d (cutE (entsT t d) n)) f = E1 t d n f := by rw [entT_ents (by omega)]; rfl
  unfold moveT
  by_cases h : 0 ≤ atI (entsT t f) r
  · rw [if_pos h, if_pos h]
    have hne := cutd_self Q.may (show ¬ atI (entsT t f) r < 0 by omega)
    have : entsT (lessT (entT (entT t d (cutE (entsT t d) n)) f (cutE (entsT (entT t d (cutE (entsT t d) n)) f) r)) (atI (entsT t f) r).toNat held) f = entsT (entT (entT t d (cutE (entsT t d) n)) f (cutE (entsT (entT t d (cutE (entsT t d) n)) f) r)) f := by
      unfold entsT; rw [lessT_at (fun e => hne e.symm)]
    rw [this, entT_ents (by rw [entT_len]; omega), if_pos rfl, e1]
  · rw [if_neg h, if_neg h]; exact e1
theorem move_len (t : Tre) (d : Nat) (n : ByteArray) (i f : Nat) (r : ByteArray) (k : Int) (held : List Bool) : (moveT t d n i f r k held).length = t.length := by
  unfold moveT; split
  · rw [lessT_len, entT_len, entT_len]
  · rw [entT_len]
theorem replaces_ok {a b : Nod} {s e s' e' : Sl} {V : View} (k : NodR V s' e' b) : CallV Tryz.prog 149 ⟨[nodV a s e, nodV b s' e']⟩ V fun r V' => r = .int .i64 (replN a b) ∧ V' = V := by
  refine f149_x ?_
  unfold f149_n
  have hn := k.ents.n
  refine fun _ _ => br_intro (fun h1 => ⟨?_, rfl⟩) (fun h1 => br_intro (fun h2 => ⟨?_, rfl⟩) (fun h2 => br_intro (fun h3 => ⟨?_, rfl⟩) (fun h3 => ⟨?_, rfl⟩)))
  all_goals unfold replN
  · rw [if_pos]
    cases h : decide (a.kind = 2) with
    | false => rw [h] at h1; cases h1
    | true => rw [h] at h1; exact ⟨of_decide_eq_true h, of_decide_eq_false (not_t h1)⟩
  all_goals have h1' : ¬ (a.kind = 2 ∧ b.kind ≠ 2) := (by
    rintro ⟨h, h'⟩
    rw [decide_eq_true h, decide_eq_false h'] at h1; cases h1)
  · rw [if_neg h1', if_pos]
    cases h : decide (a.kind = 2) with
    | true => rw [h] at h2; cases h2
    | false => rw [h] at h2; exact ⟨of_decide_eq_false h, of_decide_eq_true h2⟩
  all_goals have h2' : ¬ (a.kind ≠ 2 ∧ b.kind = 2) := (by
    rintro ⟨h, h'⟩
    rw [decide_eq_false h, decide_eq_true h'] at h2; cases h2)
  · rw [if_neg h1', if_neg h2', if_pos (by have := of_decide_eq_true h3; omega)]
  · rw [if_neg h1', if_neg h2', if_neg (by have := of_decide_eq_false h3; omega)]
theorem rename_ok {s y : Sl} {t : Tre} {p q : ByteArray} {held : List Bool} {V : View} (h : SlR V s t) (hy : SlR V y held) (hp : p.size ≤ 9223372036854775807) (hq' : q.size ≤ 9223372036854775807) (hg : Glo V) : CallV Tryz.prog 100 ⟨[treV s, .string p, .string q, .slice y.a y.n y.c]⟩ V fun r V' => outT V V' r (renameT t p q held) := by
  refine f100_x ?_
  unfold f100_n
  have hn := h.n
  refine fun _ _ => (there_ok h hp hg).mono ?_
  rintro r0 V1 ⟨rfl, hV1⟩
  cases hP : parentT t p with
  | error e =>
    rw [thereV_err hP]
    exact ⟨_, _, _, _, rfl, fun _ => br_intro (fun _ => none_ret (par_err hP) hV1 (by unfold renameT; rw [hP])) (fun h => absurd (of_decide_eq_true (not_f h)) (par_err hP))⟩
  | ok z =>
    obtain ⟨d, n⟩ := z
    obtain ⟨ld, P⟩ := par_of hP
    have hd := P.d12
    have h12 := (mayT_all P.may).1
    rw [thereV_ok hP]
    generalize hi : atI (entsT t d) n = i
    by_cases h0 : i < 0
    · rw [if_pos h0]
      refine ⟨_, _, _, _, rfl, fun _ => br_intro (fun _ => none_ret (by decide) hV1 ?_) (fun h => absurd h (by decide))⟩
      unfold renameT; rw [hP]; dsimp only; rw [if_pos (by rw [hi]; exact h0)]
    rw [if_neg h0]
    obtain ⟨k0, k1, k2, k3, _⟩ := at_kind P.may (d := d) (s := n) (by rw [hi]; exact h0)
    rw [hi] at k1 k2 k3
    refine ⟨_, _, _, _, rfl, fun _ => br_intro (fun h => absurd h (by decide)) (fun _ => (at_ok (h.mono hV1) hq' (hg.mono hV1)).mono ?_)⟩
    rintro r0 V2 ⟨rfl, hV2⟩
    have q2 := hV1.trans hV2
    cases hQ : parentT t q with
    | error e =>
      rw [atV_err hQ]
      refine ⟨_, _, _, _, rfl, fun _ => br_intro (fun _ => none_ret (par_err hQ) q2 ?_) (fun h => absurd (of_decide_eq_true (not_f h)) (par_err hQ))⟩
      unfold renameT; rw [hP]; dsimp only; rw [if_neg (by rw [hi]; exact h0), hQ]
    | ok z =>
      obtain ⟨f, r⟩ := z
      obtain ⟨lf, Q⟩ := par_of hQ
      have hf := Q.d12
      rw [atV_ok hQ]
      have hmv := move_ents P Q (held := held) i.toNat
      have hE1 := E1_has P Q
      have hR : renameT t p q held = if atI (entsT t f) r = i then .ok t else if insideT t i f = true then .error 17 else
          if 0 ≤ atI (entsT t f) r ∧ replN (t.getD i.toNat default) (t.getD (atI (entsT t f) r).toNat default) ≠ 0 then .error (replN (t.getD i.toNat default) (t.getD (atI (entsT t f) r).toNat default)) else
          if 10 ≤ (entsT (moveT t d n i.toNat f r (atI (entsT t f) r) held) f).length then .error 14 else
          .ok (entT (moveT t d n i.toNat f r (atI (entsT t f) r) held) f (insE (entsT (moveT t d n i.toNat f r (atI (entsT t f) r) held) f) ⟨r, i⟩)) := by
        unfold renameT; rw [hP]; dsimp only; rw [hi, if_neg h0, hQ]
      rw [hi] at hE1
      have hkat := Q.at
      have hkk : 0 ≤ atI (entsT t f) r → (atI (entsT t f) r).toNat ≠ f := fun h => cutd_self Q.may (by omega)
      have hmoveE : moveT t d n i.toNat f r (atI (entsT t f) r) held = if 0 ≤ atI (entsT t f) r then lessT (entT (entT t d (cutE (entsT t d) n)) f (cutE (entsT (entT t d (cutE (entsT t d) n)) f) r)) (atI (entsT t f) r).toNat held else entT t d (cutE (entsT t d) n) := rfl
      generalize hk : atI (entsT t f) r = k at *
      refine ⟨_, _, _, _, rfl, fun _ => br_intro (fun h => absurd h (by decide)) (fun _ => br_intro (fun he => ?_) (fun he => ?_))⟩
      · have he := of_decide_eq_true he
        refine (copyT_ok (h.mono q2) (mayT_lightT P.may)).mono ?_
        rintro r0 V3 ⟨x, rfl, hO⟩
        rw [hR, if_pos he]
        exact ⟨x, rfl, ⟨x, 0, rfl, rfl, hO.slR⟩, q2.trans hO.le⟩
      have he := of_decide_eq_false he
      rw [if_neg he] at hR
      refine (inside_ok (h.mono q2)).mono ?_
      rintro r0 V3 ⟨rfl, hV3⟩
      have q3 := q2.trans hV3
      refine ⟨_, rfl, br_intro (fun hin => none_ret (by decide) q3 (by rw [hR, if_pos hin])) (fun hin => ?_)⟩
      rw [if_neg (by rw [hin]; decide)] at hR
      refine (copyT_ok (h.mono q3) (mayT_lightT P.may)).mono ?_
      rintro r0 V4 ⟨x, rfl, hO⟩
      refine ⟨x, rfl, fun b hb => ?_⟩
      obtain ⟨b1, b2⟩ := box_new hO hb
      refine ⟨b1, (leaves_ok b2 (d := d) (by omega) (without_par P (by rw [hi]; exact h0))).mono ?_⟩
      rintro r0 V5 ⟨rfl, h5⟩
      have hnlen := P.size; have hrlen := Q.size
      refine ⟨rfl, ?_⟩
      -- both ways come to a tree moved
      refine joinP_cut (fun _ V' => BoxT V3 V' b x (moveT t d n i.toNat f r k held) ∧ ¬ (0 ≤ k ∧ replN (t.getD i.toNat default) (t.getD k.toNat default) ≠ 0)) (br_intro (fun hk0 => ?_) (fun hk0 => ⟨?_, fun h => (of_decide_eq_false hk0) h.1⟩)) ?_
      · have hk0 := of_decide_eq_true hk0
        have hk12 : 1 ≤ k ∧ k < 12 := by omega
        have hsee := h.mono (q3.trans h5.own.le)
        obtain ⟨ad, sq, en, ha, hc, hN⟩ := hsee.nodN (i := i.toNat) (by omega)
        obtain ⟨ad', sq', en', ha', hc', hN'⟩ := hsee.nodN (i := k.toNat) (by omega)
        refine ⟨trivial, V5, View.Le.refl _, by omega, by omega, ad, ha, _, _, _, sq, en, hc, by omega, by omega, ad', ha', _, _, _, sq', en', hc', (replaces_ok hN').mono ?_⟩
        rintro r0 V6 ⟨rfl, rfl⟩
        refine ⟨_, rfl, br_intro (fun hb => ?_) (fun hb => ?_)⟩
        · have hb := of_decide_eq_false (not_t hb)
          exact none_ret hb (q3.trans h5.own.le) (by rw [hR, if_pos ⟨hk0, hb⟩])
        have hb := of_decide_eq_true (not_f hb)
        have hw : withoutE (entsT (entT t d (cutE (entsT t d) n)) f) r = .ok (cutE (entsT (entT t d (cutE (entsT t d) n)) f) r) := by
          have e1 : entsT (entT t d (cutE (entsT t d) n)) f = E1 t d n f := by rw [entT_ents (by omega)]; rfl
          rw [e1]
          exact without_ok_of (E1_may P Q) (by rw [hE1 he, decide_eq_true hk0])
        refine (leaves_ok h5 (d := f) (by rw [entT_len]; omega) hw).mono ?_
        rintro r0 V7 ⟨rfl, h7⟩
        rw [int_nat hk12.1]
        have hlk : 0 ≤ ((entT (entT t d (cutE (entsT t d) n)) f (cutE (entsT (entT t d (cutE (entsT t d) n)) f) r)).getD k.toNat default).links := by
          rw [entT_at (hkk hk0)]
          by_cases e : k.toNat = d
          · rw [e, entT_same (by omega)]; exact (file_links P.may hd).1
          · rw [entT_at e]; exact (file_links P.may (by omega)).1
        refine ⟨rfl, (less_ok h7 (i := k.toNat) (by rw [entT_len, entT_len]; omega) hlk (hy.mono q3)).mono ?_⟩
        rintro r0 V8 ⟨rfl, h8⟩
        refine ⟨rfl, ?_, fun h => h.2 hb⟩
        rw [hmoveE, if_pos hk0]; exact h8
      · have hk0 := of_decide_eq_false hk0
        rw [hmoveE, if_neg hk0]; exact h5
      · rintro ⟨⟩ V6 ⟨h6, hcond⟩
        rw [if_neg hcond] at hR
        have hmay : mayL (entsT (moveT t d n i.toNat f r k held) f) = true := by
          rw [hmv]; split
          · exact mayL_cut (E1_may P Q) r
          · exact E1_may P Q
        have hhas : hasE (entsT (moveT t d n i.toNat f r k held) f) r = false := by
          rw [hmv]; split
          · exact cut_has _ _
          · rename_i hk0; rw [hE1 he, decide_eq_false hk0]
        have hwith : withE (entsT (moveT t d n i.toNat f r k held) f) ⟨r, i⟩ = if 10 ≤ (entsT (moveT t d n i.toNat f r k held) f).length then .error 14 else .ok (insE (entsT (moveT t d n i.toNat f r k held) f) ⟨r, i⟩) := by
          rw [with_ok_of hmay (by unfold soleE; rw [show mayB (⟨r, i⟩ : Ent).name = true from Q.sole, decide_eq_true (show 1 ≤ (⟨r, i⟩ : Ent).node from k1), decide_eq_true (show (⟨r, i⟩ : Ent).node < 12 from k2)]; rfl)]
          rw [if_neg (by show ¬ hasE _ r = true; rw [hhas]; decide)]
        refine (enters_ok h6 (d := f) (by rw [move_len]; omega) (by omega) (inI64 (by omega) (by omega)) hwith (fun c hc => ?_)).mono ?_
        · split at hc <;> cases hc; decide
        rintro r0 V7 ⟨h7, h7e, hle7⟩
        by_cases hfull : 10 ≤ (entsT (moveT t d n i.toNat f r k held) f).length
        · rw [if_pos hfull] at hR
          obtain rfl := h7e 14 (if_pos hfull)
          exact ⟨_, rfl, br_intro (fun _ => none_ret (by decide) (q3.trans hle7) hR) (fun h => absurd h (by decide))⟩
        · rw [if_neg hfull] at hR
          obtain ⟨rfl, hb7⟩ := h7 _ (if_neg hfull)
          rw [hR]
          exact ⟨_, rfl, br_intro (fun h => absurd h (by decide)) (fun _ => ⟨x, hb7.cells, ⟨x, 0, rfl, rfl, hb7.own.slR⟩, q3.trans hb7.own.le⟩)⟩
end Go.Proofs.YtoogangnldppaaaGreatDoor

/- What comes of a tree that may be may be: plain laws. -/
namespace Go.Proofs.YtoogangnldppaaaGreatDoor
open Go
def cntE (l : List Ent) (x : Int) : Nat := l.countP fun e => decide (e.node = x)
theorem getD_set {t : Tre} {k j : Nat} {n : Nod} (hk : k < t.length) : (t.set k n).getD j default = if j = k then n else t.getD j default := by
  by_cases h : j = k
  · subst h; rw [if_pos rfl, getD_at (by simpa using hk), List.getElem_set_self]
  · rw [if_neg h, List.getD_eq_getElem?_getD, List.getElem?_set_ne (fun e => h e.symm), ← List.getD_eq_getElem?_getD]
theorem named_set {x : Int} : ∀ {t : Tre} {k : Nat} {n : Nod}, k < t.length → namedT (t.set k n) x + cntE (entsT t k) x = namedT t x + cntE n.ents x
  | [], _, _, h => absurd h (by simp)
  | m :: t, 0, n, _ => by
    show namedT (n :: t) x + cntE m.ents x = _
    unfold namedT cntE
    rw [allE_cons, allE_cons, List.countP_append, List.countP_append]; omega
  | m :: t, k + 1, n, h => by
    have ih := named_set (x := x) (t := t) (k := k) (n := n) (by simpa using h)
    show namedT (m :: t.set k n) x + cntE (entsT t k) x = _
    unfold namedT at ih ⊢
    rw [allE_cons, allE_cons, List.countP_append, List.countP_append]; omega
theorem allS_set : ∀ {t : Tre} {k : Nat} {n : Nod}, k < t.length → List.Sublist (n.seqs.filter fun s => decide (s ≠ 0)) ((t.getD k default).seqs.filter fun s => decide (s ≠ 0)) → List.Sublist ((allS (t.set k n)).filter fun s => decide (s ≠ 0)) ((allS t).filter fun s => decide (s ≠ 0))
  | [], _, _, h, _ => absurd h (by simp)
  | m :: t, 0, n, _, hs => by
    have e1 : allS ((m :: t).set 0 n) = n.seqs ++ allS t := by simp [allS]
    have e2 : allS (m :: t) = m.seqs ++ allS t := by simp [allS]
    rw [e1, e2, List.filter_append, List.filter_append]
    exact List.Sublist.append hs (List.Sublist.refl _)
  | m :: t, k + 1, n, h, hs => by
    have ih := allS_set (t := t) (k := k) (n := n) (by simpa using h) (by simpa using hs)
    have e1 : allS ((m :: t).set (k + 1) n) = m.seqs ++ allS (t.set k n) := by simp [allS]
    have e2 : allS (m :: t) = m.seqs ++ allS t := by simp [allS]
    rw [e1, e2, List.filter_append, List.filter_append]
    exact List.Sublist.append (List.Sublist.refl _) ih
theorem apart_set {t : Tre} {k : Nat} {n : Nod} (h : apartL (allS t) = true) (hk : k < t.length) (hs : List.Sublist (n.seqs.filter fun s => decide (s ≠ 0)) ((t.getD k default).seqs.filter fun s => decide (s ≠ 0))) : apartL (allS (t.set k n)) = true := by
  unfold apartL at h ⊢
  exact decide_eq_true ((of_decide_eq_true h).sublist (allS_set hk hs))
theorem mayT_of {t : Tre} (h : MayF t) (ha : apartL (allS t) = true) : mayT t = true := by
  unfold mayT
  simp only [Bool.and_eq_true, decide_eq_true_eq, List.all_eq_true, List.mem_range]
  refine ⟨⟨⟨⟨h.len, h.may⟩, h.top⟩, fun i hi => ?_⟩, ha⟩
  rw [cnt_get 12 (allE t) hi]
  unfold hangB
  rcases kind_of (h.at hi) with hk | hk | hk
  · rw [if_neg (by omega), if_neg (by omega)]
    have := h.none i hi hk
    unfold namedT at this
    rw [this]; rfl
  · rw [if_neg (by omega), if_pos hk]
    exact decide_eq_true (h.file i hi hk)
  · rw [if_pos hk]
    obtain ⟨h1, h2⟩ := h.dir i hi hk
    rw [metB_iff.2 h1, Bool.true_and, Bool.or_eq_true, decide_eq_true_eq, decide_eq_true_eq]
    rcases h2 with h2 | h2
    · left; omega
    · right; unfold namedT at h2; omega
theorem mayT_apart {t : Tre} (h : mayT t = true) : apartL (allS t) = true := (mayT_all h).2.2.2.2
theorem cnt_ins (l : List Ent) (x : Ent) (y : Int) : cntE (insE l x) y = cntE l y + if x.node = y then 1 else 0 := by
  unfold cntE
  rw [(ins_perm l x).countP_eq, List.countP_cons]
  simp only [decide_eq_true_eq]
theorem cnt_cut {l : List Ent} {x : Ent} (h : mayL l = true) (hx : x ∈ l) (y : Int) : cntE l y = cntE (cutE l x.name) y + if x.node = y then 1 else 0 := by
  rw [← cnt_ins, ins_cut h hx]
theorem reach_grow {t u : Tre} (h : ∀ p e, e ∈ entsT t p → ∃ e' ∈ entsT u p, e'.node = e.node) {a b : Nat} (hr : Reach t a b) : Reach u a b := by
  induction hr with
  | refl => exact .refl
  | @step i x _ hx ih =>
    obtain ⟨e', h1, h2⟩ := h i x hx
    rw [← h2]; exact .step ih h1
theorem reach_avoid {t u : Tre} {A : Nat → Prop} (h : ∀ p e, e ∈ entsT t p → ¬ A e.node.toNat → ∃ e' ∈ entsT u p, e'.node = e.node) {a b : Nat} (hr : Reach t a b) (hA : ∀ i, A i → ¬ Reach t i b) : Reach u a b := by
  induction hr with
  | refl => exact .refl
  | @step i x _ hx ih =>
    obtain ⟨e', h1, h2⟩ := h i x hx fun ha => hA _ ha .refl
    rw [← h2]; exact .step (ih fun j hj hr => hA j hj (.step hr hx)) h1
/-- Names are told once. -/
theorem ent_one {t : Tre} (h : MayF t) {d : Nat} {e e' : Ent} (he : e ∈ entsT t d) (he' : e' ∈ entsT t d) (hn : e.name = e'.name) : e = e' := by
  obtain ⟨i, hi, rfl⟩ := List.mem_iff_getElem.1 he
  obtain ⟨j, hj, rfl⟩ := List.mem_iff_getElem.1 he'
  have hp := List.pairwise_iff_getElem.1 (h.pair d)
  rcases Nat.lt_trichotomy i j with h9 | h9 | h9
  · exact absurd hn (hp i j hi hj h9)
  · subst h9; rfl
  · exact absurd hn.symm (hp j i hj hi h9)
theorem zero_of {t : Tre} (h : MayF t) {i : Nat} (hi : i < 12) (hk : kindT t i = 0) : t.getD i default = Nod.zero := by
  have hm := h.at hi
  unfold mayN at hm
  rw [if_pos hk] at hm
  simp only [Bool.and_eq_true, decide_eq_true_eq] at hm
  have hk : (t.getD i default).kind = 0 := hk
  generalize t.getD i default = n at *
  obtain ⟨k, l, z, sq, en⟩ := n
  simp only at hm hk
  have h1 : sq = [] := List.eq_nil_of_length_eq_zero hm.1.2
  have h2 : en = [] := List.eq_nil_of_length_eq_zero hm.2
  rw [hk, hm.1.1.1, hm.1.1.2, h1, h2]; rfl
theorem dir_mayN {n : Nod} {l : List Ent} (h : mayN n = true) (hk : n.kind = 2) (hl : mayL l = true) : mayN { n with ents := l } = true := by
  unfold mayN at h ⊢
  simp only
  rw [if_neg (by omega), if_neg (by omega), if_pos hk] at h ⊢
  simp only [Bool.and_eq_true, decide_eq_true_eq] at h ⊢
  exact ⟨h.1, hl⟩
theorem file_mayN {n : Nod} {k : Int} (h : mayN n = true) (hk : n.kind = 1) (h0 : 0 ≤ k) (h1 : k ≤ 120) : mayN { n with links := k } = true := by
  unfold mayN at h ⊢
  simp only
  rw [if_neg (by omega), if_pos hk] at h ⊢
  unfold fileB at h ⊢
  simp only [Bool.and_eq_true, decide_eq_true_eq] at h ⊢
  refine ⟨⟨⟨⟨?_, h.1.1.1.2⟩, h.1.1.2⟩, h.1.2⟩, h.2⟩
  unfold within
  rw [decide_eq_true h0, decide_eq_true h1]; rfl
theorem file_noents {t : Tre} (h : MayF t) {i : Nat} (_hi : i < 12) (hk : kindT t i ≠ 2) : entsT t i = [] := by
  cases he : entsT t i with
  | nil => rfl
  | cons e l => exact absurd (h.ent (i := i) (e := e) (by rw [he]; simp)).2.1 hk
theorem all_at {t : Tre} (h12 : t.length = 12) {P : Nod → Prop} (h : ∀ i, i < 12 → P (t.getD i default)) : ∀ n ∈ t, P n := fun n hn => by
  obtain ⟨i, hi, rfl⟩ := List.mem_iff_getElem.1 hn
  have := h i (by omega)
  rwa [getD_at hi] at this
theorem named_le {t : Tre} (h12 : t.length = 12) (h : ∀ n ∈ t, n.ents.length ≤ 10) (x : Int) : namedT t x ≤ 120 := by
  have h1 := allE_len (t := t) (m := 10) h
  have h2 := List.countP_le_length (p := fun e : Ent => decide (e.node = x)) (l := allE t)
  unfold namedT; omega
/-- A name more of a new node. -/
theorem new_may {t : Tre} (hM : mayT t = true) {d i : Nat} {s : ByteArray} {k : Int} (hk : k = 1 ∨ k = 2) (hd : d < 12) (hkd : kindT t d = 2) (hi : i < 12) (hki : kindT t i = 0) (hs : mayB s = true) (hn : hasE (entsT t d) s = false) (hl : (entsT t d).length < 10) :
    mayT ((entT t d (insE (entsT t d) ⟨s, i⟩)).set i (emptyN k)) = true := by
  have hF := mayF hM
  have h12 := hF.len
  have hi0 : i ≠ 0 := fun e => by rw [e, hF.top] at hki; cases hki
  have hid : i ≠ d := fun e => by rw [e, hkd] at hki; cases hki
  have hz := zero_of hF hi hki
  have hsole : soleE ⟨s, (i : Int)⟩ = true := by
    unfold soleE
    rw [show mayB (⟨s, (i : Int)⟩ : Ent).name = true from hs, decide_eq_true (show 1 ≤ (⟨s, (i : Int)⟩ : Ent).node by show (1 : Int) ≤ i; omega), decide_eq_true (show (⟨s, (i : Int)⟩ : Ent).node < 12 by show (i : Int) < 12; omega)]; rfl
  have hL := mayN_ents (hF.at hd)
  have hL' : mayL (insE (entsT t d) ⟨s, i⟩) = true := mayL_ins hL hsole hn hl
  have hat : ∀ j, ((entT t d (insE (entsT t d) ⟨s, i⟩)).set i (emptyN k)).getD j default = if j = i then emptyN k else if j = d then { t.getD d default with ents := insE (entsT t d) ⟨s, i⟩ } else t.getD j default := by
    intro j
    rw [getD_set (by rw [entT_len]; omega)]
    by_cases hj : j = i
    · rw [if_pos hj, if_pos hj]
    · rw [if_neg hj, if_neg hj]
      unfold entT; rw [getD_set (by omega)]
  have hee : (emptyN k).ents = [] := by rcases hk with rfl | rfl <;> rfl
  have hnm : ∀ x : Int, namedT ((entT t d (insE (entsT t d) ⟨s, i⟩)).set i (emptyN k)) x = namedT t x + if (i : Int) = x then 1 else 0 := by
    intro x
    have h1 := named_set (x := x) (t := entT t d (insE (entsT t d) ⟨s, i⟩)) (k := i) (n := emptyN k) (by rw [entT_len]; omega)
    have h2 : namedT (entT t d (insE (entsT t d) ⟨s, i⟩)) x + cntE (entsT t d) x = namedT t x + cntE (insE (entsT t d) ⟨s, i⟩) x := named_set (x := x) (t := t) (k := d) (n := { t.getD d default with ents := insE (entsT t d) ⟨s, i⟩ }) (by omega)
    have h3 : cntE (insE (entsT t d) ⟨s, i⟩) x = cntE (entsT t d) x + if (i : Int) = x then 1 else 0 := cnt_ins (entsT t d) ⟨s, i⟩ x
    have h4 : entsT (entT t d (insE (entsT t d) ⟨s, i⟩)) i = [] := by rw [entT_ents (by omega), if_neg hid]; unfold entsT; rw [hz]; rfl
    rw [h4, hee] at h1
    have h5 : cntE [] x = 0 := rfl
    omega
  generalize hu : (entT t d (insE (entsT t d) ⟨s, i⟩)).set i (emptyN k) = u at *
  have hul : u.length = 12 := by rw [← hu]; simp [entT_len, h12]
  have hkj : ∀ j, j ≠ i → kindT u j = kindT t j := by
    intro j hj
    unfold kindT; rw [hat, if_neg hj]
    split
    · rename_i e; subst e; rfl
    · rfl
  have hki' : kindT u i = k := by unfold kindT; rw [hat, if_pos rfl]; rcases hk with rfl | rfl <;> rfl
  have hed : entsT u d = insE (entsT t d) ⟨s, i⟩ := by unfold entsT; rw [hat, if_neg (fun e => hid e.symm), if_pos rfl]
  have hgrow : ∀ p e, e ∈ entsT t p → ∃ e' ∈ entsT u p, e'.node = e.node := by
    intro p e he
    have hp := hF.ent he
    have hpi : p ≠ i := fun e => by rw [e, hki] at hp; exact absurd hp.2.1 (by decide)
    by_cases hpd : p = d
    · subst hpd; rw [hed]; exact ⟨e, ins_mem.2 (.inr he), rfl⟩
    · refine ⟨e, ?_, rfl⟩
      unfold entsT; rw [hat, if_neg hpi, if_neg hpd]; exact he
  refine mayT_of ⟨hul, all_at hul fun j hj => ?_, ?_, fun j hj hkj2 => ?_, fun j hj hkj1 => ?_, fun j hj hkj0 => ?_⟩ ?_
  · rw [hat]; split
    · rcases hk with rfl | rfl <;> decide
    · split
      · exact dir_mayN (hF.at hd) hkd hL'
      · exact hF.at hj
  · rw [hkj 0 (fun e => hi0 e.symm)]; exact hF.top
  · by_cases hji : j = i
    · subst hji
      have hrd := reach_grow hgrow (hF.dir d hd hkd).1
      refine ⟨?_, .inr ?_⟩
      · have := Reach.step (x := ⟨s, (j : Int)⟩) hrd (by
          show _ ∈ entsT u d
          rw [hed]; exact ins_mem.2 (.inl rfl))
        simpa using this
      · rw [hnm, if_pos rfl, hF.none j hj hki]
    · rw [hkj j hji] at hkj2
      obtain ⟨h1, h2⟩ := hF.dir j hj hkj2
      refine ⟨reach_grow hgrow h1, ?_⟩
      rw [hnm, if_neg (by omega)]; exact h2
  · by_cases hji : j = i
    · subst hji
      rw [hnm, if_pos rfl, hF.none j hj hki, hat, if_pos rfl]
      rw [hki'] at hkj1; subst hkj1; rfl
    · rw [hkj j hji] at hkj1
      have := hF.file j hj hkj1
      rw [hnm, if_neg (by omega), hat, if_neg hji]
      split
      · rename_i e; subst e; exact this
      · exact this
  · by_cases hji : j = i
    · subst hji; rw [hki'] at hkj0; rcases hk with h | h <;> omega
    · rw [hkj j hji] at hkj0
      rw [hnm, if_neg (by omega)]; exact hF.none j hj hkj0
  · rw [← hu]
    refine apart_set (apart_set (mayT_apart hM) (by omega) (List.Sublist.refl _)) (by rw [entT_len]; omega) ?_
    have : (emptyN k).seqs.filter (fun s => decide (s ≠ 0)) = [] := by rcases hk with rfl | rfl <;> rfl
    rw [this]; exact List.nil_sublist _
/-- A name less of a node with nothing in it. -/
theorem rem_may {t : Tre} (hM : mayT t = true) {d i : Nat} {s : ByteArray} {x : Ent} {held : List Bool} (hx : x ∈ entsT t d) (hs : x.name = s) (hxi : x.node = i) (hemp : entsT t i = []) :
    mayT (lessT (entT t d (cutE (entsT t d) s)) i held) = true := by
  subst hs
  have hF := mayF hM
  have h12 := hF.len
  obtain ⟨hd, hkd, hi1, hi2, _, hki⟩ := hF.ent hx
  have hi : i < 12 := by omega
  rw [hxi, Int.toNat_natCast] at hki
  have hid : i ≠ d := fun e => hF.nocycle hx (by rw [hxi, Int.toNat_natCast, e]; exact .refl)
  have hL := mayN_ents (hF.at hd)
  have hL' := mayL_cut hL x.name
  have hone : 1 ≤ namedT t (i : Int) := named_one hx hxi
  -- the node as it is behind
  obtain ⟨ni, hni, hcase⟩ : ∃ ni, lessT (entT t d (cutE (entsT t d) x.name)) i held = (entT t d (cutE (entsT t d) x.name)).set i ni ∧ ((kindT t i = 1 ∧ ni = { t.getD i default with links := (t.getD i default).links - 1 }) ∨ (ni = Nod.zero ∧ (kindT t i = 1 → (t.getD i default).links ≤ 1))) := by
    unfold lessT
    have e1 := entT_at (t := t) (l := cutE (entsT t d) x.name) hid
    unfold kindT
    rw [e1]
    split
    · rename_i h; exact ⟨_, rfl, .inl ⟨h.1, rfl⟩⟩
    · rename_i h
      refine ⟨_, rfl, .inr ⟨rfl, fun hk => ?_⟩⟩
      apply Classical.byContradiction
      intro hl
      exact h ⟨hk, .inl (by omega)⟩
  rw [hni]
  have hnie : ni.ents = [] := by
    rcases hcase with ⟨_, rfl⟩ | ⟨rfl, _⟩
    · exact hemp
    · rfl
  have hat : ∀ j, ((entT t d (cutE (entsT t d) x.name)).set i ni).getD j default = if j = i then ni else if j = d then { t.getD d default with ents := cutE (entsT t d) x.name } else t.getD j default := by
    intro j
    rw [getD_set (by rw [entT_len]; omega)]
    by_cases hj : j = i
    · rw [if_pos hj, if_pos hj]
    · rw [if_neg hj, if_neg hj]
      unfold entT; rw [getD_set (by omega)]
  have hnm : ∀ y : Int, namedT ((entT t d (cutE (entsT t d) x.name)).set i ni) y + (if (i : Int) = y then 1 else 0) = namedT t y := by
    intro y
    have h1 := named_set (x := y) (t := entT t d (cutE (entsT t d) x.name)) (k := i) (n := ni) (by rw [entT_len]; omega)
    have h2 : namedT (entT t d (cutE (entsT t d) x.name)) y + cntE (entsT t d) y = namedT t y + cntE (cutE (entsT t d) x.name) y := named_set (x := y) (t := t) (k := d) (n := { t.getD d default with ents := cutE (entsT t d) x.name }) (by omega)
    have h3 : cntE (entsT t d) y = cntE (cutE (entsT t d) x.name) y + if x.node = y then 1 else 0 := cnt_cut hL hx y
    have h4 : entsT (entT t d (cutE (entsT t d) x.name)) i = [] := by rw [entT_ents (by omega), if_neg hid]; exact hemp
    rw [h4, hnie] at h1
    have h5 : cntE [] y = 0 := rfl
    rw [hxi] at h3
    omega
  generalize hu : (entT t d (cutE (entsT t d) x.name)).set i ni = u at *
  have hul : u.length = 12 := by rw [← hu]; simp [entT_len, h12]
  have hkj : ∀ j, j ≠ i → kindT u j = kindT t j := by
    intro j hj
    unfold kindT; rw [hat, if_neg hj]
    split
    · rename_i e; subst e; rfl
    · rfl
  have hki' : kindT u i = ni.kind := by unfold kindT; rw [hat, if_pos rfl]
  have hkeep : ∀ p e, e ∈ entsT t p → ¬ (e.node.toNat = i) → ∃ e' ∈ entsT u p, e'.node = e.node := by
    intro p e he hne
    have hp := hF.ent he
    have hpi : p ≠ i := fun q => by rw [q, hemp] at he; cases he
    refine ⟨e, ?_, rfl⟩
    unfold entsT; rw [hat, if_neg hpi]
    by_cases hpd : p = d
    · subst hpd
      rw [if_pos rfl]
      exact cut_mem.2 ⟨he, fun hn => hne (by rw [ent_one hF he hx hn, hxi]; rfl)⟩
    · rw [if_neg hpd]; exact he
  have hreach : ∀ j, j ≠ i → Reach t 0 j → Reach u 0 j := fun j hj hr =>
    reach_avoid (A := fun q => q = i) hkeep hr fun q hq hr2 => by subst hq; exact hj (reach_leaf hemp hr2)
  refine mayT_of ⟨hul, all_at hul fun j hj => ?_, ?_, fun j hj hkj2 => ?_, fun j hj hkj1 => ?_, fun j hj hkj0 => ?_⟩ ?_
  · rw [hat]; split
    · rcases hcase with ⟨h1, rfl⟩ | ⟨rfl, _⟩
      · have hf := hF.file i hi h1
        have hl := file_links hM hi
        exact file_mayN (hF.at hi) h1 (by omega) (by omega)
      · decide
    · split
      · exact dir_mayN (hF.at hd) hkd hL'
      · exact hF.at hj
  · rw [hkj 0 (fun e => by have := hF.zero hx; omega)]; exact hF.top
  · by_cases hji : j = i
    · subst hji
      rw [hki'] at hkj2
      rcases hcase with ⟨h1, rfl⟩ | ⟨rfl, _⟩
      · have : kindT t j = 2 := hkj2
        omega
      · exact absurd hkj2 (by decide)
    · rw [hkj j hji] at hkj2
      obtain ⟨h1, h2⟩ := hF.dir j hj hkj2
      refine ⟨hreach j hji h1, ?_⟩
      have := hnm j
      rw [if_neg (by omega)] at this
      omega
  · by_cases hji : j = i
    · subst hji
      have h3 := hnm j
      rw [if_pos rfl] at h3
      rw [hki'] at hkj1
      rcases hcase with ⟨h1, rfl⟩ | ⟨rfl, _⟩
      · have hf := hF.file j hj h1
        rw [hat, if_pos rfl]
        show (t.getD j default).links - 1 = _
        omega
      · exact absurd hkj1 (by decide)
    · rw [hkj j hji] at hkj1
      have := hF.file j hj hkj1
      have h3 := hnm j
      rw [if_neg (by omega)] at h3
      rw [hat, if_neg hji]
      split
      · rename_i e; subst e
        show (t.getD j default).links = _
        omega
      · omega
  · have h3 := hnm j
    by_cases hji : j = i
    · subst hji
      rw [if_pos rfl] at h3
      rw [hki'] at hkj0
      rcases hcase with ⟨h1, rfl⟩ | ⟨rfl, h2⟩
      · have : kindT t j = 0 := hkj0
        omega
      · rcases kind_of (hF.at hj) with hk | hk | hk
        · exact absurd hk hki
        · have hf := hF.file j hj hk
          have := h2 hk
          omega
        · have := (hF.dir j hj hk).2
          have := hF.zero hx
          omega
    · rw [hkj j hji] at hkj0
      have := hF.none j hj hkj0
      omega
  · rw [← hu]
    refine apart_set (apart_set (mayT_apart hM) (by omega) (List.Sublist.refl _)) (by rw [entT_len]; omega) ?_
    rw [entT_at hid]
    rcases hcase with ⟨_, rfl⟩ | ⟨rfl, _⟩
    · exact List.Sublist.refl _
    · exact List.nil_sublist _
end Go.Proofs.YtoogangnldppaaaGreatDoor

/- What comes of a tree that may be may be: links, moves, drops; each call. -/
namespace Go.Proofs.YtoogangnldppaaaGreatDoor
open Go
theorem sole_of {s : ByteArray} {i : Nat} (hs : mayB s = true) (h0 : i ≠ 0) (hi : i < 12) : soleE ⟨s, (i : Int)⟩ = true := by
  unfold soleE
  rw [show mayB (⟨s, (i : Int)⟩ : Ent).name = true from hs, decide_eq_true (show 1 ≤ (⟨s, (i : Int)⟩ : Ent).node by show (1 : Int) ≤ i; omega), decide_eq_true (show (⟨s, (i : Int)⟩ : Ent).node < 12 by show (i : Int) < 12; omega)]; rfl
theorem ents_le {t : Tre} (h : MayF t) {d : Nat} {l : List Ent} (hl : l.length ≤ 10) (hd : d < 12) : ∀ n ∈ entT t d l, n.ents.length ≤ 10 :=
  all_at (by rw [entT_len, h.len]) fun j hj => by
    have := entT_ents (t := t) (d := d) (j := j) (l := l) (by rw [h.len]; exact hd)
    unfold entsT at this
    rw [this]; split
    · exact hl
    · exact mayL_len (mayN_ents (h.at hj))
/-- A name more of a file. -/
theorem link_may {t : Tre} (hM : mayT t = true) {d i : Nat} {s : ByteArray} (hd : d < 12) (hkd : kindT t d = 2) (hi : i < 12) (hki : kindT t i = 1) (hs : mayB s = true) (hn : hasE (entsT t d) s = false) (hl : (entsT t d).length < 10) :
    mayT ((entT t d (insE (entsT t d) ⟨s, i⟩)).set i { t.getD i default with links := (t.getD i default).links + 1 }) = true := by
  have hF := mayF hM
  have h12 := hF.len
  have hi0 : i ≠ 0 := fun e => by rw [e, hF.top] at hki; cases hki
  have hid : i ≠ d := fun e => by rw [e, hkd] at hki; cases hki
  have hemp := file_noents hF hi (by omega)
  have hL := mayN_ents (hF.at hd)
  have hL' : mayL (insE (entsT t d) ⟨s, i⟩) = true := mayL_ins hL (sole_of hs hi0 hi) hn hl
  have hat : ∀ j, ((entT t d (insE (entsT t d) ⟨s, i⟩)).set i { t.getD i default with links := (t.getD i default).links + 1 }).getD j default = if j = i then { t.getD i default with links := (t.getD i default).links + 1 } else if j = d then { t.getD d default with ents := insE (entsT t d) ⟨s, i⟩ } else t.getD j default := by
    intro j
    rw [getD_set (by rw [entT_len]; omega)]
    by_cases hj : j = i
    · rw [if_pos hj, if_pos hj]
    · rw [if_neg hj, if_neg hj]
      unfold entT; rw [getD_set (by omega)]
  have hnm0 : ∀ x : Int, namedT (entT t d (insE (entsT t d) ⟨s, i⟩)) x = namedT t x + if (i : Int) = x then 1 else 0 := by
    intro x
    have h2 : namedT (entT t d (insE (entsT t d) ⟨s, i⟩)) x + cntE (entsT t d) x = namedT t x + cntE (insE (entsT t d) ⟨s, i⟩) x := named_set (x := x) (t := t) (k := d) (n := { t.getD d default with ents := insE (entsT t d) ⟨s, i⟩ }) (by omega)
    have h3 : cntE (insE (entsT t d) ⟨s, i⟩) x = cntE (entsT t d) x + if (i : Int) = x then 1 else 0 := cnt_ins (entsT t d) ⟨s, i⟩ x
    omega
  have hnm : ∀ x : Int, namedT ((entT t d (insE (entsT t d) ⟨s, i⟩)).set i { t.getD i default with links := (t.getD i default).links + 1 }) x = namedT t x + if (i : Int) = x then 1 else 0 := by
    intro x
    have h1 := named_set (x := x) (t := entT t d (insE (entsT t d) ⟨s, i⟩)) (k := i) (n := { t.getD i default with links := (t.getD i default).links + 1 }) (by rw [entT_len]; omega)
    have h4 : entsT (entT t d (insE (entsT t d) ⟨s, i⟩)) i = [] := by rw [entT_ents (by omega), if_neg hid]; exact hemp
    have h5 : ({ t.getD i default with links := (t.getD i default).links + 1 } : Nod).ents = [] := hemp
    rw [h4, h5] at h1
    have h6 := hnm0 x
    omega
  have hle := named_le (t := entT t d (insE (entsT t d) ⟨s, i⟩)) (by rw [entT_len, h12]) (ents_le hF (mayL_len hL') hd) i
  rw [hnm0, if_pos rfl] at hle
  generalize hu : (entT t d (insE (entsT t d) ⟨s, i⟩)).set i { t.getD i default with links := (t.getD i default).links + 1 } = u at *
  have hul : u.length = 12 := by rw [← hu]; simp [entT_len, h12]
  have hkj : ∀ j, kindT u j = kindT t j := by
    intro j
    unfold kindT; rw [hat]
    split
    · rename_i e; subst e; rfl
    · split
      · rename_i e; subst e; rfl
      · rfl
  have hed : entsT u d = insE (entsT t d) ⟨s, i⟩ := by unfold entsT; rw [hat, if_neg (fun e => hid e.symm), if_pos rfl]
  have hgrow : ∀ p e, e ∈ entsT t p → ∃ e' ∈ entsT u p, e'.node = e.node := by
    intro p e he
    by_cases hpd : p = d
    · subst hpd; rw [hed]; exact ⟨e, ins_mem.2 (.inr he), rfl⟩
    · refine ⟨e, ?_, rfl⟩
      unfold entsT; rw [hat]
      split
      · rename_i e2; subst e2; exact he
      · exact he
  have hfi := hF.file i hi hki
  refine mayT_of ⟨hul, all_at hul fun j hj => ?_, by rw [hkj]; exact hF.top, fun j hj hkj2 => ?_, fun j hj hkj1 => ?_, fun j hj hkj0 => ?_⟩ ?_
  · rw [hat]; split
    · exact file_mayN (hF.at hi) hki (by omega) (by omega)
    · split
      · exact dir_mayN (hF.at hd) hkd hL'
      · exact hF.at hj
  · rw [hkj] at hkj2
    obtain ⟨h1, h2⟩ := hF.dir j hj hkj2
    refine ⟨reach_grow hgrow h1, ?_⟩
    have hji : j ≠ i := fun e => by rw [e, hki] at hkj2; cases hkj2
    rw [hnm, if_neg (by omega)]; exact h2
  · rw [hkj] at hkj1
    have hf := hF.file j hj hkj1
    by_cases hji : j = i
    · subst hji
      rw [hnm, if_pos rfl, hat, if_pos rfl]
      show (t.getD j default).links + 1 = _
      omega
    · rw [hnm, if_neg (by omega), hat, if_neg hji]
      split
      · rename_i e; subst e; exact hf
      · exact hf
  · rw [hkj] at hkj0
    have hji : j ≠ i := fun e => by rw [e, hki] at hkj0; cases hkj0
    rw [hnm, if_neg (by omega)]; exact hF.none j hj hkj0
  · rw [← hu]
    refine apart_set (apart_set (mayT_apart hM) (by omega) (List.Sublist.refl _)) (by rw [entT_len]; omega) ?_
    rw [entT_at hid]; exact List.Sublist.refl _
/-- A file without names goes. -/
theorem drop_may {t : Tre} (hM : mayT t = true) {i : Nat} (hi : i < 12) (hki : kindT t i = 1) (hl : (t.getD i default).links ≤ 0) : mayT (t.set i Nod.zero) = true := by
  have hF := mayF hM
  have h12 := hF.len
  have hemp := file_noents hF hi (by omega)
  have hfi := hF.file i hi hki
  have hat : ∀ j, (t.set i Nod.zero).getD j default = if j = i then Nod.zero else t.getD j default := fun j => getD_set (by omega)
  have hents : ∀ j, entsT (t.set i Nod.zero) j = entsT t j := by
    intro j
    unfold entsT; rw [hat]
    split
    · rename_i e; subst e; exact hemp.symm
    · rfl
  have hnm : ∀ x : Int, namedT (t.set i Nod.zero) x = namedT t x := by
    intro x
    have h1 := named_set (x := x) (t := t) (k := i) (n := Nod.zero) (by omega)
    rw [hemp] at h1
    have h5 : cntE Nod.zero.ents x = 0 := rfl
    have h6 : cntE [] x = 0 := rfl
    omega
  have hul : (t.set i Nod.zero).length = 12 := by simp [h12]
  refine mayT_of ⟨hul, all_at hul fun j hj => ?_, ?_, fun j hj hkj2 => ?_, fun j hj hkj1 => ?_, fun j hj hkj0 => ?_⟩ ?_
  · rw [hat]; split
    · decide
    · exact hF.at hj
  · unfold kindT; rw [hat, if_neg (fun e => by rw [← e, hF.top] at hki; cases hki)]; exact hF.top
  · have hji : j ≠ i := fun e => by subst e; unfold kindT at hkj2; rw [hat, if_pos rfl] at hkj2; cases hkj2
    have hkj2 : kindT t j = 2 := by unfold kindT at hkj2 ⊢; rw [hat, if_neg hji] at hkj2; exact hkj2
    obtain ⟨h1, h2⟩ := hF.dir j hj hkj2
    exact ⟨reach_grow (fun p e he => ⟨e, by rw [hents]; exact he, rfl⟩) h1, by rw [hnm]; exact h2⟩
  · have hji : j ≠ i := fun e => by subst e; unfold kindT at hkj1; rw [hat, if_pos rfl] at hkj1; cases hkj1
    have hkj1 : kindT t j = 1 := by unfold kindT at hkj1 ⊢; rw [hat, if_neg hji] at hkj1; exact hkj1
    rw [hat, if_neg hji, hnm]; exact hF.file j hj hkj1
  · rw [hnm]
    by_cases hji : j = i
    · subst hji; omega
    · have hkj0 : kindT t j = 0 := by unfold kindT at hkj0 ⊢; rw [hat, if_neg hji] at hkj0; exact hkj0
      exact hF.none j hj hkj0
  · exact apart_set (mayT_apart hM) (by omega) (List.nil_sublist _)
/-- A name goes from one directory into another one. -/
theorem move_may {t : Tre} (hM : mayT t = true) {d f i : Nat} {n r : ByteArray} {x : Ent} (hx : x ∈ entsT t d) (hxn : x.name = n) (hxi : x.node = i) (hf : f < 12) (hkf : kindT t f = 2) (hr : mayB r = true) (hno : ¬ Reach t i f) (hh : hasE (E1 t d n f) r = false) (hl : (E1 t d n f).length < 10) :
    mayT (entT (entT t d (cutE (entsT t d) n)) f (insE (E1 t d n f) ⟨r, i⟩)) = true := by
  subst hxn
  have hF := mayF hM
  have h12 := hF.len
  obtain ⟨hd, hkd, hi1, hi2, _, hki⟩ := hF.ent hx
  have hi : i < 12 := by omega
  rw [hxi, Int.toNat_natCast] at hki
  have hL := mayN_ents (hF.at hd)
  have hE : mayL (E1 t d x.name f) = true := by
    unfold E1; split
    · exact mayL_cut hL _
    · exact mayN_ents (hF.at hf)
  have hE' : mayL (insE (E1 t d x.name f) ⟨r, i⟩) = true := mayL_ins hE (sole_of hr (by omega) hi) hh hl
  have hat : ∀ j, (entT (entT t d (cutE (entsT t d) x.name)) f (insE (E1 t d x.name f) ⟨r, i⟩)).getD j default = if j = f then { t.getD f default with ents := insE (E1 t d x.name f) ⟨r, i⟩ } else if j = d then { t.getD d default with ents := cutE (entsT t d) x.name } else t.getD j default := by
    intro j
    by_cases hj : j = f
    · subst hj
      rw [if_pos rfl, entT_same (by rw [entT_len]; omega)]
      by_cases e : j = d
      · subst e; rw [entT_same (by omega)]
      · rw [entT_at e]
    · rw [if_neg hj, entT_at hj]
      by_cases e : j = d
      · subst e; rw [if_pos rfl, entT_same (by omega)]
      · rw [if_neg e, entT_at e]
  have hnm : ∀ y : Int, namedT (entT (entT t d (cutE (entsT t d) x.name)) f (insE (E1 t d x.name f) ⟨r, i⟩)) y = namedT t y := by
    intro y
    have h1 : namedT (entT (entT t d (cutE (entsT t d) x.name)) f (insE (E1 t d x.name f) ⟨r, i⟩)) y + cntE (entsT (entT t d (cutE (entsT t d) x.name)) f) y = namedT (entT t d (cutE (entsT t d) x.name)) y + cntE (insE (E1 t d x.name f) ⟨r, i⟩) y := named_set (x := y) (t := entT t d (cutE (entsT t d) x.name)) (k := f) (n := { (entT t d (cutE (entsT t d) x.name)).getD f default with ents := insE (E1 t d x.name f) ⟨r, i⟩ }) (by rw [entT_len]; omega)
    have h2 : namedT (entT t d (cutE (entsT t d) x.name)) y + cntE (entsT t d) y = namedT t y + cntE (cutE (entsT t d) x.name) y := named_set (x := y) (t := t) (k := d) (n := { t.getD d default with ents := cutE (entsT t d) x.name }) (by omega)
    have h3 : cntE (entsT t d) y = cntE (cutE (entsT t d) x.name) y + if x.node = y then 1 else 0 := cnt_cut hL hx y
    have h4 : cntE (insE (E1 t d x.name f) ⟨r, i⟩) y = cntE (E1 t d x.name f) y + if (i : Int) = y then 1 else 0 := cnt_ins _ _ _
    have h5 : entsT (entT t d (cutE (entsT t d) x.name)) f = E1 t d x.name f := by rw [entT_ents (by omega)]; rfl
    rw [h5] at h1
    rw [hxi] at h3
    omega
  generalize hu : entT (entT t d (cutE (entsT t d) x.name)) f (insE (E1 t d x.name f) ⟨r, i⟩) = u at *
  have hul : u.length = 12 := by rw [← hu, entT_len, entT_len, h12]
  have hkj : ∀ j, kindT u j = kindT t j := by
    intro j
    unfold kindT; rw [hat]
    split
    · rename_i e; subst e; rfl
    · split
      · rename_i e; subst e; rfl
      · rfl
  have hlk : ∀ j, (u.getD j default).links = (t.getD j default).links := by
    intro j
    rw [hat]
    split
    · rename_i e; subst e; rfl
    · split
      · rename_i e; subst e; rfl
      · rfl
  have hkeep : ∀ p e, e ∈ entsT t p → ¬ (e.node.toNat = i) → e ∈ entsT u p := by
    intro p e he hne
    have hcut : p = d → e ∈ cutE (entsT t d) x.name := fun hp => by
      subst hp
      exact cut_mem.2 ⟨he, fun hn => hne (by rw [ent_one hF he hx hn, hxi]; rfl)⟩
    unfold entsT; rw [hat]
    split
    · rename_i e2; subst e2
      refine ins_mem.2 (.inr ?_)
      unfold E1; split
      · rename_i e3; exact hcut e3
      · exact he
    · split
      · rename_i e3; exact hcut e3
      · exact he
  have hnew : (⟨r, (i : Int)⟩ : Ent) ∈ entsT u f := by
    unfold entsT; rw [hat, if_pos rfl]; exact ins_mem.2 (.inl rfl)
  have hav : ∀ j, ¬ Reach t i j → Reach t 0 j → Reach u 0 j := fun j hj hr2 =>
    reach_avoid (A := fun q => q = i) (fun p e he hne => ⟨e, hkeep p e he hne, rfl⟩) hr2 fun q hq hr3 => by subst hq; exact hj hr3
  have hrf := hav f hno (hF.dir f hf hkf).1
  have hri : Reach u 0 i := by
    have := Reach.step (x := ⟨r, (i : Int)⟩) hrf hnew
    simpa using this
  have hin : ∀ j, Reach t i j → Reach u i j := by
    intro j hr2
    induction hr2 with
    | refl => exact .refl
    | @step p e hp he ih =>
      refine .step ih (hkeep p e he fun h => ?_)
      exact hF.nocycle he (by rw [h]; exact hp)
  have hreach : ∀ j, Reach t 0 j → Reach u 0 j := fun j hr2 => by
    by_cases hj : Reach t i j
    · exact hri.trans (hin j hj)
    · exact hav j hj hr2
  refine mayT_of ⟨hul, all_at hul fun j hj => ?_, by rw [hkj]; exact hF.top, fun j hj hkj2 => ?_, fun j hj hkj1 => ?_, fun j hj hkj0 => ?_⟩ ?_
  · rw [hat]; split
    · exact dir_mayN (hF.at hf) hkf hE'
    · split
      · exact dir_mayN (hF.at hd) hkd (mayL_cut hL _)
      · exact hF.at hj
  · rw [hkj] at hkj2
    obtain ⟨h1, h2⟩ := hF.dir j hj hkj2
    exact ⟨hreach j h1, by rw [hnm]; exact h2⟩
  · rw [hkj] at hkj1
    rw [hlk, hnm]; exact hF.file j hj hkj1
  · rw [hkj] at hkj0
    rw [hnm]; exact hF.none j hj hkj0
  · rw [← hu]
    exact apart_set (apart_set (mayT_apart hM) (by omega) (List.Sublist.refl _)) (by rw [entT_len]; omega) (List.Sublist.refl _)
/-! ### each call -/
theorem makes_may {t u : Tre} {p : ByteArray} {k : Int} (hk : k = 1 ∨ k = 2) (h : makesT t p k = .ok u) : mayT u = true := by
  unfold makesT at h
  cases hq : parentT t p with
  | error e => rw [hq] at h; cases h
  | ok q =>
    obtain ⟨d, s⟩ := q
    obtain ⟨ld, P⟩ := par_of hq
    rw [hq] at h
    dsimp only at h
    by_cases h0 : 0 ≤ atI (entsT t d) s
    · rw [if_pos h0] at h; cases h
    by_cases h1 : freeT t < 0
    · rw [if_neg h0, if_pos h1] at h; cases h
    by_cases h2 : 10 ≤ (entsT t d).length
    · rw [if_neg h0, if_neg h1, if_pos h2] at h; cases h
    rw [if_neg h0, if_neg h1, if_neg h2] at h
    cases h
    obtain ⟨f1, f2, f3⟩ : 1 ≤ freeT t ∧ freeT t < 12 ∧ kindT t (freeT t).toNat = 0 := by
      rcases free_spec P.may with h | h
      · omega
      · exact h
    have := new_may P.may hk P.d12 P.kind (i := (freeT t).toNat) (by omega) f3 P.sole (by rw [has_of_at P, decide_eq_false h0]) (by omega)
    rwa [show (((freeT t).toNat : Nat) : Int) = freeT t by omega] at this
theorem unlink_may {t u : Tre} {p : ByteArray} {held : List Bool} (h : unlinkT t p held = .ok u) : mayT u = true := by
  unfold unlinkT at h
  cases hq : parentT t p with
  | error e => rw [hq] at h; cases h
  | ok q =>
    obtain ⟨d, s⟩ := q
    obtain ⟨ld, P⟩ := par_of hq
    rw [hq] at h
    dsimp only at h
    by_cases h0 : atI (entsT t d) s < 0
    · rw [if_pos h0] at h; cases h
    by_cases h1 : kindT t (atI (entsT t d) s).toNat = 2
    · rw [if_neg h0, if_pos h1] at h; cases h
    rw [if_neg h0, if_neg h1] at h
    cases h
    obtain ⟨_, k1, k2, _, x, hx, hxn, hxi⟩ := at_kind P.may h0
    exact rem_may P.may hx hxn (by omega) (file_noents (mayF P.may) (by omega) h1)
theorem rmdir_may {t u : Tre} {p : ByteArray} (h : rmdirT t p = .ok u) : mayT u = true := by
  unfold rmdirT at h
  cases hq : parentT t p with
  | error e => rw [hq] at h; cases h
  | ok q =>
    obtain ⟨d, s⟩ := q
    obtain ⟨ld, P⟩ := par_of hq
    rw [hq] at h
    dsimp only at h
    by_cases h0 : atI (entsT t d) s < 0
    · rw [if_pos h0] at h; cases h
    by_cases h1 : kindT t (atI (entsT t d) s).toNat ≠ 2
    · rw [if_neg h0, if_pos h1] at h; cases h
    by_cases h2 : 0 < (entsT t (atI (entsT t d) s).toNat).length
    · rw [if_neg h0, if_neg h1, if_pos h2] at h; cases h
    rw [if_neg h0, if_neg h1, if_neg h2] at h
    cases h
    obtain ⟨_, k1, k2, _, x, hx, hxn, hxi⟩ := at_kind P.may h0
    have h3 := rem_may (held := []) P.may hx hxn (i := (atI (entsT t d) s).toNat) (by omega) (List.eq_nil_of_length_eq_zero (by omega))
    have hne := cutd_self P.may h0
    have e2 : lessT (entT t d (cutE (entsT t d) s)) (atI (entsT t d) s).toNat [] = (entT t d (cutE (entsT t d) s)).set (atI (entsT t d) s).toNat Nod.zero := by
      unfold lessT
      rw [if_neg]
      rintro ⟨h, _⟩
      have h1 : kindT t (atI (entsT t d) s).toNat = 2 := Classical.byContradiction h1
      unfold kindT at h h1
      rw [entT_at hne] at h; omega
    rwa [e2] at h3
theorem link_mayT {t u : Tre} {p q : ByteArray} (h : linkT t p q = .ok u) : mayT u = true := by
  unfold linkT at h
  cases hf : findT t p with
  | error e => rw [hf] at h; cases h
  | ok i =>
    have hi := findT_range hf
    have hM : mayT t = true := by unfold findT at hf; split at hf; assumption; cases hf
    rw [hf] at h
    dsimp only at h
    by_cases hk : kindT t i = 2
    · rw [if_pos hk] at h; cases h
    rw [if_neg hk] at h
    cases hr : parentT t q with
    | error e => rw [hr] at h; cases h
    | ok z =>
      obtain ⟨d, s⟩ := z
      obtain ⟨ld, P⟩ := par_of hr
      rw [hr] at h
      dsimp only at h
      by_cases h0 : 0 ≤ atI (entsT t d) s
      · rw [if_pos h0] at h; cases h
      by_cases h2 : 10 ≤ (entsT t d).length
      · rw [if_neg h0, if_pos h2] at h; cases h
      rw [if_neg h0, if_neg h2] at h
      cases h
      -- what is found is there
      have hk1 : kindT t i = 1 := by
        have hF := mayF hM
        rcases kind_of (hF.at hi) with h | h | h
        · exfalso
          unfold findT at hf
          rw [if_pos hM] at hf
          split at hf
          · cases hf
          · rename_i l hl
            rcases nil_or_snoc l with rfl | ⟨m, n, rfl⟩
            · cases hf
              have := hF.top
              have h : kindT t 0 = 0 := h
              omega
            · obtain ⟨p, _, hg⟩ := (goF_snoc t n m 0 i).1 hf
              obtain ⟨_, e, he, _, h2⟩ := goF_one hg
              have := (hF.ent he).2.2.2.2.2
              rw [h2] at this
              exact this h
        · exact h
        · exact absurd h hk
      exact link_may hM P.d12 P.kind hi hk1 P.sole (by rw [has_of_at P, decide_eq_false h0]) (by omega)
end Go.Proofs.YtoogangnldppaaaGreatDoor

/- What comes of a tree that may be may be: renames. -/
namespace Go.Proofs.YtoogangnldppaaaGreatDoor
open Go
def lessN (n : Nod) (b : Bool) : Nod := if n.kind = 1 ∧ (0 < n.links - 1 ∨ b = true) then { n with links := n.links - 1 } else Nod.zero
theorem lessT_get {t : Tre} {i j : Nat} {held : List Bool} (hi : i < t.length) : (lessT t i held).getD j default = if j = i then lessN (t.getD i default) (heldB held i) else t.getD j default := by
  have e : lessT t i held = t.set i (lessN (t.getD i default) (heldB held i)) := by
    unfold lessT lessN kindT
    by_cases h : (t.getD i default).kind = 1 ∧ (0 < (t.getD i default).links - 1 ∨ heldB held i = true)
    · rw [if_pos h, if_pos h]
    · rw [if_neg h, if_neg h]
  rw [e, getD_set hi]
theorem entT_get {t : Tre} {d j : Nat} {l : List Ent} (hd : d < t.length) : (entT t d l).getD j default = if j = d then { t.getD d default with ents := l } else t.getD j default := getD_set hd
theorem ext_getD {t u : Tre} (hl : t.length = u.length) (h : ∀ j, j < t.length → t.getD j default = u.getD j default) : t = u := by
  apply List.ext_getElem hl
  intro j h1 h2
  have := h j h1
  rwa [getD_at h1, getD_at h2] at this
theorem cut_comm (l : List Ent) (a b : ByteArray) : cutE (cutE l a) b = cutE (cutE l b) a := by
  unfold cutE; rw [List.filter_filter, List.filter_filter]
  congr 1; funext e; exact Bool.and_comm _ _
/-- What a rename knows behind its checks. -/
structure Ren (t : Tre) (p q : ByteArray) (held : List Bool) (u : Tre) (d : Nat) (n : ByteArray) (ld : List ByteArray) (f : Nat) (r : ByteArray) (lf : List ByteArray) (i : Nat) : Prop where
  P : Par t p ld d n
  Q : Par t q lf f r
  hi : atI (entsT t d) n = i
  ne : atI (entsT t f) r ≠ i
  out : insideT t i f = false
  rep : 0 ≤ atI (entsT t f) r → replN (t.getD i default) (t.getD (atI (entsT t f) r).toNat default) = 0
  room : (entsT (moveT t d n i f r (atI (entsT t f) r) held) f).length < 10
  eq : u = entT (moveT t d n i f r (atI (entsT t f) r) held) f (insE (entsT (moveT t d n i f r (atI (entsT t f) r) held) f) ⟨r, i⟩)
theorem ren_of {t u : Tre} {p q : ByteArray} {held : List Bool} (h : renameT t p q held = .ok u) : (u = t ∧ ∃ ld d n lf f r, Par t p ld d n ∧ Par t q lf f r ∧ 0 ≤ atI (entsT t d) n ∧ atI (entsT t f) r = atI (entsT t d) n) ∨ ∃ d n ld f r lf i, Ren t p q held u d n ld f r lf i := by
  unfold renameT at h
  cases hP : parentT t p with
  | error e => rw [hP] at h; cases h
  | ok z =>
    obtain ⟨d, n⟩ := z
    obtain ⟨ld, P⟩ := par_of hP
    rw [hP] at h
    dsimp only at h
    by_cases h0 : atI (entsT t d) n < 0
    · rw [if_pos h0] at h; cases h
    rw [if_neg h0] at h
    cases hQ : parentT t q with
    | error e => rw [hQ] at h; cases h
    | ok z =>
      obtain ⟨f, r⟩ := z
      obtain ⟨lf, Q⟩ := par_of hQ
      rw [hQ] at h
      dsimp only at h
      by_cases h1 : atI (entsT t f) r = atI (entsT t d) n
      · rw [if_pos h1] at h; cases h
        exact .inl ⟨rfl, ld, d, n, lf, f, r, P, Q, by omega, h1⟩
      rw [if_neg h1] at h
      obtain ⟨i, hi⟩ : ∃ i : Nat, atI (entsT t d) n = i := ⟨(atI (entsT t d) n).toNat, by omega⟩
      rw [hi] at h h1
      by_cases h2 : insideT t i f = true
      · rw [if_pos h2] at h; cases h
      rw [if_neg h2] at h
      by_cases h3 : 0 ≤ atI (entsT t f) r ∧ replN (t.getD ((i : Int)).toNat default) (t.getD (atI (entsT t f) r).toNat default) ≠ 0
      · rw [if_pos h3] at h; cases h
      rw [if_neg h3] at h
      rw [Int.toNat_natCast] at h h3
      by_cases h4 : 10 ≤ (entsT (moveT t d n i f r (atI (entsT t f) r) held) f).length
      · rw [if_pos h4] at h; cases h
      rw [if_neg h4] at h
      cases h
      refine .inr ⟨d, n, ld, f, r, lf, i, P, Q, hi, h1, by simpa using h2, fun hk => ?_, by omega, rfl⟩
      apply Classical.byContradiction
      intro hc
      exact h3 ⟨hk, hc⟩
section
variable {t u : Tre} {p q n r : ByteArray} {held : List Bool} {d f i : Nat} {ld lf : List ByteArray}
theorem Ren.ent (R : Ren t p q held u d n ld f r lf i) : i ≠ 0 ∧ i < 12 ∧ kindT t i ≠ 0 ∧ ∃ x ∈ entsT t d, x.name = n ∧ x.node = i := by
  obtain ⟨_, k1, k2, k3, x, hx, hxn, hxi⟩ := at_kind R.P.may (d := d) (s := n) (by rw [R.hi]; omega)
  rw [R.hi] at k1 k2 k3 hxi
  exact ⟨by omega, by omega, by rwa [Int.toNat_natCast] at k3, x, hx, hxn, hxi⟩
theorem Ren.no (R : Ren t p q held u d n ld f r lf i) : ¬ Reach t i f := by
  intro hr
  obtain ⟨_, hi, hk, _⟩ := R.ent
  have h := insideT_iff R.P.may hi R.Q.d12
  rw [R.out, metB_iff.2 hr, Bool.and_true] at h
  have hk2 : kindT t i ≠ 2 := of_decide_eq_false h.symm
  have hF := mayF R.P.may
  have := reach_leaf (file_noents hF hi hk2) hr
  subst this
  exact hk2 R.Q.kind
/-- Who stands where it goes: in it there is nothing. -/
theorem Ren.old (R : Ren t p q held u d n ld f r lf i) (hk : 0 ≤ atI (entsT t f) r) : ∃ k : Nat, atI (entsT t f) r = k ∧ k ≠ 0 ∧ k < 12 ∧ k ≠ f ∧ k ≠ d ∧ k ≠ i ∧ entsT t k = [] ∧ (t.getD k default).kind = (t.getD i default).kind ∧ (kindT t k = 1 ∨ kindT t k = 2) ∧ ∃ y ∈ entsT t f, y.name = r ∧ y.node = k := by
  have hF := mayF R.P.may
  obtain ⟨_, k1, k2, k3, y, hy, hyn, hyi⟩ := at_kind R.Q.may (d := f) (s := r) (by omega)
  obtain ⟨hi0, hi, hik, x, hx, hxn, hxi⟩ := R.ent
  have hrep := R.rep hk
  have hne := R.ne
  have hkf := cutd_self R.Q.may (d := f) (s := r) (by omega)
  obtain ⟨k, hk'⟩ : ∃ k : Nat, atI (entsT t f) r = k := ⟨(atI (entsT t f) r).toNat, by omega⟩
  rw [hk'] at k1 k2 k3 hyi hrep hne hkf
  rw [Int.toNat_natCast] at k3 hrep hkf
  have hkind : (t.getD k default).kind = (t.getD i default).kind ∧ (t.getD k default).ents = [] := by
    unfold replN at hrep
    have a1 := kind_of (hF.at (i := k) (by omega))
    have a2 := kind_of (hF.at hi)
    have hk0 : (t.getD k default).kind ≠ 0 := k3
    have hi0 : (t.getD i default).kind ≠ 0 := hik
    by_cases b1 : (t.getD i default).kind = 2 ∧ (t.getD k default).kind ≠ 2
    · rw [if_pos b1] at hrep; cases hrep
    by_cases b2 : (t.getD i default).kind ≠ 2 ∧ (t.getD k default).kind = 2
    · rw [if_neg b1, if_pos b2] at hrep; cases hrep
    by_cases b3 : 0 < (t.getD k default).ents.length
    · rw [if_neg b1, if_neg b2, if_pos b3] at hrep; cases hrep
    exact ⟨by omega, List.eq_nil_of_length_eq_zero (by omega)⟩
  refine ⟨k, hk', by omega, by omega, hkf, fun e => ?_, by omega, hkind.2, hkind.1, ?_, y, hy, hyn, hyi⟩
  · subst e
    unfold entsT at hx
    rw [hkind.2] at hx; cases hx
  · rcases kind_of (hF.at (i := k) (by omega)) with h | h | h
    · exact absurd h k3
    · exact .inl h
    · exact .inr h
/-- The tree without who stood there. -/
def remT (t : Tre) (f : Nat) (r : ByteArray) (k : Nat) (held : List Bool) : Tre := lessT (entT t f (cutE (entsT t f) r)) k held
theorem Ren.rem (R : Ren t p q held u d n ld f r lf i) {k : Nat} (hk : atI (entsT t f) r = k) : mayT (remT t f r k held) = true ∧ moveT t d n i f r k held = entT (remT t f r k held) d (cutE (entsT (remT t f r k held) d) n) ∧ (∀ j, (remT t f r k held).getD j default = if j = k then lessN (t.getD k default) (heldB held k) else if j = f then { t.getD f default with ents := cutE (entsT t f) r } else t.getD j default) := by
  obtain ⟨k', hk', hk0, hk12, hkf, hkd, hki, hemp, _, _, y, hy, hyn, hyi⟩ := R.old (by omega)
  have : k' = k := by omega
  subst this
  have h12 := (mayT_all R.P.may).1
  have hf := R.Q.d12; have hd := R.P.d12
  have hget : ∀ j, (remT t f r k' held).getD j default = if j = k' then lessN (t.getD k' default) (heldB held k') else if j = f then { t.getD f default with ents := cutE (entsT t f) r } else t.getD j default := by
    intro j
    unfold remT
    rw [lessT_get (by rw [entT_len]; omega), entT_get (by omega), if_neg hkf, entT_get (by omega)]
  have hents : ∀ j, entsT (remT t f r k' held) j = if j = f then cutE (entsT t f) r else if j = k' then [] else entsT t j := by
    intro j
    unfold entsT; rw [hget]
    by_cases h1 : j = k'
    · subst h1
      rw [if_pos rfl, if_neg hkf, if_pos rfl]
      unfold lessN; split
      · exact hemp
      · rfl
    · rw [if_neg h1]
      by_cases h2 : j = f
      · rw [if_pos h2, if_pos h2]
      · rw [if_neg h2, if_neg h2, if_neg h1]
  have hlen : (remT t f r k' held).length = 12 := by unfold remT; rw [lessT_len, entT_len, h12]
  refine ⟨rem_may R.P.may hy hyn hyi hemp, ?_, hget⟩
  unfold moveT
  rw [if_pos (by omega), Int.toNat_natCast]
  refine ext_getD (by rw [lessT_len, entT_len, entT_len, entT_len, hlen, h12]) fun j _ => ?_
  rw [lessT_get (by rw [entT_len, entT_len]; omega), entT_get (by rw [entT_len]; omega), if_neg hkf, entT_get (by omega), if_neg hkd, entT_get (by rw [entT_len]; omega), entT_get (by omega), entT_get (by omega), entT_get (by omega), hget, hget, hents]
  by_cases h1 : j = k'
  · subst h1; rw [if_pos rfl, if_neg hkd, if_pos rfl]
  rw [if_neg h1, if_neg h1]
  by_cases h2 : j = f
  · subst h2
    rw [if_pos rfl, if_pos rfl]
    by_cases h3 : j = d
    · subst h3
      rw [if_pos rfl, if_pos rfl, if_neg h1, if_pos rfl, if_pos rfl, entT_ents (by omega), if_pos rfl, cut_comm]
    · rw [if_neg h3, if_neg h3, entT_ents (by omega), if_neg h3]
  · rw [if_neg h2, if_neg h2]
    by_cases h3 : j = d
    · subst h3
      rw [if_pos rfl, if_pos rfl, if_neg h1, if_neg h2, if_neg h2, if_neg h1]
    · rw [if_neg h3, if_neg h3]
theorem Ren.may (R : Ren t p q held u d n ld f r lf i) : mayT u = true := by
  obtain ⟨hi0, hi, hik, x, hx, hxn, hxi⟩ := R.ent
  have hF := mayF R.P.may
  have h12 := hF.len
  have hf := R.Q.d12; have hd := R.P.d12
  have hroom := R.room
  rw [R.eq]
  by_cases hk : 0 ≤ atI (entsT t f) r
  · obtain ⟨k, hk', hk0, hk12, hkf, hkd, hki, hemp, _, _, y, hy, hyn, hyi⟩ := R.old hk
    obtain ⟨hM1, hmv, hget⟩ := R.rem hk'
    rw [hk'] at hroom ⊢
    rw [hmv] at hroom ⊢
    generalize hT : remT t f r k held = t1 at *
    have hF1 := mayF hM1
    have hents1 : ∀ j, entsT t1 j = if j = f then cutE (entsT t f) r else if j = k then [] else entsT t j := by
      intro j
      unfold entsT; rw [hget]
      by_cases h1 : j = k
      · subst h1
        rw [if_pos rfl, if_neg hkf, if_pos rfl]
        unfold lessN; split
        · exact hemp
        · rfl
      · rw [if_neg h1]
        by_cases h2 : j = f
        · rw [if_pos h2, if_pos h2]
        · rw [if_neg h2, if_neg h2, if_neg h1]
    have hE1 : entsT (entT t1 d (cutE (entsT t1 d) n)) f = E1 t1 d n f := by rw [entT_ents (by rw [hF1.len]; omega)]; rfl
    rw [hE1] at hroom ⊢
    have hx1 : x ∈ entsT t1 d := by
      rw [hents1]
      by_cases h1 : d = f
      · subst h1
        rw [if_pos rfl]
        refine cut_mem.2 ⟨hx, fun e => hki ?_⟩
        have := ent_one hF hx hy (by rw [e, hyn])
        rw [this, hyi] at hxi; omega
      · rw [if_neg h1, if_neg (fun e => hkd e.symm)]; exact hx
    refine move_may hM1 hx1 hxn hxi hf ?_ R.Q.sole ?_ ?_ hroom
    · unfold kindT; rw [hget, if_neg (fun e => hkf e.symm), if_pos rfl]; exact R.Q.kind
    · intro hr
      refine R.no (reach_grow (fun p e he => ⟨e, ?_, rfl⟩) hr)
      rw [hents1] at he
      by_cases h1 : p = f
      · subst h1; rw [if_pos rfl] at he; exact (cut_mem.1 he).1
      · rw [if_neg h1] at he
        by_cases h2 : p = k
        · rw [if_pos h2] at he; cases he
        · rw [if_neg h2] at he; exact he
    · unfold E1
      by_cases h1 : f = d
      · rw [if_pos h1, hents1, if_pos h1.symm]
        refine has_false.2 fun e he => ?_
        have := (cut_mem.1 he).1
        exact (cut_mem.1 this).2
      · rw [if_neg h1, hents1, if_pos rfl]; exact cut_has _ _
  · have hmv : moveT t d n i f r (atI (entsT t f) r) held = entT t d (cutE (entsT t d) n) := by unfold moveT; rw [if_neg hk]
    rw [hmv] at hroom ⊢
    have hE1 : entsT (entT t d (cutE (entsT t d) n)) f = E1 t d n f := by rw [entT_ents (by omega)]; rfl
    rw [hE1] at hroom ⊢
    have hne := R.ne
    exact move_may R.P.may hx hxn hxi hf R.Q.kind R.Q.sole R.no (by rw [E1_has R.P R.Q (by rw [R.hi]; exact hne), decide_eq_false hk]) hroom
end
theorem rename_may {t u : Tre} {p q : ByteArray} {held : List Bool} (h : renameT t p q held = .ok u) : mayT u = true := by
  rcases ren_of h with ⟨rfl, _, _, _, _, _, _, P, _⟩ | ⟨d, n, ld, f, r, lf, i, R⟩
  · exact P.may
  · exact R.may
end Go.Proofs.YtoogangnldppaaaGreatDoor
