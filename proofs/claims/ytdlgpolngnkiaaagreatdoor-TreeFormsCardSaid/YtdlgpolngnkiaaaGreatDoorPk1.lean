/- Texts joined: Rules, Rep, Row, Shelf, PathLaw, Lib, Gen. -/
import Derived.Test.YtdlgpolngnkiaaaGreatDoorSoundC
import Derived.Test.YtdlgpolngnkiaaaGreatDoorChecked
import Derived.ChangeStays
import Derived.ChangeBook
import Derived.ProofKit
import Derived.HandedShaped
import Derived.RowKit
import Derived.ChangeShapes
import Derived.WideShapes
import Derived.Below
import Derived.Shelf.Strings.Builder1
import Derived.Shelf.Strings.Builder2
import Derived.Shelf.Strings.OnBuilder
import Derived.Shelf.Small.Wraps
import Derived.Shelf.Utf8.RuneCount
import Derived.Shelf.Strings.Search1
import Derived.Shelf.Strings.Search2
import Derived.Shelf.Strings.Search3
import Derived.Shelf.Strings.Count
import Derived.Shelf.LaysM
import Derived.Shelf.Strings.Shaped
import Derived.Shelf.Strings.Prefix
import Derived.Shelf.Strings.Split
import Derived.Shelf.Strings.SplitShaped
import Derived.Shelf.Unicode.Decode
import Derived.Shelf.Strings.RuneCount
import Derived.Shelf.Strings.Explode
import Derived.Shelf.Unicode.DecodeSlow
import Derived.Shelf.Unicode.DecodeAny
import Derived.Shelf.Slices.Equal
import Derived.Ground.Names2Prog
import Derived.Shelf.Slices.Clone
import Derived.Ground.SlgnProg
import Derived.Shelf.SlicesE.Clone
import Derived.Test.YtdlgpolngnkiaaaGreatDoorProg
import Derived.Lib.SplitLaws
import Derived.Lib.Join
import Derived.KernelRfl
/- Rules for what the executor asks. -/
namespace Go.Proofs.YtdlgpolngnkiaaaGreatDoor
open Go
/-- Rounds by an invariant and a measure. -/
theorem loopP_inv {ks : List K} {F : CurF (CurP ks → Prop) ks} {s : Ty ks} {V : View} (I : Ty ks → View → Prop) (m : Ty ks → View → Nat) (h0 : I s V)
    (step : ∀ s V, I s V → uncF ks F s V (cur ks fun s' V' => I s' V' ∧ m s' V' < m s V)) : loopP ks F s V := by
  intro Q hQ
  have key : ∀ n s V, m s V = n → I s V → Q s V := by
    intro n
    induction n using Nat.strongRecOn with
    | _ n ih =>
      intro s V hm hi
      exact hQ s V ⟨_, fun s' V' h => ih _ (by rw [← hm]; exact h.2) s' V' rfl h.1, step s V hi⟩
  exact key _ s V rfl h0
/-- One number goes round. -/
theorem loop1 [DrK] {k : K} {F : k.ty → View → (k.ty → View → Prop) → Prop} {x : k.ty} {V : View} (I : k.ty → View → Prop) (m : k.ty → View → Nat) (h0 : I x V)
    (step : ∀ x V, I x V → F x V fun x' V' => I x' V' ∧ m x' V' < m x V) : loopP [k] F (x, ()) V :=
  loopP_inv (fun s V => I s.1 V) (fun s V => m s.1 V) h0 fun s V h => step s.1 V h
theorem loop0 [DrK] {F : View → (View → Prop) → Prop} {V : View} (I : View → Prop) (m : View → Nat) (h0 : I V)
    (step : ∀ V, I V → F V fun V' => I V' ∧ m V' < m V) : loopP [] F () V :=
  loopP_inv (fun _ V => I V) (fun _ V => m V) h0 fun _ V h => step V h
theorem loop2 [DrK] {k l : K} {F : k.ty → l.ty → View → (k.ty → l.ty → View → Prop) → Prop} {x : k.ty} {y : l.ty} {V : View} (I : k.ty → l.ty → View → Prop) (m : k.ty → l.ty → View → Nat) (h0 : I x y V)
    (step : ∀ x y V, I x y V → F x y V fun x' y' V' => I x' y' V' ∧ m x' y' V' < m x y V) : loopP [k, l] F (x, y, ()) V :=
  loopP_inv (fun s V => I s.1 s.2.1 V) (fun s V => m s.1 s.2.1 V) h0 fun s V h => step s.1 s.2.1 V h
theorem loop3 [DrK] {k l n : K} {F : k.ty → l.ty → n.ty → View → (k.ty → l.ty → n.ty → View → Prop) → Prop} {x : k.ty} {y : l.ty} {z : n.ty} {V : View} (I : k.ty → l.ty → n.ty → View → Prop) (m : k.ty → l.ty → n.ty → View → Nat) (h0 : I x y z V)
    (step : ∀ x y z V, I x y z V → F x y z V fun x' y' z' V' => I x' y' z' V' ∧ m x' y' z' V' < m x y z V) : loopP [k, l, n] F (x, y, z, ()) V :=
  loopP_inv (fun s V => I s.1 s.2.1 s.2.2.1 V) (fun s V => m s.1 s.2.1 s.2.2.1 V) h0 fun s V h => step s.1 s.2.1 s.2.2.1 V h
@[simp] theorem br_true (A B : Prop) : br true A B = A := rfl
@[simp] theorem br_false (A B : Prop) : br false A B = B := rfl
theorem br_intro {g : Bool} {A B : Prop} (h1 : g = true → A) (h2 : g = false → B) : br g A B := by
  cases g
  · exact h2 rfl
  · exact h1 rfl
/-- Ways meet with what J says. -/
theorem joinP_cut {ks : List K} {body : CurP ks → Prop} {k : CurP ks} (J : Ty ks → View → Prop) (h : body (cur ks J)) (h2 : ∀ s V, J s V → unc ks k s V) : joinP ks body k := ⟨J, h, h2⟩
/-- At the end: a call of a view's function is a call in its world. -/
theorem CallV.at [DrK] {P : Program} {f : FuncId} {args : Array Value} {V : View} {K : Value → View → Prop} (h : CallV P f args V K) {w : World} (hw : V.In w) :
    Calls P f args w fun e w' => ∃ r V', e = .returned r ∧ V'.In w' ∧ Fr V w V' w' ∧ K r V' := h.2 w hw
end Go.Proofs.YtdlgpolngnkiaaaGreatDoor

/- How data lie in a view; what a call made lies apart from the rest (frames); rows that grow. -/
namespace Go.Proofs.YtdlgpolngnkiaaaGreatDoor
open Go

/-! ### frames -/
/-- A call that needs U alone leaves what V sees beside U as it was. -/
theorem CallV.frameS {P : Program} {f : FuncId} {args : Array Value} {U V : View} {K : Value → View → Prop} (hU : U.Le V) (h : CallV P f args U K) :
    CallV P f args V fun r V' => ∃ U', K r U' ∧ U'.Le V' ∧ V.size ≤ V'.size ∧ (∀ i o, U.see i = none → V.see i = some o → V'.see i = some o ∧ U'.see i = none) := by
  refine ⟨h.1, fun w hw => (h.2 w (hU.In hw)).mono fun e w' ⟨r, U', he, hi, hf, hr⟩ => ?_⟩
  have hlt : ∀ i o, V.see i = some o → i < w.heap.size := fun i o ho => Nat.lt_of_lt_of_le (V.lt i o ho) hw.size
  let V' : View := ⟨max U'.size V.size, fun i => match U'.see i with
    | some o => some o
    | none => match U.see i with
      | some _ => none
      | none => V.see i, U'.out, fun i o ho => by
        cases h1 : U'.see i with
        | some o1 => have := U'.lt i o1 h1; omega
        | none =>
          simp only [h1] at ho
          cases h2 : U.see i with
          | some o2 => simp [h2] at ho
          | none => simp only [h2] at ho; have := V.lt i o ho; omega⟩
  refine ⟨r, V', he, ⟨?_, ?_, hi.out⟩, ⟨hf.size, ?_, hf.drawn⟩, U', hr, ⟨Nat.le_max_left _ _, ?_, rfl⟩, Nat.le_max_right _ _, ?_⟩
  · have h1 := hi.size; have h2 := hw.size; have h3 := hf.size
    show max U'.size V.size ≤ _
    omega
  · intro i o ho
    change (match U'.see i with
      | some o => some o
      | none => match U.see i with
        | some _ => none
        | none => V.see i) = some o at ho
    cases h1 : U'.see i with
    | some o1 => rw [h1] at ho; exact hi.see i o (by rw [h1]; exact ho)
    | none =>
      rw [h1] at ho
      cases h2 : U.see i with
      | some o2 => rw [h2] at ho; cases ho
      | none =>
        rw [h2] at ho
        have hl := hlt i o ho
        rw [(hf.hid i hl h2).2]
        exact hw.see i o ho
  · intro i hl hn
    have h2 : U.see i = none := by
      cases h2 : U.see i with
      | none => rfl
      | some o => rw [hU.see i o h2] at hn; cases hn
    have h3 := hf.hid i hl h2
    refine ⟨?_, h3.2⟩
    show (match U'.see i with
      | some o => some o
      | none => match U.see i with
        | some _ => none
        | none => V.see i) = none
    rw [h3.1, h2]; exact hn
  · intro i o ho
    show (match U'.see i with
      | some o => some o
      | none => match U.see i with
        | some _ => none
        | none => V.see i) = some o
    rw [ho]
  · intro i o h2 ho
    have h3 := hf.hid i (hlt i o ho) h2
    refine ⟨?_, h3.1⟩
    show (match U'.see i with
      | some o => some o
      | none => match U.see i with
        | some _ => none
        | none => V.see i) = some o
    rw [h3.1, h2]; exact ho

theorem CallV.frame {P : Program} {f : FuncId} {args : Array Value} {U V : View} {K : Value → View → Prop} (hU : U.Le V) (h : CallV P f args U K) :
    CallV P f args V fun r V' => ∃ U', K r U' ∧ U'.Le V' ∧ (∀ i o, U.see i = none → V.see i = some o → V'.see i = some o ∧ U'.see i = none) :=
  (CallV.frameS hU h).mono fun _ _ ⟨U', a, b, _, c⟩ => ⟨U', a, b, c⟩
/-- A call that only adds to what it needs only adds to what is seen. -/
theorem CallV.frameG {P : Program} {f : FuncId} {args : Array Value} {U V : View} {K : Value → View → Prop} (hU : U.Le V) (h : CallV P f args U fun r U' => K r U' ∧ U.Le U') :
    CallV P f args V fun r V' => ∃ U', K r U' ∧ U.Le U' ∧ U'.Le V' ∧ V.Le V' ∧ (∀ i o, U.see i = none → V.see i = some o → U'.see i = none) := by
  refine (CallV.frameS hU h).mono ?_
  rintro r V' ⟨U', ⟨hk, hle⟩, h2, h3, h4⟩
  refine ⟨U', hk, hle, h2, ⟨h3, fun i o ho => ?_, h2.out.trans (hle.out.trans hU.out.symm)⟩, fun i o h5 h6 => (h4 i o h5 h6).2⟩
  cases hs : U.see i with
  | none => exact (h4 i o hs ho).1
  | some o' =>
    have e := hU.see i o' hs
    rw [ho] at e
    cases e
    exact h2.see _ _ (hle.see _ _ hs)

/-! ### addresses, cells -/
theorem Addr.add_zero (a : Addr) : a.add 0 = a := by simp [Addr.add]
theorem Addr.add_add (a : Addr) (m n : Nat) : (a.add m).add n = a.add (m + n) := by
  unfold Addr.add
  by_cases h : m = 0 <;> by_cases k : n = 0 <;> simp [h, k] <;> omega
theorem Addr.add_block (a : Addr) (n : Nat) : (a.add n).block = a.block := by unfold Addr.add; split <;> rfl
theorem map_add_zero (a : Option Addr) : Option.map (fun (x : Addr) => Addr.add x 0) a = a := by cases a <;> simp [Addr.add_zero]
theorem cellsAt_mono {V V' : View} (h : V.Le V') {a : Addr} {vs : List Value} (hc : cellsAt V a vs) : cellsAt V' a vs := fun j v hj => h.cell (hc j v hj)
theorem cellsAt_one {V : View} {a : Addr} {v : Value} : cellsAt V a [v] ↔ V.cell? a = some v := by
  constructor
  · intro h; have := h 0 v rfl; rwa [Addr.add_zero] at this
  · intro h j x hj
    cases j with
    | zero => simp at hj; subst hj; rwa [Addr.add_zero]
    | succ j => simp at hj
theorem cellsAt_append {V : View} {a : Addr} {vs us : List Value} : cellsAt V a (vs ++ us) ↔ cellsAt V a vs ∧ cellsAt V (a.add vs.length) us := by
  constructor
  · intro h
    refine ⟨fun j v hj => h j v (by rw [List.getElem?_append_left (List.getElem?_eq_some_iff.1 hj).1]; exact hj), fun j v hj => ?_⟩
    rw [Addr.add_add]
    exact h _ v (by rw [List.getElem?_append_right (by omega)]; simpa using hj)
  · rintro ⟨h1, h2⟩ j v hj
    by_cases hl : j < vs.length
    · rw [List.getElem?_append_left hl] at hj; exact h1 j v hj
    · rw [List.getElem?_append_right (by omega)] at hj
      have := h2 _ v hj
      rw [Addr.add_add] at this
      rwa [show vs.length + (j - vs.length) = j by omega] at this
theorem cell_of_see {V : View} {b : Nat} {cs : List Value} {e : TypeId} {f : Nat × Nat} (h : V.see b = some (.cells ⟨cs⟩ e f)) {i : Nat} {v : Value} (hv : cs[i]? = some v) :
    V.cell? ⟨b, i, none⟩ = some v := by
  unfold View.cell?
  simp [h, hv]
theorem addr0_add (b i n : Nat) : (⟨b, i, none⟩ : Addr).add n = ⟨b, i + n, none⟩ := addr_add b i n
theorem cellsAt_of_see {V : View} {b : Nat} {cs : List Value} {e : TypeId} {f : Nat × Nat} (h : V.see b = some (.cells ⟨cs⟩ e f)) {i : Nat} {vs : List Value}
    (hv : ∀ j v, vs[j]? = some v → cs[i + j]? = some v) : cellsAt V ⟨b, i, none⟩ vs := fun j v hj => by
  rw [addr0_add]; exact cell_of_see h (hv j v hj)

/-! ### data -/
class Rep (α : Type) where
  sz : Nat
  pos : 0 < sz
  rep : View → List Value → α → Prop
  len : ∀ {V vs x}, rep V vs x → vs.length = sz
  one : ∀ {V vs x}, rep V vs x → vs.all Value.oneCell' = true
  mono : ∀ {V V' vs x}, V.Le V' → rep V vs x → rep V' vs x

/-- A row of data: no element is written by anybody as long as V is seen. -/
structure SlR {α : Type} [Rep α] (V : View) (s : Sl) (l : List α) : Prop where
  n : s.n = l.length
  c : s.n ≤ s.c
  lim : s.n ≤ 9223372036854775807
  get : ∀ i (h : i < l.length), ∃ ad vs, s.a = some ad ∧ cellsAt V (ad.add (i * Rep.sz α)) vs ∧ Rep.rep V vs l[i]
theorem SlR.mono {α : Type} [Rep α] {V V' : View} {s : Sl} {l : List α} (hV : V.Le V') (h : SlR V s l) : SlR V' s l :=
  ⟨h.n, h.c, h.lim, fun i hi => let ⟨ad, vs, ha, hc, hr⟩ := h.get i hi; ⟨ad, vs, ha, cellsAt_mono hV hc, Rep.mono hV hr⟩⟩
theorem SlR.nil {α : Type} [Rep α] (V : View) (a : Option Addr) (c : Nat) : SlR (α := α) V ⟨a, 0, c⟩ [] := ⟨rfl, Nat.zero_le _, Nat.zero_le _, fun _ h => absurd h (by simp)⟩

instance : Rep Int where
  sz := 1
  pos := Nat.one_pos
  rep _ vs x := vs = [.int .i64 x] ∧ inI .i64 x
  len h := by rw [h.1]; rfl
  one h := by rw [h.1]; rfl
  mono _ h := h
instance : Rep Bool where
  sz := 1
  pos := Nat.one_pos
  rep _ vs x := vs = [.bool x]
  len h := by rw [h]; rfl
  one h := by rw [h]; rfl
  mono _ h := h
instance : Rep UInt8 where
  sz := 1
  pos := Nat.one_pos
  rep _ vs x := vs = [.int .u8 x.toNat]
  len h := by rw [h]; rfl
  one h := by rw [h]; rfl
  mono _ h := h
instance : Rep ByteArray where
  sz := 1
  pos := Nat.one_pos
  rep _ vs x := vs = [.string x] ∧ x.size ≤ 9223372036854775807
  len h := by rw [h.1]; rfl
  one h := by rw [h.1]; rfl
  mono _ h := h
instance {α : Type} [Rep α] : Rep (List α) where
  sz := 1
  pos := Nat.one_pos
  rep V vs x := ∃ s : Sl, vs = [.slice s.a s.n s.c] ∧ SlR V s x
  len h := by obtain ⟨s, h, _⟩ := h; rw [h]; rfl
  one h := by obtain ⟨s, h, _⟩ := h; rw [h]; rfl
  mono hV h := let ⟨s, h, k⟩ := h; ⟨s, h, k.mono hV⟩

theorem SlR.ld {α : Type} [Rep α] {V : View} {s : Sl} {l : List α} (h : SlR V s l) {x : Int} (h0 : 0 ≤ x) (h1 : x < s.n) :
    ∃ ad vs, ∃ hx : x.toNat < l.length, s.a = some ad ∧ cellsAt V (ad.add (x.toNat * Rep.sz α)) vs ∧ Rep.rep V vs l[x.toNat] := by
  have hx : x.toNat < l.length := by have := h.n; omega
  obtain ⟨ad, vs, h⟩ := h.get x.toNat hx
  exact ⟨ad, vs, hx, h⟩
theorem SlR.int {V : View} {s : Sl} {l : List Int} (h : SlR V s l) {x : Int} (h0 : 0 ≤ x) (h1 : x < s.n) :
    ∃ ad, ∃ hx : x.toNat < l.length, s.a = some ad ∧ V.cell? (ad.add (x.toNat * 1)) = some (.int .i64 l[x.toNat]) ∧ inI .i64 l[x.toNat] := by
  obtain ⟨ad, vs, hx, ha, hc, rfl, hi⟩ := h.ld h0 h1
  exact ⟨ad, hx, ha, cellsAt_one.1 hc, hi⟩
theorem SlR.bool {V : View} {s : Sl} {l : List Bool} (h : SlR V s l) {x : Int} (h0 : 0 ≤ x) (h1 : x < s.n) :
    ∃ ad, ∃ hx : x.toNat < l.length, s.a = some ad ∧ V.cell? (ad.add (x.toNat * 1)) = some (.bool l[x.toNat]) := by
  obtain ⟨ad, vs, hx, ha, hc, rfl⟩ := h.ld h0 h1
  exact ⟨ad, hx, ha, cellsAt_one.1 hc⟩
theorem SlR.u8 {V : View} {s : Sl} {l : List UInt8} (h : SlR V s l) {x : Int} (h0 : 0 ≤ x) (h1 : x < s.n) :
    ∃ ad, ∃ hx : x.toNat < l.length, s.a = some ad ∧ V.cell? (ad.add (x.toNat * 1)) = some (.int .u8 l[x.toNat].toNat) := by
  obtain ⟨ad, vs, hx, ha, hc, rfl⟩ := h.ld h0 h1
  exact ⟨ad, hx, ha, cellsAt_one.1 hc⟩
theorem SlR.str {V : View} {s : Sl} {l : List ByteArray} (h : SlR V s l) {x : Int} (h0 : 0 ≤ x) (h1 : x < s.n) :
    ∃ ad, ∃ hx : x.toNat < l.length, s.a = some ad ∧ V.cell? (ad.add (x.toNat * 1)) = some (.string l[x.toNat]) ∧ l[x.toNat].size ≤ 9223372036854775807 := by
  obtain ⟨ad, vs, hx, ha, hc, rfl, hi⟩ := h.ld h0 h1
  exact ⟨ad, hx, ha, cellsAt_one.1 hc, hi⟩
/-- A part of a row. -/
theorem SlR.sub {α : Type} [Rep α] {V : View} {s : Sl} {l : List α} (h : SlR V s l) {i j : Nat} (hij : i ≤ j) (hj : j ≤ l.length) :
    SlR V ⟨if s.c = i then s.a else s.a.map fun x => x.add (i * Rep.sz α), j - i, s.c - i⟩ ((l.take j).drop i) := by
  have hn := h.n; have hc := h.c
  refine ⟨by simp; omega, by show j - i ≤ s.c - i; omega, by have := h.lim; show j - i ≤ _; omega, fun k hk => ?_⟩
  have hk' : i + k < l.length := by simp at hk; omega
  obtain ⟨ad, vs, ha, hcs, hr⟩ := h.get (i + k) hk'
  have hne : s.c ≠ i := by simp at hk; omega
  refine ⟨ad.add (i * Rep.sz α), vs, by simp [hne, ha], ?_, ?_⟩
  · rw [Addr.add_add, ← Nat.add_mul]; exact hcs
  · simpa using hr
theorem SlR.take {α : Type} [Rep α] {V : View} {s : Sl} {l : List α} (h : SlR V s l) {j : Nat} (hj : j ≤ l.length) : SlR V ⟨s.a, j, s.c⟩ (l.take j) := by
  have := h.sub (Nat.zero_le j) hj
  simpa [map_add_zero] using this

/-! ### rows that this call made and that grow -/
def View.minus (V : View) (x : Sl) : View := match x.a with
  | none => V
  | some a => V.hide a.block
theorem View.minus_le (V : View) (x : Sl) : (V.minus x).Le V := by
  unfold View.minus; split
  · exact View.Le.refl V
  · exact View.hide_le V _
/-- The row x is the call's own; its cells so far are cs (elements of sz cells). -/
structure Buf (V : View) (x : Sl) (e : TypeId) (sz : Nat) (cs : List Value) : Prop where
  len : cs.length = x.n * sz
  le : x.n ≤ x.c
  lim : x.n ≤ 140737488355328
  own : (x.a = none ∧ x.c = 0) ∨ ∃ r all, x.a = some ⟨r, 0, none⟩ ∧ V.see r = some (.cells ⟨all⟩ e (0, 0)) ∧ all.length = x.c * sz ∧ all.take (x.n * sz) = cs
theorem Buf.nil (V : View) (e : TypeId) (sz : Nat) : Buf V ⟨none, 0, 0⟩ e sz [] := ⟨by simp, Nat.le_refl _, Nat.zero_le _, .inl ⟨rfl, rfl⟩⟩
theorem Buf.mono {V V' : View} {x : Sl} {e : TypeId} {sz : Nat} {cs : List Value} (h : Buf V x e sz cs) (hV : V.Le V') : Buf V' x e sz cs :=
  ⟨h.len, h.le, h.lim, h.own.imp id fun ⟨r, all, a, b, c⟩ => ⟨r, all, a, hV.see _ _ b, c⟩⟩
theorem minus_mono {V V' : View} (h : V.Le V') (x : Sl) : (V.minus x).Le (V'.minus x) := by
  unfold View.minus; split
  · exact h
  · refine ⟨h.size, fun i o ho => ?_, h.out⟩
    unfold View.hide at *
    simp only at *
    split at ho
    · cases ho
    · rename_i hne; rw [if_neg hne]; exact h.see i o ho
theorem Buf.row {V : View} {x : Sl} {e : TypeId} {sz : Nat} {cs : List Value} (h : Buf V x e sz cs) : rowAt V x.a (x.n * sz) cs := by
  rcases h.own with ⟨ha, hc⟩ | ⟨r, all, ha, hs, hl, ht⟩
  · have h0 : x.n = 0 := by have := h.le; omega
    rw [ha]
    show cs = []
    have := h.len
    rw [h0] at this
    simpa using this
  · rw [ha]
    refine ⟨h.len, fun j v hj => ?_⟩
    rw [addr0_add]
    refine cell_of_see hs ?_
    rw [← ht] at hj
    rw [List.getElem?_take] at hj
    split at hj
    · simpa using hj
    · cases hj
theorem putL_eq : ∀ (vs cs : List Value) (off : Nat), off + vs.length ≤ cs.length → putL cs off vs = cs.take off ++ vs ++ cs.drop (off + vs.length)
  | [], cs, off, _ => by simp [putL]
  | v :: vs, cs, off, h => by
    simp only [List.length_cons] at h
    rw [putL, putL_eq vs _ _ (by simp; omega)]
    rw [List.drop_set_of_lt (by omega), List.take_add_one, List.getElem?_set_self (by omega), List.take_set, List.set_eq_of_length_le (by simp; omega)]
    simp [Nat.add_assoc, Nat.add_comm 1]
theorem setObj_cells (e : TypeId) (f : Nat × Nat) (vs cs : List Value) (off : Nat) : setObj (.cells ⟨cs⟩ e f) off vs = .cells ⟨putL cs off vs⟩ e f := putL_setObj e f vs cs off
theorem sets_see {V : View} {r off : Nat} {cs vs : List Value} {e : TypeId} {f : Nat × Nat} (h : V.see r = some (.cells ⟨cs⟩ e f)) : V.sets ⟨r, off, none⟩ vs = V.put r (.cells ⟨putL cs off vs⟩ e f) := by
  unfold View.sets
  simp only [h, setObj_cells]
theorem canSet_of {V : View} {r off k : Nat} {cs : List Value} {e : TypeId} (h : V.see r = some (.cells ⟨cs⟩ e (0, 0))) (hk : off + k ≤ cs.length) : canSet V ⟨r, off, none⟩ k :=
  ⟨rfl, ⟨cs⟩, e, (0, 0), h, by simpa using hk, fun j _ hf => by simp at hf⟩
theorem hide_le_put {V : View} (r : Nat) (o : Obj) : (V.hide r).Le (V.put r o) :=
  ⟨Nat.le_max_left _ _, fun i o' h => by
    unfold View.hide at h
    simp only at h
    split at h
    · cases h
    · rename_i hne; rw [View.see_put_ne V o hne]; exact h, rfl⟩
theorem hide_le_put_hide {V : View} (r : Nat) (o : Obj) : (V.hide r).Le ((V.put r o).hide r) :=
  ⟨Nat.le_max_left _ _, fun i o' h => by
    unfold View.hide at *
    simp only at *
    split at h
    · cases h
    · rename_i hne; rw [if_neg hne, View.see_put_ne V o hne]; exact h, rfl⟩
/-- What is appended stands behind; all else is as it was. -/
theorem apV_buf {V : View} {e : TypeId} {sz bytes : Nat} {zero : List Value} {x : Sl} {y : Value} {C : Sl → View → Prop} {cs src : List Value} {m : Nat} (hz : zero.length = sz)
    (hb : Buf V x e sz cs) (hs : srcAt V sz zero y m src) (hl : src.length = m * sz) (h1 : src.all Value.oneCell' = true) (hm : (x.n + m) * bytes ≤ 140737488355328) (hm2 : x.n + m ≤ 140737488355328)
    (hC : ∀ s V', Buf V' s e sz (cs ++ src) → s.n = x.n + m → (V.minus x).Le (V'.minus s) → C s V') : apV V e sz bytes zero x y C := by
  refine ⟨cs, src, m, hb.row, hs, h1, hm, hm2, fun hle => ?_, fun hlt r cap hr hcap => ?_⟩
  · rcases hb.own with ⟨ha, hc⟩ | ⟨r, all, ha, hsee, hal, htk⟩
    · rw [ha]
      have hn0 : x.n = 0 := by have := hb.le; omega
      have hm0 : m = 0 := by omega
      have e1 : src = [] := by rw [← List.length_eq_zero_iff, hl, hm0]; simp
      have e2 : cs = [] := by rw [← List.length_eq_zero_iff, hb.len, hn0]; simp
      refine hC _ _ ⟨by simp [e1, e2, hn0, hm0], by show x.n + m ≤ x.c; omega, hm2, .inl ⟨rfl, hc⟩⟩ rfl ?_
      unfold View.minus; rw [ha]; exact View.Le.refl V
    · rw [ha]
      have hfit : x.n * sz + src.length ≤ all.length := by rw [hl, hal, ← Nat.add_mul]; exact Nat.mul_le_mul_right _ hle
      have e0 : (⟨r, 0, none⟩ : Addr).add (x.n * sz) = ⟨r, x.n * sz, none⟩ := by rw [addr0_add]; simp
      show canSet V ((⟨r, 0, none⟩ : Addr).add (x.n * sz)) src.length ∧ C ⟨some ⟨r, 0, none⟩, x.n + m, x.c⟩ (V.sets ((⟨r, 0, none⟩ : Addr).add (x.n * sz)) src)
      rw [e0]
      refine ⟨canSet_of hsee hfit, ?_⟩
      rw [sets_see hsee, putL_eq _ _ _ hfit]
      refine hC _ _ ⟨by simp [hb.len, hl, Nat.add_mul], by show x.n + m ≤ x.c; omega, hm2, .inr ⟨r, _, rfl, View.see_put_same _ _ _, ?_, ?_⟩⟩ rfl ?_
      · simp only [List.length_append, List.length_take, List.length_drop]; omega
      · rw [htk]
        rw [List.take_append_of_le_length (by simp [hb.len, hl, Nat.add_mul])]
        rw [List.take_of_length_le (by simp [hb.len, hl, Nat.add_mul])]
      · unfold View.minus
        rw [ha]
        exact hide_le_put_hide r _
  · have hfr : V.see r = none := View.see_none_of_ge hr
    refine hC _ _ ⟨by simp [hb.len, hl, Nat.add_mul], hcap, hm2, .inr ⟨r, _, rfl, View.see_put_same _ _ _, ?_, ?_⟩⟩ rfl ?_
    · simp [hb.len, hl, hz, List.length_flatten, Nat.sub_mul, Nat.add_mul]
      have := Nat.mul_le_mul_right sz hcap
      rw [Nat.add_mul] at this
      omega
    · rw [List.take_append_of_le_length (by simp [hb.len, hl, Nat.add_mul])]
      rw [List.take_of_length_le (by simp [hb.len, hl, Nat.add_mul])]
    · have h2 : V.Le ((V.put r (.cells (cs ++ src ++ (List.replicate (cap - (x.n + m)) zero).flatten).toArray e (0, 0))).hide r) :=
        ⟨Nat.le_max_left _ _, fun i o ho => by
          have hne : i ≠ r := fun h => by rw [h, hfr] at ho; cases ho
          show (if i = r then none else View.see (V.put r _) i) = some o
          rw [if_neg hne, View.see_put_ne V _ hne]; exact ho, rfl⟩
      exact (View.minus_le V x).trans h2
/-- Cells of a row of data. -/
def repL {α : Type} [Rep α] (W : View) : List Value → List α → Prop
  | cs, [] => cs = []
  | cs, x :: l => ∃ vs us, cs = vs ++ us ∧ Rep.rep W vs x ∧ repL W us l
theorem repL.mono {α : Type} [Rep α] {W W' : View} (h : W.Le W') : ∀ {cs : List Value} {l : List α}, repL W cs l → repL W' cs l
  | _, [], hr => hr
  | _, _ :: _, ⟨vs, us, e, h1, h2⟩ => ⟨vs, us, e, Rep.mono h h1, repL.mono h h2⟩
theorem repL.snoc {α : Type} [Rep α] {W : View} : ∀ {cs : List Value} {l : List α} {vs : List Value} {x : α}, repL W cs l → Rep.rep W vs x → repL W (cs ++ vs) (l ++ [x])
  | _, [], vs, x, h, hx => by cases h; exact ⟨vs, [], by simp, hx, rfl⟩
  | _, y :: l, vs, x, ⟨ws, us, e, h1, h2⟩, hx => ⟨ws, us ++ vs, by rw [e, List.append_assoc], h1, repL.snoc h2 hx⟩
theorem repL.append {α : Type} [Rep α] {W : View} : ∀ {cs ds : List Value} {l m : List α}, repL W cs l → repL W ds m → repL W (cs ++ ds) (l ++ m)
  | _, _, [], m, h, hm => by cases h; simpa using hm
  | _, _, y :: l, m, ⟨ws, us, e, h1, h2⟩, hx => ⟨ws, us ++ _, by rw [e, List.append_assoc], h1, repL.append h2 hx⟩
theorem repL.len {α : Type} [Rep α] {W : View} : ∀ {cs : List Value} {l : List α}, repL W cs l → cs.length = l.length * Rep.sz α
  | _, [], h => by cases h; simp
  | _, _ :: _, ⟨vs, us, e, h1, h2⟩ => by rw [e, List.length_append, Rep.len h1, repL.len h2, List.length_cons, Nat.add_mul]; omega
theorem repL.one {α : Type} [Rep α] {W : View} : ∀ {cs : List Value} {l : List α}, repL W cs l → cs.all Value.oneCell' = true
  | _, [], h => by cases h; rfl
  | _, _ :: _, ⟨vs, us, e, h1, h2⟩ => by rw [e, List.all_append, Rep.one h1, repL.one h2]; rfl
theorem repL.get {α : Type} [Rep α] {W : View} : ∀ {cs : List Value} {l : List α}, repL W cs l → ∀ i (h : i < l.length), ∃ vs, Rep.rep W vs l[i] ∧ ∀ j v, vs[j]? = some v → cs[i * Rep.sz α + j]? = some v
  | _, [], _, i, h => absurd h (by simp)
  | _, x :: l, ⟨vs, us, e, h1, h2⟩, 0, _ => ⟨vs, h1, fun j v hj => by
      rw [e, Nat.zero_mul, Nat.zero_add, List.getElem?_append_left (List.getElem?_eq_some_iff.1 hj).1]; exact hj⟩
  | _, x :: l, ⟨vs, us, e, h1, h2⟩, i + 1, h => by
    obtain ⟨ws, hr, hg⟩ := repL.get h2 i (by simpa using h)
    refine ⟨ws, hr, fun j v hj => ?_⟩
    rw [e, List.getElem?_append_right (by rw [Rep.len h1, Nat.add_mul]; omega), Rep.len h1, Nat.add_mul]
    rw [show i * Rep.sz α + 1 * Rep.sz α + j - Rep.sz α = i * Rep.sz α + j by omega]
    exact hg j v hj
theorem Buf.slR {α : Type} [Rep α] {W V : View} {x : Sl} {e : TypeId} {cs : List Value} {l : List α} (h : Buf V x e (Rep.sz α) cs) (hr : repL W cs l) (hW : W.Le V) : SlR V x l := by
  have hn : x.n = l.length := Nat.eq_of_mul_eq_mul_right (Rep.pos (α := α)) (h.len.symm.trans hr.len)
  refine ⟨hn, h.le, Nat.le_trans h.lim (by decide), fun i hi => ?_⟩
  obtain ⟨vs, hv, hg⟩ := hr.get i hi
  rcases h.own with ⟨ha, hc⟩ | ⟨r, all, ha, hs, hl, ht⟩
  · have := h.le; omega
  · refine ⟨_, vs, ha, ?_, Rep.mono hW hv⟩
    rw [addr0_add]
    refine cellsAt_of_see hs fun j v hj => ?_
    have := hg j v hj
    rw [← ht, List.getElem?_take] at this
    split at this
    · simpa using this
    · cases this
/-- The cells of a row of data, read. -/
theorem SlR.row {α : Type} [Rep α] {V : View} {s : Sl} {l : List α} (h : SlR V s l) : ∃ cs, rowAt V s.a (s.n * Rep.sz α) cs ∧ repL V cs l := by
  have hn := h.n; have hg := h.get
  suffices key : ∀ (k : Nat), k ≤ l.length → ∃ cs, repL V cs (l.take k) ∧ (∀ ad, s.a = some ad → cellsAt V ad cs) from by
    obtain ⟨cs, h1, h2⟩ := key l.length (Nat.le_refl _)
    rw [List.take_length] at h1
    refine ⟨cs, ?_, h1⟩
    cases ha : s.a with
    | none =>
      show cs = []
      cases l with
      | nil => exact h1
      | cons x l => obtain ⟨ad, _, h', _⟩ := hg 0 (by simp); rw [ha] at h'; cases h'
    | some ad => exact ⟨by rw [h1.len, hn], h2 ad ha⟩
  intro k
  induction k with
  | zero => intro _; exact ⟨[], by simp [repL], fun ad _ j v hj => by simp at hj⟩
  | succ k ih =>
    intro hk
    obtain ⟨cs, h1, h2⟩ := ih (by omega)
    obtain ⟨ad, vs, ha, hc, hr⟩ := hg k (by omega)
    refine ⟨cs ++ vs, ?_, fun ad' ha' => ?_⟩
    · rw [List.take_add_one, List.getElem?_eq_getElem (by omega)]
      exact h1.snoc hr
    · rw [ha] at ha'; cases ha'
      refine cellsAt_append.2 ⟨h2 ad ha, ?_⟩
      rw [h1.len, List.length_take, Nat.min_eq_left (by omega)]
      exact hc
end Go.Proofs.YtdlgpolngnkiaaaGreatDoor

/- From a call over views to a row; how arguments are read. -/
namespace Go.Proofs.YtdlgpolngnkiaaaGreatDoor
open Go Go.RowKit Go.ChangeShapes Go.WideShapes

theorem own : ownKnob Tryz.prog.godebug = none := by kernel_rfl
theorem laidOut : laidOutB Tryz.prog = true := by kernel_rfl
theorem rowed : mapsRowed Tryz.prog = true := by kernel_rfl

section
variable {H : Type} {enc : TypeId × Value → H} {P : Program}
/-- The world is as it was, but for what is new. -/
theorem below_of_le {W W' : World} {V' : View} (h : V'.In W') (hl : (View.all W).Le V') : Below W.heap.size W W' := by
  have ho : World.outer W' = World.outer W := h.out.trans hl.out
  unfold World.outer at ho
  simp only [Prod.mk.injEq] at ho
  refine ⟨ho.1, ho.2.1, ho.2.2, Nat.le_trans hl.size h.size, fun k hk => ?_⟩
  have h1 : W.heap[k]? = some W.heap[k] := Array.getElem?_eq_getElem hk
  rw [h1]
  exact h.see k _ (hl.see k _ h1)
theorem same_of_below {W W' : World} (hb : Below W.heap.size W W') : ∀ p : MemPlace, p.block < W.heap.size → W.sameAt W' p := by
  intro p hp
  cases p with
  | cell b off =>
    have := hb.block b hp
    show W'.cell? _ = W.cell? _
    unfold World.cell?
    simp only [this]
  | map b => exact hb.block b hp
theorem trodAll_stays {t0 : TypeId → Prop} (K : Kids P t0) (hsz : ∀ {t e : TypeId}, t0 t → P.underlying t = some (.slice e) → 0 < P.cellsOf e) {W W' : World} (hb : Below W.heap.size W W') :
    ∀ {ts : List TypeId} {vs : List Value} {ds : List (DataW H)} {ps : List MemPlace}, (∀ t ∈ ts, t0 t) → DataW.TrodAll enc P W 0 (fun _ => true) true ts vs ds ps →
      DataW.TrodAll enc P W' 0 (fun b => decide (b < W.heap.size)) true ts vs ds ps
  | [], [], [], _, _, h => h
  | t :: ts, v :: vs, d :: ds, ps, ht, ⟨p, q, ⟨fuel, h1⟩, h2, e⟩ => by
    refine ⟨p, q, ⟨fuel, ?_⟩, trodAll_stays K hsz hb (fun t h => ht t (by simp [h])) h2, e⟩
    have hlt := DataW.trod_lt fuel t v.cells.toList _ h1
    exact DataW.trod_stays K hsz (fun h => by cases h) (ht t (by simp)) h1 (fun p hp => same_of_below hb p (hlt p hp)) (fun p hp => by simpa using hlt p hp)
/-- A call that answers true and changes nothing is what the row asks. -/
theorem post_true {f : Func} {s : ChangeSpec} {apart fresh handsOn : Bool} {t0 : TypeId → Prop} (K : Kids P t0) (hsz : ∀ {t e : TypeId}, t0 t → P.underlying t = some (.slice e) → 0 < P.cellsOf e) {W : World} {args : Array Value} {ds gs : List (DataW H)} {before : List MemPlace} {tb : TypeId}
    (hv : s.vars = []) (hr : f.resultTypes = #[tb]) (hb : P.underlying tb = some .bool) (hts : ∀ t ∈ f.params.toList, t0 t)
    (hW : DataW.Whole enc P f.params.toList s.vars apart W args.toList ds gs before) (hs : s.fn H (ds ++ gs) = { results := [.lit (.bool true)], args := ds })
    {F : FuncId} (hc : CallV P F args (View.all W) fun r V' => r = .bool true ∧ (View.all W).Le V') :
    Calls P F args W fun e W' => ∃ v, e = .returned v ∧ s.post enc P f apart fresh handsOn false W args v W' := by
  refine (hc.2 W (View.all_in W)).mono ?_
  rintro e W' ⟨r, V', rfl, hin, _, rfl, hle⟩
  have hbl := below_of_le hin hle
  obtain ⟨p, q, hA, hV, rfl, hfz, hnd⟩ := hW
  have hq : gs = [] ∧ q = [] := by
    rw [hv] at hV
    cases gs with
    | nil => exact ⟨rfl, hV⟩
    | cons g r => exact absurd hV (by intro h; cases h)
  obtain ⟨rfl, rfl⟩ := hq
  refine ⟨_, rfl, ds, [], p ++ [], [], p, [], ⟨p, [], hA, hV, rfl, hfz, hnd⟩, ?_, ?_, ?_, hbl.frame _, fun h => by cases h⟩
  · rw [hs, hr]; exact trodAll_mk1 (shut_bool hb true)
  · rw [hs]; exact trodAll_stays K hsz hbl hts hA
  · rw [hs, hv]; rfl
theorem params_lt {f : Func} (h : (f.params.toList.all fun t => decide (t < P.types.size)) = true) : ∀ t ∈ f.params.toList, t < P.types.size := fun t ht => by
  simpa using List.all_eq_true.1 h t ht
/-- The wrap that keeps both: what the listed variables read as, and the world's shape. -/
theorem handed_both {a : Assume} {C : Checked} {os : Os} {f : FuncId} {fn : Func} {s : ChangeSpec} {conds : List PathCond} {apart fresh handsOn again : Bool} {X : World → Array Value → Prop}
    (_hX : ∀ (w w' : World) (args : Array Value), w.heap = w'.heap → X w args → X w' args)
    (own : ownKnob C.prog.godebug = none) (started : os.Started) (noInit : C.prog.inits.idxOf? f = none) (hfn : C.prog.funcs[f]? = some fn)
    (witness : ∃ (w : World) (tape : Tape) (i : Input), w.os = os ∧ (w.forCall tape i).Shaped C.prog ∧ i.vars = [] ∧ Input.okWide C.prog (w.forCall tape i) .any w.heap.size f i ∧
      ((s.pre enc C.prog fn conds apart (w.forCall tape i).memory i.args ∧ X (w.forCall tape i).memory i.args) ∧ sizedMet enc C.prog fn (OpenSpec.ofChange s) apart (w.forCall tape i).memory i.args) ∧ a.holds C.prog (lone (Frame.enter C.prog f i.args .normal) [] (w.forCall tape i)))
    (contract : ∀ (W : World) (base : Nat) (args : Array Value) (ds gs : List (DataW H)) (before : List MemPlace),
      (∀ (j : Nat) t v, fn.params[j]? = some t → args[j]? = some v → Value.okWide C.prog W .any base t v) →
      DataW.Whole enc C.prog fn.params.toList s.vars apart W args.toList ds gs before → W.ShapedOpen C.prog →
      Calls C.prog f args W fun e W' => ∃ v, e = .returned v ∧ s.post enc C.prog fn apart fresh handsOn again W args v W') :
    ReturnsInHanded a C os f .any (fun w args => (s.pre enc C.prog fn conds apart w args ∧ X w args) ∧ sizedMet enc C.prog fn (OpenSpec.ofChange s) apart w args) (s.post enc C.prog fn apart fresh handsOn again) := by
  refine returnsInHanded_of_calls own started noInit witness ?_
  intro w tape i _ hsh _ hok hpre hholds
  obtain ⟨_, _, _, fn', hfn', _, _, _, _, hval⟩ := hok
  have e : fn' = fn := Option.some.inj (hfn'.symm.trans hfn)
  subst e
  obtain ⟨⟨⟨ds, gs, before, hw, hc⟩, hx⟩, hz⟩ := hpre
  have hw' := DataW.Whole.of_heap (w' := w.forCall tape i) (by rfl) hw
  refine (contract (w.forCall tape i) w.heap.size i.args ds gs before hval hw' hsh).mono fun e W' ⟨v, he, hp⟩ => ?_
  subst he
  exact ChangeSpec.post_blind hp
end
end Go.Proofs.YtdlgpolngnkiaaaGreatDoor

/- Contracts of the library's functions at this seat's program: laid by the kit's own tools (lay-shelf, lay-plain), those that are used. -/
namespace Go.Proofs
open Go.Shelf
def Tryz.lays156_ren : Go.Shelf.Ren := ⟨fun | 156 => 94 | 165 => 108 | 166 => 109 | 169 => 110 | 240 => 118 | 241 => 119 | 276 => 124 | 277 => 125 | n => n, fun | 31 => 38 | 9 => 9 | 3 => 3 | 4 => 4 | 0 => 0 | 20 => 20 | 72 => 119 | 76 => 123 | 70 => 116 | 37 => 117 | 75 => 122 | 127 => 132 | 164 => 137 | 5 => 5 | 80 => 125 | n => n, fun | n => n⟩
theorem Tryz.lays156 : Go.Proofs.Lays.n156 Tryz.prog Tryz.lays156_ren := {
  mixed := by kernel_rfl
  f156 := Tryz.func94.trans (congrArg some (by kernel_rfl))
  f165 := Tryz.func108.trans (congrArg some (by kernel_rfl))
  f166 := Tryz.func109.trans (congrArg some (by kernel_rfl))
  f169 := Tryz.func110.trans (congrArg some (by kernel_rfl))
  f240 := Tryz.func118.trans (congrArg some (by kernel_rfl))
  f241 := Tryz.func119.trans (congrArg some (by kernel_rfl))
  f276 := Tryz.func124.trans (congrArg some (by kernel_rfl))
  f277 := Tryz.func125.trans (congrArg some (by kernel_rfl))
  t0 := Tryz.underlying0
  a0 := Tryz.isAgg0
  z0 := Tryz.sizeOf0
  v0 := Tryz.zeroValue0
  t3 := Tryz.underlying3
  a3 := Tryz.isAgg3
  z3 := Tryz.sizeOf3
  v3 := Tryz.zeroValue3
  t4 := Tryz.underlying4
  a4 := Tryz.isAgg4
  z4 := Tryz.sizeOf4
  v4 := Tryz.zeroValue4
  t9 := Tryz.underlying9
  a9 := Tryz.isAgg9
  z9 := Tryz.sizeOf9
  v9 := Tryz.zeroValue9
  t20 := Tryz.underlying20
  a20 := Tryz.isAgg20
  z20 := Tryz.sizeOf20
  v20 := Tryz.zeroValue20
  t31 := Tryz.underlying38
  a31 := Tryz.isAgg38
  z31 := Tryz.sizeOf38
  v31 := Tryz.zeroValue38
  t37 := Tryz.underlying117
  a37 := Tryz.isAgg117
  z37 := Tryz.sizeOf117
  v37 := Tryz.zeroValue117
  t70 := Tryz.underlying116
  a70 := Tryz.isAgg116
  z70 := Tryz.sizeOf116
  v70 := Tryz.zeroValue116
  t72 := Tryz.underlying119
  a72 := Tryz.isAgg119
  z72 := Tryz.sizeOf119
  v72 := Tryz.zeroValue119
  t75 := Tryz.underlying122
  a75 := Tryz.isAgg122
  z75 := Tryz.sizeOf122
  v75 := Tryz.zeroValue122
  t76 := Tryz.underlying123
  a76 := Tryz.isAgg123
  z76 := Tryz.sizeOf123
  v76 := Tryz.zeroValue123
  t127 := Tryz.underlying132
  a127 := Tryz.isAgg132
  z127 := Tryz.sizeOf132
  v127 := Tryz.zeroValue132
  t164 := Tryz.underlying137
  a164 := Tryz.isAgg137
  z164 := Tryz.sizeOf137
  v164 := Tryz.zeroValue137 }
theorem Tryz.Builder_Extra_156 : Builder.Extra Tryz.prog Tryz.lays156_ren := {
  sizeBuilder := by kernel_rfl
  liesBuilder := by kernel_rfl
  t5 := Tryz.underlying5
  a5 := Tryz.isAgg5
  z5 := Tryz.sizeOf5
  v5 := Tryz.zeroValue5
  infoByte := by kernel_rfl
  cellsByte := by kernel_rfl
  sizeByte := by kernel_rfl
  neB5 := by decide }
open Go.RowKit in
theorem Tryz.strings_Join_none (a : Option Addr) (c : Nat) (sep : ByteArray) (w : World) :
    Calls Tryz.prog 94 #[.slice a 0 c, .string sep] w fun e w' => e = .returned (.string ⟨#[]⟩) ∧ w' = w := Any.strings_Join_none Tryz.lays156 Tryz.Builder_Extra_156 a c sep w
open Go.RowKit in
theorem Tryz.strings_Join (bk o c : Nat) (xs : List ByteArray) (sep : ByteArray) (w : World) (hcells : ∀ (j : Nat) x, xs[j]? = some x → w.cell? ⟨bk, o + j, none⟩ = some (.string x)) (hbk : bk < w.heap.size) (hN : xs.length ≤ 140737488355328) (hcap : xs.length ≤ c) (hlen : (Lib.join (xs.map (·.data.toList)) sep.data.toList).length ≤ 140737488355328) :
    Calls Tryz.prog 94 #[.slice (some ⟨bk, o, none⟩) xs.length c, .string sep] w fun e w' => e = .returned (.string ⟨(Lib.join (xs.map (·.data.toList)) sep.data.toList).toArray⟩) ∧ Below w.heap.size w w' := Any.strings_Join Tryz.lays156 Tryz.Builder_Extra_156 bk o c xs sep w hcells hbk hN hcap hlen
def Tryz.lays103_ren : Go.Shelf.Ren := ⟨fun | 103 => 72 | 210 => 97 | 206 => 111 | n => n, fun | 9 => 9 | 4 => 4 | 24 => 95 | 3 => 3 | n => n, fun | n => n⟩
theorem Tryz.lays103 : Go.Proofs.Lays.n103 Tryz.prog Tryz.lays103_ren := {
  mixed := by kernel_rfl
  f103 := Tryz.func72.trans (congrArg some (by kernel_rfl))
  f206 := Tryz.func111.trans (congrArg some (by kernel_rfl))
  f210 := Tryz.func97.trans (congrArg some (by kernel_rfl))
  t3 := Tryz.underlying3
  a3 := Tryz.isAgg3
  z3 := Tryz.sizeOf3
  v3 := Tryz.zeroValue3
  t4 := Tryz.underlying4
  a4 := Tryz.isAgg4
  z4 := Tryz.sizeOf4
  v4 := Tryz.zeroValue4
  t9 := Tryz.underlying9
  a9 := Tryz.isAgg9
  z9 := Tryz.sizeOf9
  v9 := Tryz.zeroValue9
  t24 := Tryz.underlying95
  a24 := Tryz.isAgg95
  z24 := Tryz.sizeOf95
  v24 := Tryz.zeroValue95 }
open Go.RowKit in
theorem Tryz.strings_CutPrefix (s p : ByteArray) (w : World) :
    Calls Tryz.prog 72 #[.string s, .string p] w fun e w' => e = .returned (.tuple #[.string ⟨(Lib.trimPrefix s.data.toList p.data.toList).toArray⟩, .bool (Lib.hasPrefix s.data.toList p.data.toList)]) ∧ w' = w := Any.strings_CutPrefix Tryz.lays103 s p w
def Tryz.lays146_ren : Go.Shelf.Ren := ⟨fun | 146 => 73 | 221 => 98 | 268 => 112 | 138 => 113 | 143 => 114 | 195 => 120 | 197 => 121 | 218 => 122 | 219 => 123 | 260 => 126 | 217 => 127 | 225 => 128 | 224 => 129 | 267 => 130 | 266 => 131 | 314 => 132 | n => n, fun | 9 => 9 | 31 => 38 | 3 => 3 | 4 => 4 | 0 => 0 | 105 => 134 | 21 => 21 | 5 => 5 | 46 => 141 | 119 => 142 | 139 => 145 | 138 => 144 | 146 => 147 | 51 => 146 | n => n, fun | 1 => 0 | 3 => 1 | 4 => 2 | n => n⟩
theorem Tryz.lays146 : Go.Proofs.Lays.n146 Tryz.prog Tryz.lays146_ren := {
  mixed := by kernel_rfl
  f138 := Tryz.func113.trans (congrArg some (by kernel_rfl))
  f143 := Tryz.func114.trans (congrArg some (by kernel_rfl))
  f146 := Tryz.func73.trans (congrArg some (by kernel_rfl))
  f195 := Tryz.func120.trans (congrArg some (by kernel_rfl))
  f197 := Tryz.func121.trans (congrArg some (by kernel_rfl))
  f217 := Tryz.func127.trans (congrArg some (by kernel_rfl))
  f218 := Tryz.func122.trans (congrArg some (by kernel_rfl))
  f219 := Tryz.func123.trans (congrArg some (by kernel_rfl))
  f221 := Tryz.func98.trans (congrArg some (by kernel_rfl))
  f224 := Tryz.func129.trans (congrArg some (by kernel_rfl))
  f225 := Tryz.func128.trans (congrArg some (by kernel_rfl))
  f260 := Tryz.func126.trans (congrArg some (by kernel_rfl))
  f266 := Tryz.func131.trans (congrArg some (by kernel_rfl))
  f267 := Tryz.func130.trans (congrArg some (by kernel_rfl))
  f268 := Tryz.func112.trans (congrArg some (by kernel_rfl))
  f314 := Tryz.func132.trans (congrArg some (by kernel_rfl))
  t0 := Tryz.underlying0
  a0 := Tryz.isAgg0
  z0 := Tryz.sizeOf0
  v0 := Tryz.zeroValue0
  t3 := Tryz.underlying3
  a3 := Tryz.isAgg3
  z3 := Tryz.sizeOf3
  v3 := Tryz.zeroValue3
  t4 := Tryz.underlying4
  a4 := Tryz.isAgg4
  z4 := Tryz.sizeOf4
  v4 := Tryz.zeroValue4
  t5 := Tryz.underlying5
  a5 := Tryz.isAgg5
  z5 := Tryz.sizeOf5
  v5 := Tryz.zeroValue5
  t9 := Tryz.underlying9
  a9 := Tryz.isAgg9
  z9 := Tryz.sizeOf9
  v9 := Tryz.zeroValue9
  t21 := Tryz.underlying21
  a21 := Tryz.isAgg21
  z21 := Tryz.sizeOf21
  v21 := Tryz.zeroValue21
  t31 := Tryz.underlying38
  a31 := Tryz.isAgg38
  z31 := Tryz.sizeOf38
  v31 := Tryz.zeroValue38
  t46 := Tryz.underlying141
  a46 := Tryz.isAgg141
  z46 := Tryz.sizeOf141
  v46 := Tryz.zeroValue141
  t51 := Tryz.underlying146
  a51 := Tryz.isAgg146
  z51 := Tryz.sizeOf146
  v51 := Tryz.zeroValue146
  t105 := Tryz.underlying134
  a105 := Tryz.isAgg134
  z105 := Tryz.sizeOf134
  v105 := Tryz.zeroValue134
  t119 := Tryz.underlying142
  a119 := Tryz.isAgg142
  z119 := Tryz.sizeOf142
  t138 := Tryz.underlying144
  a138 := Tryz.isAgg144
  z138 := Tryz.sizeOf144
  v138 := Tryz.zeroValue144
  t139 := Tryz.underlying145
  a139 := Tryz.isAgg145
  z139 := Tryz.sizeOf145
  v139 := Tryz.zeroValue145
  t146 := Tryz.underlying147
  a146 := Tryz.isAgg147
  z146 := Tryz.sizeOf147
  v146 := Tryz.zeroValue147
  g1 := by kernel_rfl
  g3 := by kernel_rfl
  g4 := by kernel_rfl }
open Go.RowKit Go.Lib in
theorem Tryz.strings_Split (s sep : ByteArray) (m : Int) (w : World) (hs : s.size < 4294967281) (hm : w.cell? ⟨0, 0, none⟩ = some (.int .i64 m)) (h1 : 1 ≤ sep.size) :
    Calls Tryz.prog 73 #[.string s, .string sep] w fun e w' =>
      e = .returned (.slice (some ⟨w.heap.size, 0, none⟩) (Lib.countB s sep + 1) (Lib.countB s sep + 1)) ∧ w' = w.alloc (.cells ((Lib.splitB sep 0 (Lib.countB s sep) s).map Value.string).toArray 9) := Any.strings_Split Tryz.lays146 (by kernel_rfl) s sep m w hs hm h1
def Tryz.laysM146_ren : Go.Shelf.Ren := ⟨fun | 146 => 73 | 221 => 98 | 268 => 112 | 138 => 113 | 143 => 114 | 195 => 120 | 197 => 121 | 218 => 122 | 219 => 123 | 260 => 126 | 217 => 127 | 225 => 128 | 224 => 129 | 267 => 130 | 266 => 131 | 314 => 132 | n => n, fun | 9 => 9 | 31 => 38 | 3 => 3 | 4 => 4 | 0 => 0 | 105 => 134 | 21 => 21 | 5 => 5 | 46 => 141 | 119 => 142 | 139 => 145 | 138 => 144 | 146 => 147 | 51 => 146 | n => n, fun | 1 => 0 | 3 => 1 | 4 => 2 | n => n⟩
theorem Tryz.laysM146 : Go.Proofs.LaysM.n146 Tryz.prog Tryz.laysM146_ren := {
  mixed := by kernel_rfl
  f138 := Tryz.func113.trans (congrArg some (by kernel_rfl))
  f143 := Tryz.func114.trans (congrArg some (by kernel_rfl))
  f146 := Tryz.func73.trans (congrArg some (by kernel_rfl))
  f195 := Tryz.func120.trans (congrArg some (by kernel_rfl))
  f197 := Tryz.func121.trans (congrArg some (by kernel_rfl))
  f217 := Tryz.func127.trans (congrArg some (by kernel_rfl))
  f218 := Tryz.func122.trans (congrArg some (by kernel_rfl))
  f219 := Tryz.func123.trans (congrArg some (by kernel_rfl))
  f221 := Tryz.func98.trans (congrArg some (by kernel_rfl))
  f224 := Tryz.func129.trans (congrArg some (by kernel_rfl))
  f225 := Tryz.func128.trans (congrArg some (by kernel_rfl))
  f260 := Tryz.func126.trans (congrArg some (by kernel_rfl))
  f266 := Tryz.func131.trans (congrArg some (by kernel_rfl))
  f267 := Tryz.func130.trans (congrArg some (by kernel_rfl))
  f268 := Tryz.func112.trans (congrArg some (by kernel_rfl))
  f314 := Tryz.func132.trans (congrArg some (by kernel_rfl))
  t0 := Tryz.underlying0
  a0 := Tryz.isAgg0
  z0 := Tryz.sizeOf0
  v0 := Tryz.zeroValue0
  t3 := Tryz.underlying3
  a3 := Tryz.isAgg3
  z3 := Tryz.sizeOf3
  v3 := Tryz.zeroValue3
  t4 := Tryz.underlying4
  a4 := Tryz.isAgg4
  z4 := Tryz.sizeOf4
  v4 := Tryz.zeroValue4
  t5 := Tryz.underlying5
  a5 := Tryz.isAgg5
  z5 := Tryz.sizeOf5
  v5 := Tryz.zeroValue5
  t9 := Tryz.underlying9
  a9 := Tryz.isAgg9
  z9 := Tryz.sizeOf9
  v9 := Tryz.zeroValue9
  t21 := Tryz.underlying21
  a21 := Tryz.isAgg21
  z21 := Tryz.sizeOf21
  v21 := Tryz.zeroValue21
  t31 := Tryz.underlying38
  a31 := Tryz.isAgg38
  z31 := Tryz.sizeOf38
  v31 := Tryz.zeroValue38
  t46 := Tryz.underlying141
  a46 := Tryz.isAgg141
  z46 := Tryz.sizeOf141
  v46 := Tryz.zeroValue141
  t51 := Tryz.underlying146
  a51 := Tryz.isAgg146
  z51 := Tryz.sizeOf146
  v51 := Tryz.zeroValue146
  t105 := Tryz.underlying134
  a105 := Tryz.isAgg134
  z105 := Tryz.sizeOf134
  v105 := Tryz.zeroValue134
  t119 := Tryz.underlying142
  a119 := Tryz.isAgg142
  z119 := Tryz.sizeOf142
  t138 := Tryz.underlying144
  a138 := Tryz.isAgg144
  z138 := Tryz.sizeOf144
  v138 := Tryz.zeroValue144
  t139 := Tryz.underlying145
  a139 := Tryz.isAgg145
  z139 := Tryz.sizeOf145
  v139 := Tryz.zeroValue145
  t146 := Tryz.underlying147
  a146 := Tryz.isAgg147
  z146 := Tryz.sizeOf147
  v146 := Tryz.zeroValue147
  g1 := by kernel_rfl
  g3 := by kernel_rfl
  g4 := by kernel_rfl
  i0 := by kernel_rfl
  i3 := by kernel_rfl
  i4 := by kernel_rfl
  i5 := by kernel_rfl
  i9 := by kernel_rfl
  i21 := by kernel_rfl
  i31 := by kernel_rfl
  i46 := by kernel_rfl
  i51 := by kernel_rfl
  i105 := by kernel_rfl
  i138 := by kernel_rfl
  i139 := by kernel_rfl
  i146 := by kernel_rfl
  m1 := by kernel_rfl
  s1_3 := fun w h => Go.Proofs.cell_of_shapedOpen_int (zero := #[.int .i64 0]) (t := 3) h (of_decide_eq_true (by kernel_rfl)) (by kernel_rfl) rfl (by kernel_rfl) (by kernel_rfl) Tryz.underlying3
  m3 := by kernel_rfl
  m4 := by kernel_rfl }
end Go.Proofs

/- Paths, as plain functions on bytes; what they answer. No program in this text. -/
namespace Go.Proofs.YtdlgpolngnkiaaaGreatDoor
open Go
abbrev bl (s : ByteArray) : List UInt8 := s.data.toList
def ba (l : List UInt8) : ByteArray := ⟨⟨l⟩⟩
@[simp] theorem bl_ba (l : List UInt8) : bl (ba l) = l := rfl
@[simp] theorem ba_bl (s : ByteArray) : ba (bl s) = s := rfl
theorem bl_inj {s t : ByteArray} (h : bl s = bl t) : s = t := by rw [← ba_bl s, h, ba_bl]
theorem bl_len (s : ByteArray) : (bl s).length = s.size := by simp [bl]
theorem bl_append (s t : ByteArray) : bl (s ++ t) = bl s ++ bl t := by
  show (s ++ t).data.toList = _
  rw [ByteArray.data_append, Array.toList_append]
theorem ba_size (l : List UInt8) : (ba l).size = l.length := rfl
theorem ba_append (l m : List UInt8) : ba l ++ ba m = ba (l ++ m) := bl_inj (by rw [bl_append]; rfl)
theorem map_ba_bl (l : List ByteArray) : (l.map bl).map ba = l := by simp [Function.comp_def]
theorem map_bl_ba (l : List (List UInt8)) : (l.map ba).map bl = l := by simp [Function.comp_def]

def okB (b : Nat) : Bool := (97 ≤ b && b ≤ 122) || (48 ≤ b && b ≤ 57) || b == 46 || b == 95 || b == 45
/-- May a name be? -/
def mayB (s : ByteArray) : Bool := (bl s).all (fun b => okB b.toNat) && (1 ≤ s.size && s.size ≤ 8 && !decide (s = ByteArray.mk #[46]) && !decide (s = ByteArray.mk #[46, 46]))
/-- Cut at each '/'. -/
def splitS : List UInt8 → List (List UInt8)
  | [] => [[]]
  | c :: s => if c = 47 then [] :: splitS s else match splitS s with
    | h :: t => (c :: h) :: t
    | [] => [[c]]
theorem splitS_ne : ∀ s, splitS s ≠ []
  | [] => by simp [splitS]
  | c :: s => by
    unfold splitS
    split
    · simp
    · split <;> simp
theorem splitS_no : ∀ {s : List UInt8}, 47 ∉ s → splitS s = [s]
  | [], _ => rfl
  | c :: s, h => by
    have h1 : c ≠ 47 := fun e => h (by simp [e])
    have h2 : 47 ∉ s := fun e => h (by simp [e])
    unfold splitS
    rw [if_neg h1, splitS_no h2]
theorem splitS_app (b : List UInt8) : ∀ a : List UInt8, splitS (a ++ 47 :: b) = splitS a ++ splitS b
  | [] => by simp [splitS]
  | c :: a => by
    simp only [List.cons_append]
    by_cases h : c = 47
    · rw [splitS, splitS, if_pos h, if_pos h, splitS_app b a]; rfl
    · rw [splitS, splitS, if_neg h, if_neg h, splitS_app b a]
      cases hs : splitS a with
      | nil => exact absurd hs (splitS_ne a)
      | cons x y => rfl
theorem join_cons2 (x y : List UInt8) (l : List (List UInt8)) : Lib.join (x :: y :: l) [47] = x ++ 47 :: Lib.join (y :: l) [47] := by
  rw [Lib.join_cons, Lib.join_cons]
  simp [Lib.joinTail]
theorem join_split : ∀ s : List UInt8, Lib.join (splitS s) [47] = s
  | [] => by simp [splitS, Lib.join_one]
  | c :: s => by
    have ih := join_split s
    unfold splitS
    split
    · rename_i h
      cases hs : splitS s with
      | nil => exact absurd hs (splitS_ne s)
      | cons x y => rw [join_cons2, ← hs, ih, h]; rfl
    · cases hs : splitS s with
      | nil => exact absurd hs (splitS_ne s)
      | cons x y =>
        rw [hs] at ih
        show Lib.join ((c :: x) :: y) [47] = _
        rw [Lib.join_cons] at ih ⊢
        rw [List.cons_append, ih]
theorem split_join : ∀ l : List (List UInt8), l ≠ [] → (∀ x ∈ l, 47 ∉ x) → splitS (Lib.join l [47]) = l
  | [], h, _ => absurd rfl h
  | [x], _, h => by rw [Lib.join_one, splitS_no (h x (by simp))]
  | x :: y :: l, _, h => by
    rw [join_cons2, splitS_app, splitS_no (h x (by simp)), split_join (y :: l) (by simp) (fun z hz => h z (by simp [hz]))]
    rfl
theorem mayB_no {s : ByteArray} (h : mayB s = true) : 47 ∉ bl s := fun hm => by
  unfold mayB at h
  rw [Bool.and_eq_true, List.all_eq_true] at h
  have := h.1 47 hm
  revert this
  decide
theorem mayB_size {s : ByteArray} (h : mayB s = true) : 1 ≤ s.size ∧ s.size ≤ 8 := by
  unfold mayB at h
  simp only [Bool.and_eq_true, decide_eq_true_eq] at h
  exact ⟨h.2.1.1.1, h.2.1.1.2⟩

/-- A path's names; none: it is none. -/
def splitP (s : ByteArray) : Option (List ByteArray) :=
  match bl s with
  | [] => none
  | c :: r => if c = 47 ∧ s.size ≤ 60 then (if r = [] then some [] else if ((splitS r).map ba).all mayB then some ((splitS r).map ba) else none) else none
theorem splitP_some {s : ByteArray} {l : List ByteArray} (h : splitP s = some l) : s.size ≤ 60 ∧ l.all mayB = true ∧ bl s = 47 :: Lib.join (l.map bl) [47] := by
  unfold splitP at h
  split at h
  · cases h
  · rename_i c r hs
    split at h
    · rename_i hc
      obtain ⟨rfl, hl⟩ := hc
      split at h
      · rename_i hr; cases h; exact ⟨hl, rfl, by rw [hs, hr]; rfl⟩
      · split at h
        · rename_i hm; cases h; exact ⟨hl, hm, by rw [hs, map_bl_ba, join_split]⟩
        · cases h
    · cases h
theorem splitP_join {l : List ByteArray} (h : l.all mayB = true) (hs : (Lib.join (l.map bl) [47]).length ≤ 59) : splitP (ba (47 :: Lib.join (l.map bl) [47])) = some l := by
  unfold splitP
  simp only [bl_ba]
  rw [if_pos ⟨trivial, by rw [ba_size]; simp; omega⟩]
  cases l with
  | nil => simp [Lib.join_nil]
  | cons x l =>
    have hno : ∀ y ∈ (x :: l).map bl, 47 ∉ y := fun y hy => by
      obtain ⟨z, hz, rfl⟩ := List.mem_map.1 hy
      exact mayB_no (List.all_eq_true.1 h z hz)
    have hx : 1 ≤ (bl x).length := by rw [bl_len]; exact (mayB_size (List.all_eq_true.1 h x (by simp))).1
    rw [split_join _ (by simp) hno, map_ba_bl, if_neg, if_pos h]
    intro e
    rw [List.map_cons, Lib.join_cons] at e
    simp only [List.append_eq_nil_iff] at e
    rw [e.1] at hx
    simp at hx
/-- The path of names; nothing: they have none. -/
def joinP1 (l : List ByteArray) : ByteArray := if splitP (ba (47 :: Lib.join (l.map bl) [47])) = some l then ba (47 :: Lib.join (l.map bl) [47]) else ba []
theorem joinP_of_split {s : ByteArray} {l : List ByteArray} (h : splitP s = some l) : joinP1 l = s := by
  have e : ba (47 :: Lib.join (l.map bl) [47]) = s := bl_inj (splitP_some h).2.2.symm
  unfold joinP1
  rw [e, if_pos h]
/-- A path without its last name, that name, what is answered. -/
def lastP (s : ByteArray) : ByteArray × ByteArray × Int :=
  match splitP s with
  | none => (ba [], ba [], 7)
  | some l => if h : l = [] then (ba [], ba [], 18) else (joinP1 l.dropLast, l.getLast h, 0)
theorem joinS_snoc (l : List ByteArray) (n : ByteArray) (hl : l ≠ []) : Lib.join ((l ++ [n]).map bl) [47] = Lib.join (l.map bl) [47] ++ 47 :: bl n := by
  cases l with
  | nil => exact absurd rfl hl
  | cons x l =>
    simp only [List.cons_append, List.map_cons, Lib.join_cons, List.map_append, List.map_nil]
    simp [Lib.joinTail]
/-- One name more. -/
def longer (s n : ByteArray) : ByteArray := if s = ba [47] then ba [47] ++ n else s ++ ba [47] ++ n
theorem splitP_longer {s n : ByteArray} (hn : 47 ∉ bl n) (hn1 : 1 ≤ n.size) {l : List ByteArray} (h : splitP s = some l) : splitP (longer s n) = if mayB n = true ∧ (longer s n).size ≤ 60 then some (l ++ [n]) else none := by
  have hs := (splitP_some h).2
  have hbl : bl (longer s n) = 47 :: Lib.join ((l ++ [n]).map bl) [47] := by
    unfold longer
    split
    · rename_i he
      rw [he] at hs
      have hl : l = [] := by
        cases l with
        | nil => rfl
        | cons x l =>
          have hx := (mayB_size (List.all_eq_true.1 hs.1 x (by simp))).1
          have := hs.2
          simp only [bl_ba, List.map_cons, Lib.join_cons, List.cons.injEq, true_and] at this
          have h2 := (List.append_eq_nil_iff.1 this.symm).1
          rw [← bl_len, h2] at hx
          simp at hx
      subst hl
      rw [bl_append, bl_ba]
      simp [Lib.join_one]
    · rename_i he
      have hl : l ≠ [] := fun e => by
        subst e
        exact he (bl_inj (by rw [hs.2]; rfl))
      rw [bl_append, bl_append, hs.2, joinS_snoc l n hl, bl_ba]
      simp
  have hsz : (longer s n).size = 1 + (Lib.join ((l ++ [n]).map bl) [47]).length := by rw [← bl_len, hbl]; simp; omega
  have he : longer s n = ba (47 :: Lib.join ((l ++ [n]).map bl) [47]) := bl_inj hbl
  have hne : Lib.join ((l ++ [n]).map bl) [47] ≠ [] := by
    cases l with
    | nil =>
      simp only [List.nil_append, List.map_cons, List.map_nil, Lib.join_one]
      intro e; rw [← bl_len, e] at hn1; simp at hn1
    | cons x l =>
      rw [joinS_snoc _ _ (by simp)]
      simp
  have hno : ∀ y ∈ (l ++ [n]).map bl, 47 ∉ y := fun y hy => by
    obtain ⟨z, hz, rfl⟩ := List.mem_map.1 hy
    rcases List.mem_append.1 hz with hz | hz
    · exact mayB_no (List.all_eq_true.1 hs.1 z hz)
    · rw [List.mem_singleton] at hz; subst hz; exact hn
  by_cases h60 : (longer s n).size ≤ 60
  · by_cases hm : mayB n = true
    · rw [if_pos ⟨hm, h60⟩, he]
      exact splitP_join (by rw [List.all_append, hs.1]; simp [hm]) (by omega)
    · rw [if_neg (fun h => hm h.1), he]
      unfold splitP
      simp only [bl_ba]
      rw [if_pos ⟨trivial, by rw [← he]; exact h60⟩, if_neg hne, split_join _ (by simp) hno, map_ba_bl, if_neg]
      rw [List.all_append]
      simp [hm]
  · rw [if_neg (fun h => h60 h.2)]
    unfold splitP
    rw [hbl]
    simp only
    rw [if_neg (fun h => h60 h.2)]
theorem cut47 : ∀ {t : List UInt8}, 47 ∈ t → ∃ a b, t = a ++ 47 :: b ∧ 47 ∉ a
  | [], h => by simp at h
  | c :: t, h => by
    by_cases hc : c = 47
    · exact ⟨[], t, by rw [hc]; rfl, by simp⟩
    · obtain ⟨a, b, e, hn⟩ := cut47 (t := t) (by
        rcases List.mem_cons.1 h with h | h
        · exact absurd h.symm hc
        · exact h)
      exact ⟨c :: a, b, by rw [e]; rfl, fun h => by
        rcases List.mem_cons.1 h with h | h
        · exact hc h.symm
        · exact hn h⟩
theorem occ47 {t : List UInt8} {j : Nat} (h : ∀ c, t[j]? = some c → c ≠ 47) : Lib.occAt t [47] j = false := by
  unfold Lib.occAt
  cases hd : t.drop j with
  | nil => rfl
  | cons c r =>
    have h5 : t[j]? = some c := by
      have := List.getElem?_drop (xs := t) (i := j) (j := 0)
      rw [hd] at this; simpa using this.symm
    have hc := h c h5
    simp [List.isPrefixOf, Ne.symm hc]
theorem idx47 {a b : List UInt8} (h : 47 ∉ a) : Lib.index (a ++ 47 :: b) [47] = a.length := by
  refine Lib.index_first (by simp) ?_ fun _ hj => occ47 fun _ hc => ?_
  · simp [Lib.occAt, List.isPrefixOf]
  · rw [List.getElem?_append_left hj] at hc
    exact fun e => h (e ▸ List.mem_of_getElem? hc)
theorem idx47_none {t : List UInt8} (h : 47 ∉ t) : Lib.index t [47] = -1 :=
  Lib.index_none fun _ _ => occ47 fun _ hc e => h (e ▸ List.mem_of_getElem? hc)
/-- The kit's own words for cutting. -/
theorem splitK_eq : ∀ (k : Nat) (t : List UInt8), t.count 47 ≤ k → Lib.splitK [47] 0 k t = splitS t
  | 0, t, ht => by
    have : 47 ∉ t := fun hm => by
      have := List.count_pos_iff.2 hm
      omega
    rw [splitS_no this]; rfl
  | k + 1, t, ht => by
    by_cases hm : 47 ∈ t
    · obtain ⟨a, b, rfl, hn⟩ := cut47 hm
      have ih := splitK_eq k b (by simp at ht; omega)
      unfold Lib.splitK
      rw [idx47 hn, if_neg (by rw [beq_iff_eq]; omega), splitS_app, splitS_no hn]
      have e1 : (a ++ 47 :: b).take (((a.length : Nat) : Int).toNat + 0) = a := by simp
      have e2 : (a ++ 47 :: b).drop (((a.length : Nat) : Int).toNat + [(47 : UInt8)].length) = b := by simp
      rw [e1, e2, ih]; rfl
    · unfold Lib.splitK
      rw [idx47_none hm, if_pos (by rfl), splitS_no hm]
theorem splitB_eq (s : ByteArray) : Lib.splitB (ba [47]) 0 (Lib.countB s (ba [47])) s = (splitS (bl s)).map ba := by
  have h1 := Lib.splitB_data (ba [47]) 0 (Lib.countB s (ba [47])) s
  have h2 : Lib.countB s (ba [47]) = (bl s).count 47 := Lib.count_one 47 (bl s)
  have h3 : (Lib.splitB (ba [47]) 0 (Lib.countB s (ba [47])) s).map bl = splitS (bl s) := by
    show (Lib.splitB (ba [47]) 0 (Lib.countB s (ba [47])) s).map (·.data.toList) = _
    rw [h1]
    exact splitK_eq _ _ (by rw [h2]; exact Nat.le_refl _)
  rw [← h3, map_ba_bl]
end Go.Proofs.YtdlgpolngnkiaaaGreatDoor

/- Contracts of the library's functions over views. -/
namespace Go.Proofs.YtdlgpolngnkiaaaGreatDoor
open Go Go.RowKit
/-- What is asked of the variables: internal/bytealg.MaxLen holds some number. -/
def Glo (V : View) : Prop := ∃ m : Int, V.cell? ⟨0, 0, none⟩ = some (.int .i64 m)
theorem Glo.mono {V V' : View} (h : V.Le V') (g : Glo V) : Glo V' := let ⟨m, hm⟩ := g; ⟨m, h.cell hm⟩
theorem CallV.quiet {P : Program} {f : FuncId} {args : Array Value} {V : View} {r : Value} (he : Enters P f) (h : ∀ w, V.In w → Calls P f args w fun e w' => e = .returned r ∧ w' = w) :
    CallV P f args V fun r' V' => r' = r ∧ V' = V :=
  ⟨he, fun w hw => (h w hw).mono fun e w' ⟨h1, h2⟩ => ⟨r, V, h1, by rw [h2]; exact hw, by rw [h2]; exact Fr.refl V w, rfl, rfl⟩⟩
theorem CallV.below {P : Program} {f : FuncId} {args : Array Value} {V : View} {r : Value} (he : Enters P f) (h : ∀ w, V.In w → Calls P f args w fun e w' => e = .returned r ∧ Below w.heap.size w w') :
    CallV P f args V fun r' V' => r' = r ∧ V' = V :=
  ⟨he, fun w hw => (h w hw).mono fun e w' ⟨h1, h2⟩ => ⟨r, V, h1,
    ⟨Nat.le_trans hw.size h2.size, fun i o ho => by
      have := hw.see i o ho
      rw [h2.block i (lt_of_some this)]; exact this, by
      have := hw.out
      unfold World.outer at *
      rw [h2.os, h2.tape, h2.output]; exact this⟩, ⟨h2.size, fun i hi hn => ⟨hn, h2.block i hi⟩, fun h => (show False from h).elim⟩, rfl, rfl⟩⟩
theorem cutPrefix_ok {s : ByteArray} {V : View} : CallV Tryz.prog 72 ⟨[.string s, .string (ba [47])]⟩ V fun r V' =>
    r = .tuple ⟨[.string (ba (Lib.trimPrefix (bl s) [47])), .bool (Lib.hasPrefix (bl s) [47])]⟩ ∧ V' = V :=
  CallV.quiet (enters_of (fn := Tryz.f72) (by kernel_rfl) (by kernel_rfl) (by kernel_rfl)) fun w _ => Tryz.strings_CutPrefix s (ba [47]) w
theorem strSplit_ok {s : ByteArray} {V : View} (hs : s.size < 4294967281) (hg : Glo V) : CallV Tryz.prog 73 ⟨[.string s, .string (ba [47])]⟩ V fun r V' =>
    ∃ x : Sl, r = .slice x.a x.n x.c ∧ V.Le V' ∧ SlR V' x ((splitS (bl s)).map ba) := by
  refine ⟨enters_of (fn := Tryz.f73) (by kernel_rfl) (by kernel_rfl) (by kernel_rfl), fun w hw => ?_⟩
  obtain ⟨m, hm⟩ := hg
  refine (Tryz.strings_Split s (ba [47]) m w hs (hw.cell hm) (Nat.le_refl _)).mono fun e w' ⟨h1, h2⟩ => ?_
  have hlen := Lib.splitB_all (ba [47]) (Nat.le_refl _) 0 _ s rfl
  rw [splitB_eq] at hlen h2
  have hle := Lib.countB_le (ba [47]) (Nat.le_refl _) s.size s (Nat.le_refl _)
  have hfr : V.see w.heap.size = none := View.see_none_of_ge hw.size
  have hnew : (View.put V w.heap.size (.cells (((splitS (bl s)).map ba).map Value.string).toArray 9)).In w' := by
    rw [h2]
    refine ⟨?_, fun i o ho => ?_, hw.out⟩
    · show max V.size (w.heap.size + 1) ≤ (w.heap.push _).size
      have := hw.size; simp; omega
    · by_cases e : i = w.heap.size
      · subst e
        rw [View.see_put_same] at ho; cases ho
        show (w.heap.push _)[w.heap.size]? = _
        simp
      · rw [View.see_put_ne V _ e] at ho
        have := hw.see i o ho
        show (w.heap.push _)[i]? = _
        rw [Array.getElem?_push, if_neg e]; exact this
  refine ⟨_, _, h1, hnew, ⟨by rw [h2]; show w.heap.size ≤ (w.heap.push _).size; simp, fun i hi hn => ⟨by rw [View.see_put_ne V _ (Nat.ne_of_lt hi)]; exact hn, by
    rw [h2]; show (w.heap.push _)[i]? = _; rw [Array.getElem?_push, if_neg (Nat.ne_of_lt hi)]⟩, fun h => (show False from h).elim⟩, ⟨_, _, _⟩, rfl, View.put_le hfr, ?_⟩
  refine ⟨hlen.symm, Nat.le_refl _, by show Lib.countB s (ba [47]) + 1 ≤ _; omega, fun i hi => ⟨_, [.string ((splitS (bl s)).map ba)[i]], rfl, ?_, rfl, ?_⟩⟩
  · rw [addr0_add]
    refine cellsAt_of_see (cs := ((splitS (bl s)).map ba).map Value.string) (View.see_put_same _ _ _) fun j v hj => ?_
    cases j with
    | succ j => simp at hj
    | zero =>
      simp only [List.getElem?_cons_zero, Option.some.injEq] at hj
      subst hj
      show (((splitS (bl s)).map ba).map Value.string)[0 + i * 1 + 0]? = _
      rw [Nat.zero_add, Nat.mul_one, Nat.add_zero, List.getElem?_map, List.getElem?_eq_getElem hi]; rfl
  · have : ∀ t : List UInt8, ∀ x ∈ splitS t, x.length ≤ t.length := by
      intro t
      induction t with
      | nil => intro x hx; simp [splitS] at hx; simp [hx]
      | cons c t ih =>
        intro x hx
        unfold splitS at hx
        split at hx
        · rcases List.mem_cons.1 hx with rfl | hx
          · simp
          · have := ih x hx; simp; omega
        · split at hx
          · rename_i h y he
            rcases List.mem_cons.1 hx with rfl | hx
            · have := ih h (by rw [he]; simp); simp; omega
            · have := ih x (by rw [he]; simp [hx]); simp; omega
          · rename_i he; exact absurd he (splitS_ne t)
    have hm := this (bl s) _ (List.getElem_mem (by simpa using hi) : (splitS (bl s))[i]'(by simpa using hi) ∈ _)
    simp only [List.getElem_map, ba_size]
    rw [bl_len] at hm
    omega
theorem strJoin_ok {x : Sl} {l : List ByteArray} {V : View} (h : SlR V x l) (hl : (Lib.join (l.map bl) [47]).length ≤ 140737488355327) : CallV Tryz.prog 94 ⟨[.slice x.a x.n x.c, .string (ba [47])]⟩ V fun r V' =>
    r = .string (ba (Lib.join (l.map bl) [47])) ∧ V' = V := by
  have he : Enters Tryz.prog 94 := enters_of (fn := Tryz.f94) (by kernel_rfl) (by kernel_rfl) (by kernel_rfl)
  cases l with
  | nil =>
    have h0 : x.n = 0 := h.n
    rw [h0]
    exact CallV.quiet he fun w _ => Tryz.strings_Join_none x.a x.c (ba [47]) w
  | cons y l =>
    obtain ⟨ad, vs, ha, hc, hr⟩ := h.get 0 (by simp)
    obtain ⟨rfl, _⟩ := hr
    rw [Nat.zero_mul, Addr.add_zero, cellsAt_one] at hc
    obtain ⟨b, off, sp⟩ := ad
    have hsp : sp = none := by
      unfold View.cell? at hc
      split at hc
      · split at hc
        · cases hc
        · rename_i hsp; simpa using hsp
      · cases hc
    subst hsp
    have hb : ∀ w, V.In w → b < w.heap.size := fun w hw => by
      unfold View.cell? at hc
      split at hc
      · rename_i hs
        exact Nat.lt_of_lt_of_le (V.lt _ _ hs) hw.size
      · cases hc
    rw [ha, h.n]
    refine CallV.below he fun w hw => Tryz.strings_Join b off x.c (y :: l) (ba [47]) w (fun j z hj => ?_) (hb w hw) (by
      rw [List.map_cons, Lib.join_length] at hl
      simp at hl ⊢
      omega) (by rw [← h.n]; exact h.c) (Nat.le_trans hl (by decide))
    have hj' := (List.getElem?_eq_some_iff.1 hj)
    obtain ⟨ad, vs, ha', hc', hr'⟩ := h.get j hj'.1
    rw [ha] at ha'; cases ha'
    obtain ⟨rfl, _⟩ := hr'
    rw [cellsAt_one, addr0_add, hj'.2] at hc'
    have e1 : Rep.sz ByteArray = 1 := rfl
    rw [e1, Nat.mul_one] at hc'
    exact hw.cell hc'
end Go.Proofs.YtdlgpolngnkiaaaGreatDoor

/- Small things. -/
namespace Go.Proofs.YtdlgpolngnkiaaaGreatDoor
open Go
theorem inI64 {n : Int} (h1 : -9223372036854775808 ≤ n) (h2 : n ≤ 9223372036854775807) : inI .i64 n := ⟨h1, h2⟩
theorem inI64_iff {n : Int} : inI .i64 n ↔ -9223372036854775808 ≤ n ∧ n ≤ 9223372036854775807 := Iff.rfl
theorem one64 : inI .i64 1 := inI64 (by decide) (by decide)
theorem two64 : inI .i64 2 := inI64 (by decide) (by decide)
theorem zero64 : inI .i64 0 := inI64 (by decide) (by decide)
/-- The place of the first of which p holds; -1: there is none. -/
def idxI {α : Type} (p : α → Bool) : List α → Int
  | [] => -1
  | x :: l => if p x then 0 else match idxI p l with
    | .ofNat n => n + 1
    | .negSucc _ => -1
theorem idxI_range {α : Type} (p : α → Bool) : ∀ l : List α, idxI p l = -1 ∧ l.any p = false ∨ (0 ≤ idxI p l ∧ idxI p l < l.length ∧ l.any p = true)
  | [] => .inl ⟨rfl, rfl⟩
  | x :: l => by
    unfold idxI
    by_cases h : p x = true
    · right; rw [if_pos h]; simp [h]
    · rw [if_neg h]
      rcases idxI_range p l with ⟨h1, h2⟩ | ⟨h1, h2, h3⟩
      · left; rw [h1]; simp [h, h2]; rfl
      · right
        cases hc : idxI p l with
        | ofNat n => rw [hc] at h2; simp only [Int.ofNat_eq_natCast] at h2; simp [h3]; omega
        | negSucc n => rw [hc] at h1; omega
theorem idxI_first {α : Type} (p : α → Bool) : ∀ (l : List α) (i : Nat) (h : i < l.length), (∀ j (hj : j < i), p (l[j]'(by omega)) = false) → p l[i] = true → idxI p l = i
  | x :: l, 0, _, _, h2 => by unfold idxI; rw [if_pos (by simpa using h2)]; rfl
  | x :: l, i + 1, h, h1, h2 => by
    have h0 := h1 0 (by omega)
    simp only [List.getElem_cons_zero] at h0
    unfold idxI
    rw [if_neg (by rw [h0]; simp), idxI_first p l i (by simpa using h) (fun j hj => by have := h1 (j + 1) (by omega); simpa using this) (by simpa using h2)]
    simp
theorem idxI_none {α : Type} (p : α → Bool) : ∀ (l : List α), (∀ x ∈ l, p x = false) → idxI p l = -1
  | [], _ => rfl
  | x :: l, h => by
    unfold idxI
    rw [if_neg (by rw [h x (by simp)]; simp), idxI_none p l (fun y hy => h y (by simp [hy]))]
    rfl
end Go.Proofs.YtdlgpolngnkiaaaGreatDoor
