/- Texts joined: Rules, Rep, Row, Gen, PairLaw, PlaceLaw, Ob, Data, Num, Grow, BytesOk, Set, PlaceOk, OrderOk, SortF, SortOk, Sort2Ok, AllOk, FndOk, InOk, PtOk, InsOk. -/
import Derived.Test.YtpoijjfbgfiboaaSoundC
import Derived.Test.YtpoijjfbgfiboaaChecked
import Derived.ChangeStays
import Derived.ChangeBook
import Derived.ProofKit
import Derived.HandedShaped
import Derived.RowKit
import Derived.ChangeShapes
import Derived.WideShapes
import Derived.Below
import Derived.KernelRfl
import Derived.Shelf.SlSortCmp.WholeK
import Derived.Shelf.SlGeneric
import Derived.Ground.SlsfProg
import Derived.Test.YtpoijjfbgfiboaaProg
import Derived.Shelf.SlSortCmp.NoneTotal
/- Rules for what the executor asks. -/
namespace Go.Proofs.Ytpoijjfbgfiboaa
open Go
/-- Rounds by an invariant and a measure. -/
theorem loopP_inv {ks : List K} {F : CurF (CurP ks → Prop) ks} {s : Ty ks} {V : View} (I : Ty ks → View → Prop) (m : Ty ks → View → Nat) (h0 : I s V)
    (step : ∀ s V, I s V → uncF ks F s V (cur ks fun s' V' => I s' V' ∧ m s' V' < m s V)) : loopP ks F s V := by
  intro Q hQ
  have key : ∀ n s V, m s V = n → I s V → Q s V := by
    intro n
    induction n using Nat.strongRecOn with
    | _ n ih =>
      intro s V hm hi
      exact hQ s V ⟨_, fun s' V' h => ih _ (by rw [← hm]; exact h.2) s' V' rfl h.1, step s V hi⟩
  exact key _ s V rfl h0
/-- One number goes round. -/
theorem loop1 {k : K} {F : k.ty → View → (k.ty → View → Prop) → Prop} {x : k.ty} {V : View} (I : k.ty → View → Prop) (m : k.ty → View → Nat) (h0 : I x V)
    (step : ∀ x V, I x V → F x V fun x' V' => I x' V' ∧ m x' V' < m x V) : loopP [k] F (x, ()) V :=
  loopP_inv (fun s V => I s.1 V) (fun s V => m s.1 V) h0 fun s V h => step s.1 V h
theorem loop0 {F : View → (View → Prop) → Prop} {V : View} (I : View → Prop) (m : View → Nat) (h0 : I V)
    (step : ∀ V, I V → F V fun V' => I V' ∧ m V' < m V) : loopP [] F () V :=
  loopP_inv (fun _ V => I V) (fun _ V => m V) h0 fun _ V h => step V h
theorem loop2 {k l : K} {F : k.ty → l.ty → View → (k.ty → l.ty → View → Prop) → Prop} {x : k.ty} {y : l.ty} {V : View} (I : k.ty → l.ty → View → Prop) (m : k.ty → l.ty → View → Nat) (h0 : I x y V)
    (step : ∀ x y V, I x y V → F x y V fun x' y' V' => I x' y' V' ∧ m x' y' V' < m x y V) : loopP [k, l] F (x, y, ()) V :=
  loopP_inv (fun s V => I s.1 s.2.1 V) (fun s V => m s.1 s.2.1 V) h0 fun s V h => step s.1 s.2.1 V h
theorem loop3 {k l n : K} {F : k.ty → l.ty → n.ty → View → (k.ty → l.ty → n.ty → View → Prop) → Prop} {x : k.ty} {y : l.ty} {z : n.ty} {V : View} (I : k.ty → l.ty → n.ty → View → Prop) (m : k.ty → l.ty → n.ty → View → Nat) (h0 : I x y z V)
    (step : ∀ x y z V, I x y z V → F x y z V fun x' y' z' V' => I x' y' z' V' ∧ m x' y' z' V' < m x y z V) : loopP [k, l, n] F (x, y, z, ()) V :=
  loopP_inv (fun s V => I s.1 s.2.1 s.2.2.1 V) (fun s V => m s.1 s.2.1 s.2.2.1 V) h0 fun s V h => step s.1 s.2.1 s.2.2.1 V h
@[simp] theorem br_true (A B : Prop) : br true A B = A := rfl
@[simp] theorem br_false (A B : Prop) : br false A B = B := rfl
theorem br_intro {g : Bool} {A B : Prop} (h1 : g = true → A) (h2 : g = false → B) : br g A B := by
  cases g
  · exact h2 rfl
  · exact h1 rfl
/-- Ways meet with what J says. -/
theorem joinP_cut {ks : List K} {body : CurP ks → Prop} {k : CurP ks} (J : Ty ks → View → Prop) (h : body (cur ks J)) (h2 : ∀ s V, J s V → unc ks k s V) : joinP ks body k := ⟨J, h, h2⟩
/-- At the end: a call of a view's function is a call in its world. -/
theorem CallV.at {P : Program} {f : FuncId} {args : Array Value} {V : View} {K : Value → View → Prop} (h : CallV P f args V K) {w : World} (hw : V.In w) :
    Calls P f args w fun e w' => ∃ r V', e = .returned r ∧ V'.In w' ∧ Fr V w V' w' ∧ K r V' := h.2 w hw
end Go.Proofs.Ytpoijjfbgfiboaa

/- How data lie in a view; what a call made lies apart from the rest (frames); rows that grow. -/
namespace Go.Proofs.Ytpoijjfbgfiboaa
open Go

/-! ### frames -/
/-- A call that needs U alone leaves what V sees beside U as it was. -/
theorem CallV.frameS {P : Program} {f : FuncId} {args : Array Value} {U V : View} {K : Value → View → Prop} (hU : U.Le V) (h : CallV P f args U K) :
    CallV P f args V fun r V' => ∃ U', K r U' ∧ U'.Le V' ∧ V.size ≤ V'.size ∧ (∀ i o, U.see i = none → V.see i = some o → V'.see i = some o ∧ U'.see i = none) := by
  refine ⟨h.1, fun w hw => (h.2 w (hU.In hw)).mono fun e w' ⟨r, U', he, hi, hf, hr⟩ => ?_⟩
  have hlt : ∀ i o, V.see i = some o → i < w.heap.size := fun i o ho => Nat.lt_of_lt_of_le (V.lt i o ho) hw.size
  let V' : View := ⟨max U'.size V.size, fun i => match U'.see i with
    | some o => some o
    | none => match U.see i with
      | some _ => none
      | none => V.see i, U'.out, fun i o ho => by
        cases h1 : U'.see i with
        | some o1 => have := U'.lt i o1 h1; omega
        | none =>
          simp only [h1] at ho
          cases h2 : U.see i with
          | some o2 => simp [h2] at ho
          | none => simp only [h2] at ho; have := V.lt i o ho; omega⟩
  refine ⟨r, V', he, ⟨?_, ?_, hi.out⟩, ⟨hf.size, ?_, hf.drawn⟩, U', hr, ⟨Nat.le_max_left _ _, ?_, rfl⟩, Nat.le_max_right _ _, ?_⟩
  · have h1 := hi.size; have h2 := hw.size; have h3 := hf.size
    show max U'.size V.size ≤ _
    omega
  · intro i o ho
    change (match U'.see i with
      | some o => some o
      | none => match U.see i with
        | some _ => none
        | none => V.see i) = some o at ho
    cases h1 : U'.see i with
    | some o1 => rw [h1] at ho; exact hi.see i o (by rw [h1]; exact ho)
    | none =>
      rw [h1] at ho
      cases h2 : U.see i with
      | some o2 => rw [h2] at ho; cases ho
      | none =>
        rw [h2] at ho
        have hl := hlt i o ho
        rw [(hf.hid i hl h2).2]
        exact hw.see i o ho
  · intro i hl hn
    have h2 : U.see i = none := by
      cases h2 : U.see i with
      | none => rfl
      | some o => rw [hU.see i o h2] at hn; cases hn
    have h3 := hf.hid i hl h2
    refine ⟨?_, h3.2⟩
    show (match U'.see i with
      | some o => some o
      | none => match U.see i with
        | some _ => none
        | none => V.see i) = none
    rw [h3.1, h2]; exact hn
  · intro i o ho
    show (match U'.see i with
      | some o => some o
      | none => match U.see i with
        | some _ => none
        | none => V.see i) = some o
    rw [ho]
  · intro i o h2 ho
    have h3 := hf.hid i (hlt i o ho) h2
    refine ⟨?_, h3.1⟩
    show (match U'.see i with
      | some o => some o
      | none => match U.see i with
        | some _ => none
        | none => V.see i) = some o
    rw [h3.1, h2]; exact ho

theorem CallV.frame {P : Program} {f : FuncId} {args : Array Value} {U V : View} {K : Value → View → Prop} (hU : U.Le V) (h : CallV P f args U K) :
    CallV P f args V fun r V' => ∃ U', K r U' ∧ U'.Le V' ∧ (∀ i o, U.see i = none → V.see i = some o → V'.see i = some o ∧ U'.see i = none) :=
  (CallV.frameS hU h).mono fun _ _ ⟨U', a, b, _, c⟩ => ⟨U', a, b, c⟩
/-- A call that only adds to what it needs only adds to what is seen. -/
theorem CallV.frameG {P : Program} {f : FuncId} {args : Array Value} {U V : View} {K : Value → View → Prop} (hU : U.Le V) (h : CallV P f args U fun r U' => K r U' ∧ U.Le U') :
    CallV P f args V fun r V' => ∃ U', K r U' ∧ U.Le U' ∧ U'.Le V' ∧ V.Le V' ∧ (∀ i o, U.see i = none → V.see i = some o → U'.see i = none) := by
  refine (CallV.frameS hU h).mono ?_
  rintro r V' ⟨U', ⟨hk, hle⟩, h2, h3, h4⟩
  refine ⟨U', hk, hle, h2, ⟨h3, fun i o ho => ?_, h2.out.trans (hle.out.trans hU.out.symm)⟩, fun i o h5 h6 => (h4 i o h5 h6).2⟩
  cases hs : U.see i with
  | none => exact (h4 i o hs ho).1
  | some o' =>
    have e := hU.see i o' hs
    rw [ho] at e
    cases e
    exact h2.see _ _ (hle.see _ _ hs)

/-! ### addresses, cells -/
theorem Addr.add_zero (a : Addr) : a.add 0 = a := by simp [Addr.add]
theorem Addr.add_add (a : Addr) (m n : Nat) : (a.add m).add n = a.add (m + n) := by
  unfold Addr.add
  by_cases h : m = 0 <;> by_cases k : n = 0 <;> simp [h, k] <;> omega
theorem Addr.add_block (a : Addr) (n : Nat) : (a.add n).block = a.block := by unfold Addr.add; split <;> rfl
theorem map_add_zero (a : Option Addr) : Option.map (fun (x : Addr) => Addr.add x 0) a = a := by cases a <;> simp [Addr.add_zero]
theorem cellsAt_mono {V V' : View} (h : V.Le V') {a : Addr} {vs : List Value} (hc : cellsAt V a vs) : cellsAt V' a vs := fun j v hj => h.cell (hc j v hj)
theorem cellsAt_one {V : View} {a : Addr} {v : Value} : cellsAt V a [v] ↔ V.cell? a = some v := by
  constructor
  · intro h; have := h 0 v rfl; rwa [Addr.add_zero] at this
  · intro h j x hj
    cases j with
    | zero => simp at hj; subst hj; rwa [Addr.add_zero]
    | succ j => simp at hj
theorem cellsAt_append {V : View} {a : Addr} {vs us : List Value} : cellsAt V a (vs ++ us) ↔ cellsAt V a vs ∧ cellsAt V (a.add vs.length) us := by
  constructor
  · intro h
    refine ⟨fun j v hj => h j v (by rw [List.getElem?_append_left (List.getElem?_eq_some_iff.1 hj).1]; exact hj), fun j v hj => ?_⟩
    rw [Addr.add_add]
    exact h _ v (by rw [List.getElem?_append_right (by omega)]; simpa using hj)
  · rintro ⟨h1, h2⟩ j v hj
    by_cases hl : j < vs.length
    · rw [List.getElem?_append_left hl] at hj; exact h1 j v hj
    · rw [List.getElem?_append_right (by omega)] at hj
      have := h2 _ v hj
      rw [Addr.add_add] at this
      rwa [show vs.length + (j - vs.length) = j by omega] at this
theorem cell_of_see {V : View} {b : Nat} {cs : List Value} {e : TypeId} {f : Nat × Nat} (h : V.see b = some (.cells ⟨cs⟩ e f)) {i : Nat} {v : Value} (hv : cs[i]? = some v) :
    V.cell? ⟨b, i, none⟩ = some v := by
  unfold View.cell?
  simp [h, hv]
theorem addr0_add (b i n : Nat) : (⟨b, i, none⟩ : Addr).add n = ⟨b, i + n, none⟩ := addr_add b i n
theorem cellsAt_of_see {V : View} {b : Nat} {cs : List Value} {e : TypeId} {f : Nat × Nat} (h : V.see b = some (.cells ⟨cs⟩ e f)) {i : Nat} {vs : List Value}
    (hv : ∀ j v, vs[j]? = some v → cs[i + j]? = some v) : cellsAt V ⟨b, i, none⟩ vs := fun j v hj => by
  rw [addr0_add]; exact cell_of_see h (hv j v hj)

/-! ### data -/
class Rep (α : Type) where
  sz : Nat
  pos : 0 < sz
  rep : View → List Value → α → Prop
  len : ∀ {V vs x}, rep V vs x → vs.length = sz
  one : ∀ {V vs x}, rep V vs x → vs.all Value.oneCell' = true
  mono : ∀ {V V' vs x}, V.Le V' → rep V vs x → rep V' vs x

/-- A row of data: no element is written by anybody as long as V is seen. -/
structure SlR {α : Type} [Rep α] (V : View) (s : Sl) (l : List α) : Prop where
  n : s.n = l.length
  c : s.n ≤ s.c
  lim : s.n ≤ 9223372036854775807
  get : ∀ i (h : i < l.length), ∃ ad vs, s.a = some ad ∧ cellsAt V (ad.add (i * Rep.sz α)) vs ∧ Rep.rep V vs l[i]
theorem SlR.mono {α : Type} [Rep α] {V V' : View} {s : Sl} {l : List α} (hV : V.Le V') (h : SlR V s l) : SlR V' s l :=
  ⟨h.n, h.c, h.lim, fun i hi => let ⟨ad, vs, ha, hc, hr⟩ := h.get i hi; ⟨ad, vs, ha, cellsAt_mono hV hc, Rep.mono hV hr⟩⟩
theorem SlR.nil {α : Type} [Rep α] (V : View) (a : Option Addr) (c : Nat) : SlR (α := α) V ⟨a, 0, c⟩ [] := ⟨rfl, Nat.zero_le _, Nat.zero_le _, fun _ h => absurd h (by simp)⟩

instance : Rep Int where
  sz := 1
  pos := Nat.one_pos
  rep _ vs x := vs = [.int .i64 x] ∧ inI .i64 x
  len h := by rw [h.1]; rfl
  one h := by rw [h.1]; rfl
  mono _ h := h
instance : Rep Bool where
  sz := 1
  pos := Nat.one_pos
  rep _ vs x := vs = [.bool x]
  len h := by rw [h]; rfl
  one h := by rw [h]; rfl
  mono _ h := h
instance : Rep UInt8 where
  sz := 1
  pos := Nat.one_pos
  rep _ vs x := vs = [.int .u8 x.toNat]
  len h := by rw [h]; rfl
  one h := by rw [h]; rfl
  mono _ h := h
instance : Rep ByteArray where
  sz := 1
  pos := Nat.one_pos
  rep _ vs x := vs = [.string x] ∧ x.size ≤ 9223372036854775807
  len h := by rw [h.1]; rfl
  one h := by rw [h.1]; rfl
  mono _ h := h
instance {α : Type} [Rep α] : Rep (List α) where
  sz := 1
  pos := Nat.one_pos
  rep V vs x := ∃ s : Sl, vs = [.slice s.a s.n s.c] ∧ SlR V s x
  len h := by obtain ⟨s, h, _⟩ := h; rw [h]; rfl
  one h := by obtain ⟨s, h, _⟩ := h; rw [h]; rfl
  mono hV h := let ⟨s, h, k⟩ := h; ⟨s, h, k.mono hV⟩

theorem SlR.ld {α : Type} [Rep α] {V : View} {s : Sl} {l : List α} (h : SlR V s l) {x : Int} (h0 : 0 ≤ x) (h1 : x < s.n) :
    ∃ ad vs, ∃ hx : x.toNat < l.length, s.a = some ad ∧ cellsAt V (ad.add (x.toNat * Rep.sz α)) vs ∧ Rep.rep V vs l[x.toNat] := by
  have hx : x.toNat < l.length := by have := h.n; omega
  obtain ⟨ad, vs, h⟩ := h.get x.toNat hx
  exact ⟨ad, vs, hx, h⟩
theorem SlR.int {V : View} {s : Sl} {l : List Int} (h : SlR V s l) {x : Int} (h0 : 0 ≤ x) (h1 : x < s.n) :
    ∃ ad, ∃ hx : x.toNat < l.length, s.a = some ad ∧ V.cell? (ad.add (x.toNat * 1)) = some (.int .i64 l[x.toNat]) ∧ inI .i64 l[x.toNat] := by
  obtain ⟨ad, vs, hx, ha, hc, rfl, hi⟩ := h.ld h0 h1
  exact ⟨ad, hx, ha, cellsAt_one.1 hc, hi⟩
theorem SlR.bool {V : View} {s : Sl} {l : List Bool} (h : SlR V s l) {x : Int} (h0 : 0 ≤ x) (h1 : x < s.n) :
    ∃ ad, ∃ hx : x.toNat < l.length, s.a = some ad ∧ V.cell? (ad.add (x.toNat * 1)) = some (.bool l[x.toNat]) := by
  obtain ⟨ad, vs, hx, ha, hc, rfl⟩ := h.ld h0 h1
  exact ⟨ad, hx, ha, cellsAt_one.1 hc⟩
theorem SlR.u8 {V : View} {s : Sl} {l : List UInt8} (h : SlR V s l) {x : Int} (h0 : 0 ≤ x) (h1 : x < s.n) :
    ∃ ad, ∃ hx : x.toNat < l.length, s.a = some ad ∧ V.cell? (ad.add (x.toNat * 1)) = some (.int .u8 l[x.toNat].toNat) := by
  obtain ⟨ad, vs, hx, ha, hc, rfl⟩ := h.ld h0 h1
  exact ⟨ad, hx, ha, cellsAt_one.1 hc⟩
theorem SlR.str {V : View} {s : Sl} {l : List ByteArray} (h : SlR V s l) {x : Int} (h0 : 0 ≤ x) (h1 : x < s.n) :
    ∃ ad, ∃ hx : x.toNat < l.length, s.a = some ad ∧ V.cell? (ad.add (x.toNat * 1)) = some (.string l[x.toNat]) ∧ l[x.toNat].size ≤ 9223372036854775807 := by
  obtain ⟨ad, vs, hx, ha, hc, rfl, hi⟩ := h.ld h0 h1
  exact ⟨ad, hx, ha, cellsAt_one.1 hc, hi⟩
/-- A part of a row. -/
theorem SlR.sub {α : Type} [Rep α] {V : View} {s : Sl} {l : List α} (h : SlR V s l) {i j : Nat} (hij : i ≤ j) (hj : j ≤ l.length) :
    SlR V ⟨if s.c = i then s.a else s.a.map fun x => x.add (i * Rep.sz α), j - i, s.c - i⟩ ((l.take j).drop i) := by
  have hn := h.n; have hc := h.c
  refine ⟨by simp; omega, by show j - i ≤ s.c - i; omega, by have := h.lim; show j - i ≤ _; omega, fun k hk => ?_⟩
  have hk' : i + k < l.length := by simp at hk; omega
  obtain ⟨ad, vs, ha, hcs, hr⟩ := h.get (i + k) hk'
  have hne : s.c ≠ i := by simp at hk; omega
  refine ⟨ad.add (i * Rep.sz α), vs, by simp [hne, ha], ?_, ?_⟩
  · rw [Addr.add_add, ← Nat.add_mul]; exact hcs
  · simpa using hr
theorem SlR.take {α : Type} [Rep α] {V : View} {s : Sl} {l : List α} (h : SlR V s l) {j : Nat} (hj : j ≤ l.length) : SlR V ⟨s.a, j, s.c⟩ (l.take j) := by
  have := h.sub (Nat.zero_le j) hj
  simpa [map_add_zero] using this

/-! ### rows that this call made and that grow -/
def View.minus (V : View) (x : Sl) : View := match x.a with
  | none => V
  | some a => V.hide a.block
theorem View.minus_le (V : View) (x : Sl) : (V.minus x).Le V := by
  unfold View.minus; split
  · exact View.Le.refl V
  · exact View.hide_le V _
/-- The row x is the call's own; its cells so far are cs (elements of sz cells). -/
structure Buf (V : View) (x : Sl) (e : TypeId) (sz : Nat) (cs : List Value) : Prop where
  len : cs.length = x.n * sz
  le : x.n ≤ x.c
  lim : x.n ≤ 140737488355328
  own : (x.a = none ∧ x.c = 0) ∨ ∃ r all, x.a = some ⟨r, 0, none⟩ ∧ V.see r = some (.cells ⟨all⟩ e (0, 0)) ∧ all.length = x.c * sz ∧ all.take (x.n * sz) = cs
theorem Buf.nil (V : View) (e : TypeId) (sz : Nat) : Buf V ⟨none, 0, 0⟩ e sz [] := ⟨by simp, Nat.le_refl _, Nat.zero_le _, .inl ⟨rfl, rfl⟩⟩
theorem Buf.mono {V V' : View} {x : Sl} {e : TypeId} {sz : Nat} {cs : List Value} (h : Buf V x e sz cs) (hV : V.Le V') : Buf V' x e sz cs :=
  ⟨h.len, h.le, h.lim, h.own.imp id fun ⟨r, all, a, b, c⟩ => ⟨r, all, a, hV.see _ _ b, c⟩⟩
theorem minus_mono {V V' : View} (h : V.Le V') (x : Sl) : (V.minus x).Le (V'.minus x) := by
  unfold View.minus; split
  · exact h
  · refine ⟨h.size, fun i o ho => ?_, h.out⟩
    unfold View.hide at *
    simp only at *
    split at ho
    · cases ho
    · rename_i hne; rw [if_neg hne]; exact h.see i o ho
theorem Buf.row {V : View} {x : Sl} {e : TypeId} {sz : Nat} {cs : List Value} (h : Buf V x e sz cs) : rowAt V x.a (x.n * sz) cs := by
  rcases h.own with ⟨ha, hc⟩ | ⟨r, all, ha, hs, hl, ht⟩
  · have h0 : x.n = 0 := by have := h.le; omega
    rw [ha]
    show cs = []
    have := h.len
    rw [h0] at this
    simpa using this
  · rw [ha]
    refine ⟨h.len, fun j v hj => ?_⟩
    rw [addr0_add]
    refine cell_of_see hs ?_
    rw [← ht] at hj
    rw [List.getElem?_take] at hj
    split at hj
    · simpa using hj
    · cases hj
theorem putL_eq : ∀ (vs cs : List Value) (off : Nat), off + vs.length ≤ cs.length → putL cs off vs = cs.take off ++ vs ++ cs.drop (off + vs.length)
  | [], cs, off, _ => by simp [putL]
  | v :: vs, cs, off, h => by
    simp only [List.length_cons] at h
    rw [putL, putL_eq vs _ _ (by simp; omega)]
    rw [List.drop_set_of_lt (by omega), List.take_add_one, List.getElem?_set_self (by omega), List.take_set, List.set_eq_of_length_le (by simp; omega)]
    simp [Nat.add_assoc, Nat.add_comm 1]
theorem setObj_cells (e : TypeId) (f : Nat × Nat) (vs cs : List Value) (off : Nat) : setObj (.cells ⟨cs⟩ e f) off vs = .cells ⟨putL cs off vs⟩ e f := putL_setObj e f vs cs off
theorem sets_see {V : View} {r off : Nat} {cs vs : List Value} {e : TypeId} {f : Nat × Nat} (h : V.see r = some (.cells ⟨cs⟩ e f)) : V.sets ⟨r, off, none⟩ vs = V.put r (.cells ⟨putL cs off vs⟩ e f) := by
  unfold View.sets
  simp only [h, setObj_cells]
theorem canSet_of {V : View} {r off k : Nat} {cs : List Value} {e : TypeId} (h : V.see r = some (.cells ⟨cs⟩ e (0, 0))) (hk : off + k ≤ cs.length) : canSet V ⟨r, off, none⟩ k :=
  ⟨rfl, ⟨cs⟩, e, (0, 0), h, by simpa using hk, fun j _ hf => by simp at hf⟩
theorem hide_le_put {V : View} (r : Nat) (o : Obj) : (V.hide r).Le (V.put r o) :=
  ⟨Nat.le_max_left _ _, fun i o' h => by
    unfold View.hide at h
    simp only at h
    split at h
    · cases h
    · rename_i hne; rw [View.see_put_ne V o hne]; exact h, rfl⟩
theorem hide_le_put_hide {V : View} (r : Nat) (o : Obj) : (V.hide r).Le ((V.put r o).hide r) :=
  ⟨Nat.le_max_left _ _, fun i o' h => by
    unfold View.hide at *
    simp only at *
    split at h
    · cases h
    · rename_i hne; rw [if_neg hne, View.see_put_ne V o hne]; exact h, rfl⟩
/-- What is appended stands behind; all else is as it was. -/
theorem apV_buf {V : View} {e : TypeId} {sz bytes : Nat} {zero : List Value} {x : Sl} {y : Value} {C : Sl → View → Prop} {cs src : List Value} {m : Nat} (hz : zero.length = sz)
    (hb : Buf V x e sz cs) (hs : srcAt V sz zero y m src) (hl : src.length = m * sz) (h1 : src.all Value.oneCell' = true) (hm : (x.n + m) * bytes ≤ 140737488355328) (hm2 : x.n + m ≤ 140737488355328)
    (hC : ∀ s V', Buf V' s e sz (cs ++ src) → s.n = x.n + m → (V.minus x).Le (V'.minus s) → C s V') : apV V e sz bytes zero x y C := by
  refine ⟨cs, src, m, hb.row, hs, h1, hm, hm2, fun hle => ?_, fun hlt r cap hr hcap => ?_⟩
  · rcases hb.own with ⟨ha, hc⟩ | ⟨r, all, ha, hsee, hal, htk⟩
    · rw [ha]
      have hn0 : x.n = 0 := by have := hb.le; omega
      have hm0 : m = 0 := by omega
      have e1 : src = [] := by rw [← List.length_eq_zero_iff, hl, hm0]; simp
      have e2 : cs = [] := by rw [← List.length_eq_zero_iff, hb.len, hn0]; simp
      refine hC _ _ ⟨by simp [e1, e2, hn0, hm0], by show x.n + m ≤ x.c; omega, hm2, .inl ⟨rfl, hc⟩⟩ rfl ?_
      unfold View.minus; rw [ha]; exact View.Le.refl V
    · rw [ha]
      have hfit : x.n * sz + src.length ≤ all.length := by rw [hl, hal, ← Nat.add_mul]; exact Nat.mul_le_mul_right _ hle
      have e0 : (⟨r, 0, none⟩ : Addr).add (x.n * sz) = ⟨r, x.n * sz, none⟩ := by rw [addr0_add]; simp
      show canSet V ((⟨r, 0, none⟩ : Addr).add (x.n * sz)) src.length ∧ C ⟨some ⟨r, 0, none⟩, x.n + m, x.c⟩ (V.sets ((⟨r, 0, none⟩ : Addr).add (x.n * sz)) src)
      rw [e0]
      refine ⟨canSet_of hsee hfit, ?_⟩
      rw [sets_see hsee, putL_eq _ _ _ hfit]
      refine hC _ _ ⟨by simp [hb.len, hl, Nat.add_mul], by show x.n + m ≤ x.c; omega, hm2, .inr ⟨r, _, rfl, View.see_put_same _ _ _, ?_, ?_⟩⟩ rfl ?_
      · simp only [List.length_append, List.length_take, List.length_drop]; omega
      · rw [htk]
        rw [List.take_append_of_le_length (by simp [hb.len, hl, Nat.add_mul])]
        rw [List.take_of_length_le (by simp [hb.len, hl, Nat.add_mul])]
      · unfold View.minus
        rw [ha]
        exact hide_le_put_hide r _
  · have hfr : V.see r = none := View.see_none_of_ge hr
    refine hC _ _ ⟨by simp [hb.len, hl, Nat.add_mul], hcap, hm2, .inr ⟨r, _, rfl, View.see_put_same _ _ _, ?_, ?_⟩⟩ rfl ?_
    · simp [hb.len, hl, hz, List.length_flatten, Nat.sub_mul, Nat.add_mul]
      have := Nat.mul_le_mul_right sz hcap
      rw [Nat.add_mul] at this
      omega
    · rw [List.take_append_of_le_length (by simp [hb.len, hl, Nat.add_mul])]
      rw [List.take_of_length_le (by simp [hb.len, hl, Nat.add_mul])]
    · have h2 : V.Le ((V.put r (.cells (cs ++ src ++ (List.replicate (cap - (x.n + m)) zero).flatten).toArray e (0, 0))).hide r) :=
        ⟨Nat.le_max_left _ _, fun i o ho => by
          have hne : i ≠ r := fun h => by rw [h, hfr] at ho; cases ho
          show (if i = r then none else View.see (V.put r _) i) = some o
          rw [if_neg hne, View.see_put_ne V _ hne]; exact ho, rfl⟩
      exact (View.minus_le V x).trans h2
/-- Cells of a row of data. -/
def repL {α : Type} [Rep α] (W : View) : List Value → List α → Prop
  | cs, [] => cs = []
  | cs, x :: l => ∃ vs us, cs = vs ++ us ∧ Rep.rep W vs x ∧ repL W us l
theorem repL.mono {α : Type} [Rep α] {W W' : View} (h : W.Le W') : ∀ {cs : List Value} {l : List α}, repL W cs l → repL W' cs l
  | _, [], hr => hr
  | _, _ :: _, ⟨vs, us, e, h1, h2⟩ => ⟨vs, us, e, Rep.mono h h1, repL.mono h h2⟩
theorem repL.snoc {α : Type} [Rep α] {W : View} : ∀ {cs : List Value} {l : List α} {vs : List Value} {x : α}, repL W cs l → Rep.rep W vs x → repL W (cs ++ vs) (l ++ [x])
  | _, [], vs, x, h, hx => by cases h; exact ⟨vs, [], by simp, hx, rfl⟩
  | _, y :: l, vs, x, ⟨ws, us, e, h1, h2⟩, hx => ⟨ws, us ++ vs, by rw [e, List.append_assoc], h1, repL.snoc h2 hx⟩
theorem repL.append {α : Type} [Rep α] {W : View} : ∀ {cs ds : List Value} {l m : List α}, repL W cs l → repL W ds m → repL W (cs ++ ds) (l ++ m)
  | _, _, [], m, h, hm => by cases h; simpa using hm
  | _, _, y :: l, m, ⟨ws, us, e, h1, h2⟩, hx => ⟨ws, us ++ _, by rw [e, List.append_assoc], h1, repL.append h2 hx⟩
theorem repL.len {α : Type} [Rep α] {W : View} : ∀ {cs : List Value} {l : List α}, repL W cs l → cs.length = l.length * Rep.sz α
  | _, [], h => by cases h; simp
  | _, _ :: _, ⟨vs, us, e, h1, h2⟩ => by rw [e, List.length_append, Rep.len h1, repL.len h2, List.length_cons, Nat.add_mul]; omega
theorem repL.one {α : Type} [Rep α] {W : View} : ∀ {cs : List Value} {l : List α}, repL W cs l → cs.all Value.oneCell' = true
  | _, [], h => by cases h; rfl
  | _, _ :: _, ⟨vs, us, e, h1, h2⟩ => by rw [e, List.all_append, Rep.one h1, repL.one h2]; rfl
theorem repL.get {α : Type} [Rep α] {W : View} : ∀ {cs : List Value} {l : List α}, repL W cs l → ∀ i (h : i < l.length), ∃ vs, Rep.rep W vs l[i] ∧ ∀ j v, vs[j]? = some v → cs[i * Rep.sz α + j]? = some v
  | _, [], _, i, h => absurd h (by simp)
  | _, x :: l, ⟨vs, us, e, h1, h2⟩, 0, _ => ⟨vs, h1, fun j v hj => by
      rw [e, Nat.zero_mul, Nat.zero_add, List.getElem?_append_left (List.getElem?_eq_some_iff.1 hj).1]; exact hj⟩
  | _, x :: l, ⟨vs, us, e, h1, h2⟩, i + 1, h => by
    obtain ⟨ws, hr, hg⟩ := repL.get h2 i (by simpa using h)
    refine ⟨ws, hr, fun j v hj => ?_⟩
    rw [e, List.getElem?_append_right (by rw [Rep.len h1, Nat.add_mul]; omega), Rep.len h1, Nat.add_mul]
    rw [show i * Rep.sz α + 1 * Rep.sz α + j - Rep.sz α = i * Rep.sz α + j by omega]
    exact hg j v hj
theorem Buf.slR {α : Type} [Rep α] {W V : View} {x : Sl} {e : TypeId} {cs : List Value} {l : List α} (h : Buf V x e (Rep.sz α) cs) (hr : repL W cs l) (hW : W.Le V) : SlR V x l := by
  have hn : x.n = l.length := Nat.eq_of_mul_eq_mul_right (Rep.pos (α := α)) (h.len.symm.trans hr.len)
  refine ⟨hn, h.le, Nat.le_trans h.lim (by decide), fun i hi => ?_⟩
  obtain ⟨vs, hv, hg⟩ := hr.get i hi
  rcases h.own with ⟨ha, hc⟩ | ⟨r, all, ha, hs, hl, ht⟩
  · have := h.le; omega
  · refine ⟨_, vs, ha, ?_, Rep.mono hW hv⟩
    rw [addr0_add]
    refine cellsAt_of_see hs fun j v hj => ?_
    have := hg j v hj
    rw [← ht, List.getElem?_take] at this
    split at this
    · simpa using this
    · cases this
/-- The cells of a row of data, read. -/
theorem SlR.row {α : Type} [Rep α] {V : View} {s : Sl} {l : List α} (h : SlR V s l) : ∃ cs, rowAt V s.a (s.n * Rep.sz α) cs ∧ repL V cs l := by
  have hn := h.n; have hg := h.get
  suffices key : ∀ (k : Nat), k ≤ l.length → ∃ cs, repL V cs (l.take k) ∧ (∀ ad, s.a = some ad → cellsAt V ad cs) from by
    obtain ⟨cs, h1, h2⟩ := key l.length (Nat.le_refl _)
    rw [List.take_length] at h1
    refine ⟨cs, ?_, h1⟩
    cases ha : s.a with
    | none =>
      show cs = []
      cases l with
      | nil => exact h1
      | cons x l => obtain ⟨ad, _, h', _⟩ := hg 0 (by simp); rw [ha] at h'; cases h'
    | some ad => exact ⟨by rw [h1.len, hn], h2 ad ha⟩
  intro k
  induction k with
  | zero => intro _; exact ⟨[], by simp [repL], fun ad _ j v hj => by simp at hj⟩
  | succ k ih =>
    intro hk
    obtain ⟨cs, h1, h2⟩ := ih (by omega)
    obtain ⟨ad, vs, ha, hc, hr⟩ := hg k (by omega)
    refine ⟨cs ++ vs, ?_, fun ad' ha' => ?_⟩
    · rw [List.take_add_one, List.getElem?_eq_getElem (by omega)]
      exact h1.snoc hr
    · rw [ha] at ha'; cases ha'
      refine cellsAt_append.2 ⟨h2 ad ha, ?_⟩
      rw [h1.len, List.length_take, Nat.min_eq_left (by omega)]
      exact hc
end Go.Proofs.Ytpoijjfbgfiboaa

/- From a call over views to a row; how arguments are read. -/
namespace Go.Proofs.Ytpoijjfbgfiboaa
open Go Go.RowKit Go.ChangeShapes Go.WideShapes

theorem own : ownKnob Try.prog.godebug = none := by kernel_rfl
theorem laidOut : laidOutB Try.prog = true := by kernel_rfl
theorem rowed : mapsRowed Try.prog = true := by kernel_rfl

section
variable {H : Type} {enc : TypeId × Value → H} {P : Program}
/-- The world is as it was, but for what is new. -/
theorem below_of_le {W W' : World} {V' : View} (h : V'.In W') (hl : (View.all W).Le V') : Below W.heap.size W W' := by
  have ho : World.outer W' = World.outer W := h.out.trans hl.out
  unfold World.outer at ho
  simp only [Prod.mk.injEq] at ho
  refine ⟨ho.1, ho.2.1, ho.2.2, Nat.le_trans hl.size h.size, fun k hk => ?_⟩
  have h1 : W.heap[k]? = some W.heap[k] := Array.getElem?_eq_getElem hk
  rw [h1]
  exact h.see k _ (hl.see k _ h1)
theorem same_of_below {W W' : World} (hb : Below W.heap.size W W') : ∀ p : MemPlace, p.block < W.heap.size → W.sameAt W' p := by
  intro p hp
  cases p with
  | cell b off =>
    have := hb.block b hp
    show W'.cell? _ = W.cell? _
    unfold World.cell?
    simp only [this]
  | map b => exact hb.block b hp
theorem trodAll_stays {t0 : TypeId → Prop} (K : Kids P t0) (hsz : ∀ {t e : TypeId}, t0 t → P.underlying t = some (.slice e) → 0 < P.cellsOf e) {W W' : World} (hb : Below W.heap.size W W') :
    ∀ {ts : List TypeId} {vs : List Value} {ds : List (DataW H)} {ps : List MemPlace}, (∀ t ∈ ts, t0 t) → DataW.TrodAll enc P W 0 (fun _ => true) true ts vs ds ps →
      DataW.TrodAll enc P W' 0 (fun b => decide (b < W.heap.size)) true ts vs ds ps
  | [], [], [], _, _, h => h
  | t :: ts, v :: vs, d :: ds, ps, ht, ⟨p, q, ⟨fuel, h1⟩, h2, e⟩ => by
    refine ⟨p, q, ⟨fuel, ?_⟩, trodAll_stays K hsz hb (fun t h => ht t (by simp [h])) h2, e⟩
    have hlt := DataW.trod_lt fuel t v.cells.toList _ h1
    exact DataW.trod_stays K hsz (fun h => by cases h) (ht t (by simp)) h1 (fun p hp => same_of_below hb p (hlt p hp)) (fun p hp => by simpa using hlt p hp)
/-- A call that answers true and changes nothing is what the row asks. -/
theorem post_true {f : Func} {s : ChangeSpec} {apart fresh handsOn : Bool} {t0 : TypeId → Prop} (K : Kids P t0) (hsz : ∀ {t e : TypeId}, t0 t → P.underlying t = some (.slice e) → 0 < P.cellsOf e) {W : World} {args : Array Value} {ds gs : List (DataW H)} {before : List MemPlace} {tb : TypeId}
    (hv : s.vars = []) (hr : f.resultTypes = #[tb]) (hb : P.underlying tb = some .bool) (hts : ∀ t ∈ f.params.toList, t0 t)
    (hW : DataW.Whole enc P f.params.toList s.vars apart W args.toList ds gs before) (hs : s.fn H (ds ++ gs) = { results := [.lit (.bool true)], args := ds })
    {F : FuncId} (hc : CallV P F args (View.all W) fun r V' => r = .bool true ∧ (View.all W).Le V') :
    Calls P F args W fun e W' => ∃ v, e = .returned v ∧ s.post enc P f apart fresh handsOn false W args v W' := by
  refine (hc.2 W (View.all_in W)).mono ?_
  rintro e W' ⟨r, V', rfl, hin, _, rfl, hle⟩
  have hbl := below_of_le hin hle
  obtain ⟨p, q, hA, hV, rfl, hfz, hnd⟩ := hW
  have hq : gs = [] ∧ q = [] := by
    rw [hv] at hV
    cases gs with
    | nil => exact ⟨rfl, hV⟩
    | cons g r => exact absurd hV (by intro h; cases h)
  obtain ⟨rfl, rfl⟩ := hq
  refine ⟨_, rfl, ds, [], p ++ [], [], p, [], ⟨p, [], hA, hV, rfl, hfz, hnd⟩, ?_, ?_, ?_, hbl.frame _, fun h => by cases h⟩
  · rw [hs, hr]; exact trodAll_mk1 (shut_bool hb true)
  · rw [hs]; exact trodAll_stays K hsz hbl hts hA
  · rw [hs, hv]; rfl
theorem params_lt {f : Func} (h : (f.params.toList.all fun t => decide (t < P.types.size)) = true) : ∀ t ∈ f.params.toList, t < P.types.size := fun t ht => by
  simpa using List.all_eq_true.1 h t ht
/-- The wrap that keeps both: what the listed variables read as, and the world's shape. -/
theorem handed_both {a : Assume} {C : Checked} {os : Os} {f : FuncId} {fn : Func} {s : ChangeSpec} {conds : List PathCond} {apart fresh handsOn again : Bool} {X : World → Array Value → Prop}
    (_hX : ∀ (w w' : World) (args : Array Value), w.heap = w'.heap → X w args → X w' args)
    (own : ownKnob C.prog.godebug = none) (started : os.Started) (noInit : C.prog.inits.idxOf? f = none) (hfn : C.prog.funcs[f]? = some fn)
    (witness : ∃ (w : World) (tape : Tape) (i : Input), w.os = os ∧ (w.forCall tape i).Shaped C.prog ∧ i.vars = [] ∧ Input.okWide C.prog (w.forCall tape i) .any w.heap.size f i ∧
      ((s.pre enc C.prog fn conds apart (w.forCall tape i).memory i.args ∧ X (w.forCall tape i).memory i.args) ∧ sizedMet enc C.prog fn (OpenSpec.ofChange s) apart (w.forCall tape i).memory i.args) ∧ a.holds C.prog (lone (Frame.enter C.prog f i.args .normal) [] (w.forCall tape i)))
    (contract : ∀ (W : World) (base : Nat) (args : Array Value) (ds gs : List (DataW H)) (before : List MemPlace),
      (∀ (j : Nat) t v, fn.params[j]? = some t → args[j]? = some v → Value.okWide C.prog W .any base t v) →
      DataW.Whole enc C.prog fn.params.toList s.vars apart W args.toList ds gs before → W.ShapedOpen C.prog →
      Calls C.prog f args W fun e W' => ∃ v, e = .returned v ∧ s.post enc C.prog fn apart fresh handsOn again W args v W') :
    ReturnsInHanded a C os f .any (fun w args => (s.pre enc C.prog fn conds apart w args ∧ X w args) ∧ sizedMet enc C.prog fn (OpenSpec.ofChange s) apart w args) (s.post enc C.prog fn apart fresh handsOn again) := by
  refine returnsInHanded_of_calls own started noInit witness ?_
  intro w tape i _ hsh _ hok hpre hholds
  obtain ⟨_, _, _, fn', hfn', _, _, _, _, hval⟩ := hok
  have e : fn' = fn := Option.some.inj (hfn'.symm.trans hfn)
  subst e
  obtain ⟨⟨⟨ds, gs, before, hw, hc⟩, hx⟩, hz⟩ := hpre
  have hw' := DataW.Whole.of_heap (w' := w.forCall tape i) (by rfl) hw
  refine (contract (w.forCall tape i) w.heap.size i.args ds gs before hval hw' hsh).mono fun e W' ⟨v, he, hp⟩ => ?_
  subst he
  exact ChangeSpec.post_blind hp
end
end Go.Proofs.Ytpoijjfbgfiboaa

/- Small things. -/
namespace Go.Proofs.Ytpoijjfbgfiboaa
open Go
theorem inI64 {n : Int} (h1 : -9223372036854775808 ≤ n) (h2 : n ≤ 9223372036854775807) : inI .i64 n := ⟨h1, h2⟩
theorem inI64_iff {n : Int} : inI .i64 n ↔ -9223372036854775808 ≤ n ∧ n ≤ 9223372036854775807 := Iff.rfl
theorem one64 : inI .i64 1 := inI64 (by decide) (by decide)
theorem two64 : inI .i64 2 := inI64 (by decide) (by decide)
theorem zero64 : inI .i64 0 := inI64 (by decide) (by decide)
/-- The place of the first of which p holds; -1: there is none. -/
def idxI {α : Type} (p : α → Bool) : List α → Int
  | [] => -1
  | x :: l => if p x then 0 else match idxI p l with
    | .ofNat n => n + 1
    | .negSucc _ => -1
theorem idxI_range {α : Type} (p : α → Bool) : ∀ l : List α, idxI p l = -1 ∧ l.any p = false ∨ (0 ≤ idxI p l ∧ idxI p l < l.length ∧ l.any p = true)
  | [] => .inl ⟨rfl, rfl⟩
  | x :: l => by
    unfold idxI
    by_cases h : p x = true
    · right; rw [if_pos h]; simp [h]
    · rw [if_neg h]
      rcases idxI_range p l with ⟨h1, h2⟩ | ⟨h1, h2, h3⟩
      · left; rw [h1]; simp [h, h2]; rfl
      · right
        cases hc : idxI p l with
        | ofNat n => rw [hc] at h2; simp only [Int.ofNat_eq_natCast] at h2; simp [h3]; omega
        | negSucc n => rw [hc] at h1; omega
theorem idxI_first {α : Type} (p : α → Bool) : ∀ (l : List α) (i : Nat) (h : i < l.length), (∀ j (hj : j < i), p (l[j]'(by omega)) = false) → p l[i] = true → idxI p l = i
  | x :: l, 0, _, _, h2 => by unfold idxI; rw [if_pos (by simpa using h2)]; rfl
  | x :: l, i + 1, h, h1, h2 => by
    have h0 := h1 0 (by omega)
    simp only [List.getElem_cons_zero] at h0
    unfold idxI
    rw [if_neg (by rw [h0]; simp), idxI_first p l i (by simpa using h) (fun j hj => by have := h1 (j + 1) (by omega); simpa using this) (by simpa using h2)]
    simp
theorem idxI_none {α : Type} (p : α → Bool) : ∀ (l : List α), (∀ x ∈ l, p x = false) → idxI p l = -1
  | [], _ => rfl
  | x :: l, h => by
    unfold idxI
    rw [if_neg (by rw [h x (by simp)]; simp), idxI_none p l (fun y hy => h y (by simp [hy]))]
    rfl
end Go.Proofs.Ytpoijjfbgfiboaa

/- Maps from pairs of numbers to pairs of numbers. No program in this text. -/
namespace Go.Proofs.Ytpoijjfbgfiboaa
open Go
abbrev P2 := Int × Int
def encP (p : P2) : Value := .agg ⟨[.int .i64 p.1, .int .i64 p.2]⟩
theorem encP_eq (p q : P2) : keyEq (encP p) (encP q) = some (decide (p = q)) := by
  obtain ⟨a, b⟩ := p
  obtain ⟨c, d⟩ := q
  have e : decide ((a, b) = (c, d)) = (decide (a = c) && (decide (b = d) && true)) := by
    rw [Bool.and_true, ← Bool.decide_and]
    exact decide_eq_decide.2 (by rw [Prod.mk.injEq])
  rw [e]; rfl
theorem encP_inj {p q : P2} (h : encP p = encP q) : p = q := by
  obtain ⟨a, b⟩ := p
  obtain ⟨c, d⟩ := q
  simp only [encP, Value.agg.injEq, Array.mk.injEq, List.cons.injEq, Value.int.injEq] at h
  rw [h.1.2, h.2.1.2]
/-- What a map holds: these, in this order; no key twice. -/
structure MapC (es : Array MapEntry) (cl : Nat) (l : List (P2 × P2)) : Prop where
  kv : es.toList.map (fun e => (e.key, e.val)) = l.map fun p => (encP p.1, encP p.2)
  keys : (l.map Prod.fst).Nodup
  born : (es.toList.map (·.born)).Nodup
  lt : ∀ e ∈ es.toList, e.born < cl
theorem MapC.nil : MapC #[] 0 [] := ⟨rfl, List.nodup_nil, List.nodup_nil, fun _ h => by cases h⟩
theorem MapC.size {es : Array MapEntry} {cl : Nat} {l : List (P2 × P2)} (h : MapC es cl l) : es.size = l.length := by
  have := congrArg List.length h.kv
  simpa using this
theorem MapC.at {es : Array MapEntry} {cl : Nat} {l : List (P2 × P2)} (h : MapC es cl l) {i : Nat} (hi : i < l.length) : ∃ e, es.toList[i]? = some e ∧ e.key = encP l[i].1 ∧ e.val = encP l[i].2 := by
  have h1 := congrArg (fun m : List (Value × Value) => m[i]?) h.kv
  simp only [List.getElem?_map, List.getElem?_eq_getElem hi, Option.map_some] at h1
  cases he : es.toList[i]? with
  | none => rw [he] at h1; cases h1
  | some e =>
    rw [he] at h1
    simp only [Option.map_some, Option.some.injEq, Prod.mk.injEq] at h1
    exact ⟨e, rfl, h1.1, h1.2⟩
/-- Where a key stands. -/
theorem mfind_kv {k : P2} : ∀ {es : List MapEntry} {l : List (P2 × P2)} (i : Nat), es.map (fun e => (e.key, e.val)) = l.map (fun p => (encP p.1, encP p.2)) →
    ∃ f, mfind (encP k) es i = some f ∧ ((f = none ∧ k ∉ l.map Prod.fst) ∨ ∃ j, ∃ h : j < l.length, f = some (i + j, encP l[j].2) ∧ l[j].1 = k)
  | [], [], i, _ => ⟨none, rfl, .inl ⟨rfl, by simp⟩⟩
  | [], _ :: _, _, h => by cases h
  | _ :: _, [], _, h => by cases h
  | e :: es, p :: l, i, h => by
    simp only [List.map_cons, List.cons.injEq, Prod.mk.injEq] at h
    obtain ⟨⟨h1, h2⟩, h3⟩ := h
    have hq := encP_eq k p.1
    by_cases hk : k = p.1
    · refine ⟨some (i, e.val), ?_, .inr ⟨0, by simp, by rw [h2]; rfl, hk.symm⟩⟩
      unfold mfind
      rw [h1, hq, decide_eq_true hk]
    · obtain ⟨f, hf, hr⟩ := mfind_kv (k := k) (i + 1) h3
      refine ⟨f, ?_, ?_⟩
      · unfold mfind
        rw [h1, hq, decide_eq_false hk]; exact hf
      · rcases hr with ⟨h4, h5⟩ | ⟨j, hj, h4, h5⟩
        · exact .inl ⟨h4, by rw [List.map_cons, List.mem_cons]; rintro (h6 | h6); exact hk h6; exact h5 h6⟩
        · exact .inr ⟨j + 1, by simpa using hj, by rw [h4]; simp; omega, by simpa using h5⟩
/-- What stands behind a key. -/
def lookP (k : P2) (l : List (P2 × P2)) : Option P2 := (l.find? fun p => decide (p.1 = k)).map Prod.snd
def putP (k v : P2) (l : List (P2 × P2)) : List (P2 × P2) := if k ∈ l.map Prod.fst then l.map fun p => if p.1 = k then (k, v) else p else l ++ [(k, v)]
def delP (k : P2) (l : List (P2 × P2)) : List (P2 × P2) := l.filter fun p => !decide (p.1 = k)
theorem lookP_none {k : P2} {l : List (P2 × P2)} (h : k ∉ l.map Prod.fst) : lookP k l = none := by
  unfold lookP
  rw [List.find?_eq_none.2]; · rfl
  intro p hp hd
  exact h (List.mem_map.2 ⟨p, hp, of_decide_eq_true hd⟩)
theorem lookP_at {k : P2} : ∀ {l : List (P2 × P2)} {j : Nat} (_ : (l.map Prod.fst).Nodup) (h : j < l.length), l[j].1 = k → lookP k l = some l[j].2
  | p :: l, 0, _, _, hk => by
    unfold lookP
    rw [List.find?_cons, decide_eq_true (by simpa using hk)]; rfl
  | p :: l, j + 1, hn, h, hk => by
    rw [List.map_cons, List.nodup_cons] at hn
    have hk' : (l[j]'(by simpa using h)).1 = k := by simpa using hk
    have hne : ¬ p.1 = k := fun e => hn.1 (by rw [e, ← hk']; exact List.mem_map.2 ⟨_, List.getElem_mem _, rfl⟩)
    have ih := lookP_at hn.2 (by simpa using h) hk'
    unfold lookP at ih ⊢
    rw [List.find?_cons, decide_eq_false hne]
    simpa using ih
theorem map_eraseIdx' {α β : Type} (f : α → β) : ∀ (l : List α) (i : Nat), (l.eraseIdx i).map f = (l.map f).eraseIdx i
  | [], _ => rfl
  | _ :: _, 0 => rfl
  | x :: l, i + 1 => by simp [map_eraseIdx' f l i]
theorem map_modify' {α β : Type} (f : α → β) (u : α → α) : ∀ (l : List α) (i : Nat), (∀ x, f (u x) = f x) → (l.modify i u).map f = l.map f
  | [], i, _ => by simp
  | x :: l, 0, h => by simp [h]
  | x :: l, i + 1, h => by simp [map_modify' f u l i h]
theorem map_modify_set {α β : Type} (f : α → β) (u : α → α) (b : β) : ∀ (l : List α) (i : Nat), (∀ x, l[i]? = some x → f (u x) = b) → (l.modify i u).map f = (l.map f).set i b
  | [], i, _ => by simp
  | x :: l, 0, h => by simp [h x rfl]
  | x :: l, i + 1, h => by simp [map_modify_set f u b l i (fun y hy => h y (by simpa using hy))]
theorem mem_modify {α : Type} (u : α → α) : ∀ (l : List α) (i : Nat) (y : α), y ∈ l.modify i u → y ∈ l ∨ ∃ x ∈ l, y = u x
  | [], i, y, h => by simp at h
  | x :: l, 0, y, h => by
    rw [List.modify_zero_cons] at h
    rcases List.mem_cons.1 h with h | h
    · exact .inr ⟨x, by simp, h⟩
    · exact .inl (by simp [h])
  | x :: l, i + 1, y, h => by
    rw [List.modify_succ_cons] at h
    rcases List.mem_cons.1 h with h | h
    · exact .inl (by simp [h])
    · rcases mem_modify u l i y h with h | ⟨z, hz, h⟩
      · exact .inl (by simp [h])
      · exact .inr ⟨z, by simp [hz], h⟩
/-- An entry is turned: its key stays. -/
theorem MapC.mod {es : Array MapEntry} {cl : Nat} {l : List (P2 × P2)} (h : MapC es cl l) {j : Nat} (hj : j < l.length) {u : MapEntry → MapEntry} {v : P2} (hb : ∀ e, (u e).born = e.born) (hk : ∀ e, e.key = encP l[j].1 → (u e).key = encP l[j].1 ∧ (u e).val = encP v) : MapC (es.modify j u) cl (l.set j (l[j].1, v)) := by
  refine ⟨?_, ?_, ?_, fun e he => ?_⟩
  · rw [Array.toList_modify, map_modify_set _ _ (encP l[j].1, encP v), h.kv, List.map_set]
    intro e he
    obtain ⟨e', h1, h2, _⟩ := h.at hj
    rw [he] at h1
    cases h1
    rw [(hk e h2).1, (hk e h2).2]
  · rw [List.map_set]
    have : (l.map Prod.fst).set j l[j].1 = l.map Prod.fst := by
      have e1 : (l.map Prod.fst)[j]'(by simpa using hj) = l[j].1 := by simp
      rw [← e1]; exact List.set_getElem_self _
    rw [this]; exact h.keys
  · rw [Array.toList_modify, map_modify' _ _ _ _ hb]; exact h.born
  · rw [Array.toList_modify] at he
    rcases mem_modify _ _ _ _ he with h1 | ⟨x, hx, rfl⟩
    · exact h.lt e h1
    · rw [hb]; exact h.lt x hx
theorem MapC.push {es : Array MapEntry} {cl : Nat} {l : List (P2 × P2)} (h : MapC es cl l) {k v : P2} (hk : k ∉ l.map Prod.fst) : MapC (es.push { key := encP k, val := encP v, born := cl }) (cl + 1) (l ++ [(k, v)]) := by
  refine ⟨by simp [h.kv], ?_, ?_, fun e he => ?_⟩
  · rw [List.map_append, List.nodup_append]
    exact ⟨h.keys, by simp, fun a ha b hb => by
      simp at hb; subst hb; rintro rfl; exact hk ha⟩
  · rw [Array.toList_push, List.map_append, List.nodup_append]
    exact ⟨h.born, by simp, fun a ha b hb => by
      simp at hb
      subst hb
      obtain ⟨e, he, rfl⟩ := List.mem_map.1 ha
      have := h.lt e he
      omega⟩
  · rw [Array.toList_push] at he
    rcases List.mem_append.1 he with h1 | h1
    · have := h.lt e h1; omega
    · rw [List.mem_singleton.1 h1]; exact Nat.lt_succ_self _
theorem MapC.erase {es : Array MapEntry} {cl : Nat} {l : List (P2 × P2)} (h : MapC es cl l) (j : Nat) : MapC (es.eraseIdxIfInBounds j) cl (l.eraseIdx j) := by
  refine ⟨?_, ?_, ?_, fun e he => ?_⟩
  · rw [Array.toList_eraseIdxIfInBounds, map_eraseIdx', map_eraseIdx', h.kv]
  · rw [map_eraseIdx']; exact h.keys.eraseIdx j
  · rw [Array.toList_eraseIdxIfInBounds, map_eraseIdx']; exact h.born.eraseIdx j
  · rw [Array.toList_eraseIdxIfInBounds] at he
    exact h.lt e ((List.eraseIdx_sublist _ _).subset he)
/-- The place of a stamp. -/
theorem stamp_at {es : List MapEntry} (hb : (es.map (·.born)).Nodup) {j : Nat} {e : MapEntry} (he : es[j]? = some e) : es.findIdx? (fun x => (x.born : Int) == (e.born : Int)) = some j := by
  have hj : j < es.length := (List.getElem?_eq_some_iff.1 he).1
  rw [List.findIdx?_eq_some_iff_getElem]
  have e0 : es[j] = e := (List.getElem?_eq_some_iff.1 he).2
  refine ⟨hj, by rw [e0]; simp, fun i hi h => ?_⟩
  have h1 : (es[i]'(by omega)).born = e.born := by
    have h0 : (((es[i]'(by omega)).born : Nat) : Int) = ((e.born : Nat) : Int) := by simpa using h
    omega
  have h2 := (List.pairwise_iff_getElem.1 hb) i j (by simp; omega) (by simpa using hj) hi
  apply h2
  simp only [List.getElem_map]
  rw [h1, e0]
theorem putP_set {k v : P2} : ∀ {l : List (P2 × P2)} {j : Nat} (_ : (l.map Prod.fst).Nodup) (h : j < l.length), l[j].1 = k → putP k v l = l.set j (k, v) := by
  intro l j hn hj hk
  unfold putP
  rw [if_pos (by rw [← hk]; exact List.mem_map.2 ⟨_, List.getElem_mem hj, rfl⟩)]
  apply List.ext_getElem?
  intro i
  rw [List.getElem?_map, List.getElem?_set]
  by_cases hi : j = i
  · subst hi
    rw [if_pos rfl, if_pos hj, List.getElem?_eq_getElem hj, Option.map_some, if_pos hk]
  · rw [if_neg hi]
    cases hg : l[i]? with
    | none => rfl
    | some p =>
      obtain ⟨hil, rfl⟩ := List.getElem?_eq_some_iff.1 hg
      rw [Option.map_some, if_neg]
      intro e
      have h2 := List.pairwise_iff_getElem.1 hn
      rcases Nat.lt_or_gt_of_ne hi with h3 | h3
      · exact h2 j i (by simpa using hj) (by simpa using hil) h3 (by simp [hk, e])
      · exact h2 i j (by simpa using hil) (by simpa using hj) h3 (by simp [hk, e])
theorem delP_erase {k : P2} : ∀ {l : List (P2 × P2)} {j : Nat} (_ : (l.map Prod.fst).Nodup) (h : j < l.length), l[j].1 = k → delP k l = l.eraseIdx j
  | p :: l, 0, hn, _, hk => by
    rw [List.map_cons, List.nodup_cons] at hn
    have hk : p.1 = k := by simpa using hk
    unfold delP
    rw [List.filter_cons, decide_eq_true hk]
    simp only [Bool.not_true, List.eraseIdx_cons_zero]
    show (if false = true then _ else _) = _
    rw [if_neg (by decide), List.filter_eq_self]
    intro q hq
    rw [decide_eq_false]; · rfl
    intro e
    exact hn.1 (by rw [hk, ← e]; exact List.mem_map.2 ⟨q, hq, rfl⟩)
  | p :: l, j + 1, hn, h, hk => by
    rw [List.map_cons, List.nodup_cons] at hn
    have hk' : (l[j]'(by simpa using h)).1 = k := by simpa using hk
    have hne : ¬ p.1 = k := fun e => hn.1 (by rw [e, ← hk']; exact List.mem_map.2 ⟨_, List.getElem_mem _, rfl⟩)
    have ih := delP_erase hn.2 (by simpa using h) hk'
    unfold delP at ih ⊢
    rw [List.filter_cons, decide_eq_false hne]
    simp only [Bool.not_false, if_true, List.eraseIdx_cons_succ, ih]
theorem delP_none {k : P2} {l : List (P2 × P2)} (h : k ∉ l.map Prod.fst) : delP k l = l := by
  unfold delP
  rw [List.filter_eq_self]
  intro p hp
  rw [decide_eq_false]; · rfl
  intro e
  exact h (by rw [← e]; exact List.mem_map.2 ⟨p, hp, rfl⟩)
/-- What is known when a key is looked for. -/
theorem MapC.look {es : Array MapEntry} {cl : Nat} {l : List (P2 × P2)} (h : MapC es cl l) (k : P2) : ∃ f, mfind (encP k) es.toList 0 = some f ∧ found (encP (0, 0)) f = encP ((lookP k l).getD (0, 0)) ∧ f.isSome = (lookP k l).isSome := by
  obtain ⟨f, hf, hr⟩ := mfind_kv (k := k) 0 h.kv
  refine ⟨f, hf, ?_⟩
  rcases hr with ⟨rfl, h2⟩ | ⟨j, hj, rfl, h2⟩
  · rw [lookP_none h2]; exact ⟨rfl, rfl⟩
  · rw [lookP_at h.keys hj h2]; exact ⟨rfl, rfl⟩
/-- A key is struck. -/
theorem MapC.del {es : Array MapEntry} {cl : Nat} {l : List (P2 × P2)} (h : MapC es cl l) (k : P2) : ∃ f, mfind (encP k) es.toList 0 = some f ∧ MapC (match f with
    | some p => es.eraseIdxIfInBounds p.1
    | none => es) cl (delP k l) := by
  obtain ⟨f, hf, hr⟩ := mfind_kv (k := k) 0 h.kv
  refine ⟨f, hf, ?_⟩
  rcases hr with ⟨rfl, h2⟩ | ⟨j, hj, rfl, h2⟩
  · rw [delP_none h2]; exact h
  · rw [delP_erase h.keys hj h2]
    simp only [Nat.zero_add]
    exact h.erase j
/-- A value is laid behind a key: in two steps. -/
theorem MapC.put {es : Array MapEntry} {cl : Nat} {l : List (P2 × P2)} (h : MapC es cl l) (k v : P2) : ∃ f, mfind (encP k) es.toList 0 = some f ∧ ∃ x3 x4 : Int, found (encP (0, 0)) f = encP (x3, x4) ∧ ∃ es1 cl1 i, mput es cl f (encP k) (encP (x3, x4)) = .map es1 cl1 ∧
    es1.findIdx? (fun e => (e.born : Int) == ((mborn es cl f : Nat) : Int)) = some i ∧ MapC (es1.modify i fun e => { e with val := encP v }) cl1 (putP k v l) := by
  obtain ⟨f, hf, hr⟩ := mfind_kv (k := k) 0 h.kv
  refine ⟨f, hf, ?_⟩
  rcases hr with ⟨rfl, h2⟩ | ⟨j, hj, rfl, h2⟩
  · have hp := h.push (v := (0, 0)) h2
    have hsz := h.size
    have hlast : (es.push { key := encP k, val := encP (0, 0), born := cl }).toList[l.length]? = some { key := encP k, val := encP (0, 0), born := cl } := by
      rw [Array.toList_push, List.getElem?_append_right (by simp; omega)]
      simp [hsz]
    have hst := stamp_at hp.born hlast
    refine ⟨0, 0, rfl, _, _, l.length, rfl, ?_, ?_⟩
    · rw [← List.findIdx?_toArray] at hst
      exact hst
    · have hm := hp.mod (j := l.length) (v := v) (u := fun e => { e with val := encP v }) (by simp) (fun _ => rfl) (fun e he => ⟨he, rfl⟩)
      have e1 : putP k v l = (l ++ [(k, ((0, 0) : P2))]).set l.length (((l ++ [(k, ((0, 0) : P2))])[l.length]'(by simp)).1, v) := by
        unfold putP
        rw [if_neg h2]
        simp
      rw [e1]; exact hm
  · have hm := h.mod hj (v := l[j].2) (u := fun e => { e with key := encP k, val := encP l[j].2 }) (fun _ => rfl) (fun e _ => ⟨by rw [h2], rfl⟩)
    have e0 : l.set j (l[j].1, l[j].2) = l := List.set_getElem_self _
    rw [e0] at hm
    obtain ⟨e, he, hek, hev⟩ := h.at hj
    have he2 : es[j]? = some e := by rw [← Array.getElem?_toList]; exact he
    obtain ⟨e', he', _, _⟩ := hm.at hj
    have hbe : e'.born = e.born := by
      rw [Array.toList_modify, List.getElem?_modify, he] at he'
      simp at he'
      rw [← he']
    have hst := stamp_at hm.born he'
    refine ⟨l[j].2.1, l[j].2.2, rfl, es.modify j fun e => { e with key := encP k, val := encP l[j].2 }, cl, j, ?_, ?_, ?_⟩
    · show Obj.map (es.modify (0 + j) _) cl = _
      rw [Nat.zero_add]
    · have hb : mborn es cl (some (0 + j, encP l[j].2)) = e'.born := by
        show ((es[0 + j]?).map (·.born)).getD 0 = _
        rw [Nat.zero_add, he2, hbe]; rfl
      rw [hb, ← hst, ← List.findIdx?_toArray]
    · have hm2 := hm.mod hj (v := v) (u := fun e => { e with val := encP v }) (fun _ => rfl) (fun e he => ⟨he, rfl⟩)
      rw [putP_set h.keys hj h2]
      rw [h2] at hm2
      exact hm2
end Go.Proofs.Ytpoijjfbgfiboaa

/- Tables: what stands where, whatever the order. No program in this text. -/
namespace Go.Proofs.Ytpoijjfbgfiboaa
open Go
abbrev PL := List (P2 × P2)
theorem lookP_mem {k v : P2} {l : PL} (h : (l.map Prod.fst).Nodup) : lookP k l = some v ↔ (k, v) ∈ l := by
  constructor
  · intro e
    unfold lookP at e
    cases hf : l.find? (fun p => decide (p.1 = k)) with
    | none => rw [hf] at e; cases e
    | some p =>
      rw [hf] at e
      simp only [Option.map_some, Option.some.injEq] at e
      have h1 := List.mem_of_find?_eq_some hf
      have h2 : p.1 = k := by simpa using List.find?_some hf
      rw [← h2, ← e]; exact h1
  · intro hm
    obtain ⟨j, hj, e⟩ := List.mem_iff_getElem.1 hm
    rw [lookP_at h hj (by rw [e]), e]
theorem lookP_perm {k : P2} {l m : PL} (hp : l.Perm m) (h : (l.map Prod.fst).Nodup) : lookP k l = lookP k m := by
  have h2 : (m.map Prod.fst).Nodup := (hp.map Prod.fst).nodup_iff.1 h
  apply Option.ext
  intro v
  show lookP k l = some v ↔ lookP k m = some v
  rw [lookP_mem h, lookP_mem h2]
  exact hp.mem_iff
theorem lookP_isNone {k : P2} {l : PL} : lookP k l = none ↔ k ∉ l.map Prod.fst := by
  refine ⟨fun e hm => ?_, lookP_none⟩
  obtain ⟨p, hp, rfl⟩ := List.mem_map.1 hm
  unfold lookP at e
  rw [Option.map_eq_none_iff, List.find?_eq_none] at e
  exact e p hp (by simp)
theorem delP_perm {k : P2} {l m : PL} (hp : l.Perm m) : (delP k l).Perm (delP k m) := hp.filter _
/-- The other way round. -/
def swapL (l : PL) : PL := l.map Prod.swap
theorem swapL_fst (l : PL) : (swapL l).map Prod.fst = l.map Prod.snd := by
  unfold swapL; rw [List.map_map]; rfl
theorem swapL_mem {l : PL} {a b : P2} : (a, b) ∈ swapL l ↔ (b, a) ∈ l := by
  unfold swapL
  rw [List.mem_map]
  constructor
  · rintro ⟨p, hp, e⟩
    cases p; cases e; exact hp
  · intro h; exact ⟨_, h, rfl⟩
/-- Who is struck by name goes from its spot. -/
theorem delP_swap {k s : P2} {l : PL} (h1 : (l.map Prod.fst).Nodup) (h2 : (l.map Prod.snd).Nodup) (hk : (k, s) ∈ l) : delP s (swapL l) = swapL (delP k l) := by
  have n1 := h1
  have key : ∀ p ∈ l, (p.2 = s ↔ p.1 = k) := by
    intro p hp
    constructor
    · intro e
      have := (lookP_mem (l := swapL l) (k := s) (v := p.1) (by rw [swapL_fst]; exact h2)).2 (swapL_mem.2 (by rw [← e]; exact hp))
      have h3 := (lookP_mem (l := swapL l) (k := s) (v := k) (by rw [swapL_fst]; exact h2)).2 (swapL_mem.2 hk)
      rw [this] at h3; cases h3; rfl
    · intro e
      have := (lookP_mem (l := l) (k := k) (v := p.2) h1).2 (by rw [← e]; exact hp)
      have h3 := (lookP_mem (l := l) (k := k) (v := s) h1).2 hk
      rw [this] at h3; cases h3; rfl
  unfold delP swapL
  rw [List.filter_map]
  congr 1
  apply List.filter_congr
  intro p hp
  have := key p hp
  show (!decide (p.2 = s)) = !decide (p.1 = k)
  by_cases e : p.1 = k
  · rw [decide_eq_true e, decide_eq_true (this.2 e)]
  · rw [decide_eq_false e, decide_eq_false (fun h => e (this.1 h))]
/-- Who stands on a spot. -/
def onP (s : P2) (l : PL) : Option P2 := lookP s (swapL l)
def canP (k s : P2) (l : PL) : Bool := decide (0 ≤ s.1) && decide (0 ≤ s.2) && (match onP s l with
  | some k' => decide (k' = k)
  | none => true)
def cutL (k : P2) (l : PL) : PL := delP k l
def putT (k s : P2) (l : PL) : PL := if canP k s l then delP k l ++ [(k, s)] else l
/-- Each ref on one spot, on each spot one ref. -/
structure Uni (l : PL) : Prop where
  a : (l.map Prod.fst).Nodup
  b : (l.map Prod.snd).Nodup
theorem Uni.del {l : PL} (h : Uni l) (k : P2) : Uni (delP k l) := ⟨h.a.sublist ((List.filter_sublist).map _), h.b.sublist ((List.filter_sublist).map _)⟩
theorem Uni.perm {l m : PL} (h : Uni l) (hp : l.Perm m) : Uni m := ⟨(hp.map Prod.fst).nodup_iff.1 h.a, (hp.map Prod.snd).nodup_iff.1 h.b⟩
theorem delP_not {k : P2} {l : PL} : k ∉ (delP k l).map Prod.fst := by
  intro h
  obtain ⟨p, hp, e⟩ := List.mem_map.1 h
  unfold delP at hp
  have := (List.mem_filter.1 hp).2
  rw [decide_eq_true e] at this
  cases this
theorem canP_not {k s : P2} {l : PL} (h : Uni l) (hc : canP k s l = true) : s ∉ (delP k l).map Prod.snd := by
  intro hm
  obtain ⟨p, hp, e⟩ := List.mem_map.1 hm
  unfold delP at hp
  obtain ⟨h1, h2⟩ := List.mem_filter.1 hp
  have h3 : onP s l = some p.1 := (lookP_mem (by rw [swapL_fst]; exact h.b)).2 (swapL_mem.2 (by rw [← e]; exact h1))
  unfold canP at hc
  rw [h3] at hc
  simp only [Bool.and_eq_true, decide_eq_true_eq] at hc
  rw [decide_eq_true hc.2] at h2
  cases h2
theorem Uni.put {k s : P2} {l : PL} (h : Uni l) : Uni (putT k s l) := by
  unfold putT
  by_cases hc : canP k s l = true
  · rw [if_pos hc]
    refine ⟨?_, ?_⟩
    · rw [List.map_append, List.nodup_append]
      exact ⟨(h.del k).a, by simp, fun a ha b hb => by simp at hb; subst hb; rintro rfl; exact delP_not ha⟩
    · rw [List.map_append, List.nodup_append]
      exact ⟨(h.del k).b, by simp, fun a ha b hb => by simp at hb; subst hb; rintro rfl; exact canP_not h hc ha⟩
  · rw [if_neg hc]; exact h
theorem Uni.nil : Uni [] := ⟨List.nodup_nil, List.nodup_nil⟩
end Go.Proofs.Ytpoijjfbgfiboaa

/- What the executor asks of these functions, written out. (Printed by wip/tools/gen.py.) -/
set_option maxRecDepth 100000
set_option linter.unusedVariables false
namespace Go.Proofs.Ytpoijjfbgfiboaa
open Go
/-- potsherd/potsherdlaw9.PlacePlays -/
def f3_n (a0 : Sl) (a1_0 : Int) (a1_1 : Int) (a2 : Int) (V : View) (Q : Value → View → Prop) : Prop :=
    ∀ (b : Nat), br (decide ((150 : Int) < (↑(Sl.n a0) : Int))) (CallV Try.prog (8 : Nat) (Array.mk []) V fun (r : Value) (V : View) => ∃ (x : Bool), r = Value.bool x ∧ Q (Value.bool x) V) (CallV Try.prog (9 : Nat) (Array.mk []) V fun (r : Value) (V : View) => ∃ (x : Option Addr), r = Value.pointer x ∧ loopP [K.sl, K.int IntKind.i64] (fun (x_1 : Sl) (x_2 : Int) (V : View) (J : CurP [K.sl, K.int IntKind.i64]) => br (decide (x_2 < (↑(Sl.n a0) : Int))) ((0 : Int) ≤ x_2 ∧ x_2 < (↑(Sl.n a0) : Int) ∧ ∃ (ad : Addr), Sl.a a0 = some ad ∧ ∃ (x_3 : Int), ∃ (x_4 : Int), ∃ (x_5 : Int), ∃ (x_6 : Int), ∃ (x_7 : Int), cellsAt V (Addr.add ad (Int.toNat x_2 * (5 : Nat))) [Value.int IntKind.i64 x_3, Value.int IntKind.i64 x_4, Value.int IntKind.i64 x_5, Value.int IntKind.i64 x_6, Value.int IntKind.i64 x_7] ∧ ∀ (b : Nat), loopP [K.int IntKind.i64, K.int IntKind.i64, K.int IntKind.i64] (fun (x_8 x_9 x_10 : Int) (V : View) (J_1 : CurP [K.int IntKind.i64, K.int IntKind.i64, K.int IntKind.i64]) => br (decide (x_10 < (↑(Sl.n x_1) : Int))) ((0 : Int) ≤ x_10 ∧ x_10 < (↑(Sl.n x_1) : Int) ∧ ∃ (ad : Addr), Sl.a x_1 = some ad ∧ ∃ (x : Int), ∃ (x_11 : Int), ∃ (x_12 : Int), ∃ (x_13 : Int), cellsAt V (Addr.add ad (Int.toNat x_10 * (4 : Nat))) [Value.int IntKind.i64 x, Value.int IntKind.i64 x_11, Value.int IntKind.i64 x_12, Value.int IntKind.i64 x_13] ∧ ∀ (b : Nat), True ∧ joinP [K.int IntKind.i64] (fun (J : CurP [K.int IntKind.i64]) => br (decide (x = x_4) && (decide (x_11 = x_5) && true)) (J x_10 V) (J x_8 V)) fun (x_14 : Int) (V : View) => joinP [K.bool] (fun (J : CurP [K.bool]) => True ∧ br (decide (x_12 = x_6) && (decide (x_13 = x_7) && true)) (True ∧ J (!(decide (x = x_4) && (decide (x_11 = x_5) && true))) V) (J false V)) fun (x : Bool) (V : View) => joinP [K.int IntKind.i64] (fun (J : CurP [K.int IntKind.i64]) => br x (J x_10 V) (J x_9 V)) fun (x : Int) (V : View) => inI IntKind.i64 (x_10 + (1 : Int)) ∧ J_1 x_14 x (x_10 + (1 : Int)) V) (joinP [K.sl] (fun (J : CurP [K.sl]) => br (decide (x_3 = (0 : Int))) (CallV Try.prog (10 : Nat) (Array.mk [Value.pointer x, Value.agg (Array.mk [Value.int IntKind.i64 x_4, Value.int IntKind.i64 x_5])]) V fun (r : Value) (V : View) => ∃ (x : Bool), r = Value.bool x ∧ br (!x == decide ((0 : Int) ≤ x_8)) (Q (Value.bool false) V) (joinP [K.sl] (fun (J : CurP [K.sl]) => br (decide ((0 : Int) ≤ x_8)) (True ∧ (0 : Int) ≤ (0 : Int) ∧ (0 : Int) ≤ x_8 ∧ x_8 ≤ (↑(Sl.c x_1) : Int) ∧ inI IntKind.i64 (x_8 + (1 : Int)) ∧ (0 : Int) ≤ x_8 + (1 : Int) ∧ x_8 + (1 : Int) ≤ (↑(Sl.n x_1) : Int) ∧ (↑(Sl.n x_1) : Int) ≤ (↑(Sl.c x_1) : Int) ∧ newB V (Obj.cells (Array.mk []) (34 : Nat)) fun (r : Nat) (V : View) => apV V (34 : Nat) (4 : Nat) (32 : Nat) [Value.int IntKind.i64 (0 : Int), Value.int IntKind.i64 (0 : Int), Value.int IntKind.i64 (0 : Int), Value.int IntKind.i64 (0 : Int)] (Sl.mk (some (Addr.mk r (0 : Nat) none)) (0 : Nat) (0 : Nat)) (Value.slice (if Sl.c x_1 = (0 : Nat) then Sl.a x_1 else Option.map (fun (x : Addr) => Addr.add x (0 : Nat)) (Sl.a x_1)) (Int.toNat x_8 - (0 : Nat)) (Sl.c x_1 - (0 : Nat))) fun (s : Sl) (V : View) => apV V (34 : Nat) (4 : Nat) (32 : Nat) [Value.int IntKind.i64 (0 : Int), Value.int IntKind.i64 (0 : Int), Value.int IntKind.i64 (0 : Int), Value.int IntKind.i64 (0 : Int)] (Sl.mk (Sl.a s) (Sl.n s) (Sl.c s)) (Value.slice (if Sl.c x_1 = Int.toNat (x_8 + (1 : Int)) then Sl.a x_1 else Option.map (fun (x : Addr) => Addr.add x (Int.toNat (x_8 + (1 : Int)) * (4 : Nat))) (Sl.a x_1)) (Int.toNat (↑(Sl.n x_1) : Int) - Int.toNat (x_8 + (1 : Int))) (Sl.c x_1 - Int.toNat (x_8 + (1 : Int)))) fun (s : Sl) (V : View) => J (Sl.mk (Sl.a s) (Sl.n s) (Sl.c s)) V) (J (Sl.mk (Sl.a x_1) (Sl.n x_1) (Sl.c x_1)) V)) fun (x : Sl) (V : View) => J (Sl.mk (Sl.a x) (Sl.n x) (Sl.c x)) V)) (CallV Try.prog (11 : Nat) (Array.mk [Value.pointer x, Value.agg (Array.mk [Value.int IntKind.i64 x_4, Value.int IntKind.i64 x_5]), Value.agg (Array.mk [Value.int IntKind.i64 x_6, Value.int IntKind.i64 x_7])]) V fun (r : Value) (V : View) => ∃ (x : Bool), r = Value.bool x ∧ br (!x == bif bif decide (x_9 < (0 : Int)) then decide ((0 : Int) ≤ x_6) else false then decide ((0 : Int) ≤ x_7) else false) (Q (Value.bool false) V) (joinP [K.sl] (fun (J : CurP [K.sl]) => br (bif bif bif decide (x_9 < (0 : Int)) then decide ((0 : Int) ≤ x_6) else false then decide ((0 : Int) ≤ x_7) else false then decide ((0 : Int) ≤ x_8) else false) ((0 : Int) ≤ x_8 ∧ x_8 < (↑(Sl.n x_1) : Int) ∧ ∃ (ad : Addr), Sl.a x_1 = some ad ∧ canSet V (Addr.add (Addr.add ad (Int.toNat x_8 * (4 : Nat))) (2 : Nat)) (Nat.succ (nat_lit 1)) ∧ J (Sl.mk (Sl.a x_1) (Sl.n x_1) (Sl.c x_1)) (View.sets V (Addr.add (Addr.add ad (Int.toNat x_8 * (4 : Nat))) (2 : Nat)) [Value.int IntKind.i64 x_6, Value.int IntKind.i64 x_7])) (joinP [K.sl] (fun (J : CurP [K.sl]) => br (bif bif decide (x_9 < (0 : Int)) then decide ((0 : Int) ≤ x_6) else false then decide ((0 : Int) ≤ x_7) else false) (newB V (Obj.cells (Array.mk (putL [Value.int IntKind.i64 (0 : Int), Value.int IntKind.i64 (0 : Int), Value.int IntKind.i64 (0 : Int), Value.int IntKind.i64 (0 : Int)] (0 : Nat) [Value.int IntKind.i64 x_4, Value.int IntKind.i64 x_5, Value.int IntKind.i64 x_6, Value.int IntKind.i64 x_7])) (34 : Nat)) fun (r : Nat) (V : View) => apV V (34 : Nat) (4 : Nat) (32 : Nat) [Value.int IntKind.i64 (0 : Int), Value.int IntKind.i64 (0 : Int), Value.int IntKind.i64 (0 : Int), Value.int IntKind.i64 (0 : Int)] (Sl.mk (Sl.a x_1) (Sl.n x_1) (Sl.c x_1)) (Value.slice (some (Addr.mk r (0 : Nat) none)) (1 : Nat) (1 : Nat)) fun (s : Sl) (V : View) => J (Sl.mk (Sl.a s) (Sl.n s) (Sl.c s)) V) (J (Sl.mk (Sl.a x_1) (Sl.n x_1) (Sl.c x_1)) V)) fun (x : Sl) (V : View) => J (Sl.mk (Sl.a x) (Sl.n x) (Sl.c x)) V)) fun (x : Sl) (V : View) => J (Sl.mk (Sl.a x) (Sl.n x) (Sl.c x)) V))) fun (x_11 : Sl) (V : View) => CallV Try.prog (12 : Nat) (Array.mk [Value.pointer x, Value.agg (Array.mk [Value.int IntKind.i64 x_4, Value.int IntKind.i64 x_5])]) V fun (r : Value) (V : View) => ∃ (x_12 : Int), ∃ (x_13 : Int), ∃ (x_14 : Bool), r = Value.tuple (Array.mk [Value.agg (Array.mk [Value.int IntKind.i64 x_12, Value.int IntKind.i64 x_13]), Value.bool x_14]) ∧ ∀ (b : Nat), CallV Try.prog (13 : Nat) (Array.mk [Value.pointer x, Value.agg (Array.mk [Value.int IntKind.i64 x_6, Value.int IntKind.i64 x_7])]) V fun (r : Value) (V : View) => ∃ (x_15 : Int), ∃ (x_16 : Int), ∃ (x_17 : Bool), r = Value.tuple (Array.mk [Value.agg (Array.mk [Value.int IntKind.i64 x_15, Value.int IntKind.i64 x_16]), Value.bool x_17]) ∧ ∀ (b b b : Nat), loopP [K.bool, K.bool, K.int IntKind.i64, K.int IntKind.i64, K.int IntKind.i64, K.int IntKind.i64, K.int IntKind.i64] (fun (x_18 x_19 : Bool) (x_20 x_21 x_22 x_23 x_24 : Int) (V : View) (J_2 : CurP [K.bool, K.bool, K.int IntKind.i64, K.int IntKind.i64, K.int IntKind.i64, K.int IntKind.i64, K.int IntKind.i64]) => br (decide (x_20 < (↑(Sl.n x_11) : Int))) ((0 : Int) ≤ x_20 ∧ x_20 < (↑(Sl.n x_11) : Int) ∧ ∃ (ad : Addr), Sl.a x_11 = some ad ∧ ∃ (x : Int), ∃ (x_25 : Int), ∃ (x_26 : Int), ∃ (x_27 : Int), cellsAt V (Addr.add ad (Int.toNat x_20 * (4 : Nat))) [Value.int IntKind.i64 x, Value.int IntKind.i64 x_25, Value.int IntKind.i64 x_26, Value.int IntKind.i64 x_27] ∧ ∀ (b : Nat), True ∧ joinP [K.bool, K.int IntKind.i64, K.int IntKind.i64] (fun (J : CurP [K.bool, K.int IntKind.i64, K.int IntKind.i64]) => br (decide (x = x_4) && (decide (x_25 = x_5) && true)) (J true x_26 x_27 V) (J x_18 x_21 x_22 V)) fun (x_28 : Bool) (x_29 x_30 : Int) (V : View) => True ∧ joinP [K.bool, K.int IntKind.i64, K.int IntKind.i64] (fun (J : CurP [K.bool, K.int IntKind.i64, K.int IntKind.i64]) => br (decide (x_26 = x_6) && (decide (x_27 = x_7) && true)) (J true x x_25 V) (J x_19 x_23 x_24 V)) fun (x : Bool) (x_31 x_32 : Int) (V : View) => inI IntKind.i64 (x_20 + (1 : Int)) ∧ J_2 x_28 x (x_20 + (1 : Int)) x_29 x_30 x_31 x_32 V) (joinP [K.bool] (fun (J : CurP [K.bool]) => True ∧ br (!(decide (x_12 = x_21) && (decide (x_13 = x_22) && true))) (J true V) (br (!x_14 == x_18) (J true V) (True ∧ br (!(decide (x_15 = x_23) && (decide (x_16 = x_24) && true))) (J true V) (br (!x_17 == x_19) (J true V) (CallV Try.prog (14 : Nat) (Array.mk [Value.pointer x]) V fun (r : Value) (V : View) => ∃ (x : Int), r = Value.int IntKind.i64 x ∧ J (!decide (x = (↑(Sl.n x_11) : Int))) V))))) fun (x : Bool) (V : View) => br x (Q (Value.bool false) V) (inI IntKind.i64 (x_2 + (1 : Int)) ∧ J (Sl.mk (Sl.a x_11) (Sl.n x_11) (Sl.c x_11)) (x_2 + (1 : Int)) V))) (false, false, (0 : Int), (0 : Int), (0 : Int), (0 : Int), (0 : Int), ()) V)) ((-1 : Int), (-1 : Int), (0 : Int), ()) V) (joinP [K.bool] (fun (J : CurP [K.bool]) => CallV Try.prog (15 : Nat) (Array.mk [Value.pointer x, Value.slice (Sl.a x_1) (Sl.n x_1) (Sl.c x_1), Value.agg (Array.mk [Value.int IntKind.i64 a1_0, Value.int IntKind.i64 a1_1]), Value.int IntKind.i64 a2]) V fun (r : Value) (V : View) => ∃ (x : Bool), r = Value.bool x ∧ br x (CallV Try.prog (8 : Nat) (Array.mk []) V fun (r : Value) (V : View) => ∃ (x : Bool), r = Value.bool x ∧ J x V) (J false V)) fun (x : Bool) (V : View) => Q (Value.bool x) V)) (Sl.mk none (0 : Nat) (0 : Nat), (0 : Int), ()) V)
def f3_ac : AC := (.seq (.reg ⟨.done, false, [], [], none⟩) (.seq (.seq (.reg ⟨.done, false, [], [], none⟩) (.cond none (.seq (.reg ⟨.done, false, [], [], none⟩) .leaf) .leaf)) (.seq (.reg ⟨.done, false, [], [], none⟩) (.seq (.reg ⟨.done, false, [], [], none⟩) (.seq (.seq (.reg ⟨.done, false, [], [], none⟩) (.block none (.loop ⟨[10, 11, 12, 13, 14, 15, 16, 17, 18, 19, 20, 21, 22, 23, 25, 34, 35, 36, 37, 38, 39, 40, 41, 42, 43, 44, 45, 46, 47, 48, 49, 50, 51, 52, 53, 54, 55, 56, 57, 58, 59, 60, 61, 62, 63, 64, 65, 66, 67, 68, 69, 70, 71, 72, 73, 74, 75, 76, 77, 78, 79, 80, 81, 82, 83, 84, 85, 86, 87, 88, 89, 90, 91, 92, 93, 94, 95, 96, 97, 98, 99, 100, 101, 102, 103, 104, 105, 106, 107, 108, 109, 110, 111, 112, 113, 114, 115, 116, 117, 118, 119, 120, 121, 122, 123, 124, 125, 126, 127, 128, 129, 130, 131, 132, 133, 134, 135, 136, 137, 138, 139, 140, 141, 142, 143, 144, 145, 146, 147, 148, 149, 150, 151, 152, 153, 154, 155, 156, 157, 158, 159, 160, 161, 162, 163, 164, 165, 166, 167, 168, 169, 170, 171, 172, 173, 174, 175, 176, 177, 178, 179, 180, 181, 182, 183, 184, 185, 186, 187, 188, 189, 190], [(8, .sl), (33, .int .i64)], []⟩ (.seq (.reg ⟨.done, false, [], [], none⟩) (.seq (.cond none .leaf .leaf) (.seq (.block none (.seq (.reg ⟨.done, false, [], [], none⟩) (.seq (.reg ⟨.done, false, [], [], none⟩) (.seq (.seq (.reg ⟨.done, false, [], [], none⟩) (.block none (.loop ⟨[13, 14, 40, 41, 42, 43, 44, 45, 46, 47, 48, 49, 50, 51, 52, 53, 54, 55, 56, 57, 58, 59, 60, 61, 62, 63], [(11, .int .i64), (12, .int .i64), (39, .int .i64)], []⟩ (.seq (.reg ⟨.done, false, [], [], none⟩) (.seq (.cond none .leaf .leaf) (.seq (.block none (.seq (.reg ⟨.done, false, [], [], none⟩) (.seq (.seq (.reg ⟨.done, false, [], [], none⟩) (.cond (some ⟨[49], [(11, .int .i64)], []⟩) (.reg ⟨.done, false, [], [], none⟩) .leaf)) (.seq (.reg ⟨.done, false, [], [], (some ⟨[50, 51, 52, 53, 54, 55, 56, 57, 58, 59, 60], [(61, .bool)], []⟩)⟩) (.cond (some ⟨[62], [(12, .int .i64)], []⟩) (.reg ⟨.done, false, [], [], none⟩) .leaf))))) (.reg ⟨.done, false, [], [], none⟩))))))) (.seq (.seq (.reg ⟨.done, false, [], [], none⟩) (.cond (some ⟨[15, 67, 68, 69, 70, 71, 72, 73, 74, 75, 76, 77, 78, 79, 80, 81, 82, 83, 84, 85, 86, 87, 88, 89, 90, 91, 92, 93, 94, 95, 96, 97, 98, 99, 100, 101, 102, 103, 104, 105, 106, 107, 108, 109, 110, 111, 112, 113, 114, 115, 116, 117, 118, 119, 120, 121, 122, 123, 124, 125, 126, 127], [(8, .sl)], []⟩) (.seq (.seq (.reg ⟨.done, false, [], [], none⟩) (.cond none (.seq (.reg ⟨.done, false, [], [], none⟩) .leaf) .leaf)) (.seq (.reg ⟨.done, false, [], [], none⟩) (.cond (some ⟨[76, 77, 78, 79, 80, 81, 82, 83, 84, 85], [(8, .sl)], []⟩) (.reg ⟨(.fl 1 (.fl 2 (.fl 3 (.fl 5 (.fl 6 (.fl 7 (.fl 8 (.alt 0 false false (.alt 4 false false (.alt 9 false false (.fl 10 .done) .no) .no) .no)))))))), false, [], [], none⟩) .leaf))) (.seq (.reg ⟨.done, false, [], [], none⟩) (.seq (.seq (.reg ⟨.done, false, [], [], none⟩) (.cond none (.seq (.reg ⟨.done, false, [], [], none⟩) .leaf) .leaf)) (.seq (.reg ⟨.done, false, [], [], none⟩) (.cond (some ⟨[113, 114, 115, 116, 117, 118, 119, 120, 121, 122, 123, 124, 125, 126, 127], [(8, .sl)], []⟩) (.reg ⟨.done, false, [], [], none⟩) (.seq (.reg ⟨.done, false, [], [], none⟩) (.cond (some ⟨[120, 121, 122, 123, 124, 125, 126, 127], [(8, .sl)], []⟩) (.reg ⟨.done, false, [], [], none⟩) .leaf)))))))) (.seq (.reg ⟨.done, false, [], [], none⟩) (.seq (.reg ⟨.done, false, [], [], none⟩) (.seq (.reg ⟨.done, false, [], [], none⟩) (.seq (.seq (.reg ⟨.done, false, [], [], none⟩) (.block none (.loop ⟨[25, 147, 148, 149, 150, 151, 152, 153, 154, 155, 156, 157, 158, 159, 160, 161, 162, 163, 164], [(21, .bool), (23, .bool), (146, .int .i64)], [(4, [.int .i64, .int .i64]), (5, [.int .i64, .int .i64])]⟩ (.seq (.reg ⟨.done, false, [], [], none⟩) (.seq (.cond none .leaf .leaf) (.seq (.block none (.seq (.reg ⟨.done, false, [], [], none⟩) (.seq (.seq (.reg ⟨.done, false, [], [], none⟩) (.cond (some ⟨[155, 156], [(21, .bool)], [(4, [.int .i64, .int .i64])]⟩) (.reg ⟨.done, false, [], [], none⟩) .leaf)) (.seq (.reg ⟨.done, false, [], [], none⟩) (.cond (some ⟨[162, 163], [(23, .bool)], [(5, [.int .i64, .int .i64])]⟩) (.reg ⟨.done, false, [], [], none⟩) .leaf))))) (.reg ⟨.done, false, [], [], none⟩))))))) (.seq (.reg ⟨.done, false, [], [], (some ⟨[165, 166, 167, 168, 169, 170, 171, 172, 173, 174, 175, 176, 177, 178, 179, 180, 181, 182, 183, 184, 185, 186, 187, 188], [(189, .bool)], []⟩)⟩) (.cond none (.seq (.reg ⟨.done, false, [], [], none⟩) .leaf) .leaf))))))))))) (.reg ⟨.done, false, [], [], none⟩))))))) (.seq (.reg ⟨.done, false, [], [], (some ⟨[191, 192, 193, 194, 195, 196, 197, 198], [(6, .bool)], []⟩)⟩) .leaf))))))
theorem f3_x {a0 : Sl} {a1_0 : Int} {a1_1 : Int} {a2 : Int} {V : View} {Q : Value → View → Prop} (h : f3_n a0 a1_0 a1_1 a2 V Q) : CallV Try.prog 3 ⟨[(.slice a0.a a0.n a0.c), (.agg ⟨[(.int .i64 a1_0), (.int .i64 a1_1)]⟩), (.int .i64 a2)]⟩ V Q :=
  XF_sound (wr := false) Try.checked.mixed (enters_of (fn := Try.f3) (by kernel_rfl) (by kernel_rfl) (by kernel_rfl)) (fn := Try.f3) (by kernel_rfl) (ac := f3_ac)
    (Eq.mp (show f3_n a0 a1_0 a1_1 a2 V Q = XF Try.prog false Try.f3 (f3_ac) [(.slice a0.a a0.n a0.c), (.agg ⟨[(.int .i64 a1_0), (.int .i64 a1_1)]⟩), (.int .i64 a2)] V Q from by kernel_rfl) h)
/-- potsherd/potsherdlaw9.PlaceNil -/
def f4_n (a0_0 : Int) (a0_1 : Int) (a0_2 : Int) (a0_3 : Int) (a0_4 : Int) (a1 : Int) (V : View) (Q : Value → View → Prop) : Prop :=
    ∀ (b : Nat), CallV Try.prog (12 : Nat) (Array.mk [Value.pointer none, Value.agg (Array.mk [Value.int IntKind.i64 a0_1, Value.int IntKind.i64 a0_2])]) V fun (r : Value) (V : View) => ∃ (x : Int), ∃ (x_1 : Int), ∃ (x_2 : Bool), r = Value.tuple (Array.mk [Value.agg (Array.mk [Value.int IntKind.i64 x, Value.int IntKind.i64 x_1]), Value.bool x_2]) ∧ ∀ (b : Nat), CallV Try.prog (13 : Nat) (Array.mk [Value.pointer none, Value.agg (Array.mk [Value.int IntKind.i64 a0_3, Value.int IntKind.i64 a0_4])]) V fun (r : Value) (V : View) => ∃ (x_3 : Int), ∃ (x_4 : Int), ∃ (x_5 : Bool), r = Value.tuple (Array.mk [Value.agg (Array.mk [Value.int IntKind.i64 x_3, Value.int IntKind.i64 x_4]), Value.bool x_5]) ∧ ∀ (b : Nat), joinP [K.bool] (fun (J : CurP [K.bool]) => CallV Try.prog (11 : Nat) (Array.mk [Value.pointer none, Value.agg (Array.mk [Value.int IntKind.i64 a0_1, Value.int IntKind.i64 a0_2]), Value.agg (Array.mk [Value.int IntKind.i64 a0_3, Value.int IntKind.i64 a0_4])]) V fun (r : Value) (V : View) => ∃ (x_6 : Bool), r = Value.bool x_6 ∧ br (!x_6) (CallV Try.prog (10 : Nat) (Array.mk [Value.pointer none, Value.agg (Array.mk [Value.int IntKind.i64 a0_1, Value.int IntKind.i64 a0_2])]) V fun (r : Value) (V : View) => ∃ (x_7 : Bool), r = Value.bool x_7 ∧ br (!x_7) (True ∧ br (bif decide (x = (0 : Int)) && (decide (x_1 = (0 : Int)) && true) then !x_2 else false) (True ∧ br (bif decide (x_3 = (0 : Int)) && (decide (x_4 = (0 : Int)) && true) then !x_5 else false) (CallV Try.prog (16 : Nat) (Array.mk [Value.pointer none, Value.int IntKind.i64 a1]) V fun (r : Value) (V : View) => ∃ (x : Int), r = Value.int IntKind.i64 x ∧ br (decide (x = (0 : Int))) (CallV Try.prog (17 : Nat) (Array.mk [Value.pointer none, Value.int IntKind.i64 a1]) V fun (r : Value) (V : View) => ∃ (x : Sl), r = Value.slice (Sl.a x) (Sl.n x) (Sl.c x) ∧ br (decide ((↑(Sl.n x) : Int) = (0 : Int))) (CallV Try.prog (18 : Nat) (Array.mk [Value.pointer none]) V fun (r : Value) (V : View) => ∃ (x : Sl), r = Value.slice (Sl.a x) (Sl.n x) (Sl.c x) ∧ br (decide ((↑(Sl.n x) : Int) = (0 : Int))) (CallV Try.prog (14 : Nat) (Array.mk [Value.pointer none]) V fun (r : Value) (V : View) => ∃ (x : Int), r = Value.int IntKind.i64 x ∧ br (decide (x = (0 : Int))) (CallV Try.prog (8 : Nat) (Array.mk []) V fun (r : Value) (V : View) => ∃ (x : Bool), r = Value.bool x ∧ J x V) (J false V)) (J false V)) (J false V)) (J false V)) (J false V)) (J false V)) (J false V)) (J false V)) fun (x : Bool) (V : View) => Q (Value.bool x) V
def f4_ac : AC := (.seq (.reg ⟨.done, false, [], [], none⟩) (.seq (.reg ⟨.done, false, [], [], none⟩) (.seq (.reg ⟨.done, false, [], [], none⟩) (.seq (.reg ⟨.done, false, [], [], none⟩) (.seq (.reg ⟨.done, false, [], [], (some ⟨[24, 25, 26, 27, 28, 29, 30, 31, 32, 33, 34, 35, 36, 37, 38, 39, 40, 41, 42, 43, 44, 45, 46, 47, 48, 49, 50, 51, 52, 53, 54, 55, 56, 57, 58, 59, 60, 61, 62, 63, 64, 65, 66, 67, 68, 69, 70, 71, 72, 73, 74, 75, 76, 77, 78, 79, 80, 81, 82], [(4, .bool)], []⟩)⟩) .leaf)))))
theorem f4_x {a0_0 : Int} {a0_1 : Int} {a0_2 : Int} {a0_3 : Int} {a0_4 : Int} {a1 : Int} {V : View} {Q : Value → View → Prop} (h : f4_n a0_0 a0_1 a0_2 a0_3 a0_4 a1 V Q) : CallV Try.prog 4 ⟨[(.agg ⟨[(.int .i64 a0_0), (.int .i64 a0_1), (.int .i64 a0_2), (.int .i64 a0_3), (.int .i64 a0_4)]⟩), (.int .i64 a1)]⟩ V Q :=
  XF_sound (wr := false) Try.checked.mixed (enters_of (fn := Try.f4) (by kernel_rfl) (by kernel_rfl) (by kernel_rfl)) (fn := Try.f4) (by kernel_rfl) (ac := f4_ac)
    (Eq.mp (show f4_n a0_0 a0_1 a0_2 a0_3 a0_4 a1 V Q = XF Try.prog false Try.f4 (f4_ac) [(.agg ⟨[(.int .i64 a0_0), (.int .i64 a0_1), (.int .i64 a0_2), (.int .i64 a0_3), (.int .i64 a0_4)]⟩), (.int .i64 a1)] V Q from by kernel_rfl) h)
/-- potsherd/potsherdlaw9.PlaceMoves -/
def f5_n (a0 : Sl) (V : View) (Q : Value → View → Prop) : Prop :=
    br (decide ((150 : Int) < (↑(Sl.n a0) : Int))) (CallV Try.prog (8 : Nat) (Array.mk []) V fun (r : Value) (V : View) => ∃ (x : Bool), r = Value.bool x ∧ Q (Value.bool x) V) (CallV Try.prog (9 : Nat) (Array.mk []) V fun (r : Value) (V : View) => ∃ (x : Option Addr), r = Value.pointer x ∧ loopP [K.int IntKind.i64] (fun (x_1 : Int) (V : View) (J : CurP [K.int IntKind.i64]) => br (decide (x_1 < (↑(Sl.n a0) : Int))) ((0 : Int) ≤ x_1 ∧ x_1 < (↑(Sl.n a0) : Int) ∧ ∃ (ad : Addr), Sl.a a0 = some ad ∧ ∃ (x_2 : Int), ∃ (x_3 : Int), ∃ (x_4 : Int), ∃ (x_5 : Int), ∃ (x_6 : Int), cellsAt V (Addr.add ad (Int.toNat x_1 * (5 : Nat))) [Value.int IntKind.i64 x_2, Value.int IntKind.i64 x_3, Value.int IntKind.i64 x_4, Value.int IntKind.i64 x_5, Value.int IntKind.i64 x_6] ∧ ∀ (b : Nat), CallV Try.prog (11 : Nat) (Array.mk [Value.pointer x, Value.agg (Array.mk [Value.int IntKind.i64 x_3, Value.int IntKind.i64 x_4]), Value.agg (Array.mk [Value.int IntKind.i64 x_5, Value.int IntKind.i64 x_6])]) V fun (r : Value) (V : View) => ∃ (x : Bool), r = Value.bool x ∧ inI IntKind.i64 (x_1 + (1 : Int)) ∧ J (x_1 + (1 : Int)) V) (CallV Try.prog (18 : Nat) (Array.mk [Value.pointer x]) V fun (r : Value) (V : View) => ∃ (x_2 : Sl), r = Value.slice (Sl.a x_2) (Sl.n x_2) (Sl.c x_2) ∧ loopP [K.sl, K.int IntKind.i64] (fun (x_3 : Sl) (x_4 : Int) (V : View) (J : CurP [K.sl, K.int IntKind.i64]) => br (decide (x_4 < (↑(Sl.n x_2) : Int))) ((0 : Int) ≤ x_4 ∧ x_4 < (↑(Sl.n x_2) : Int) ∧ ∃ (ad : Addr), Sl.a x_2 = some ad ∧ ∃ (x_5 : Int), ∃ (x_6 : Int), ∃ (x_7 : Int), ∃ (x_8 : Int), cellsAt V (Addr.add ad (Int.toNat x_4 * (4 : Nat))) [Value.int IntKind.i64 x_5, Value.int IntKind.i64 x_6, Value.int IntKind.i64 x_7, Value.int IntKind.i64 x_8] ∧ ∀ (b : Nat), joinP [K.bool] (fun (J : CurP [K.bool]) => True ∧ ∃ (S : View), View.Le S V ∧ br (decide ((↑(Sl.n x_3) : Int) = (0 : Int))) (J true V) (inI IntKind.i64 ((↑(Sl.n x_3) : Int) - (1 : Int)) ∧ (0 : Int) ≤ (↑(Sl.n x_3) : Int) - (1 : Int) ∧ (↑(Sl.n x_3) : Int) - (1 : Int) < (↑(Sl.n x_3) : Int) ∧ ∃ (ad : Addr), Sl.a x_3 = some ad ∧ ∃ (x : Int), View.cell? S (Addr.add ad (Int.toNat ((↑(Sl.n x_3) : Int) - (1 : Int)) * (1 : Nat))) = some (Value.int IntKind.i64 x) ∧ J (!decide (x = x_7)) V)) fun (x_9 : Bool) (V : View) => joinP [K.sl] (fun (J : CurP [K.sl]) => br x_9 (newB V (Obj.cells (Array.mk (putL [Value.int IntKind.i64 (0 : Int)] (0 : Nat) [Value.int IntKind.i64 x_7])) (3 : Nat)) fun (r : Nat) (V : View) => apV V (3 : Nat) (1 : Nat) (8 : Nat) [Value.int IntKind.i64 (0 : Int)] (Sl.mk (Sl.a x_3) (Sl.n x_3) (Sl.c x_3)) (Value.slice (some (Addr.mk r (0 : Nat) none)) (1 : Nat) (1 : Nat)) fun (s : Sl) (V : View) => J (Sl.mk (Sl.a s) (Sl.n s) (Sl.c s)) V) (J (Sl.mk (Sl.a x_3) (Sl.n x_3) (Sl.c x_3)) V)) fun (x_10 : Sl) (V : View) => CallV Try.prog (12 : Nat) (Array.mk [Value.pointer x, Value.agg (Array.mk [Value.int IntKind.i64 x_5, Value.int IntKind.i64 x_6])]) V fun (r : Value) (V : View) => ∃ (x_11 : Int), ∃ (x_12 : Int), ∃ (x_13 : Bool), r = Value.tuple (Array.mk [Value.agg (Array.mk [Value.int IntKind.i64 x_11, Value.int IntKind.i64 x_12]), Value.bool x_13]) ∧ ∀ (b : Nat), CallV Try.prog (13 : Nat) (Array.mk [Value.pointer x, Value.agg (Array.mk [Value.int IntKind.i64 x_7, Value.int IntKind.i64 x_8])]) V fun (r : Value) (V : View) => ∃ (x : Int), ∃ (x_14 : Int), ∃ (x_15 : Bool), r = Value.tuple (Array.mk [Value.agg (Array.mk [Value.int IntKind.i64 x, Value.int IntKind.i64 x_14]), Value.bool x_15]) ∧ ∀ (b : Nat), joinP [K.bool] (fun (J : CurP [K.bool]) => br (bif !x_13 then true else !x_15) (J true V) (True ∧ br (!(decide (x_11 = x_7) && (decide (x_12 = x_8) && true))) (J true V) (True ∧ J (!(decide (x = x_5) && (decide (x_14 = x_6) && true))) V))) fun (x : Bool) (V : View) => br x (Q (Value.bool false) V) (inI IntKind.i64 (x_4 + (1 : Int)) ∧ J (Sl.mk (Sl.a x_10) (Sl.n x_10) (Sl.c x_10)) (x_4 + (1 : Int)) V)) (loopP [K.int IntKind.i64, K.int IntKind.i64] (fun (x_5 x_6 : Int) (V : View) (J : CurP [K.int IntKind.i64, K.int IntKind.i64]) => br (decide (x_6 < (↑(Sl.n x_3) : Int))) ((0 : Int) ≤ x_6 ∧ x_6 < (↑(Sl.n x_3) : Int) ∧ ∃ (ad : Addr), Sl.a x_3 = some ad ∧ ∃ (x_7 : Int), View.cell? V (Addr.add ad (Int.toNat x_6 * (1 : Nat))) = some (Value.int IntKind.i64 x_7) ∧ joinP [K.bool] (fun (J : CurP [K.bool]) => br (decide ((0 : Int) < x_6)) (inI IntKind.i64 (x_6 - (1 : Int)) ∧ (0 : Int) ≤ x_6 - (1 : Int) ∧ x_6 - (1 : Int) < (↑(Sl.n x_3) : Int) ∧ ∃ (ad : Addr), Sl.a x_3 = some ad ∧ ∃ (x : Int), View.cell? V (Addr.add ad (Int.toNat (x_6 - (1 : Int)) * (1 : Nat))) = some (Value.int IntKind.i64 x) ∧ J (decide (x_7 ≤ x)) V) (J false V)) fun (x_8 : Bool) (V : View) => br x_8 (Q (Value.bool false) V) (CallV Try.prog (16 : Nat) (Array.mk [Value.pointer x, Value.int IntKind.i64 x_7]) V fun (r : Value) (V : View) => ∃ (x : Int), r = Value.int IntKind.i64 x ∧ inI IntKind.i64 (x_5 + x) ∧ inI IntKind.i64 (x_6 + (1 : Int)) ∧ J (x_5 + x) (x_6 + (1 : Int)) V)) (joinP [K.bool] (fun (J : CurP [K.bool]) => CallV Try.prog (14 : Nat) (Array.mk [Value.pointer x]) V fun (r : Value) (V : View) => ∃ (x : Int), r = Value.int IntKind.i64 x ∧ br (decide (x_5 = x)) (CallV Try.prog (8 : Nat) (Array.mk []) V fun (r : Value) (V : View) => ∃ (x : Bool), r = Value.bool x ∧ J x V) (J false V)) fun (x : Bool) (V : View) => Q (Value.bool x) V)) ((0 : Int), (0 : Int), ()) V)) (Sl.mk none (0 : Nat) (0 : Nat), (0 : Int), ()) V)) ((0 : Int), ()) V)
def f5_ac : AC := (.seq (.reg ⟨.done, false, [], [], none⟩) (.seq (.seq (.reg ⟨.done, false, [], [], none⟩) (.cond none (.seq (.reg ⟨.done, false, [], [], none⟩) .leaf) .leaf)) (.seq (.reg ⟨.done, false, [], [], none⟩) (.seq (.seq (.reg ⟨.done, false, [], [], none⟩) (.block none (.loop ⟨[5, 25, 26, 27, 28, 29, 30, 31, 32, 33, 34], [(24, .int .i64)], []⟩ (.seq (.reg ⟨.done, false, [], [], none⟩) (.seq (.cond none .leaf .leaf) (.seq (.block none (.seq (.reg ⟨.done, false, [], [], none⟩) (.reg ⟨.done, false, [], [], none⟩))) (.reg ⟨.done, false, [], [], none⟩))))))) (.seq (.reg ⟨.done, false, [], [], none⟩) (.seq (.reg ⟨.done, false, [], [], none⟩) (.seq (.seq (.reg ⟨.done, false, [], [], none⟩) (.block none (.loop ⟨[9, 10, 11, 12, 13, 14, 39, 40, 41, 42, 43, 44, 45, 46, 47, 48, 49, 50, 51, 52, 53, 54, 55, 56, 57, 58, 59, 60, 61, 62, 63, 64, 65, 66, 67, 68, 69, 70, 71, 72, 73, 74, 75, 76, 77, 78, 79, 80, 81, 82, 83, 84, 85, 86, 87, 88, 89, 90, 91, 92, 93, 94, 95], [(6, .sl), (38, .int .i64)], []⟩ (.seq (.reg ⟨.done, false, [], [], none⟩) (.seq (.cond none .leaf .leaf) (.seq (.block none (.seq (.reg ⟨.done, false, [], [], none⟩) (.seq (.seq (.reg ⟨.done, false, [], [], none⟩) (.seq (.reg ⟨(.fl 0 (.fl 1 (.fl 2 (.fl 3 (.fl 4 (.fl 5 (.fl 6 (.fl 7 (.fl 8 (.fl 9 (.fl 10 (.fl 11 (.fl 12 .done))))))))))))), true, [], [], (some ⟨[44, 45, 46, 47, 48, 49, 50, 51, 52, 53, 54, 55], [(56, .bool)], []⟩)⟩) (.cond (some ⟨[57, 58, 59, 60, 61, 62], [(6, .sl)], []⟩) (.reg ⟨.done, false, [], [], none⟩) .leaf))) (.seq (.reg ⟨.done, false, [], [], none⟩) (.seq (.reg ⟨.done, false, [], [], none⟩) (.seq (.reg ⟨.done, false, [], [], (some ⟨[77, 78, 79, 80, 81, 82, 83, 84, 85, 86, 87, 88, 89, 90, 91, 92, 93], [(94, .bool)], []⟩)⟩) (.cond none (.seq (.reg ⟨.done, false, [], [], none⟩) .leaf) .leaf))))))) (.reg ⟨.done, false, [], [], none⟩))))))) (.seq (.seq (.reg ⟨.done, false, [], [], none⟩) (.block none (.loop ⟨[15, 16, 99, 100, 101, 102, 103, 104, 105, 106, 107, 108, 109, 110, 111, 112, 113, 114, 115, 116, 117, 118, 119], [(7, .int .i64), (98, .int .i64)], []⟩ (.seq (.reg ⟨.done, false, [], [], none⟩) (.seq (.cond none .leaf .leaf) (.seq (.block none (.seq (.reg ⟨.done, false, [], [], none⟩) (.seq (.seq (.reg ⟨.done, false, [], [], (some ⟨[103, 104, 105, 106, 107, 108, 109, 110, 111, 112], [(113, .bool)], []⟩)⟩) (.cond none (.seq (.reg ⟨.done, false, [], [], none⟩) .leaf) .leaf)) (.reg ⟨.done, false, [], [], none⟩)))) (.reg ⟨.done, false, [], [], none⟩))))))) (.seq (.reg ⟨.done, false, [], [], (some ⟨[120, 121, 122, 123, 124, 125, 126], [(2, .bool)], []⟩)⟩) .leaf)))))))))
theorem f5_x {a0 : Sl} {V : View} {Q : Value → View → Prop} (h : f5_n a0 V Q) : CallV Try.prog 5 ⟨[(.slice a0.a a0.n a0.c)]⟩ V Q :=
  XF_sound (wr := false) Try.checked.mixed (enters_of (fn := Try.f5) (by kernel_rfl) (by kernel_rfl) (by kernel_rfl)) (fn := Try.f5) (by kernel_rfl) (ac := f5_ac)
    (Eq.mp (show f5_n a0 V Q = XF Try.prog false Try.f5 (f5_ac) [(.slice a0.a a0.n a0.c)] V Q from by kernel_rfl) h)
/-- potsherd/potsherdlaw9.PlaceEmpty -/
def f6_n (a0 : Sl) (V : View) (Q : Value → View → Prop) : Prop :=
    br (decide ((100 : Int) < (↑(Sl.n a0) : Int))) (CallV Try.prog (8 : Nat) (Array.mk []) V fun (r : Value) (V : View) => ∃ (x : Bool), r = Value.bool x ∧ Q (Value.bool x) V) (CallV Try.prog (9 : Nat) (Array.mk []) V fun (r : Value) (V : View) => ∃ (x : Option Addr), r = Value.pointer x ∧ loopP [K.int IntKind.i64] (fun (x_1 : Int) (V : View) (J : CurP [K.int IntKind.i64]) => br (decide (x_1 < (↑(Sl.n a0) : Int))) ((0 : Int) ≤ x_1 ∧ x_1 < (↑(Sl.n a0) : Int) ∧ ∃ (ad : Addr), Sl.a a0 = some ad ∧ ∃ (x_2 : Int), ∃ (x_3 : Int), ∃ (x_4 : Int), ∃ (x_5 : Int), ∃ (x_6 : Int), cellsAt V (Addr.add ad (Int.toNat x_1 * (5 : Nat))) [Value.int IntKind.i64 x_2, Value.int IntKind.i64 x_3, Value.int IntKind.i64 x_4, Value.int IntKind.i64 x_5, Value.int IntKind.i64 x_6] ∧ ∀ (b : Nat), CallV Try.prog (11 : Nat) (Array.mk [Value.pointer x, Value.agg (Array.mk [Value.int IntKind.i64 x_3, Value.int IntKind.i64 x_4]), Value.agg (Array.mk [Value.int IntKind.i64 x_5, Value.int IntKind.i64 x_6])]) V fun (r : Value) (V : View) => ∃ (x : Bool), r = Value.bool x ∧ inI IntKind.i64 (x_1 + (1 : Int)) ∧ J (x_1 + (1 : Int)) V) (CallV Try.prog (18 : Nat) (Array.mk [Value.pointer x]) V fun (r : Value) (V : View) => ∃ (x_2 : Sl), r = Value.slice (Sl.a x_2) (Sl.n x_2) (Sl.c x_2) ∧ loopP [K.int IntKind.i64] (fun (x_3 : Int) (V : View) (J : CurP [K.int IntKind.i64]) => br (decide (x_3 < (↑(Sl.n x_2) : Int))) ((0 : Int) ≤ x_3 ∧ x_3 < (↑(Sl.n x_2) : Int) ∧ ∃ (ad : Addr), Sl.a x_2 = some ad ∧ ∃ (x_4 : Int), ∃ (x_5 : Int), ∃ (x_6 : Int), ∃ (x_7 : Int), cellsAt V (Addr.add ad (Int.toNat x_3 * (4 : Nat))) [Value.int IntKind.i64 x_4, Value.int IntKind.i64 x_5, Value.int IntKind.i64 x_6, Value.int IntKind.i64 x_7] ∧ ∀ (b : Nat), joinP [K.bool] (fun (J : CurP [K.bool]) => CallV Try.prog (10 : Nat) (Array.mk [Value.pointer x, Value.agg (Array.mk [Value.int IntKind.i64 x_4, Value.int IntKind.i64 x_5])]) V fun (r : Value) (V : View) => ∃ (x_8 : Bool), r = Value.bool x_8 ∧ br (!x_8) (J true V) (CallV Try.prog (10 : Nat) (Array.mk [Value.pointer x, Value.agg (Array.mk [Value.int IntKind.i64 x_4, Value.int IntKind.i64 x_5])]) V fun (r : Value) (V : View) => ∃ (x_9 : Bool), r = Value.bool x_9 ∧ br x_9 (J true V) (CallV Try.prog (14 : Nat) (Array.mk [Value.pointer x]) V fun (r : Value) (V : View) => ∃ (x : Int), r = Value.int IntKind.i64 x ∧ inI IntKind.i64 ((↑(Sl.n x_2) : Int) - x_3) ∧ inI IntKind.i64 ((↑(Sl.n x_2) : Int) - x_3 - (1 : Int)) ∧ J (!decide (x = (↑(Sl.n x_2) : Int) - x_3 - (1 : Int))) V))) fun (x_8 : Bool) (V : View) => br x_8 (Q (Value.bool false) V) (CallV Try.prog (13 : Nat) (Array.mk [Value.pointer x, Value.agg (Array.mk [Value.int IntKind.i64 x_6, Value.int IntKind.i64 x_7])]) V fun (r : Value) (V : View) => ∃ (x_9 : Int), ∃ (x_10 : Int), ∃ (x_11 : Bool), r = Value.tuple (Array.mk [Value.agg (Array.mk [Value.int IntKind.i64 x_9, Value.int IntKind.i64 x_10]), Value.bool x_11]) ∧ ∀ (b : Nat), br x_11 (Q (Value.bool false) V) (CallV Try.prog (12 : Nat) (Array.mk [Value.pointer x, Value.agg (Array.mk [Value.int IntKind.i64 x_4, Value.int IntKind.i64 x_5])]) V fun (r : Value) (V : View) => ∃ (x : Int), ∃ (x_12 : Int), ∃ (x_13 : Bool), r = Value.tuple (Array.mk [Value.agg (Array.mk [Value.int IntKind.i64 x, Value.int IntKind.i64 x_12]), Value.bool x_13]) ∧ ∀ (b : Nat), br x_13 (Q (Value.bool false) V) (inI IntKind.i64 (x_3 + (1 : Int)) ∧ J (x_3 + (1 : Int)) V)))) (joinP [K.bool] (fun (J : CurP [K.bool]) => CallV Try.prog (14 : Nat) (Array.mk [Value.pointer x]) V fun (r : Value) (V : View) => ∃ (x_4 : Int), r = Value.int IntKind.i64 x_4 ∧ br (decide (x_4 = (0 : Int))) (CallV Try.prog (18 : Nat) (Array.mk [Value.pointer x]) V fun (r : Value) (V : View) => ∃ (x : Sl), r = Value.slice (Sl.a x) (Sl.n x) (Sl.c x) ∧ br (decide ((↑(Sl.n x) : Int) = (0 : Int))) (CallV Try.prog (8 : Nat) (Array.mk []) V fun (r : Value) (V : View) => ∃ (x : Bool), r = Value.bool x ∧ J x V) (J false V)) (J false V)) fun (x : Bool) (V : View) => Q (Value.bool x) V)) ((0 : Int), ()) V)) ((0 : Int), ()) V)
def f6_ac : AC := (.seq (.reg ⟨.done, false, [], [], none⟩) (.seq (.seq (.reg ⟨.done, false, [], [], none⟩) (.cond none (.seq (.reg ⟨.done, false, [], [], none⟩) .leaf) .leaf)) (.seq (.reg ⟨.done, false, [], [], none⟩) (.seq (.seq (.reg ⟨.done, false, [], [], none⟩) (.block none (.loop ⟨[5, 21, 22, 23, 24, 25, 26, 27, 28, 29, 30], [(20, .int .i64)], []⟩ (.seq (.reg ⟨.done, false, [], [], none⟩) (.seq (.cond none .leaf .leaf) (.seq (.block none (.seq (.reg ⟨.done, false, [], [], none⟩) (.reg ⟨.done, false, [], [], none⟩))) (.reg ⟨.done, false, [], [], none⟩))))))) (.seq (.reg ⟨.done, false, [], [], none⟩) (.seq (.seq (.reg ⟨.done, false, [], [], none⟩) (.block none (.loop ⟨[7, 8, 9, 10, 11, 12, 36, 37, 38, 39, 40, 41, 42, 43, 44, 45, 46, 47, 48, 49, 50, 51, 52, 53, 54, 55, 56, 57, 58, 59, 60, 61, 62, 63, 64, 65, 66, 67, 68, 69, 70, 71, 72, 73, 74, 75, 76, 77], [(35, .int .i64)], []⟩ (.seq (.reg ⟨.done, false, [], [], none⟩) (.seq (.cond none .leaf .leaf) (.seq (.block none (.seq (.reg ⟨.done, false, [], [], none⟩) (.seq (.seq (.reg ⟨.done, false, [], [], (some ⟨[40, 41, 42, 43, 44, 45, 46, 47, 48, 49, 50, 51, 52, 53, 54, 55, 56, 57, 58, 59], [(60, .bool)], []⟩)⟩) (.cond none (.seq (.reg ⟨.done, false, [], [], none⟩) .leaf) .leaf)) (.seq (.seq (.reg ⟨.done, false, [], [], none⟩) (.seq (.reg ⟨.done, false, [], [], none⟩) (.cond none (.seq (.reg ⟨.done, false, [], [], none⟩) .leaf) .leaf))) (.seq (.reg ⟨.done, false, [], [], none⟩) (.seq (.reg ⟨.done, false, [], [], none⟩) (.cond none (.seq (.reg ⟨.done, false, [], [], none⟩) .leaf) .leaf))))))) (.reg ⟨.done, false, [], [], none⟩))))))) (.seq (.reg ⟨.done, false, [], [], (some ⟨[78, 79, 80, 81, 82, 83, 84, 85, 86, 87, 88, 89], [(2, .bool)], []⟩)⟩) .leaf)))))))
theorem f6_x {a0 : Sl} {V : View} {Q : Value → View → Prop} (h : f6_n a0 V Q) : CallV Try.prog 6 ⟨[(.slice a0.a a0.n a0.c)]⟩ V Q :=
  XF_sound (wr := false) Try.checked.mixed (enters_of (fn := Try.f6) (by kernel_rfl) (by kernel_rfl) (by kernel_rfl)) (fn := Try.f6) (by kernel_rfl) (ac := f6_ac)
    (Eq.mp (show f6_n a0 V Q = XF Try.prog false Try.f6 (f6_ac) [(.slice a0.a a0.n a0.c)] V Q from by kernel_rfl) h)
/-- potsherd/potsherdlaw9.PlaceCrowded -/
def f7_n (a0_0 : Int) (a0_1 : Int) (a1_0 : Int) (a1_1 : Int) (a2_0 : Int) (a2_1 : Int) (a3_0 : Int) (a3_1 : Int) (V : View) (Q : Value → View → Prop) : Prop :=
    ∀ (b b b b : Nat), joinP [K.bool] (fun (J : CurP [K.bool]) => True ∧ br (decide (a0_0 = a1_0) && (decide (a0_1 = a1_1) && true)) (J true V) (True ∧ J (bif bif bif bif decide (a2_0 = a3_0) && (decide (a2_1 = a3_1) && true) then true else decide (a2_0 < (0 : Int)) then true else decide (a2_1 < (0 : Int)) then true else decide (a3_0 < (0 : Int)) then true else decide (a3_1 < (0 : Int))) V)) fun (x : Bool) (V : View) => br x (CallV Try.prog (8 : Nat) (Array.mk []) V fun (r : Value) (V : View) => ∃ (x : Bool), r = Value.bool x ∧ Q (Value.bool x) V) (CallV Try.prog (9 : Nat) (Array.mk []) V fun (r : Value) (V : View) => ∃ (x : Option Addr), r = Value.pointer x ∧ True ∧ ∃ (S : View), View.Le S V ∧ CallV Try.prog (11 : Nat) (Array.mk [Value.pointer x, Value.agg (Array.mk [Value.int IntKind.i64 a0_0, Value.int IntKind.i64 a0_1]), Value.agg (Array.mk [Value.int IntKind.i64 a2_0, Value.int IntKind.i64 a2_1])]) V fun (r : Value) (V : View) => ∃ (x_1 : Bool), r = Value.bool x_1 ∧ View.Le S V ∧ CallV Try.prog (11 : Nat) (Array.mk [Value.pointer x, Value.agg (Array.mk [Value.int IntKind.i64 a1_0, Value.int IntKind.i64 a1_1]), Value.agg (Array.mk [Value.int IntKind.i64 a2_0, Value.int IntKind.i64 a2_1])]) V fun (r : Value) (V : View) => ∃ (x_2 : Bool), r = Value.bool x_2 ∧ CallV Try.prog (11 : Nat) (Array.mk [Value.pointer x, Value.agg (Array.mk [Value.int IntKind.i64 a0_0, Value.int IntKind.i64 a0_1]), Value.agg (Array.mk [Value.int IntKind.i64 a3_0, Value.int IntKind.i64 a3_1])]) V fun (r : Value) (V : View) => ∃ (x_3 : Bool), r = Value.bool x_3 ∧ CallV Try.prog (11 : Nat) (Array.mk [Value.pointer x, Value.agg (Array.mk [Value.int IntKind.i64 a1_0, Value.int IntKind.i64 a1_1]), Value.agg (Array.mk [Value.int IntKind.i64 a2_0, Value.int IntKind.i64 a2_1])]) V fun (r : Value) (V : View) => ∃ (x_4 : Bool), r = Value.bool x_4 ∧ CallV Try.prog (11 : Nat) (Array.mk [Value.pointer x, Value.agg (Array.mk [Value.int IntKind.i64 a0_0, Value.int IntKind.i64 a0_1]), Value.agg (Array.mk [Value.int IntKind.i64 a2_0, Value.int IntKind.i64 a2_1])]) V fun (r : Value) (V : View) => ∃ (x_5 : Bool), r = Value.bool x_5 ∧ CallV Try.prog (10 : Nat) (Array.mk [Value.pointer x, Value.agg (Array.mk [Value.int IntKind.i64 a1_0, Value.int IntKind.i64 a1_1])]) V fun (r : Value) (V : View) => ∃ (x_6 : Bool), r = Value.bool x_6 ∧ CallV Try.prog (11 : Nat) (Array.mk [Value.pointer x, Value.agg (Array.mk [Value.int IntKind.i64 a0_0, Value.int IntKind.i64 a0_1]), Value.agg (Array.mk [Value.int IntKind.i64 a2_0, Value.int IntKind.i64 a2_1])]) V fun (r : Value) (V : View) => ∃ (x_7 : Bool), r = Value.bool x_7 ∧ CallV Try.prog (12 : Nat) (Array.mk [Value.pointer x, Value.agg (Array.mk [Value.int IntKind.i64 a0_0, Value.int IntKind.i64 a0_1])]) V fun (r : Value) (V : View) => ∃ (x_8 : Int), ∃ (x_9 : Int), ∃ (x_10 : Bool), r = Value.tuple (Array.mk [Value.agg (Array.mk [Value.int IntKind.i64 x_8, Value.int IntKind.i64 x_9]), Value.bool x_10]) ∧ ∀ (b : Nat), CallV Try.prog (13 : Nat) (Array.mk [Value.pointer x, Value.agg (Array.mk [Value.int IntKind.i64 a3_0, Value.int IntKind.i64 a3_1])]) V fun (r : Value) (V : View) => ∃ (x_11 : Int), ∃ (x_12 : Int), ∃ (x_13 : Bool), r = Value.tuple (Array.mk [Value.agg (Array.mk [Value.int IntKind.i64 x_11, Value.int IntKind.i64 x_12]), Value.bool x_13]) ∧ ∀ (b : Nat), joinP [K.bool] (fun (J : CurP [K.bool]) => br (bif bif bif bif bif bif bif x_1 then !x_2 else false then x_3 else false then x_4 else false then !x_5 else false then x_6 else false then x_7 else false then x_10 else false) (True ∧ br (bif decide (x_8 = a2_0) && (decide (x_9 = a2_1) && true) then !x_13 else false) (CallV Try.prog (14 : Nat) (Array.mk [Value.pointer x]) V fun (r : Value) (V : View) => ∃ (x : Int), r = Value.int IntKind.i64 x ∧ br (decide (x = (1 : Int))) (CallV Try.prog (8 : Nat) (Array.mk []) V fun (r : Value) (V : View) => ∃ (x : Bool), r = Value.bool x ∧ J x V) (J false V)) (J false V)) (J false V)) fun (x : Bool) (V : View) => Q (Value.bool x) V)
def f7_ac : AC := (.seq (.reg ⟨.done, false, [], [], none⟩) (.seq (.seq (.reg ⟨.done, false, [], [], (some ⟨[21, 22, 23, 24, 25, 26, 27, 28, 29, 30, 31, 32, 33, 34, 35, 36, 37, 38, 39, 40, 41, 42, 43, 44, 45, 46, 47], [(48, .bool)], []⟩)⟩) (.cond none (.seq (.reg ⟨.done, false, [], [], none⟩) .leaf) .leaf)) (.seq (.reg ⟨.done, false, [], [], none⟩) (.seq (.reg ⟨(.fl 0 (.fl 1 (.fl 2 (.fl 4 (.fl 5 (.fl 6 (.alt 3 true false (.alt 7 false false (.fl 8 (.fl 9 .done)) .no) .no))))))), true, [], [], none⟩) (.seq (.reg ⟨.done, false, [], [], none⟩) (.seq (.reg ⟨.done, false, [], [], none⟩) (.seq (.reg ⟨.done, false, [], [], none⟩) (.seq (.reg ⟨.done, false, [], [], none⟩) (.seq (.reg ⟨.done, false, [], [], none⟩) (.seq (.reg ⟨.done, false, [], [], none⟩) (.seq (.reg ⟨.done, false, [], [], none⟩) (.seq (.reg ⟨.done, false, [], [], (some ⟨[90, 91, 92, 93, 94, 95, 96, 97, 98, 99, 100, 101, 102, 103, 104, 105, 106, 107, 108, 109, 110, 111, 112, 113, 114, 115, 116, 117, 118, 119, 120, 121, 122, 123, 124, 125, 126, 127, 128, 129, 130], [(8, .bool)], []⟩)⟩) .leaf))))))))))))
theorem f7_x {a0_0 : Int} {a0_1 : Int} {a1_0 : Int} {a1_1 : Int} {a2_0 : Int} {a2_1 : Int} {a3_0 : Int} {a3_1 : Int} {V : View} {Q : Value → View → Prop} (h : f7_n a0_0 a0_1 a1_0 a1_1 a2_0 a2_1 a3_0 a3_1 V Q) : CallV Try.prog 7 ⟨[(.agg ⟨[(.int .i64 a0_0), (.int .i64 a0_1)]⟩), (.agg ⟨[(.int .i64 a1_0), (.int .i64 a1_1)]⟩), (.agg ⟨[(.int .i64 a2_0), (.int .i64 a2_1)]⟩), (.agg ⟨[(.int .i64 a3_0), (.int .i64 a3_1)]⟩)]⟩ V Q :=
  XF_sound (wr := false) Try.checked.mixed (enters_of (fn := Try.f7) (by kernel_rfl) (by kernel_rfl) (by kernel_rfl)) (fn := Try.f7) (by kernel_rfl) (ac := f7_ac)
    (Eq.mp (show f7_n a0_0 a0_1 a1_0 a1_1 a2_0 a2_1 a3_0 a3_1 V Q = XF Try.prog false Try.f7 (f7_ac) [(.agg ⟨[(.int .i64 a0_0), (.int .i64 a0_1)]⟩), (.agg ⟨[(.int .i64 a1_0), (.int .i64 a1_1)]⟩), (.agg ⟨[(.int .i64 a2_0), (.int .i64 a2_1)]⟩), (.agg ⟨[(.int .i64 a3_0), (.int .i64 a3_1)]⟩)] V Q from by kernel_rfl) h)
/-- potsherd/potsherdlaw9.awake -/
def f8_n (V : View) (Q : Value → View → Prop) : Prop :=
    CallV Try.prog (9 : Nat) (Array.mk []) V fun (r : Value) (V : View) => ∃ (x : Option Addr), r = Value.pointer x ∧ CallV Try.prog (11 : Nat) (Array.mk [Value.pointer x, Value.agg (Array.mk [Value.int IntKind.i64 (1 : Int), Value.int IntKind.i64 (2 : Int)]), Value.agg (Array.mk [Value.int IntKind.i64 (3 : Int), Value.int IntKind.i64 (1 : Int)])]) V fun (r : Value) (V : View) => ∃ (x_1 : Bool), r = Value.bool x_1 ∧ CallV Try.prog (11 : Nat) (Array.mk [Value.pointer x, Value.agg (Array.mk [Value.int IntKind.i64 (2 : Int), Value.int IntKind.i64 (1 : Int)]), Value.agg (Array.mk [Value.int IntKind.i64 (3 : Int), Value.int IntKind.i64 (1 : Int)])]) V fun (r : Value) (V : View) => ∃ (x_2 : Bool), r = Value.bool x_2 ∧ CallV Try.prog (11 : Nat) (Array.mk [Value.pointer x, Value.agg (Array.mk [Value.int IntKind.i64 (2 : Int), Value.int IntKind.i64 (1 : Int)]), Value.agg (Array.mk [Value.int IntKind.i64 (3 : Int), Value.int IntKind.i64 (0 : Int)])]) V fun (r : Value) (V : View) => ∃ (x_3 : Bool), r = Value.bool x_3 ∧ CallV Try.prog (17 : Nat) (Array.mk [Value.pointer x, Value.int IntKind.i64 (3 : Int)]) V fun (r : Value) (V : View) => ∃ (x_4 : Sl), r = Value.slice (Sl.a x_4) (Sl.n x_4) (Sl.c x_4) ∧ joinP [K.bool] (fun (J : CurP [K.bool]) => br (bif bif x_1 then !x_2 else false then x_3 else false) (CallV Try.prog (16 : Nat) (Array.mk [Value.pointer x, Value.int IntKind.i64 (3 : Int)]) V fun (r : Value) (V : View) => ∃ (x_5 : Int), r = Value.int IntKind.i64 x_5 ∧ br (bif decide (x_5 = (2 : Int)) then decide ((↑(Sl.n x_4) : Int) = (2 : Int)) else false) ((0 : Int) ≤ (0 : Int) ∧ (0 : Int) < (↑(Sl.n x_4) : Int) ∧ ∃ (ad : Addr), Sl.a x_4 = some ad ∧ ∃ (x_6 : Int), View.cell? V (Addr.add (Addr.add (Addr.add ad (0 : Nat)) (0 : Nat)) (0 : Nat)) = some (Value.int IntKind.i64 x_6) ∧ br (decide (x_6 = (2 : Int))) (CallV Try.prog (14 : Nat) (Array.mk [Value.pointer x]) V fun (r : Value) (V : View) => ∃ (x : Int), r = Value.int IntKind.i64 x ∧ J (decide (x = (2 : Int))) V) (J false V)) (J false V)) (J false V)) fun (x : Bool) (V : View) => Q (Value.bool x) V
def f8_ac : AC := (.seq (.reg ⟨.done, false, [], [], none⟩) (.seq (.reg ⟨.done, false, [], [], none⟩) (.seq (.reg ⟨.done, false, [], [], none⟩) (.seq (.reg ⟨.done, false, [], [], none⟩) (.seq (.reg ⟨.done, false, [], [], none⟩) (.seq (.reg ⟨.done, false, [], [], none⟩) (.seq (.reg ⟨.done, false, [], [], (some ⟨[21, 22, 23, 24, 25, 26, 27, 28, 29, 30, 31, 32, 33, 34, 35, 36, 37, 38, 39, 40, 41, 42, 43, 44, 45, 46, 47, 48, 49, 50, 51], [(0, .bool)], []⟩)⟩) .leaf)))))))
theorem f8_x {_u : Unit} {V : View} {Q : Value → View → Prop} (h : f8_n V Q) : CallV Try.prog 8 ⟨[]⟩ V Q :=
  XF_sound (wr := false) Try.checked.mixed (enters_of (fn := Try.f8) (by kernel_rfl) (by kernel_rfl) (by kernel_rfl)) (fn := Try.f8) (by kernel_rfl) (ac := f8_ac)
    (Eq.mp (show f8_n V Q = XF Try.prog false Try.f8 (f8_ac) [] V Q from by kernel_rfl) h)
/-- potsherd/place.New -/
def f9_n (V : View) (Q : Value → View → Prop) : Prop :=
    newB V (Obj.map (Array.mk []) (0 : Nat)) fun (r : Nat) (V : View) => newB V (Obj.map (Array.mk []) (0 : Nat)) fun (r_1 : Nat) (V : View) => ∀ (b : Nat), View.see V b = none → Q (Value.pointer (some (Addr.mk b (0 : Nat) none))) (View.put V b (Obj.cells (Array.mk [Value.map (some r), Value.map (some r_1)]) (54 : Nat)))
def f9_ac : AC := (.seq (.reg ⟨.done, false, [], [], none⟩) (.seq (.reg ⟨.done, false, [(4, 0)], [], none⟩) .leaf))
theorem f9_x {_u : Unit} {V : View} {Q : Value → View → Prop} (h : f9_n V Q) : CallV Try.prog 9 ⟨[]⟩ V Q :=
  XF_sound (wr := false) Try.checked.mixed (enters_of (fn := Try.f9) (by kernel_rfl) (by kernel_rfl) (by kernel_rfl)) (fn := Try.f9) (by kernel_rfl) (ac := f9_ac)
    (Eq.mp (show f9_n V Q = XF Try.prog false Try.f9 (f9_ac) [] V Q from by kernel_rfl) h)
/-- (*potsherd/place.Table).Cut -/
def f10_n (a0 : Option Addr) (a1_0 : Int) (a1_1 : Int) (V : View) (Q : Value → View → Prop) : Prop :=
    ∀ (b : Nat), br (Option.isNone a0) (Q (Value.bool false) V) (True ∧ ∃ (S : View), View.Le S V ∧ ∃ (a : Addr), a0 = some a ∧ ∃ (x : Option Nat), View.cell? S (Addr.add a (0 : Nat)) = some (Value.map x) ∧ True ∧ mapG S x (Value.agg (Array.mk [Value.int IntKind.i64 a1_0, Value.int IntKind.i64 a1_1])) fun (f : Option (Nat × Value)) => ∃ (x : Int), ∃ (x_1 : Int), found (Value.agg (Array.mk [Value.int IntKind.i64 (0 : Int), Value.int IntKind.i64 (0 : Int)])) f = Value.agg (Array.mk [Value.int IntKind.i64 x, Value.int IntKind.i64 x_1]) ∧ ∀ (b : Nat), View.Le S V ∧ joinP [] (fun (J : CurP []) => br (Option.isSome f) (True ∧ ∃ (S : View), View.Le S V ∧ ∃ (a : Addr), a0 = some a ∧ ∃ (x_2 : Option Nat), View.cell? S (Addr.add a (0 : Nat)) = some (Value.map x_2) ∧ True ∧ mapD V x_2 (Value.agg (Array.mk [Value.int IntKind.i64 a1_0, Value.int IntKind.i64 a1_1])) fun (V : View) => True ∧ ∃ (S : View), View.Le S V ∧ ∃ (a : Addr), a0 = some a ∧ ∃ (x_3 : Option Nat), View.cell? S (Addr.add a (1 : Nat)) = some (Value.map x_3) ∧ True ∧ mapD V x_3 (Value.agg (Array.mk [Value.int IntKind.i64 x, Value.int IntKind.i64 x_1])) fun (V : View) => J V) (J V)) fun (V : View) => Q (Value.bool (Option.isSome f)) V)
def f10_ac : AC := (.seq (.reg ⟨.done, false, [], [], none⟩) (.seq (.seq (.reg ⟨.done, false, [], [], none⟩) (.cond none (.seq (.reg ⟨.done, false, [], [], none⟩) .leaf) .leaf)) (.seq (.reg ⟨(.fl 0 (.fl 1 (.fl 2 (.fl 3 (.fl 4 (.fl 5 (.fl 6 (.fl 7 (.fl 8 (.alt 9 true false (.alt 10 false false (.fl 11 .done) .no) .no)))))))))), true, [], [], none⟩) (.seq (.seq (.reg ⟨.done, false, [], [], none⟩) (.cond (some ⟨[19, 20, 21, 22, 23, 24, 25, 26, 27, 28], [], []⟩) (.seq (.reg ⟨(.fl 0 (.fl 1 (.fl 2 (.fl 3 (.fl 4 (.alt 5 false false .done .no)))))), true, [], [], none⟩) (.reg ⟨(.fl 0 (.fl 1 (.fl 2 (.fl 3 (.fl 4 (.alt 5 false false .done .no)))))), true, [], [], none⟩)) .leaf)) (.seq (.reg ⟨.done, false, [], [], none⟩) .leaf)))))
theorem f10_x {a0 : Option Addr} {a1_0 : Int} {a1_1 : Int} {V : View} {Q : Value → View → Prop} (h : f10_n a0 a1_0 a1_1 V Q) : CallV Try.prog 10 ⟨[(.pointer a0), (.agg ⟨[(.int .i64 a1_0), (.int .i64 a1_1)]⟩)]⟩ V Q :=
  XF_sound (wr := false) Try.checked.mixed (enters_of (fn := Try.f10) (by kernel_rfl) (by kernel_rfl) (by kernel_rfl)) (fn := Try.f10) (by kernel_rfl) (ac := f10_ac)
    (Eq.mp (show f10_n a0 a1_0 a1_1 V Q = XF Try.prog false Try.f10 (f10_ac) [(.pointer a0), (.agg ⟨[(.int .i64 a1_0), (.int .i64 a1_1)]⟩)] V Q from by kernel_rfl) h)
/-- (*potsherd/place.Table).Put -/
def f11_n (a0 : Option Addr) (a1_0 : Int) (a1_1 : Int) (a2_0 : Int) (a2_1 : Int) (V : View) (Q : Value → View → Prop) : Prop :=
    ∀ (b b : Nat), br (bif bif Option.isNone a0 then true else decide (a2_0 < (0 : Int)) then true else decide (a2_1 < (0 : Int))) (Q (Value.bool false) V) (True ∧ ∃ (S : View), View.Le S V ∧ ∃ (a : Addr), a0 = some a ∧ ∃ (x : Option Nat), View.cell? S (Addr.add a (1 : Nat)) = some (Value.map x) ∧ True ∧ mapG S x (Value.agg (Array.mk [Value.int IntKind.i64 a2_0, Value.int IntKind.i64 a2_1])) fun (f : Option (Nat × Value)) => ∃ (x : Int), ∃ (x_1 : Int), found (Value.agg (Array.mk [Value.int IntKind.i64 (0 : Int), Value.int IntKind.i64 (0 : Int)])) f = Value.agg (Array.mk [Value.int IntKind.i64 x, Value.int IntKind.i64 x_1]) ∧ ∀ (b : Nat), View.Le S V ∧ joinP [K.bool] (fun (J : CurP [K.bool]) => br (Option.isSome f) (True ∧ J (!(decide (x = a1_0) && (decide (x_1 = a1_1) && true))) V) (J false V)) fun (x : Bool) (V : View) => br x (Q (Value.bool false) V) (CallV Try.prog (10 : Nat) (Array.mk [Value.pointer a0, Value.agg (Array.mk [Value.int IntKind.i64 a1_0, Value.int IntKind.i64 a1_1])]) V fun (r : Value) (V : View) => ∃ (x : Bool), r = Value.bool x ∧ True ∧ ∃ (S : View), View.Le S V ∧ ∃ (a : Addr), a0 = some a ∧ ∃ (x : Option Nat), View.cell? S (Addr.add a (0 : Nat)) = some (Value.map x) ∧ ∃ (a : Addr), a0 = some a ∧ ∃ (x_2 : Option Nat), View.cell? S (Addr.add a (1 : Nat)) = some (Value.map x_2) ∧ True ∧ mapW V x (Value.agg (Array.mk [Value.int IntKind.i64 a1_0, Value.int IntKind.i64 a1_1])) fun (r : Nat) (es : Array MapEntry) (cl : Nat) (f : Option (Nat × Value)) => ∃ (x_3 : Int), ∃ (x_4 : Int), found (Value.agg (Array.mk [Value.int IntKind.i64 (0 : Int), Value.int IntKind.i64 (0 : Int)])) f = Value.agg (Array.mk [Value.int IntKind.i64 x_3, Value.int IntKind.i64 x_4]) ∧ View.Le S (View.put V r (mput es cl f (Value.agg (Array.mk [Value.int IntKind.i64 a1_0, Value.int IntKind.i64 a1_1])) (Value.agg (Array.mk [Value.int IntKind.i64 x_3, Value.int IntKind.i64 x_4])))) ∧ mapS (View.put V r (mput es cl f (Value.agg (Array.mk [Value.int IntKind.i64 a1_0, Value.int IntKind.i64 a1_1])) (Value.agg (Array.mk [Value.int IntKind.i64 x_3, Value.int IntKind.i64 x_4])))) x (↑(mborn es cl f) : Int) (Value.agg (Array.mk [Value.int IntKind.i64 a2_0, Value.int IntKind.i64 a2_1])) fun (V : View) => View.Le S V ∧ True ∧ mapW V x_2 (Value.agg (Array.mk [Value.int IntKind.i64 a2_0, Value.int IntKind.i64 a2_1])) fun (r : Nat) (es : Array MapEntry) (cl : Nat) (f : Option (Nat × Value)) => ∃ (x : Int), ∃ (x_5 : Int), found (Value.agg (Array.mk [Value.int IntKind.i64 (0 : Int), Value.int IntKind.i64 (0 : Int)])) f = Value.agg (Array.mk [Value.int IntKind.i64 x, Value.int IntKind.i64 x_5]) ∧ View.Le S (View.put V r (mput es cl f (Value.agg (Array.mk [Value.int IntKind.i64 a2_0, Value.int IntKind.i64 a2_1])) (Value.agg (Array.mk [Value.int IntKind.i64 x, Value.int IntKind.i64 x_5])))) ∧ mapS (View.put V r (mput es cl f (Value.agg (Array.mk [Value.int IntKind.i64 a2_0, Value.int IntKind.i64 a2_1])) (Value.agg (Array.mk [Value.int IntKind.i64 x, Value.int IntKind.i64 x_5])))) x_2 (↑(mborn es cl f) : Int) (Value.agg (Array.mk [Value.int IntKind.i64 a1_0, Value.int IntKind.i64 a1_1])) fun (V : View) => Q (Value.bool true) V))
def f11_ac : AC := (.seq (.reg ⟨.done, false, [], [], none⟩) (.seq (.seq (.reg ⟨.done, false, [], [], none⟩) (.cond none (.seq (.reg ⟨.done, false, [], [], none⟩) .leaf) .leaf)) (.seq (.seq (.reg ⟨(.fl 0 (.fl 1 (.fl 2 (.fl 3 (.fl 4 (.fl 5 (.fl 6 (.fl 7 (.fl 8 (.alt 9 true false (.alt 10 false false (.fl 11 .done) .no) .no)))))))))), true, [], [], none⟩) (.seq (.reg ⟨.done, false, [], [], (some ⟨[30, 31, 32, 33, 34], [(35, .bool)], []⟩)⟩) (.cond none (.seq (.reg ⟨.done, false, [], [], none⟩) .leaf) .leaf))) (.seq (.reg ⟨.done, false, [], [], none⟩) (.seq (.reg ⟨(.fl 0 (.fl 1 (.fl 2 (.fl 3 (.fl 4 (.fl 5 (.fl 6 (.fl 7 (.fl 8 (.fl 9 (.fl 10 (.fl 11 (.alt 12 true false (.fl 13 (.alt 14 true false (.alt 15 true false (.fl 16 (.alt 17 false false .done .no)) .no) .no)) .no))))))))))))), true, [], [], none⟩) (.seq (.reg ⟨.done, false, [], [], none⟩) .leaf))))))
theorem f11_x {a0 : Option Addr} {a1_0 : Int} {a1_1 : Int} {a2_0 : Int} {a2_1 : Int} {V : View} {Q : Value → View → Prop} (h : f11_n a0 a1_0 a1_1 a2_0 a2_1 V Q) : CallV Try.prog 11 ⟨[(.pointer a0), (.agg ⟨[(.int .i64 a1_0), (.int .i64 a1_1)]⟩), (.agg ⟨[(.int .i64 a2_0), (.int .i64 a2_1)]⟩)]⟩ V Q :=
  XF_sound (wr := false) Try.checked.mixed (enters_of (fn := Try.f11) (by kernel_rfl) (by kernel_rfl) (by kernel_rfl)) (fn := Try.f11) (by kernel_rfl) (ac := f11_ac)
    (Eq.mp (show f11_n a0 a1_0 a1_1 a2_0 a2_1 V Q = XF Try.prog false Try.f11 (f11_ac) [(.pointer a0), (.agg ⟨[(.int .i64 a1_0), (.int .i64 a1_1)]⟩), (.agg ⟨[(.int .i64 a2_0), (.int .i64 a2_1)]⟩)] V Q from by kernel_rfl) h)
/-- (*potsherd/place.Table).At -/
def f12_n (a0 : Option Addr) (a1_0 : Int) (a1_1 : Int) (V : View) (Q : Value → View → Prop) : Prop :=
    ∀ (b b : Nat), br (Option.isNone a0) (Q (Value.tuple (Array.mk [Value.agg (Array.mk [Value.int IntKind.i64 (0 : Int), Value.int IntKind.i64 (0 : Int)]), Value.bool false])) V) (True ∧ ∃ (S : View), View.Le S V ∧ ∃ (a : Addr), a0 = some a ∧ ∃ (x : Option Nat), View.cell? S (Addr.add a (0 : Nat)) = some (Value.map x) ∧ True ∧ mapG S x (Value.agg (Array.mk [Value.int IntKind.i64 a1_0, Value.int IntKind.i64 a1_1])) fun (f : Option (Nat × Value)) => ∃ (x : Int), ∃ (x_1 : Int), found (Value.agg (Array.mk [Value.int IntKind.i64 (0 : Int), Value.int IntKind.i64 (0 : Int)])) f = Value.agg (Array.mk [Value.int IntKind.i64 x, Value.int IntKind.i64 x_1]) ∧ ∀ (b : Nat), View.Le S V ∧ Q (Value.tuple (Array.mk [Value.agg (Array.mk [Value.int IntKind.i64 x, Value.int IntKind.i64 x_1]), Value.bool (Option.isSome f)])) V)
def f12_ac : AC := (.seq (.reg ⟨.done, false, [], [], none⟩) (.seq (.seq (.reg ⟨.done, false, [], [], none⟩) (.cond none (.seq (.reg ⟨.done, false, [], [], none⟩) .leaf) .leaf)) (.seq (.reg ⟨(.fl 0 (.fl 1 (.fl 2 (.fl 3 (.fl 4 (.fl 5 (.fl 6 (.fl 7 (.fl 8 (.alt 9 true false (.alt 10 false false (.fl 11 .done) .no) .no)))))))))), true, [], [], none⟩) (.seq (.reg ⟨.done, false, [], [], none⟩) .leaf))))
theorem f12_x {a0 : Option Addr} {a1_0 : Int} {a1_1 : Int} {V : View} {Q : Value → View → Prop} (h : f12_n a0 a1_0 a1_1 V Q) : CallV Try.prog 12 ⟨[(.pointer a0), (.agg ⟨[(.int .i64 a1_0), (.int .i64 a1_1)]⟩)]⟩ V Q :=
  XF_sound (wr := false) Try.checked.mixed (enters_of (fn := Try.f12) (by kernel_rfl) (by kernel_rfl) (by kernel_rfl)) (fn := Try.f12) (by kernel_rfl) (ac := f12_ac)
    (Eq.mp (show f12_n a0 a1_0 a1_1 V Q = XF Try.prog false Try.f12 (f12_ac) [(.pointer a0), (.agg ⟨[(.int .i64 a1_0), (.int .i64 a1_1)]⟩)] V Q from by kernel_rfl) h)
/-- (*potsherd/place.Table).On -/
def f13_n (a0 : Option Addr) (a1_0 : Int) (a1_1 : Int) (V : View) (Q : Value → View → Prop) : Prop :=
    ∀ (b b : Nat), br (Option.isNone a0) (Q (Value.tuple (Array.mk [Value.agg (Array.mk [Value.int IntKind.i64 (0 : Int), Value.int IntKind.i64 (0 : Int)]), Value.bool false])) V) (True ∧ ∃ (S : View), View.Le S V ∧ ∃ (a : Addr), a0 = some a ∧ ∃ (x : Option Nat), View.cell? S (Addr.add a (1 : Nat)) = some (Value.map x) ∧ True ∧ mapG S x (Value.agg (Array.mk [Value.int IntKind.i64 a1_0, Value.int IntKind.i64 a1_1])) fun (f : Option (Nat × Value)) => ∃ (x : Int), ∃ (x_1 : Int), found (Value.agg (Array.mk [Value.int IntKind.i64 (0 : Int), Value.int IntKind.i64 (0 : Int)])) f = Value.agg (Array.mk [Value.int IntKind.i64 x, Value.int IntKind.i64 x_1]) ∧ ∀ (b : Nat), View.Le S V ∧ Q (Value.tuple (Array.mk [Value.agg (Array.mk [Value.int IntKind.i64 x, Value.int IntKind.i64 x_1]), Value.bool (Option.isSome f)])) V)
def f13_ac : AC := (.seq (.reg ⟨.done, false, [], [], none⟩) (.seq (.seq (.reg ⟨.done, false, [], [], none⟩) (.cond none (.seq (.reg ⟨.done, false, [], [], none⟩) .leaf) .leaf)) (.seq (.reg ⟨(.fl 0 (.fl 1 (.fl 2 (.fl 3 (.fl 4 (.fl 5 (.fl 6 (.fl 7 (.fl 8 (.alt 9 true false (.alt 10 false false (.fl 11 .done) .no) .no)))))))))), true, [], [], none⟩) (.seq (.reg ⟨.done, false, [], [], none⟩) .leaf))))
theorem f13_x {a0 : Option Addr} {a1_0 : Int} {a1_1 : Int} {V : View} {Q : Value → View → Prop} (h : f13_n a0 a1_0 a1_1 V Q) : CallV Try.prog 13 ⟨[(.pointer a0), (.agg ⟨[(.int .i64 a1_0), (.int .i64 a1_1)]⟩)]⟩ V Q :=
  XF_sound (wr := false) Try.checked.mixed (enters_of (fn := Try.f13) (by kernel_rfl) (by kernel_rfl) (by kernel_rfl)) (fn := Try.f13) (by kernel_rfl) (ac := f13_ac)
    (Eq.mp (show f13_n a0 a1_0 a1_1 V Q = XF Try.prog false Try.f13 (f13_ac) [(.pointer a0), (.agg ⟨[(.int .i64 a1_0), (.int .i64 a1_1)]⟩)] V Q from by kernel_rfl) h)
/-- (*potsherd/place.Table).Len -/
def f14_n (a0 : Option Addr) (V : View) (Q : Value → View → Prop) : Prop :=
    br (Option.isNone a0) (Q (Value.int IntKind.i64 (0 : Int)) V) (∃ (a : Addr), a0 = some a ∧ ∃ (x : Option Nat), View.cell? V (Addr.add a (1 : Nat)) = some (Value.map x) ∧ match some (TypeDesc.map (24 : Nat) (30 : Nat)), Value.map x with | some TypeDesc.string, Value.string s => Q (Value.int IntKind.i64 (↑(ByteArray.size s) : Int)) V | some (TypeDesc.slice elem), Value.slice a n cap => Q (Value.int IntKind.i64 (↑n : Int)) V | some (TypeDesc.map key elem), Value.map none => Q (Value.int IntKind.i64 (0 : Int)) V | some (TypeDesc.map key elem), Value.map (some r) => ∃ (es : Array MapEntry), ∃ (cl : Nat), View.see V r = some (Obj.map es cl) ∧ Q (Value.int IntKind.i64 (↑(Array.size es) : Int)) V | x, x_1 => False)
def f14_ac : AC := (.seq (.reg ⟨.done, false, [], [], none⟩) (.seq (.seq (.reg ⟨.done, false, [], [], none⟩) (.cond none (.seq (.reg ⟨.done, false, [], [], none⟩) .leaf) .leaf)) (.seq (.reg ⟨.done, false, [], [], none⟩) .leaf)))
theorem f14_x {a0 : Option Addr} {V : View} {Q : Value → View → Prop} (h : f14_n a0 V Q) : CallV Try.prog 14 ⟨[(.pointer a0)]⟩ V Q :=
  XF_sound (wr := false) Try.checked.mixed (enters_of (fn := Try.f14) (by kernel_rfl) (by kernel_rfl) (by kernel_rfl)) (fn := Try.f14) (by kernel_rfl) (ac := f14_ac)
    (Eq.mp (show f14_n a0 V Q = XF Try.prog false Try.f14 (f14_ac) [(.pointer a0)] V Q from by kernel_rfl) h)
/-- potsherd/potsherdlaw9.tells -/
def f15_n (a0 : Option Addr) (a1 : Sl) (a2_0 : Int) (a2_1 : Int) (a3 : Int) (V : View) (Q : Value → View → Prop) : Prop :=
    ∀ (b : Nat), loopP [K.sl, K.sl, K.int IntKind.i64] (fun (x x_1 : Sl) (x_2 : Int) (V : View) (J : CurP [K.sl, K.sl, K.int IntKind.i64]) => br (decide (x_2 < (↑(Sl.n a1) : Int))) ((0 : Int) ≤ x_2 ∧ x_2 < (↑(Sl.n a1) : Int) ∧ ∃ (ad : Addr), Sl.a a1 = some ad ∧ ∃ (x_3 : Int), ∃ (x_4 : Int), ∃ (x_5 : Int), ∃ (x_6 : Int), cellsAt V (Addr.add ad (Int.toNat x_2 * (4 : Nat))) [Value.int IntKind.i64 x_3, Value.int IntKind.i64 x_4, Value.int IntKind.i64 x_5, Value.int IntKind.i64 x_6] ∧ ∀ (b : Nat), CallV Try.prog (19 : Nat) (Array.mk [Value.slice (Sl.a x) (Sl.n x) (Sl.c x), Value.agg (Array.mk [Value.int IntKind.i64 x_3, Value.int IntKind.i64 x_4, Value.int IntKind.i64 x_5, Value.int IntKind.i64 x_6])]) V fun (r : Value) (V : View) => ∃ (x : Sl), r = Value.slice (Sl.a x) (Sl.n x) (Sl.c x) ∧ joinP [K.sl] (fun (J : CurP [K.sl]) => br (decide (x_5 = a3)) (CallV Try.prog (19 : Nat) (Array.mk [Value.slice (Sl.a x_1) (Sl.n x_1) (Sl.c x_1), Value.agg (Array.mk [Value.int IntKind.i64 x_3, Value.int IntKind.i64 x_4, Value.int IntKind.i64 x_5, Value.int IntKind.i64 x_6])]) V fun (r : Value) (V : View) => ∃ (x : Sl), r = Value.slice (Sl.a x) (Sl.n x) (Sl.c x) ∧ J (Sl.mk (Sl.a x) (Sl.n x) (Sl.c x)) V) (J (Sl.mk (Sl.a x_1) (Sl.n x_1) (Sl.c x_1)) V)) fun (x_7 : Sl) (V : View) => inI IntKind.i64 (x_2 + (1 : Int)) ∧ J (Sl.mk (Sl.a x) (Sl.n x) (Sl.c x)) (Sl.mk (Sl.a x_7) (Sl.n x_7) (Sl.c x_7)) (x_2 + (1 : Int)) V) (joinP [K.bool] (fun (J : CurP [K.bool]) => CallV Try.prog (18 : Nat) (Array.mk [Value.pointer a0]) V fun (r : Value) (V : View) => ∃ (x_3 : Sl), r = Value.slice (Sl.a x_3) (Sl.n x_3) (Sl.c x_3) ∧ CallV Try.prog (20 : Nat) (Array.mk [Value.slice (Sl.a x_3) (Sl.n x_3) (Sl.c x_3), Value.slice (Sl.a x) (Sl.n x) (Sl.c x)]) V fun (r : Value) (V : View) => ∃ (x : Bool), r = Value.bool x ∧ br x (CallV Try.prog (17 : Nat) (Array.mk [Value.pointer a0, Value.int IntKind.i64 a3]) V fun (r : Value) (V : View) => ∃ (x : Sl), r = Value.slice (Sl.a x) (Sl.n x) (Sl.c x) ∧ CallV Try.prog (20 : Nat) (Array.mk [Value.slice (Sl.a x) (Sl.n x) (Sl.c x), Value.slice (Sl.a x_1) (Sl.n x_1) (Sl.c x_1)]) V fun (r : Value) (V : View) => ∃ (x : Bool), r = Value.bool x ∧ br x (CallV Try.prog (16 : Nat) (Array.mk [Value.pointer a0, Value.int IntKind.i64 a3]) V fun (r : Value) (V : View) => ∃ (x : Int), r = Value.int IntKind.i64 x ∧ J (decide (x = (↑(Sl.n x_1) : Int))) V) (J false V)) (J false V)) fun (x : Bool) (V : View) => Q (Value.bool x) V)) (Sl.mk none (0 : Nat) (0 : Nat), Sl.mk none (0 : Nat) (0 : Nat), (0 : Int), ()) V
def f15_ac : AC := (.seq (.reg ⟨.done, false, [], [], none⟩) (.seq (.reg ⟨.done, false, [], [], none⟩) (.seq (.seq (.reg ⟨.done, false, [], [], none⟩) (.block none (.loop ⟨[12, 16, 17, 18, 19, 20, 21, 22, 23, 24, 25, 26, 27, 28, 29, 30], [(9, .sl), (10, .sl), (15, .int .i64)], []⟩ (.seq (.reg ⟨.done, false, [], [], none⟩) (.seq (.cond none .leaf .leaf) (.seq (.block none (.seq (.reg ⟨.done, false, [], [], none⟩) (.seq (.reg ⟨.done, false, [], [], none⟩) (.seq (.reg ⟨.done, false, [], [], none⟩) (.cond (some ⟨[27, 28, 29], [(10, .sl)], []⟩) (.reg ⟨.done, false, [], [], none⟩) .leaf))))) (.reg ⟨.done, false, [], [], none⟩))))))) (.seq (.reg ⟨.done, false, [], [], (some ⟨[31, 32, 33, 34, 35, 36, 37, 38, 39, 40, 41, 42, 43, 44, 45, 46, 47, 48, 49], [(8, .bool)], []⟩)⟩) .leaf))))
theorem f15_x {a0 : Option Addr} {a1 : Sl} {a2_0 : Int} {a2_1 : Int} {a3 : Int} {V : View} {Q : Value → View → Prop} (h : f15_n a0 a1 a2_0 a2_1 a3 V Q) : CallV Try.prog 15 ⟨[(.pointer a0), (.slice a1.a a1.n a1.c), (.agg ⟨[(.int .i64 a2_0), (.int .i64 a2_1)]⟩), (.int .i64 a3)]⟩ V Q :=
  XF_sound (wr := false) Try.checked.mixed (enters_of (fn := Try.f15) (by kernel_rfl) (by kernel_rfl) (by kernel_rfl)) (fn := Try.f15) (by kernel_rfl) (ac := f15_ac)
    (Eq.mp (show f15_n a0 a1 a2_0 a2_1 a3 V Q = XF Try.prog false Try.f15 (f15_ac) [(.pointer a0), (.slice a1.a a1.n a1.c), (.agg ⟨[(.int .i64 a2_0), (.int .i64 a2_1)]⟩), (.int .i64 a3)] V Q from by kernel_rfl) h)
/-- (*potsherd/place.Table).Live -/
def f16_n (a0 : Option Addr) (a1 : Int) (V : View) (Q : Value → View → Prop) : Prop :=
    CallV Try.prog (17 : Nat) (Array.mk [Value.pointer a0, Value.int IntKind.i64 a1]) V fun (r : Value) (V : View) => ∃ (x : Sl), r = Value.slice (Sl.a x) (Sl.n x) (Sl.c x) ∧ Q (Value.int IntKind.i64 (↑(Sl.n x) : Int)) V
def f16_ac : AC := (.seq (.reg ⟨.done, false, [], [], none⟩) (.seq (.reg ⟨.done, false, [], [], none⟩) .leaf))
theorem f16_x {a0 : Option Addr} {a1 : Int} {V : View} {Q : Value → View → Prop} (h : f16_n a0 a1 V Q) : CallV Try.prog 16 ⟨[(.pointer a0), (.int .i64 a1)]⟩ V Q :=
  XF_sound (wr := false) Try.checked.mixed (enters_of (fn := Try.f16) (by kernel_rfl) (by kernel_rfl) (by kernel_rfl)) (fn := Try.f16) (by kernel_rfl) (ac := f16_ac)
    (Eq.mp (show f16_n a0 a1 V Q = XF Try.prog false Try.f16 (f16_ac) [(.pointer a0), (.int .i64 a1)] V Q from by kernel_rfl) h)
/-- (*potsherd/place.Table).In -/
def f17_n (a0 : Option Addr) (a1 : Int) (V : View) (Q : Value → View → Prop) : Prop :=
    ∀ (b : Nat), View.see V b = none → CallV Try.prog (18 : Nat) (Array.mk [Value.pointer a0]) (View.put V b (Obj.cells (Array.mk [Value.int IntKind.i64 a1]) (3 : Nat))) fun (r : Value) (V : View) => ∃ (x : Sl), r = Value.slice (Sl.a x) (Sl.n x) (Sl.c x) ∧ CallV Try.prog (21 : Nat) (Array.mk [Value.slice (Sl.a x) (Sl.n x) (Sl.c x), Value.func (Fn.func (22 : Nat)) (Array.mk []) (Array.mk [Value.pointer (some (Addr.mk b (0 : Nat) none))])]) V fun (r : Value) (V : View) => ∃ (x : Sl), r = Value.slice (Sl.a x) (Sl.n x) (Sl.c x) ∧ Q (Value.slice (Sl.a x) (Sl.n x) (Sl.c x)) V
def f17_ac : AC := (.seq (.reg ⟨.done, false, [(1, 0)], [], none⟩) (.seq (.reg ⟨.done, false, [], [], none⟩) .leaf))
theorem f17_x {a0 : Option Addr} {a1 : Int} {V : View} {Q : Value → View → Prop} (h : f17_n a0 a1 V Q) : CallV Try.prog 17 ⟨[(.pointer a0), (.int .i64 a1)]⟩ V Q :=
  XF_sound (wr := false) Try.checked.mixed (enters_of (fn := Try.f17) (by kernel_rfl) (by kernel_rfl) (by kernel_rfl)) (fn := Try.f17) (by kernel_rfl) (ac := f17_ac)
    (Eq.mp (show f17_n a0 a1 V Q = XF Try.prog false Try.f17 (f17_ac) [(.pointer a0), (.int .i64 a1)] V Q from by kernel_rfl) h)
/-- (*potsherd/place.Table).All -/
def f18_n (a0 : Option Addr) (V : View) (Q : Value → View → Prop) : Prop :=
    br (Option.isNone a0) (Q (Value.slice none (0 : Nat) (0 : Nat)) V) (∃ (a : Addr), a0 = some a ∧ ∃ (x : Option Nat), View.cell? V (Addr.add a (1 : Nat)) = some (Value.map x) ∧ rangeM V x fun (r : Nat) (V : View) => loopP [K.sl] (fun (x : Sl) (V : View) (J : CurP [K.sl]) => nextM V r (fun (k v : Value) (V : View) => entryM V r fun (k v : Value) => ∃ (x_1 : Int), ∃ (x_2 : Int), ∃ (x_3 : Int), ∃ (x_4 : Int), k = Value.agg (Array.mk [Value.int IntKind.i64 x_1, Value.int IntKind.i64 x_2]) ∧ v = Value.agg (Array.mk [Value.int IntKind.i64 x_3, Value.int IntKind.i64 x_4]) ∧ ∀ (b b : Nat), newB V (Obj.cells (Array.mk (putL [Value.int IntKind.i64 (0 : Int), Value.int IntKind.i64 (0 : Int), Value.int IntKind.i64 (0 : Int), Value.int IntKind.i64 (0 : Int)] (0 : Nat) [Value.int IntKind.i64 x_3, Value.int IntKind.i64 x_4, Value.int IntKind.i64 x_1, Value.int IntKind.i64 x_2])) (34 : Nat)) fun (r : Nat) (V : View) => apV V (34 : Nat) (4 : Nat) (32 : Nat) [Value.int IntKind.i64 (0 : Int), Value.int IntKind.i64 (0 : Int), Value.int IntKind.i64 (0 : Int), Value.int IntKind.i64 (0 : Int)] (Sl.mk (Sl.a x) (Sl.n x) (Sl.c x)) (Value.slice (some (Addr.mk r (0 : Nat) none)) (1 : Nat) (1 : Nat)) fun (s : Sl) (V : View) => J (Sl.mk (Sl.a s) (Sl.n s) (Sl.c s)) V) fun (V : View) => CallV Try.prog (23 : Nat) (Array.mk [Value.slice (Sl.a x) (Sl.n x) (Sl.c x), Value.func (Fn.func (24 : Nat)) (Array.mk []) (Array.mk [])]) V fun (r : Value) (V : View) => r = Value.tuple (Array.mk []) ∧ Q (Value.slice (Sl.a x) (Sl.n x) (Sl.c x)) V) (Sl.mk none (0 : Nat) (0 : Nat), ()) V)
def f18_ac : AC := (.seq (.reg ⟨.done, false, [], [], none⟩) (.seq (.seq (.reg ⟨.done, false, [], [], none⟩) (.cond none (.seq (.reg ⟨.done, false, [], [], none⟩) .leaf) .leaf)) (.seq (.reg ⟨.done, false, [], [], none⟩) (.seq (.seq (.reg ⟨.done, false, [], [], none⟩) (.block none (.loop ⟨[4, 5, 13, 14, 15, 16, 17, 18, 19, 20, 21, 22, 23], [(3, .sl)], []⟩ (.seq (.reg ⟨.done, false, [], [], none⟩) (.seq (.cond none .leaf .leaf) (.block none (.seq (.reg ⟨.done, false, [], [], none⟩) (.reg ⟨.done, false, [], [], none⟩)))))))) (.seq (.reg ⟨.done, false, [], [], none⟩) (.seq (.reg ⟨.done, false, [], [], none⟩) .leaf))))))
theorem f18_x {a0 : Option Addr} {V : View} {Q : Value → View → Prop} (h : f18_n a0 V Q) : CallV Try.prog 18 ⟨[(.pointer a0)]⟩ V Q :=
  XF_sound (wr := false) Try.checked.mixed (enters_of (fn := Try.f18) (by kernel_rfl) (by kernel_rfl) (by kernel_rfl)) (fn := Try.f18) (by kernel_rfl) (ac := f18_ac)
    (Eq.mp (show f18_n a0 V Q = XF Try.prog false Try.f18 (f18_ac) [(.pointer a0)] V Q from by kernel_rfl) h)
/-- potsherd/potsherdlaw9.insert -/
def f19_n (a0 : Sl) (a1_0 : Int) (a1_1 : Int) (a1_2 : Int) (a1_3 : Int) (V : View) (Q : Value → View → Prop) : Prop :=
    ∀ (b : Nat), loopP [K.int IntKind.i64] (fun (x : Int) (V : View) (J : CurP [K.int IntKind.i64]) => joinP [K.bool] (fun (J : CurP [K.bool]) => True ∧ ∃ (S : View), View.Le S V ∧ br (decide (x < (↑(Sl.n a0) : Int))) ((0 : Int) ≤ x ∧ x < (↑(Sl.n a0) : Int) ∧ ∃ (ad : Addr), Sl.a a0 = some ad ∧ ∃ (x_1 : Int), View.cell? S (Addr.add (Addr.add (Addr.add ad (Int.toNat x * (4 : Nat))) (2 : Nat)) (0 : Nat)) = some (Value.int IntKind.i64 x_1) ∧ br (decide (x_1 < a1_2)) (J true V) ((0 : Int) ≤ x ∧ x < (↑(Sl.n a0) : Int) ∧ ∃ (ad : Addr), Sl.a a0 = some ad ∧ ∃ (x_2 : Int), View.cell? S (Addr.add (Addr.add (Addr.add ad (Int.toNat x * (4 : Nat))) (2 : Nat)) (0 : Nat)) = some (Value.int IntKind.i64 x_2) ∧ br (decide (x_2 = a1_2)) ((0 : Int) ≤ x ∧ x < (↑(Sl.n a0) : Int) ∧ ∃ (ad : Addr), Sl.a a0 = some ad ∧ ∃ (x_3 : Int), View.cell? S (Addr.add (Addr.add (Addr.add ad (Int.toNat x * (4 : Nat))) (2 : Nat)) (1 : Nat)) = some (Value.int IntKind.i64 x_3) ∧ J (decide (x_3 < a1_3)) V) (J false V))) (J false V)) fun (x_1 : Bool) (V : View) => br x_1 (inI IntKind.i64 (x + (1 : Int)) ∧ J (x + (1 : Int)) V) (joinP [K.sl] (fun (J : CurP [K.sl]) => True ∧ ∃ (S : View), View.Le S V ∧ (0 : Int) ≤ (0 : Int) ∧ (0 : Int) ≤ x ∧ x ≤ (↑(Sl.c a0) : Int) ∧ (0 : Int) ≤ x ∧ x ≤ (↑(Sl.n a0) : Int) ∧ (↑(Sl.n a0) : Int) ≤ (↑(Sl.c a0) : Int) ∧ (newB V (Obj.cells (Array.mk []) (34 : Nat)) fun (r : Nat) (V : View) => View.Le S V ∧ (apV V (34 : Nat) (4 : Nat) (32 : Nat) [Value.int IntKind.i64 (0 : Int), Value.int IntKind.i64 (0 : Int), Value.int IntKind.i64 (0 : Int), Value.int IntKind.i64 (0 : Int)] (Sl.mk (some (Addr.mk r (0 : Nat) none)) (0 : Nat) (0 : Nat)) (Value.slice (if Sl.c a0 = (0 : Nat) then Sl.a a0 else Option.map (fun (x : Addr) => Addr.add x (0 : Nat)) (Sl.a a0)) (Int.toNat x - (0 : Nat)) (Sl.c a0 - (0 : Nat))) fun (s : Sl) (V : View) => View.Le S V ∧ newB V (Obj.cells (Array.mk (putL [Value.int IntKind.i64 (0 : Int), Value.int IntKind.i64 (0 : Int), Value.int IntKind.i64 (0 : Int), Value.int IntKind.i64 (0 : Int)] (0 : Nat) [Value.int IntKind.i64 a1_0, Value.int IntKind.i64 a1_1, Value.int IntKind.i64 a1_2, Value.int IntKind.i64 a1_3])) (34 : Nat)) fun (r : Nat) (V : View) => View.Le S V ∧ apV V (34 : Nat) (4 : Nat) (32 : Nat) [Value.int IntKind.i64 (0 : Int), Value.int IntKind.i64 (0 : Int), Value.int IntKind.i64 (0 : Int), Value.int IntKind.i64 (0 : Int)] (Sl.mk (Sl.a s) (Sl.n s) (Sl.c s)) (Value.slice (some (Addr.mk r (0 : Nat) none)) (1 : Nat) (1 : Nat)) fun (s : Sl) (V : View) => apV V (34 : Nat) (4 : Nat) (32 : Nat) [Value.int IntKind.i64 (0 : Int), Value.int IntKind.i64 (0 : Int), Value.int IntKind.i64 (0 : Int), Value.int IntKind.i64 (0 : Int)] (Sl.mk (Sl.a s) (Sl.n s) (Sl.c s)) (Value.slice (if Sl.c a0 = Int.toNat x then Sl.a a0 else Option.map (fun (x_2 : Addr) => Addr.add x_2 (Int.toNat x * (4 : Nat))) (Sl.a a0)) (Int.toNat (↑(Sl.n a0) : Int) - Int.toNat x) (Sl.c a0 - Int.toNat x)) fun (s : Sl) (V : View) => J (Sl.mk (Sl.a s) (Sl.n s) (Sl.c s)) V) ∧ newB V (Obj.cells (Array.mk (putL [Value.int IntKind.i64 (0 : Int), Value.int IntKind.i64 (0 : Int), Value.int IntKind.i64 (0 : Int), Value.int IntKind.i64 (0 : Int)] (0 : Nat) [Value.int IntKind.i64 a1_0, Value.int IntKind.i64 a1_1, Value.int IntKind.i64 a1_2, Value.int IntKind.i64 a1_3])) (34 : Nat)) fun (r_1 : Nat) (V : View) => View.Le S V ∧ apV V (34 : Nat) (4 : Nat) (32 : Nat) [Value.int IntKind.i64 (0 : Int), Value.int IntKind.i64 (0 : Int), Value.int IntKind.i64 (0 : Int), Value.int IntKind.i64 (0 : Int)] (Sl.mk (some (Addr.mk r (0 : Nat) none)) (0 : Nat) (0 : Nat)) (Value.slice (if Sl.c a0 = (0 : Nat) then Sl.a a0 else Option.map (fun (x : Addr) => Addr.add x (0 : Nat)) (Sl.a a0)) (Int.toNat x - (0 : Nat)) (Sl.c a0 - (0 : Nat))) fun (s : Sl) (V : View) => View.Le S V ∧ apV V (34 : Nat) (4 : Nat) (32 : Nat) [Value.int IntKind.i64 (0 : Int), Value.int IntKind.i64 (0 : Int), Value.int IntKind.i64 (0 : Int), Value.int IntKind.i64 (0 : Int)] (Sl.mk (Sl.a s) (Sl.n s) (Sl.c s)) (Value.slice (some (Addr.mk r_1 (0 : Nat) none)) (1 : Nat) (1 : Nat)) fun (s : Sl) (V : View) => apV V (34 : Nat) (4 : Nat) (32 : Nat) [Value.int IntKind.i64 (0 : Int), Value.int IntKind.i64 (0 : Int), Value.int IntKind.i64 (0 : Int), Value.int IntKind.i64 (0 : Int)] (Sl.mk (Sl.a s) (Sl.n s) (Sl.c s)) (Value.slice (if Sl.c a0 = Int.toNat x then Sl.a a0 else Option.map (fun (x_2 : Addr) => Addr.add x_2 (Int.toNat x * (4 : Nat))) (Sl.a a0)) (Int.toNat (↑(Sl.n a0) : Int) - Int.toNat x) (Sl.c a0 - Int.toNat x)) fun (s : Sl) (V : View) => J (Sl.mk (Sl.a s) (Sl.n s) (Sl.c s)) V) ∧ newB V (Obj.cells (Array.mk (putL [Value.int IntKind.i64 (0 : Int), Value.int IntKind.i64 (0 : Int), Value.int IntKind.i64 (0 : Int), Value.int IntKind.i64 (0 : Int)] (0 : Nat) [Value.int IntKind.i64 a1_0, Value.int IntKind.i64 a1_1, Value.int IntKind.i64 a1_2, Value.int IntKind.i64 a1_3])) (34 : Nat)) fun (r : Nat) (V : View) => View.Le S V ∧ newB V (Obj.cells (Array.mk []) (34 : Nat)) fun (r_1 : Nat) (V : View) => View.Le S V ∧ apV V (34 : Nat) (4 : Nat) (32 : Nat) [Value.int IntKind.i64 (0 : Int), Value.int IntKind.i64 (0 : Int), Value.int IntKind.i64 (0 : Int), Value.int IntKind.i64 (0 : Int)] (Sl.mk (some (Addr.mk r_1 (0 : Nat) none)) (0 : Nat) (0 : Nat)) (Value.slice (if Sl.c a0 = (0 : Nat) then Sl.a a0 else Option.map (fun (x : Addr) => Addr.add x (0 : Nat)) (Sl.a a0)) (Int.toNat x - (0 : Nat)) (Sl.c a0 - (0 : Nat))) fun (s : Sl) (V : View) => View.Le S V ∧ apV V (34 : Nat) (4 : Nat) (32 : Nat) [Value.int IntKind.i64 (0 : Int), Value.int IntKind.i64 (0 : Int), Value.int IntKind.i64 (0 : Int), Value.int IntKind.i64 (0 : Int)] (Sl.mk (Sl.a s) (Sl.n s) (Sl.c s)) (Value.slice (some (Addr.mk r (0 : Nat) none)) (1 : Nat) (1 : Nat)) fun (s : Sl) (V : View) => apV V (34 : Nat) (4 : Nat) (32 : Nat) [Value.int IntKind.i64 (0 : Int), Value.int IntKind.i64 (0 : Int), Value.int IntKind.i64 (0 : Int), Value.int IntKind.i64 (0 : Int)] (Sl.mk (Sl.a s) (Sl.n s) (Sl.c s)) (Value.slice (if Sl.c a0 = Int.toNat x then Sl.a a0 else Option.map (fun (x_2 : Addr) => Addr.add x_2 (Int.toNat x * (4 : Nat))) (Sl.a a0)) (Int.toNat (↑(Sl.n a0) : Int) - Int.toNat x) (Sl.c a0 - Int.toNat x)) fun (s : Sl) (V : View) => J (Sl.mk (Sl.a s) (Sl.n s) (Sl.c s)) V) fun (x : Sl) (V : View) => Q (Value.slice (Sl.a x) (Sl.n x) (Sl.c x)) V)) ((0 : Int), ()) V
def f19_ac : AC := (.seq (.reg ⟨.done, false, [], [], none⟩) (.seq (.reg ⟨.done, false, [], [], none⟩) (.seq (.block none (.loop ⟨[6, 7, 8, 9, 10, 11, 12, 13, 14, 15, 16, 17, 18, 19, 20, 21, 22, 23, 24, 25, 26, 27, 28, 29, 30, 31, 32, 33, 34, 35, 36, 37, 38, 39, 40, 41, 42, 43, 44, 45, 46, 47], [(5, .int .i64)], []⟩ (.seq (.seq (.reg ⟨(.fl 0 (.fl 1 (.fl 2 (.fl 3 (.fl 4 (.fl 5 (.fl 6 (.fl 7 (.fl 8 (.fl 9 (.fl 10 (.fl 11 (.fl 12 (.fl 13 (.fl 14 (.fl 15 (.fl 16 (.fl 17 (.fl 18 (.fl 19 (.fl 20 (.fl 21 (.fl 22 (.fl 23 (.fl 24 (.fl 25 (.fl 26 (.fl 27 (.fl 28 (.fl 29 (.fl 30 (.fl 31 (.fl 32 (.fl 33 (.fl 34 (.fl 35 (.fl 36 (.fl 37 (.fl 38 (.fl 39 .done)))))))))))))))))))))))))))))))))))))))), true, [], [], (some ⟨[6, 7, 8, 9, 10, 11, 12, 13, 14, 15, 16, 17, 18, 19, 20, 21, 22, 23, 24, 25, 26, 27, 28, 29, 30, 31, 32, 33, 34, 35, 36, 37, 38, 39, 40, 41, 42, 43, 44], [(45, .bool)], []⟩)⟩) (.cond none .leaf .leaf)) (.block none (.reg ⟨.done, false, [], [], none⟩))))) (.seq (.reg ⟨(.fl 1 (.fl 2 (.fl 3 (.fl 5 (.fl 8 (.fl 9 (.fl 10 (.alt 0 true false (.alt 4 true false (.alt 6 true false (.alt 7 false false (.alt 11 false false (.fl 12 .done) .no) .no) .no) (.alt 6 true false (.alt 4 true false (.alt 7 false false (.alt 11 false false (.fl 12 .done) .no) .no) .no) .no)) (.alt 6 true false (.alt 0 true false (.alt 4 true false (.alt 7 false false (.alt 11 false false (.fl 12 .done) .no) .no) .no) .no) .no))))))))), true, [], [], (some ⟨[48, 49, 50, 51, 52, 53, 54, 55, 56, 57, 58, 59], [(4, .sl)], []⟩)⟩) .leaf))))
theorem f19_x {a0 : Sl} {a1_0 : Int} {a1_1 : Int} {a1_2 : Int} {a1_3 : Int} {V : View} {Q : Value → View → Prop} (h : f19_n a0 a1_0 a1_1 a1_2 a1_3 V Q) : CallV Try.prog 19 ⟨[(.slice a0.a a0.n a0.c), (.agg ⟨[(.int .i64 a1_0), (.int .i64 a1_1), (.int .i64 a1_2), (.int .i64 a1_3)]⟩)]⟩ V Q :=
  XF_sound (wr := false) Try.checked.mixed (enters_of (fn := Try.f19) (by kernel_rfl) (by kernel_rfl) (by kernel_rfl)) (fn := Try.f19) (by kernel_rfl) (ac := f19_ac)
    (Eq.mp (show f19_n a0 a1_0 a1_1 a1_2 a1_3 V Q = XF Try.prog false Try.f19 (f19_ac) [(.slice a0.a a0.n a0.c), (.agg ⟨[(.int .i64 a1_0), (.int .i64 a1_1), (.int .i64 a1_2), (.int .i64 a1_3)]⟩)] V Q from by kernel_rfl) h)
/-- potsherd/potsherdref3.SameFound -/
def f20_n (a0 : Sl) (a1 : Sl) (V : View) (Q : Value → View → Prop) : Prop :=
    br (!decide ((↑(Sl.n a0) : Int) = (↑(Sl.n a1) : Int))) (Q (Value.bool false) V) (loopP [K.int IntKind.i64] (fun (x : Int) (V : View) (J : CurP [K.int IntKind.i64]) => br (decide (x < (↑(Sl.n a0) : Int))) (True ∧ ∃ (S : View), View.Le S V ∧ (0 : Int) ≤ x ∧ x < (↑(Sl.n a0) : Int) ∧ ∃ (ad : Addr), Sl.a a0 = some ad ∧ ∃ (x_1 : Int), ∃ (x_2 : Int), ∃ (x_3 : Int), ∃ (x_4 : Int), cellsAt S (Addr.add ad (Int.toNat x * (4 : Nat))) [Value.int IntKind.i64 x_1, Value.int IntKind.i64 x_2, Value.int IntKind.i64 x_3, Value.int IntKind.i64 x_4] ∧ (0 : Int) ≤ x ∧ x < (↑(Sl.n a1) : Int) ∧ ∃ (ad : Addr), Sl.a a1 = some ad ∧ ∃ (x_5 : Int), ∃ (x_6 : Int), ∃ (x_7 : Int), ∃ (x_8 : Int), cellsAt S (Addr.add ad (Int.toNat x * (4 : Nat))) [Value.int IntKind.i64 x_5, Value.int IntKind.i64 x_6, Value.int IntKind.i64 x_7, Value.int IntKind.i64 x_8] ∧ True ∧ br (!(decide (x_1 = x_5) && (decide (x_2 = x_6) && true) && (decide (x_3 = x_7) && (decide (x_4 = x_8) && true) && true))) (Q (Value.bool false) V) (inI IntKind.i64 (x + (1 : Int)) ∧ J (x + (1 : Int)) V)) (Q (Value.bool true) V)) ((0 : Int), ()) V)
def f20_ac : AC := (.seq (.reg ⟨.done, false, [], [], none⟩) (.seq (.seq (.reg ⟨.done, false, [], [], none⟩) (.cond none (.seq (.reg ⟨.done, false, [], [], none⟩) .leaf) .leaf)) (.seq (.seq (.reg ⟨.done, false, [], [], none⟩) (.block none (.loop ⟨[5, 14, 15, 16, 17, 18, 19, 20, 21, 22, 23, 24, 25], [(13, .int .i64)], []⟩ (.seq (.reg ⟨.done, false, [], [], none⟩) (.seq (.cond none .leaf .leaf) (.seq (.block none (.seq (.reg ⟨.done, false, [], [], none⟩) (.seq (.reg ⟨(.fl 0 (.fl 1 (.fl 2 (.fl 3 (.fl 4 (.fl 5 (.fl 6 (.fl 7 (.fl 8 .done))))))))), true, [], [], none⟩) (.cond none (.seq (.reg ⟨.done, false, [], [], none⟩) .leaf) .leaf)))) (.reg ⟨.done, false, [], [], none⟩))))))) (.seq (.reg ⟨.done, false, [], [], none⟩) .leaf))))
theorem f20_x {a0 : Sl} {a1 : Sl} {V : View} {Q : Value → View → Prop} (h : f20_n a0 a1 V Q) : CallV Try.prog 20 ⟨[(.slice a0.a a0.n a0.c), (.slice a1.a a1.n a1.c)]⟩ V Q :=
  XF_sound (wr := false) Try.checked.mixed (enters_of (fn := Try.f20) (by kernel_rfl) (by kernel_rfl) (by kernel_rfl)) (fn := Try.f20) (by kernel_rfl) (ac := f20_ac)
    (Eq.mp (show f20_n a0 a1 V Q = XF Try.prog false Try.f20 (f20_ac) [(.slice a0.a a0.n a0.c), (.slice a1.a a1.n a1.c)] V Q from by kernel_rfl) h)
/-- slices.DeleteFunc[[]potsherd/api.Found,potsherd/api.Found] -/
def f21_n (a0 : Sl) (g1 : FuncId) (x1 : List Value) (y1 : List Value) (V : View) (Q : Value → View → Prop) : Prop :=
    CallV Try.prog (25 : Nat) (Array.mk [Value.slice (Sl.a a0) (Sl.n a0) (Sl.c a0), Value.func (Fn.func g1) (Array.mk x1) (Array.mk y1)]) V fun (r : Value) (V : View) => ∃ (x : Int), r = Value.int IntKind.i64 x ∧ br (decide (x = (-1 : Int))) (Q (Value.slice (Sl.a a0) (Sl.n a0) (Sl.c a0)) V) (inI IntKind.i64 (x + (1 : Int)) ∧ loopP [K.int IntKind.i64, K.int IntKind.i64] (fun (x x_1 : Int) (V : View) (J : CurP [K.int IntKind.i64, K.int IntKind.i64]) => br (decide (x_1 < (↑(Sl.n a0) : Int))) ((0 : Int) ≤ x_1 ∧ x_1 < (↑(Sl.n a0) : Int) ∧ ∃ (ad : Addr), Sl.a a0 = some ad ∧ ∃ (x_2 : Int), ∃ (x_3 : Int), ∃ (x_4 : Int), ∃ (x_5 : Int), cellsAt V (Addr.add ad (Int.toNat x_1 * (4 : Nat))) [Value.int IntKind.i64 x_2, Value.int IntKind.i64 x_3, Value.int IntKind.i64 x_4, Value.int IntKind.i64 x_5] ∧ ∀ (b : Nat), CallV Try.prog g1 (Array.mk (Array.toList (Array.mk x1) ++ [Value.agg (Array.mk [Value.int IntKind.i64 x_2, Value.int IntKind.i64 x_3, Value.int IntKind.i64 x_4, Value.int IntKind.i64 x_5])] ++ Array.toList (Array.mk y1))) V fun (r : Value) (V : View) => ∃ (x_6 : Bool), r = Value.bool x_6 ∧ joinP [K.int IntKind.i64] (fun (J : CurP [K.int IntKind.i64]) => br (!x_6) ((0 : Int) ≤ x ∧ x < (↑(Sl.n a0) : Int) ∧ ∃ (ad : Addr), Sl.a a0 = some ad ∧ canSet V (Addr.add ad (Int.toNat x * (4 : Nat))) (Nat.succ (Nat.succ (Nat.succ (nat_lit 1)))) ∧ inI IntKind.i64 (x + (1 : Int)) ∧ J (x + (1 : Int)) (View.sets V (Addr.add ad (Int.toNat x * (4 : Nat))) [Value.int IntKind.i64 x_2, Value.int IntKind.i64 x_3, Value.int IntKind.i64 x_4, Value.int IntKind.i64 x_5])) (J x V)) fun (x : Int) (V : View) => inI IntKind.i64 (x_1 + (1 : Int)) ∧ J x (x_1 + (1 : Int)) V) ((0 : Int) ≤ x ∧ x ≤ (↑(Sl.n a0) : Int) ∧ (↑(Sl.n a0) : Int) ≤ (↑(Sl.c a0) : Int) ∧ (Int.toNat (↑(Sl.n a0) : Int) - Int.toNat x = (0 : Nat) → (0 : Int) ≤ (0 : Int) ∧ (0 : Int) ≤ x ∧ x ≤ (↑(Sl.c a0) : Int) ∧ Q (Value.slice (if Sl.c a0 = (0 : Nat) then Sl.a a0 else Option.map (fun (x : Addr) => Addr.add x (0 : Nat)) (Sl.a a0)) (Int.toNat x - (0 : Nat)) (Sl.c a0 - (0 : Nat))) V) ∧ ((0 : Nat) < Int.toNat (↑(Sl.n a0) : Int) - Int.toNat x → match if Sl.c a0 = Int.toNat x then Sl.a a0 else Option.map (fun (x_2 : Addr) => Addr.add x_2 (Int.toNat x * (4 : Nat))) (Sl.a a0) with | none => (0 : Int) ≤ (0 : Int) ∧ (0 : Int) ≤ x ∧ x ≤ (↑(Sl.c a0) : Int) ∧ Q (Value.slice (if Sl.c a0 = (0 : Nat) then Sl.a a0 else Option.map (fun (x : Addr) => Addr.add x (0 : Nat)) (Sl.a a0)) (Int.toNat x - (0 : Nat)) (Sl.c a0 - (0 : Nat))) V | some ad => (List.all (List.flatten (List.replicate (Int.toNat (↑(Sl.n a0) : Int) - Int.toNat x) [Value.int IntKind.i64 (0 : Int), Value.int IntKind.i64 (0 : Int), Value.int IntKind.i64 (0 : Int), Value.int IntKind.i64 (0 : Int)])) fun (x : Value) => Value.oneCell' x) = true ∧ canSet V ad (List.length (List.flatten (List.replicate (Int.toNat (↑(Sl.n a0) : Int) - Int.toNat x) [Value.int IntKind.i64 (0 : Int), Value.int IntKind.i64 (0 : Int), Value.int IntKind.i64 (0 : Int), Value.int IntKind.i64 (0 : Int)]))) ∧ (0 : Int) ≤ (0 : Int) ∧ (0 : Int) ≤ x ∧ x ≤ (↑(Sl.c a0) : Int) ∧ Q (Value.slice (if Sl.c a0 = (0 : Nat) then Sl.a a0 else Option.map (fun (x : Addr) => Addr.add x (0 : Nat)) (Sl.a a0)) (Int.toNat x - (0 : Nat)) (Sl.c a0 - (0 : Nat))) (View.sets V ad (List.flatten (List.replicate (Int.toNat (↑(Sl.n a0) : Int) - Int.toNat x) [Value.int IntKind.i64 (0 : Int), Value.int IntKind.i64 (0 : Int), Value.int IntKind.i64 (0 : Int), Value.int IntKind.i64 (0 : Int)])))))) (x, x + (1 : Int), ()) V)
def f21_ac : AC := (.seq (.reg ⟨.done, false, [], [], none⟩) (.seq (.reg ⟨.done, false, [], [], none⟩) (.seq (.seq (.reg ⟨.done, false, [], [], none⟩) (.cond none (.seq (.reg ⟨.done, false, [], [], none⟩) .leaf) .leaf)) (.seq (.seq (.reg ⟨.done, false, [], [], none⟩) (.block none (.loop ⟨[7, 16, 17, 18, 19, 20, 21, 22, 23, 24, 25, 26, 27, 28, 29, 30, 31, 32, 33, 34, 35], [(5, .int .i64), (6, .int .i64)], []⟩ (.seq (.seq (.reg ⟨.done, false, [], [], none⟩) (.cond none .leaf .leaf)) (.seq (.block none (.seq (.reg ⟨.done, false, [], [], none⟩) (.seq (.reg ⟨.done, false, [], [], none⟩) (.cond (some ⟨[30, 31, 32, 33, 34, 35], [(5, .int .i64)], []⟩) (.seq (.reg ⟨.done, false, [], [], none⟩) (.reg ⟨.done, false, [], [], none⟩)) .leaf)))) (.reg ⟨.done, false, [], [], none⟩)))))) (.seq (.reg ⟨.done, false, [], [], none⟩) (.seq (.reg ⟨.done, false, [], [], none⟩) .leaf))))))
theorem f21_x {a0 : Sl} {g1 : FuncId} {x1 : List Value} {y1 : List Value} {V : View} {Q : Value → View → Prop} (h : f21_n a0 g1 x1 y1 V Q) : CallV Try.prog 21 ⟨[(.slice a0.a a0.n a0.c), (.func (.func g1) ⟨x1⟩ ⟨y1⟩)]⟩ V Q :=
  XF_sound (wr := false) Try.checked.mixed (enters_of (fn := Try.f21) (by kernel_rfl) (by kernel_rfl) (by kernel_rfl)) (fn := Try.f21) (by kernel_rfl) (ac := f21_ac)
    (Eq.mp (show f21_n a0 g1 x1 y1 V Q = XF Try.prog false Try.f21 (f21_ac) [(.slice a0.a a0.n a0.c), (.func (.func g1) ⟨x1⟩ ⟨y1⟩)] V Q from by kernel_rfl) h)
/-- (*potsherd/place.Table).In$1 -/
def f22_n (a0_0 : Int) (a0_1 : Int) (a0_2 : Int) (a0_3 : Int) (z0 : Addr) (V : View) (Q : Value → View → Prop) : Prop :=
    ∀ (b : Nat), ∃ (x : Int), View.cell? V z0 = some (Value.int IntKind.i64 x) ∧ Q (Value.bool !decide (a0_2 = x)) V
def f22_ac : AC := (.seq (.reg ⟨.done, false, [], [], none⟩) (.seq (.reg ⟨.done, false, [], [], none⟩) .leaf))
theorem f22_x {a0_0 : Int} {a0_1 : Int} {a0_2 : Int} {a0_3 : Int} {z0 : Addr} {V : View} {Q : Value → View → Prop} (h : f22_n a0_0 a0_1 a0_2 a0_3 z0 V Q) : CallV Try.prog 22 ⟨[(.agg ⟨[(.int .i64 a0_0), (.int .i64 a0_1), (.int .i64 a0_2), (.int .i64 a0_3)]⟩), (.pointer (some z0))]⟩ V Q :=
  XF_sound (wr := false) Try.checked.mixed (enters_of (fn := Try.f22) (by kernel_rfl) (by kernel_rfl) (by kernel_rfl)) (fn := Try.f22) (by kernel_rfl) (ac := f22_ac)
    (Eq.mp (show f22_n a0_0 a0_1 a0_2 a0_3 z0 V Q = XF Try.prog false Try.f22 (f22_ac) [(.agg ⟨[(.int .i64 a0_0), (.int .i64 a0_1), (.int .i64 a0_2), (.int .i64 a0_3)]⟩), (.pointer (some z0))] V Q from by kernel_rfl) h)
/-- potsherd/place.order -/
def f24_n (a0_0 : Int) (a0_1 : Int) (a0_2 : Int) (a0_3 : Int) (a1_0 : Int) (a1_1 : Int) (a1_2 : Int) (a1_3 : Int) (V : View) (Q : Value → View → Prop) : Prop :=
    ∀ (b b : Nat), True ∧ ∃ (S : View), View.Le S V ∧ CallV Try.prog (29 : Nat) (Array.mk [Value.int IntKind.i64 a0_2, Value.int IntKind.i64 a1_2]) V fun (r : Value) (V : View) => ∃ (x : Int), r = Value.int IntKind.i64 x ∧ View.Le S V ∧ CallV Try.prog (29 : Nat) (Array.mk [Value.int IntKind.i64 a0_3, Value.int IntKind.i64 a1_3]) V fun (r : Value) (V : View) => ∃ (x_1 : Int), r = Value.int IntKind.i64 x_1 ∧ newB V (Obj.cells (Array.mk (putL (putL [Value.int IntKind.i64 (0 : Int), Value.int IntKind.i64 (0 : Int)] (0 : Nat) [Value.int IntKind.i64 x]) (1 : Nat) [Value.int IntKind.i64 x_1])) (3 : Nat)) fun (r : Nat) (V : View) => CallV Try.prog (28 : Nat) (Array.mk [Value.slice (some (Addr.mk r (0 : Nat) none)) (2 : Nat) (2 : Nat)]) V fun (r : Value) (V : View) => ∃ (x : Int), r = Value.int IntKind.i64 x ∧ Q (Value.int IntKind.i64 x) V
def f24_ac : AC := (.seq (.reg ⟨.done, false, [], [], none⟩) (.seq (.reg ⟨(.fl 0 (.fl 1 (.fl 2 (.fl 3 (.fl 4 (.fl 5 (.fl 7 (.fl 8 (.fl 9 (.fl 10 (.fl 11 (.fl 12 (.alt 6 true false (.alt 13 false false (.alt 14 false false (.alt 15 false false (.fl 16 .done) .no) .no) .no) .no))))))))))))), true, [], [], none⟩) .leaf))
theorem f24_x {a0_0 : Int} {a0_1 : Int} {a0_2 : Int} {a0_3 : Int} {a1_0 : Int} {a1_1 : Int} {a1_2 : Int} {a1_3 : Int} {V : View} {Q : Value → View → Prop} (h : f24_n a0_0 a0_1 a0_2 a0_3 a1_0 a1_1 a1_2 a1_3 V Q) : CallV Try.prog 24 ⟨[(.agg ⟨[(.int .i64 a0_0), (.int .i64 a0_1), (.int .i64 a0_2), (.int .i64 a0_3)]⟩), (.agg ⟨[(.int .i64 a1_0), (.int .i64 a1_1), (.int .i64 a1_2), (.int .i64 a1_3)]⟩)]⟩ V Q :=
  XF_sound (wr := false) Try.checked.mixed (enters_of (fn := Try.f24) (by kernel_rfl) (by kernel_rfl) (by kernel_rfl)) (fn := Try.f24) (by kernel_rfl) (ac := f24_ac)
    (Eq.mp (show f24_n a0_0 a0_1 a0_2 a0_3 a1_0 a1_1 a1_2 a1_3 V Q = XF Try.prog false Try.f24 (f24_ac) [(.agg ⟨[(.int .i64 a0_0), (.int .i64 a0_1), (.int .i64 a0_2), (.int .i64 a0_3)]⟩), (.agg ⟨[(.int .i64 a1_0), (.int .i64 a1_1), (.int .i64 a1_2), (.int .i64 a1_3)]⟩)] V Q from by kernel_rfl) h)
/-- slices.IndexFunc[[]potsherd/api.Found,potsherd/api.Found] -/
def f25_n (a0 : Sl) (g1 : FuncId) (x1 : List Value) (y1 : List Value) (V : View) (Q : Value → View → Prop) : Prop :=
    loopP [K.int IntKind.i64] (fun (x : Int) (V : View) (J : CurP [K.int IntKind.i64]) => br (decide (x < (↑(Sl.n a0) : Int))) ((0 : Int) ≤ x ∧ x < (↑(Sl.n a0) : Int) ∧ ∃ (ad : Addr), Sl.a a0 = some ad ∧ ∃ (x_1 : Int), ∃ (x_2 : Int), ∃ (x_3 : Int), ∃ (x_4 : Int), cellsAt V (Addr.add ad (Int.toNat x * (4 : Nat))) [Value.int IntKind.i64 x_1, Value.int IntKind.i64 x_2, Value.int IntKind.i64 x_3, Value.int IntKind.i64 x_4] ∧ CallV Try.prog g1 (Array.mk (Array.toList (Array.mk x1) ++ [Value.agg (Array.mk [Value.int IntKind.i64 x_1, Value.int IntKind.i64 x_2, Value.int IntKind.i64 x_3, Value.int IntKind.i64 x_4])] ++ Array.toList (Array.mk y1))) V fun (r : Value) (V : View) => ∃ (x_5 : Bool), r = Value.bool x_5 ∧ br x_5 (Q (Value.int IntKind.i64 x) V) (inI IntKind.i64 (x + (1 : Int)) ∧ J (x + (1 : Int)) V)) (Q (Value.int IntKind.i64 (-1 : Int)) V)) ((0 : Int), ()) V
def f25_ac : AC := (.seq (.reg ⟨.done, false, [], [], none⟩) (.seq (.seq (.reg ⟨.done, false, [], [], none⟩) (.block none (.loop ⟨[5, 9, 10, 11, 12, 13, 14, 15, 16, 18], [(8, .int .i64)], []⟩ (.seq (.reg ⟨.done, false, [], [], none⟩) (.seq (.cond none .leaf .leaf) (.seq (.block none (.seq (.reg ⟨.done, false, [], [], none⟩) (.seq (.reg ⟨.done, false, [], [], none⟩) (.cond none (.seq (.reg ⟨.done, false, [], [], none⟩) .leaf) .leaf)))) (.reg ⟨.done, false, [], [], none⟩))))))) (.seq (.reg ⟨.done, false, [], [], none⟩) .leaf)))
theorem f25_x {a0 : Sl} {g1 : FuncId} {x1 : List Value} {y1 : List Value} {V : View} {Q : Value → View → Prop} (h : f25_n a0 g1 x1 y1 V Q) : CallV Try.prog 25 ⟨[(.slice a0.a a0.n a0.c), (.func (.func g1) ⟨x1⟩ ⟨y1⟩)]⟩ V Q :=
  XF_sound (wr := false) Try.checked.mixed (enters_of (fn := Try.f25) (by kernel_rfl) (by kernel_rfl) (by kernel_rfl)) (fn := Try.f25) (by kernel_rfl) (ac := f25_ac)
    (Eq.mp (show f25_n a0 g1 x1 y1 V Q = XF Try.prog false Try.f25 (f25_ac) [(.slice a0.a a0.n a0.c), (.func (.func g1) ⟨x1⟩ ⟨y1⟩)] V Q from by kernel_rfl) h)
/-- cmp.Or[int] -/
def f28_n (a0 : Sl) (V : View) (Q : Value → View → Prop) : Prop :=
    loopP [K.int IntKind.i64] (fun (x : Int) (V : View) (J : CurP [K.int IntKind.i64]) => br (decide (x < (↑(Sl.n a0) : Int))) ((0 : Int) ≤ x ∧ x < (↑(Sl.n a0) : Int) ∧ ∃ (ad : Addr), Sl.a a0 = some ad ∧ ∃ (x_1 : Int), View.cell? V (Addr.add ad (Int.toNat x * (1 : Nat))) = some (Value.int IntKind.i64 x_1) ∧ br (!decide (x_1 = (0 : Int))) (Q (Value.int IntKind.i64 x_1) V) (inI IntKind.i64 (x + (1 : Int)) ∧ J (x + (1 : Int)) V)) (Q (Value.int IntKind.i64 (0 : Int)) V)) ((0 : Int), ()) V
def f28_ac : AC := (.seq (.reg ⟨.done, false, [], [], none⟩) (.seq (.reg ⟨.done, false, [], [], none⟩) (.seq (.seq (.reg ⟨.done, false, [], [], none⟩) (.block none (.loop ⟨[5, 9, 10, 11, 12, 13, 14, 16], [(8, .int .i64)], []⟩ (.seq (.reg ⟨.done, false, [], [], none⟩) (.seq (.cond none .leaf .leaf) (.seq (.block none (.seq (.reg ⟨.done, false, [], [], none⟩) (.seq (.reg ⟨.done, false, [], [], none⟩) (.cond none (.seq (.reg ⟨.done, false, [], [], none⟩) .leaf) .leaf)))) (.reg ⟨.done, false, [], [], none⟩))))))) (.seq (.reg ⟨.done, false, [], [], none⟩) .leaf))))
theorem f28_x {a0 : Sl} {V : View} {Q : Value → View → Prop} (h : f28_n a0 V Q) : CallV Try.prog 28 ⟨[(.slice a0.a a0.n a0.c)]⟩ V Q :=
  XF_sound (wr := false) Try.checked.mixed (enters_of (fn := Try.f28) (by kernel_rfl) (by kernel_rfl) (by kernel_rfl)) (fn := Try.f28) (by kernel_rfl) (ac := f28_ac)
    (Eq.mp (show f28_n a0 V Q = XF Try.prog false Try.f28 (f28_ac) [(.slice a0.a a0.n a0.c)] V Q from by kernel_rfl) h)
/-- cmp.Compare[int] -/
def f29_n (a0 : Int) (a1 : Int) (V : View) (Q : Value → View → Prop) : Prop :=
    CallV Try.prog (40 : Nat) (Array.mk [Value.int IntKind.i64 a0]) V fun (r : Value) (V : View) => ∃ (x : Bool), r = Value.bool x ∧ CallV Try.prog (40 : Nat) (Array.mk [Value.int IntKind.i64 a1]) V fun (r : Value) (V : View) => ∃ (x_1 : Bool), r = Value.bool x_1 ∧ br x (br x_1 (Q (Value.int IntKind.i64 (0 : Int)) V) (Q (Value.int IntKind.i64 (-1 : Int)) V)) (br x_1 (Q (Value.int IntKind.i64 (1 : Int)) V) (br (decide (a0 < a1)) (Q (Value.int IntKind.i64 (-1 : Int)) V) (br (decide (a1 < a0)) (Q (Value.int IntKind.i64 (1 : Int)) V) (Q (Value.int IntKind.i64 (0 : Int)) V))))
def f29_ac : AC := (.seq (.reg ⟨.done, false, [], [], none⟩) (.seq (.reg ⟨.done, false, [], [], none⟩) (.seq (.reg ⟨.done, false, [], [], none⟩) (.seq (.seq (.reg ⟨.done, false, [], [], none⟩) (.cond none (.seq (.seq (.reg ⟨.done, false, [], [], none⟩) (.cond none (.seq (.reg ⟨.done, false, [], [], none⟩) .leaf) .leaf)) (.seq (.reg ⟨.done, false, [], [], none⟩) .leaf)) .leaf)) (.seq (.seq (.reg ⟨.done, false, [], [], none⟩) (.cond none (.seq (.reg ⟨.done, false, [], [], none⟩) .leaf) .leaf)) (.seq (.seq (.reg ⟨.done, false, [], [], none⟩) (.cond none (.seq (.reg ⟨.done, false, [], [], none⟩) .leaf) .leaf)) (.seq (.seq (.reg ⟨.done, false, [], [], none⟩) (.cond none (.seq (.reg ⟨.done, false, [], [], none⟩) .leaf) .leaf)) (.seq (.reg ⟨.done, false, [], [], none⟩) .leaf))))))))
theorem f29_x {a0 : Int} {a1 : Int} {V : View} {Q : Value → View → Prop} (h : f29_n a0 a1 V Q) : CallV Try.prog 29 ⟨[(.int .i64 a0), (.int .i64 a1)]⟩ V Q :=
  XF_sound (wr := false) Try.checked.mixed (enters_of (fn := Try.f29) (by kernel_rfl) (by kernel_rfl) (by kernel_rfl)) (fn := Try.f29) (by kernel_rfl) (ac := f29_ac)
    (Eq.mp (show f29_n a0 a1 V Q = XF Try.prog false Try.f29 (f29_ac) [(.int .i64 a0), (.int .i64 a1)] V Q from by kernel_rfl) h)
/-- cmp.isNaN[int] -/
def f40_n (a0 : Int) (V : View) (Q : Value → View → Prop) : Prop :=
    Q (Value.bool !decide (a0 = a0)) V
def f40_ac : AC := (.seq (.reg ⟨.done, false, [], [], none⟩) (.seq (.reg ⟨.done, false, [], [], none⟩) .leaf))
theorem f40_x {a0 : Int} {V : View} {Q : Value → View → Prop} (h : f40_n a0 V Q) : CallV Try.prog 40 ⟨[(.int .i64 a0)]⟩ V Q :=
  XF_sound (wr := false) Try.checked.mixed (enters_of (fn := Try.f40) (by kernel_rfl) (by kernel_rfl) (by kernel_rfl)) (fn := Try.f40) (by kernel_rfl) (ac := f40_ac)
    (Eq.mp (show f40_n a0 V Q = XF Try.prog false Try.f40 (f40_ac) [(.int .i64 a0)] V Q from by kernel_rfl) h)
end Go.Proofs.Ytpoijjfbgfiboaa

/- Trees as plain data; how they lie in a view, and in what comes in. -/
namespace Go.Proofs.Ytpoijjfbgfiboaa
open Go
structure Ent where
  name : ByteArray
  node : Int
  deriving DecidableEq
structure Nod where
  kind : Int
  links : Int
  size : Int
  seqs : List Int
  ents : List Ent
  deriving DecidableEq
abbrev Tre := List Nod
def Nod.zero : Nod := ⟨0, 0, 0, [], []⟩
instance : Inhabited Ent := ⟨⟨⟨#[]⟩, 0⟩⟩
instance : Inhabited Nod := ⟨Nod.zero⟩
structure Rf where
  page : Int
  seq : Int
  deriving DecidableEq
instance : Rep Ent where
  sz := 2
  pos := by decide
  rep _ vs x := vs = [.string x.name, .int .i64 x.node] ∧ x.name.size ≤ 9223372036854775807 ∧ inI .i64 x.node
  len h := by rw [h.1]; rfl
  one h := by rw [h.1]; rfl
  mono _ h := h
instance : Rep Rf where
  sz := 2
  pos := by decide
  rep _ vs x := vs = [.int .i64 x.page, .int .i64 x.seq] ∧ inI .i64 x.page ∧ inI .i64 x.seq
  len h := by rw [h.1]; rfl
  one h := by rw [h.1]; rfl
  mono _ h := h
instance : Rep Nod where
  sz := 5
  pos := by decide
  rep V vs x := ∃ s e : Sl, vs = [.int .i64 x.kind, .int .i64 x.links, .int .i64 x.size, .slice s.a s.n s.c, .slice e.a e.n e.c] ∧ inI .i64 x.kind ∧ inI .i64 x.links ∧ inI .i64 x.size ∧ SlR V s x.seqs ∧ SlR V e x.ents
  len h := by obtain ⟨s, e, h, _⟩ := h; rw [h]; rfl
  one h := by obtain ⟨s, e, h, _⟩ := h; rw [h]; rfl
  mono hV h := let ⟨s, e, h, a, b, c, d, f⟩ := h; ⟨s, e, h, a, b, c, d.mono hV, f.mono hV⟩
theorem SlR.ent {V : View} {s : Sl} {l : List Ent} (h : SlR V s l) {x : Int} (h0 : 0 ≤ x) (h1 : x < s.n) :
    ∃ ad, ∃ hx : x.toNat < l.length, s.a = some ad ∧ cellsAt V (ad.add (x.toNat * 2)) [.string l[x.toNat].name, .int .i64 l[x.toNat].node] ∧ l[x.toNat].name.size ≤ 9223372036854775807 ∧ inI .i64 l[x.toNat].node := by
  obtain ⟨ad, vs, hx, ha, hc, rfl, hi⟩ := h.ld h0 h1
  exact ⟨ad, hx, ha, hc, hi⟩
theorem SlR.rf {V : View} {s : Sl} {l : List Rf} (h : SlR V s l) {x : Int} (h0 : 0 ≤ x) (h1 : x < s.n) :
    ∃ ad, ∃ hx : x.toNat < l.length, s.a = some ad ∧ cellsAt V (ad.add (x.toNat * 2)) [.int .i64 l[x.toNat].page, .int .i64 l[x.toNat].seq] ∧ inI .i64 l[x.toNat].page ∧ inI .i64 l[x.toNat].seq := by
  obtain ⟨ad, vs, hx, ha, hc, rfl, hi⟩ := h.ld h0 h1
  exact ⟨ad, hx, ha, hc, hi⟩
/-- A node's cells: two rows besides three numbers. -/
structure NodR (V : View) (s e : Sl) (x : Nod) : Prop where
  kind : inI .i64 x.kind
  links : inI .i64 x.links
  size : inI .i64 x.size
  seqs : SlR V s x.seqs
  ents : SlR V e x.ents
theorem NodR.mono {V V' : View} {s e : Sl} {x : Nod} (hV : V.Le V') (h : NodR V s e x) : NodR V' s e x := ⟨h.kind, h.links, h.size, h.seqs.mono hV, h.ents.mono hV⟩
theorem NodR.rep {V : View} {s e : Sl} {x : Nod} (h : NodR V s e x) : Rep.rep V [.int .i64 x.kind, .int .i64 x.links, .int .i64 x.size, .slice s.a s.n s.c, .slice e.a e.n e.c] x := ⟨s, e, rfl, h.kind, h.links, h.size, h.seqs, h.ents⟩
theorem SlR.nod {V : View} {s : Sl} {l : List Nod} (h : SlR V s l) {x : Int} (h0 : 0 ≤ x) (h1 : x < s.n) :
    ∃ ad sq en, ∃ hx : x.toNat < l.length, s.a = some ad ∧ cellsAt V (ad.add (x.toNat * 5)) [.int .i64 l[x.toNat].kind, .int .i64 l[x.toNat].links, .int .i64 l[x.toNat].size, .slice sq.a sq.n sq.c, .slice en.a en.n en.c] ∧ NodR V sq en l[x.toNat] := by
  obtain ⟨ad, vs, hx, ha, hc, sq, en, rfl, h1, h2, h3, h4, h5⟩ := h.ld h0 h1
  exact ⟨ad, sq, en, hx, ha, hc, ⟨h1, h2, h3, h4, h5⟩⟩
theorem cellsAt_nth {V : View} {a : Addr} {vs : List Value} (h : cellsAt V a vs) (j : Nat) {v : Value} (hj : vs[j]? = some v) : V.cell? (a.add j) = some v := h j v hj

/-! ### what comes in -/
section
variable {H : Type} {enc : TypeId × Value → H} {P : Program} {w : World} {base : Nat} {sp : Nat → Bool} {held : Bool}
/-- Data of this type that come in are such data. -/
class TrodRep (P : Program) (α : Type) [Rep α] (t : TypeId) : Prop where
  of : ∀ {H : Type} {enc : TypeId × Value → H} {w : World} {base : Nat} {sp : Nat → Bool} {held : Bool} {fuel : Nat} {cs : List Value} {x : DataW H × List MemPlace}, DataW.trod enc P w base sp held fuel t cs = some x → ∃ d : α, Rep.rep (View.all w) cs d
theorem wf_int {k : IntKind} {n : Int} (h : (Lit.int k n).wf = true) : inI k n := by
  simpa [Lit.wf, inI] using h
theorem trodRep_int {t : TypeId} (ht : P.underlying t = some (.int .i64)) : TrodRep P Int t := ⟨fun h => by
  obtain ⟨n, hc, _, hw⟩ := DataW.trod_int ht h
  exact ⟨n, hc, wf_int hw⟩⟩
theorem trodRep_u8 {t : TypeId} (ht : P.underlying t = some (.int .u8)) : TrodRep P UInt8 t := ⟨fun h => by
  obtain ⟨n, hc, _, hw⟩ := DataW.trod_int ht h
  have h2 : 0 ≤ n ∧ n ≤ 255 := by simpa [Lit.wf, IntKind.min, IntKind.max, IntKind.signed, IntKind.bits] using hw
  refine ⟨UInt8.ofNat n.toNat, ?_⟩
  show _ = [Value.int .u8 (UInt8.ofNat n.toNat).toNat]
  rw [hc, UInt8.toNat_ofNat']
  congr 2
  omega⟩
theorem trodRep_string {t : TypeId} (ht : P.underlying t = some .string) : TrodRep P ByteArray t := ⟨fun h => by
  obtain ⟨s, hc, _, hw⟩ := DataW.trod_string ht h
  exact ⟨s, hc, hw⟩⟩
theorem cells_all {w : World} {b : Nat} {a : Addr} {n : Nat} {cs : List Value} (h : w.cells? b a n = some cs) : cs.length = n ∧ cellsAt (View.all w) a cs := by
  obtain ⟨_, hl, hc⟩ := World.cells?_some h
  refine ⟨hl, fun j v hj => ?_⟩
  have hjn : j < n := by rw [← hl]; exact (List.getElem?_eq_some_iff.1 hj).1
  have := hc j hjn
  rw [hj] at this
  exact this
theorem trodRep_slice {α : Type} [Rep α] {t e : TypeId} (ht : P.underlying t = some (.slice e)) (hs : P.cellsOf e = Rep.sz α) (he : TrodRep P α e) : TrodRep P (List α) t := ⟨fun {H enc w base sp held fuel cs x} h => by
  rcases DataW.trod_slice ht h with ⟨rfl, _⟩ | ⟨a, len, cap, elems, rest, n, _, rfl, _, _, hlc, hcm, hel, hget, _, _⟩
  · exact ⟨[], ⟨none, 0, 0⟩, rfl, SlR.nil _ _ _⟩
  have hex : ∀ i : Fin len, ∃ d : α, ∃ vs, cellsAt (View.all w) (a.add (i.val * Rep.sz α)) vs ∧ Rep.rep (View.all w) vs d := by
    intro i
    have := hget i.val i.isLt
    rw [List.getElem?_eq_getElem (by rw [hel]; exact i.isLt), Option.bind_eq_some_iff] at this
    obtain ⟨cs, hc, hy⟩ := this
    obtain ⟨d, hd⟩ := he.of hy
    rw [hs] at hc
    exact ⟨d, cs, (cells_all hc).2, hd⟩
  refine ⟨List.ofFn fun i => Classical.choose (hex i), ⟨some a, len, cap⟩, rfl, by simp, hlc, ?_, fun i hi => ?_⟩
  · have : cap ≤ 9223372036854775807 := hcm
    show len ≤ _; omega
  · have hi' : i < len := by simpa using hi
    obtain ⟨vs, h1, h2⟩ := Classical.choose_spec (hex ⟨i, hi'⟩)
    exact ⟨a, vs, rfl, h1, by rw [List.getElem_ofFn]; exact h2⟩⟩
theorem trod_field {t : TypeId} {i o : Nat} {ft : TypeId} {fuel : Nat} {cs : List Value} {x : DataW H × List MemPlace} (hf : fieldX P t i = some (o, ft)) (h : DataW.trod enc P w base sp held fuel t cs = some x) :
    cs.length = P.cellsOf t ∧ ∃ n y, DataW.trod enc P w base sp held n ft ((cs.drop o).take (P.cellsOf ft)) = some y := by
  obtain ⟨fs, fd, hu, hfd, rfl, rfl⟩ := fieldX_spec hf
  obtain ⟨xs, n, _, _, hl, hxl, hget⟩ := DataW.trod_struct hu h
  have := hget i fd hfd
  have hi : i < xs.length := by rw [hxl]; exact (Array.getElem?_eq_some_iff.1 hfd).1
  rw [List.getElem?_eq_getElem hi] at this
  exact ⟨hl, n, _, this⟩
theorem trodRep_ent {t ts ti : TypeId} (h0 : fieldX P t 0 = some (0, ts)) (h1 : fieldX P t 1 = some (1, ti)) (hc : P.cellsOf t = 2) (hcs : P.cellsOf ts = 1) (hci : P.cellsOf ti = 1)
    (hs : P.underlying ts = some .string) (hi : P.underlying ti = some (.int .i64)) : TrodRep P Ent t := ⟨fun {H enc w base sp held fuel cs x} h => by
  obtain ⟨hl, n0, y0, g0⟩ := trod_field h0 h
  obtain ⟨_, n1, y1, g1⟩ := trod_field h1 h
  rw [hc] at hl
  match cs, hl with
  | [a, b], _ =>
    rw [hcs] at g0; rw [hci] at g1
    obtain ⟨s, e0, w0⟩ := (trodRep_string hs).of g0
    obtain ⟨m, e1, w1⟩ := (trodRep_int hi).of g1
    simp at e0 e1
    exact ⟨⟨s, m⟩, by rw [e0, e1], w0, w1⟩⟩
theorem trodRep_nod {t ti tq te : TypeId} (h0 : fieldX P t 0 = some (0, ti)) (h1 : fieldX P t 1 = some (1, ti)) (h2 : fieldX P t 2 = some (2, ti)) (h3 : fieldX P t 3 = some (3, tq)) (h4 : fieldX P t 4 = some (4, te))
    (hc : P.cellsOf t = 5) (hci : P.cellsOf ti = 1) (hcq : P.cellsOf tq = 1) (hce : P.cellsOf te = 1) (hi : P.underlying ti = some (.int .i64)) (hq : TrodRep P (List Int) tq) (he : TrodRep P (List Ent) te) : TrodRep P Nod t := ⟨fun {H enc w base sp held fuel cs x} h => by
  obtain ⟨hl, n0, y0, g0⟩ := trod_field h0 h
  obtain ⟨_, n1, y1, g1⟩ := trod_field h1 h
  obtain ⟨_, n2, y2, g2⟩ := trod_field h2 h
  obtain ⟨_, n3, y3, g3⟩ := trod_field h3 h
  obtain ⟨_, n4, y4, g4⟩ := trod_field h4 h
  rw [hc] at hl
  match cs, hl with
  | [a, b, c, d, e], _ =>
    rw [hci] at g0 g1 g2
    rw [hcq] at g3
    rw [hce] at g4
    obtain ⟨m0, e0, w0⟩ := (trodRep_int hi).of g0
    obtain ⟨m1, e1, w1⟩ := (trodRep_int hi).of g1
    obtain ⟨m2, e2, w2⟩ := (trodRep_int hi).of g2
    obtain ⟨l3, s3, e3, w3⟩ := hq.of g3
    obtain ⟨l4, s4, e4, w4⟩ := he.of g4
    simp at e0 e1 e2 e3 e4
    exact ⟨⟨m0, m1, m2, l3, l4⟩, s3, s4, by rw [e0, e1, e2, e3, e4], w0, w1, w2, w3, w4⟩⟩
end
/-! ### this program's types -/
end Go.Proofs.Ytpoijjfbgfiboaa

/- Numbers and texts as bytes: plain functions and what they answer. No program in this text. -/
namespace Go.Proofs.Ytpoijjfbgfiboaa
/-- The digits of a number ahead of its last one, the greatest first. -/
def hiL : Nat → Nat → List UInt8
  | 0, _ => []
  | f + 1, n => if n = 0 then [] else hiL f (n / 128) ++ [UInt8.ofNat (n % 128 + 128)]
/-- A number as bytes. -/
def numL (n : Nat) : List UInt8 := hiL 6 (n / 128) ++ [UInt8.ofNat (n % 128)]
/-- What is laid for a number that is handed in. -/
def clampN (n : Int) : Nat := (min (max n 0) 1099511627776).toNat
def numI (n : Int) : List UInt8 := numL (clampN n)
/-- A number in front, and what is behind it. -/
def numGo (most : Nat) : Nat → Nat → List UInt8 → Option (Nat × List UInt8)
  | 0, _, _ => none
  | _, _, [] => none
  | f + 1, m, c :: b => if 128 ≤ c.toNat then numGo most f (m * 128 + c.toNat % 128) b else if most < m * 128 + c.toNat % 128 then none else some (m * 128 + c.toNat % 128, b)
theorem numGo_cons (most f m : Nat) (c : UInt8) (b : List UInt8) : numGo most (f + 1) m (c :: b) = if 128 ≤ c.toNat then numGo most f (m * 128 + c.toNat % 128) b else if most < m * 128 + c.toNat % 128 then none else some (m * 128 + c.toNat % 128, b) := rfl
def numP (most : Nat) (b : List UInt8) : Option (Nat × List UInt8) :=
  match b with
  | [] => none
  | c :: r => if c.toNat = 128 then none else numGo most 6 0 (c :: r)
theorem hiL_len : ∀ (f n : Nat), (hiL f n).length ≤ f
  | 0, _ => Nat.le_refl _
  | f + 1, n => by
    unfold hiL
    split
    · simp
    · have := hiL_len f (n / 128)
      simp; omega
theorem hiL_bound : ∀ (f n : Nat), n < 128 ^ f → hiL f n = hiL (f + 1) n
  | 0, n, h => by
    have : n = 0 := by simpa using h
    subst this; rfl
  | f + 1, n, h => by
    by_cases h0 : n = 0
    · subst h0; rfl
    · rw [hiL, hiL, if_neg h0, if_neg h0, hiL_bound f (n / 128) (Nat.div_lt_of_lt_mul (by rw [Nat.pow_succ] at h; omega))]
theorem toNat_ofNat_lt {n : Nat} (h : n < 256) : (UInt8.ofNat n).toNat = n := by rw [UInt8.toNat_ofNat']; omega
/-- Reading goes through the digits ahead. -/
theorem numGo_hi (most : Nat) : ∀ (f n : Nat) (g m : Nat) (r : List UInt8), n < 128 ^ f → (hiL f n).length ≤ g →
    numGo most g m (hiL f n ++ r) = numGo most (g - (hiL f n).length) (m * 128 ^ (hiL f n).length + n) r
  | 0, n, g, m, r, h, _ => by
    have : n = 0 := by simpa using h
    subst this
    simp [hiL]
  | f + 1, n, g, m, r, h, hg => by
    by_cases h0 : n = 0
    · subst h0; simp [hiL]
    · have hd : n / 128 < 128 ^ f := Nat.div_lt_of_lt_mul (by rw [Nat.pow_succ] at h; omega)
      have e : hiL (f + 1) n = hiL f (n / 128) ++ [UInt8.ofNat (n % 128 + 128)] := by rw [hiL, if_neg h0]
      rw [e] at hg ⊢
      simp only [List.length_append, List.length_cons, List.length_nil, Nat.zero_add] at hg ⊢
      rw [List.append_assoc, numGo_hi most f (n / 128) g m _ hd (by omega)]
      obtain ⟨k, hk⟩ : ∃ k, g - (hiL f (n / 128)).length = k + 1 := ⟨g - (hiL f (n / 128)).length - 1, by omega⟩
      rw [hk, List.singleton_append, numGo_cons]
      have h1 : (UInt8.ofNat (n % 128 + 128)).toNat = n % 128 + 128 := toNat_ofNat_lt (by omega)
      have e3 : (m * 128 ^ (hiL f (n / 128)).length + n / 128) * 128 + (n % 128 + 128) % 128 = m * 128 ^ ((hiL f (n / 128)).length + 1) + n := by
        rw [Nat.pow_succ, ← Nat.mul_assoc, Nat.add_mul]
        omega
      rw [h1, if_pos (by omega), show g - ((hiL f (n / 128)).length + 1) = k by omega, e3]
theorem hiL_head : ∀ (f n : Nat), n < 128 ^ f → ∀ c r, hiL f n = c :: r → 128 < c.toNat
  | 0, n, _, c, r, e => by simp [hiL] at e
  | f + 1, n, h, c, r, e => by
    unfold hiL at e
    split at e
    · simp at e
    · rename_i h0
      have hd : n / 128 < 128 ^ f := Nat.div_lt_of_lt_mul (by rw [Nat.pow_succ] at h; omega)
      cases hh : hiL f (n / 128) with
      | nil =>
        rw [hh] at e
        simp only [List.nil_append, List.cons.injEq] at e
        have hz : n / 128 = 0 := by
          cases f with
          | zero => simpa using hd
          | succ f =>
            apply Classical.byContradiction
            intro hne
            rw [hiL, if_neg hne] at hh
            simp at hh
        rw [← e.1, toNat_ofNat_lt (by omega)]
        omega
      | cons d s =>
        rw [hh] at e
        simp only [List.cons_append, List.cons.injEq] at e
        rw [← e.1]
        exact hiL_head f _ hd d s hh
theorem num_lt {n : Nat} (h : n ≤ 1099511627776) : n / 128 < 128 ^ 5 := by
  have : (128 : Nat) ^ 5 = 34359738368 := by decide
  omega
theorem hi_len5 {n : Nat} (h : n ≤ 1099511627776) : (hiL 6 (n / 128)).length ≤ 5 := by
  rw [← hiL_bound 5 _ (num_lt h)]
  exact hiL_len 5 _
/-- What is laid is read as it was. -/
theorem numP_numL {n most : Nat} (h : n ≤ 1099511627776) (hm : n ≤ most) (r : List UInt8) : numP most (numL n ++ r) = some (n, r) := by
  have hb : n / 128 < 128 ^ 6 := Nat.lt_of_lt_of_le (num_lt h) (Nat.pow_le_pow_right (by decide) (by decide))
  have hgo : numGo most 6 0 (numL n ++ r) = some (n, r) := by
    unfold numL
    rw [List.append_assoc, numGo_hi most 6 (n / 128) 6 0 _ hb (by have := hi_len5 h; omega)]
    obtain ⟨k, hk⟩ : ∃ k, 6 - (hiL 6 (n / 128)).length = k + 1 := ⟨6 - (hiL 6 (n / 128)).length - 1, by have := hi_len5 h; omega⟩
    rw [hk, List.singleton_append, Nat.zero_mul, Nat.zero_add, numGo_cons]
    rw [toNat_ofNat_lt (by omega), if_neg (by omega), Nat.mod_mod, Nat.mul_comm, Nat.div_add_mod, if_neg (by omega)]
  unfold numP
  cases hc : numL n ++ r with
  | nil => unfold numL at hc; simp at hc
  | cons c s =>
    rw [← hc]
    simp only [hc]
    rw [if_neg, ← hc, hgo]
    unfold numL at hc
    cases hh : hiL 6 (n / 128) with
    | nil =>
      rw [hh] at hc
      simp only [List.nil_append, List.cons_append, List.cons.injEq] at hc
      rw [← hc.1, toNat_ofNat_lt (by omega)]
      omega
    | cons d t =>
      rw [hh] at hc
      simp only [List.cons_append, List.cons.injEq] at hc
      have := hiL_head 6 _ hb d t hh
      rw [← hc.1]
      omega
/-- What is read was laid so. -/
theorem numGo_inv (most : Nat) : ∀ (g m : Nat) (b : List UInt8) (n : Nat) (r : List UInt8), numGo most g m b = some (n, r) →
    n ≤ most ∧ ∃ ds : List UInt8, ∃ c : UInt8, b = ds ++ c :: r ∧ c.toNat < 128 ∧ ds.length < g ∧ (∀ d ∈ ds, 128 ≤ d.toNat) ∧ n = (ds.foldl (fun a d => a * 128 + d.toNat % 128) m) * 128 + c.toNat
  | 0, m, b, n, r, h => by simp [numGo] at h
  | g + 1, m, [], n, r, h => by simp [numGo] at h
  | g + 1, m, c :: b, n, r, h => by
    rw [numGo_cons] at h
    split at h
    · rename_i hc
      obtain ⟨h1, ds, c', h2, h3, h4, h5, h6⟩ := numGo_inv most g _ b n r h
      refine ⟨h1, c :: ds, c', by rw [h2]; rfl, h3, by simp; omega, fun d hd => ?_, h6⟩
      rcases List.mem_cons.1 hd with rfl | hd
      · exact hc
      · exact h5 d hd
    · rename_i hc
      split at h
      · cases h
      · rename_i hm
        cases h
        exact ⟨by omega, [], c, rfl, by omega, by simp, by simp, by simp; omega⟩
theorem fold_hi : ∀ (f : Nat) (ds : List UInt8), ds.length ≤ f → (∀ d ∈ ds, 128 ≤ d.toNat) → (∀ d r, ds = d :: r → d.toNat ≠ 128) → hiL f (ds.foldl (fun a d => a * 128 + d.toNat % 128) 0) = ds
  | f, ds, hf, hall, hhd => by
    induction f generalizing ds with
    | zero =>
      have : ds = [] := List.eq_nil_of_length_eq_zero (by omega)
      subst this; rfl
    | succ f ih =>
      rcases List.eq_nil_or_concat ds with rfl | ⟨ds', c, rfl⟩
      · rfl
      · rw [List.concat_eq_append] at *
        rw [List.foldl_append]
        simp only [List.foldl_cons, List.foldl_nil]
        have hc := hall c (by simp)
        have hc2 : c.toNat < 256 := c.toNat_lt
        have hdiv : (ds'.foldl (fun a d => a * 128 + d.toNat % 128) 0 * 128 + c.toNat % 128) / 128 = ds'.foldl (fun a d => a * 128 + d.toNat % 128) 0 := by omega
        have hmod : (ds'.foldl (fun a d => a * 128 + d.toNat % 128) 0 * 128 + c.toNat % 128) % 128 + 128 = c.toNat := by omega
        have hne : ds'.foldl (fun a d => a * 128 + d.toNat % 128) 0 * 128 + c.toNat % 128 ≠ 0 := by
          intro h0
          have h1 : ds'.foldl (fun a d => a * 128 + d.toNat % 128) 0 = 0 := by omega
          have h2 := ih ds' (by simp at hf; omega) (fun d hd => hall d (by simp [hd])) (fun d r e => hhd d (r ++ [c]) (by rw [e]; rfl))
          rw [h1] at h2
          have h3 : ds' = [] := by
            cases f with
            | zero => exact h2.symm
            | succ f => rw [hiL, if_pos rfl] at h2; exact h2.symm
          subst h3
          exact hhd c [] rfl (by simp at h0; omega)
        rw [hiL, if_neg hne, hdiv, hmod, ih ds' (by simp at hf; omega) (fun d hd => hall d (by simp [hd])) (fun d r e => hhd d (r ++ [c]) (by rw [e]; rfl))]
        congr 2
        exact UInt8.ofNat_toNat
theorem numL_numP {most : Nat} {b : List UInt8} {n : Nat} {r : List UInt8} (h : numP most b = some (n, r)) : n ≤ most ∧ b = numL n ++ r := by
  unfold numP at h
  split at h
  · cases h
  · rename_i c0 b0
    split at h
    · cases h
    · rename_i h128
      obtain ⟨h1, ds, c, h2, h3, h4, h5, h6⟩ := numGo_inv most 6 0 _ n r h
      refine ⟨h1, ?_⟩
      have hds := fold_hi 6 ds (by omega) h5 (fun d s e => by
        subst e
        rw [List.cons_append, List.cons.injEq] at h2
        rw [← h2.1]; exact h128)
      unfold numL
      rw [h6, h2]
      rw [show (ds.foldl (fun a d => a * 128 + d.toNat % 128) 0 * 128 + c.toNat) / 128 = ds.foldl (fun a d => a * 128 + d.toNat % 128) 0 by omega, hds,
        show (ds.foldl (fun a d => a * 128 + d.toNat % 128) 0 * 128 + c.toNat) % 128 = c.toNat by omega, UInt8.ofNat_toNat, List.append_assoc]
      rfl
/-- A text behind its length. -/
def textL (s : List UInt8) : List UInt8 := numI s.length ++ s
def textP (most : Nat) (b : List UInt8) : Option (List UInt8 × List UInt8) :=
  match numP most b with
  | none => none
  | some (n, r) => if r.length < n then none else some (r.take n, r.drop n)
end Go.Proofs.Ytpoijjfbgfiboaa

/- Rows that grow beside other blocks that are this call's own. -/
namespace Go.Proofs.Ytpoijjfbgfiboaa
open Go
theorem hide_mono {V V' : View} (h : V.Le V') (p : Nat) : (V.hide p).Le (V'.hide p) := by
  refine ⟨h.size, fun i o ho => ?_, h.out⟩
  unfold View.hide at *
  simp only at *
  split at ho
  · cases ho
  · rename_i hne; rw [if_neg hne]; exact h.see i o ho
theorem hide_see (V : View) (p i : Nat) : (V.hide p).see i = if i = p then none else V.see i := rfl
theorem hide_minus_see (V : View) (p : Nat) (x : Sl) (i : Nat) : ((V.hide p).minus x).see i = if i = p then none else (V.minus x).see i := by
  unfold View.minus
  split
  · rfl
  · simp only [hide_see]
    split <;> split <;> rfl
theorem minus_hide_le (V : View) (p : Nat) (x : Sl) : ((V.hide p).minus x).Le ((V.minus x).hide p) := by
  refine ⟨by unfold View.minus; split <;> exact Nat.le_refl _, fun i o ho => ?_, by unfold View.minus; split <;> rfl⟩
  rw [hide_minus_see] at ho
  rw [hide_see]; exact ho
theorem hide_minus_le (V : View) (p : Nat) (x : Sl) : ((V.minus x).hide p).Le ((V.hide p).minus x) := by
  refine ⟨by unfold View.minus; split <;> exact Nat.le_refl _, fun i o ho => ?_, by unfold View.minus; split <;> rfl⟩
  rw [hide_minus_see]
  rw [hide_see] at ho; exact ho
/-- A block beside a row of one's own is seen when that row is not. -/
theorem Buf.see_minus {V : View} {p : Nat} {o : Obj} {x : Sl} {e : TypeId} {sz : Nat} {cs : List Value} (h : Buf (V.hide p) x e sz cs) (ho : V.see p = some o) : (V.minus x).see p = some o := by
  unfold View.minus
  rcases h.own with ⟨ha, _⟩ | ⟨b, all, ha, hs, _⟩
  · rw [ha]; exact ho
  · rw [ha, hide_see]
    rw [hide_see] at hs
    split at hs
    · cases hs
    · rename_i hne; rw [if_neg (fun e => hne e.symm)]; exact ho
theorem Buf.hide {V : View} {p : Nat} {o : Obj} {x : Sl} {e : TypeId} {sz : Nat} {cs : List Value} (h : Buf V x e sz cs) (ho : (V.minus x).see p = some o) : Buf (V.hide p) x e sz cs := by
  refine ⟨h.len, h.le, h.lim, ?_⟩
  rcases h.own with h1 | ⟨b, all, ha, hs, h3⟩
  · exact .inl h1
  · refine .inr ⟨b, all, ha, ?_, h3⟩
    rw [hide_see]
    unfold View.minus at ho
    rw [ha, hide_see] at ho
    split at ho
    · cases ho
    · rename_i hne; rw [if_neg (fun e => hne e.symm)]; exact hs
theorem put_minus_le {V : View} {x : Sl} {r : Nat} {o : Obj} (h : V.see r = none) : (V.minus x).Le ((V.put r o).minus x) := minus_mono (View.put_le h) x
theorem Buf.put {V : View} {x : Sl} {e : TypeId} {sz : Nat} {cs : List Value} (h : Buf V x e sz cs) {r : Nat} {o : Obj} (hr : V.see r = none) : Buf (V.put r o) x e sz cs := h.mono (View.put_le hr)
/-- The first ones of a row of one's own. -/
theorem Buf.cut {V : View} {x : Sl} {e : TypeId} {sz : Nat} {cs : List Value} (h : Buf V x e sz cs) {k : Nat} (hk : k ≤ x.n) : Buf V ⟨x.a, k, x.c⟩ e sz (cs.take (k * sz)) := by
  have hle := Nat.mul_le_mul_right sz hk
  refine ⟨by simp only [List.length_take, h.len, Nat.min_eq_left hle], Nat.le_trans hk h.le, Nat.le_trans hk h.lim, ?_⟩
  rcases h.own with h1 | ⟨r, all, h1, h2, h3, h4⟩
  · exact .inl h1
  · refine .inr ⟨r, all, h1, h2, h3, ?_⟩
    rw [← h4, List.take_take, Nat.min_eq_left hle]
/-- What is appended, beside a block of one's own. -/
theorem apV_beside {V V0 : View} {p : Nat} {o : Obj} {e : TypeId} {sz bytes : Nat} {zero : List Value} {x : Sl} {y : Value} {C : Sl → View → Prop} {cs src : List Value} {m : Nat} (hz : zero.length = sz)
    (ho : V.see p = some o) (hb : Buf (V.hide p) x e sz cs) (hle : V0.Le ((V.hide p).minus x)) (hs : srcAt V sz zero y m src) (hl : src.length = m * sz) (h1 : src.all Value.oneCell' = true) (hm : (x.n + m) * bytes ≤ 140737488355328) (hm2 : x.n + m ≤ 140737488355328)
    (hC : ∀ s V', V'.see p = some o → Buf (V'.hide p) s e sz (cs ++ src) → V0.Le ((V'.hide p).minus s) → s.n = x.n + m → C s V') : apV V e sz bytes zero x y C := by
  refine apV_buf hz (hb.mono (View.hide_le V p)) hs hl h1 hm hm2 fun s V' hb' hn hle' => ?_
  have h2 := hle'.see _ _ (hb.see_minus ho)
  refine hC s V' ((View.minus_le V' s).see _ _ h2) (hb'.hide h2) ?_ hn
  exact hle.trans ((minus_hide_le V p x).trans ((hide_mono hle' p).trans (hide_minus_le V' p s)))
/-- A call that needs nothing of a row of one's own leaves it as it was. -/
theorem CallV.besideB {P : Program} {f : FuncId} {args : Array Value} {V : View} {x : Sl} {e : TypeId} {sz : Nat} {cs : List Value} {K : Value → View → Prop} (h : CallV P f args (V.minus x) K) (hb : Buf V x e sz cs) :
    CallV P f args V fun r V' => ∃ U', K r U' ∧ U'.Le (V'.minus x) ∧ Buf V' x e sz cs := by
  rcases hb.own with ⟨ha, hc⟩ | ⟨b, all, ha, hs, h3⟩
  · have e1 : V.minus x = V := by unfold View.minus; rw [ha]
    rw [e1] at h
    refine h.mono fun r V' hk => ⟨V', hk, ?_, ⟨hb.len, hb.le, hb.lim, .inl ⟨ha, hc⟩⟩⟩
    unfold View.minus; rw [ha]; exact View.Le.refl _
  · have e1 : V.minus x = V.hide b := by unfold View.minus; rw [ha]
    rw [e1] at h
    refine (CallV.frame (View.hide_le V b) h).mono ?_
    rintro r V' ⟨U', hk, hle, hrest⟩
    have hp : (V.hide b).see b = none := by simp [View.hide]
    obtain ⟨h4, h5⟩ := hrest b _ hp hs
    refine ⟨U', hk, ?_, ⟨hb.len, hb.le, hb.lim, .inr ⟨b, all, ha, h4, h3⟩⟩⟩
    have e2 : V'.minus x = V'.hide b := by unfold View.minus; rw [ha]
    rw [e2]
    refine ⟨hle.size, fun i o ho => ?_, hle.out⟩
    have hne : i ≠ b := fun e => by rw [e, h5] at ho; cases ho
    rw [hide_see, if_neg hne]; exact hle.see i o ho
theorem Buf.n_eq {α : Type} [Rep α] {W V : View} {x : Sl} {e : TypeId} {cs : List Value} {l : List α} (h : Buf V x e (Rep.sz α) cs) (hr : repL W cs l) : x.n = l.length :=
  Nat.eq_of_mul_eq_mul_right (Rep.pos (α := α)) (h.len.symm.trans hr.len)
/-- The cells of a new block, as a row. -/
theorem rowAt_new {V : View} {r : Nat} {cs : List Value} {e : TypeId} {f : Nat × Nat} (h : V.see r = some (.cells ⟨cs⟩ e f)) {k : Nat} (hk : cs.length = k) : rowAt V (some ⟨r, 0, none⟩) k cs :=
  ⟨hk, cellsAt_of_see h fun j v hj => by simpa using hj⟩
theorem put_le_hide {V U : View} {r : Nat} {o : Obj} (hr : V.see r = none) (h : U.Le V) : U.Le ((V.put r o).hide r) :=
  h.trans ⟨Nat.le_max_left _ _, fun i o' ho => by
    have hne : i ≠ r := fun e => by rw [e, hr] at ho; cases ho
    rw [hide_see, if_neg hne, View.see_put_ne V _ hne]; exact ho, rfl⟩
theorem minus_see_none {V : View} {x : Sl} {r : Nat} (h : V.see r = none) : (V.minus x).see r = none := by
  unfold View.minus; split
  · exact h
  · rw [hide_see]; split
    · rfl
    · exact h
end Go.Proofs.Ytpoijjfbgfiboaa

/- Contracts of package bytes. -/
namespace Go.Proofs.Ytpoijjfbgfiboaa
open Go
/-- Bytes as cells. -/
def u8s (l : List UInt8) : List Value := l.map fun b => .int .u8 b.toNat
theorem u8s_append (l m : List UInt8) : u8s (l ++ m) = u8s l ++ u8s m := List.map_append
theorem u8s_len (l : List UInt8) : (u8s l).length = l.length := List.length_map _
theorem u8s_one (l : List UInt8) : (u8s l).all Value.oneCell' = true := by
  rw [List.all_eq_true]
  intro v hv
  obtain ⟨b, _, rfl⟩ := List.mem_map.1 hv
  rfl
theorem u8s_rep {W : View} : ∀ l : List UInt8, repL W (u8s l) l
  | [] => rfl
  | b :: l => ⟨[.int .u8 b.toNat], u8s l, rfl, rfl, u8s_rep l⟩
theorem repL_u8 {W : View} : ∀ {cs : List Value} {l : List UInt8}, repL W cs l → cs = u8s l
  | _, [], h => h
  | _, b :: l, ⟨vs, us, e, h1, h2⟩ => by
    have h1 : vs = [Value.int .u8 b.toNat] := h1
    rw [e, h1, repL_u8 h2]; rfl
theorem SlR.row8 {V : View} {s : Sl} {l : List UInt8} (h : SlR V s l) : rowAt V s.a (s.n * 1) (u8s l) := by
  obtain ⟨cs, h1, h2⟩ := h.row
  rw [repL_u8 h2] at h1
  exact h1
/-- Bytes that a call made: in a row of its own. -/
structure Fresh8 (V V' : View) (x : Sl) (l : List UInt8) : Prop where
  buf : Buf V' x 5 1 (u8s l)
  le : V.Le (V'.minus x)
theorem Fresh8.slR {V V' : View} {x : Sl} {l : List UInt8} (h : Fresh8 V V' x l) : SlR V' x l := h.buf.slR (W := V) (u8s_rep l) (h.le.trans (View.minus_le _ _))
theorem Fresh8.vle {V V' : View} {x : Sl} {l : List UInt8} (h : Fresh8 V V' x l) : V.Le V' := h.le.trans (View.minus_le _ _)
theorem flat_len8 : ∀ (ls : List (List UInt8)) (i : Nat), (ls.take i).flatten.length ≤ ls.flatten.length
  | [], i => by simp
  | x :: ls, 0 => by simp
  | x :: ls, i + 1 => by
    have := flat_len8 ls i
    simp only [List.take_succ_cons, List.flatten_cons, List.length_append]
    omega
theorem SlR.sl8 {V : View} {s : Sl} {ls : List (List UInt8)} (h : SlR V s ls) {x : Int} (h0 : 0 ≤ x) (h1 : x < s.n) :
    ∃ ad, ∃ y : Sl, ∃ hx : x.toNat < ls.length, s.a = some ad ∧ V.cell? (ad.add (x.toNat * 1)) = some (.slice y.a y.n y.c) ∧ SlR V y ls[x.toNat] := by
  obtain ⟨ad, vs, hx, ha, hc, y, rfl, hy⟩ := h.ld h0 h1
  exact ⟨ad, y, hx, ha, cellsAt_one.1 hc, hy⟩
/-- Digits, the least first. -/
def loL : Nat → Nat → List UInt8
  | 0, _ => []
  | f + 1, n => if n = 0 then [] else UInt8.ofNat (n % 128 + 128) :: loL f (n / 128)
theorem loL_rev : ∀ (f n : Nat), (loL f n).reverse = hiL f n
  | 0, _ => rfl
  | f + 1, n => by
    unfold loL hiL
    split
    · rfl
    · rw [List.reverse_cons, loL_rev f]
theorem numL_rev (n : Nat) : (UInt8.ofNat (n % 128) :: loL 6 (n / 128)).reverse = numL n := by
  rw [List.reverse_cons, loL_rev]; rfl
theorem loL_len : ∀ (f n : Nat), (loL f n).length ≤ f := fun f n => by rw [← List.length_reverse, loL_rev]; exact hiL_len f n
theorem numL_len (n : Nat) : (numL n).length ≤ 7 := by
  unfold numL
  have := hiL_len 6 (n / 128)
  simp; omega
theorem wrap_u8 {n : Int} (h0 : 0 ≤ n) (h1 : n ≤ 255) : IntKind.u8.wrap n = n := by
  unfold IntKind.wrap
  simp [IntKind.signed, IntKind.bits]
  omega
theorem clamp_eq (n : Int) : (if (1099511627776 : Int) < (if (0 : Int) > n then 0 else n) then (1099511627776 : Int) else if (0 : Int) > n then 0 else n) = (clampN n : Int) := by
  unfold clampN
  split <;> split <;> omega
theorem clampN_le (n : Int) : clampN n ≤ 1099511627776 := by unfold clampN; omega
theorem numI_len (n : Int) : (numI n).length ≤ 7 := numL_len _
/-- Numbers behind one another. -/
def numsL (l : List Int) : List UInt8 := (l.map numI).flatten
theorem numsL_append (l m : List Int) : numsL (l ++ m) = numsL l ++ numsL m := by simp [numsL]
theorem numsL_one (n : Int) : numsL [n] = numI n := by simp [numsL]
theorem numsL_len : ∀ l : List Int, (numsL l).length ≤ 7 * l.length
  | [] => by simp [numsL]
  | n :: l => by
    have h1 := numI_len n
    have h2 := numsL_len l
    have e : numsL (n :: l) = numI n ++ numsL l := rfl
    rw [e, List.length_append, List.length_cons]
    omega
end Go.Proofs.Ytpoijjfbgfiboaa

/- Elements of rows of one's own that are set; rows that grow by an element. -/
namespace Go.Proofs.Ytpoijjfbgfiboaa
open Go
theorem repL.set {α : Type} [Rep α] {W : View} {d : α} {ds : List Value} (hd : Rep.rep W ds d) : ∀ {cs : List Value} {l : List α} {i : Nat}, repL W cs l → i < l.length → repL W (putL cs (i * Rep.sz α) ds) (l.set i d)
  | _, [], i, _, hi => absurd hi (by simp)
  | _, x :: l, 0, ⟨vs, us, e, h1, h2⟩, _ => by
    have hv := Rep.len h1; have hdl := Rep.len hd
    refine ⟨ds, us, ?_, hd, h2⟩
    rw [Nat.zero_mul, putL_eq _ _ _ (by rw [e, List.length_append]; omega), e, List.take_zero, List.nil_append, Nat.zero_add, List.drop_append_of_le_length (by omega), List.drop_of_length_le (by omega), List.nil_append]
  | _, x :: l, i + 1, ⟨vs, us, e, h1, h2⟩, hi => by
    have hv := Rep.len h1; have hdl := Rep.len hd; have hul := h2.len
    have hi' : i < l.length := by simpa using hi
    have hle := Nat.mul_le_mul_right (Rep.sz α) (show i + 1 ≤ l.length from hi')
    rw [Nat.add_mul] at hle
    refine ⟨vs, putL us (i * Rep.sz α) ds, ?_, h1, repL.set hd h2 hi'⟩
    rw [putL_eq _ _ _ (by rw [e, List.length_append, Nat.add_mul]; omega), putL_eq _ _ _ (by omega), e, Nat.add_mul]
    rw [show i * Rep.sz α + 1 * Rep.sz α = vs.length + i * Rep.sz α by omega, List.take_append, List.drop_append]
    rw [List.take_of_length_le (show vs.length ≤ vs.length + i * Rep.sz α by omega), List.drop_of_length_le (show vs.length ≤ vs.length + i * Rep.sz α + ds.length by omega)]
    rw [show vs.length + i * Rep.sz α - vs.length = i * Rep.sz α by omega, show vs.length + i * Rep.sz α + ds.length - vs.length = i * Rep.sz α + ds.length by omega]
    simp [List.append_assoc]
theorem putL_take : ∀ (vs cs : List Value) (off m : Nat), (putL cs off vs).take m = putL (cs.take m) off vs
  | [], _, _, _ => rfl
  | v :: vs, cs, off, m => by rw [putL, putL, putL_take vs, List.take_set]
/-- Cells of a row of one's own may be set; all else is as it was. -/
theorem Buf.set {V : View} {x : Sl} {e : TypeId} {sz : Nat} {cs vs : List Value} (h : Buf V x e sz cs) {off : Nat} (hk : off + vs.length ≤ x.n * sz) (hv : 0 < vs.length) {ad : Addr} (ha : x.a = some ad) :
    canSet V (ad.add off) vs.length ∧ Buf (V.sets (ad.add off) vs) x e sz (putL cs off vs) ∧ (V.minus x).Le ((V.sets (ad.add off) vs).minus x) := by
  rcases h.own with ⟨h1, _⟩ | ⟨r, all, h1, h2, h3, h4⟩
  · rw [h1] at ha; cases ha
  · rw [h1] at ha; cases ha
    have hle := Nat.mul_le_mul_right sz h.le
    have e0 : (⟨r, 0, none⟩ : Addr).add off = ⟨r, off, none⟩ := by rw [addr0_add]; simp
    have hlen := h.len
    rw [e0, sets_see h2]
    refine ⟨canSet_of h2 (by omega), ⟨?_, h.le, h.lim, .inr ⟨r, _, h1, View.see_put_same _ _ _, ?_, ?_⟩⟩, ?_⟩
    · rw [putL_eq _ _ _ (by omega)]; simp; omega
    · rw [putL_eq _ _ _ (by omega)]; simp; omega
    · rw [putL_take, h4]
    · unfold View.minus; rw [h1]; exact hide_le_put_hide r _
/-- Element i of a row of one's own, set. -/
theorem Buf.setE {α : Type} [Rep α] {V : View} {x : Sl} {e : TypeId} {cs vs : List Value} {l : List α} {d : α} (h : Buf V x e (Rep.sz α) cs) (hr : repL (V.minus x) cs l) (hd : Rep.rep (V.minus x) vs d) {i : Nat} (hi : i < l.length) :
    ∃ ad, x.a = some ad ∧ canSet V (ad.add (i * Rep.sz α)) vs.length ∧ Buf (V.sets (ad.add (i * Rep.sz α)) vs) x e (Rep.sz α) (putL cs (i * Rep.sz α) vs) ∧ repL ((V.sets (ad.add (i * Rep.sz α)) vs).minus x) (putL cs (i * Rep.sz α) vs) (l.set i d) ∧ (V.minus x).Le ((V.sets (ad.add (i * Rep.sz α)) vs).minus x) := by
  have hn : x.n = l.length := Nat.eq_of_mul_eq_mul_right (Rep.pos (α := α)) (h.len.symm.trans hr.len)
  have hv := Rep.len hd
  have hle := Nat.mul_le_mul_right (Rep.sz α) (show i + 1 ≤ x.n by omega)
  rw [Nat.add_mul] at hle
  have hp := Rep.pos (α := α)
  rcases h.own with ⟨h1, h2⟩ | ⟨r, all, h1, _⟩
  · have := h.le; omega
  · obtain ⟨a, b, c⟩ := h.set (off := i * Rep.sz α) (vs := vs) (by omega) (by omega) h1
    exact ⟨_, h1, a, b, (hr.mono c).set (Rep.mono c hd) hi, c⟩
theorem putL_mid {cs vs : List Value} {off j : Nat} {v : Value} (h : ∀ j v, vs[j]? = some v → cs[off + j]? = some v) (hj : j < vs.length) (hl : off + vs.length ≤ cs.length) : putL cs off (vs.set j v) = putL cs (off + j) [v] := by
  rw [putL_eq _ _ _ (by simpa using hl)]
  show _ = cs.set (off + j) v
  apply List.ext_getElem?
  intro k
  rw [List.length_set]
  by_cases h1 : k < off
  · rw [List.append_assoc, List.getElem?_append_left (by simp; omega), List.getElem?_take, if_pos h1, List.getElem?_set_ne (by omega)]
  · by_cases h2 : k < off + vs.length
    · rw [List.append_assoc, List.getElem?_append_right (by simp; omega), List.getElem?_append_left (by simp; omega), List.length_take, Nat.min_eq_left (by omega)]
      by_cases h3 : k = off + j
      · subst h3
        rw [show off + j - off = j by omega, List.getElem?_set_self hj, List.getElem?_set_self (by omega)]
      · rw [List.getElem?_set_ne (by omega), List.getElem?_set_ne (by omega)]
        have h4 : k - off < vs.length := by omega
        have := h (k - off) _ (List.getElem?_eq_getElem h4)
        rw [show off + (k - off) = k by omega] at this
        rw [this, List.getElem?_eq_getElem h4]
    · rw [List.getElem?_append_right (by simp; omega), List.getElem?_drop, List.getElem?_set_ne (by omega)]
      congr 1
      simp; omega
/-- A cell of element i of a row of one's own, set. -/
theorem Buf.setC {α : Type} [Rep α] {V : View} {x : Sl} {e : TypeId} {cs : List Value} {l : List α} (h : Buf V x e (Rep.sz α) cs) (hr : repL (V.minus x) cs l) {i : Nat} (hi : i < l.length) :
    ∃ ad vs, x.a = some ad ∧ cellsAt V (ad.add (i * Rep.sz α)) vs ∧ Rep.rep (V.minus x) vs l[i] ∧ ∀ j v d, j < Rep.sz α → Rep.rep (V.minus x) (vs.set j v) d →
      canSet V ((ad.add (i * Rep.sz α)).add j) 1 ∧ Buf (V.sets ((ad.add (i * Rep.sz α)).add j) [v]) x e (Rep.sz α) (putL cs (i * Rep.sz α + j) [v]) ∧ repL ((V.sets ((ad.add (i * Rep.sz α)).add j) [v]).minus x) (putL cs (i * Rep.sz α + j) [v]) (l.set i d) ∧ (V.minus x).Le ((V.sets ((ad.add (i * Rep.sz α)).add j) [v]).minus x) := by
  have hn : x.n = l.length := Nat.eq_of_mul_eq_mul_right (Rep.pos (α := α)) (h.len.symm.trans hr.len)
  obtain ⟨vs, hv, hg⟩ := hr.get i hi
  have hvl := Rep.len hv
  have hle := Nat.mul_le_mul_right (Rep.sz α) (show i + 1 ≤ x.n by omega)
  rw [Nat.add_mul] at hle
  have hcl := h.len
  rcases h.own with ⟨h1, h2⟩ | ⟨r, all, h1, h2, h3, h4⟩
  · have := h.le; omega
  · refine ⟨_, vs, h1, ?_, hv, fun j v d hj hd => ?_⟩
    · rw [addr0_add]
      refine cellsAt_of_see h2 fun j v hj => ?_
      have := hg j v hj
      rw [← h4, List.getElem?_take] at this
      split at this
      · simpa using this
      · cases this
    · rw [Addr.add_add]
      obtain ⟨a, b, c⟩ := h.set (off := i * Rep.sz α + j) (vs := [v]) (by simp; omega) (by simp) h1
      refine ⟨a, b, ?_, c⟩
      rw [← putL_mid hg (by omega) (by omega)]
      exact (hr.mono c).set (Rep.mono c hd) hi
/-- An element in a new block, appended to a row of one's own. -/
theorem app0 {α : Type} [Rep α] {V V0 : View} {r : Nat} {x : Sl} {e : TypeId} {bytes : Nat} {zero : List Value} {cs vs : List Value} {l : List α} {d : α} {C : Sl → View → Prop} {ob : Obj} {te : TypeId}
    (hz : zero.length = Rep.sz α) (hb : Buf V x e (Rep.sz α) cs) (hr : repL (V.minus x) cs l) (hd : Rep.rep (V.minus x) vs d) (hle : V0.Le (V.minus x)) (hnew : V.size ≤ r) (hob : ob = .cells ⟨vs⟩ te (0, 0))
    (hm : (x.n + 1) * bytes ≤ 140737488355328) (hm2 : x.n + 1 ≤ 140737488355328)
    (hC : ∀ s V' cs', Buf V' s e (Rep.sz α) cs' → repL (V'.minus s) cs' (l ++ [d]) → V0.Le (V'.minus s) → C s V') :
    apV (V.put r ob) e (Rep.sz α) bytes zero x (.slice (some ⟨r, 0, none⟩) 1 1) C := by
  subst hob
  have hfr : V.see r = none := View.see_none_of_ge hnew
  have hvl : vs.length = Rep.sz α := Rep.len hd
  refine apV_buf hz (hb.put hfr) (src := vs) (m := 1) ⟨rfl, rowAt_new (View.see_put_same _ _ _) (by rw [Nat.one_mul]; exact hvl)⟩ (by rw [Nat.one_mul]; exact hvl) (Rep.one hd) hm hm2 fun s V' hb' _ hle' => ?_
  have h1 : (V.minus x).Le (V'.minus s) := (put_minus_le hfr).trans hle'
  exact hC s V' _ hb' ((hr.mono h1).snoc (Rep.mono h1 hd)) (hle.trans h1)
/-- An element appended to a row of one's own that stands beside another one. -/
theorem app0b {α : Type} [Rep α] {V V0 : View} {x y : Sl} {e e' : TypeId} {bytes sz' : Nat} {zero : List Value} {cs vs ds : List Value} {l : List α} {d : α} {C : Sl → View → Prop} {r : Nat}
    (hz : zero.length = Rep.sz α) (hb : Buf V x e (Rep.sz α) cs) (hy : Buf (V.minus x) y e' sz' ds) (hr : repL V0 cs l) (hd : Rep.rep V0 vs d) (hle : V0.Le ((V.minus x).minus y)) (hrow : rowAt V (some ⟨r, 0, none⟩) (1 * Rep.sz α) vs)
    (hm : (l.length + 1) * bytes ≤ 140737488355328) (hm2 : l.length + 1 ≤ 140737488355328)
    (hC : ∀ s V', Buf V' s e (Rep.sz α) (cs ++ vs) → Buf (V'.minus s) y e' sz' ds → repL V0 (cs ++ vs) (l ++ [d]) → V0.Le ((V'.minus s).minus y) → C s V') :
    apV V e (Rep.sz α) bytes zero x (.slice (some ⟨r, 0, none⟩) 1 1) C := by
  have hvl : vs.length = Rep.sz α := Rep.len hd
  have hn : x.n = l.length := Nat.eq_of_mul_eq_mul_right (Rep.pos (α := α)) (hb.len.symm.trans hr.len)
  refine apV_buf hz hb (src := vs) (m := 1) ⟨rfl, hrow⟩ (by rw [Nat.one_mul]; exact hvl) (Rep.one hd) (by rw [hn]; exact hm) (by rw [hn]; exact hm2) fun s V' hb' _ hle' => ?_
  exact hC s V' hb' (hy.mono hle') (hr.snoc hd) (hle.trans (minus_mono hle' y))
/-- A row of data copied behind a row of one's own. -/
theorem appRow {α : Type} [Rep α] {V V0 : View} {x y : Sl} {e : TypeId} {bytes : Nat} {zero : List Value} {cs : List Value} {l m : List α} {C : Sl → View → Prop}
    (hz : zero.length = Rep.sz α) (hb : Buf V x e (Rep.sz α) cs) (hr : repL (V.minus x) cs l) (hy : SlR (V.minus x) y m) (hle : V0.Le (V.minus x))
    (hm : (l.length + m.length) * bytes ≤ 140737488355328) (hm2 : l.length + m.length ≤ 140737488355328)
    (hC : ∀ s V' cs', Buf V' s e (Rep.sz α) cs' → repL (V'.minus s) cs' (l ++ m) → V0.Le (V'.minus s) → C s V') :
    apV V e (Rep.sz α) bytes zero x (.slice y.a y.n y.c) C := by
  obtain ⟨cy, hrow, hcy⟩ := hy.row
  have hyn := hy.n
  have hn : x.n = l.length := Nat.eq_of_mul_eq_mul_right (Rep.pos (α := α)) (hb.len.symm.trans hr.len)
  have hrow' : rowAt V y.a (y.n * Rep.sz α) cy := by
    cases ha : y.a with
    | none => rw [ha] at hrow; exact hrow
    | some a => rw [ha] at hrow; exact ⟨hrow.1, cellsAt_mono (View.minus_le _ _) hrow.2⟩
  refine apV_buf hz hb (src := cy) (m := y.n) ⟨rfl, hrow'⟩ (by rw [hcy.len, hyn]) hcy.one (by rw [hn, hyn]; exact hm) (by rw [hn, hyn]; exact hm2) fun s V' hb' _ hle' => ?_
  exact hC s V' _ hb' ((hr.mono hle').append (hcy.mono hle')) (hle.trans hle')
end Go.Proofs.Ytpoijjfbgfiboaa

/- Contracts: tables of places. -/
namespace Go.Proofs.Ytpoijjfbgfiboaa
open Go
def mapO (es : Array MapEntry) (cl : Nat) : Obj := .map es cl
/-- A map of one's own holds this, in some order. -/
structure MapR (V : View) (r : Nat) (l : PL) : Prop where
  ex : ∃ es cl la, V.see r = some (.map es cl) ∧ MapC es cl la ∧ la.Perm l
/-- A table. -/
structure Tab (V : View) (t ra rb : Nat) (l : PL) : Prop where
  ta : t ≠ ra
  tb : t ≠ rb
  ab : ra ≠ rb
  ca : V.cell? ⟨t, 0, none⟩ = some (.map (some ra))
  cb : V.cell? ⟨t, 1, none⟩ = some (.map (some rb))
  ma : MapR V ra l
  mb : MapR V rb (swapL l)
  uni : Uni l
theorem MapR.mono {V V' : View} {r : Nat} {l : PL} (h : V.see r = V'.see r) (k : MapR V r l) : MapR V' r l := by
  obtain ⟨es, cl, la, h1, h2, h3⟩ := k.ex
  exact ⟨es, cl, la, by rw [← h]; exact h1, h2, h3⟩
theorem MapR.le {V V' : View} {r : Nat} {l : PL} (h : V.Le V') (k : MapR V r l) : MapR V' r l := by
  obtain ⟨es, cl, la, h1, h2, h3⟩ := k.ex
  exact ⟨es, cl, la, h.see _ _ h1, h2, h3⟩
theorem Tab.perm {V : View} {t ra rb : Nat} {l m : PL} (h : Tab V t ra rb l) (hp : l.Perm m) : Tab V t ra rb m := by
  obtain ⟨es, cl, la, h1, h2, h3⟩ := h.ma.ex
  obtain ⟨fs, dl, lb, k1, k2, k3⟩ := h.mb.ex
  exact ⟨h.ta, h.tb, h.ab, h.ca, h.cb, ⟨es, cl, la, h1, h2, h3.trans hp⟩, ⟨fs, dl, lb, k1, k2, k3.trans (hp.map _)⟩, h.uni.perm hp⟩
theorem Tab.le {V V' : View} {t ra rb : Nat} {l : PL} (hV : V.Le V') (h : Tab V t ra rb l) : Tab V' t ra rb l :=
  ⟨h.ta, h.tb, h.ab, hV.cell h.ca, hV.cell h.cb, h.ma.le hV, h.mb.le hV, h.uni⟩
/-- All but the two maps. -/
def View.off (V : View) (ra rb : Nat) : View := (V.hide ra).hide rb
theorem View.off_see {V : View} {ra rb i : Nat} (h1 : i ≠ ra) (h2 : i ≠ rb) : (V.off ra rb).see i = V.see i := by
  unfold View.off View.hide; simp [h1, h2]
theorem View.off_le (V : View) (ra rb : Nat) : (V.off ra rb).Le V := (View.hide_le _ _).trans (View.hide_le _ _)
theorem cell_see {V V' : View} {a : Addr} (h : V.see a.block = V'.see a.block) : V.cell? a = V'.cell? a := by unfold View.cell?; rw [h]
theorem Tab.offa {V : View} {t ra rb : Nat} {l : PL} (h : Tab V t ra rb l) : (V.off ra rb).cell? ⟨t, 0, none⟩ = some (.map (some ra)) := by
  rw [cell_see (V' := V) (View.off_see h.ta h.tb)]; exact h.ca
theorem Tab.offb {V : View} {t ra rb : Nat} {l : PL} (h : Tab V t ra rb l) : (V.off ra rb).cell? ⟨t, 1, none⟩ = some (.map (some rb)) := by
  rw [cell_see (V' := V) (View.off_see h.ta h.tb)]; exact h.cb
theorem View.off_put {V V' : View} {ra rb i : Nat} {o : Obj} (h : (V.off ra rb).Le V') (hi : i = ra ∨ i = rb) : (V.off ra rb).Le (V'.put i o) :=
  ⟨Nat.le_trans h.size (Nat.le_max_left _ _), fun j o' hj => by
    have hne : j ≠ i := by
      rintro rfl
      unfold View.off View.hide at hj
      rcases hi with rfl | rfl <;> simp at hj
    rw [View.see_put_ne _ _ hne]; exact h.see j o' hj, h.out⟩
theorem found_look {l la : PL} {k : P2} (hp : la.Perm l) (hn : (la.map Prod.fst).Nodup) : lookP k la = lookP k l := lookP_perm hp hn
/-- What is found. -/
theorem MapR.look {V : View} {r : Nat} {l : PL} (h : MapR V r l) (k : P2) : ∃ es cl f, V.see r = some (.map es cl) ∧ mfind (encP k) es.toList 0 = some f ∧ found (encP (0, 0)) f = encP ((lookP k l).getD (0, 0)) ∧ f.isSome = (lookP k l).isSome := by
  obtain ⟨es, cl, la, h1, h2, h3⟩ := h.ex
  obtain ⟨f, h4, h5, h6⟩ := h2.look k
  rw [lookP_perm h3 h2.keys] at h5 h6
  exact ⟨es, cl, f, h1, h4, h5, h6⟩
theorem MapR.del {V : View} {r : Nat} {l : PL} (h : MapR V r l) (k : P2) {C : View → Prop} (hC : ∀ o, (∀ V', V'.see r = some o → MapR V' r (delP k l)) → C (V.put r o)) : mapD V (some r) (encP k) C := by
  obtain ⟨es, cl, la, h1, h2, h3⟩ := h.ex
  obtain ⟨f, h4, h5⟩ := h2.del k
  exact ⟨es, cl, f, h1, h4, hC _ fun V' hV => ⟨_, _, _, hV, h5, delP_perm h3⟩⟩
theorem MapR.put {V : View} {r : Nat} {l : PL} (h : MapR V r l) (k v : P2) (hk : k ∉ l.map Prod.fst) : ∃ es cl f, V.see r = some (.map es cl) ∧ mfind (encP k) es.toList 0 = some f ∧ ∃ x3 x4 : Int, found (encP (0, 0)) f = encP (x3, x4) ∧ ∃ es1 cl1 i, mput es cl f (encP k) (encP (x3, x4)) = .map es1 cl1 ∧
    es1.findIdx? (fun e => (e.born : Int) == ((mborn es cl f : Nat) : Int)) = some i ∧ ∀ V', V'.see r = some (.map (es1.modify i fun e => { e with val := encP v }) cl1) → MapR V' r (l ++ [(k, v)]) := by
  obtain ⟨es, cl, la, h1, h2, h3⟩ := h.ex
  obtain ⟨f, h4, x3, x4, h5, es1, cl1, i, h6, h7, h8⟩ := h2.put k v
  refine ⟨es, cl, f, h1, h4, x3, x4, h5, es1, cl1, i, h6, h7, fun V' hV => ⟨_, _, _, hV, h8, ?_⟩⟩
  have hk' : k ∉ la.map Prod.fst := fun hm => hk ((h3.map Prod.fst).mem_iff.1 hm)
  unfold putP
  rw [if_neg hk']
  exact h3.append_right _
theorem new_ok {V : View} : CallV Try.prog 9 ⟨[]⟩ V fun r V' => ∃ t ra rb, r = .pointer (some ⟨t, 0, none⟩) ∧ Tab V' t ra rb [] ∧ V.Le V' ∧ V.see t = none ∧ V.see ra = none ∧ V.see rb = none := by
  refine f9_x (_u := ()) ?_
  unfold f9_n
  intro ra hra rb hrb t ht
  have h1 : V.see ra = none := View.see_none_of_ge hra
  have hra' : ra < (V.put ra (Obj.map ⟨[]⟩ 0)).size := Nat.lt_of_lt_of_le (Nat.lt_succ_self _) (Nat.le_max_right _ _)
  have hab : ra ≠ rb := by omega
  have h2 : V.see rb = none := View.see_none_of_ge (Nat.le_trans (Nat.le_max_left _ _) hrb)
  have e1 : ((V.put ra (Obj.map ⟨[]⟩ 0)).put rb (Obj.map ⟨[]⟩ 0)).see ra = some (.map ⟨[]⟩ 0) := by
    rw [View.see_put_ne _ _ hab, View.see_put_same]
  have e2 : ((V.put ra (Obj.map ⟨[]⟩ 0)).put rb (Obj.map ⟨[]⟩ 0)).see rb = some (.map ⟨[]⟩ 0) := View.see_put_same _ _ _
  have hta : t ≠ ra := by rintro rfl; rw [e1] at ht; cases ht
  have htb : t ≠ rb := by rintro rfl; rw [e2] at ht; cases ht
  have h3 : V.see t = none := by
    rw [View.see_put_ne _ _ htb, View.see_put_ne _ _ hta] at ht; exact ht
  refine ⟨t, ra, rb, rfl, ⟨hta, htb, hab, cell_of_see (View.see_put_same _ _ _) rfl, cell_of_see (View.see_put_same _ _ _) rfl, ⟨⟨[]⟩, 0, [], ?_, MapC.nil, .refl _⟩, ⟨⟨[]⟩, 0, [], ?_, MapC.nil, .refl _⟩, Uni.nil⟩, ?_, h3, h1, h2⟩
  · rw [View.see_put_ne _ _ hta.symm]; exact e1
  · rw [View.see_put_ne _ _ htb.symm]; exact e2
  · exact ((View.put_le h1).trans (View.put_le (by rw [View.see_put_ne _ _ hab.symm]; exact h2))).trans (View.put_le ht)
theorem at_ok {V : View} {t ra rb : Nat} {l : PL} (h : Tab V t ra rb l) (k : P2) : CallV Try.prog 12 ⟨[.pointer (some ⟨t, 0, none⟩), encP k]⟩ V fun r V' => r = .tuple ⟨[encP ((lookP k l).getD (0, 0)), .bool (lookP k l).isSome]⟩ ∧ V' = V := by
  refine f12_x ?_
  unfold f12_n
  intro b b'
  obtain ⟨es, cl, f, h1, h2, h3, h4⟩ := h.ma.look k
  refine ⟨trivial, V, View.Le.refl _, _, rfl, some ra, by rw [Addr.add_zero]; exact h.ca, trivial, es, cl, f, h1, h2, _, _, h3, fun _ => ⟨View.Le.refl _, ?_, rfl⟩⟩
  rw [h4]; rfl
theorem on_ok {V : View} {t ra rb : Nat} {l : PL} (h : Tab V t ra rb l) (k : P2) : CallV Try.prog 13 ⟨[.pointer (some ⟨t, 0, none⟩), encP k]⟩ V fun r V' => r = .tuple ⟨[encP ((onP k l).getD (0, 0)), .bool (onP k l).isSome]⟩ ∧ V' = V := by
  refine f13_x ?_
  unfold f13_n
  intro b b'
  obtain ⟨es, cl, f, h1, h2, h3, h4⟩ := h.mb.look k
  refine ⟨trivial, V, View.Le.refl _, _, rfl, some rb, by rw [addr0_add]; exact h.cb, trivial, es, cl, f, h1, h2, _, _, h3, fun _ => ⟨View.Le.refl _, ?_, rfl⟩⟩
  rw [h4]; rfl
theorem len_ok {V : View} {t ra rb : Nat} {l : PL} (h : Tab V t ra rb l) : CallV Try.prog 14 ⟨[.pointer (some ⟨t, 0, none⟩)]⟩ V fun r V' => r = .int .i64 l.length ∧ V' = V := by
  refine f14_x ?_
  unfold f14_n
  obtain ⟨es, cl, la, h1, h2, h3⟩ := h.mb.ex
  refine ⟨_, rfl, some rb, by rw [addr0_add]; exact h.cb, ?_⟩
  refine ⟨es, cl, h1, ?_, rfl⟩
  rw [h2.size, h3.length_eq]
  unfold swapL
  rw [List.length_map]
/-- A table's maps alone are written. -/
theorem Tab.puta {V : View} {t ra rb : Nat} {l m : PL} (h : Tab V t ra rb l) {V' : View} (hV : (V.off ra rb).Le V') (ha : MapR V' ra m) (hb : MapR V' rb (swapL m)) (hu : Uni m) : Tab V' t ra rb m :=
  ⟨h.ta, h.tb, h.ab, hV.cell h.offa, hV.cell h.offb, ha, hb, hu⟩
theorem cut_ok {V : View} {t ra rb : Nat} {l : PL} (h : Tab V t ra rb l) (k : P2) : CallV Try.prog 10 ⟨[.pointer (some ⟨t, 0, none⟩), encP k]⟩ V fun r V' => r = .bool (lookP k l).isSome ∧ Tab V' t ra rb (delP k l) ∧ (V.off ra rb).Le V' := by
  refine f10_x ?_
  unfold f10_n
  intro b
  obtain ⟨es, cl, f, h1, h2, h3, h4⟩ := h.ma.look k
  refine ⟨trivial, V, View.Le.refl _, _, rfl, some ra, by rw [Addr.add_zero]; exact h.ca, trivial, es, cl, f, h1, h2, _, _, h3, fun _ => ⟨View.Le.refl _, ?_⟩⟩
  rw [h4]
  refine joinP_cut (fun _ V' => Tab V' t ra rb (delP k l) ∧ (V.off ra rb).Le V') ?_ fun _ V' hV => ⟨rfl, hV⟩
  refine br_intro (fun hs => ?_) (fun hs => ?_)
  · obtain ⟨s, hs⟩ := Option.isSome_iff_exists.1 hs
    have hm := (lookP_mem h.uni.a).1 hs
    refine ⟨trivial, V, View.Le.refl _, _, rfl, some ra, by rw [Addr.add_zero]; exact h.ca, trivial, h.ma.del k fun o1 g1 => ?_⟩
    rw [hs]
    have hb : MapR (V.put ra o1) rb (swapL l) := h.mb.mono (View.see_put_ne _ _ h.ab.symm).symm
    refine ⟨trivial, _, View.Le.refl _, _, rfl, some rb, ?_, trivial, hb.del s fun o2 g2 => ?_⟩
    · rw [addr0_add]
      refine (cell_see ?_).trans h.cb
      exact View.see_put_ne _ _ h.ta
    · have hV : (V.off ra rb).Le ((V.put ra o1).put rb o2) := View.off_put (View.off_put (View.off_le _ _ _) (.inl rfl)) (.inr rfl)
      refine ⟨h.puta hV ?_ ?_ (h.uni.del k), hV⟩
      · exact g1 _ (by rw [View.see_put_ne _ _ h.ab, View.see_put_same])
      · rw [← delP_swap h.uni.a h.uni.b hm]
        exact g2 _ (View.see_put_same _ _ _)
  · have hn : lookP k l = none := by simpa using hs
    refine ⟨?_, View.off_le _ _ _⟩
    rw [delP_none (lookP_isNone.1 hn)]; exact h
theorem put_ok {V : View} {t ra rb : Nat} {l : PL} (h : Tab V t ra rb l) (k s : P2) : CallV Try.prog 11 ⟨[.pointer (some ⟨t, 0, none⟩), encP k, encP s]⟩ V fun r V' => r = .bool (canP k s l) ∧ Tab V' t ra rb (putT k s l) ∧ (V.off ra rb).Le V' := by
  refine f11_x ?_
  unfold f11_n
  intro b b'
  refine br_intro (fun hg => ?_) (fun hg => ?_)
  · have hc : canP k s l = false := by
      unfold canP
      rcases (by simpa using hg : s.1 < 0 ∨ s.2 < 0) with h1 | h1
      · rw [decide_eq_false (by omega : ¬ 0 ≤ s.1)]; rfl
      · rw [decide_eq_false (by omega : ¬ 0 ≤ s.2), Bool.and_false]; rfl
    refine ⟨by rw [hc], ?_, View.off_le _ _ _⟩
    unfold putT
    rw [if_neg (by rw [hc]; simp)]; exact h
  · have hg : ¬ s.1 < 0 ∧ ¬ s.2 < 0 := by simpa using hg
    obtain ⟨es, cl, f, h1, h2, h3, h4⟩ := h.mb.look s
    refine ⟨trivial, V, View.Le.refl _, _, rfl, some rb, by rw [addr0_add]; exact h.cb, trivial, es, cl, f, h1, h2, _, _, h3, fun _ => ⟨View.Le.refl _, ?_⟩⟩
    rw [h4]
    refine joinP_cut (fun x V' => x.1 = !canP k s l ∧ V' = V) ?_ ?_
    · refine br_intro (fun hs => ⟨trivial, ?_, rfl⟩) (fun hs => ⟨?_, rfl⟩)
      · obtain ⟨k', hs⟩ := Option.isSome_iff_exists.1 hs
        have hs' : onP s l = some k' := hs
        unfold canP
        rw [hs', hs, decide_eq_true (by omega : 0 ≤ s.1), decide_eq_true (by omega : 0 ≤ s.2)]
        have e : decide (k' = k) = (decide (k'.1 = k.1) && (decide (k'.2 = k.2) && true)) := by
          rw [Bool.and_true, ← Bool.decide_and]
          exact decide_eq_decide.2 Prod.ext_iff
        rw [Bool.true_and, Bool.true_and]
        show (!(_)) = !(decide (k' = k))
        rw [e]; rfl
      · have hn : onP s l = none := by simpa [onP] using hs
        unfold canP
        rw [hn, decide_eq_true (by omega : 0 ≤ s.1), decide_eq_true (by omega : 0 ≤ s.2)]; rfl
    · rintro ⟨x, _⟩ V' ⟨(hx0 : x = _), rfl⟩; subst hx0
      refine br_intro (fun hx => ?_) (fun hx => ?_)
      · have hc : canP k s l = false := by simpa using hx
        refine ⟨by rw [hc], ?_, View.off_le _ _ _⟩
        unfold putT
        rw [if_neg (by rw [hc]; simp)]; exact h
      · have hc : canP k s l = true := by simpa using hx
        refine (cut_ok h k).mono fun r W ⟨hr, hT, hW⟩ => ?_
        subst hr
        refine ⟨_, rfl, trivial, W.off ra rb, View.off_le _ _ _, _, rfl, some ra, by rw [Addr.add_zero]; exact hT.offa, _, rfl, some rb, by rw [addr0_add]; exact hT.offb, trivial, ?_⟩
        obtain ⟨es, cl, f, g1, g2, x3, x4, g3, es1, cl1, i, g4, g5, g6⟩ := hT.ma.put k s delP_not
        refine ⟨ra, es, cl, f, rfl, g1, g2, x3, x4, g3, View.off_put (View.off_le _ _ _) (.inl rfl), ra, es1, cl1, i, rfl, (View.see_put_same _ _ _).trans (congrArg some g4), g5, ?_⟩
        have hL := View.off_put (o := .map (es1.modify i fun e => { e with val := encP s }) cl1) (View.off_put (V := W) (o := mput es cl f (encP k) (encP (x3, x4))) (View.off_le W ra rb) (.inl rfl)) (.inl rfl)
        refine ⟨hL, trivial, ?_⟩
        have hb := hT.mb.mono (V' := (W.put ra (mput es cl f (encP k) (encP (x3, x4)))).put ra (.map (es1.modify i fun e => { e with val := encP s }) cl1)) (by rw [View.see_put_ne _ _ h.ab.symm, View.see_put_ne _ _ h.ab.symm])
        obtain ⟨es', cl', f', g1', g2', x3', x4', g3', es1', cl1', i', g4', g5', g6'⟩ := hb.put s k (by rw [swapL_fst]; exact canP_not h.uni hc)
        refine ⟨rb, es', cl', f', rfl, g1', g2', x3', x4', g3', View.off_put hL (.inr rfl), rb, es1', cl1', i', rfl, (View.see_put_same _ _ _).trans (congrArg some g4'), g5', ?_⟩
        have hL2 := View.off_put (o := .map (es1'.modify i' fun e => { e with val := encP k }) cl1') (View.off_put (o := mput es' cl' f' (encP s) (encP (x3', x4'))) hL (.inr rfl)) (.inr rfl)
        have e1 : putT k s l = delP k l ++ [(k, s)] := by unfold putT; rw [if_pos hc]
        have e2 : swapL (delP k l ++ [(k, s)]) = swapL (delP k l) ++ [(s, k)] := by unfold swapL; rw [List.map_append]; rfl
        refine ⟨congrArg Value.bool hc.symm, ?_, ?_⟩
        · rw [e1]
          refine hT.puta hL2 ?_ ?_ (by rw [← e1]; exact h.uni.put)
          · exact g6 _ (((View.see_put_ne _ _ h.ab).trans (View.see_put_ne _ _ h.ab)).trans (View.see_put_same _ _ _))
          · rw [e2]
            exact g6' _ (View.see_put_same _ _ _)
        · refine View.Le.trans ?_ hL2
          refine ⟨hW.size, fun j o hj => ?_, hW.out⟩
          have h9 := hW.see j o hj
          have n1 : j ≠ ra := by rintro rfl; unfold View.off View.hide at hj; simp at hj
          have n2 : j ≠ rb := by rintro rfl; unfold View.off View.hide at hj; simp at hj
          rw [View.off_see n1 n2]; exact h9
end Go.Proofs.Ytpoijjfbgfiboaa

/- Contracts: the order of what was found. -/
namespace Go.Proofs.Ytpoijjfbgfiboaa
open Go
def cmpI (a b : Int) : Int := if a < b then -1 else if b < a then 1 else 0
theorem cmpI_in (a b : Int) : inI .i64 (cmpI a b) := by
  unfold cmpI
  split
  · exact inI64 (by omega) (by omega)
  · split
    · exact inI64 (by omega) (by omega)
    · exact inI64 (by omega) (by omega)
/-- The order, by block and page. -/
def ordP (p q : P2 × P2) : Int := if cmpI p.2.1 q.2.1 = 0 then cmpI p.2.2 q.2.2 else cmpI p.2.1 q.2.1
def celP (p : P2 × P2) : List Value := [.int .i64 p.1.1, .int .i64 p.1.2, .int .i64 p.2.1, .int .i64 p.2.2]
def encF (p : P2 × P2) : Value := .agg ⟨celP p⟩
theorem isNaN_ok {a : Int} {V : View} : CallV Try.prog 40 ⟨[.int .i64 a]⟩ V fun r V' => r = .bool false ∧ V' = V := by
  refine f40_x ?_
  unfold f40_n
  exact ⟨by simp, rfl⟩
theorem compareI_ok {a b : Int} {V : View} : CallV Try.prog 29 ⟨[.int .i64 a, .int .i64 b]⟩ V fun r V' => r = .int .i64 (cmpI a b) ∧ V' = V := by
  refine f29_x ?_
  unfold f29_n
  refine isNaN_ok.mono ?_
  rintro r V' ⟨rfl, rfl⟩
  refine ⟨_, rfl, isNaN_ok.mono ?_⟩
  rintro r V' ⟨rfl, rfl⟩
  refine ⟨_, rfl, ?_⟩
  rw [br_false, br_false]
  unfold cmpI
  refine br_intro (fun h => ⟨?_, rfl⟩) (fun h => br_intro (fun h' => ⟨?_, rfl⟩) (fun h' => ⟨?_, rfl⟩))
  · rw [if_pos (by simpa using h)]
  · rw [if_neg (by simpa using h), if_pos (by simpa using h')]
  · rw [if_neg (by simpa using h), if_neg (by simpa using h')]
theorem orI_ok {a b : Int} {s : Sl} {V : View} (h : SlR V s [a, b]) : CallV Try.prog 28 ⟨[.slice s.a s.n s.c]⟩ V fun r V' => r = .int .i64 (if a = 0 then b else a) ∧ V' = V := by
  refine f28_x ?_
  unfold f28_n
  have hn := h.n
  have hn : s.n = 2 := hn
  refine loop1 (k := .int .i64) (fun (x : Int) V' => V' = V ∧ 0 ≤ x ∧ x ≤ 2 ∧ (1 ≤ x → a = 0) ∧ (2 ≤ x → b = 0)) (fun (x : Int) _ => 2 - x.toNat) ⟨rfl, by omega, by omega, by omega, by omega⟩ ?_
  rintro (x : Int) V' ⟨rfl, h0, h1, h2, h3⟩
  refine br_intro (fun hlt => ?_) (fun hge => ?_)
  · have hlt : x < s.n := by simpa using hlt
    obtain ⟨ad, hx, ha, hc, _⟩ := h.int h0 hlt
    refine ⟨h0, hlt, ad, ha, _, hc, br_intro (fun hb => ⟨?_, rfl⟩) (fun hb => ⟨inI64 (by omega) (by omega), ⟨rfl, by omega, by omega, ?_, ?_⟩, by omega⟩)⟩
    · have hb : ¬ [a, b][x.toNat] = 0 := by simpa using hb
      rcases (by omega : x = 0 ∨ x = 1) with rfl | rfl
      · rw [if_neg (show ¬ a = 0 from hb)]; rfl
      · rw [if_pos (h2 (by omega))]; rfl
    · have hb : [a, b][x.toNat] = 0 := by simpa using hb
      intro h4
      rcases (by omega : x = 0 ∨ x = 1) with rfl | rfl
      · exact hb
      · exact h2 (by omega)
    · have hb : [a, b][x.toNat] = 0 := by simpa using hb
      intro h4
      rcases (by omega : x = 0 ∨ x = 1) with rfl | rfl
      · omega
      · exact hb
  · have hge : ¬ x < s.n := by simpa using hge
    refine ⟨?_, rfl⟩
    rw [if_pos (h2 (by omega)), h3 (by omega)]
theorem order_ok (p q : P2 × P2) {V : View} : CallV Try.prog 24 ⟨[encF p, encF q]⟩ V fun r V' => r = .int .i64 (ordP p q) ∧ V.Le V' := by
  refine f24_x ?_
  unfold f24_n
  intro b b'
  refine ⟨trivial, V, View.Le.refl _, compareI_ok.mono ?_⟩
  rintro r V' ⟨rfl, rfl⟩
  refine ⟨_, rfl, View.Le.refl _, compareI_ok.mono ?_⟩
  rintro r V' ⟨rfl, rfl⟩
  refine ⟨_, rfl, fun r hr => ?_⟩
  have hsl : SlR (V'.put r (.cells ⟨putL (putL [.int .i64 0, .int .i64 0] 0 [.int .i64 (cmpI p.2.1 q.2.1)]) 1 [.int .i64 (cmpI p.2.2 q.2.2)]⟩ 3)) ⟨some ⟨r, 0, none⟩, 2, 2⟩ [cmpI p.2.1 q.2.1, cmpI p.2.2 q.2.2] := by
    refine ⟨rfl, Nat.le_refl _, (by decide : 2 ≤ 9223372036854775807), fun i hi => ⟨_, [.int .i64 [cmpI p.2.1 q.2.1, cmpI p.2.2 q.2.2][i]], rfl, ?_, ?_⟩⟩
    · have : i = 0 ∨ i = 1 := by simp at hi; omega
      rcases this with rfl | rfl
      · refine cellsAt_one.2 ?_
        rw [addr0_add]
        exact cell_of_see (View.see_put_same _ _ _) rfl
      · refine cellsAt_one.2 ?_
        rw [addr0_add]
        exact cell_of_see (View.see_put_same _ _ _) rfl
    · exact ⟨rfl, by
        have : i = 0 ∨ i = 1 := by simp at hi; omega
        rcases this with rfl | rfl
        · exact cmpI_in _ _
        · exact cmpI_in _ _⟩
  refine (orI_ok hsl).mono ?_
  rintro r' V'' ⟨rfl, rfl⟩
  exact ⟨_, rfl, rfl, View.put_le (View.see_none_of_ge hr)⟩
end Go.Proofs.Ytpoijjfbgfiboaa

/-
  DERIVED: THE SHELF's CONTRACTS AT THIS DUMP, IN PLAIN WORDS (tools/lay-plain.mjs out of 'TryShelf.lean', which tools/lay-shelf.mjs wrote): THE SAME DECLARATIONS UNDER THE SAME NAMES: 'import', 'namespace', 'open', 'def', 'theorem' AND NOTHING ELSE: no command of the shelf's: FOR A HAND-IN. Each laying: the table of numbers ('.._ren') and one theorem, a field a fact of the dump's own or the kernel's comparison; each contract: ONE APPLICATION.
-/
namespace Go.Proofs
open Go.Shelf
def Try.sortF_ren : Go.Shelf.Ren := ⟨fun | 6 => 23 | 15 => 27 | 14 => 26 | 28 => 38 | 29 => 39 | 20 => 30 | 21 => 31 | 22 => 32 | 23 => 33 | 24 => 34 | 25 => 35 | 26 => 36 | 27 => 37 | 46 => 41 | 47 => 42 | 48 => 43 | 49 => 44 | 50 => 45 | 57 => 46 | n => n, fun | 22 => 28 | 24 => 34 | 25 => 60 | 3 => 3 | 39 => 64 | 0 => 0 | 53 => 76 | 55 => 78 | 4 => 4 | 46 => 69 | 45 => 68 | 50 => 73 | 5 => 5 | 9 => 9 | 66 => 80 | 70 => 84 | 76 => 86 | 77 => 87 | n => n, fun | n => n⟩
theorem Try.sortF : Go.Proofs.SlLaysF0.n6 Try.prog Try.sortF_ren := {
  mixed := by kernel_rfl
  f6 := ⟨Try.f23.name, by decide, Try.func23.trans (congrArg some (by kernel_rfl))⟩
  f14 := ⟨Try.f26.name, by decide, Try.func26.trans (congrArg some (by kernel_rfl))⟩
  f15 := Try.func27.trans (congrArg some (by kernel_rfl))
  f20 := ⟨Try.f30.name, by decide, Try.func30.trans (congrArg some (by kernel_rfl))⟩
  f21 := ⟨Try.f31.name, by decide, Try.func31.trans (congrArg some (by kernel_rfl))⟩
  f22 := ⟨Try.f32.name, by decide, Try.func32.trans (congrArg some (by kernel_rfl))⟩
  f23 := ⟨Try.f33.name, by decide, Try.func33.trans (congrArg some (by kernel_rfl))⟩
  f24 := ⟨Try.f34.name, by decide, Try.func34.trans (congrArg some (by kernel_rfl))⟩
  f25 := ⟨Try.f35.name, by decide, Try.func35.trans (congrArg some (by kernel_rfl))⟩
  f26 := ⟨Try.f36.name, by decide, Try.func36.trans (congrArg some (by kernel_rfl))⟩
  f27 := ⟨Try.f37.name, by decide, Try.func37.trans (congrArg some (by kernel_rfl))⟩
  f28 := Try.func38.trans (congrArg some (by kernel_rfl))
  f29 := Try.func39.trans (congrArg some (by kernel_rfl))
  f46 := ⟨Try.f41.name, by decide, Try.func41.trans (congrArg some (by kernel_rfl))⟩
  f47 := Try.func42.trans (congrArg some (by kernel_rfl))
  f48 := Try.func43.trans (congrArg some (by kernel_rfl))
  f49 := ⟨Try.f44.name, by decide, Try.func44.trans (congrArg some (by kernel_rfl))⟩
  f50 := ⟨Try.f45.name, by decide, Try.func45.trans (congrArg some (by kernel_rfl))⟩
  f57 := ⟨Try.f46.name, by decide, Try.func46.trans (congrArg some (by kernel_rfl))⟩
  t0 := Try.underlying0
  a0 := Try.isAgg0
  z0 := Try.sizeOf0
  v0 := Try.zeroValue0
  t3 := Try.underlying3
  a3 := Try.isAgg3
  z3 := Try.sizeOf3
  v3 := Try.zeroValue3
  t4 := Try.underlying4
  a4 := Try.isAgg4
  z4 := Try.sizeOf4
  v4 := Try.zeroValue4
  t5 := Try.underlying5
  a5 := Try.isAgg5
  z5 := Try.sizeOf5
  v5 := Try.zeroValue5
  t9 := Try.underlying9
  a9 := Try.isAgg9
  z9 := Try.sizeOf9
  v9 := Try.zeroValue9
  t22 := Try.underlying28
  a22 := Try.isAgg28
  z22 := Try.sizeOf28
  v22 := Try.zeroValue28
  t25 := Try.underlying60
  a25 := Try.isAgg60
  z25 := Try.sizeOf60
  v25 := Try.zeroValue60
  t39 := Try.underlying64
  a39 := Try.isAgg64
  z39 := Try.sizeOf64
  v39 := Try.zeroValue64
  t45 := Try.underlying68
  a45 := Try.isAgg68
  z45 := Try.sizeOf68
  v45 := Try.zeroValue68
  t46 := Try.underlying69
  a46 := Try.isAgg69
  z46 := Try.sizeOf69
  v46 := Try.zeroValue69
  t50 := Try.underlying73
  a50 := Try.isAgg73
  z50 := Try.sizeOf73
  v50 := Try.zeroValue73
  t53 := Try.underlying76
  a53 := Try.isAgg76
  z53 := Try.sizeOf76
  v53 := Try.zeroValue76
  t55 := Try.underlying78
  a55 := Try.isAgg78
  z55 := Try.sizeOf78
  v55 := Try.zeroValue78
  t66 := Try.underlying80
  a66 := Try.isAgg80
  z66 := Try.sizeOf80
  v66 := Try.zeroValue80
  t70 := Try.underlying84
  a70 := Try.isAgg84
  z70 := Try.sizeOf84
  v70 := Try.zeroValue84
  t76 := Try.underlying86
  a76 := Try.isAgg86
  z76 := Try.sizeOf86
  v76 := Try.zeroValue86
  t77 := Try.underlying87
  a77 := Try.isAgg87
  z77 := Try.sizeOf87
  v77 := Try.zeroValue87 }
end Go.Proofs

/- Contract: slices.SortFunc of what was found. -/
namespace Go.Proofs.Ytpoijjfbgfiboaa
open Go Go.Shelf Go.RowKit Go.Lib Go.Sort
theorem world_grow {W w' : World} (hh : ∀ (i : Nat) (o : Obj), W.heap[i]? = some o → w'.heap[i]? = some o) (hs : W.heap.size ≤ w'.heap.size) (ho : World.outer w' = World.outer W) (hd : W.drawn ≤ w'.drawn) : ∃ q os', w' = grow (W.drewN q) os' := by
  refine ⟨w'.drawn - W.drawn, w'.heap.extract W.heap.size w'.heap.size, ?_⟩
  obtain ⟨heap, tape, drawn, os, output⟩ := w'
  have h1 : os = W.os := congrArg Prod.fst ho
  have h2 : tape = W.tape := congrArg (fun x => x.2.1) ho
  have h3 : output = W.output := congrArg (fun x => x.2.2) ho
  subst h1 h2 h3
  have hd' : W.drawn ≤ drawn := hd
  have hs' : W.heap.size ≤ heap.size := hs
  have e1 : heap = W.heap ++ heap.extract W.heap.size heap.size := by
    apply Array.ext_getElem?
    intro i
    rw [Array.getElem?_append]
    by_cases hi : i < W.heap.size
    · rw [if_pos hi, Array.getElem?_eq_getElem hi]
      exact hh i _ (Array.getElem?_eq_getElem hi)
    · rw [if_neg hi, Array.getElem?_extract]
      by_cases hj : i < heap.size
      · rw [if_pos (by omega)]
        congr 1
        omega
      · rw [if_neg (by omega), Array.getElem?_eq_none (by omega)]
  have e2 : drawn = W.drawn + (drawn - W.drawn) := by omega
  show (⟨heap, W.tape, drawn, W.os, W.output⟩ : World) = ⟨W.heap ++ heap.extract W.heap.size heap.size, W.tape, W.drawn + (drawn - W.drawn), W.os, W.output⟩
  rw [← e1, ← e2]
theorem order_lays (blk off size : Nat) (w : World) : CmpLays Try.prog 24 #[] celP 4 ordP blk off size w := by
  intro m os dk _ x y
  rw [Array.append_empty]
  have h := (order_ok x y (V := View.all (sortWorldK celP 4 w blk off m dk os))).2 _ (View.all_in _)
  refine Calls.mono h ?_
  rintro e w' ⟨r, V', he, hi, hf, rfl, hle⟩
  exact ⟨he, world_grow (fun i o ho => hi.see i o (hle.see i o ho)) hf.size (hi.out.trans hle.out) hf.drawn⟩
theorem ordP_lt (p q : P2 × P2) : ltOf ordP p q = decide (p.2.1 < q.2.1 ∨ (p.2.1 = q.2.1 ∧ p.2.2 < q.2.2)) := by
  unfold ltOf ordP cmpI
  rw [Bool.eq_iff_iff]
  simp only [decide_eq_true_eq]
  split <;> split <;> (try split) <;> (try split) <;> omega
theorem ordP_swo : SWO (ltOf ordP) where
  irrefl x := by rw [ordP_lt]; simp
  trans x y z h1 h2 := by rw [ordP_lt] at *; simp at *; omega
  ntrans x y z h1 h2 := by rw [ordP_lt] at *; simp at *; omega
/-- The cells of what was found. -/
def fl (l : PL) : List Value := l.flatMap celP
theorem fl_len (l : PL) : (fl l).length = l.length * 4 := by
  induction l with
  | nil => rfl
  | cons p l ih =>
    show (celP p ++ fl l).length = _
    rw [List.length_append, ih]
    simp [celP]; omega
theorem fl_get : ∀ (l : PL) (t : Nat), t < l.length * 4 → (fl l)[t]? = some ((celP l[t / 4]!)[t % 4]!)
  | [], t, h => by simp at h
  | p :: l, t, h => by
    show (celP p ++ fl l)[t]? = _
    by_cases ht : t < 4
    · rw [List.getElem?_append_left (by simpa [celP] using ht), show t / 4 = 0 by omega, show t % 4 = t by omega]
      rcases (by omega : t = 0 ∨ t = 1 ∨ t = 2 ∨ t = 3) with rfl | rfl | rfl | rfl <;> rfl
    · rw [List.getElem?_append_right (by simp [celP]; omega)]
      show (fl l)[t - 4]? = _
      rw [fl_get l (t - 4) (by simp at h; omega), show t / 4 = (t - 4) / 4 + 1 by omega, show t % 4 = (t - 4) % 4 by omega]
      rfl
theorem flatK_fl (l : PL) : flatK celP 4 l.toArray = (fl l).toArray := by
  apply Array.ext_getElem?
  intro t
  refine Eq.trans ?_ (List.getElem?_toArray (xs := fl l) (i := t)).symm
  by_cases h : t < l.length * 4
  · have hs : t < (flatK celP 4 l.toArray).size := by rw [size_flatK]; simpa using h
    have := get_flatK celP 4 l.toArray t (by simpa using h)
    rw [getElem!_pos _ t hs] at this
    refine (Array.getElem?_eq_getElem hs).trans ?_
    rw [fl_get l t h, this]
    simp
  · refine (Array.getElem?_eq_none (by rw [size_flatK]; simpa using h)).trans ?_
    rw [List.getElem?_eq_none (by rw [fl_len]; omega)]
end Go.Proofs.Ytpoijjfbgfiboaa

/- Contract: slices.SortFunc of what was found, over views. -/
namespace Go.Proofs.Ytpoijjfbgfiboaa
open Go Go.Shelf Go.RowKit Go.Lib Go.Sort
theorem sort_enters : Enters Try.prog 23 := enters_of Try.func23 (by kernel_rfl) rfl
theorem getA (L : List Value) (i : Nat) : (⟨L⟩ : Array Value)[i]? = L[i]? := List.getElem?_toArray
/-- The row in a world behind the sort. -/
theorem putRow_heap {w : World} {r : Nat} {all : List Value} {e : TypeId} {F : List Value} (hr : w.heap[r]? = some (.cells ⟨all⟩ e (0, 0))) (hF : F.length ≤ all.length) (i : Nat) :
    (putRow id w r 0 F.toArray).heap[i]? = if i = r then some (.cells ⟨F ++ all.drop F.length⟩ e (0, 0)) else w.heap[i]? := by
  show (w.heap.modify r (onCells (putCells id 0 F.toArray)))[i]? = _
  rw [Array.getElem?_modify]
  by_cases h : r = i
  · subst h
    rw [if_pos rfl, if_pos rfl, hr]
    show some (Obj.cells (putCells id 0 F.toArray ⟨all⟩) e (0, 0)) = _
    congr 2
    apply Array.ext_getElem?
    intro j
    unfold putCells
    rw [Array.getElem?_mapIdx, getA, getA]
    by_cases hj : j < F.length
    · rw [List.getElem?_append_left hj, List.getElem?_eq_getElem (by omega), Option.map_some, if_pos ⟨Nat.zero_le _, by simpa using hj⟩, List.getElem?_eq_getElem hj]
      simp [hj]
    · rw [List.getElem?_append_right (by omega), List.getElem?_drop, show F.length + (j - F.length) = j by omega]
      cases all[j]? with
      | none => rfl
      | some v => rw [Option.map_some, if_neg (by simp; omega)]
  · rw [if_neg h, if_neg (fun e => h e.symm)]
theorem sort_ok {V : View} {x : Sl} {l : PL} (h : Buf V x 34 4 (fl l)) : CallV Try.prog 23 ⟨[.slice x.a x.n x.c, .func (.func 24) ⟨[]⟩ ⟨[]⟩]⟩ V fun r V' =>
    r = .tuple ⟨[]⟩ ∧ ∃ m : PL, m.Perm l ∧ m.Pairwise (fun p q => ltOf ordP q p = false) ∧ Buf V' x 34 4 (fl m) ∧ (V.minus x).Le (V'.minus x) := by
  refine ⟨sort_enters, fun w hw => ?_⟩
  have hn : x.n = l.length := by have := h.len; rw [fl_len] at this; omega
  rcases h.own with ⟨ha, hc⟩ | ⟨r, all, ha, hs, hl, ht⟩
  · have h0 : x.n = 0 := by have := h.le; omega
    have hl0 : l = [] := List.length_eq_zero_iff.1 (by omega)
    rw [h0]
    refine Calls.mono (AnyF.slices_SortFunc_none Try.sortF x.a x.c _ w) ?_
    rintro e w' ⟨rfl, rfl⟩
    exact ⟨_, V, rfl, hw, Fr.refl _ _, rfl, l, .refl _, by rw [hl0]; exact .nil, h, View.Le.refl _⟩
  · have hr := hw.see r _ hs
    have hlt : r < w.heap.size := (Array.getElem?_eq_some_iff.1 hr).1
    have hfl : (fl l).length = x.n * 4 := h.len
    have hH : HoldsK celP 4 w r 0 l.toArray := by
      unfold HoldsK
      rw [flatK_fl]
      intro j hj
      have hj : j < (fl l).length := by simpa using hj
      refine ⟨?_, ?_⟩
      · unfold World.cell?
        show (match w.heap[r]? with
          | some (.cells c _ _) => if (none : Option _).isSome then none else c[0 + j]?
          | _ => none) = _
        rw [hr]
        show (⟨all⟩ : Array Value)[0 + j]? = _
        rw [getA, Nat.zero_add]
        have : (fl l)[j]? = all[j]? := by rw [← ht, List.getElem?_take, if_pos (by omega)]
        rw [← this, List.getElem?_eq_getElem hj]
        simp [hj]
      · unfold World.frozen?
        show (match w.heap[r]? with
          | some (.cells _ _ (lo, hi)) => decide (lo ≤ 0 + j) && decide (0 + j < hi)
          | _ => false) = _
        rw [hr]; simp
    rw [ha, hn]
    have hsz : l.toArray.size < 4611686018427387904 := by have := h.lim; simp; omega
    have eg : ∀ args w, (callFunc 24 args).run Try.prog w = .ok (.enter 24 args) w := (order_ok ((0, 0), (0, 0)) ((0, 0), (0, 0)) (V := V)).1
    have hcon := AnyQ.slices_SortFunc Try.sortF 4 Try.isAgg34 Try.sizeOf34 celP (fun _ => rfl) (fun y v hv => by simp [celP] at hv; rcases hv with rfl | rfl | rfl | rfl <;> rfl) ordP ordP_swo 24 #[] r 0 x.c l.toArray w eg (order_lays r 0 _ w) hH hlt hsz
    refine Calls.mono hcon ?_
    rintro e w' ⟨rfl, d', n, os, hp, hso, rfl⟩
    obtain ⟨m, rfl⟩ : ∃ m : PL, d' = m.toArray := ⟨d'.toList, by simp⟩
    have hml : m.length = l.length := by simpa using hp.1
    have hpm : m.Perm l := by
      have h7 : (List.take l.length m).Perm l := by simpa using hp.2.2
      rwa [List.take_of_length_le (by omega)] at h7
    have hso2 : m.Pairwise (fun p q => ltOf ordP q p = false) := by
      rw [List.pairwise_iff_getElem]
      intro i j hi hj hij
      have := hso i j (Nat.zero_le _) hij (by simpa using (by omega : j < l.length))
      rw [getElem!_pos _ i (by simpa using hi), getElem!_pos _ j (by simpa using hj)] at this
      simpa using this
    have hfm : (fl m).length = x.n * 4 := by rw [fl_len, hml, hn]
    have hal : (fl m).length ≤ all.length := by rw [hfm, hl]; have := h.le; omega
    have hheap : ∀ i, i < w.heap.size → (sortWorldK celP 4 w r 0 n m.toArray os).heap[i]? = if i = r then some (.cells ⟨fl m ++ all.drop (fl m).length⟩ 34 (0, 0)) else w.heap[i]? := by
      intro i hi
      have h8 := putRow_heap (w := Sort.ahead w n) hr hal i
      unfold sortWorldK putRowK
      rw [flatK_fl]
      refine Eq.trans ?_ h8
      show ((putRow id (Sort.ahead w n) r 0 (fl m).toArray).heap ++ os)[i]? = _
      rw [Array.getElem?_append, if_pos (by rw [size_putRow]; exact hi)]
    have hsize : w.heap.size ≤ (sortWorldK celP 4 w r 0 n m.toArray os).heap.size := size_sortWorldK_c celP 4 w r 0 n m.toArray os
    refine ⟨_, V.put r (.cells ⟨fl m ++ all.drop (fl m).length⟩ 34 (0, 0)), rfl, ⟨?_, ?_, ?_⟩, ⟨hsize, ?_, Nat.le_add_right _ _⟩, rfl, m, hpm, hso2, ?_, ?_⟩
    · have := hw.size
      show max V.size (r + 1) ≤ _
      omega
    · intro i o ho
      by_cases hi : i = r
      · subst hi
        rw [View.see_put_same] at ho
        rw [hheap i hlt, if_pos rfl]; exact ho
      · rw [View.see_put_ne _ _ hi] at ho
        have h9 := hw.see i o ho
        rw [hheap i (Array.getElem?_eq_some_iff.1 h9).1, if_neg hi]; exact h9
    · exact hw.out
    · intro i hi hne
      have hir : i ≠ r := by rintro rfl; rw [hs] at hne; cases hne
      exact ⟨by rw [View.see_put_ne _ _ hir]; exact hne, by rw [hheap i hi, if_neg hir]⟩
    · refine ⟨hfm, h.le, h.lim, .inr ⟨r, fl m ++ all.drop (fl m).length, ha, View.see_put_same _ _ _, ?_, ?_⟩⟩
      · rw [List.length_append, List.length_drop]; omega
      · rw [← hfm, List.take_left]
    · unfold View.minus
      rw [ha]
      exact ⟨Nat.le_max_left _ _, fun i o ho => by
        by_cases hi : i = r
        · subst hi; simp [View.hide] at ho
        · simp only [View.hide, if_neg hi] at ho ⊢
          rw [View.see_put_ne _ _ hi]; exact ho, rfl⟩
end Go.Proofs.Ytpoijjfbgfiboaa

/- Contract: all that stands anywhere. -/
namespace Go.Proofs.Ytpoijjfbgfiboaa
open Go Go.Shelf Go.RowKit Go.Lib Go.Sort
theorem nodup_len {α : Type} [DecidableEq α] {m l : List α} (h1 : m.Nodup) (h2 : l.Nodup) (h : ∀ a ∈ m, a ∈ l) : m.length ≤ l.length := by
  have hp : m.Perm (l.filter fun a => decide (a ∈ m)) := (List.perm_ext_iff_of_nodup h1 (h2.sublist List.filter_sublist)).2 fun a => by
    rw [List.mem_filter, decide_eq_true_eq]
    exact ⟨fun ha => ⟨h a ha, ha⟩, fun ha => ha.2⟩
  rw [hp.length_eq]
  exact List.length_filter_le _ _
/-- What was told so far of a walk over a map. -/
structure Told (es : Array MapEntry) (xs : Array Nat) (m : PL) : Prop where
  nd : m.Nodup
  iff : ∀ p, p ∈ m ↔ ∃ e ∈ es, xs.contains e.born = true ∧ e.key = encP p.2 ∧ e.val = encP p.1
theorem Told.nil (es : Array MapEntry) : Told es #[] [] := ⟨List.nodup_nil, fun p => by simp⟩
theorem MapC.ent {es : Array MapEntry} {cl : Nat} {lb : PL} (h : MapC es cl lb) {e : MapEntry} (he : e ∈ es) : ∃ p ∈ lb, e.key = encP p.1 ∧ e.val = encP p.2 := by
  obtain ⟨i, hi, rfl⟩ := List.mem_iff_getElem.1 (Array.mem_toList_iff.2 he)
  have hl := h.size
  have hi' : i < lb.length := by simp at hi; omega
  obtain ⟨e', h1, h2, h3⟩ := h.at hi'
  rw [List.getElem?_eq_getElem hi] at h1
  cases h1
  exact ⟨_, List.getElem_mem hi', h2, h3⟩
theorem MapC.ofMem {es : Array MapEntry} {cl : Nat} {lb : PL} (h : MapC es cl lb) {p : P2 × P2} (hp : p ∈ lb) : ∃ e ∈ es, e.key = encP p.1 ∧ e.val = encP p.2 := by
  obtain ⟨i, hi, rfl⟩ := List.mem_iff_getElem.1 hp
  obtain ⟨e, h1, h2, h3⟩ := h.at hi
  exact ⟨e, Array.mem_toList_iff.1 (List.mem_of_getElem? h1), h2, h3⟩
/-- Entries with one key are one. -/
theorem MapC.one {es : Array MapEntry} {cl : Nat} {lb : PL} (h : MapC es cl lb) {e e' : MapEntry} (he : e ∈ es) (he' : e' ∈ es) (hk : e.key = e'.key) : e = e' := by
  obtain ⟨i, hi, rfl⟩ := List.mem_iff_getElem.1 (Array.mem_toList_iff.2 he)
  obtain ⟨j, hj, rfl⟩ := List.mem_iff_getElem.1 (Array.mem_toList_iff.2 he')
  have hl := h.size
  have hi' : i < lb.length := by simp at hi; omega
  have hj' : j < lb.length := by simp at hj; omega
  obtain ⟨e1, h1, h2, h3⟩ := h.at hi'
  obtain ⟨e2, k1, k2, k3⟩ := h.at hj'
  rw [List.getElem?_eq_getElem hi] at h1
  rw [List.getElem?_eq_getElem hj] at k1
  cases h1; cases k1
  rw [h2, k2] at hk
  have hk := encP_inj hk
  have hp := List.pairwise_iff_getElem.1 h.keys
  have : i = j := by
    rcases Nat.lt_trichotomy i j with h9 | h9 | h9
    · exact absurd ((List.getElem_map _).trans (hk.trans (List.getElem_map _).symm)) (hp i j (by simpa using hi') (by simpa using hj') h9)
    · exact h9
    · exact absurd ((List.getElem_map _).trans (hk.symm.trans (List.getElem_map _).symm)) (hp j i (by simpa using hj') (by simpa using hi') h9)
  subst this; rfl
theorem MapC.stamp {es : Array MapEntry} {cl : Nat} {lb : PL} (h : MapC es cl lb) {e e' : MapEntry} (he : e ∈ es) (he' : e' ∈ es) (hk : e.born = e'.born) : e = e' := by
  obtain ⟨i, hi, rfl⟩ := List.mem_iff_getElem.1 (Array.mem_toList_iff.2 he)
  obtain ⟨j, hj, rfl⟩ := List.mem_iff_getElem.1 (Array.mem_toList_iff.2 he')
  have hp := List.pairwise_iff_getElem.1 h.born
  have : i = j := by
    rcases Nat.lt_trichotomy i j with h9 | h9 | h9
    · exact absurd ((List.getElem_map _).trans (hk.trans (List.getElem_map _).symm)) (hp i j (by simpa using hi) (by simpa using hj) h9)
    · exact h9
    · exact absurd ((List.getElem_map _).trans (hk.symm.trans (List.getElem_map _).symm)) (hp j i (by simpa using hj) (by simpa using hi) h9)
  subst this; rfl
theorem Told.add {es : Array MapEntry} {cl : Nat} {lb : PL} (h : MapC es cl lb) {xs : Array Nat} {m : PL} (t : Told es xs m) {e : MapEntry} (he : e ∈ es) (hx : xs.contains e.born = false) {p : P2 × P2} (hk : e.key = encP p.2) (hv : e.val = encP p.1) :
    p ∉ m ∧ Told es (xs.push e.born) (m ++ [p]) := by
  have hn : p ∉ m := by
    intro hm
    obtain ⟨e', he', hx', hk', _⟩ := (t.iff p).1 hm
    have := h.one he he' (hk.trans hk'.symm)
    subst this
    rw [hx] at hx'; cases hx'
  refine ⟨hn, ⟨?_, fun q => ?_⟩⟩
  · rw [List.nodup_append]
    exact ⟨t.nd, by simp, fun a ha b hb => by simp at hb; subst hb; rintro rfl; exact hn ha⟩
  · rw [List.mem_append, List.mem_singleton, t.iff q]
    constructor
    · rintro (⟨e', h1, h2, h3⟩ | rfl)
      · exact ⟨e', h1, by simp at h2 ⊢; exact .inl h2, h3⟩
      · exact ⟨e, he, by simp, hk, hv⟩
    · rintro ⟨e', h1, h2, h3, h4⟩
      simp only [Array.contains_push, Bool.or_eq_true, beq_iff_eq] at h2
      rcases h2 with h2 | h2
      · exact .inl ⟨e', h1, h2, h3, h4⟩
      · have := h.stamp h1 he (by rw [h2])
        subst this
        right
        rw [hk] at h3; rw [hv] at h4
        exact Prod.ext (encP_inj h4.symm) (encP_inj h3.symm)
theorem Told.all {es : Array MapEntry} {cl : Nat} {lb l : PL} (h : MapC es cl lb) (hp : lb.Perm (swapL l)) (hu : Uni l) {xs : Array Nat} {m : PL} (t : Told es xs m) (ha : ∀ e ∈ es, xs.contains e.born = true) : m.Perm l := by
  have hl : l.Nodup := by
    have := hu.a
    exact List.Pairwise.of_map _ (fun a b hab => by rintro rfl; exact hab rfl) this
  refine (List.perm_ext_iff_of_nodup t.nd hl).2 fun p => ?_
  rw [t.iff p]
  constructor
  · rintro ⟨e, h1, _, h2, h3⟩
    obtain ⟨q, hq, h4, h5⟩ := h.ent h1
    have e1 : q = (p.2, p.1) := Prod.ext (encP_inj (h4.symm.trans h2)) (encP_inj (h5.symm.trans h3))
    rw [e1] at hq
    exact swapL_mem.1 (hp.mem_iff.1 hq)
  · intro hm
    obtain ⟨e, h1, h2, h3⟩ := h.ofMem (hp.mem_iff.2 (swapL_mem.2 (show (p.1, p.2) ∈ l from hm)))
    exact ⟨e, h1, ha e h1, h2, h3⟩
theorem Told.len {es : Array MapEntry} {cl : Nat} {lb l : PL} (h : MapC es cl lb) (hp : lb.Perm (swapL l)) (hu : Uni l) {xs : Array Nat} {m : PL} (t : Told es xs m) : m.length ≤ l.length := by
  have hl : l.Nodup := List.Pairwise.of_map _ (fun a b hab => by rintro rfl; exact hab rfl) hu.a
  refine nodup_len t.nd hl fun p hm => ?_
  obtain ⟨e, h1, _, h2, h3⟩ := (t.iff p).1 hm
  obtain ⟨q, hq, h4, h5⟩ := h.ent h1
  have e1 : q = (p.2, p.1) := Prod.ext (encP_inj (h4.symm.trans h2)) (encP_inj (h5.symm.trans h3))
  rw [e1] at hq
  exact swapL_mem.1 (hp.mem_iff.1 hq)
theorem fl_snoc (m : PL) (p : P2 × P2) : fl (m ++ [p]) = fl m ++ celP p := by
  unfold fl; rw [List.flatMap_append]; simp
theorem all_ok {V : View} {t ra rb : Nat} {l : PL} (h : Tab V t ra rb l) (hn : l.length ≤ 1000000) : CallV Try.prog 18 ⟨[.pointer (some ⟨t, 0, none⟩)]⟩ V fun r V' =>
    ∃ (s : Sl) (m : PL), r = .slice s.a s.n s.c ∧ m.Perm l ∧ m.Pairwise (fun p q => ltOf ordP q p = false) ∧ Buf V' s 34 4 (fl m) ∧ V.Le (V'.minus s) := by
  refine f18_x ?_
  unfold f18_n
  obtain ⟨es, cl, lb, h1, h2, h3⟩ := h.mb.ex
  refine ⟨_, rfl, some rb, by rw [addr0_add]; exact h.cb, es, cl, h1, fun it hit => ?_⟩
  have hfr : V.see it = none := View.see_none_of_ge hit
  have hlb : lb.length ≤ 1000000 := by rw [h3.length_eq]; unfold swapL; rw [List.length_map]; exact hn
  refine loopP_inv (ks := [K.sl]) (fun s V' => ∃ xs m, V'.see it = some (.mapIter (some rb) cl xs cl) ∧ Told es xs m ∧ Buf (V'.hide it) s.1 34 4 (fl m) ∧ V.Le ((V'.hide it).minus s.1))
    (fun s _ => l.length - s.1.n) ⟨#[], [], View.see_put_same _ _ _, Told.nil es, Buf.nil _ _ _, ?_⟩ ?_
  · exact put_le_hide hfr (View.Le.refl _)
  rintro ⟨x, _⟩ V' ⟨xs, m, g1, g2, g3, g4⟩
  have hle : V.Le V' := g4.trans ((View.minus_le _ _).trans (View.hide_le _ _))
  have hbs : V'.see rb = some (.map es cl) := hle.see _ _ h1
  have hxn : x.n = m.length := by have : _ = x.n * 4 := g3.len; rw [fl_len] at this; omega
  have hml := g2.len h2 h3 h.uni
  refine .inr ⟨rb, cl, xs, cl, es, cl, g1, hbs, .inl ?_, fun e he hx => ?_, fun hE => ?_⟩
  · rw [Array.all_eq_true']
    intro e he
    simpa using h2.lt e (Array.mem_toList_iff.2 he)
  · obtain ⟨q, hq, hk, hv⟩ := h2.ent he
    obtain ⟨a1, a2⟩ := g2.add h2 he hx (p := (q.2, q.1)) hk hv
    have hml2 := a2.len h2 h3 h.uni
    rw [List.length_append] at hml2
    have hml2 : m.length + 1 ≤ l.length := hml2
    have hfind : es.find? (fun e' => e'.born == e.born) = some e := by
      cases hf : es.find? (fun e' => e'.born == e.born) with
      | none =>
        rw [Array.find?_eq_none] at hf
        exact absurd (beq_self_eq_true _) (hf e he)
      | some e' =>
        have hb : e'.born = e.born := by simpa using Array.find?_some hf
        rw [h2.stamp (Array.mem_of_find?_eq_some hf) he hb]
    have hne : rb ≠ it := by rintro rfl; rw [h1] at hfr; cases hfr
    refine ⟨rb, cl, xs.push e.born, cl, es, e.born, e, View.see_put_same _ _ _, by rw [View.see_put_ne _ _ hne]; exact hbs, by simp, hfind, q.1.1, q.1.2, q.2.1, q.2.2, hk, hv, fun _ _ r hr => ?_⟩
    have hl1 : (V'.hide it).Le (((V'.put it (.mapIter (some rb) cl (xs.push e.born) cl)).put r (.cells ⟨putL [.int .i64 0, .int .i64 0, .int .i64 0, .int .i64 0] 0 [.int .i64 q.2.1, .int .i64 q.2.2, .int .i64 q.1.1, .int .i64 q.1.2]⟩ 34)).hide it) :=
      (hide_le_put_hide it _).trans (hide_mono (View.put_le (View.see_none_of_ge hr)) it)
    have hri : it ≠ r := by
      rintro rfl
      have : it < (V'.put it (.mapIter (some rb) cl (xs.push e.born) cl)).size := Nat.lt_of_lt_of_le (Nat.lt_succ_self _) (Nat.le_max_right _ _)
      omega
    refine apV_beside (V0 := V) (p := it) (cs := fl m) (src := celP (q.2, q.1)) (m := 1) rfl (by rw [View.see_put_ne _ _ hri]; exact View.see_put_same _ _ _) (g3.mono hl1) (g4.trans (minus_mono hl1 x))
      ⟨rfl, rowAt_new (View.see_put_same _ _ _) rfl⟩ rfl rfl (by show (x.n + 1) * 32 ≤ _; omega) (by show x.n + 1 ≤ _; omega) fun s W hs hb hW hsn => ?_
    refine ⟨⟨xs.push e.born, m ++ [(q.2, q.1)], hs, a2, by rw [fl_snoc]; exact hb, hW⟩, ?_⟩
    have hsn : s.n = x.n + 1 := hsn
    show l.length - s.n < l.length - x.n
    omega
  · have hp := Told.all h2 h3 h.uni g2 fun e he => hE e he (h2.lt e (Array.mem_toList_iff.2 he))
    refine (sort_ok (g3.mono (View.hide_le _ _))).mono ?_
    rintro r W ⟨rfl, m', hm', hs', hb', hle'⟩
    exact ⟨rfl, x, m', rfl, hm'.trans hp, hs', hb', (g4.trans (minus_mono (View.hide_le _ _) x)).trans hle'⟩
end Go.Proofs.Ytpoijjfbgfiboaa

/- Contracts: rows of what was found: looked through, thinned. -/
namespace Go.Proofs.Ytpoijjfbgfiboaa
open Go Go.Shelf Go.RowKit Go.Lib Go.Sort
instance : Rep (P2 × P2) where
  sz := 4
  pos := by decide
  rep _ vs p := vs = celP p
  len h := by rw [h]; rfl
  one h := by rw [h]; rfl
  mono _ h := h
theorem repL_fl (W : View) : ∀ l : PL, repL W (fl l) l
  | [] => rfl
  | p :: l => ⟨celP p, fl l, rfl, rfl, repL_fl W l⟩
theorem SlR.fnd {V : View} {s : Sl} {l : PL} (h : SlR V s l) {x : Int} (h0 : 0 ≤ x) (hx : x < s.n) : ∃ ad, ∃ hl : x.toNat < l.length, s.a = some ad ∧ cellsAt V (ad.add (x.toNat * 4)) (celP l[x.toNat]) := by
  have hl : x.toNat < l.length := by have := h.n; omega
  obtain ⟨ad, vs, h1, h2, h3⟩ := h.get x.toNat hl
  have h3 : vs = celP l[x.toNat] := h3
  subst h3
  exact ⟨ad, hl, h1, h2⟩
theorem in1_ok {V : View} {b : Nat} {k : Int} (hb : V.cell? ⟨b, 0, none⟩ = some (.int .i64 k)) (p : P2 × P2) : CallV Try.prog 22 ⟨[encF p, .pointer (some ⟨b, 0, none⟩)]⟩ V fun r V' => r = .bool (!decide (p.2.1 = k)) ∧ V' = V := by
  refine f22_x ?_
  unfold f22_n
  intro _
  exact ⟨k, hb, rfl, rfl⟩
theorem index_ok {V : View} {s : Sl} {l : PL} (h : SlR V s l) {b : Nat} {k : Int} (hb : V.cell? ⟨b, 0, none⟩ = some (.int .i64 k)) :
    CallV Try.prog 25 ⟨[.slice s.a s.n s.c, .func (.func 22) ⟨[]⟩ ⟨[.pointer (some ⟨b, 0, none⟩)]⟩]⟩ V fun r V' =>
    (∃ i : Int, r = .int .i64 i ∧ ((i = -1 ∧ ∀ p ∈ l, p.2.1 = k) ∨ (0 ≤ i ∧ i < l.length ∧ (∀ p ∈ l.take i.toNat, p.2.1 = k) ∧ ∀ h : i.toNat < l.length, l[i.toNat].2.1 ≠ k))) ∧ V' = V := by
  refine f25_x ?_
  unfold f25_n
  have hn := h.n; have hlim := h.lim
  refine loop1 (k := .int .i64) (fun (x : Int) V' => V' = V ∧ 0 ≤ x ∧ x ≤ s.n ∧ ∀ p ∈ l.take x.toNat, p.2.1 = k) (fun (x : Int) _ => s.n - x.toNat) ⟨rfl, by omega, by omega, by simp⟩ ?_
  rintro (x : Int) V' ⟨rfl, h0, h1, h2⟩
  refine br_intro (fun hlt => ?_) (fun hge => ?_)
  · have hlt : x < s.n := by simpa using hlt
    obtain ⟨ad, hx, ha, hc⟩ := h.fnd h0 hlt
    refine ⟨h0, hlt, ad, ha, _, _, _, _, hc, (in1_ok hb l[x.toNat]).mono ?_⟩
    rintro r V' ⟨rfl, rfl⟩
    refine ⟨_, rfl, br_intro (fun hq => ⟨⟨x, rfl, .inr ⟨h0, by omega, h2, fun _ => by simpa using hq⟩⟩, rfl⟩) (fun hq => ⟨inI64 (by omega) (by omega), ⟨rfl, by omega, by omega, ?_⟩, by omega⟩)⟩
    have hq : l[x.toNat].2.1 = k := by simpa using hq
    rw [show (x + 1).toNat = x.toNat + 1 by omega, List.take_add_one, List.getElem?_eq_getElem hx]
    intro p hp
    rcases List.mem_append.1 hp with hp | hp
    · exact h2 p hp
    · simp at hp; rw [hp]; exact hq
  · have hge : ¬ x < s.n := by simpa using hge
    rw [List.take_of_length_le (by omega)] at h2
    exact ⟨⟨-1, rfl, .inl ⟨rfl, h2⟩⟩, rfl⟩
end Go.Proofs.Ytpoijjfbgfiboaa

/- Contracts: what stands in a block. -/
namespace Go.Proofs.Ytpoijjfbgfiboaa
open Go Go.Shelf Go.RowKit Go.Lib Go.Sort
def inB (k : Int) (l : PL) : PL := l.filter fun p => decide (p.2.1 = k)
theorem inB_all {k : Int} {l : PL} (h : ∀ p ∈ l, p.2.1 = k) : inB k l = l := by
  unfold inB; rw [List.filter_eq_self]
  intro p hp; exact decide_eq_true (h p hp)
theorem putL_fl {m : PL} {i : Nat} {p : P2 × P2} (hi : i < m.length) : putL (fl m) (i * 4) (celP p) = fl (m.set i p) := by
  have h := repL.set (α := P2 × P2) (W := View.nil ⟨0, fun _ => none, default, fun _ _ h => by cases h⟩) (d := p) (ds := celP p) rfl (repL_fl _ m) hi
  have key : ∀ {W : View} (l : PL) (cs : List Value), repL W cs l → cs = fl l := by
    intro W l
    induction l with
    | nil => intro cs h; exact h
    | cons q l ih =>
      rintro cs ⟨vs, us, rfl, h1, h2⟩
      have h1 : vs = celP q := h1
      rw [h1, ih us h2]; rfl
  exact key _ _ h
theorem inB_len (k : Int) (l : PL) : (inB k l).length ≤ l.length := List.length_filter_le _ _
theorem inB_snoc {k : Int} {l : PL} {p : P2 × P2} : inB k (l ++ [p]) = if p.2.1 = k then inB k l ++ [p] else inB k l := by
  unfold inB
  rw [List.filter_append]
  by_cases h : p.2.1 = k
  · rw [if_pos h, List.filter_cons_of_pos (by simpa using h)]; rfl
  · rw [if_neg h, List.filter_cons_of_neg (by simpa using h)]; simp
/-- What lies behind is cleared. -/
theorem zero_one : ∀ k : Nat, (List.replicate k [Value.int .i64 0, .int .i64 0, .int .i64 0, .int .i64 0]).flatten.all Value.oneCell' = true
  | 0 => rfl
  | k + 1 => by rw [List.replicate_succ, List.flatten_cons, List.all_append, zero_one k]; rfl
theorem zero_len : ∀ k : Nat, (List.replicate k [Value.int .i64 0, .int .i64 0, .int .i64 0, .int .i64 0]).flatten.length = k * 4
  | 0 => rfl
  | k + 1 => by rw [List.replicate_succ, List.flatten_cons, List.length_append, zero_len k]; simp; omega
theorem fl_take : ∀ (l : PL) (k : Nat), (fl l).take (k * 4) = fl (l.take k)
  | [], k => by simp [fl]
  | p :: l, 0 => by simp [fl]
  | p :: l, k + 1 => by
    show (celP p ++ fl l).take _ = celP p ++ fl (l.take k)
    rw [List.take_append, List.take_of_length_le (by simp [celP]; omega), show (k + 1) * 4 - (celP p).length = k * 4 by simp [celP]; omega, fl_take l k]
theorem putL_front : ∀ (vs cs : List Value) (off off' : Nat), off ≤ off' → (putL cs off' vs).take off = cs.take off
  | [], _, _, _, _ => rfl
  | v :: vs, cs, off, off', h => by rw [putL, putL_front vs _ off (off' + 1) (by omega), List.take_set_of_le h]
theorem delete_ok {V : View} {x : Sl} {l : PL} (h : Buf V x 34 4 (fl l)) {b : Nat} {k : Int} (hb : (V.minus x).cell? ⟨b, 0, none⟩ = some (.int .i64 k)) :
    CallV Try.prog 21 ⟨[.slice x.a x.n x.c, .func (.func 22) ⟨[]⟩ ⟨[.pointer (some ⟨b, 0, none⟩)]⟩]⟩ V fun r V' =>
    ∃ s : Sl, r = .slice s.a s.n s.c ∧ Buf V' s 34 4 (fl (inB k l)) ∧ (V.minus x).Le (V'.minus s) := by
  refine f21_x ?_
  unfold f21_n
  have hr : ∀ (V' : View) (l' : PL), Buf V' x 34 4 (fl l') → SlR V' x l' := fun V' l' h' => Buf.slR (α := P2 × P2) h' (repL_fl V' l') (View.Le.refl _)
  have hn : x.n = l.length := (hr V l h).n
  have hlim := h.lim
  have hxc := h.le
  refine (index_ok (hr V l h) ((View.minus_le V x).cell hb)).mono ?_
  rintro r V1 ⟨⟨i, rfl, hi⟩, rfl⟩
  refine ⟨i, rfl, br_intro (fun hq => ?_) (fun hq => ?_)⟩
  · have hq : i = -1 := by simpa using hq
    rcases hi with ⟨_, ha⟩ | ⟨h0, _⟩
    · exact ⟨x, rfl, by rw [inB_all ha]; exact h, View.Le.refl _⟩
    · omega
  · have hq : ¬ i = -1 := by simpa using hq
    obtain ⟨h0, h1, h2, h3⟩ : 0 ≤ i ∧ i < l.length ∧ (∀ p ∈ l.take i.toNat, p.2.1 = k) ∧ ∀ h : i.toNat < l.length, l[i.toNat].2.1 ≠ k := by
      rcases hi with ⟨h, _⟩ | h
      · exact absurd h hq
      · exact h
    refine ⟨inI64 (by omega) (by omega), ?_⟩
    refine loop2 (k := .int .i64) (l := .int .i64) (fun (y z : Int) V' => ∃ m : PL, Buf V' x 34 4 (fl m) ∧ (V1.minus x).Le (V'.minus x) ∧ m.length = l.length ∧ 0 ≤ y ∧ y ≤ z ∧ z ≤ x.n ∧ m.take y.toNat = inB k (l.take z.toNat) ∧ m.drop z.toNat = l.drop z.toNat)
      (fun (y z : Int) _ => x.n - z.toNat) ?_ ?_
    · refine ⟨l, h, View.Le.refl _, rfl, h0, by omega, by omega, ?_, rfl⟩
      rw [show (i + 1).toNat = i.toNat + 1 by omega, List.take_add_one, List.getElem?_eq_getElem (by omega)]
      show _ = inB k (_ ++ [_])
      rw [inB_snoc, if_neg (h3 (by omega)), inB_all h2]
    · rintro (y : Int) (z : Int) V' ⟨m, hb', hle', hml, hy0, hyz, hzn, ht, hd⟩
      refine br_intro (fun hlt => ?_) (fun hge => ?_)
      · have hlt : z < x.n := by simpa using hlt
        obtain ⟨ad, hz, ha, hc⟩ := (hr V' m hb').fnd (by omega) hlt
        have hzl : z.toNat < l.length := by omega
        have hmz : m[z.toNat] = l[z.toNat] := by
          have e := congrArg (fun q => q[0]?) hd
          simp only [List.getElem?_drop, Nat.add_zero] at e
          rw [List.getElem?_eq_getElem hz, List.getElem?_eq_getElem hzl] at e
          exact Option.some.inj e
        have hyl : y.toNat < m.length := by omega
        have htk : inB k (l.take (z + 1).toNat) = if l[z.toNat].2.1 = k then inB k (l.take z.toNat) ++ [l[z.toNat]] else inB k (l.take z.toNat) := by
          rw [show (z + 1).toNat = z.toNat + 1 by omega, List.take_add_one, List.getElem?_eq_getElem hzl]
          exact inB_snoc
        have hdr : ∀ m' : PL, m'.drop z.toNat = l.drop z.toNat → m'.drop (z + 1).toNat = l.drop (z + 1).toNat := by
          intro m' e
          have := congrArg (List.drop 1) e
          rwa [List.drop_drop, List.drop_drop, show z.toNat + 1 = (z + 1).toNat by omega] at this
        refine ⟨by omega, hlt, ad, ha, _, _, _, _, hc, fun _ => (in1_ok (V := V') (k := k) (hle'.trans (View.minus_le V' x) |>.cell hb) m[z.toNat]).mono ?_⟩
        rintro r V2 ⟨rfl, rfl⟩
        refine ⟨_, rfl, joinP_cut (fun s V' => s.1 = (if l[z.toNat].2.1 = k then y + 1 else y) ∧ ∃ m : PL, Buf V' x 34 4 (fl m) ∧ (V1.minus x).Le (V'.minus x) ∧ m.length = l.length ∧ m.take s.1.toNat = inB k (l.take (z + 1).toNat) ∧ m.drop (z + 1).toNat = l.drop (z + 1).toNat) (br_intro (fun hq => ?_) (fun hq => ?_)) ?_⟩
        · have hq : l[z.toNat].2.1 = k := by rw [← hmz]; simpa using hq
          obtain ⟨a1, a2, a3⟩ := hb'.set (off := y.toNat * 4) (vs := celP m[z.toNat]) (by simp [celP]; omega) (by simp [celP]) ha
          rw [putL_fl hyl] at a2
          refine ⟨hy0, by omega, ad, ha, a1, inI64 (by omega) (by omega), by rw [if_pos hq], _, a2, hle'.trans a3, by simpa using hml, ?_, ?_⟩
          · rw [htk, if_pos hq, show (y + 1).toNat = y.toNat + 1 by omega, List.take_add_one, List.take_set_of_le (Nat.le_refl _), List.getElem?_set_self hyl, ht, hmz]; rfl
          · rw [List.drop_set_of_lt (by omega)]; exact hdr m hd
        · have hq : ¬ l[z.toNat].2.1 = k := by rw [← hmz]; simpa using hq
          exact ⟨by rw [if_neg hq], m, hb', hle', hml, by rw [htk, if_neg hq, ht], hdr m hd⟩
        · rintro ⟨s, ⟨⟩⟩ V3 ⟨e1, m', g1, g2, g3, g4, g5⟩
          dsimp only [unc] at *
          refine ⟨inI64 (by omega) (by omega), ⟨m', g1, g2, g3, ?_, ?_, by omega, g4, g5⟩, by omega⟩
          · rw [e1]; split <;> omega
          · rw [e1]; split <;> omega
      · have hge : ¬ z < x.n := by simpa using hge
        have hzx : z = x.n := by omega
        have hle4 : y.toNat ≤ m.length := by omega
        rw [hzx, show ((x.n : Int)).toNat = l.length by omega, List.take_length] at ht
        have hyn : y.toNat ≤ x.n := by omega
        have hfin : ∀ V2, Buf V2 x 34 4 (fl m) → Buf V2 ⟨x.a, y.toNat, x.c⟩ 34 4 (fl (inB k l)) := by
          intro V2 h2
          have := h2.cut hyn
          rwa [fl_take, ht] at this
        have hmi : ∀ V2 : View, V2.minus ⟨x.a, y.toNat, x.c⟩ = V2.minus x := fun V2 => rfl
        have hsl : Value.slice (if x.c = 0 then x.a else Option.map (fun q => Addr.add q 0) x.a) (y.toNat - 0) (x.c - 0) = Value.slice x.a y.toNat x.c := by
          rw [map_add_zero]; split <;> rfl
        refine ⟨hy0, by omega, by omega, fun _ => ⟨Int.le_refl _, hy0, by omega, ⟨x.a, y.toNat, x.c⟩, hsl, hfin _ hb', by rw [hmi]; exact hle'⟩, fun hpos => ?_⟩
        have hyx : y.toNat < x.n := by omega
        cases hxa : x.a with
        | none =>
          rcases h.own with ⟨_, h9⟩ | ⟨r, all, h9, _⟩
          · omega
          · rw [hxa] at h9; cases h9
        | some ad =>
          have hc0 : ¬ x.c = y.toNat := by omega
          rw [if_neg hc0]
          obtain ⟨a1, a2, a3⟩ := hb'.set (off := y.toNat * 4) (vs := (List.replicate ((x.n : Int).toNat - y.toNat) [Value.int .i64 0, .int .i64 0, .int .i64 0, .int .i64 0]).flatten) (by rw [zero_len]; omega) (by rw [zero_len]; omega) hxa
          rw [hxa] at hsl
          refine ⟨zero_one _, a1, Int.le_refl _, hy0, by omega, ⟨some ad, y.toNat, x.c⟩, hsl, ?_, ?_⟩
          · have hcut := a2.cut hyn
            rw [putL_front _ _ _ _ (Nat.le_refl _), fl_take, ht, hxa] at hcut
            exact hcut
          · have e2 : ∀ V2 : View, V2.minus ⟨some ad, y.toNat, x.c⟩ = V2.minus x := fun V2 => by unfold View.minus; rw [hxa]
            rw [e2]; exact hle'.trans a3
end Go.Proofs.Ytpoijjfbgfiboaa

/- Contracts: tables beside what else there is; a table that there isn't; what stands in a block. -/
namespace Go.Proofs.Ytpoijjfbgfiboaa
open Go Go.Shelf Go.RowKit Go.Lib Go.Sort
/-- A table of one's own; V0 sees neither of its maps. -/
structure PT (V0 V : View) (t ra rb : Nat) (l : PL) : Prop where
  tab : Tab V t ra rb l
  le : V0.Le (V.off ra rb)
  na : V0.see ra = none
  nb : V0.see rb = none
theorem off_keep {V0 V : View} {ra rb : Nat} (h : V0.Le V) (ha : V0.see ra = none) (hb : V0.see rb = none) : V0.Le (V.off ra rb) :=
  ⟨h.size, fun i o ho => by
    rw [View.off_see (by rintro rfl; rw [ha] at ho; cases ho) (by rintro rfl; rw [hb] at ho; cases ho)]; exact h.see i o ho, h.out⟩
theorem PT.mono {V0 V V' : View} {t ra rb : Nat} {l : PL} (h : PT V0 V t ra rb l) (hV : V.Le V') : PT V0 V' t ra rb l :=
  ⟨h.tab.le hV, off_keep ((h.le.trans (View.off_le _ _ _)).trans hV) h.na h.nb, h.na, h.nb⟩
theorem PT.perm {V0 V : View} {t ra rb : Nat} {l m : PL} (h : PT V0 V t ra rb l) (hp : l.Perm m) : PT V0 V t ra rb m := ⟨h.tab.perm hp, h.le, h.na, h.nb⟩
theorem PT.base {V0 V : View} {t ra rb : Nat} {l : PL} (h : PT V0 V t ra rb l) : V0.Le V := h.le.trans (View.off_le _ _ _)
theorem new_p {V0 V : View} (h : V0.Le V) : CallV Try.prog 9 ⟨[]⟩ V fun r V' => ∃ t ra rb, r = .pointer (some ⟨t, 0, none⟩) ∧ PT V0 V' t ra rb [] ∧ V.Le V' := by
  have hn : ∀ i, V.see i = none → V0.see i = none := fun i hi => by
    cases hs : V0.see i with
    | none => rfl
    | some o => rw [h.see i o hs] at hi; cases hi
  refine new_ok.mono ?_
  rintro r V' ⟨t, ra, rb, rfl, h1, h2, _, h3, h4⟩
  exact ⟨t, ra, rb, rfl, ⟨h1, off_keep (h.trans h2) (hn _ h3) (hn _ h4), hn _ h3, hn _ h4⟩, h2⟩
theorem PT.step {V0 V V' : View} {t ra rb : Nat} {l m : PL} (h : PT V0 V t ra rb l) (hV : (V.off ra rb).Le V') (hT : Tab V' t ra rb m) : PT V0 V' t ra rb m :=
  ⟨hT, off_keep (h.le.trans hV) h.na h.nb, h.na, h.nb⟩
theorem put_p {V0 V : View} {t ra rb : Nat} {l : PL} (h : PT V0 V t ra rb l) (k s : P2) : CallV Try.prog 11 ⟨[.pointer (some ⟨t, 0, none⟩), encP k, encP s]⟩ V fun r V' => r = .bool (canP k s l) ∧ PT V0 V' t ra rb (putT k s l) ∧ (V.off ra rb).Le V' := by
  refine (put_ok h.tab k s).mono ?_
  rintro r V' ⟨rfl, h1, h2⟩
  exact ⟨rfl, h.step h2 h1, h2⟩
theorem cut_p {V0 V : View} {t ra rb : Nat} {l : PL} (h : PT V0 V t ra rb l) (k : P2) : CallV Try.prog 10 ⟨[.pointer (some ⟨t, 0, none⟩), encP k]⟩ V fun r V' => r = .bool (lookP k l).isSome ∧ PT V0 V' t ra rb (delP k l) ∧ (V.off ra rb).Le V' := by
  refine (cut_ok h.tab k).mono ?_
  rintro r V' ⟨rfl, h1, h2⟩
  exact ⟨rfl, h.step h2 h1, h2⟩
def Srt (m : PL) : Prop := m.Pairwise (fun p q => ltOf ordP q p = false)
theorem Srt.filter {m : PL} (h : Srt m) (f : P2 × P2 → Bool) : Srt (m.filter f) := List.Pairwise.sublist List.filter_sublist h
theorem srt_one {m m' : PL} (hu : (m.map Prod.snd).Nodup) (hp : m.Perm m') (h : Srt m) (h' : Srt m') : m = m' := by
  refine List.Perm.eq_of_pairwise (le := fun p q => ltOf ordP q p = false) ?_ h h' hp
  intro a b ha hb h1 h2
  rw [ordP_lt] at h1 h2
  have h1 := of_decide_eq_false h1
  have h2 := of_decide_eq_false h2
  have e : a.2 = b.2 := Prod.ext (by omega) (by omega)
  have hb' := hp.mem_iff.2 hb
  obtain ⟨i, hi, rfl⟩ := List.mem_iff_getElem.1 ha
  obtain ⟨j, hj, rfl⟩ := List.mem_iff_getElem.1 hb'
  have hpw := List.pairwise_iff_getElem.1 hu
  rcases Nat.lt_trichotomy i j with h9 | h9 | h9
  · exact absurd ((List.getElem_map _).trans (e.trans (List.getElem_map _).symm)) (hpw i j (by simpa using hi) (by simpa using hj) h9)
  · subst h9; rfl
  · exact absurd ((List.getElem_map _).trans (e.symm.trans (List.getElem_map _).symm)) (hpw j i (by simpa using hj) (by simpa using hi) h9)
theorem inB_perm {k : Int} {l m : PL} (h : l.Perm m) : (inB k l).Perm (inB k m) := h.filter _
theorem buf_slR {V : View} {x : Sl} {l : PL} (h : Buf V x 34 4 (fl l)) : SlR V x l := Buf.slR (α := P2 × P2) h (repL_fl V l) (View.Le.refl _)
theorem all_p {V0 V : View} {t ra rb : Nat} {l : PL} (h : PT V0 V t ra rb l) (hn : l.length ≤ 1000000) : CallV Try.prog 18 ⟨[.pointer (some ⟨t, 0, none⟩)]⟩ V fun r V' =>
    ∃ (s : Sl) (m : PL), r = .slice s.a s.n s.c ∧ m.Perm l ∧ Srt m ∧ SlR (V'.off ra rb) s m ∧ V.Le V' := by
  refine (all_ok h.tab hn).mono ?_
  rintro r V' ⟨s, m, rfl, h1, h2, h3, h4⟩
  obtain ⟨_, _, _, e1, _⟩ := h.tab.ma.ex
  obtain ⟨_, _, _, e2, _⟩ := h.tab.mb.ex
  have g1 := h3.hide (h4.see _ _ e1)
  have g2 := g1.hide (p := rb) (by rw [hide_minus_see, if_neg h.tab.ab.symm]; exact h4.see _ _ e2)
  exact ⟨s, m, rfl, h1, h2, buf_slR g2, h4.trans (View.minus_le _ _)⟩
theorem PT.rebase {V0 V : View} {t ra rb : Nat} {l : PL} (h : PT V0 V t ra rb l) : PT (V.off ra rb) V t ra rb l :=
  ⟨h.tab, View.Le.refl _, by unfold View.off View.hide; simp, by unfold View.off View.hide; simp⟩
theorem in_ok {V : View} {t ra rb : Nat} {l : PL} (h : Tab V t ra rb l) (hn : l.length ≤ 1000000) (k : Int) : CallV Try.prog 17 ⟨[.pointer (some ⟨t, 0, none⟩), .int .i64 k]⟩ V fun r V' =>
    ∃ (s : Sl) (m : PL), r = .slice s.a s.n s.c ∧ m.Perm l ∧ Srt m ∧ SlR V' s (inB k m) ∧ V.Le V' := by
  refine f17_x ?_
  unfold f17_n
  intro b hb
  have hp := View.put_le (o := .cells ⟨[.int .i64 k]⟩ 3 (0, 0)) hb
  refine (all_ok (h.le hp) hn).mono ?_
  rintro r V1 ⟨x, m, rfl, h1, h2, h3, h4⟩
  have hbc : (V1.minus x).cell? ⟨b, 0, none⟩ = some (.int .i64 k) := h4.cell (cell_of_see (View.see_put_same _ _ _) rfl)
  refine ⟨x, rfl, (delete_ok h3 hbc).mono ?_⟩
  rintro r V2 ⟨s, rfl, g1, g2⟩
  exact ⟨s, rfl, s, m, rfl, h1, h2, buf_slR g1, (hp.trans h4).trans (g2.trans (View.minus_le _ _))⟩
theorem live_ok {V : View} {t ra rb : Nat} {l : PL} (h : Tab V t ra rb l) (hn : l.length ≤ 1000000) (k : Int) : CallV Try.prog 16 ⟨[.pointer (some ⟨t, 0, none⟩), .int .i64 k]⟩ V fun r V' =>
    r = .int .i64 (inB k l).length ∧ V.Le V' := by
  refine f16_x ?_
  unfold f16_n
  refine (in_ok h hn k).mono ?_
  rintro r V1 ⟨s, m, rfl, h1, h2, h3, h4⟩
  exact ⟨s, rfl, by rw [h3.n, (inB_perm h1).length_eq], h4⟩
/-! a table that there isn't -/
theorem all_nil {V : View} : CallV Try.prog 18 ⟨[.pointer none]⟩ V fun r V' => r = .slice none 0 0 ∧ V' = V := by
  refine f18_x ?_
  unfold f18_n
  exact ⟨rfl, rfl⟩
theorem in_nil {V : View} (k : Int) : CallV Try.prog 17 ⟨[.pointer none, .int .i64 k]⟩ V fun r V' => ∃ s : Sl, r = .slice s.a s.n s.c ∧ s.n = 0 ∧ V.Le V' := by
  refine f17_x ?_
  unfold f17_n
  intro b hb
  have hp := View.put_le (o := .cells ⟨[.int .i64 k]⟩ 3 (0, 0)) hb
  refine all_nil.mono ?_
  rintro r V1 ⟨rfl, rfl⟩
  have hbc : (View.minus (V.put b (.cells ⟨[.int .i64 k]⟩ 3 (0, 0))) ⟨none, 0, 0⟩).cell? ⟨b, 0, none⟩ = some (.int .i64 k) := cell_of_see (View.see_put_same _ _ _) rfl
  refine ⟨⟨none, 0, 0⟩, rfl, (delete_ok (x := ⟨none, 0, 0⟩) (l := []) (Buf.nil _ _ _) hbc).mono ?_⟩
  rintro r V2 ⟨s, rfl, g1, g2⟩
  have hn := g1.len
  have h0 : s.n = 0 := by simp [inB, fl] at hn; omega
  exact ⟨s, rfl, s, rfl, h0, hp.trans (g2.trans (View.minus_le _ _))⟩
theorem live_nil {V : View} (k : Int) : CallV Try.prog 16 ⟨[.pointer none, .int .i64 k]⟩ V fun r V' => r = .int .i64 0 ∧ V.Le V' := by
  refine f16_x ?_
  unfold f16_n
  refine (in_nil k).mono ?_
  rintro r V1 ⟨a, rfl, h0, h4⟩
  exact ⟨a, rfl, by rw [h0]; rfl, h4⟩
theorem len_nil {V : View} : CallV Try.prog 14 ⟨[.pointer none]⟩ V fun r V' => r = .int .i64 0 ∧ V' = V := by
  refine f14_x ?_
  unfold f14_n
  exact ⟨rfl, rfl⟩
theorem at_nil {V : View} (k : P2) : CallV Try.prog 12 ⟨[.pointer none, encP k]⟩ V fun r V' => r = .tuple ⟨[encP (0, 0), .bool false]⟩ ∧ V' = V := by
  refine f12_x ?_
  unfold f12_n
  exact fun _ _ => ⟨rfl, rfl⟩
theorem on_nil {V : View} (k : P2) : CallV Try.prog 13 ⟨[.pointer none, encP k]⟩ V fun r V' => r = .tuple ⟨[encP (0, 0), .bool false]⟩ ∧ V' = V := by
  refine f13_x ?_
  unfold f13_n
  exact fun _ _ => ⟨rfl, rfl⟩
theorem cut_nil {V : View} (k : P2) : CallV Try.prog 10 ⟨[.pointer none, encP k]⟩ V fun r V' => r = .bool false ∧ V' = V := by
  refine f10_x ?_
  unfold f10_n
  exact fun _ => ⟨rfl, rfl⟩
theorem put_nil {V : View} (k s : P2) : CallV Try.prog 11 ⟨[.pointer none, encP k, encP s]⟩ V fun r V' => r = .bool false ∧ V' = V := by
  refine f11_x ?_
  unfold f11_n
  intro _ _
  refine br_intro (fun _ => ⟨rfl, rfl⟩) (fun h => ?_)
  simp at h
end Go.Proofs.Ytpoijjfbgfiboaa

/- Contracts: insert, SameFound. -/
namespace Go.Proofs.Ytpoijjfbgfiboaa
open Go Go.Shelf Go.RowKit Go.Lib Go.Sort
theorem fl_append (l m : PL) : fl (l ++ m) = fl l ++ fl m := List.flatMap_append
theorem repL_fl_eq {W : View} : ∀ {l : PL} {cs : List Value}, repL W cs l → cs = fl l
  | [], _, h => h
  | q :: l, cs, ⟨vs, us, e, h1, h2⟩ => by
    have h1 : vs = celP q := h1
    rw [e, h1, repL_fl_eq h2]; rfl
theorem buf_new {V : View} {r : Nat} (e : TypeId) (sz : Nat) (hr : V.size ≤ r) : Buf (V.put r (.cells ⟨[]⟩ e (0, 0))) ⟨some ⟨r, 0, none⟩, 0, 0⟩ e sz [] ∧ V.Le ((V.put r (.cells ⟨[]⟩ e (0, 0))).minus ⟨some ⟨r, 0, none⟩, 0, 0⟩) :=
  ⟨⟨by simp, Nat.le_refl _, Nat.zero_le _, .inr ⟨r, [], rfl, View.see_put_same _ _ _, by simp, by simp⟩⟩, put_le_hide (View.see_none_of_ge hr) (View.Le.refl _)⟩
/-- A row of what was found, copied behind one of one's own. -/
theorem apF {V S : View} {x y : Sl} {l m : PL} {C : Sl → View → Prop} {z : List Value} {bytes : Nat} (hz : z.length = 4) (hb : Buf V x 34 4 (fl l)) (hS : S.Le (V.minus x)) (hy : SlR S y m)
    (hm : (l.length + m.length) * bytes ≤ 140737488355328) (hm2 : l.length + m.length ≤ 140737488355328)
    (hC : ∀ s V', Buf V' s 34 4 (fl (l ++ m)) → S.Le (V'.minus s) → C s V') : apV V 34 4 bytes z x (.slice y.a y.n y.c) C := by
  refine appRow (α := P2 × P2) hz hb (repL_fl _ l) (hy.mono hS) hS hm hm2 fun s V' cs' h1 h2 h3 => ?_
  rw [repL_fl_eq h2] at h1
  exact hC s V' h1 h3
theorem put_minus {V : View} {x : Sl} {e : TypeId} {sz : Nat} {cs : List Value} {r : Nat} {o : Obj} (hb : Buf V x e sz cs) (hr : V.see r = none) : ((V.minus x).put r o).Le ((V.put r o).minus x) := by
  rcases hb.own with ⟨ha, _⟩ | ⟨b, all, ha, hs, _⟩
  · unfold View.minus; rw [ha]; exact View.Le.refl _
  · have hbr : r ≠ b := by rintro rfl; rw [hr] at hs; cases hs
    unfold View.minus; rw [ha]
    refine ⟨Nat.le_refl _, fun i o' ho => ?_, rfl⟩
    by_cases hi : i = r
    · subst hi
      rw [View.see_put_same] at ho
      show ((V.put i o).hide b).see i = some o'
      rw [hide_see, if_neg hbr, View.see_put_same]; exact ho
    · rw [View.see_put_ne _ _ hi] at ho
      show ((V.put r o).hide b).see i = some o'
      have ho : (V.hide b).see i = some o' := ho
      rw [hide_see] at ho ⊢
      rw [View.see_put_ne _ _ hi]; exact ho
theorem slR_one {V : View} {r : Nat} (p : P2 × P2) : SlR (V.put r (.cells ⟨celP p⟩ 34 (0, 0))) ⟨some ⟨r, 0, none⟩, 1, 1⟩ [p] :=
  ⟨rfl, Nat.le_refl _, (show 1 ≤ 9223372036854775807 by decide), fun i hi => by
    have h0 : i = 0 := by simpa using hi
    subst h0
    refine ⟨_, celP p, rfl, ?_, rfl⟩
    rw [Nat.zero_mul, Addr.add_zero]
    exact cellsAt_of_see (View.see_put_same _ _ _) fun j v hj => by simpa using hj⟩
def insAt (m : PL) (i : Nat) (f : P2 × P2) : PL := m.take i ++ [f] ++ m.drop i
theorem insert_ok {V : View} {a : Sl} {m : PL} (h : SlR V a m) (hn : m.length ≤ 1000000) (f : P2 × P2) : CallV Try.prog 19 ⟨[.slice a.a a.n a.c, encF f]⟩ V fun r V' =>
    ∃ (s : Sl) (i : Nat), r = .slice s.a s.n s.c ∧ i ≤ m.length ∧ (∀ p ∈ m.take i, ltOf ordP p f = true) ∧ (∀ hi : i < m.length, ltOf ordP m[i] f = false) ∧ SlR V' s (insAt m i f) ∧ V.Le V' := by
  refine f19_x ?_
  unfold f19_n
  have han := h.n
  intro _
  refine loop1 (k := .int .i64) (fun (x : Int) V' => V' = V ∧ 0 ≤ x ∧ x ≤ m.length ∧ ∀ p ∈ m.take x.toNat, ltOf ordP p f = true) (fun (x : Int) _ => m.length - x.toNat) ⟨rfl, by omega, by omega, by simp⟩ ?_
  rintro (x : Int) V' ⟨rfl, h0, h1, h2⟩
  refine joinP_cut (fun s V'' => V'' = V' ∧ s.1 = true ∧ (∃ hx : x.toNat < m.length, ltOf ordP m[x.toNat] f = true) ∨ V'' = V' ∧ s.1 = false ∧ ∀ hx : x.toNat < m.length, ltOf ordP m[x.toNat] f = false) ⟨trivial, V', View.Le.refl _, ?_⟩ ?_
  · refine br_intro (fun hlt => ?_) (fun hge => ?_)
    · have hlt : x < a.n := by simpa using hlt
      obtain ⟨ad, hx, ha, hc⟩ := h.fnd h0 hlt
      have hb : V'.cell? (((ad.add (x.toNat * 4)).add 2).add 0) = some (.int .i64 m[x.toNat].2.1) := by rw [Addr.add_zero]; exact hc 2 _ rfl
      have hp : V'.cell? (((ad.add (x.toNat * 4)).add 2).add 1) = some (.int .i64 m[x.toNat].2.2) := by rw [Addr.add_add]; exact hc 3 _ rfl
      refine ⟨h0, hlt, ad, ha, _, hb, br_intro (fun hq => ?_) (fun hq => ⟨h0, hlt, ad, ha, _, hb, br_intro (fun hq2 => ⟨h0, hlt, ad, ha, _, hp, ?_⟩) (fun hq2 => ?_)⟩)⟩
      · refine .inl ⟨rfl, rfl, hx, ?_⟩
        rw [ordP_lt]; exact decide_eq_true (.inl (of_decide_eq_true hq))
      · by_cases hq3 : m[x.toNat].2.2 < f.2.2
        · refine .inl ⟨rfl, decide_eq_true hq3, hx, ?_⟩
          rw [ordP_lt]; exact decide_eq_true (.inr ⟨of_decide_eq_true hq2, hq3⟩)
        · refine .inr ⟨rfl, decide_eq_false hq3, fun _ => ?_⟩
          have := of_decide_eq_false hq
          rw [ordP_lt]; exact decide_eq_false (by omega)
      · refine .inr ⟨rfl, rfl, fun _ => ?_⟩
        have := of_decide_eq_false hq; have := of_decide_eq_false hq2
        rw [ordP_lt]; exact decide_eq_false (by omega)
    · have hge : ¬ x < a.n := by simpa using hge
      exact .inr ⟨rfl, rfl, fun hx => by omega⟩
  · rintro ⟨q, ⟨⟩⟩ V1 hJ
    dsimp only [unc] at *
    refine br_intro (fun hq => ?_) (fun hq => ?_)
    · subst hq
      rcases hJ with ⟨rfl, _, hx, hl⟩ | ⟨_, hf, _⟩
      · refine ⟨inI64 (by omega) (by omega), ⟨rfl, by omega, by omega, ?_⟩, by omega⟩
        rw [show (x + 1).toNat = x.toNat + 1 by omega, List.take_add_one, List.getElem?_eq_getElem hx]
        intro p hp
        rcases List.mem_append.1 hp with hp | hp
        · exact h2 p hp
        · simp at hp; rw [hp]; exact hl
      · cases hf
    · subst hq
      obtain ⟨rfl, hl⟩ : V1 = V' ∧ ∀ hx : x.toNat < m.length, ltOf ordP m[x.toNat] f = false := by
        rcases hJ with ⟨_, hf, _⟩ | ⟨h5, _, h6⟩
        · cases hf
        · exact ⟨h5, h6⟩
      have hxc := h.c
      have hx0 : x.toNat ≤ m.length := by omega
      have hy1 : SlR V1 ⟨if a.c = 0 then a.a else a.a.map fun q => q.add 0, x.toNat - 0, a.c - 0⟩ (m.take x.toNat) := by
        have := h.take hx0
        rw [map_add_zero]
        simpa using this
      have hy2 : SlR V1 ⟨if a.c = x.toNat then a.a else a.a.map fun q => q.add (x.toNat * 4), (a.n : Int).toNat - x.toNat, a.c - x.toNat⟩ (m.drop x.toNat) := by
        have := h.sub hx0 (Nat.le_refl _)
        rw [List.take_length] at this
        have e : (a.n : Int).toNat = m.length := by omega
        rw [e]; exact this
      have hlen : (m.take x.toNat).length ≤ 1000000 := by rw [List.length_take]; omega
      have hld : (m.drop x.toNat).length ≤ 1000000 := by rw [List.length_drop]; omega
      refine joinP_cut (fun s V2 => SlR V2 s.1 (insAt m x.toNat f) ∧ V1.Le V2) ⟨trivial, V1, View.Le.refl _, Int.le_refl _, h0, by omega, h0, by omega, by omega, ?_, ?_⟩ ?_
      · intro r hr
        obtain ⟨b1, b2⟩ := buf_new (V := V1) 34 4 hr
        refine ⟨b2.trans (View.minus_le _ _), ?_, ?_⟩
        · refine apF (l := []) rfl b1 b2 hy1 (by simp; omega) (by simp; omega) fun s V2 g1 g2 => ⟨g2.trans (View.minus_le _ _), fun r2 hr2 => ?_⟩
          have hfr := View.see_none_of_ge hr2
          have hp := View.put_le (o := .cells ⟨celP f⟩ 34 (0, 0)) hfr
          have hq := put_minus (o := .cells ⟨celP f⟩ 34 (0, 0)) g1 hfr
          have hS := g2.trans (View.put_le (o := .cells ⟨celP f⟩ 34 (0, 0)) (minus_see_none (x := s) hfr))
          refine ⟨(g2.trans (View.minus_le _ _)).trans hp, apF (y := ⟨some ⟨r2, 0, none⟩, 1, 1⟩) rfl (g1.mono hp) hq (slR_one f) (by simp; omega) (by simp; omega) fun s V3 g3 g4 => ?_⟩
          exact apF rfl g3 g4 (hy2.mono hS) (by simp; omega) (by simp; omega) fun s V4 g5 g6 => ⟨buf_slR g5, (hS.trans g6).trans (View.minus_le _ _)⟩
        · intro r2 hr2
          have hfr := View.see_none_of_ge hr2
          have hp := View.put_le (o := .cells ⟨celP f⟩ 34 (0, 0)) hfr
          have hq := put_minus (o := .cells ⟨celP f⟩ 34 (0, 0)) b1 hfr
          have hS := b2.trans (View.put_le (o := .cells ⟨celP f⟩ 34 (0, 0)) (minus_see_none (x := ⟨some ⟨r, 0, none⟩, 0, 0⟩) hfr))
          refine ⟨(b2.trans (View.minus_le _ _)).trans hp, apF (l := []) rfl (b1.mono hp) hq (hy1.mono hS) (by simp; omega) (by simp; omega) fun s V3 g3 g4 => ⟨(hS.trans g4).trans (View.minus_le _ _), ?_⟩⟩
          refine apF (y := ⟨some ⟨r2, 0, none⟩, 1, 1⟩) rfl g3 g4 (slR_one f) (by simp; omega) (by simp; omega) fun s V4 g5 g6 => ?_
          exact apF rfl g5 g6 (hy2.mono hS) (by simp; omega) (by simp; omega) fun s V5 g7 g8 => ⟨buf_slR g7, (hS.trans g8).trans (View.minus_le _ _)⟩
      · intro r hr
        have hfr := View.see_none_of_ge hr
        have hp := View.put_le (o := .cells ⟨celP f⟩ 34 (0, 0)) hfr
        refine ⟨hp, fun r2 hr2 => ?_⟩
        obtain ⟨b1, b2⟩ := buf_new 34 4 hr2
        refine ⟨(hp.trans b2).trans (View.minus_le _ _), apF (l := []) rfl b1 b2 (hy1.mono hp) (by simp; omega) (by simp; omega) fun s V3 g3 g4 => ⟨(hp.trans g4).trans (View.minus_le _ _), ?_⟩⟩
        refine apF (y := ⟨some ⟨r, 0, none⟩, 1, 1⟩) rfl g3 g4 (slR_one f) (by simp; omega) (by simp; omega) fun s V4 g5 g6 => ?_
        exact apF rfl g5 g6 (hy2.mono hp) (by simp; omega) (by simp; omega) fun s V5 g7 g8 => ⟨buf_slR g7, (hp.trans g8).trans (View.minus_le _ _)⟩
      · rintro ⟨s, ⟨⟩⟩ V2 ⟨g1, g2⟩
        exact ⟨s, x.toNat, rfl, hx0, h2, hl, g1, g2⟩
theorem same_ok {V : View} {x y : Sl} {m : PL} (hx : SlR V x m) (hy : SlR V y m) : CallV Try.prog 20 ⟨[.slice x.a x.n x.c, .slice y.a y.n y.c]⟩ V fun r V' => r = .bool true ∧ V' = V := by
  refine f20_x ?_
  unfold f20_n
  have h1 := hx.n; have h2 := hy.n; have hl := hx.lim
  refine br_intro (fun h => absurd h (by simp; omega)) (fun _ => ?_)
  refine loop1 (k := .int .i64) (fun (i : Int) V' => V' = V ∧ 0 ≤ i ∧ i ≤ m.length) (fun (i : Int) _ => m.length - i.toNat) ⟨rfl, by omega, by omega⟩ ?_
  rintro (i : Int) V' ⟨rfl, h0, h3⟩
  refine br_intro (fun hlt => ?_) (fun hge => ⟨rfl, rfl⟩)
  have hlt : i < x.n := by simpa using hlt
  obtain ⟨ad, hi, ha, hc⟩ := hx.fnd h0 hlt
  obtain ⟨ad2, _, ha2, hc2⟩ := hy.fnd (x := i) h0 (by omega)
  refine ⟨trivial, V', View.Le.refl _, h0, hlt, ad, ha, _, _, _, _, hc, h0, by omega, ad2, ha2, _, _, _, _, hc2, trivial, br_intro (fun h => absurd h (by simp)) (fun _ => ⟨inI64 (by omega) (by omega), ⟨rfl, by omega, by omega⟩, by omega⟩)⟩
end Go.Proofs.Ytpoijjfbgfiboaa
