/- Texts joined: Rules, Rep, Row, Data, Num, Gen, Grow. -/
import Derived.Test.YtgkmcnafkhdlnaaGreatSoundC
import Derived.Test.YtgkmcnafkhdlnaaGreatChecked
import Derived.ChangeStays
import Derived.ChangeBook
import Derived.ProofKit
import Derived.HandedShaped
import Derived.RowKit
import Derived.ChangeShapes
import Derived.WideShapes
import Derived.Below
import Derived.KernelRfl
set_option linter.unusedVariables false
set_option linter.unusedSimpArgs false
/- Rules for what the executor asks. -/
namespace Go.Proofs.YtgkmcnafkhdlnaaGreat
open Go
/-- Rounds by an invariant and a measure. -/
theorem loopP_inv {ks : List K} {F : CurF (CurP ks → Prop) ks} {s : Ty ks} {V : View} (I : Ty ks → View → Prop) (m : Ty ks → View → Nat) (h0 : I s V)
    (step : ∀ s V, I s V → uncF ks F s V (cur ks fun s' V' => I s' V' ∧ m s' V' < m s V)) : loopP ks F s V := by
  intro Q hQ
  have key : ∀ n s V, m s V = n → I s V → Q s V := by
    intro n
    induction n using Nat.strongRecOn with
    | _ n ih =>
      intro s V hm hi
      exact hQ s V ⟨_, fun s' V' h => ih _ (by rw [← hm]; exact h.2) s' V' rfl h.1, step s V hi⟩
  exact key _ s V rfl h0
/-- One number goes round. -/
theorem loop1 [DrK] {k : K} {F : k.ty → View → (k.ty → View → Prop) → Prop} {x : k.ty} {V : View} (I : k.ty → View → Prop) (m : k.ty → View → Nat) (h0 : I x V)
    (step : ∀ x V, I x V → F x V fun x' V' => I x' V' ∧ m x' V' < m x V) : loopP [k] F (x, ()) V :=
  loopP_inv (fun s V => I s.1 V) (fun s V => m s.1 V) h0 fun s V h => step s.1 V h
theorem loop0 [DrK] {F : View → (View → Prop) → Prop} {V : View} (I : View → Prop) (m : View → Nat) (h0 : I V)
    (step : ∀ V, I V → F V fun V' => I V' ∧ m V' < m V) : loopP [] F () V :=
  loopP_inv (fun _ V => I V) (fun _ V => m V) h0 fun _ V h => step V h
theorem loop2 [DrK] {k l : K} {F : k.ty → l.ty → View → (k.ty → l.ty → View → Prop) → Prop} {x : k.ty} {y : l.ty} {V : View} (I : k.ty → l.ty → View → Prop) (m : k.ty → l.ty → View → Nat) (h0 : I x y V)
    (step : ∀ x y V, I x y V → F x y V fun x' y' V' => I x' y' V' ∧ m x' y' V' < m x y V) : loopP [k, l] F (x, y, ()) V :=
  loopP_inv (fun s V => I s.1 s.2.1 V) (fun s V => m s.1 s.2.1 V) h0 fun s V h => step s.1 s.2.1 V h
@[simp] theorem br_true (A B : Prop) : br true A B = A := rfl
@[simp] theorem br_false (A B : Prop) : br false A B = B := rfl
theorem br_intro {g : Bool} {A B : Prop} (h1 : g = true → A) (h2 : g = false → B) : br g A B := by
  cases g
  · exact h2 rfl
  · exact h1 rfl
/-- Ways meet with what J says. -/
theorem joinP_cut {ks : List K} {body : CurP ks → Prop} {k : CurP ks} (J : Ty ks → View → Prop) (h : body (cur ks J)) (h2 : ∀ s V, J s V → unc ks k s V) : joinP ks body k := ⟨J, h, h2⟩
/-- At the end: a call of a view's function is a call in its world. -/
theorem CallV.at [DrK] {P : Program} {f : FuncId} {args : Array Value} {V : View} {K : Value → View → Prop} (h : CallV P f args V K) {w : World} (hw : V.In w) :
    Calls P f args w fun e w' => ∃ r V', e = .returned r ∧ V'.In w' ∧ Fr V w V' w' ∧ K r V' := h.2 w hw

/-! ### frames -/
/-- A call that needs U alone leaves what V sees beside U as it was. -/
theorem CallV.frameS {P : Program} {f : FuncId} {args : Array Value} {U V : View} {K : Value → View → Prop} (hU : U.Le V) (h : CallV P f args U K) :
    CallV P f args V fun r V' => ∃ U', K r U' ∧ U'.Le V' ∧ V.size ≤ V'.size ∧ (∀ i o, U.see i = none → V.see i = some o → V'.see i = some o ∧ U'.see i = none) := by
  refine ⟨h.1, fun w hw => (h.2 w (hU.In hw)).mono fun e w' ⟨r, U', he, hi, hf, hr⟩ => ?_⟩
  have hlt : ∀ i o, V.see i = some o → i < w.heap.size := fun i o ho => Nat.lt_of_lt_of_le (V.lt i o ho) hw.size
  let V' : View := ⟨max U'.size V.size, fun i => match U'.see i with
    | some o => some o
    | none => match U.see i with
      | some _ => none
      | none => V.see i, U'.out, fun i o ho => by
        cases h1 : U'.see i with
        | some o1 => have := U'.lt i o1 h1; omega
        | none =>
          simp only [h1] at ho
          cases h2 : U.see i with
          | some o2 => simp [h2] at ho
          | none => simp only [h2] at ho; have := V.lt i o ho; omega⟩
  refine ⟨r, V', he, ⟨?_, ?_, hi.out⟩, ⟨hf.size, ?_, hf.drawn⟩, U', hr, ⟨Nat.le_max_left _ _, ?_, rfl⟩, Nat.le_max_right _ _, ?_⟩
  · have h1 := hi.size; have h2 := hw.size; have h3 := hf.size
    show max U'.size V.size ≤ _
    omega
  · intro i o ho
    change (match U'.see i with
      | some o => some o
      | none => match U.see i with
        | some _ => none
        | none => V.see i) = some o at ho
    cases h1 : U'.see i with
    | some o1 => rw [h1] at ho; exact hi.see i o (by rw [h1]; exact ho)
    | none =>
      rw [h1] at ho
      cases h2 : U.see i with
      | some o2 => rw [h2] at ho; cases ho
      | none =>
        rw [h2] at ho
        have hl := hlt i o ho
        rw [(hf.hid i hl h2).2]
        exact hw.see i o ho
  · intro i hl hn
    have h2 : U.see i = none := by
      cases h2 : U.see i with
      | none => rfl
      | some o => rw [hU.see i o h2] at hn; cases hn
    have h3 := hf.hid i hl h2
    refine ⟨?_, h3.2⟩
    show (match U'.see i with
      | some o => some o
      | none => match U.see i with
        | some _ => none
        | none => V.see i) = none
    rw [h3.1, h2]; exact hn
  · intro i o ho
    show (match U'.see i with
      | some o => some o
      | none => match U.see i with
        | some _ => none
        | none => V.see i) = some o
    rw [ho]
  · intro i o h2 ho
    have h3 := hf.hid i (hlt i o ho) h2
    refine ⟨?_, h3.1⟩
    show (match U'.see i with
      | some o => some o
      | none => match U.see i with
        | some _ => none
        | none => V.see i) = some o
    rw [h3.1, h2]; exact ho

theorem CallV.frame {P : Program} {f : FuncId} {args : Array Value} {U V : View} {K : Value → View → Prop} (hU : U.Le V) (h : CallV P f args U K) :
    CallV P f args V fun r V' => ∃ U', K r U' ∧ U'.Le V' ∧ (∀ i o, U.see i = none → V.see i = some o → V'.see i = some o ∧ U'.see i = none) :=
  (CallV.frameS hU h).mono fun _ _ ⟨U', a, b, _, c⟩ => ⟨U', a, b, c⟩
/-- A call that only adds to what it needs only adds to what is seen. -/
theorem CallV.frameG {P : Program} {f : FuncId} {args : Array Value} {U V : View} {K : Value → View → Prop} (hU : U.Le V) (h : CallV P f args U fun r U' => K r U' ∧ U.Le U') :
    CallV P f args V fun r V' => ∃ U', K r U' ∧ U.Le U' ∧ U'.Le V' ∧ V.Le V' ∧ (∀ i o, U.see i = none → V.see i = some o → U'.see i = none) := by
  refine (CallV.frameS hU h).mono ?_
  rintro r V' ⟨U', ⟨hk, hle⟩, h2, h3, h4⟩
  refine ⟨U', hk, hle, h2, ⟨h3, fun i o ho => ?_, h2.out.trans (hle.out.trans hU.out.symm)⟩, fun i o h5 h6 => (h4 i o h5 h6).2⟩
  cases hs : U.see i with
  | none => exact (h4 i o hs ho).1
  | some o' =>
    have e := hU.see i o' hs
    rw [ho] at e
    cases e
    exact h2.see _ _ (hle.see _ _ hs)

/-! ### addresses, cells -/
theorem Addr.add_zero (a : Addr) : a.add 0 = a := by simp [Addr.add]
theorem Addr.add_add (a : Addr) (m n : Nat) : (a.add m).add n = a.add (m + n) := by
  unfold Addr.add
  by_cases h : m = 0 <;> by_cases k : n = 0 <;> simp [h, k] <;> omega
theorem map_add_zero (a : Option Addr) : Option.map (fun (x : Addr) => Addr.add x 0) a = a := by cases a <;> simp [Addr.add_zero]
theorem cellsAt_mono {V V' : View} (h : V.Le V') {a : Addr} {vs : List Value} (hc : cellsAt V a vs) : cellsAt V' a vs := fun j v hj => h.cell (hc j v hj)
theorem cellsAt_one {V : View} {a : Addr} {v : Value} : cellsAt V a [v] ↔ V.cell? a = some v := by
  constructor
  · intro h; have := h 0 v rfl; rwa [Addr.add_zero] at this
  · intro h j x hj
    cases j with
    | zero => simp at hj; subst hj; rwa [Addr.add_zero]
    | succ j => simp at hj
theorem cellsAt_append {V : View} {a : Addr} {vs us : List Value} : cellsAt V a (vs ++ us) ↔ cellsAt V a vs ∧ cellsAt V (a.add vs.length) us := by
  constructor
  · intro h
    refine ⟨fun j v hj => h j v (by rw [List.getElem?_append_left (List.getElem?_eq_some_iff.1 hj).1]; exact hj), fun j v hj => ?_⟩
    rw [Addr.add_add]
    exact h _ v (by rw [List.getElem?_append_right (by omega)]; simpa using hj)
  · rintro ⟨h1, h2⟩ j v hj
    by_cases hl : j < vs.length
    · rw [List.getElem?_append_left hl] at hj; exact h1 j v hj
    · rw [List.getElem?_append_right (by omega)] at hj
      have := h2 _ v hj
      rw [Addr.add_add] at this
      rwa [show vs.length + (j - vs.length) = j by omega] at this
theorem cell_of_see {V : View} {b : Nat} {cs : List Value} {e : TypeId} {f : Nat × Nat} (h : V.see b = some (.cells ⟨cs⟩ e f)) {i : Nat} {v : Value} (hv : cs[i]? = some v) :
    V.cell? ⟨b, i, none⟩ = some v := by
  unfold View.cell?
  simp [h, hv]
theorem addr0_add (b i n : Nat) : (⟨b, i, none⟩ : Addr).add n = ⟨b, i + n, none⟩ := addr_add b i n
theorem cellsAt_of_see {V : View} {b : Nat} {cs : List Value} {e : TypeId} {f : Nat × Nat} (h : V.see b = some (.cells ⟨cs⟩ e f)) {i : Nat} {vs : List Value}
    (hv : ∀ j v, vs[j]? = some v → cs[i + j]? = some v) : cellsAt V ⟨b, i, none⟩ vs := fun j v hj => by
  rw [addr0_add]; exact cell_of_see h (hv j v hj)

/-! ### data -/
class Rep (α : Type) where
  sz : Nat
  pos : 0 < sz
  rep : View → List Value → α → Prop
  len : ∀ {V vs x}, rep V vs x → vs.length = sz
  one : ∀ {V vs x}, rep V vs x → vs.all Value.oneCell' = true
  mono : ∀ {V V' vs x}, V.Le V' → rep V vs x → rep V' vs x

/-- A row of data: no element is written by anybody as long as V is seen. -/
structure SlR {α : Type} [Rep α] (V : View) (s : Sl) (l : List α) : Prop where
  n : s.n = l.length
  c : s.n ≤ s.c
  lim : s.n ≤ 9223372036854775807
  get : ∀ i (h : i < l.length), ∃ ad vs, s.a = some ad ∧ cellsAt V (ad.add (i * Rep.sz α)) vs ∧ Rep.rep V vs l[i]
theorem SlR.mono {α : Type} [Rep α] {V V' : View} {s : Sl} {l : List α} (hV : V.Le V') (h : SlR V s l) : SlR V' s l :=
  ⟨h.n, h.c, h.lim, fun i hi => let ⟨ad, vs, ha, hc, hr⟩ := h.get i hi; ⟨ad, vs, ha, cellsAt_mono hV hc, Rep.mono hV hr⟩⟩
theorem SlR.nil {α : Type} [Rep α] (V : View) (a : Option Addr) (c : Nat) : SlR (α := α) V ⟨a, 0, c⟩ [] := ⟨rfl, Nat.zero_le _, Nat.zero_le _, fun _ h => absurd h (by simp)⟩

instance : Rep Int where
  sz := 1
  pos := Nat.one_pos
  rep _ vs x := vs = [.int .i64 x] ∧ inI .i64 x
  len h := by rw [h.1]; rfl
  one h := by rw [h.1]; rfl
  mono _ h := h
instance : Rep Bool where
  sz := 1
  pos := Nat.one_pos
  rep _ vs x := vs = [.bool x]
  len h := by rw [h]; rfl
  one h := by rw [h]; rfl
  mono _ h := h
instance : Rep UInt8 where
  sz := 1
  pos := Nat.one_pos
  rep _ vs x := vs = [.int .u8 x.toNat]
  len h := by rw [h]; rfl
  one h := by rw [h]; rfl
  mono _ h := h
instance : Rep ByteArray where
  sz := 1
  pos := Nat.one_pos
  rep _ vs x := vs = [.string x] ∧ x.size ≤ 9223372036854775807
  len h := by rw [h.1]; rfl
  one h := by rw [h.1]; rfl
  mono _ h := h
instance {α : Type} [Rep α] : Rep (List α) where
  sz := 1
  pos := Nat.one_pos
  rep V vs x := ∃ s : Sl, vs = [.slice s.a s.n s.c] ∧ SlR V s x
  len h := by obtain ⟨s, h, _⟩ := h; rw [h]; rfl
  one h := by obtain ⟨s, h, _⟩ := h; rw [h]; rfl
  mono hV h := let ⟨s, h, k⟩ := h; ⟨s, h, k.mono hV⟩

theorem SlR.ld {α : Type} [Rep α] {V : View} {s : Sl} {l : List α} (h : SlR V s l) {x : Int} (h0 : 0 ≤ x) (h1 : x < s.n) :
    ∃ ad vs, ∃ hx : x.toNat < l.length, s.a = some ad ∧ cellsAt V (ad.add (x.toNat * Rep.sz α)) vs ∧ Rep.rep V vs l[x.toNat] := by
  have hx : x.toNat < l.length := by have := h.n; omega
  obtain ⟨ad, vs, h⟩ := h.get x.toNat hx
  exact ⟨ad, vs, hx, h⟩
theorem SlR.int {V : View} {s : Sl} {l : List Int} (h : SlR V s l) {x : Int} (h0 : 0 ≤ x) (h1 : x < s.n) :
    ∃ ad, ∃ hx : x.toNat < l.length, s.a = some ad ∧ V.cell? (ad.add (x.toNat * 1)) = some (.int .i64 l[x.toNat]) ∧ inI .i64 l[x.toNat] := by
  obtain ⟨ad, vs, hx, ha, hc, rfl, hi⟩ := h.ld h0 h1
  exact ⟨ad, hx, ha, cellsAt_one.1 hc, hi⟩
theorem SlR.bool {V : View} {s : Sl} {l : List Bool} (h : SlR V s l) {x : Int} (h0 : 0 ≤ x) (h1 : x < s.n) :
    ∃ ad, ∃ hx : x.toNat < l.length, s.a = some ad ∧ V.cell? (ad.add (x.toNat * 1)) = some (.bool l[x.toNat]) := by
  obtain ⟨ad, vs, hx, ha, hc, rfl⟩ := h.ld h0 h1
  exact ⟨ad, hx, ha, cellsAt_one.1 hc⟩
theorem SlR.u8 {V : View} {s : Sl} {l : List UInt8} (h : SlR V s l) {x : Int} (h0 : 0 ≤ x) (h1 : x < s.n) :
    ∃ ad, ∃ hx : x.toNat < l.length, s.a = some ad ∧ V.cell? (ad.add (x.toNat * 1)) = some (.int .u8 l[x.toNat].toNat) := by
  obtain ⟨ad, vs, hx, ha, hc, rfl⟩ := h.ld h0 h1
  exact ⟨ad, hx, ha, cellsAt_one.1 hc⟩
theorem SlR.str {V : View} {s : Sl} {l : List ByteArray} (h : SlR V s l) {x : Int} (h0 : 0 ≤ x) (h1 : x < s.n) :
    ∃ ad, ∃ hx : x.toNat < l.length, s.a = some ad ∧ V.cell? (ad.add (x.toNat * 1)) = some (.string l[x.toNat]) ∧ l[x.toNat].size ≤ 9223372036854775807 := by
  obtain ⟨ad, vs, hx, ha, hc, rfl, hi⟩ := h.ld h0 h1
  exact ⟨ad, hx, ha, cellsAt_one.1 hc, hi⟩
/-- A part of a row. -/
theorem SlR.sub {α : Type} [Rep α] {V : View} {s : Sl} {l : List α} (h : SlR V s l) {i j : Nat} (hij : i ≤ j) (hj : j ≤ l.length) :
    SlR V ⟨if s.c = i then s.a else s.a.map fun x => x.add (i * Rep.sz α), j - i, s.c - i⟩ ((l.take j).drop i) := by
  have hn := h.n; have hc := h.c
  refine ⟨by simp; omega, by show j - i ≤ s.c - i; omega, by have := h.lim; show j - i ≤ _; omega, fun k hk => ?_⟩
  have hk' : i + k < l.length := by simp at hk; omega
  obtain ⟨ad, vs, ha, hcs, hr⟩ := h.get (i + k) hk'
  have hne : s.c ≠ i := by simp at hk; omega
  refine ⟨ad.add (i * Rep.sz α), vs, by simp [hne, ha], ?_, ?_⟩
  · rw [Addr.add_add, ← Nat.add_mul]; exact hcs
  · simpa using hr
theorem SlR.take {α : Type} [Rep α] {V : View} {s : Sl} {l : List α} (h : SlR V s l) {j : Nat} (hj : j ≤ l.length) : SlR V ⟨s.a, j, s.c⟩ (l.take j) := by
  have := h.sub (Nat.zero_le j) hj
  simpa [map_add_zero] using this

/-! ### rows that this call made and that grow -/
def View.minus (V : View) (x : Sl) : View := match x.a with
  | none => V
  | some a => V.hide a.block
theorem View.minus_le (V : View) (x : Sl) : (V.minus x).Le V := by
  unfold View.minus; split
  · exact View.Le.refl V
  · exact View.hide_le V _
/-- The row x is the call's own; its cells so far are cs (elements of sz cells). -/
structure Buf (V : View) (x : Sl) (e : TypeId) (sz : Nat) (cs : List Value) : Prop where
  len : cs.length = x.n * sz
  le : x.n ≤ x.c
  lim : x.n ≤ 140737488355328
  own : (x.a = none ∧ x.c = 0) ∨ ∃ r all, x.a = some ⟨r, 0, none⟩ ∧ V.see r = some (.cells ⟨all⟩ e (0, 0)) ∧ all.length = x.c * sz ∧ all.take (x.n * sz) = cs
theorem Buf.nil (V : View) (e : TypeId) (sz : Nat) : Buf V ⟨none, 0, 0⟩ e sz [] := ⟨by simp, Nat.le_refl _, Nat.zero_le _, .inl ⟨rfl, rfl⟩⟩
theorem Buf.mono {V V' : View} {x : Sl} {e : TypeId} {sz : Nat} {cs : List Value} (h : Buf V x e sz cs) (hV : V.Le V') : Buf V' x e sz cs :=
  ⟨h.len, h.le, h.lim, h.own.imp id fun ⟨r, all, a, b, c⟩ => ⟨r, all, a, hV.see _ _ b, c⟩⟩
theorem minus_mono {V V' : View} (h : V.Le V') (x : Sl) : (V.minus x).Le (V'.minus x) := by
  unfold View.minus; split
  · exact h
  · refine ⟨h.size, fun i o ho => ?_, h.out⟩
    unfold View.hide at *
    simp only at *
    split at ho
    · cases ho
    · rename_i hne; rw [if_neg hne]; exact h.see i o ho
theorem Buf.row {V : View} {x : Sl} {e : TypeId} {sz : Nat} {cs : List Value} (h : Buf V x e sz cs) : rowAt V x.a (x.n * sz) cs := by
  rcases h.own with ⟨ha, hc⟩ | ⟨r, all, ha, hs, hl, ht⟩
  · have h0 : x.n = 0 := by have := h.le; omega
    rw [ha]
    show cs = []
    have := h.len
    rw [h0] at this
    simpa using this
  · rw [ha]
    refine ⟨h.len, fun j v hj => ?_⟩
    rw [addr0_add]
    refine cell_of_see hs ?_
    rw [← ht] at hj
    rw [List.getElem?_take] at hj
    split at hj
    · simpa using hj
    · cases hj
theorem putL_eq : ∀ (vs cs : List Value) (off : Nat), off + vs.length ≤ cs.length → putL cs off vs = cs.take off ++ vs ++ cs.drop (off + vs.length)
  | [], cs, off, _ => by simp [putL]
  | v :: vs, cs, off, h => by
    simp only [List.length_cons] at h
    rw [putL, putL_eq vs _ _ (by simp; omega)]
    rw [List.drop_set_of_lt (by omega), List.take_add_one, List.getElem?_set_self (by omega), List.take_set, List.set_eq_of_length_le (by simp; omega)]
    simp [Nat.add_assoc, Nat.add_comm 1]
theorem setObj_cells (e : TypeId) (f : Nat × Nat) (vs cs : List Value) (off : Nat) : setObj (.cells ⟨cs⟩ e f) off vs = .cells ⟨putL cs off vs⟩ e f := putL_setObj e f vs cs off
theorem sets_see {V : View} {r off : Nat} {cs vs : List Value} {e : TypeId} {f : Nat × Nat} (h : V.see r = some (.cells ⟨cs⟩ e f)) : V.sets ⟨r, off, none⟩ vs = V.put r (.cells ⟨putL cs off vs⟩ e f) := by
  unfold View.sets
  simp only [h, setObj_cells]
theorem canSet_of {V : View} {r off k : Nat} {cs : List Value} {e : TypeId} (h : V.see r = some (.cells ⟨cs⟩ e (0, 0))) (hk : off + k ≤ cs.length) : canSet V ⟨r, off, none⟩ k :=
  ⟨rfl, ⟨cs⟩, e, (0, 0), h, by simpa using hk, fun j _ hf => by simp at hf⟩
theorem hide_le_put_hide {V : View} (r : Nat) (o : Obj) : (V.hide r).Le ((V.put r o).hide r) :=
  ⟨Nat.le_max_left _ _, fun i o' h => by
    unfold View.hide at *
    simp only at *
    split at h
    · cases h
    · rename_i hne; rw [if_neg hne, View.see_put_ne V o hne]; exact h, rfl⟩
/-- What is appended stands behind; all else is as it was. -/
theorem apV_buf {V : View} {e : TypeId} {sz bytes : Nat} {zero : List Value} {x : Sl} {y : Value} {C : Sl → View → Prop} {cs src : List Value} {m : Nat} (hz : zero.length = sz)
    (hb : Buf V x e sz cs) (hs : srcAt V sz zero y m src) (hl : src.length = m * sz) (h1 : src.all Value.oneCell' = true) (hm : (x.n + m) * bytes ≤ 140737488355328) (hm2 : x.n + m ≤ 140737488355328)
    (hC : ∀ s V', Buf V' s e sz (cs ++ src) → s.n = x.n + m → (V.minus x).Le (V'.minus s) → C s V') : apV V e sz bytes zero x y C := by
  refine ⟨cs, src, m, hb.row, hs, h1, hm, hm2, fun hle => ?_, fun hlt r cap hr hcap => ?_⟩
  · rcases hb.own with ⟨ha, hc⟩ | ⟨r, all, ha, hsee, hal, htk⟩
    · rw [ha]
      have hn0 : x.n = 0 := by have := hb.le; omega
      have hm0 : m = 0 := by omega
      have e1 : src = [] := by rw [← List.length_eq_zero_iff, hl, hm0]; simp
      have e2 : cs = [] := by rw [← List.length_eq_zero_iff, hb.len, hn0]; simp
      refine hC _ _ ⟨by simp [e1, e2, hn0, hm0], by show x.n + m ≤ x.c; omega, hm2, .inl ⟨rfl, hc⟩⟩ rfl ?_
      unfold View.minus; rw [ha]; exact View.Le.refl V
    · rw [ha]
      have hfit : x.n * sz + src.length ≤ all.length := by rw [hl, hal, ← Nat.add_mul]; exact Nat.mul_le_mul_right _ hle
      have e0 : (⟨r, 0, none⟩ : Addr).add (x.n * sz) = ⟨r, x.n * sz, none⟩ := by rw [addr0_add]; simp
      show canSet V ((⟨r, 0, none⟩ : Addr).add (x.n * sz)) src.length ∧ C ⟨some ⟨r, 0, none⟩, x.n + m, x.c⟩ (V.sets ((⟨r, 0, none⟩ : Addr).add (x.n * sz)) src)
      rw [e0]
      refine ⟨canSet_of hsee hfit, ?_⟩
      rw [sets_see hsee, putL_eq _ _ _ hfit]
      refine hC _ _ ⟨by simp [hb.len, hl, Nat.add_mul], by show x.n + m ≤ x.c; omega, hm2, .inr ⟨r, _, rfl, View.see_put_same _ _ _, ?_, ?_⟩⟩ rfl ?_
      · simp only [List.length_append, List.length_take, List.length_drop]; omega
      · rw [htk]
        rw [List.take_append_of_le_length (by simp [hb.len, hl, Nat.add_mul])]
        rw [List.take_of_length_le (by simp [hb.len, hl, Nat.add_mul])]
      · unfold View.minus
        rw [ha]
        exact hide_le_put_hide r _
  · have hfr : V.see r = none := View.see_none_of_ge hr
    refine hC _ _ ⟨by simp [hb.len, hl, Nat.add_mul], hcap, hm2, .inr ⟨r, _, rfl, View.see_put_same _ _ _, ?_, ?_⟩⟩ rfl ?_
    · simp [hb.len, hl, hz, List.length_flatten, Nat.sub_mul, Nat.add_mul]
      have := Nat.mul_le_mul_right sz hcap
      rw [Nat.add_mul] at this
      omega
    · rw [List.take_append_of_le_length (by simp [hb.len, hl, Nat.add_mul])]
      rw [List.take_of_length_le (by simp [hb.len, hl, Nat.add_mul])]
    · have h2 : V.Le ((V.put r (.cells (cs ++ src ++ (List.replicate (cap - (x.n + m)) zero).flatten).toArray e (0, 0))).hide r) :=
        ⟨Nat.le_max_left _ _, fun i o ho => by
          have hne : i ≠ r := fun h => by rw [h, hfr] at ho; cases ho
          show (if i = r then none else View.see (V.put r _) i) = some o
          rw [if_neg hne, View.see_put_ne V _ hne]; exact ho, rfl⟩
      exact (View.minus_le V x).trans h2
/-- Cells of a row of data. -/
def repL {α : Type} [Rep α] (W : View) : List Value → List α → Prop
  | cs, [] => cs = []
  | cs, x :: l => ∃ vs us, cs = vs ++ us ∧ Rep.rep W vs x ∧ repL W us l
theorem repL.mono {α : Type} [Rep α] {W W' : View} (h : W.Le W') : ∀ {cs : List Value} {l : List α}, repL W cs l → repL W' cs l
  | _, [], hr => hr
  | _, _ :: _, ⟨vs, us, e, h1, h2⟩ => ⟨vs, us, e, Rep.mono h h1, repL.mono h h2⟩
theorem repL.snoc {α : Type} [Rep α] {W : View} : ∀ {cs : List Value} {l : List α} {vs : List Value} {x : α}, repL W cs l → Rep.rep W vs x → repL W (cs ++ vs) (l ++ [x])
  | _, [], vs, x, h, hx => by cases h; exact ⟨vs, [], by simp, hx, rfl⟩
  | _, y :: l, vs, x, ⟨ws, us, e, h1, h2⟩, hx => ⟨ws, us ++ vs, by rw [e, List.append_assoc], h1, repL.snoc h2 hx⟩
theorem repL.append {α : Type} [Rep α] {W : View} : ∀ {cs ds : List Value} {l m : List α}, repL W cs l → repL W ds m → repL W (cs ++ ds) (l ++ m)
  | _, _, [], m, h, hm => by cases h; simpa using hm
  | _, _, y :: l, m, ⟨ws, us, e, h1, h2⟩, hx => ⟨ws, us ++ _, by rw [e, List.append_assoc], h1, repL.append h2 hx⟩
theorem repL.len {α : Type} [Rep α] {W : View} : ∀ {cs : List Value} {l : List α}, repL W cs l → cs.length = l.length * Rep.sz α
  | _, [], h => by cases h; simp
  | _, _ :: _, ⟨vs, us, e, h1, h2⟩ => by rw [e, List.length_append, Rep.len h1, repL.len h2, List.length_cons, Nat.add_mul]; omega
theorem repL.one {α : Type} [Rep α] {W : View} : ∀ {cs : List Value} {l : List α}, repL W cs l → cs.all Value.oneCell' = true
  | _, [], h => by cases h; rfl
  | _, _ :: _, ⟨vs, us, e, h1, h2⟩ => by rw [e, List.all_append, Rep.one h1, repL.one h2]; rfl
theorem repL.get {α : Type} [Rep α] {W : View} : ∀ {cs : List Value} {l : List α}, repL W cs l → ∀ i (h : i < l.length), ∃ vs, Rep.rep W vs l[i] ∧ ∀ j v, vs[j]? = some v → cs[i * Rep.sz α + j]? = some v
  | _, [], _, i, h => absurd h (by simp)
  | _, x :: l, ⟨vs, us, e, h1, h2⟩, 0, _ => ⟨vs, h1, fun j v hj => by
      rw [e, Nat.zero_mul, Nat.zero_add, List.getElem?_append_left (List.getElem?_eq_some_iff.1 hj).1]; exact hj⟩
  | _, x :: l, ⟨vs, us, e, h1, h2⟩, i + 1, h => by
    obtain ⟨ws, hr, hg⟩ := repL.get h2 i (by simpa using h)
    refine ⟨ws, hr, fun j v hj => ?_⟩
    rw [e, List.getElem?_append_right (by rw [Rep.len h1, Nat.add_mul]; omega), Rep.len h1, Nat.add_mul]
    rw [show i * Rep.sz α + 1 * Rep.sz α + j - Rep.sz α = i * Rep.sz α + j by omega]
    exact hg j v hj
theorem Buf.slR {α : Type} [Rep α] {W V : View} {x : Sl} {e : TypeId} {cs : List Value} {l : List α} (h : Buf V x e (Rep.sz α) cs) (hr : repL W cs l) (hW : W.Le V) : SlR V x l := by
  have hn : x.n = l.length := Nat.eq_of_mul_eq_mul_right (Rep.pos (α := α)) (h.len.symm.trans hr.len)
  refine ⟨hn, h.le, Nat.le_trans h.lim (by decide), fun i hi => ?_⟩
  obtain ⟨vs, hv, hg⟩ := hr.get i hi
  rcases h.own with ⟨ha, hc⟩ | ⟨r, all, ha, hs, hl, ht⟩
  · have := h.le; omega
  · refine ⟨_, vs, ha, ?_, Rep.mono hW hv⟩
    rw [addr0_add]
    refine cellsAt_of_see hs fun j v hj => ?_
    have := hg j v hj
    rw [← ht, List.getElem?_take] at this
    split at this
    · simpa using this
    · cases this
/-- The cells of a row of data, read. -/
theorem SlR.row {α : Type} [Rep α] {V : View} {s : Sl} {l : List α} (h : SlR V s l) : ∃ cs, rowAt V s.a (s.n * Rep.sz α) cs ∧ repL V cs l := by
  have hn := h.n; have hg := h.get
  suffices key : ∀ (k : Nat), k ≤ l.length → ∃ cs, repL V cs (l.take k) ∧ (∀ ad, s.a = some ad → cellsAt V ad cs) from by
    obtain ⟨cs, h1, h2⟩ := key l.length (Nat.le_refl _)
    rw [List.take_length] at h1
    refine ⟨cs, ?_, h1⟩
    cases ha : s.a with
    | none =>
      show cs = []
      cases l with
      | nil => exact h1
      | cons x l => obtain ⟨ad, _, h', _⟩ := hg 0 (by simp); rw [ha] at h'; cases h'
    | some ad => exact ⟨by rw [h1.len, hn], h2 ad ha⟩
  intro k
  induction k with
  | zero => intro _; exact ⟨[], by simp [repL], fun ad _ j v hj => by simp at hj⟩
  | succ k ih =>
    intro hk
    obtain ⟨cs, h1, h2⟩ := ih (by omega)
    obtain ⟨ad, vs, ha, hc, hr⟩ := hg k (by omega)
    refine ⟨cs ++ vs, ?_, fun ad' ha' => ?_⟩
    · rw [List.take_add_one, List.getElem?_eq_getElem (by omega)]
      exact h1.snoc hr
    · rw [ha] at ha'; cases ha'
      refine cellsAt_append.2 ⟨h2 ad ha, ?_⟩
      rw [h1.len, List.length_take, Nat.min_eq_left (by omega)]
      exact hc
end Go.Proofs.YtgkmcnafkhdlnaaGreat
/- From a call over views to a row; how arguments are read. -/
namespace Go.Proofs.YtgkmcnafkhdlnaaGreat
open Go Go.RowKit Go.ChangeShapes Go.WideShapes

theorem own : ownKnob Tryz.prog.godebug = none := by kernel_rfl
theorem laidOut : laidOutB Tryz.prog = true := by kernel_rfl
theorem rowed : mapsRowed Tryz.prog = true := by kernel_rfl

section
variable {H : Type} {enc : TypeId × Value → H} {P : Program}
/-- The world is as it was, but for what is new. -/
theorem below_of_le {W W' : World} {V' : View} (h : V'.In W') (hl : (View.all W).Le V') : Below W.heap.size W W' := by
  have ho : World.outer W' = World.outer W := h.out.trans hl.out
  unfold World.outer at ho
  simp only [Prod.mk.injEq] at ho
  refine ⟨ho.1, ho.2.1, ho.2.2, Nat.le_trans hl.size h.size, fun k hk => ?_⟩
  have h1 : W.heap[k]? = some W.heap[k] := Array.getElem?_eq_getElem hk
  rw [h1]
  exact h.see k _ (hl.see k _ h1)
theorem same_of_below {W W' : World} (hb : Below W.heap.size W W') : ∀ p : MemPlace, p.block < W.heap.size → W.sameAt W' p := by
  intro p hp
  cases p with
  | cell b off =>
    have := hb.block b hp
    show W'.cell? _ = W.cell? _
    unfold World.cell?
    simp only [this]
  | map b => exact hb.block b hp
theorem trodAll_stays {t0 : TypeId → Prop} (K : Kids P t0) (hsz : ∀ {t e : TypeId}, t0 t → P.underlying t = some (.slice e) → 0 < P.cellsOf e) {W W' : World} (hb : Below W.heap.size W W') :
    ∀ {ts : List TypeId} {vs : List Value} {ds : List (DataW H)} {ps : List MemPlace}, (∀ t ∈ ts, t0 t) → DataW.TrodAll enc P W 0 (fun _ => true) true ts vs ds ps →
      DataW.TrodAll enc P W' 0 (fun b => decide (b < W.heap.size)) true ts vs ds ps
  | [], [], [], _, _, h => h
  | t :: ts, v :: vs, d :: ds, ps, ht, ⟨p, q, ⟨fuel, h1⟩, h2, e⟩ => by
    refine ⟨p, q, ⟨fuel, ?_⟩, trodAll_stays K hsz hb (fun t h => ht t (by simp [h])) h2, e⟩
    have hlt := DataW.trod_lt fuel t v.cells.toList _ h1
    exact DataW.trod_stays K hsz (fun h => by cases h) (ht t (by simp)) h1 (fun p hp => same_of_below hb p (hlt p hp)) (fun p hp => by simpa using hlt p hp)
/-- A call that answers true and changes nothing is what the row asks. -/
theorem post_true {f : Func} {s : ChangeSpec} {apart fresh handsOn : Bool} {t0 : TypeId → Prop} (K : Kids P t0) (hsz : ∀ {t e : TypeId}, t0 t → P.underlying t = some (.slice e) → 0 < P.cellsOf e) {W : World} {args : Array Value} {ds gs : List (DataW H)} {before : List MemPlace} {tb : TypeId}
    (hv : s.vars = []) (hr : f.resultTypes = #[tb]) (hb : P.underlying tb = some .bool) (hts : ∀ t ∈ f.params.toList, t0 t)
    (hW : DataW.Whole enc P f.params.toList s.vars apart W args.toList ds gs before) (hs : s.fn H (ds ++ gs) = { results := [.lit (.bool true)], args := ds })
    {F : FuncId} (hc : CallV P F args (View.all W) fun r V' => r = .bool true ∧ (View.all W).Le V') :
    Calls P F args W fun e W' => ∃ v, e = .returned v ∧ s.post enc P f apart fresh handsOn false W args v W' := by
  refine (hc.2 W (View.all_in W)).mono ?_
  rintro e W' ⟨r, V', rfl, hin, _, rfl, hle⟩
  have hbl := below_of_le hin hle
  obtain ⟨p, q, hA, hV, rfl, hfz, hnd⟩ := hW
  have hq : gs = [] ∧ q = [] := by
    rw [hv] at hV
    cases gs with
    | nil => exact ⟨rfl, hV⟩
    | cons g r => exact absurd hV (by intro h; cases h)
  obtain ⟨rfl, rfl⟩ := hq
  refine ⟨_, rfl, ds, [], p ++ [], [], p, [], ⟨p, [], hA, hV, rfl, hfz, hnd⟩, ?_, ?_, ?_, hbl.frame _, fun h => by cases h⟩
  · rw [hs, hr]; exact trodAll_mk1 (shut_bool hb true)
  · rw [hs]; exact trodAll_stays K hsz hbl hts hA
  · rw [hs, hv]; rfl
theorem params_lt {f : Func} (h : (f.params.toList.all fun t => decide (t < P.types.size)) = true) : ∀ t ∈ f.params.toList, t < P.types.size := fun t ht => by
  simpa using List.all_eq_true.1 h t ht
end
end Go.Proofs.YtgkmcnafkhdlnaaGreat
/- Trees as plain data; how they lie in a view, and in what comes in. -/
namespace Go.Proofs.YtgkmcnafkhdlnaaGreat
open Go
structure Ent where
  name : ByteArray
  node : Int
  deriving DecidableEq
structure Nod where
  kind : Int
  links : Int
  size : Int
  seqs : List Int
  ents : List Ent
  deriving DecidableEq
def Nod.zero : Nod := ⟨0, 0, 0, [], []⟩
instance : Inhabited Ent := ⟨⟨⟨#[]⟩, 0⟩⟩
instance : Inhabited Nod := ⟨Nod.zero⟩
structure Rf where
  page : Int
  seq : Int
  deriving DecidableEq
instance : Rep Ent where
  sz := 2
  pos := by decide
  rep _ vs x := vs = [.string x.name, .int .i64 x.node] ∧ x.name.size ≤ 9223372036854775807 ∧ inI .i64 x.node
  len h := by rw [h.1]; rfl
  one h := by rw [h.1]; rfl
  mono _ h := h
instance : Rep Rf where
  sz := 2
  pos := by decide
  rep _ vs x := vs = [.int .i64 x.page, .int .i64 x.seq] ∧ inI .i64 x.page ∧ inI .i64 x.seq
  len h := by rw [h.1]; rfl
  one h := by rw [h.1]; rfl
  mono _ h := h
instance : Rep Nod where
  sz := 5
  pos := by decide
  rep V vs x := ∃ s e : Sl, vs = [.int .i64 x.kind, .int .i64 x.links, .int .i64 x.size, .slice s.a s.n s.c, .slice e.a e.n e.c] ∧ inI .i64 x.kind ∧ inI .i64 x.links ∧ inI .i64 x.size ∧ SlR V s x.seqs ∧ SlR V e x.ents
  len h := by obtain ⟨s, e, h, _⟩ := h; rw [h]; rfl
  one h := by obtain ⟨s, e, h, _⟩ := h; rw [h]; rfl
  mono hV h := let ⟨s, e, h, a, b, c, d, f⟩ := h; ⟨s, e, h, a, b, c, d.mono hV, f.mono hV⟩
theorem SlR.ent {V : View} {s : Sl} {l : List Ent} (h : SlR V s l) {x : Int} (h0 : 0 ≤ x) (h1 : x < s.n) :
    ∃ ad, ∃ hx : x.toNat < l.length, s.a = some ad ∧ cellsAt V (ad.add (x.toNat * 2)) [.string l[x.toNat].name, .int .i64 l[x.toNat].node] ∧ l[x.toNat].name.size ≤ 9223372036854775807 ∧ inI .i64 l[x.toNat].node := by
  obtain ⟨ad, vs, hx, ha, hc, rfl, hi⟩ := h.ld h0 h1
  exact ⟨ad, hx, ha, hc, hi⟩
theorem SlR.rf {V : View} {s : Sl} {l : List Rf} (h : SlR V s l) {x : Int} (h0 : 0 ≤ x) (h1 : x < s.n) :
    ∃ ad, ∃ hx : x.toNat < l.length, s.a = some ad ∧ cellsAt V (ad.add (x.toNat * 2)) [.int .i64 l[x.toNat].page, .int .i64 l[x.toNat].seq] ∧ inI .i64 l[x.toNat].page ∧ inI .i64 l[x.toNat].seq := by
  obtain ⟨ad, vs, hx, ha, hc, rfl, hi⟩ := h.ld h0 h1
  exact ⟨ad, hx, ha, hc, hi⟩
/-- A node's cells: two rows besides three numbers. -/
structure NodR (V : View) (s e : Sl) (x : Nod) : Prop where
  kind : inI .i64 x.kind
  links : inI .i64 x.links
  size : inI .i64 x.size
  seqs : SlR V s x.seqs
  ents : SlR V e x.ents
theorem NodR.mono {V V' : View} {s e : Sl} {x : Nod} (hV : V.Le V') (h : NodR V s e x) : NodR V' s e x := ⟨h.kind, h.links, h.size, h.seqs.mono hV, h.ents.mono hV⟩
theorem NodR.rep {V : View} {s e : Sl} {x : Nod} (h : NodR V s e x) : Rep.rep V [.int .i64 x.kind, .int .i64 x.links, .int .i64 x.size, .slice s.a s.n s.c, .slice e.a e.n e.c] x := ⟨s, e, rfl, h.kind, h.links, h.size, h.seqs, h.ents⟩
/-! ### what comes in -/
section
variable {H : Type} {enc : TypeId × Value → H} {P : Program} {w : World} {base : Nat} {sp : Nat → Bool} {held : Bool}
/-- Data of this type that come in are such data. -/
class TrodRep (P : Program) (α : Type) [Rep α] (t : TypeId) : Prop where
  of : ∀ {H : Type} {enc : TypeId × Value → H} {w : World} {base : Nat} {sp : Nat → Bool} {held : Bool} {fuel : Nat} {cs : List Value} {x : DataW H × List MemPlace}, DataW.trod enc P w base sp held fuel t cs = some x → ∃ d : α, Rep.rep (View.all w) cs d
theorem wf_int {k : IntKind} {n : Int} (h : (Lit.int k n).wf = true) : inI k n := by
  simpa [Lit.wf, inI] using h
theorem trodRep_int {t : TypeId} (ht : P.underlying t = some (.int .i64)) : TrodRep P Int t := ⟨fun h => by
  obtain ⟨n, hc, _, hw⟩ := DataW.trod_int ht h
  exact ⟨n, hc, wf_int hw⟩⟩
theorem trodRep_u8 {t : TypeId} (ht : P.underlying t = some (.int .u8)) : TrodRep P UInt8 t := ⟨fun h => by
  obtain ⟨n, hc, _, hw⟩ := DataW.trod_int ht h
  have h2 : 0 ≤ n ∧ n ≤ 255 := by simpa [Lit.wf, IntKind.min, IntKind.max, IntKind.signed, IntKind.bits] using hw
  refine ⟨UInt8.ofNat n.toNat, ?_⟩
  show _ = [Value.int .u8 (UInt8.ofNat n.toNat).toNat]
  rw [hc, UInt8.toNat_ofNat']
  congr 2
  omega⟩
theorem cells_all {w : World} {b : Nat} {a : Addr} {n : Nat} {cs : List Value} (h : w.cells? b a n = some cs) : cs.length = n ∧ cellsAt (View.all w) a cs := by
  obtain ⟨_, hl, hc⟩ := World.cells?_some h
  refine ⟨hl, fun j v hj => ?_⟩
  have hjn : j < n := by rw [← hl]; exact (List.getElem?_eq_some_iff.1 hj).1
  have := hc j hjn
  rw [hj] at this
  exact this
theorem trodRep_slice {α : Type} [Rep α] {t e : TypeId} (ht : P.underlying t = some (.slice e)) (hs : P.cellsOf e = Rep.sz α) (he : TrodRep P α e) : TrodRep P (List α) t := ⟨fun {H enc w base sp held fuel cs x} h => by
  rcases DataW.trod_slice ht h with ⟨rfl, _⟩ | ⟨a, len, cap, elems, rest, n, _, rfl, _, _, hlc, hcm, hel, hget, _, _⟩
  · exact ⟨[], ⟨none, 0, 0⟩, rfl, SlR.nil _ _ _⟩
  have hex : ∀ i : Fin len, ∃ d : α, ∃ vs, cellsAt (View.all w) (a.add (i.val * Rep.sz α)) vs ∧ Rep.rep (View.all w) vs d := by
    intro i
    have := hget i.val i.isLt
    rw [List.getElem?_eq_getElem (by rw [hel]; exact i.isLt), Option.bind_eq_some_iff] at this
    obtain ⟨cs, hc, hy⟩ := this
    obtain ⟨d, hd⟩ := he.of hy
    rw [hs] at hc
    exact ⟨d, cs, (cells_all hc).2, hd⟩
  refine ⟨List.ofFn fun i => Classical.choose (hex i), ⟨some a, len, cap⟩, rfl, by simp, hlc, ?_, fun i hi => ?_⟩
  · have : cap ≤ 9223372036854775807 := hcm
    show len ≤ _; omega
  · have hi' : i < len := by simpa using hi
    obtain ⟨vs, h1, h2⟩ := Classical.choose_spec (hex ⟨i, hi'⟩)
    exact ⟨a, vs, rfl, h1, by rw [List.getElem_ofFn]; exact h2⟩⟩
theorem trod_field {t : TypeId} {i o : Nat} {ft : TypeId} {fuel : Nat} {cs : List Value} {x : DataW H × List MemPlace} (hf : fieldX P t i = some (o, ft)) (h : DataW.trod enc P w base sp held fuel t cs = some x) :
    cs.length = P.cellsOf t ∧ ∃ n y, DataW.trod enc P w base sp held n ft ((cs.drop o).take (P.cellsOf ft)) = some y := by
  obtain ⟨fs, fd, hu, hfd, rfl, rfl⟩ := fieldX_spec hf
  obtain ⟨xs, n, _, _, hl, hxl, hget⟩ := DataW.trod_struct hu h
  have := hget i fd hfd
  have hi : i < xs.length := by rw [hxl]; exact (Array.getElem?_eq_some_iff.1 hfd).1
  rw [List.getElem?_eq_getElem hi] at this
  exact ⟨hl, n, _, this⟩
end
/-! ### this program's types -/
theorem bytesIn : TrodRep Tryz.prog (List UInt8) 24 := trodRep_slice (e := 5) Tryz.underlying24 (by kernel_rfl) (trodRep_u8 Tryz.underlying5)
end Go.Proofs.YtgkmcnafkhdlnaaGreat
/- Numbers and texts as bytes: plain functions and what they answer. No program in this text. -/
namespace Go.Proofs.YtgkmcnafkhdlnaaGreat
/-- The digits of a number ahead of its last one, the greatest first. -/
def hiL : Nat → Nat → List UInt8
  | 0, _ => []
  | f + 1, n => if n = 0 then [] else hiL f (n / 128) ++ [UInt8.ofNat (n % 128 + 128)]
/-- A number as bytes. -/
def numL (n : Nat) : List UInt8 := hiL 6 (n / 128) ++ [UInt8.ofNat (n % 128)]
/-- What is laid for a number that is handed in. -/
def clampN (n : Int) : Nat := (min (max n 0) 1099511627776).toNat
def numI (n : Int) : List UInt8 := numL (clampN n)
/-- A number in front, and what is behind it. -/
def numGo (most : Nat) : Nat → Nat → List UInt8 → Option (Nat × List UInt8)
  | 0, _, _ => none
  | _, _, [] => none
  | f + 1, m, c :: b => if 128 ≤ c.toNat then numGo most f (m * 128 + c.toNat % 128) b else if most < m * 128 + c.toNat % 128 then none else some (m * 128 + c.toNat % 128, b)
theorem numGo_cons (most f m : Nat) (c : UInt8) (b : List UInt8) : numGo most (f + 1) m (c :: b) = if 128 ≤ c.toNat then numGo most f (m * 128 + c.toNat % 128) b else if most < m * 128 + c.toNat % 128 then none else some (m * 128 + c.toNat % 128, b) := rfl
def numP (most : Nat) (b : List UInt8) : Option (Nat × List UInt8) :=
  match b with
  | [] => none
  | c :: r => if c.toNat = 128 then none else numGo most 6 0 (c :: r)
theorem hiL_len : ∀ (f n : Nat), (hiL f n).length ≤ f
  | 0, _ => Nat.le_refl _
  | f + 1, n => by
    unfold hiL
    split
    · simp
    · have := hiL_len f (n / 128)
      simp; omega
theorem hiL_bound : ∀ (f n : Nat), n < 128 ^ f → hiL f n = hiL (f + 1) n
  | 0, n, h => by
    have : n = 0 := by simpa using h
    subst this; rfl
  | f + 1, n, h => by
    by_cases h0 : n = 0
    · subst h0; rfl
    · rw [hiL, hiL, if_neg h0, if_neg h0, hiL_bound f (n / 128) (Nat.div_lt_of_lt_mul (by rw [Nat.pow_succ] at h; omega))]
theorem toNat_ofNat_lt {n : Nat} (h : n < 256) : (UInt8.ofNat n).toNat = n := by rw [UInt8.toNat_ofNat']; omega
/-- Reading goes through the digits ahead. -/
theorem numGo_hi (most : Nat) : ∀ (f n : Nat) (g m : Nat) (r : List UInt8), n < 128 ^ f → (hiL f n).length ≤ g →
    numGo most g m (hiL f n ++ r) = numGo most (g - (hiL f n).length) (m * 128 ^ (hiL f n).length + n) r
  | 0, n, g, m, r, h, _ => by
    have : n = 0 := by simpa using h
    subst this
    simp [hiL]
  | f + 1, n, g, m, r, h, hg => by
    by_cases h0 : n = 0
    · subst h0; simp [hiL]
    · have hd : n / 128 < 128 ^ f := Nat.div_lt_of_lt_mul (by rw [Nat.pow_succ] at h; omega)
      have e : hiL (f + 1) n = hiL f (n / 128) ++ [UInt8.ofNat (n % 128 + 128)] := by rw [hiL, if_neg h0]
      rw [e] at hg ⊢
      simp only [List.length_append, List.length_cons, List.length_nil, Nat.zero_add] at hg ⊢
      rw [List.append_assoc, numGo_hi most f (n / 128) g m _ hd (by omega)]
      obtain ⟨k, hk⟩ : ∃ k, g - (hiL f (n / 128)).length = k + 1 := ⟨g - (hiL f (n / 128)).length - 1, by omega⟩
      rw [hk, List.singleton_append, numGo_cons]
      have h1 : (UInt8.ofNat (n % 128 + 128)).toNat = n % 128 + 128 := toNat_ofNat_lt (by omega)
      have e3 : (m * 128 ^ (hiL f (n / 128)).length + n / 128) * 128 + (n % 128 + 128) % 128 = m * 128 ^ ((hiL f (n / 128)).length + 1) + n := by
        rw [Nat.pow_succ, ← Nat.mul_assoc, Nat.add_mul]
        omega
      rw [h1, if_pos (by omega), show g - ((hiL f (n / 128)).length + 1) = k by omega, e3]
theorem hiL_head : ∀ (f n : Nat), n < 128 ^ f → ∀ c r, hiL f n = c :: r → 128 < c.toNat
  | 0, n, _, c, r, e => by simp [hiL] at e
  | f + 1, n, h, c, r, e => by
    unfold hiL at e
    split at e
    · simp at e
    · rename_i h0
      have hd : n / 128 < 128 ^ f := Nat.div_lt_of_lt_mul (by rw [Nat.pow_succ] at h; omega)
      cases hh : hiL f (n / 128) with
      | nil =>
        rw [hh] at e
        simp only [List.nil_append, List.cons.injEq] at e
        have hz : n / 128 = 0 := by
          cases f with
          | zero => simpa using hd
          | succ f =>
            apply Classical.byContradiction
            intro hne
            rw [hiL, if_neg hne] at hh
            simp at hh
        rw [← e.1, toNat_ofNat_lt (by omega)]
        omega
      | cons d s =>
        rw [hh] at e
        simp only [List.cons_append, List.cons.injEq] at e
        rw [← e.1]
        exact hiL_head f _ hd d s hh
theorem num_lt {n : Nat} (h : n ≤ 1099511627776) : n / 128 < 128 ^ 5 := by
  have : (128 : Nat) ^ 5 = 34359738368 := by decide
  omega
theorem hi_len5 {n : Nat} (h : n ≤ 1099511627776) : (hiL 6 (n / 128)).length ≤ 5 := by
  rw [← hiL_bound 5 _ (num_lt h)]
  exact hiL_len 5 _
/-- What is laid is read as it was. -/
theorem numP_numL {n most : Nat} (h : n ≤ 1099511627776) (hm : n ≤ most) (r : List UInt8) : numP most (numL n ++ r) = some (n, r) := by
  have hb : n / 128 < 128 ^ 6 := Nat.lt_of_lt_of_le (num_lt h) (Nat.pow_le_pow_right (by decide) (by decide))
  have hgo : numGo most 6 0 (numL n ++ r) = some (n, r) := by
    unfold numL
    rw [List.append_assoc, numGo_hi most 6 (n / 128) 6 0 _ hb (by have := hi_len5 h; omega)]
    obtain ⟨k, hk⟩ : ∃ k, 6 - (hiL 6 (n / 128)).length = k + 1 := ⟨6 - (hiL 6 (n / 128)).length - 1, by have := hi_len5 h; omega⟩
    rw [hk, List.singleton_append, Nat.zero_mul, Nat.zero_add, numGo_cons]
    rw [toNat_ofNat_lt (by omega), if_neg (by omega), Nat.mod_mod, Nat.mul_comm, Nat.div_add_mod, if_neg (by omega)]
  unfold numP
  cases hc : numL n ++ r with
  | nil => unfold numL at hc; simp at hc
  | cons c s =>
    rw [← hc]
    simp only [hc]
    rw [if_neg, ← hc, hgo]
    unfold numL at hc
    cases hh : hiL 6 (n / 128) with
    | nil =>
      rw [hh] at hc
      simp only [List.nil_append, List.cons_append, List.cons.injEq] at hc
      rw [← hc.1, toNat_ofNat_lt (by omega)]
      omega
    | cons d t =>
      rw [hh] at hc
      simp only [List.cons_append, List.cons.injEq] at hc
      have := hiL_head 6 _ hb d t hh
      rw [← hc.1]
      omega
/-- What is read was laid so. -/
theorem numGo_inv (most : Nat) : ∀ (g m : Nat) (b : List UInt8) (n : Nat) (r : List UInt8), numGo most g m b = some (n, r) →
    n ≤ most ∧ ∃ ds : List UInt8, ∃ c : UInt8, b = ds ++ c :: r ∧ c.toNat < 128 ∧ ds.length < g ∧ (∀ d ∈ ds, 128 ≤ d.toNat) ∧ n = (ds.foldl (fun a d => a * 128 + d.toNat % 128) m) * 128 + c.toNat
  | 0, m, b, n, r, h => by simp [numGo] at h
  | g + 1, m, [], n, r, h => by simp [numGo] at h
  | g + 1, m, c :: b, n, r, h => by
    rw [numGo_cons] at h
    split at h
    · rename_i hc
      obtain ⟨h1, ds, c', h2, h3, h4, h5, h6⟩ := numGo_inv most g _ b n r h
      refine ⟨h1, c :: ds, c', by rw [h2]; rfl, h3, by simp; omega, fun d hd => ?_, h6⟩
      rcases List.mem_cons.1 hd with rfl | hd
      · exact hc
      · exact h5 d hd
    · rename_i hc
      split at h
      · cases h
      · rename_i hm
        cases h
        exact ⟨by omega, [], c, rfl, by omega, by simp, by simp, by simp; omega⟩
theorem fold_hi : ∀ (f : Nat) (ds : List UInt8), ds.length ≤ f → (∀ d ∈ ds, 128 ≤ d.toNat) → (∀ d r, ds = d :: r → d.toNat ≠ 128) → hiL f (ds.foldl (fun a d => a * 128 + d.toNat % 128) 0) = ds
  | f, ds, hf, hall, hhd => by
    induction f generalizing ds with
    | zero =>
      have : ds = [] := List.eq_nil_of_length_eq_zero (by omega)
      subst this; rfl
    | succ f ih =>
      rcases List.eq_nil_or_concat ds with rfl | ⟨ds', c, rfl⟩
      · rfl
      · rw [List.concat_eq_append] at *
        rw [List.foldl_append]
        simp only [List.foldl_cons, List.foldl_nil]
        have hc := hall c (by simp)
        have hc2 : c.toNat < 256 := c.toNat_lt
        have hdiv : (ds'.foldl (fun a d => a * 128 + d.toNat % 128) 0 * 128 + c.toNat % 128) / 128 = ds'.foldl (fun a d => a * 128 + d.toNat % 128) 0 := by omega
        have hmod : (ds'.foldl (fun a d => a * 128 + d.toNat % 128) 0 * 128 + c.toNat % 128) % 128 + 128 = c.toNat := by omega
        have hne : ds'.foldl (fun a d => a * 128 + d.toNat % 128) 0 * 128 + c.toNat % 128 ≠ 0 := by
          intro h0
          have h1 : ds'.foldl (fun a d => a * 128 + d.toNat % 128) 0 = 0 := by omega
          have h2 := ih ds' (by simp at hf; omega) (fun d hd => hall d (by simp [hd])) (fun d r e => hhd d (r ++ [c]) (by rw [e]; rfl))
          rw [h1] at h2
          have h3 : ds' = [] := by
            cases f with
            | zero => exact h2.symm
            | succ f => rw [hiL, if_pos rfl] at h2; exact h2.symm
          subst h3
          exact hhd c [] rfl (by simp at h0; omega)
        rw [hiL, if_neg hne, hdiv, hmod, ih ds' (by simp at hf; omega) (fun d hd => hall d (by simp [hd])) (fun d r e => hhd d (r ++ [c]) (by rw [e]; rfl))]
        congr 2
        exact UInt8.ofNat_toNat
theorem numL_numP {most : Nat} {b : List UInt8} {n : Nat} {r : List UInt8} (h : numP most b = some (n, r)) : n ≤ most ∧ b = numL n ++ r := by
  unfold numP at h
  split at h
  · cases h
  · rename_i c0 b0
    split at h
    · cases h
    · rename_i h128
      obtain ⟨h1, ds, c, h2, h3, h4, h5, h6⟩ := numGo_inv most 6 0 _ n r h
      refine ⟨h1, ?_⟩
      have hds := fold_hi 6 ds (by omega) h5 (fun d s e => by
        subst e
        rw [List.cons_append, List.cons.injEq] at h2
        rw [← h2.1]; exact h128)
      unfold numL
      rw [h6, h2]
      rw [show (ds.foldl (fun a d => a * 128 + d.toNat % 128) 0 * 128 + c.toNat) / 128 = ds.foldl (fun a d => a * 128 + d.toNat % 128) 0 by omega, hds,
        show (ds.foldl (fun a d => a * 128 + d.toNat % 128) 0 * 128 + c.toNat) % 128 = c.toNat by omega, UInt8.ofNat_toNat, List.append_assoc]
      rfl
/-- A text behind its length. -/
def textL (s : List UInt8) : List UInt8 := numI s.length ++ s
def textP (most : Nat) (b : List UInt8) : Option (List UInt8 × List UInt8) :=
  match numP most b with
  | none => none
  | some (n, r) => if r.length < n then none else some (r.take n, r.drop n)
end Go.Proofs.YtgkmcnafkhdlnaaGreat
/- Small things. -/
namespace Go.Proofs.YtgkmcnafkhdlnaaGreat
open Go
theorem inI64 {n : Int} (h1 : -9223372036854775808 ≤ n) (h2 : n ≤ 9223372036854775807) : inI .i64 n := ⟨h1, h2⟩
theorem hide_mono {V V' : View} (h : V.Le V') (p : Nat) : (V.hide p).Le (V'.hide p) := by
  refine ⟨h.size, fun i o ho => ?_, h.out⟩
  unfold View.hide at *
  simp only at *
  split at ho
  · cases ho
  · rename_i hne; rw [if_neg hne]; exact h.see i o ho
theorem hide_see (V : View) (p i : Nat) : (V.hide p).see i = if i = p then none else V.see i := rfl
theorem hide_minus_see (V : View) (p : Nat) (x : Sl) (i : Nat) : ((V.hide p).minus x).see i = if i = p then none else (V.minus x).see i := by
  unfold View.minus
  split
  · rfl
  · simp only [hide_see]
    split <;> split <;> rfl
theorem minus_hide_le (V : View) (p : Nat) (x : Sl) : ((V.hide p).minus x).Le ((V.minus x).hide p) := by
  refine ⟨by unfold View.minus; split <;> exact Nat.le_refl _, fun i o ho => ?_, by unfold View.minus; split <;> rfl⟩
  rw [hide_minus_see] at ho
  rw [hide_see]; exact ho
theorem hide_minus_le (V : View) (p : Nat) (x : Sl) : ((V.minus x).hide p).Le ((V.hide p).minus x) := by
  refine ⟨by unfold View.minus; split <;> exact Nat.le_refl _, fun i o ho => ?_, by unfold View.minus; split <;> rfl⟩
  rw [hide_minus_see]
  rw [hide_see] at ho; exact ho
/-- A block beside a row of one's own is seen when that row is not. -/
theorem Buf.see_minus {V : View} {p : Nat} {o : Obj} {x : Sl} {e : TypeId} {sz : Nat} {cs : List Value} (h : Buf (V.hide p) x e sz cs) (ho : V.see p = some o) : (V.minus x).see p = some o := by
  unfold View.minus
  rcases h.own with ⟨ha, _⟩ | ⟨b, all, ha, hs, _⟩
  · rw [ha]; exact ho
  · rw [ha, hide_see]
    rw [hide_see] at hs
    split at hs
    · cases hs
    · rename_i hne; rw [if_neg (fun e => hne e.symm)]; exact ho
theorem Buf.hide {V : View} {p : Nat} {o : Obj} {x : Sl} {e : TypeId} {sz : Nat} {cs : List Value} (h : Buf V x e sz cs) (ho : (V.minus x).see p = some o) : Buf (V.hide p) x e sz cs := by
  refine ⟨h.len, h.le, h.lim, ?_⟩
  rcases h.own with h1 | ⟨b, all, ha, hs, h3⟩
  · exact .inl h1
  · refine .inr ⟨b, all, ha, ?_, h3⟩
    rw [hide_see]
    unfold View.minus at ho
    rw [ha, hide_see] at ho
    split at ho
    · cases ho
    · rename_i hne; rw [if_neg (fun e => hne e.symm)]; exact hs
theorem put_minus_le {V : View} {x : Sl} {r : Nat} {o : Obj} (h : V.see r = none) : (V.minus x).Le ((V.put r o).minus x) := minus_mono (View.put_le h) x
theorem Buf.put {V : View} {x : Sl} {e : TypeId} {sz : Nat} {cs : List Value} (h : Buf V x e sz cs) {r : Nat} {o : Obj} (hr : V.see r = none) : Buf (V.put r o) x e sz cs := h.mono (View.put_le hr)
/-- The first ones of a row of one's own. -/
theorem Buf.cut {V : View} {x : Sl} {e : TypeId} {sz : Nat} {cs : List Value} (h : Buf V x e sz cs) {k : Nat} (hk : k ≤ x.n) : Buf V ⟨x.a, k, x.c⟩ e sz (cs.take (k * sz)) := by
  have hle := Nat.mul_le_mul_right sz hk
  refine ⟨by simp only [List.length_take, h.len, Nat.min_eq_left hle], Nat.le_trans hk h.le, Nat.le_trans hk h.lim, ?_⟩
  rcases h.own with h1 | ⟨r, all, h1, h2, h3, h4⟩
  · exact .inl h1
  · refine .inr ⟨r, all, h1, h2, h3, ?_⟩
    rw [← h4, List.take_take, Nat.min_eq_left hle]
/-- What is appended, beside a block of one's own. -/
theorem apV_beside {V V0 : View} {p : Nat} {o : Obj} {e : TypeId} {sz bytes : Nat} {zero : List Value} {x : Sl} {y : Value} {C : Sl → View → Prop} {cs src : List Value} {m : Nat} (hz : zero.length = sz)
    (ho : V.see p = some o) (hb : Buf (V.hide p) x e sz cs) (hle : V0.Le ((V.hide p).minus x)) (hs : srcAt V sz zero y m src) (hl : src.length = m * sz) (h1 : src.all Value.oneCell' = true) (hm : (x.n + m) * bytes ≤ 140737488355328) (hm2 : x.n + m ≤ 140737488355328)
    (hC : ∀ s V', V'.see p = some o → Buf (V'.hide p) s e sz (cs ++ src) → V0.Le ((V'.hide p).minus s) → s.n = x.n + m → C s V') : apV V e sz bytes zero x y C := by
  refine apV_buf hz (hb.mono (View.hide_le V p)) hs hl h1 hm hm2 fun s V' hb' hn hle' => ?_
  have h2 := hle'.see _ _ (hb.see_minus ho)
  refine hC s V' ((View.minus_le V' s).see _ _ h2) (hb'.hide h2) ?_ hn
  exact hle.trans ((minus_hide_le V p x).trans ((hide_mono hle' p).trans (hide_minus_le V' p s)))
theorem Buf.n_eq {α : Type} [Rep α] {W V : View} {x : Sl} {e : TypeId} {cs : List Value} {l : List α} (h : Buf V x e (Rep.sz α) cs) (hr : repL W cs l) : x.n = l.length :=
  Nat.eq_of_mul_eq_mul_right (Rep.pos (α := α)) (h.len.symm.trans hr.len)
/-- The cells of a new block, as a row. -/
theorem rowAt_new {V : View} {r : Nat} {cs : List Value} {e : TypeId} {f : Nat × Nat} (h : V.see r = some (.cells ⟨cs⟩ e f)) {k : Nat} (hk : cs.length = k) : rowAt V (some ⟨r, 0, none⟩) k cs :=
  ⟨hk, cellsAt_of_see h fun j v hj => by simpa using hj⟩
theorem put_le_hide {V U : View} {r : Nat} {o : Obj} (hr : V.see r = none) (h : U.Le V) : U.Le ((V.put r o).hide r) :=
  h.trans ⟨Nat.le_max_left _ _, fun i o' ho => by
    have hne : i ≠ r := fun e => by rw [e, hr] at ho; cases ho
    rw [hide_see, if_neg hne, View.see_put_ne V _ hne]; exact ho, rfl⟩
end Go.Proofs.YtgkmcnafkhdlnaaGreat
